/-
  Part 4 of a proof: NarrowTypes: for every input the law returns true, and what it was given reads behind the call as before. No conditions.
-/
import Derived.Test.YtoacjncdnnkbaaaP3
import Derived.KernelRfl
namespace Go.Ev
set_option linter.unusedVariables false
set_option linter.unusedSimpArgs false
open Go
def zeroT : Ty := ⟨false, 0, 0, [], 0, []⟩
def allT : Ty := ⟨true, 0, 0, [], 0, []⟩
def listT (x : Ty) : Ty := ⟨false, 16, 2, [x], 0, []⟩
def pairT (x y : Ty) : Ty := ⟨false, 0, 1, [x, y], 0, []⟩
theorem okT_facts {t : Ty} (h : okT t = true) : (0 ≤ t.flat ∧ t.flat ≤ 63) ∧ (0 ≤ t.pair ∧ t.pair ≤ 2) ∧ (0 ≤ t.fn ∧ t.fn ≤ 2) ∧ (t.all = true → t = allT) ∧ (t.pair = 0 → t.pairs = []) ∧ (t.pair = 1 → ∃ x y, t.pairs = [x, y]) ∧ (t.pair = 2 → ∃ x, t.pairs = [x]) ∧
    (t.fn = 1 → 1 ≤ t.funs.length ∧ t.funs.length ≤ 9) ∧ (t.fn ≠ 1 → t.funs = []) := by
  unfold okT at h
  simp only [Bool.and_eq_true, decide_eq_true_eq] at h
  obtain ⟨⟨⟨⟨⟨⟨⟨⟨h1, h2⟩, h3⟩, h4⟩, h5⟩, h6⟩, h7⟩, h8⟩, h9⟩ := h
  have p0 : t.pair = 0 → t.pairs = [] := by
    intro h; rw [h] at h8; exact List.length_eq_zero_iff.1 (by simpa [pcnt] using h8)
  have f1 : t.fn ≠ 1 → t.funs = [] := by
    intro h; rw [if_neg h] at h9; exact List.length_eq_zero_iff.1 (by simpa using h9)
  refine ⟨⟨h1, h2⟩, ⟨h3, h4⟩, ⟨h5, h6⟩, ?_, p0, ?_, ?_, ?_, f1⟩
  · intro ha
    simp only [ha, Bool.not_true, Bool.false_or, Bool.and_eq_true, decide_eq_true_eq] at h7
    have q1 := p0 h7.1.2
    have q2 := f1 (by rw [h7.2]; decide)
    cases t with | mk a f p ps g gs =>
    simp only [Ty.all, Ty.flat, Ty.pair, Ty.fn, Ty.pairs, Ty.funs] at *
    rw [ha, h7.1.1, h7.1.2, h7.2, q1, q2]; rfl
  · intro h; rw [h] at h8
    have h8' : t.pairs.length = 2 := by simp [pcnt] at h8; omega
    exact len2 h8'
  · intro h; rw [h] at h8
    have h8' : t.pairs.length = 1 := by simp [pcnt] at h8; omega
    exact len1 h8'
  · intro h; rw [if_pos h] at h9; simpa using h9
def Rt (t : Ty) : Prop := ∃ d, rightT t d = true
theorem Rt.ok {t : Ty} (h : Rt t) : okT t = true := by
  obtain ⟨d, h⟩ := h
  cases d with
  | zero => rw [rightT_zero] at h; cases h
  | succ d => rw [rightT_succ] at h; simp only [Bool.and_eq_true] at h; exact h.1.1
theorem Rt.pairs {t x : Ty} (h : Rt t) (hx : x ∈ t.pairs) : Rt x := by
  obtain ⟨d, h⟩ := h
  cases d with
  | zero => rw [rightT_zero] at h; cases h
  | succ d => rw [rightT_succ] at h; simp only [Bool.and_eq_true] at h; exact ⟨d, rightTs_mem h.1.2 hx⟩
theorem Rt.funs {t x : Ty} (h : Rt t) (hx : x ∈ t.funs) : Rt x := by
  obtain ⟨d, h⟩ := h
  cases d with
  | zero => rw [rightT_zero] at h; cases h
  | succ d => rw [rightT_succ] at h; simp only [Bool.and_eq_true] at h; exact ⟨d, rightTs_mem h.2 hx⟩
theorem Rt.list {x : Ty} (h : Rt x) : Rt (listT x) := by
  obtain ⟨d, h⟩ := h
  refine ⟨d + 1, ?_⟩
  rw [rightT_succ]
  simp [listT, okT, Ty.all, Ty.flat, Ty.pair, Ty.pairs, Ty.fn, Ty.funs, pcnt, rightTs, h]
theorem Rt.all : Rt allT := ⟨1, by rfl⟩
theorem Rt.zero : Rt zeroT := ⟨1, by rfl⟩
theorem WfT.flat {t : Ty} (h : WfT t) : -9223372036854775808 ≤ t.flat ∧ t.flat < 9223372036854775808 := by cases h; assumption
theorem WfT.pairs {t x : Ty} (h : WfT t) (hx : x ∈ t.pairs) : WfT x := by cases h with | mk w1 w2 w3 w4 w5 w6 w7 => exact w6 x hx
theorem WfT.funs {t x : Ty} (h : WfT t) (hx : x ∈ t.funs) : WfT x := by cases h with | mk w1 w2 w3 w4 w5 w6 w7 => exact w7 x hx
theorem WfT.list {x : Ty} (h : WfT x) : WfT (listT x) := by
  refine .mk (by simp [listT, Ty.flat]) (by simp [listT, Ty.pair]) (by simp [listT, Ty.fn]) (by simp [listT, Ty.pairs]) (by simp [listT, Ty.funs]) ?_ (by simp [listT, Ty.funs])
  intro y hy
  simp [listT, Ty.pairs] at hy
  subst hy; exact h
theorem WfT.zero : WfT zeroT := .mk (by simp [zeroT, Ty.flat]) (by simp [zeroT, Ty.pair]) (by simp [zeroT, Ty.fn]) (by simp [zeroT, Ty.pairs]) (by simp [zeroT, Ty.funs]) (by simp [zeroT, Ty.pairs]) (by simp [zeroT, Ty.funs])
theorem WfT.allT : WfT allT := .mk (by simp [Ev.allT, Ty.flat]) (by simp [Ev.allT, Ty.pair]) (by simp [Ev.allT, Ty.fn]) (by simp [Ev.allT, Ty.pairs]) (by simp [Ev.allT, Ty.funs]) (by simp [Ev.allT, Ty.pairs]) (by simp [Ev.allT, Ty.funs])
def carT (t : Ty) : Ty := if t.all then t else if t.pair = 0 then zeroT else t.pairs.headD zeroT
def cdrT (t : Ty) : Ty := if t.all then t else if t.pair = 0 then zeroT else if t.pair = 2 then listT (t.pairs.headD zeroT) else (t.pairs[1]?).getD zeroT
def subF (a b : Int) : Bool := a.toNat &&& b.toNat == a.toNat
def subT : Nat → Ty → Ty → Bool
  | 0, _, _ => false
  | k + 1, a, b =>
    if b.all then true
    else if a.all || !subF a.flat b.flat || (!decide (a.pair = 0) && decide (b.pair = 0)) || (!decide (a.fn = 0) && decide (b.fn = 0)) then false
    else
      let is := if a.pair = 0 then true else subT k (carT a) (carT b) && (if a.pair = 2 ∧ b.pair = 2 then true else subT k (cdrT a) (cdrT b))
      if a.fn = 0 ∨ b.fn = 2 then is
      else if a.fn = 2 ∨ b.funs.length ≠ a.funs.length then false
      else is && (List.range (a.funs.length - 1)).all (fun i => subT k (b.funs.getD i zeroT) (a.funs.getD i zeroT)) && subT k (a.funs.getD (a.funs.length - 1) zeroT) (b.funs.getD (a.funs.length - 1) zeroT)
def flatT (f : Int) : Ty := ⟨false, f, 0, [], 0, []⟩
end Go.Ev
namespace Go.Ev
set_option linter.unusedVariables false
set_option linter.unusedSimpArgs false
open Go
inductive Co where
  | mk (flat : Nat → Int) (pair plab : Int) (pairs : List Co) (fn flab : Int) (funs : List Co)
namespace Co
def flat : Co → Nat → Int | mk a _ _ _ _ _ _ => a
def pair : Co → Int | mk _ a _ _ _ _ _ => a
def plab : Co → Int | mk _ _ a _ _ _ _ => a
def pairs : Co → List Co | mk _ _ _ a _ _ _ => a
def fn : Co → Int | mk _ _ _ _ a _ _ => a
def flab : Co → Int | mk _ _ _ _ _ a _ => a
def funs : Co → List Co | mk _ _ _ _ _ _ a => a
end Co
def es0 (w i : Nat) : Nat := if i = 0 then 0 else w
end Go.Ev
namespace Go.Ev
set_option linter.unusedVariables false
open Go
inductive Dt where
  | mk (kind : Int) (text : List UInt8) (list : List Dt)
namespace Dt
def kind : Dt → Int | mk a _ _ => a
def text : Dt → List UInt8 | mk _ a _ => a
def list : Dt → List Dt | mk _ _ a => a
end Dt
structure Fct where
  var : Int
  tags : Int
def cFct (x : Fct) : List AVal := [.int .i64 x.var, .int .i64 x.tags]
def encFct (x : Fct) : AVal := .agg (cFct x)
theorem encFct_eq (x : Fct) : encFct x = .agg (cFct x) := rfl
theorem encFct_flat (x : Fct) : (encFct x).flat = cFct x := rfl
theorem encFct_w1 (x : Fct) : (encFct x).width = 2 := rfl
structure Fts where
  never : Bool
  l : List Fct
def cFts (x : Fts) : List AVal := [.bool x.never, .lst (x.l.map encFct) false]
abbrev vFts (x : Fts) : AVal := .agg (cFts x)
inductive Tst where
  | mk (op : Int) (var : Int) (tags : Int) (yes : Bool) (of : List Tst)
namespace Tst
def op : Tst → Int | mk a _ _ _ _ => a
def var : Tst → Int | mk _ a _ _ _ => a
def tags : Tst → Int | mk _ _ a _ _ => a
def yes : Tst → Bool | mk _ _ _ a _ => a
def of : Tst → List Tst | mk _ _ _ _ a => a
end Tst
inductive Vl where
  | mk (tag : Int) (of : List Vl)
namespace Vl
def tag : Vl → Int | mk a _ => a
def of : Vl → List Vl | mk _ a => a
end Vl
inductive Bnd where
  | mk (name : List UInt8) (depth : Int) (d : Dt) (row : List Bnd)
namespace Bnd
def name : Bnd → List UInt8 | mk a _ _ _ => a
def depth : Bnd → Int | mk _ a _ _ => a
def d : Bnd → Dt | mk _ _ a _ => a
def row : Bnd → List Bnd | mk _ _ _ a => a
end Bnd
end Go.Ev
namespace Go.Ev.Seat
open Go Go.Ev
def flatT : Ty := .mk false 63 0 [] 0 []
def pairT : Ty := .mk false 0 1 [.mk true 0 0 [] 0 [], .mk true 0 0 [] 0 []] 0 []
def bothT : Ty := .mk false 63 1 [.mk true 0 0 [] 0 [], .mk true 0 0 [] 0 []] 0 []
open Classical in
noncomputable def oJoin (a b : Ty) : Option Ty := if a = flatT ∧ b = pairT then some bothT else none
attribute [local irreducible] pcall callF
theorem oJoin_ok {a b r : Ty} (h : oJoin a b = some r) : PRes (tabOf tabL) 31 [.agg (cT a), .agg (cT b)] (.agg (cT r)) := by
  unfold oJoin at h
  split at h
  · rename_i hc
    obtain ⟨rfl, rfl⟩ := hc
    cases h
    exact .of_lt 200 fun n hn => by
      obtain ⟨n, rfl⟩ : ∃ m, n = m + 60 := ⟨n - 60, by omega⟩
      exact (show pcall (tabOf tabL) (n + 60) 31 [.agg (cT flatT), .agg (cT pairT)] = some (.ok (.agg (cT bothT))) by kernel_rfl)
  · cases h
end Go.Ev.Seat
namespace Go.Ev.Seat
set_option linter.unusedVariables false
set_option linter.unusedSimpArgs false
open Go Go.Ev
set_option maxRecDepth 20000
attribute [local irreducible] pcall callF
noncomputable def g_narrow_Tags_j1 (t1 : Ty) (a2 : Int) : Option Int :=
  (cond (!decide (t1.fn = 0)) (cond t1.all (some 255) (some (orB .i64 a2 128))) (cond t1.all (some 255) (some a2)))
noncomputable def g_narrow_Tags (t1 : Ty) : Option Int :=
  (cond (!decide (t1.pair = 0)) (g_narrow_Tags_j1 t1 (orB .i64 t1.flat 64)) (g_narrow_Tags_j1 t1 t1.flat))
abbrev kg01 (t1 : Ty) : ABlock := .cells [.bool t1.all, .int .i64 t1.flat, .int .i64 t1.pair, .lst (List.map encT t1.pairs) false, .int .i64 t1.fn, .lst (List.map encT t1.funs) false]
theorem g_narrow_Tags_ok {t1 : Ty} {r : Int} (hr : g_narrow_Tags t1 = some r) : PRes (tabOf tabL) 22 [.agg (cT t1)] (.int .i64 r) := by
  refine pres_fin t22 ?_
  unfold g_narrow_Tags at hr
  refine L_seq ?_
  refine L_stmt ?_
  refine L_reg ?_
  refine G_n (B := (kg01 t1)) rfl rfl rfl ?_
  refine G_p rfl rfl rfl ?_
  refine G_nil ?_
  refine L_nil ?_
  refine Sm_norm (e2 := [(1, .ptr 0 0)]) (H1 := [(kg01 t1)]) (H2 := [(kg01 t1)]) rfl (by repeat (first | exact rzz | apply rcc rfl | apply rnn rfl)) rfl (?_ : GL _ _ _ _ _)
  refine L_seq ?_
  refine L_stmt ?_
  refine L_reg ?_
  refine G_p rfl rfl rfl ?_
  refine G_h rfl rfl rfl (fun _ => rfl) ?_
  refine G_p rfl rfl rfl ?_
  refine G_nil ?_
  refine L_nil ?_
  refine Sm_norm (e2 := [(1, .ptr 0 0), (3, .int .i64 t1.flat)]) (H1 := [(kg01 t1)]) (H2 := [(kg01 t1)]) rfl (by repeat (first | exact rzz | apply rcc rfl | apply rnn rfl)) rfl (?_ : GL _ _ _ _ _)
  refine L_seq ?_
  refine L_stmtJ (S := Int) (fun s => [(1, .ptr 0 0), (3, .int .i64 s)]) (fun s => [(kg01 t1)]) (fun s => g_narrow_Tags_j1 t1 s = some r) ?_ ?_
  · skip
    refine L_seq ?_
    refine L_stmt ?_
    refine L_reg ?_
    refine G_p rfl rfl rfl ?_
    refine G_h rfl rfl rfl (fun _ => rfl) ?_
    refine G_p rfl rfl rfl ?_
    refine G_nil ?_
    refine L_nil ?_
    refine Sm_norm (e2 := [(1, .ptr 0 0), (3, .int .i64 t1.flat), (8, .bool (!decide (t1.pair = 0)))]) (H1 := [(kg01 t1)]) (H2 := [(kg01 t1)]) rfl (by repeat (first | exact rzz | apply rcc rfl | apply rnn rfl)) rfl (?_ : GL _ _ _ _ _)
    rcases cond_s hr with ⟨hc8, hr⟩ | ⟨hc8, hr⟩
    · refine L_T rfl hc8 ?_
      refine L_reg ?_
      refine G_p rfl rfl rfl ?_
      refine G_p rfl rfl rfl ?_
      refine G_p rfl rfl rfl ?_
      refine G_nil ?_
      refine L_nil ?_
      exact Sm_norm (e2 := [(1, .ptr 0 0), (3, .int .i64 (orB .i64 t1.flat 64))]) (H1 := [(kg01 t1)]) (H2 := [(kg01 t1)]) rfl (by repeat (first | exact rzz | apply rcc rfl | apply rnn rfl)) rfl ⟨(orB .i64 t1.flat 64), rfl, rfl, hr⟩
    · refine L_F rfl hc8 ?_
      refine L_skip ?_
      refine L_nil ?_
      exact Sm_norm (e2 := [(1, .ptr 0 0), (3, .int .i64 t1.flat)]) (H1 := [(kg01 t1)]) (H2 := [(kg01 t1)]) rfl (by repeat (first | exact rzz | apply rcc rfl | apply rnn rfl)) rfl ⟨t1.flat, rfl, rfl, hr⟩
  · rintro a2 hr
    show GL _ _ [(1, .ptr 0 0), (3, .int .i64 a2)] [(kg01 t1)] _
    replace hr : g_narrow_Tags_j1 t1 a2 = some r := hr
    unfold g_narrow_Tags_j1 at hr
    refine L_seq ?_
    refine L_stmt ?_
    refine L_seq ?_
    refine L_stmt ?_
    refine L_reg ?_
    refine G_p rfl rfl rfl ?_
    refine G_h rfl rfl rfl (fun _ => rfl) ?_
    refine G_p rfl rfl rfl ?_
    refine G_nil ?_
    refine L_nil ?_
    refine Sm_norm (e2 := [(1, .ptr 0 0), (3, .int .i64 a2), (13, .bool (!decide (t1.fn = 0)))]) (H1 := [(kg01 t1)]) (H2 := [(kg01 t1)]) rfl (by repeat (first | exact rzz | apply rcc rfl | apply rnn rfl)) rfl (?_ : GL _ _ _ _ _)
    rcases cond_s hr with ⟨hc13, hr⟩ | ⟨hc13, hr⟩
    · refine L_T rfl hc13 ?_
      refine L_reg ?_
      refine G_p rfl rfl rfl ?_
      refine G_p rfl rfl rfl ?_
      refine G_p rfl rfl rfl ?_
      refine G_nil ?_
      refine L_nil ?_
      refine Sm_norm (e2 := [(1, .ptr 0 0), (3, .int .i64 (orB .i64 a2 128))]) (H1 := [(kg01 t1)]) (H2 := [(kg01 t1)]) rfl (by repeat (first | exact rzz | apply rcc rfl | apply rnn rfl)) rfl (?_ : GL _ _ _ _ _)
      refine L_seq ?_
      refine L_stmt ?_
      refine L_seq ?_
      refine L_stmt ?_
      refine L_reg ?_
      refine G_p rfl rfl rfl ?_
      refine G_h rfl rfl rfl (fun _ => rfl) ?_
      refine G_nil ?_
      refine L_nil ?_
      refine Sm_norm (e2 := [(3, .int .i64 (orB .i64 a2 128)), (17, .bool t1.all)]) (H1 := [(kg01 t1)]) (H2 := [(kg01 t1)]) rfl (by repeat (first | exact rzz | apply rcc rfl | apply rnn rfl)) rfl (?_ : GL _ _ _ _ _)
      rcases cond_s hr with ⟨hc17, hr⟩ | ⟨hc17, hr⟩
      · refine L_T rfl hc17 ?_
        refine L_reg ?_
        refine G_p rfl rfl rfl ?_
        refine G_nil ?_
        refine L_nil ?_
        refine Sm_norm (e2 := [(3, .int .i64 255)]) (H1 := [(kg01 t1)]) (H2 := [(kg01 t1)]) rfl (by repeat (first | exact rzz | apply rcc rfl | apply rnn rfl)) rfl (?_ : GL _ _ _ _ _)
        refine L_seq ?_
        refine L_reg ?_
        refine G_p rfl rfl rfl ?_
        refine G_p rfl rfl rfl ?_
        refine G_nil ?_
        refine L_ret ?_
        have hr := some_s hr
        subst hr
        exact ⟨_, rfl, _, rfl, rfl⟩
      · refine L_F rfl hc17 ?_
        refine L_skip ?_
        refine L_nil ?_
        refine Sm_norm (e2 := [(3, .int .i64 (orB .i64 a2 128))]) (H1 := [(kg01 t1)]) (H2 := [(kg01 t1)]) rfl (by repeat (first | exact rzz | apply rcc rfl | apply rnn rfl)) rfl (?_ : GL _ _ _ _ _)
        refine L_seq ?_
        refine L_reg ?_
        refine G_p rfl rfl rfl ?_
        refine G_p rfl rfl rfl ?_
        refine G_nil ?_
        refine L_ret ?_
        have hr := some_s hr
        subst hr
        exact ⟨_, rfl, _, rfl, rfl⟩
    · refine L_F rfl hc13 ?_
      refine L_skip ?_
      refine L_nil ?_
      refine Sm_norm (e2 := [(1, .ptr 0 0), (3, .int .i64 a2)]) (H1 := [(kg01 t1)]) (H2 := [(kg01 t1)]) rfl (by repeat (first | exact rzz | apply rcc rfl | apply rnn rfl)) rfl (?_ : GL _ _ _ _ _)
      refine L_seq ?_
      refine L_stmt ?_
      refine L_seq ?_
      refine L_stmt ?_
      refine L_reg ?_
      refine G_p rfl rfl rfl ?_
      refine G_h rfl rfl rfl (fun _ => rfl) ?_
      refine G_nil ?_
      refine L_nil ?_
      refine Sm_norm (e2 := [(3, .int .i64 a2), (17, .bool t1.all)]) (H1 := [(kg01 t1)]) (H2 := [(kg01 t1)]) rfl (by repeat (first | exact rzz | apply rcc rfl | apply rnn rfl)) rfl (?_ : GL _ _ _ _ _)
      rcases cond_s hr with ⟨hc17, hr⟩ | ⟨hc17, hr⟩
      · refine L_T rfl hc17 ?_
        refine L_reg ?_
        refine G_p rfl rfl rfl ?_
        refine G_nil ?_
        refine L_nil ?_
        refine Sm_norm (e2 := [(3, .int .i64 255)]) (H1 := [(kg01 t1)]) (H2 := [(kg01 t1)]) rfl (by repeat (first | exact rzz | apply rcc rfl | apply rnn rfl)) rfl (?_ : GL _ _ _ _ _)
        refine L_seq ?_
        refine L_reg ?_
        refine G_p rfl rfl rfl ?_
        refine G_p rfl rfl rfl ?_
        refine G_nil ?_
        refine L_ret ?_
        have hr := some_s hr
        subst hr
        exact ⟨_, rfl, _, rfl, rfl⟩
      · refine L_F rfl hc17 ?_
        refine L_skip ?_
        refine L_nil ?_
        refine Sm_norm (e2 := [(3, .int .i64 a2)]) (H1 := [(kg01 t1)]) (H2 := [(kg01 t1)]) rfl (by repeat (first | exact rzz | apply rcc rfl | apply rnn rfl)) rfl (?_ : GL _ _ _ _ _)
        refine L_seq ?_
        refine L_reg ?_
        refine G_p rfl rfl rfl ?_
        refine G_p rfl rfl rfl ?_
        refine G_nil ?_
        refine L_ret ?_
        have hr := some_s hr
        subst hr
        exact ⟨_, rfl, _, rfl, rfl⟩
noncomputable def g_r06_Tags_j1 (t1 : Ty) (a2 : Int) : Option Int :=
  (cond (!decide (t1.fn = 0)) (some (IntKind.wrap .i64 (a2 + 128))) (some a2))
noncomputable def g_r06_Tags (t1 : Ty) : Option Int :=
  (cond t1.all (some 255) (cond (!decide (t1.pair = 0)) (g_r06_Tags_j1 t1 (IntKind.wrap .i64 (t1.flat + 64))) (g_r06_Tags_j1 t1 t1.flat)))
abbrev kg02 (t1 : Ty) : ABlock := .cells [.bool t1.all, .int .i64 t1.flat, .int .i64 t1.pair, .lst (List.map encT t1.pairs) false, .int .i64 t1.fn, .lst (List.map encT t1.funs) false]
theorem g_r06_Tags_ok {t1 : Ty} {r : Int} (hr : g_r06_Tags t1 = some r) : PRes (tabOf tabL) 23 [.agg (cT t1)] (.int .i64 r) := by
  refine pres_fin t23 ?_
  unfold g_r06_Tags at hr
  refine L_seq ?_
  refine L_stmt ?_
  refine L_reg ?_
  refine G_n (B := (kg02 t1)) rfl rfl rfl ?_
  refine G_p rfl rfl rfl ?_
  refine G_nil ?_
  refine L_nil ?_
  refine Sm_norm (e2 := [(1, .ptr 0 0)]) (H1 := [(kg02 t1)]) (H2 := [(kg02 t1)]) rfl (by repeat (first | exact rzz | apply rcc rfl | apply rnn rfl)) rfl (?_ : GL _ _ _ _ _)
  refine L_seq ?_
  refine L_stmt ?_
  refine L_seq ?_
  refine L_stmt ?_
  refine L_reg ?_
  refine G_p rfl rfl rfl ?_
  refine G_h rfl rfl rfl (fun _ => rfl) ?_
  refine G_nil ?_
  refine L_nil ?_
  refine Sm_norm (e2 := [(1, .ptr 0 0), (5, .bool t1.all)]) (H1 := [(kg02 t1)]) (H2 := [(kg02 t1)]) rfl (by repeat (first | exact rzz | apply rcc rfl | apply rnn rfl)) rfl (?_ : GL _ _ _ _ _)
  rcases cond_s hr with ⟨hc5, hr⟩ | ⟨hc5, hr⟩
  · refine L_T rfl hc5 ?_
    refine L_seq ?_
    refine L_reg ?_
    refine G_p rfl rfl rfl ?_
    refine G_nil ?_
    refine L_ret ?_
    refine Sm_ret ?_
    have hr := some_s hr
    subst hr
    exact ⟨_, rfl, _, rfl, rfl⟩
  · refine L_F rfl hc5 ?_
    refine L_skip ?_
    refine L_nil ?_
    refine Sm_norm (e2 := [(1, .ptr 0 0)]) (H1 := [(kg02 t1)]) (H2 := [(kg02 t1)]) rfl (by repeat (first | exact rzz | apply rcc rfl | apply rnn rfl)) rfl (?_ : GL _ _ _ _ _)
    refine L_seq ?_
    refine L_stmt ?_
    refine L_reg ?_
    refine G_p rfl rfl rfl ?_
    refine G_h rfl rfl rfl (fun _ => rfl) ?_
    refine G_p rfl rfl rfl ?_
    refine G_nil ?_
    refine L_nil ?_
    refine Sm_norm (e2 := [(1, .ptr 0 0), (3, .int .i64 t1.flat)]) (H1 := [(kg02 t1)]) (H2 := [(kg02 t1)]) rfl (by repeat (first | exact rzz | apply rcc rfl | apply rnn rfl)) rfl (?_ : GL _ _ _ _ _)
    refine L_seq ?_
    refine L_stmtJ (S := Int) (fun s => [(1, .ptr 0 0), (3, .int .i64 s)]) (fun s => [(kg02 t1)]) (fun s => g_r06_Tags_j1 t1 s = some r) ?_ ?_
    · skip
      refine L_seq ?_
      refine L_stmt ?_
      refine L_reg ?_
      refine G_p rfl rfl rfl ?_
      refine G_h rfl rfl rfl (fun _ => rfl) ?_
      refine G_p rfl rfl rfl ?_
      refine G_nil ?_
      refine L_nil ?_
      refine Sm_norm (e2 := [(1, .ptr 0 0), (3, .int .i64 t1.flat), (10, .bool (!decide (t1.pair = 0)))]) (H1 := [(kg02 t1)]) (H2 := [(kg02 t1)]) rfl (by repeat (first | exact rzz | apply rcc rfl | apply rnn rfl)) rfl (?_ : GL _ _ _ _ _)
      rcases cond_s hr with ⟨hc10, hr⟩ | ⟨hc10, hr⟩
      · refine L_T rfl hc10 ?_
        refine L_reg ?_
        refine G_p rfl rfl rfl ?_
        refine G_p rfl rfl rfl ?_
        refine G_p rfl rfl rfl ?_
        refine G_nil ?_
        refine L_nil ?_
        exact Sm_norm (e2 := [(1, .ptr 0 0), (3, .int .i64 (IntKind.wrap .i64 (t1.flat + 64)))]) (H1 := [(kg02 t1)]) (H2 := [(kg02 t1)]) rfl (by repeat (first | exact rzz | apply rcc rfl | apply rnn rfl)) rfl ⟨(IntKind.wrap .i64 (t1.flat + 64)), rfl, rfl, hr⟩
      · refine L_F rfl hc10 ?_
        refine L_skip ?_
        refine L_nil ?_
        exact Sm_norm (e2 := [(1, .ptr 0 0), (3, .int .i64 t1.flat)]) (H1 := [(kg02 t1)]) (H2 := [(kg02 t1)]) rfl (by repeat (first | exact rzz | apply rcc rfl | apply rnn rfl)) rfl ⟨t1.flat, rfl, rfl, hr⟩
    · rintro a2 hr
      show GL _ _ [(1, .ptr 0 0), (3, .int .i64 a2)] [(kg02 t1)] _
      replace hr : g_r06_Tags_j1 t1 a2 = some r := hr
      unfold g_r06_Tags_j1 at hr
      refine L_seq ?_
      refine L_stmt ?_
      refine L_seq ?_
      refine L_stmt ?_
      refine L_reg ?_
      refine G_p rfl rfl rfl ?_
      refine G_h rfl rfl rfl (fun _ => rfl) ?_
      refine G_p rfl rfl rfl ?_
      refine G_nil ?_
      refine L_nil ?_
      refine Sm_norm (e2 := [(3, .int .i64 a2), (15, .bool (!decide (t1.fn = 0)))]) (H1 := [(kg02 t1)]) (H2 := [(kg02 t1)]) rfl (by repeat (first | exact rzz | apply rcc rfl | apply rnn rfl)) rfl (?_ : GL _ _ _ _ _)
      rcases cond_s hr with ⟨hc15, hr⟩ | ⟨hc15, hr⟩
      · refine L_T rfl hc15 ?_
        refine L_reg ?_
        refine G_p rfl rfl rfl ?_
        refine G_p rfl rfl rfl ?_
        refine G_p rfl rfl rfl ?_
        refine G_nil ?_
        refine L_nil ?_
        refine Sm_norm (e2 := [(3, .int .i64 (IntKind.wrap .i64 (a2 + 128)))]) (H1 := [(kg02 t1)]) (H2 := [(kg02 t1)]) rfl (by repeat (first | exact rzz | apply rcc rfl | apply rnn rfl)) rfl (?_ : GL _ _ _ _ _)
        refine L_seq ?_
        refine L_reg ?_
        refine G_p rfl rfl rfl ?_
        refine G_p rfl rfl rfl ?_
        refine G_nil ?_
        refine L_ret ?_
        have hr := some_s hr
        subst hr
        exact ⟨_, rfl, _, rfl, rfl⟩
      · refine L_F rfl hc15 ?_
        refine L_skip ?_
        refine L_nil ?_
        refine Sm_norm (e2 := [(3, .int .i64 a2)]) (H1 := [(kg02 t1)]) (H2 := [(kg02 t1)]) rfl (by repeat (first | exact rzz | apply rcc rfl | apply rnn rfl)) rfl (?_ : GL _ _ _ _ _)
        refine L_seq ?_
        refine L_reg ?_
        refine G_p rfl rfl rfl ?_
        refine G_p rfl rfl rfl ?_
        refine G_nil ?_
        refine L_ret ?_
        have hr := some_s hr
        subst hr
        exact ⟨_, rfl, _, rfl, rfl⟩
noncomputable def g_r06_low (n1 : Int) : Option Int :=
  some (andB .i64 n1 255)
theorem g_r06_low_ok {n1 : Int} {r : Int} (hr : g_r06_low n1 = some r) : PRes (tabOf tabL) 50 [.int .i64 n1] (.int .i64 r) := by
  refine pres_fin t50 ?_
  unfold g_r06_low at hr
  refine L_seq ?_
  refine L_stmt ?_
  refine L_reg ?_
  refine G_p rfl rfl rfl ?_
  refine G_nil ?_
  refine L_nil ?_
  refine Sm_norm (e2 := [(0, .int .i64 n1)]) (H1 := []) (H2 := []) rfl (by repeat (first | exact rzz | apply rcc rfl | apply rnn rfl)) rfl (?_ : GL _ _ _ _ _)
  refine L_seq ?_
  refine L_reg ?_
  refine G_p rfl rfl rfl ?_
  refine G_p rfl rfl rfl ?_
  refine G_p rfl rfl rfl ?_
  refine G_nil ?_
  refine L_ret ?_
  have hr := some_s hr
  subst hr
  exact ⟨_, rfl, _, rfl, rfl⟩
noncomputable def g_r06_Keep_j1 (r3 : Int) (b4 : Bool) (a5 : Int) (a9 : Int) (l11 : List Ty) (a12 : Int) (l13 : List Ty) : Option Ty :=
  (cond (decide ((andB .i64 r3 128) = 0)) (some (Ty.mk b4 (andB .i64 a5 r3) a12 l13 0 [])) (some (Ty.mk b4 (andB .i64 a5 r3) a12 l13 a9 l11)))
noncomputable def g_r06_Keep_j2 (r3 : Int) (b4 : Bool) (a5 : Int) (a6 : Int) (f7 : Bool) (l8 : List Ty) (a9 : Int) (f10 : Bool) (l11 : List Ty) : Option Ty :=
  (cond (decide ((andB .i64 r3 64) = 0)) (g_r06_Keep_j1 r3 b4 a5 a9 l11 0 []) (g_r06_Keep_j1 r3 b4 a5 a9 l11 a6 l8))
noncomputable def g_r06_Keep (t1 : Ty) (tags2 : Int) : Option Ty :=
  ((g_r06_low tags2).bind fun r3 => (cond (t1.all && (decide (r3 = 255))) (some t1) (cond t1.all (g_r06_Keep_j2 r3 false 63 1 true [(Ty.mk true 0 0 [] 0 []), (Ty.mk true 0 0 [] 0 [])] 2 true []) (g_r06_Keep_j2 r3 t1.all t1.flat t1.pair false t1.pairs t1.fn false t1.funs))))
abbrev kg03 (t1 : Ty) : ABlock := .cells [.bool t1.all, .int .i64 t1.flat, .int .i64 t1.pair, .lst (List.map encT t1.pairs) false, .int .i64 t1.fn, .lst (List.map encT t1.funs) false]
abbrev kg04 (b4 : Bool) (a5 : Int) (r3 : Int) (a12 : Int) (l13 : List Ty) (a9 : Int) (l11 : List Ty) : ABlock := .cells [.bool b4, .int .i64 (andB .i64 a5 r3), .int .i64 a12, .lst (List.map encT l13) false, .int .i64 a9, .lst (List.map encT l11) false]
abbrev kg05 (b4 : Bool) (a5 : Int) (r3 : Int) (a12 : Int) (l13 : List Ty) (a9 : Int) (l11 : List Ty) (f10 : Bool) : ABlock := .cells [.bool b4, .int .i64 (andB .i64 a5 r3), .int .i64 a12, .lst (List.map encT l13) false, .int .i64 a9, .lst (List.map encT l11) f10]
abbrev kg06 (b4 : Bool) (a5 : Int) (r3 : Int) (a12 : Int) (l13 : List Ty) (l11 : List Ty) (f10 : Bool) : ABlock := .cells [.bool b4, .int .i64 (andB .i64 a5 r3), .int .i64 a12, .lst (List.map encT l13) false, .int .i64 0, .lst (List.map encT l11) f10]
abbrev kg07 (b4 : Bool) (a5 : Int) (r3 : Int) (a6 : Int) (l8 : List Ty) (a9 : Int) (l11 : List Ty) (f10 : Bool) : ABlock := .cells [.bool b4, .int .i64 (andB .i64 a5 r3), .int .i64 a6, .lst (List.map encT l8) false, .int .i64 a9, .lst (List.map encT l11) f10]
abbrev kg08 (b4 : Bool) (a5 : Int) (r3 : Int) (a6 : Int) (l8 : List Ty) (f7 : Bool) (a9 : Int) (l11 : List Ty) (f10 : Bool) : ABlock := .cells [.bool b4, .int .i64 (andB .i64 a5 r3), .int .i64 a6, .lst (List.map encT l8) f7, .int .i64 a9, .lst (List.map encT l11) f10]
abbrev kg09 (b4 : Bool) (a5 : Int) (r3 : Int) (l8 : List Ty) (f7 : Bool) (a9 : Int) (l11 : List Ty) (f10 : Bool) : ABlock := .cells [.bool b4, .int .i64 (andB .i64 a5 r3), .int .i64 0, .lst (List.map encT l8) f7, .int .i64 a9, .lst (List.map encT l11) f10]
abbrev kg010 (b4 : Bool) (a5 : Int) (r3 : Int) (a12 : Int) (l13 : List Ty) : ABlock := .cells [.bool b4, .int .i64 (andB .i64 a5 r3), .int .i64 a12, .lst (List.map encT l13) false, .int .i64 0, .lst [] false]
abbrev kg011 : ABlock := .cells [.bool false, .int .i64 0, .int .i64 0, .lst [] true, .int .i64 0, .lst [] true]
theorem g_r06_Keep_ok {t1 : Ty} {tags2 : Int} {r : Ty} (hr : g_r06_Keep t1 tags2 = some r) : PRes (tabOf tabL) 21 [.agg (cT t1), .int .i64 tags2] (.agg (cT r)) := by
  refine pres_fin t21 ?_
  unfold g_r06_Keep at hr
  refine L_seq ?_
  refine L_stmt ?_
  refine L_reg ?_
  refine G_n (B := (kg03 t1)) rfl rfl rfl ?_
  refine G_n (B := kg011) rfl rfl rfl ?_
  refine G_nil ?_
  refine L_nil ?_
  refine Sm_norm (e2 := [(1, .int .i64 tags2), (2, .ptr 0 0), (4, .ptr 1 0)]) (H1 := [(kg03 t1), kg011]) (H2 := [(kg03 t1), kg011]) rfl (by repeat (first | exact rzz | apply rcc rfl | apply rnn rfl)) rfl (?_ : GL _ _ _ _ _)
  refine L_seq ?_
  refine L_stmt ?_
  refine L_reg ?_
  refine G_p rfl rfl rfl ?_
  obtain ⟨r3, hr3, hr⟩ := bind_s hr
  refine G_c 50 rfl rfl (CA_of (as := [.int .i64 tags2]) rfl (g_r06_low_ok hr3)) ?_
  refine G_p rfl rfl rfl ?_
  refine G_nil ?_
  refine L_nil ?_
  refine Sm_norm (e2 := [(2, .ptr 0 0), (4, .ptr 1 0), (5, .int .i64 r3)]) (H1 := [(kg03 t1), kg011]) (H2 := [(kg03 t1), kg011]) rfl (by repeat (first | exact rzz | apply rcc rfl | apply rnn rfl)) rfl (?_ : GL _ _ _ _ _)
  refine L_seq ?_
  refine L_stmt ?_
  refine L_seq ?_
  refine L_stmt ?_
  refine L_reg ?_
  refine G_p rfl rfl rfl ?_
  refine G_h rfl rfl rfl (fun _ => rfl) ?_
  refine G_p rfl rfl rfl ?_
  refine G_and (f := (decide (r3 = 255))) [_, _] rfl rfl ?_ ?_
  · intro hb10
    refine G_p rfl rfl rfl ?_
    refine G_p rfl rfl rfl ?_
    exact G_nil (L_nil ⟨rfl, rfl, rfl⟩)
  · intro vs hvs
    obtain ⟨u11, u12, rfl⟩ := len2 hvs
    dsimp only [junk]
    refine G_nil ?_
    refine L_nil ?_
    refine Sm_norm (e2 := [(2, .ptr 0 0), (4, .ptr 1 0), (5, .int .i64 r3), (13, .bool (t1.all && (decide (r3 = 255))))]) (H1 := [(kg03 t1), kg011]) (H2 := [(kg03 t1), kg011]) rfl (by repeat (first | exact rzz | apply rcc rfl | apply rnn rfl)) rfl (?_ : GL _ _ _ _ _)
    rcases cond_s hr with ⟨hc13, hr⟩ | ⟨hc13, hr⟩
    · refine L_T rfl hc13 ?_
      refine L_seq ?_
      refine L_reg ?_
      refine G_h (v := .agg (cT t1)) rfl rfl rfl (fun _ => rfl) ?_
      refine G_hn (H' := [(kg03 t1), (kg03 t1)]) rfl rfl rfl (fun _ => rfl) ?_
      refine G_nil ?_
      refine L_ret ?_
      refine Sm_ret ?_
      have hr := some_s hr
      subst hr
      exact ⟨_, rfl, _, rfl, rfl⟩
    · refine L_F rfl hc13 ?_
      refine L_skip ?_
      refine L_nil ?_
      refine Sm_norm (e2 := [(2, .ptr 0 0), (4, .ptr 1 0), (5, .int .i64 r3)]) (H1 := [(kg03 t1), kg011]) (H2 := [(kg03 t1), kg011]) rfl (by repeat (first | exact rzz | apply rcc rfl | apply rnn rfl)) rfl (?_ : GL _ _ _ _ _)
      refine L_seq ?_
      refine L_stmtJ (S := Bool × Int × Int × Bool × List Ty × Int × Bool × List Ty) (fun s => [(2, .ptr 0 0), (4, .ptr 1 0), (5, .int .i64 r3)]) (fun s => [.cells [.bool s.1, .int .i64 s.2.1, .int .i64 s.2.2.1, .lst (List.map encT s.2.2.2.2.1) s.2.2.2.1, .int .i64 s.2.2.2.2.2.1, .lst (List.map encT s.2.2.2.2.2.2.2) s.2.2.2.2.2.2.1], kg011]) (fun s => g_r06_Keep_j2 r3 s.1 s.2.1 s.2.2.1 s.2.2.2.1 s.2.2.2.2.1 s.2.2.2.2.2.1 s.2.2.2.2.2.2.1 s.2.2.2.2.2.2.2 = some r) ?_ ?_
      · skip
        refine L_seq ?_
        refine L_stmt ?_
        refine L_reg ?_
        refine G_p rfl rfl rfl ?_
        refine G_h rfl rfl rfl (fun _ => rfl) ?_
        refine G_nil ?_
        refine L_nil ?_
        refine Sm_norm (e2 := [(2, .ptr 0 0), (4, .ptr 1 0), (5, .int .i64 r3), (16, .bool t1.all)]) (H1 := [(kg03 t1), kg011]) (H2 := [(kg03 t1), kg011]) rfl (by repeat (first | exact rzz | apply rcc rfl | apply rnn rfl)) rfl (?_ : GL _ _ _ _ _)
        rcases cond_s hr with ⟨hc16, hr⟩ | ⟨hc16, hr⟩
        · refine L_T rfl hc16 ?_
          refine L_reg ?_
          refine G_p (v := .agg [.bool true, .int .i64 0, .int .i64 0, .lst [] true, .int .i64 0, .lst [] true]) rfl rfl rfl ?_
          refine G_p (v := .agg [.bool true, .int .i64 0, .int .i64 0, .lst [] true, .int .i64 0, .lst [] true]) rfl rfl rfl ?_
          refine G_h (v := .lst (List.map encT [(Ty.mk true 0 0 [] 0 []), (Ty.mk true 0 0 [] 0 [])]) true) rfl rfl rfl (fun _ => Eq.trans (b := some (Ex.ok (AVal.lst [.agg [.bool true, .int .i64 0, .int .i64 0, .lst [] false, .int .i64 0, .lst [] false], .agg [.bool true, .int .i64 0, .int .i64 0, .lst [] false, .int .i64 0, .lst [] false]] true), _)) rfl (congrArg (fun z => some (Ex.ok (AVal.lst z true), _)) (by first | rfl | (simp only [List.map_cons, List.map_nil, encT_eq] <;> rfl)))) ?_
          refine G_p (v := .agg [.bool false, .int .i64 63, .int .i64 1, .lst (List.map encT [(Ty.mk true 0 0 [] 0 []), (Ty.mk true 0 0 [] 0 [])]) true, .int .i64 2, .lst [] true]) rfl rfl rfl ?_
          refine G_hn (H' := [.cells [.bool false, .int .i64 63, .int .i64 1, .lst (List.map encT [(Ty.mk true 0 0 [] 0 []), (Ty.mk true 0 0 [] 0 [])]) true, .int .i64 2, .lst [] true], kg011]) rfl rfl rfl (fun _ => rfl) ?_
          refine G_nil ?_
          refine L_nil ?_
          exact Sm_norm (e2 := [(2, .ptr 0 0), (4, .ptr 1 0), (5, .int .i64 r3)]) (H1 := [.cells [.bool false, .int .i64 63, .int .i64 1, .lst (List.map encT [(Ty.mk true 0 0 [] 0 []), (Ty.mk true 0 0 [] 0 [])]) true, .int .i64 2, .lst [] true], kg011]) (H2 := [.cells [.bool false, .int .i64 63, .int .i64 1, .lst (List.map encT [(Ty.mk true 0 0 [] 0 []), (Ty.mk true 0 0 [] 0 [])]) true, .int .i64 2, .lst (List.map encT []) true], kg011]) rfl (by repeat (first | exact rzz | apply rcc rfl | apply rnn rfl)) rfl ⟨(false, 63, 1, true, [(Ty.mk true 0 0 [] 0 []), (Ty.mk true 0 0 [] 0 [])], 2, true, []), rfl, rfl, hr⟩
        · refine L_F rfl hc16 ?_
          refine L_skip ?_
          refine L_nil ?_
          exact Sm_norm (e2 := [(2, .ptr 0 0), (4, .ptr 1 0), (5, .int .i64 r3)]) (H1 := [(kg03 t1), kg011]) (H2 := [(kg03 t1), kg011]) rfl (by repeat (first | exact rzz | apply rcc rfl | apply rnn rfl)) rfl ⟨(t1.all, t1.flat, t1.pair, false, t1.pairs, t1.fn, false, t1.funs), rfl, rfl, hr⟩
      · rintro ⟨b4, a5, a6, f7, l8, a9, f10, l11⟩ hr
        show GL _ _ [(2, .ptr 0 0), (4, .ptr 1 0), (5, .int .i64 r3)] [.cells [.bool b4, .int .i64 a5, .int .i64 a6, .lst (List.map encT l8) f7, .int .i64 a9, .lst (List.map encT l11) f10], kg011] _
        replace hr : g_r06_Keep_j2 r3 b4 a5 a6 f7 l8 a9 f10 l11 = some r := hr
        unfold g_r06_Keep_j2 at hr
        refine L_seq ?_
        refine L_stmt ?_
        refine L_reg ?_
        refine G_p rfl rfl rfl ?_
        refine G_h rfl rfl rfl (fun _ => rfl) ?_
        refine G_p rfl rfl rfl ?_
        refine G_p rfl rfl rfl ?_
        refine G_p rfl rfl rfl ?_
        refine G_hn (H' := [(kg08 b4 a5 r3 a6 l8 f7 a9 l11 f10), kg011]) rfl rfl rfl (fun _ => rfl) ?_
        refine G_nil ?_
        refine L_nil ?_
        refine Sm_norm (e2 := [(2, .ptr 0 0), (4, .ptr 1 0), (5, .int .i64 r3)]) (H1 := [(kg08 b4 a5 r3 a6 l8 f7 a9 l11 f10), kg011]) (H2 := [(kg08 b4 a5 r3 a6 l8 f7 a9 l11 f10), kg011]) rfl (by repeat (first | exact rzz | apply rcc rfl | apply rnn rfl)) rfl (?_ : GL _ _ _ _ _)
        refine L_seq ?_
        refine L_stmtJ (S := Int × List Ty) (fun s => [(2, .ptr 0 0), (4, .ptr 1 0), (5, .int .i64 r3)]) (fun s => [.cells [.bool b4, .int .i64 (andB .i64 a5 r3), .int .i64 s.1, .lst (List.map encT s.2) false, .int .i64 a9, .lst (List.map encT l11) f10], kg011]) (fun s => g_r06_Keep_j1 r3 b4 a5 a9 l11 s.1 s.2 = some r) ?_ ?_
        · skip
          refine L_seq ?_
          refine L_stmt ?_
          refine L_reg ?_
          refine G_p rfl rfl rfl ?_
          refine G_p rfl rfl rfl ?_
          refine G_p rfl rfl rfl ?_
          refine G_nil ?_
          refine L_nil ?_
          refine Sm_norm (e2 := [(2, .ptr 0 0), (4, .ptr 1 0), (5, .int .i64 r3), (28, .bool (decide ((andB .i64 r3 64) = 0)))]) (H1 := [(kg08 b4 a5 r3 a6 l8 f7 a9 l11 f10), kg011]) (H2 := [(kg08 b4 a5 r3 a6 l8 f7 a9 l11 f10), kg011]) rfl (by repeat (first | exact rzz | apply rcc rfl | apply rnn rfl)) rfl (?_ : GL _ _ _ _ _)
          rcases cond_s hr with ⟨hc28, hr⟩ | ⟨hc28, hr⟩
          · refine L_T rfl hc28 ?_
            refine L_seq ?_
            refine L_stmt ?_
            refine L_reg ?_
            refine G_p rfl rfl rfl ?_
            refine G_hn (H' := [(kg09 b4 a5 r3 l8 f7 a9 l11 f10), kg011]) rfl rfl rfl (fun _ => rfl) ?_
            refine G_nil ?_
            refine L_nil ?_
            refine Sm_norm (e2 := [(2, .ptr 0 0), (4, .ptr 1 0), (5, .int .i64 r3)]) (H1 := [(kg09 b4 a5 r3 l8 f7 a9 l11 f10), kg011]) (H2 := [(kg09 b4 a5 r3 l8 f7 a9 l11 f10), kg011]) rfl (by repeat (first | exact rzz | apply rcc rfl | apply rnn rfl)) rfl (?_ : GL _ _ _ _ _)
            refine L_reg ?_
            refine G_p rfl rfl rfl ?_
            refine G_hn (H' := [.cells [.bool b4, .int .i64 (andB .i64 a5 r3), .int .i64 0, .lst [] true, .int .i64 a9, .lst (List.map encT l11) f10], kg011]) rfl rfl rfl (fun _ => rfl) ?_
            refine G_nil ?_
            refine L_nil ?_
            exact Sm_norm (e2 := [(2, .ptr 0 0), (4, .ptr 1 0), (5, .int .i64 r3)]) (H1 := [.cells [.bool b4, .int .i64 (andB .i64 a5 r3), .int .i64 0, .lst [] false, .int .i64 a9, .lst (List.map encT l11) f10], kg011]) (H2 := [.cells [.bool b4, .int .i64 (andB .i64 a5 r3), .int .i64 0, .lst (List.map encT []) false, .int .i64 a9, .lst (List.map encT l11) f10], kg011]) (frz_c (frz_lstC (H2 := [.cells [.bool b4, .int .i64 (andB .i64 a5 r3), .int .i64 0, .lst [] false, .int .i64 a9, .lst (List.map encT l11) f10], kg011]) rfl rfl rfl rfl) rfl) (by repeat (first | exact rzz | apply rcc rfl | apply rnn rfl)) rfl ⟨(0, []), rfl, rfl, hr⟩
          · refine L_F rfl hc28 ?_
            refine L_skip ?_
            refine L_nil ?_
            exact Sm_norm (e2 := [(2, .ptr 0 0), (4, .ptr 1 0), (5, .int .i64 r3)]) (H1 := [(kg07 b4 a5 r3 a6 l8 a9 l11 f10), kg011]) (H2 := [(kg07 b4 a5 r3 a6 l8 a9 l11 f10), kg011]) (frz_c (frz_lstC (H2 := [(kg07 b4 a5 r3 a6 l8 a9 l11 f10), kg011]) rfl rfl rfl rfl) rfl) (by repeat (first | exact rzz | apply rcc rfl | apply rnn rfl)) rfl ⟨(a6, l8), rfl, rfl, hr⟩
        · rintro ⟨a12, l13⟩ hr
          show GL _ _ [(2, .ptr 0 0), (4, .ptr 1 0), (5, .int .i64 r3)] [(kg05 b4 a5 r3 a12 l13 a9 l11 f10), kg011] _
          replace hr : g_r06_Keep_j1 r3 b4 a5 a9 l11 a12 l13 = some r := hr
          unfold g_r06_Keep_j1 at hr
          refine L_seq ?_
          refine L_stmt ?_
          refine L_seq ?_
          refine L_stmt ?_
          refine L_reg ?_
          refine G_p rfl rfl rfl ?_
          refine G_p rfl rfl rfl ?_
          refine G_p rfl rfl rfl ?_
          refine G_nil ?_
          refine L_nil ?_
          refine Sm_norm (e2 := [(2, .ptr 0 0), (4, .ptr 1 0), (33, .bool (decide ((andB .i64 r3 128) = 0)))]) (H1 := [(kg05 b4 a5 r3 a12 l13 a9 l11 f10), kg011]) (H2 := [(kg05 b4 a5 r3 a12 l13 a9 l11 f10), kg011]) rfl (by repeat (first | exact rzz | apply rcc rfl | apply rnn rfl)) rfl (?_ : GL _ _ _ _ _)
          rcases cond_s hr with ⟨hc33, hr⟩ | ⟨hc33, hr⟩
          · refine L_T rfl hc33 ?_
            refine L_seq ?_
            refine L_stmt ?_
            refine L_reg ?_
            refine G_p rfl rfl rfl ?_
            refine G_hn (H' := [(kg06 b4 a5 r3 a12 l13 l11 f10), kg011]) rfl rfl rfl (fun _ => rfl) ?_
            refine G_nil ?_
            refine L_nil ?_
            refine Sm_norm (e2 := [(2, .ptr 0 0), (4, .ptr 1 0)]) (H1 := [(kg06 b4 a5 r3 a12 l13 l11 f10), kg011]) (H2 := [(kg06 b4 a5 r3 a12 l13 l11 f10), kg011]) rfl (by repeat (first | exact rzz | apply rcc rfl | apply rnn rfl)) rfl (?_ : GL _ _ _ _ _)
            refine L_reg ?_
            refine G_p rfl rfl rfl ?_
            refine G_hn (H' := [.cells [.bool b4, .int .i64 (andB .i64 a5 r3), .int .i64 a12, .lst (List.map encT l13) false, .int .i64 0, .lst [] true], kg011]) rfl rfl rfl (fun _ => rfl) ?_
            refine G_nil ?_
            refine L_nil ?_
            refine Sm_norm (e2 := [(2, .ptr 0 0), (4, .ptr 1 0)]) (H1 := [(kg010 b4 a5 r3 a12 l13), kg011]) (H2 := [(kg010 b4 a5 r3 a12 l13), kg011]) (frz_c (frz_lstC (H2 := [(kg010 b4 a5 r3 a12 l13), kg011]) rfl rfl rfl rfl) rfl) (by repeat (first | exact rzz | apply rcc rfl | apply rnn rfl)) rfl (?_ : GL _ _ _ _ _)
            refine L_seq ?_
            refine L_reg ?_
            refine G_h (v := .agg [.bool b4, .int .i64 (andB .i64 a5 r3), .int .i64 a12, .lst (List.map encT l13) false, .int .i64 0, .lst [] false]) rfl rfl rfl (fun _ => rfl) ?_
            refine G_hn (H' := [(kg010 b4 a5 r3 a12 l13), (kg010 b4 a5 r3 a12 l13)]) rfl rfl rfl (fun _ => rfl) ?_
            refine G_nil ?_
            refine L_ret ?_
            have hr := some_s hr
            subst hr
            exact ⟨_, rfl, _, rfl, rfl⟩
          · refine L_F rfl hc33 ?_
            refine L_skip ?_
            refine L_nil ?_
            refine Sm_norm (e2 := [(2, .ptr 0 0), (4, .ptr 1 0)]) (H1 := [(kg04 b4 a5 r3 a12 l13 a9 l11), kg011]) (H2 := [(kg04 b4 a5 r3 a12 l13 a9 l11), kg011]) (frz_c (frz_lstC (H2 := [(kg04 b4 a5 r3 a12 l13 a9 l11), kg011]) rfl rfl rfl rfl) rfl) (by repeat (first | exact rzz | apply rcc rfl | apply rnn rfl)) rfl (?_ : GL _ _ _ _ _)
            refine L_seq ?_
            refine L_reg ?_
            refine G_h (v := .agg [.bool b4, .int .i64 (andB .i64 a5 r3), .int .i64 a12, .lst (List.map encT l13) false, .int .i64 a9, .lst (List.map encT l11) false]) rfl rfl rfl (fun _ => rfl) ?_
            refine G_hn (H' := [(kg04 b4 a5 r3 a12 l13 a9 l11), (kg04 b4 a5 r3 a12 l13 a9 l11)]) rfl rfl rfl (fun _ => rfl) ?_
            refine G_nil ?_
            refine L_ret ?_
            have hr := some_s hr
            subst hr
            exact ⟨_, rfl, _, rfl, rfl⟩
noncomputable def g_w06_to_j1 (f1 : Fts) (l26 : List Fct) : Option Fts :=
  some (Fts.mk f1.never l26)
noncomputable def g_w06_to_l2 (f1 : Fts) : List Fct → Nat → (List Fct) → Option Fts
  | [], _, l35 => g_w06_to_j1 f1 l35
  | y46 :: rest48, i47, l35 => ((catL l35 [y46]).bind fun l50 => (g_w06_to_l2 f1 rest48 (i47 + 1)) l50)
noncomputable def g_w06_to (f1 : Fts) : Option Fts :=
  (cond (okLen f1.l) (g_w06_to_l2 f1 f1.l 0 []) none)
theorem g_w06_to_ok {f1 : Fts} {r : Fts} (hr : g_w06_to f1 = some r) : PRes (tabOf tabL) 10 [.agg (cFts f1)] (.agg (cFts r)) := by
  refine pres_fin t10 ?_
  unfold g_w06_to at hr
  refine L_seq ?_
  refine L_stmt ?_
  refine L_reg ?_
  refine G_n (B := .cells [.bool f1.never, .lst (List.map encFct f1.l) false]) rfl rfl rfl ?_
  refine G_n (B := .cells [.bool false, .lst [] true]) rfl rfl rfl ?_
  refine G_nil ?_
  refine L_nil ?_
  refine Sm_norm (e2 := [(1, .ptr 0 0), (2, .ptr 1 0)]) (H1 := [.cells [.bool f1.never, .lst (List.map encFct f1.l) false], .cells [.bool false, .lst [] true]]) (H2 := [.cells [.bool f1.never, .lst (List.map encFct f1.l) false], .cells [.bool false, .lst [] true]]) rfl (by repeat (first | exact rzz | apply rcc rfl | apply rnn rfl)) rfl (?_ : GL _ _ _ _ _)
  refine L_seq ?_
  refine L_stmt ?_
  refine L_reg ?_
  refine G_p rfl rfl rfl ?_
  refine G_h rfl rfl rfl (fun _ => rfl) ?_
  refine G_p (v := .agg [.bool f1.never, .lst [] true]) rfl rfl rfl ?_
  refine G_n (B := .cells [.bool false, .lst [] true]) rfl rfl rfl ?_
  refine G_hn (H' := [.cells [.bool f1.never, .lst (List.map encFct f1.l) false], .cells [.bool false, .lst [] true], .cells [.bool f1.never, .lst [] true]]) rfl rfl rfl (fun _ => rfl) ?_
  refine G_nil ?_
  refine L_nil ?_
  refine Sm_norm (e2 := [(1, .ptr 0 0), (2, .ptr 1 0), (3, .ptr 2 0)]) (H1 := [.cells [.bool f1.never, .lst (List.map encFct f1.l) false], .cells [.bool false, .lst [] true], .cells [.bool f1.never, .lst [] true]]) (H2 := [.cells [.bool f1.never, .lst (List.map encFct f1.l) false], .cells [.bool false, .lst [] true], .cells [.bool f1.never, .lst [] true]]) rfl (by repeat (first | exact rzz | apply rcc rfl | apply rnn rfl)) rfl (?_ : GL _ _ _ _ _)
  refine L_seq ?_
  refine L_stmtJ (S := List Fct) (fun s => [(2, .ptr 1 0), (3, .ptr 2 0)]) (fun s => [.cells [.bool f1.never, .lst (List.map encFct f1.l) false], .cells [.bool false, .lst [] true], .cells [.bool f1.never, .lst (List.map encFct s) false]]) (fun s => g_w06_to_j1 f1 s = some r) ?_ ?_
  · skip
    refine L_seq ?_
    refine L_stmt ?_
    refine L_reg ?_
    refine G_p rfl rfl rfl ?_
    refine G_nil ?_
    refine L_nil ?_
    refine Sm_norm (e2 := [(1, .ptr 0 0), (2, .ptr 1 0), (3, .ptr 2 0), (4, .int .i64 0)]) (H1 := [.cells [.bool f1.never, .lst (List.map encFct f1.l) false], .cells [.bool false, .lst [] true], .cells [.bool f1.never, .lst [] true]]) (H2 := [.cells [.bool f1.never, .lst (List.map encFct f1.l) false], .cells [.bool false, .lst [] true], .cells [.bool f1.never, .lst [] true]]) rfl (by repeat (first | exact rzz | apply rcc rfl | apply rnn rfl)) rfl (?_ : GL _ _ _ _ _)
    refine L_block ?_
    refine L_seq ?_
    refine L_own (H' := [.cells [.bool f1.never, .lst (List.map encFct f1.l) false], .cells [.bool false, .lst [] true], .cells [.bool f1.never, .gl 3 (List.length [])], growM 2 encFct []]) rfl ?_
    obtain ⟨hLq45, hr⟩ := guard_s hr
    replace hLq45 := okLen_s hLq45
    refine L_range (X := Fct) (S := List Fct) f1.l (fun i47 s => [(4, .int .i64 ((i47 : Nat) : Int)), (1, .ptr 0 0), (2, .ptr 1 0), (3, .ptr 2 0)]) (fun i47 s => [.cells [.bool f1.never, .lst (List.map encFct f1.l) false], .cells [.bool false, .lst [] true], .cells [.bool f1.never, .gl 3 (List.length s)], growM 2 encFct s]) (fun rest i47 s => g_w06_to_l2 f1 rest i47 s = some r) ([]) ?_ rfl hr ?_ ?_
    · show restr _ _ = [(4, .int .i64 ((0 : Nat) : Int)), (1, .ptr 0 0), (2, .ptr 1 0), (3, .ptr 2 0)]
      (repeat (first | exact rzz | apply rcc rfl | apply rnn rfl))
    · rintro l35 hr
      show GL _ _ [(4, .int .i64 (((List.length f1.l) : Nat) : Int)), (1, .ptr 0 0), (2, .ptr 1 0), (3, .ptr 2 0)] [.cells [.bool f1.never, .lst (List.map encFct f1.l) false], .cells [.bool false, .lst [] true], .cells [.bool f1.never, .gl 3 (List.length l35)], growM 2 encFct l35] _
      replace hr : g_w06_to_l2 f1 [] (List.length f1.l) l35 = some r := hr
      rw [g_w06_to_l2] at hr
      refine L_seq ?_
      refine L_stmt ?_
      refine L_seq ?_
      refine L_stmt ?_
      refine L_reg ?_
      refine G_p rfl rfl rfl ?_
      refine G_p rfl rfl rfl ?_
      refine G_h (v := .lst (List.map encFct f1.l) false) rfl rfl rfl (fun _ => rfl) ?_
      refine G_h rfl rfl rfl (lenL_ev rfl (List.length_map _)) ?_
      refine G_v (.bool false) rfl rfl rfl (congrArg AVal.bool (decide_eq_false (by omega))) ?_
      refine G_nil ?_
      refine L_nil ?_
      refine Sm_norm (e2 := [(1, .ptr 0 0), (2, .ptr 1 0), (3, .ptr 2 0), (4, .int .i64 ((List.length f1.l : Nat) : Int)), (12, .bool false)]) (H1 := [.cells [.bool f1.never, .lst (List.map encFct f1.l) false], .cells [.bool false, .lst [] true], .cells [.bool f1.never, .gl 3 (List.length l35)], growM 2 encFct l35]) (H2 := [.cells [.bool f1.never, .lst (List.map encFct f1.l) false], .cells [.bool false, .lst [] true], .cells [.bool f1.never, .gl 3 (List.length l35)], growM 2 encFct l35]) rfl (by repeat (first | exact rzz | apply rcc rfl | apply rnn rfl)) rfl (?_ : GL _ _ _ _ _)
      refine L_F rfl rfl ?_
      refine L_exit ?_
      refine Sm_exit ?_
      refine Rd_exit ?_
      refine Blk_exit (?_ : GL _ _ _ _ _)
      refine L_nil ?_
      exact Sm_norm (e2 := [(2, .ptr 1 0), (3, .ptr 2 0)]) (H1 := [.cells [.bool f1.never, .lst (List.map encFct f1.l) false], .cells [.bool false, .lst [] true], .cells [.bool f1.never, .lst (List.map encFct l35) false], growM 2 encFct l35]) (H2 := [.cells [.bool f1.never, .lst (List.map encFct f1.l) false], .cells [.bool false, .lst [] true], .cells [.bool f1.never, .lst (List.map encFct l35) false]]) (frz_c (frz_glC (H2 := [.cells [.bool f1.never, .lst (List.map encFct f1.l) false], .cells [.bool false, .lst [] true], .cells [.bool f1.never, .lst (List.map encFct l35) false], growM 2 encFct l35]) rfl rfl rfl rfl rfl) rfl) (by repeat (first | exact rzz | apply rcc rfl | apply rnn rfl)) rfl ⟨l35, rfl, rfl, hr⟩
    · rintro y46 rest48 i47 l35 hy46 hlti47 hr
      show GL _ _ [(4, .int .i64 ((i47 : Nat) : Int)), (1, .ptr 0 0), (2, .ptr 1 0), (3, .ptr 2 0)] [.cells [.bool f1.never, .lst (List.map encFct f1.l) false], .cells [.bool false, .lst [] true], .cells [.bool f1.never, .gl 3 (List.length l35)], growM 2 encFct l35] _
      replace hr : g_w06_to_l2 f1 (y46 :: rest48) i47 l35 = some r := hr
      rw [g_w06_to_l2] at hr
      refine L_seq ?_
      refine L_stmt ?_
      refine L_seq ?_
      refine L_stmt ?_
      refine L_reg ?_
      refine G_p rfl rfl rfl ?_
      refine G_p rfl rfl rfl ?_
      refine G_h (v := .lst (List.map encFct f1.l) false) rfl rfl rfl (fun _ => rfl) ?_
      refine G_h rfl rfl rfl (lenL_ev rfl (List.length_map _)) ?_
      refine G_v (.bool true) rfl rfl rfl (congrArg AVal.bool (decide_eq_true (by omega))) ?_
      refine G_nil ?_
      refine L_nil ?_
      refine Sm_norm (e2 := [(1, .ptr 0 0), (2, .ptr 1 0), (3, .ptr 2 0), (4, .int .i64 ((i47 : Nat) : Int)), (12, .bool true)]) (H1 := [.cells [.bool f1.never, .lst (List.map encFct f1.l) false], .cells [.bool false, .lst [] true], .cells [.bool f1.never, .gl 3 (List.length l35)], growM 2 encFct l35]) (H2 := [.cells [.bool f1.never, .lst (List.map encFct f1.l) false], .cells [.bool false, .lst [] true], .cells [.bool f1.never, .gl 3 (List.length l35)], growM 2 encFct l35]) rfl (by repeat (first | exact rzz | apply rcc rfl | apply rnn rfl)) rfl (?_ : GL _ _ _ _ _)
      refine L_T rfl rfl ?_
      refine L_skip ?_
      refine L_nil ?_
      refine Sm_norm (e2 := [(1, .ptr 0 0), (2, .ptr 1 0), (3, .ptr 2 0), (4, .int .i64 ((i47 : Nat) : Int))]) (H1 := [.cells [.bool f1.never, .lst (List.map encFct f1.l) false], .cells [.bool false, .lst [] true], .cells [.bool f1.never, .gl 3 (List.length l35)], growM 2 encFct l35]) (H2 := [.cells [.bool f1.never, .lst (List.map encFct f1.l) false], .cells [.bool false, .lst [] true], .cells [.bool f1.never, .gl 3 (List.length l35)], growM 2 encFct l35]) rfl (by repeat (first | exact rzz | apply rcc rfl | apply rnn rfl)) rfl (?_ : GL _ _ _ _ _)
      refine L_seq ?_
      refine L_stmt ?_
      refine L_block ?_
      refine L_draw ?_
      refine GD_p rfl rfl rfl ?_
      refine GD_h (d := some 16) rfl rfl rfl rfl (fun _ => rfl) ?_
      refine GD_p rfl rfl rfl ?_
      refine GD_h (d := some 18) (v := .lst (List.map encFct f1.l) false) rfl rfl rfl rfl (fun _ => rfl) ?_
      refine GD_p rfl rfl rfl ?_
      refine GD_h (d := some 20) (v := .ro [.int .i64 y46.var, .int .i64 y46.tags]) rfl rfl rfl rfl (ia_ev (cells := [.int .i64 y46.var, .int .i64 y46.tags]) rfl rfl (Int.natCast_nonneg _) (map_get (x := y46) (by rw [Int.toNat_natCast]; exact hy46)) (encFct_flat _) rfl) ?_
      refine GD_p (v := .ro [.int .i64 y46.var, .int .i64 y46.tags]) rfl rfl rfl ?_
      refine GD_h (d := some 22) rfl rfl rfl rfl (fun _ => rfl) ?_
      refine GD_p rfl rfl rfl ?_
      refine GD_h (d := some 24) (v := .lst (List.map encFct f1.l) false) rfl rfl rfl rfl (fun _ => rfl) ?_
      refine GD_p rfl rfl rfl ?_
      refine GD_h (d := some 26) (v := .ro [.int .i64 y46.var, .int .i64 y46.tags]) rfl rfl rfl rfl (ia_ev (cells := [.int .i64 y46.var, .int .i64 y46.tags]) rfl rfl (Int.natCast_nonneg _) (map_get (x := y46) (by rw [Int.toNat_natCast]; exact hy46)) (encFct_flat _) rfl) ?_
      refine GD_p (v := .ro [.int .i64 y46.tags]) rfl rfl rfl ?_
      refine GD_h (d := some 28) rfl rfl rfl rfl (fun _ => rfl) ?_
      refine GD_p (v := .agg [.int .i64 y46.var, .int .i64 y46.tags]) rfl rfl rfl ?_
      refine GD_h (d := some 30) (v := .lst (List.map encFct [y46]) true) rfl rfl rfl rfl (fun _ => Eq.trans (b := some (Ex.ok (AVal.lst [.agg [.int .i64 y46.var, .int .i64 y46.tags]] true), _)) rfl (congrArg (fun z => some (Ex.ok (AVal.lst z true), _)) (by first | rfl | (simp only [List.map_cons, List.map_nil, encFct_eq] <;> rfl)))) ?_
      obtain ⟨l50, hl50, hr⟩ := bind_s hr
      refine GD_o (d := some 31) rfl rfl rfl rfl (appG_ev encFct_w1 (by decide) rfl rfl rfl rfl hl50) ?_
      refine GD_p rfl rfl rfl ?_
      refine GD_h (d := none) (H' := [.cells [.bool f1.never, .lst (List.map encFct f1.l) false], .cells [.bool false, .lst [] true], .cells [.bool f1.never, .gl 3 (List.length l50)], growM 2 encFct l50, .hole]) rfl rfl rfl rfl (fun _ => rfl) ?_
      refine GD_nil2 (by first | rfl | simp [okFs2, okEarlier2, disj, noneIn, notIn, sameOn, partsGls, sameB_self]) ?_
      refine L_nil ?_
      refine Blk_norm (?_ : GL _ _ _ _ _)
      refine L_nil ?_
      refine Sm_norm (e2 := [(1, .ptr 0 0), (2, .ptr 1 0), (3, .ptr 2 0), (4, .int .i64 ((i47 : Nat) : Int))]) (H1 := [.cells [.bool f1.never, .lst (List.map encFct f1.l) false], .cells [.bool false, .lst [] true], .cells [.bool f1.never, .gl 3 (List.length l50)], growM 2 encFct l50, .hole]) (H2 := [.cells [.bool f1.never, .lst (List.map encFct f1.l) false], .cells [.bool false, .lst [] true], .cells [.bool f1.never, .gl 3 (List.length l50)], growM 2 encFct l50]) rfl (by repeat (first | exact rzz | apply rcc rfl | apply rnn rfl)) rfl (?_ : GL _ _ _ _ _)
      refine L_reg ?_
      refine G_p rfl rfl rfl ?_
      refine G_v (.int .i64 ((i47 + 1 : Nat) : Int)) rfl rfl rfl (congrArg _ (wrap_next hLq45 hlti47)) ?_
      refine G_p rfl rfl rfl ?_
      refine G_nil ?_
      refine L_nil ?_
      refine Rd_norm ⟨l50, ?_, rfl, hr⟩
      show restr _ _ = [(4, .int .i64 (((i47 + 1) : Nat) : Int)), (1, .ptr 0 0), (2, .ptr 1 0), (3, .ptr 2 0)]
      (repeat (first | exact rzz | apply rcc rfl | apply rnn rfl))
  · rintro l26 hr
    show GL _ _ [(2, .ptr 1 0), (3, .ptr 2 0)] [.cells [.bool f1.never, .lst (List.map encFct f1.l) false], .cells [.bool false, .lst [] true], .cells [.bool f1.never, .lst (List.map encFct l26) false]] _
    replace hr : g_w06_to_j1 f1 l26 = some r := hr
    unfold g_w06_to_j1 at hr
    refine L_seq ?_
    refine L_reg ?_
    refine G_h (v := .agg [.bool f1.never, .lst (List.map encFct l26) false]) rfl rfl rfl (fun _ => rfl) ?_
    refine G_hn (H' := [.cells [.bool f1.never, .lst (List.map encFct f1.l) false], .cells [.bool f1.never, .lst (List.map encFct l26) false], .cells [.bool f1.never, .lst (List.map encFct l26) false]]) rfl rfl rfl (fun _ => rfl) ?_
    refine G_nil ?_
    refine L_ret ?_
    have hr := some_s hr
    subst hr
    exact ⟨_, rfl, _, rfl, rfl⟩
noncomputable def g_r06_Apply_j1 (l109 : List Ty) : Option (List Ty) :=
  some l109
noncomputable def g_r06_Apply_j3 (a146 : Int) (K9 : (List Ty) → Int → Option (List Ty)) (l214 : List Ty) : Option (List Ty) :=
  K9 l214 (IntKind.wrap .i64 (a146 + 1))
noncomputable def g_r06_Apply_j4 (f2 : Fts) (a146 : Int) (K9 : (List Ty) → Int → Option (List Ty)) (l244 : List Ty) : Option (List Ty) :=
  (cond f2.never ((idx l244 a146).bind fun e245 => ((setL l244 a146 (Ty.mk false 0 0 [] 0 [])).bind fun l246 => g_r06_Apply_j3 a146 K9 l246)) (g_r06_Apply_j3 a146 K9 l244))
noncomputable def g_r06_Apply_l5 (f2 : Fts) (a146 : Int) (K9 : (List Ty) → Int → Option (List Ty)) : List Fct → Nat → (List Ty) → Option (List Ty)
  | [], _, l256 => g_r06_Apply_j4 f2 a146 K9 l256
  | y268 :: rest270, i269, l256 => (cond (decide (y268.var = a146)) ((idx l256 a146).bind fun e276 => ((g_r06_Keep e276 y268.tags).bind fun r277 => ((idx l256 a146).bind fun e278 => ((setL l256 a146 r277).bind fun l279 => (g_r06_Apply_l5 f2 a146 K9 rest270 (i269 + 1)) l279)))) ((g_r06_Apply_l5 f2 a146 K9 rest270 (i269 + 1)) l256))
noncomputable def g_r06_Apply_l2 (f2 : Fts) : Nat → (List Ty) → Int → Option (List Ty)
  | 0, _, _ => none
  | m + 1, l145, a146 => (cond (decide (a146 < ((List.length l145 : Nat) : Int))) (cond (okLen f2.l) (g_r06_Apply_l5 f2 a146 (g_r06_Apply_l2 f2 m) f2.l 0 l145) none) (g_r06_Apply_j1 l145))
noncomputable def g_r06_Apply_j6 (n : Nat) (env1 : List Ty) (f2 : Fts) : Option (List Ty) :=
  g_r06_Apply_l2 f2 n env1 0
noncomputable def g_r06_Apply (n : Nat) (env1 : List Ty) (f2 : Fts) : Option (List Ty) :=
  (cond (okLen env1) (g_r06_Apply_j6 n env1 f2) none)
theorem g_r06_Apply_ok {n : Nat} {env1 : List Ty} {f2 : Fts} {r : List Ty} (hr : g_r06_Apply n env1 f2 = some r) : PRes (tabOf tabL) 18 [.lst (List.map encT env1) false, .agg (cFts f2)] (.lst (List.map encT r) false) := by
  refine pres_fin t18 ?_
  unfold g_r06_Apply at hr
  refine L_seq ?_
  refine L_stmt ?_
  refine L_reg ?_
  refine G_n (B := .cells [.bool f2.never, .lst (List.map encFct f2.l) false]) rfl rfl rfl ?_
  refine G_p (v := .lst [] true) rfl rfl rfl ?_
  refine G_nil ?_
  refine L_nil ?_
  refine Sm_norm (e2 := [(0, .lst (List.map encT env1) false), (3, .ptr 0 0)]) (H1 := [.cells [.bool f2.never, .lst (List.map encFct f2.l) false]]) (H2 := [.cells [.bool f2.never, .lst (List.map encFct f2.l) false]]) rfl (by repeat (first | exact rzz | apply rcc rfl | apply rnn rfl)) rfl (?_ : GL _ _ _ _ _)
  refine L_seq ?_
  refine L_stmtJ (S := Unit) (fun s => [(3, .ptr 0 0), (5, .gl 1 (List.length env1))]) (fun s => [.cells [.bool f2.never, .lst (List.map encFct f2.l) false], openM 6 encT env1]) (fun s => g_r06_Apply_j6 n env1 f2 = some r) ?_ ?_
  · skip
    refine L_seq ?_
    refine L_reg ?_
    refine G_h (v := .lst [] true) rfl rfl rfl (fun _ => rfl) ?_
    refine G_p (v := .lst (List.map encT env1) false) rfl rfl rfl ?_
    obtain ⟨hLq280, hr⟩ := guard_s hr
    rcases emp_or env1 with hEq280 | hEq280
    · skip
      refine G_h rfl rfl rfl (appEo_ev (ys := env1) encT_w1 rfl rfl rfl hEq280) ?_
      refine G_p (v := .lst (List.map encT env1) true) rfl rfl rfl ?_
      refine G_nil ?_
      refine L_own (H' := [.cells [.bool f2.never, .lst (List.map encFct f2.l) false], openM 6 encT env1]) (own_e (w := 6) rfl hEq280) ?_
      refine L_nil ?_
      exact Sm_norm (e2 := [(3, .ptr 0 0), (5, .gl 1 (List.length env1))]) (H1 := [.cells [.bool f2.never, .lst (List.map encFct f2.l) false], openM 6 encT env1]) (H2 := [.cells [.bool f2.never, .lst (List.map encFct f2.l) false], openM 6 encT env1]) rfl (by repeat (first | exact rzz | apply rcc rfl | apply rnn rfl)) rfl ⟨(), rfl, rfl, hr⟩
    · skip
      refine G_h rfl rfl rfl (appNo_ev (ys := env1) encT_w1 (by decide) rfl rfl rfl hEq280 hLq280 (newAt_end _ _)) ?_
      refine G_p rfl rfl rfl ?_
      refine G_nil ?_
      refine L_own (H' := [.cells [.bool f2.never, .lst (List.map encFct f2.l) false], openM 6 encT env1]) rfl ?_
      refine L_nil ?_
      exact Sm_norm (e2 := [(3, .ptr 0 0), (5, .gl 1 (List.length env1))]) (H1 := [.cells [.bool f2.never, .lst (List.map encFct f2.l) false], openM 6 encT env1]) (H2 := [.cells [.bool f2.never, .lst (List.map encFct f2.l) false], openM 6 encT env1]) rfl (by repeat (first | exact rzz | apply rcc rfl | apply rnn rfl)) rfl ⟨(), rfl, rfl, hr⟩
  · rintro ⟨⟩ hr
    show GL _ _ [(3, .ptr 0 0), (5, .gl 1 (List.length env1))] [.cells [.bool f2.never, .lst (List.map encFct f2.l) false], openM 6 encT env1] _
    replace hr : g_r06_Apply_j6 n env1 f2 = some r := hr
    unfold g_r06_Apply_j6 at hr
    refine L_seq ?_
    refine L_stmtJ (S := List Ty) (fun s => [(5, .gl 1 (List.length s))]) (fun s => [.cells [.bool f2.never, .lst (List.map encFct f2.l) false], openM 6 encT s]) (fun s => g_r06_Apply_j1 s = some r) ?_ ?_
    · skip
      refine L_seq ?_
      refine L_stmt ?_
      refine L_reg ?_
      refine G_p rfl rfl rfl ?_
      refine G_nil ?_
      refine L_nil ?_
      refine Sm_norm (e2 := [(3, .ptr 0 0), (5, .gl 1 (List.length env1)), (6, .int .i64 0)]) (H1 := [.cells [.bool f2.never, .lst (List.map encFct f2.l) false], openM 6 encT env1]) (H2 := [.cells [.bool f2.never, .lst (List.map encFct f2.l) false], openM 6 encT env1]) rfl (by repeat (first | exact rzz | apply rcc rfl | apply rnn rfl)) rfl (?_ : GL _ _ _ _ _)
      refine L_block ?_
      refine L_while (S := List Ty × Int) n (fun s => [(6, .int .i64 s.2), (3, .ptr 0 0), (5, .gl 1 (List.length s.1))]) (fun s => [.cells [.bool f2.never, .lst (List.map encFct f2.l) false], openM 6 encT s.1]) (fun k s => g_r06_Apply_l2 f2 k s.1 s.2 = some r) ((env1, 0)) ?_ rfl hr ?_ ?_
      · show restr _ _ = [(6, .int .i64 0), (3, .ptr 0 0), (5, .gl 1 (List.length env1))]
        (repeat (first | exact rzz | apply rcc rfl | apply rnn rfl))
      · rintro ⟨l145, a146⟩ hr; exact absurd hr (by simp [g_r06_Apply_l2])
      · rintro m ⟨l145, a146⟩ hr
        show GL _ _ [(6, .int .i64 a146), (3, .ptr 0 0), (5, .gl 1 (List.length l145))] [.cells [.bool f2.never, .lst (List.map encFct f2.l) false], openM 6 encT l145] _
        replace hr : g_r06_Apply_l2 f2 (m + 1) l145 a146 = some r := hr
        rw [g_r06_Apply_l2] at hr
        refine L_seq ?_
        refine L_stmt ?_
        refine L_seq ?_
        refine L_stmt ?_
        refine L_reg ?_
        refine G_p rfl rfl rfl ?_
        refine G_p rfl rfl rfl ?_
        refine G_h rfl rfl rfl (fun _ => rfl) ?_
        refine G_p rfl rfl rfl ?_
        refine G_nil ?_
        refine L_nil ?_
        refine Sm_norm (e2 := [(3, .ptr 0 0), (5, .gl 1 (List.length l145)), (6, .int .i64 a146), (14, .bool (decide (a146 < ((List.length l145 : Nat) : Int))))]) (H1 := [.cells [.bool f2.never, .lst (List.map encFct f2.l) false], openM 6 encT l145]) (H2 := [.cells [.bool f2.never, .lst (List.map encFct f2.l) false], openM 6 encT l145]) rfl (by repeat (first | exact rzz | apply rcc rfl | apply rnn rfl)) rfl (?_ : GL _ _ _ _ _)
        rcases cond_s hr with ⟨hc14, hr⟩ | ⟨hc14, hr⟩
        · refine L_T rfl hc14 ?_
          refine L_skip ?_
          refine L_nil ?_
          refine Sm_norm (e2 := [(3, .ptr 0 0), (5, .gl 1 (List.length l145)), (6, .int .i64 a146)]) (H1 := [.cells [.bool f2.never, .lst (List.map encFct f2.l) false], openM 6 encT l145]) (H2 := [.cells [.bool f2.never, .lst (List.map encFct f2.l) false], openM 6 encT l145]) rfl (by repeat (first | exact rzz | apply rcc rfl | apply rnn rfl)) rfl (?_ : GL _ _ _ _ _)
          refine L_seq ?_
          refine L_stmtJ (S := List Ty) (fun s => [(3, .ptr 0 0), (5, .gl 1 (List.length s)), (6, .int .i64 a146)]) (fun s => [.cells [.bool f2.never, .lst (List.map encFct f2.l) false], openM 6 encT s]) (fun s => g_r06_Apply_j3 a146 (g_r06_Apply_l2 f2 m) s = some r) ?_ ?_
          · skip
            refine L_block ?_
            refine L_seq ?_
            refine L_stmtJ (S := List Ty) (fun s => [(3, .ptr 0 0), (5, .gl 1 (List.length s)), (6, .int .i64 a146)]) (fun s => [.cells [.bool f2.never, .lst (List.map encFct f2.l) false], openM 6 encT s]) (fun s => g_r06_Apply_j4 f2 a146 (g_r06_Apply_l2 f2 m) s = some r) ?_ ?_
            · skip
              refine L_seq ?_
              refine L_stmt ?_
              refine L_reg ?_
              refine G_p rfl rfl rfl ?_
              refine G_nil ?_
              refine L_nil ?_
              refine Sm_norm (e2 := [(3, .ptr 0 0), (5, .gl 1 (List.length l145)), (6, .int .i64 a146), (7, .int .i64 0)]) (H1 := [.cells [.bool f2.never, .lst (List.map encFct f2.l) false], openM 6 encT l145]) (H2 := [.cells [.bool f2.never, .lst (List.map encFct f2.l) false], openM 6 encT l145]) rfl (by repeat (first | exact rzz | apply rcc rfl | apply rnn rfl)) rfl (?_ : GL _ _ _ _ _)
              refine L_block ?_
              obtain ⟨hLq267, hr⟩ := guard_s hr
              replace hLq267 := okLen_s hLq267
              refine L_range (X := Fct) (S := List Ty) f2.l (fun i269 s => [(7, .int .i64 ((i269 : Nat) : Int)), (3, .ptr 0 0), (5, .gl 1 (List.length s)), (6, .int .i64 a146)]) (fun i269 s => [.cells [.bool f2.never, .lst (List.map encFct f2.l) false], openM 6 encT s]) (fun rest i269 s => g_r06_Apply_l5 f2 a146 (g_r06_Apply_l2 f2 m) rest i269 s = some r) (l145) ?_ rfl hr ?_ ?_
              · show restr _ _ = [(7, .int .i64 ((0 : Nat) : Int)), (3, .ptr 0 0), (5, .gl 1 (List.length l145)), (6, .int .i64 a146)]
                (repeat (first | exact rzz | apply rcc rfl | apply rnn rfl))
              · rintro l256 hr
                show GL _ _ [(7, .int .i64 (((List.length f2.l) : Nat) : Int)), (3, .ptr 0 0), (5, .gl 1 (List.length l256)), (6, .int .i64 a146)] [.cells [.bool f2.never, .lst (List.map encFct f2.l) false], openM 6 encT l256] _
                replace hr : g_r06_Apply_l5 f2 a146 (g_r06_Apply_l2 f2 m) [] (List.length f2.l) l256 = some r := hr
                rw [g_r06_Apply_l5] at hr
                refine L_seq ?_
                refine L_stmt ?_
                refine L_seq ?_
                refine L_stmt ?_
                refine L_reg ?_
                refine G_p rfl rfl rfl ?_
                refine G_p rfl rfl rfl ?_
                refine G_h (v := .lst (List.map encFct f2.l) false) rfl rfl rfl (fun _ => rfl) ?_
                refine G_h rfl rfl rfl (lenL_ev rfl (List.length_map _)) ?_
                refine G_v (.bool false) rfl rfl rfl (congrArg AVal.bool (decide_eq_false (by omega))) ?_
                refine G_nil ?_
                refine L_nil ?_
                refine Sm_norm (e2 := [(3, .ptr 0 0), (5, .gl 1 (List.length l256)), (6, .int .i64 a146), (7, .int .i64 ((List.length f2.l : Nat) : Int)), (21, .bool false)]) (H1 := [.cells [.bool f2.never, .lst (List.map encFct f2.l) false], openM 6 encT l256]) (H2 := [.cells [.bool f2.never, .lst (List.map encFct f2.l) false], openM 6 encT l256]) rfl (by repeat (first | exact rzz | apply rcc rfl | apply rnn rfl)) rfl (?_ : GL _ _ _ _ _)
                refine L_F rfl rfl ?_
                refine L_exit ?_
                refine Sm_exit ?_
                refine Rd_exit ?_
                refine Blk_exit (?_ : GL _ _ _ _ _)
                refine L_nil ?_
                exact Sm_norm (e2 := [(3, .ptr 0 0), (5, .gl 1 (List.length l256)), (6, .int .i64 a146)]) (H1 := [.cells [.bool f2.never, .lst (List.map encFct f2.l) false], openM 6 encT l256]) (H2 := [.cells [.bool f2.never, .lst (List.map encFct f2.l) false], openM 6 encT l256]) rfl (by repeat (first | exact rzz | apply rcc rfl | apply rnn rfl)) rfl ⟨l256, rfl, rfl, hr⟩
              · rintro y268 rest270 i269 l256 hy268 hlti269 hr
                show GL _ _ [(7, .int .i64 ((i269 : Nat) : Int)), (3, .ptr 0 0), (5, .gl 1 (List.length l256)), (6, .int .i64 a146)] [.cells [.bool f2.never, .lst (List.map encFct f2.l) false], openM 6 encT l256] _
                replace hr : g_r06_Apply_l5 f2 a146 (g_r06_Apply_l2 f2 m) (y268 :: rest270) i269 l256 = some r := hr
                rw [g_r06_Apply_l5] at hr
                refine L_seq ?_
                refine L_stmt ?_
                refine L_seq ?_
                refine L_stmt ?_
                refine L_reg ?_
                refine G_p rfl rfl rfl ?_
                refine G_p rfl rfl rfl ?_
                refine G_h (v := .lst (List.map encFct f2.l) false) rfl rfl rfl (fun _ => rfl) ?_
                refine G_h rfl rfl rfl (lenL_ev rfl (List.length_map _)) ?_
                refine G_v (.bool true) rfl rfl rfl (congrArg AVal.bool (decide_eq_true (by omega))) ?_
                refine G_nil ?_
                refine L_nil ?_
                refine Sm_norm (e2 := [(3, .ptr 0 0), (5, .gl 1 (List.length l256)), (6, .int .i64 a146), (7, .int .i64 ((i269 : Nat) : Int)), (21, .bool true)]) (H1 := [.cells [.bool f2.never, .lst (List.map encFct f2.l) false], openM 6 encT l256]) (H2 := [.cells [.bool f2.never, .lst (List.map encFct f2.l) false], openM 6 encT l256]) rfl (by repeat (first | exact rzz | apply rcc rfl | apply rnn rfl)) rfl (?_ : GL _ _ _ _ _)
                refine L_T rfl rfl ?_
                refine L_skip ?_
                refine L_nil ?_
                refine Sm_norm (e2 := [(3, .ptr 0 0), (5, .gl 1 (List.length l256)), (6, .int .i64 a146), (7, .int .i64 ((i269 : Nat) : Int))]) (H1 := [.cells [.bool f2.never, .lst (List.map encFct f2.l) false], openM 6 encT l256]) (H2 := [.cells [.bool f2.never, .lst (List.map encFct f2.l) false], openM 6 encT l256]) rfl (by repeat (first | exact rzz | apply rcc rfl | apply rnn rfl)) rfl (?_ : GL _ _ _ _ _)
                refine L_seq ?_
                refine L_stmt ?_
                refine L_block ?_
                refine L_seq ?_
                refine L_stmt ?_
                refine L_reg ?_
                refine G_p rfl rfl rfl ?_
                refine G_h (v := .lst (List.map encFct f2.l) false) rfl rfl rfl (fun _ => rfl) ?_
                refine G_p rfl rfl rfl ?_
                refine G_h (v := .ro [.int .i64 y268.var, .int .i64 y268.tags]) rfl rfl rfl (ia_ev (cells := [.int .i64 y268.var, .int .i64 y268.tags]) rfl rfl (Int.natCast_nonneg _) (map_get (x := y268) (by rw [Int.toNat_natCast]; exact hy268)) (encFct_flat _) rfl) ?_
                refine G_p (v := .ro [.int .i64 y268.var, .int .i64 y268.tags]) rfl rfl rfl ?_
                refine G_h rfl rfl rfl (fun _ => rfl) ?_
                refine G_p rfl rfl rfl ?_
                refine G_p rfl rfl rfl ?_
                refine G_nil ?_
                refine L_nil ?_
                refine Sm_norm (e2 := [(3, .ptr 0 0), (5, .gl 1 (List.length l256)), (6, .int .i64 a146), (7, .int .i64 ((i269 : Nat) : Int)), (31, .bool (decide (y268.var = a146)))]) (H1 := [.cells [.bool f2.never, .lst (List.map encFct f2.l) false], openM 6 encT l256]) (H2 := [.cells [.bool f2.never, .lst (List.map encFct f2.l) false], openM 6 encT l256]) rfl (by repeat (first | exact rzz | apply rcc rfl | apply rnn rfl)) rfl (?_ : GL _ _ _ _ _)
                rcases cond_s hr with ⟨hc31, hr⟩ | ⟨hc31, hr⟩
                · refine L_T rfl hc31 ?_
                  refine L_drawT [] rfl ?_
                  refine GS_p rfl rfl rfl ?_
                  refine GS_p rfl rfl rfl ?_
                  refine GS_p rfl rfl rfl ?_
                  refine GS_p rfl rfl rfl ?_
                  obtain ⟨e276, he276, hr⟩ := bind_s hr
                  refine GS_h (d := some 36) rfl rfl rfl rfl (iao_ev encT_w1 rfl rfl rfl rfl (idx_s he276).1 (map_get (x := e276) (idx_s he276).2)) ?_
                  refine GS_h (d := some 37) (v := .agg (cT e276)) rfl rfl rfl rfl (ldao_ev (off := 0) rfl rfl rfl rfl (idx_s he276).2 (by decide) (by decide) (encT_flat _) rfl) ?_
                  refine GS_p rfl rfl rfl ?_
                  refine GS_h (d := some 39) (v := .lst (List.map encFct f2.l) false) rfl rfl rfl rfl (fun _ => rfl) ?_
                  refine GS_p rfl rfl rfl ?_
                  refine GS_h (d := some 41) (v := .ro [.int .i64 y268.var, .int .i64 y268.tags]) rfl rfl rfl rfl (ia_ev (cells := [.int .i64 y268.var, .int .i64 y268.tags]) rfl rfl (Int.natCast_nonneg _) (map_get (x := y268) (by rw [Int.toNat_natCast]; exact hy268)) (encFct_flat _) rfl) ?_
                  refine GS_p (v := .ro [.int .i64 y268.tags]) rfl rfl rfl ?_
                  refine GS_h (d := some 43) rfl rfl rfl rfl (fun _ => rfl) ?_
                  obtain ⟨r277, hr277, hr⟩ := bind_s hr
                  refine GS_c 21 rfl rfl rfl (CA_of (as := [.agg (cT e276), .int .i64 y268.tags]) rfl (g_r06_Keep_ok hr277)) ?_
                  obtain ⟨e278, he278, hr⟩ := bind_s hr
                  refine GS_h (d := some 45) rfl rfl rfl rfl (iao_ev encT_w1 rfl rfl rfl rfl (idx_s he278).1 (map_get (x := e278) (idx_s he278).2)) ?_
                  obtain ⟨l279, hl279, hr⟩ := bind_s hr
                  refine GS_h (d := none) (H' := [.cells [.bool f2.never, .lst (List.map encFct f2.l) false], openM 6 encT l279]) rfl rfl rfl rfl (stko_ev (off := 0) rfl rfl rfl rfl rfl (idx_s he278).2 (by decide) (by decide) ⟨rfl, rfl⟩ rfl (by (try simp only [encT_eq]); rfl) (setL_s hl279) rfl) ?_
                  refine GS_nil ?_
                  refine L_nil ?_
                  refine Blk_norm (?_ : GL _ _ _ _ _)
                  refine L_nil ?_
                  refine Sm_norm (e2 := [(3, .ptr 0 0), (5, .gl 1 (List.length l256)), (6, .int .i64 a146), (7, .int .i64 ((i269 : Nat) : Int))]) (H1 := [.cells [.bool f2.never, .lst (List.map encFct f2.l) false], openM 6 encT l279]) (H2 := [.cells [.bool f2.never, .lst (List.map encFct f2.l) false], openM 6 encT l279]) rfl (by repeat (first | exact rzz | apply rcc rfl | apply rnn rfl)) rfl (?_ : GL _ _ _ _ _)
                  refine L_reg ?_
                  refine G_p rfl rfl rfl ?_
                  refine G_v (.int .i64 ((i269 + 1 : Nat) : Int)) rfl rfl rfl (congrArg _ (wrap_next hLq267 hlti269)) ?_
                  refine G_p rfl rfl rfl ?_
                  refine G_nil ?_
                  refine L_nil ?_
                  refine Rd_norm ⟨l279, ?_, rfl, hr⟩
                  show restr _ _ = [(7, .int .i64 (((i269 + 1) : Nat) : Int)), (3, .ptr 0 0), (5, .gl 1 (List.length l279)), (6, .int .i64 a146)]
                  (try rw [show List.length l279 = List.length l256 from (setL_len hl279)])
                  (repeat (first | exact rzz | apply rcc rfl | apply rnn rfl))
                · refine L_F rfl hc31 ?_
                  refine L_skip ?_
                  refine L_nil ?_
                  refine Blk_norm (?_ : GL _ _ _ _ _)
                  refine L_nil ?_
                  refine Sm_norm (e2 := [(3, .ptr 0 0), (5, .gl 1 (List.length l256)), (6, .int .i64 a146), (7, .int .i64 ((i269 : Nat) : Int))]) (H1 := [.cells [.bool f2.never, .lst (List.map encFct f2.l) false], openM 6 encT l256]) (H2 := [.cells [.bool f2.never, .lst (List.map encFct f2.l) false], openM 6 encT l256]) rfl (by repeat (first | exact rzz | apply rcc rfl | apply rnn rfl)) rfl (?_ : GL _ _ _ _ _)
                  refine L_reg ?_
                  refine G_p rfl rfl rfl ?_
                  refine G_v (.int .i64 ((i269 + 1 : Nat) : Int)) rfl rfl rfl (congrArg _ (wrap_next hLq267 hlti269)) ?_
                  refine G_p rfl rfl rfl ?_
                  refine G_nil ?_
                  refine L_nil ?_
                  refine Rd_norm ⟨l256, ?_, rfl, hr⟩
                  show restr _ _ = [(7, .int .i64 (((i269 + 1) : Nat) : Int)), (3, .ptr 0 0), (5, .gl 1 (List.length l256)), (6, .int .i64 a146)]
                  (repeat (first | exact rzz | apply rcc rfl | apply rnn rfl))
            · rintro l244 hr
              show GL _ _ [(3, .ptr 0 0), (5, .gl 1 (List.length l244)), (6, .int .i64 a146)] [.cells [.bool f2.never, .lst (List.map encFct f2.l) false], openM 6 encT l244] _
              replace hr : g_r06_Apply_j4 f2 a146 (g_r06_Apply_l2 f2 m) l244 = some r := hr
              unfold g_r06_Apply_j4 at hr
              refine L_seq ?_
              refine L_stmt ?_
              refine L_reg ?_
              refine G_p rfl rfl rfl ?_
              refine G_h rfl rfl rfl (fun _ => rfl) ?_
              refine G_nil ?_
              refine L_nil ?_
              refine Sm_norm (e2 := [(3, .ptr 0 0), (5, .gl 1 (List.length l244)), (6, .int .i64 a146), (47, .bool f2.never)]) (H1 := [.cells [.bool f2.never, .lst (List.map encFct f2.l) false], openM 6 encT l244]) (H2 := [.cells [.bool f2.never, .lst (List.map encFct f2.l) false], openM 6 encT l244]) rfl (by repeat (first | exact rzz | apply rcc rfl | apply rnn rfl)) rfl (?_ : GL _ _ _ _ _)
              rcases cond_s hr with ⟨hc47, hr⟩ | ⟨hc47, hr⟩
              · refine L_T rfl hc47 ?_
                refine L_reg ?_
                refine G_p rfl rfl rfl ?_
                refine G_p rfl rfl rfl ?_
                refine G_p (v := .agg [.bool false, .int .i64 0, .int .i64 0, .lst [] true, .int .i64 0, .lst [] true]) rfl rfl rfl ?_
                obtain ⟨e245, he245, hr⟩ := bind_s hr
                refine G_h rfl rfl rfl (iao_ev encT_w1 rfl rfl rfl rfl (idx_s he245).1 (map_get (x := e245) (idx_s he245).2)) ?_
                obtain ⟨l246, hl246, hr⟩ := bind_s hr
                refine G_hn (H' := [.cells [.bool f2.never, .lst (List.map encFct f2.l) false], openM 6 encT l246]) rfl rfl rfl (stko_ev (off := 0) rfl rfl rfl rfl rfl (idx_s he245).2 (by decide) (by decide) ⟨rfl, rfl⟩ rfl (by (try simp only [encT_eq]); rfl) (setL_s hl246) rfl) ?_
                refine G_nil ?_
                refine L_nil ?_
                refine Blk_norm (?_ : GL _ _ _ _ _)
                refine L_nil ?_
                exact Sm_norm (e2 := [(3, .ptr 0 0), (5, .gl 1 (List.length l246)), (6, .int .i64 a146)]) (H1 := [.cells [.bool f2.never, .lst (List.map encFct f2.l) false], openM 6 encT l246]) (H2 := [.cells [.bool f2.never, .lst (List.map encFct f2.l) false], openM 6 encT l246]) rfl (by (try rw [show List.length l246 = List.length l244 from (setL_len hl246)]); (repeat (first | exact rzz | apply rcc rfl | apply rnn rfl))) rfl ⟨l246, rfl, rfl, hr⟩
              · refine L_F rfl hc47 ?_
                refine L_skip ?_
                refine L_nil ?_
                refine Blk_norm (?_ : GL _ _ _ _ _)
                refine L_nil ?_
                exact Sm_norm (e2 := [(3, .ptr 0 0), (5, .gl 1 (List.length l244)), (6, .int .i64 a146)]) (H1 := [.cells [.bool f2.never, .lst (List.map encFct f2.l) false], openM 6 encT l244]) (H2 := [.cells [.bool f2.never, .lst (List.map encFct f2.l) false], openM 6 encT l244]) rfl (by repeat (first | exact rzz | apply rcc rfl | apply rnn rfl)) rfl ⟨l244, rfl, rfl, hr⟩
          · rintro l214 hr
            show GL _ _ [(3, .ptr 0 0), (5, .gl 1 (List.length l214)), (6, .int .i64 a146)] [.cells [.bool f2.never, .lst (List.map encFct f2.l) false], openM 6 encT l214] _
            replace hr : g_r06_Apply_j3 a146 (g_r06_Apply_l2 f2 m) l214 = some r := hr
            unfold g_r06_Apply_j3 at hr
            refine L_reg ?_
            refine G_p rfl rfl rfl ?_
            refine G_p rfl rfl rfl ?_
            refine G_p rfl rfl rfl ?_
            refine G_nil ?_
            refine L_nil ?_
            refine Rd_norm ⟨(l214, (IntKind.wrap .i64 (a146 + 1))), ?_, rfl, hr⟩
            show restr _ _ = [(6, .int .i64 (IntKind.wrap .i64 (a146 + 1))), (3, .ptr 0 0), (5, .gl 1 (List.length l214))]
            (repeat (first | exact rzz | apply rcc rfl | apply rnn rfl))
        · refine L_F rfl hc14 ?_
          refine L_exit ?_
          refine Sm_exit ?_
          refine Rd_exit ?_
          refine Blk_exit (?_ : GL _ _ _ _ _)
          refine L_nil ?_
          exact Sm_norm (e2 := [(5, .gl 1 (List.length l145))]) (H1 := [.cells [.bool f2.never, .lst (List.map encFct f2.l) false], openM 6 encT l145]) (H2 := [.cells [.bool f2.never, .lst (List.map encFct f2.l) false], openM 6 encT l145]) rfl (by repeat (first | exact rzz | apply rcc rfl | apply rnn rfl)) rfl ⟨l145, rfl, rfl, hr⟩
    · rintro l109 hr
      show GL _ _ [(5, .gl 1 (List.length l109))] [.cells [.bool f2.never, .lst (List.map encFct f2.l) false], openM 6 encT l109] _
      replace hr : g_r06_Apply_j1 l109 = some r := hr
      unfold g_r06_Apply_j1 at hr
      refine L_seq ?_
      refine L_shutl (H' := [.cells [.bool f2.never, .lst (List.map encFct f2.l) false], growM 6 encT l109]) (seal_o rfl rfl rfl rfl) ?_
      refine L_seq ?_
      refine L_reg ?_
      refine G_p rfl rfl rfl ?_
      refine G_p rfl rfl rfl ?_
      refine G_nil ?_
      refine L_ret ?_
      have hr := some_s hr
      subst hr
      exact ⟨_, rfl, _, (shutR_gl rfl), rfl⟩
noncomputable def g_types_All : Option Ty :=
  some (Ty.mk true 0 0 [] 0 [])
theorem g_types_All_ok {r : Ty} (hr : g_types_All = some r) : PRes (tabOf tabL) 36 [] (.agg (cT r)) := by
  refine pres_fin t36 ?_
  unfold g_types_All at hr
  refine L_seq ?_
  refine L_reg ?_
  refine G_n (B := .cells [.bool false, .int .i64 0, .int .i64 0, .lst [] true, .int .i64 0, .lst [] true]) rfl rfl rfl ?_
  refine G_nil ?_
  refine L_seq ?_
  refine L_pruneH (e' := [(0, .ptr 0 0)]) (H1 := [.cells [.bool false, .int .i64 0, .int .i64 0, .lst [] true, .int .i64 0, .lst [] true]]) (by repeat (first | exact rzz | apply rcc rfl | apply rnn rfl)) rfl ?_
  refine L_seq ?_
  refine L_reg ?_
  refine G_p (v := .agg [.bool true, .int .i64 0, .int .i64 0, .lst [] true, .int .i64 0, .lst [] true]) rfl rfl rfl ?_
  refine G_hn (H' := [.cells [.bool true, .int .i64 0, .int .i64 0, .lst [] true, .int .i64 0, .lst [] true]]) rfl rfl rfl (fun _ => rfl) ?_
  refine G_nil ?_
  refine L_ret ?_
  have hr := some_s hr
  subst hr
  exact ⟨_, rfl, _, rfl, rfl⟩
noncomputable def g_types_Flat (tags1 : Int) : Option Ty :=
  some (Ty.mk false (andB .i64 tags1 63) 0 [] 0 [])
theorem g_types_Flat_ok {tags1 : Int} {r : Ty} (hr : g_types_Flat tags1 = some r) : PRes (tabOf tabL) 48 [.int .i64 tags1] (.agg (cT r)) := by
  refine pres_fin t48 ?_
  unfold g_types_Flat at hr
  refine L_seq ?_
  refine L_reg ?_
  refine G_n (B := .cells [.bool false, .int .i64 0, .int .i64 0, .lst [] true, .int .i64 0, .lst [] true]) rfl rfl rfl ?_
  refine G_nil ?_
  refine L_seq ?_
  refine L_pruneH (e' := [(0, .int .i64 tags1), (2, .ptr 0 0)]) (H1 := [.cells [.bool false, .int .i64 0, .int .i64 0, .lst [] true, .int .i64 0, .lst [] true]]) (by repeat (first | exact rzz | apply rcc rfl | apply rnn rfl)) rfl ?_
  refine L_seq ?_
  refine L_reg ?_
  refine G_p rfl rfl rfl ?_
  refine G_p rfl rfl rfl ?_
  refine G_p (v := .agg [.bool false, .int .i64 (andB .i64 tags1 63), .int .i64 0, .lst [] true, .int .i64 0, .lst [] true]) rfl rfl rfl ?_
  refine G_hn (H' := [.cells [.bool false, .int .i64 (andB .i64 tags1 63), .int .i64 0, .lst [] true, .int .i64 0, .lst [] true]]) rfl rfl rfl (fun _ => rfl) ?_
  refine G_nil ?_
  refine L_ret ?_
  have hr := some_s hr
  subst hr
  exact ⟨_, rfl, _, rfl, rfl⟩
noncomputable def g_types_Pair (a1 : Ty) (b2 : Ty) : Option Ty :=
  some (Ty.mk false 0 1 [a1, b2] 0 [])
abbrev kg012 (a1 : Ty) : ABlock := .cells [.bool a1.all, .int .i64 a1.flat, .int .i64 a1.pair, .lst (List.map encT a1.pairs) false, .int .i64 a1.fn, .lst (List.map encT a1.funs) false]
abbrev kg013 (b2 : Ty) : ABlock := .cells [.bool b2.all, .int .i64 b2.flat, .int .i64 b2.pair, .lst (List.map encT b2.pairs) false, .int .i64 b2.fn, .lst (List.map encT b2.funs) false]
theorem g_types_Pair_ok {a1 : Ty} {b2 : Ty} {r : Ty} (hr : g_types_Pair a1 b2 = some r) : PRes (tabOf tabL) 49 [.agg (cT a1), .agg (cT b2)] (.agg (cT r)) := by
  refine pres_fin t49 ?_
  unfold g_types_Pair at hr
  refine L_seq ?_
  refine L_reg ?_
  refine G_n (B := (kg012 a1)) rfl rfl rfl ?_
  refine G_n (B := (kg013 b2)) rfl rfl rfl ?_
  refine G_n (B := .cells [.bool false, .int .i64 0, .int .i64 0, .lst [] true, .int .i64 0, .lst [] true]) rfl rfl rfl ?_
  refine G_nil ?_
  refine L_seq ?_
  refine L_pruneH (e' := [(2, .ptr 0 0), (3, .ptr 1 0), (4, .ptr 2 0)]) (H1 := [(kg012 a1), (kg013 b2), .cells [.bool false, .int .i64 0, .int .i64 0, .lst [] true, .int .i64 0, .lst [] true]]) (by repeat (first | exact rzz | apply rcc rfl | apply rnn rfl)) rfl ?_
  refine L_seq ?_
  refine L_reg ?_
  refine G_h (v := .agg (cT a1)) rfl rfl rfl (fun _ => rfl) ?_
  refine G_h (v := .agg (cT b2)) rfl rfl rfl (fun _ => rfl) ?_
  refine G_h (v := .lst (List.map encT [a1, b2]) true) rfl rfl rfl (fun _ => Eq.trans (b := some (Ex.ok (AVal.lst [.agg (cT a1), .agg (cT b2)] true), _)) rfl (congrArg (fun z => some (Ex.ok (AVal.lst z true), _)) (by first | rfl | (simp only [List.map_cons, List.map_nil, encT_eq] <;> rfl)))) ?_
  refine G_p (v := .agg [.bool false, .int .i64 0, .int .i64 1, .lst (List.map encT [a1, b2]) true, .int .i64 0, .lst [] true]) rfl rfl rfl ?_
  refine G_hn (H' := [(kg012 a1), (kg013 b2), .cells [.bool false, .int .i64 0, .int .i64 1, .lst (List.map encT [a1, b2]) true, .int .i64 0, .lst [] true]]) rfl rfl rfl (fun _ => rfl) ?_
  refine G_nil ?_
  refine L_ret ?_
  have hr := some_s hr
  subst hr
  exact ⟨_, rfl, _, rfl, rfl⟩
noncomputable def g_narrow_Keep_j1 (tags2 : Int) (b8 : Bool) (a9 : Int) (a14 : Int) (l15 : List Ty) (a16 : Int) (l17 : List Ty) : Option Ty :=
  some (Ty.mk b8 (andB .i64 a9 tags2) a14 l15 a16 l17)
noncomputable def g_narrow_Keep_j2 (tags2 : Int) (b8 : Bool) (a9 : Int) (a12 : Int) (l13 : List Ty) (a14 : Int) (l15 : List Ty) : Option Ty :=
  (cond (decide ((andB .i64 tags2 128) = 0)) (g_narrow_Keep_j1 tags2 b8 a9 a14 l15 0 []) (g_narrow_Keep_j1 tags2 b8 a9 a14 l15 a12 l13))
noncomputable def g_narrow_Keep_j3 (tags2 : Int) (b8 : Bool) (a9 : Int) (a10 : Int) (l11 : List Ty) (a12 : Int) (l13 : List Ty) : Option Ty :=
  (cond (decide ((andB .i64 tags2 64) = 0)) (g_narrow_Keep_j2 tags2 b8 a9 a12 l13 0 []) (g_narrow_Keep_j2 tags2 b8 a9 a12 l13 a10 l11))
noncomputable def g_narrow_Keep (t1 : Ty) (tags2 : Int) : Option Ty :=
  (cond t1.all (cond (decide ((andB .i64 tags2 255) = 255)) (some t1) ((g_types_Flat 63).bind fun r18 => ((g_types_All).bind fun r19 => ((g_types_All).bind fun r20 => ((g_types_Pair r19 r20).bind fun r21 => ((oJoin r18 r21).bind fun r22 => g_narrow_Keep_j3 tags2 r22.all r22.flat r22.pair r22.pairs 2 r22.funs)))))) (g_narrow_Keep_j3 tags2 t1.all t1.flat t1.pair t1.pairs t1.fn t1.funs))
abbrev kg014 (t1 : Ty) : ABlock := .cells [.bool t1.all, .int .i64 t1.flat, .int .i64 t1.pair, .lst (List.map encT t1.pairs) false, .int .i64 t1.fn, .lst (List.map encT t1.funs) false]
abbrev kg015 (b8 : Bool) (a9 : Int) (tags2 : Int) (a10 : Int) (l11 : List Ty) (a12 : Int) (l13 : List Ty) : ABlock := .cells [.bool b8, .int .i64 (andB .i64 a9 tags2), .int .i64 a10, .lst (List.map encT l11) false, .int .i64 a12, .lst (List.map encT l13) false]
abbrev kg016 (b8 : Bool) (a9 : Int) (tags2 : Int) (a14 : Int) (l15 : List Ty) (a12 : Int) (l13 : List Ty) : ABlock := .cells [.bool b8, .int .i64 (andB .i64 a9 tags2), .int .i64 a14, .lst (List.map encT l15) false, .int .i64 a12, .lst (List.map encT l13) false]
abbrev kg017 (b8 : Bool) (a9 : Int) (tags2 : Int) (a14 : Int) (l15 : List Ty) (a16 : Int) (l17 : List Ty) : ABlock := .cells [.bool b8, .int .i64 (andB .i64 a9 tags2), .int .i64 a14, .lst (List.map encT l15) false, .int .i64 a16, .lst (List.map encT l17) false]
abbrev kg018 : ABlock := .cells [.bool false, .int .i64 0, .int .i64 0, .lst [] true, .int .i64 0, .lst [] true]
theorem g_narrow_Keep_ok {t1 : Ty} {tags2 : Int} {r : Ty} (hr : g_narrow_Keep t1 tags2 = some r) : PRes (tabOf tabL) 20 [.agg (cT t1), .int .i64 tags2] (.agg (cT r)) := by
  refine pres_fin t20 ?_
  unfold g_narrow_Keep at hr
  refine L_seq ?_
  refine L_stmt ?_
  refine L_reg ?_
  refine G_n (B := (kg014 t1)) rfl rfl rfl ?_
  refine G_n (B := kg018) rfl rfl rfl ?_
  refine G_nil ?_
  refine L_nil ?_
  refine Sm_norm (e2 := [(1, .int .i64 tags2), (2, .ptr 0 0), (4, .ptr 1 0)]) (H1 := [(kg014 t1), kg018]) (H2 := [(kg014 t1), kg018]) rfl (by repeat (first | exact rzz | apply rcc rfl | apply rnn rfl)) rfl (?_ : GL _ _ _ _ _)
  refine L_seq ?_
  refine L_stmtJ (S := Bool × Int × Int × List Ty × Int × List Ty) (fun s => [(1, .int .i64 tags2), (2, .ptr 0 0), (4, .ptr 1 0)]) (fun s => [.cells [.bool s.1, .int .i64 s.2.1, .int .i64 s.2.2.1, .lst (List.map encT s.2.2.2.1) false, .int .i64 s.2.2.2.2.1, .lst (List.map encT s.2.2.2.2.2) false], kg018]) (fun s => g_narrow_Keep_j3 tags2 s.1 s.2.1 s.2.2.1 s.2.2.2.1 s.2.2.2.2.1 s.2.2.2.2.2 = some r) ?_ ?_
  · skip
    refine L_seq ?_
    refine L_stmt ?_
    refine L_reg ?_
    refine G_p rfl rfl rfl ?_
    refine G_h rfl rfl rfl (fun _ => rfl) ?_
    refine G_nil ?_
    refine L_nil ?_
    refine Sm_norm (e2 := [(1, .int .i64 tags2), (2, .ptr 0 0), (4, .ptr 1 0), (6, .bool t1.all)]) (H1 := [(kg014 t1), kg018]) (H2 := [(kg014 t1), kg018]) rfl (by repeat (first | exact rzz | apply rcc rfl | apply rnn rfl)) rfl (?_ : GL _ _ _ _ _)
    rcases cond_s hr with ⟨hc6, hr⟩ | ⟨hc6, hr⟩
    · refine L_T rfl hc6 ?_
      refine L_seq ?_
      refine L_stmt ?_
      refine L_seq ?_
      refine L_stmt ?_
      refine L_reg ?_
      refine G_p rfl rfl rfl ?_
      refine G_p rfl rfl rfl ?_
      refine G_p rfl rfl rfl ?_
      refine G_nil ?_
      refine L_nil ?_
      refine Sm_norm (e2 := [(1, .int .i64 tags2), (2, .ptr 0 0), (4, .ptr 1 0), (9, .bool (decide ((andB .i64 tags2 255) = 255)))]) (H1 := [(kg014 t1), kg018]) (H2 := [(kg014 t1), kg018]) rfl (by repeat (first | exact rzz | apply rcc rfl | apply rnn rfl)) rfl (?_ : GL _ _ _ _ _)
      rcases cond_s hr with ⟨hc9, hr⟩ | ⟨hc9, hr⟩
      · refine L_T rfl hc9 ?_
        refine L_seq ?_
        refine L_reg ?_
        refine G_h (v := .agg (cT t1)) rfl rfl rfl (fun _ => rfl) ?_
        refine G_hn (H' := [(kg014 t1), (kg014 t1)]) rfl rfl rfl (fun _ => rfl) ?_
        refine G_nil ?_
        refine L_ret ?_
        refine Sm_ret ?_
        refine Sm_ret ?_
        have hr := some_s hr
        subst hr
        exact ⟨_, rfl, _, rfl, rfl⟩
      · refine L_F rfl hc9 ?_
        refine L_skip ?_
        refine L_nil ?_
        refine Sm_norm (e2 := [(1, .int .i64 tags2), (2, .ptr 0 0), (4, .ptr 1 0)]) (H1 := [(kg014 t1), kg018]) (H2 := [(kg014 t1), kg018]) rfl (by repeat (first | exact rzz | apply rcc rfl | apply rnn rfl)) rfl (?_ : GL _ _ _ _ _)
        refine L_seq ?_
        refine L_stmt ?_
        refine L_reg ?_
        obtain ⟨r18, hr18, hr⟩ := bind_s hr
        refine G_c 48 rfl rfl (CA_of (as := [.int .i64 63]) rfl (g_types_Flat_ok hr18)) ?_
        obtain ⟨r19, hr19, hr⟩ := bind_s hr
        refine G_c 36 rfl rfl (CA_of (as := []) rfl (g_types_All_ok hr19)) ?_
        obtain ⟨r20, hr20, hr⟩ := bind_s hr
        refine G_c 36 rfl rfl (CA_of (as := []) rfl (g_types_All_ok hr20)) ?_
        obtain ⟨r21, hr21, hr⟩ := bind_s hr
        refine G_c 49 rfl rfl (CA_of (as := [.agg (cT r19), .agg (cT r20)]) rfl (g_types_Pair_ok hr21)) ?_
        obtain ⟨r22, hr22, hr⟩ := bind_s hr
        refine G_c 31 rfl rfl (CA_of (as := [.agg (cT r18), .agg (cT r21)]) rfl (oJoin_ok hr22)) ?_
        refine G_hn (H' := [.cells [.bool r22.all, .int .i64 r22.flat, .int .i64 r22.pair, .lst (List.map encT r22.pairs) false, .int .i64 r22.fn, .lst (List.map encT r22.funs) false], kg018]) rfl rfl rfl (fun _ => rfl) ?_
        refine G_nil ?_
        refine L_nil ?_
        refine Sm_norm (e2 := [(1, .int .i64 tags2), (2, .ptr 0 0), (4, .ptr 1 0)]) (H1 := [.cells [.bool r22.all, .int .i64 r22.flat, .int .i64 r22.pair, .lst (List.map encT r22.pairs) false, .int .i64 r22.fn, .lst (List.map encT r22.funs) false], kg018]) (H2 := [.cells [.bool r22.all, .int .i64 r22.flat, .int .i64 r22.pair, .lst (List.map encT r22.pairs) false, .int .i64 r22.fn, .lst (List.map encT r22.funs) false], kg018]) rfl (by repeat (first | exact rzz | apply rcc rfl | apply rnn rfl)) rfl (?_ : GL _ _ _ _ _)
        refine L_reg ?_
        refine G_p rfl rfl rfl ?_
        refine G_hn (H' := [.cells [.bool r22.all, .int .i64 r22.flat, .int .i64 r22.pair, .lst (List.map encT r22.pairs) false, .int .i64 2, .lst (List.map encT r22.funs) false], kg018]) rfl rfl rfl (fun _ => rfl) ?_
        refine G_nil ?_
        refine L_nil ?_
        exact Sm_norm (e2 := [(1, .int .i64 tags2), (2, .ptr 0 0), (4, .ptr 1 0)]) (H1 := [.cells [.bool r22.all, .int .i64 r22.flat, .int .i64 r22.pair, .lst (List.map encT r22.pairs) false, .int .i64 2, .lst (List.map encT r22.funs) false], kg018]) (H2 := [.cells [.bool r22.all, .int .i64 r22.flat, .int .i64 r22.pair, .lst (List.map encT r22.pairs) false, .int .i64 2, .lst (List.map encT r22.funs) false], kg018]) rfl (by repeat (first | exact rzz | apply rcc rfl | apply rnn rfl)) rfl ⟨(r22.all, r22.flat, r22.pair, r22.pairs, 2, r22.funs), rfl, rfl, hr⟩
    · refine L_F rfl hc6 ?_
      refine L_skip ?_
      refine L_nil ?_
      exact Sm_norm (e2 := [(1, .int .i64 tags2), (2, .ptr 0 0), (4, .ptr 1 0)]) (H1 := [(kg014 t1), kg018]) (H2 := [(kg014 t1), kg018]) rfl (by repeat (first | exact rzz | apply rcc rfl | apply rnn rfl)) rfl ⟨(t1.all, t1.flat, t1.pair, t1.pairs, t1.fn, t1.funs), rfl, rfl, hr⟩
  · rintro ⟨b8, a9, a10, l11, a12, l13⟩ hr
    show GL _ _ [(1, .int .i64 tags2), (2, .ptr 0 0), (4, .ptr 1 0)] [.cells [.bool b8, .int .i64 a9, .int .i64 a10, .lst (List.map encT l11) false, .int .i64 a12, .lst (List.map encT l13) false], kg018] _
    replace hr : g_narrow_Keep_j3 tags2 b8 a9 a10 l11 a12 l13 = some r := hr
    unfold g_narrow_Keep_j3 at hr
    refine L_seq ?_
    refine L_stmt ?_
    refine L_reg ?_
    refine G_p rfl rfl rfl ?_
    refine G_h rfl rfl rfl (fun _ => rfl) ?_
    refine G_p rfl rfl rfl ?_
    refine G_p rfl rfl rfl ?_
    refine G_p rfl rfl rfl ?_
    refine G_hn (H' := [(kg015 b8 a9 tags2 a10 l11 a12 l13), kg018]) rfl rfl rfl (fun _ => rfl) ?_
    refine G_nil ?_
    refine L_nil ?_
    refine Sm_norm (e2 := [(1, .int .i64 tags2), (2, .ptr 0 0), (4, .ptr 1 0)]) (H1 := [(kg015 b8 a9 tags2 a10 l11 a12 l13), kg018]) (H2 := [(kg015 b8 a9 tags2 a10 l11 a12 l13), kg018]) rfl (by repeat (first | exact rzz | apply rcc rfl | apply rnn rfl)) rfl (?_ : GL _ _ _ _ _)
    refine L_seq ?_
    refine L_stmtJ (S := Int × List Ty) (fun s => [(1, .int .i64 tags2), (2, .ptr 0 0), (4, .ptr 1 0)]) (fun s => [.cells [.bool b8, .int .i64 (andB .i64 a9 tags2), .int .i64 s.1, .lst (List.map encT s.2) false, .int .i64 a12, .lst (List.map encT l13) false], kg018]) (fun s => g_narrow_Keep_j2 tags2 b8 a9 a12 l13 s.1 s.2 = some r) ?_ ?_
    · skip
      refine L_seq ?_
      refine L_stmt ?_
      refine L_reg ?_
      refine G_p rfl rfl rfl ?_
      refine G_p rfl rfl rfl ?_
      refine G_p rfl rfl rfl ?_
      refine G_nil ?_
      refine L_nil ?_
      refine Sm_norm (e2 := [(1, .int .i64 tags2), (2, .ptr 0 0), (4, .ptr 1 0), (24, .bool (decide ((andB .i64 tags2 64) = 0)))]) (H1 := [(kg015 b8 a9 tags2 a10 l11 a12 l13), kg018]) (H2 := [(kg015 b8 a9 tags2 a10 l11 a12 l13), kg018]) rfl (by repeat (first | exact rzz | apply rcc rfl | apply rnn rfl)) rfl (?_ : GL _ _ _ _ _)
      rcases cond_s hr with ⟨hc24, hr⟩ | ⟨hc24, hr⟩
      · refine L_T rfl hc24 ?_
        refine L_reg ?_
        refine G_p rfl rfl rfl ?_
        refine G_hn (H' := [.cells [.bool b8, .int .i64 (andB .i64 a9 tags2), .int .i64 0, .lst (List.map encT l11) false, .int .i64 a12, .lst (List.map encT l13) false], kg018]) rfl rfl rfl (fun _ => rfl) ?_
        refine G_p rfl rfl rfl ?_
        refine G_hn (H' := [.cells [.bool b8, .int .i64 (andB .i64 a9 tags2), .int .i64 0, .lst [] true, .int .i64 a12, .lst (List.map encT l13) false], kg018]) rfl rfl rfl (fun _ => rfl) ?_
        refine G_nil ?_
        refine L_nil ?_
        exact Sm_norm (e2 := [(1, .int .i64 tags2), (2, .ptr 0 0), (4, .ptr 1 0)]) (H1 := [.cells [.bool b8, .int .i64 (andB .i64 a9 tags2), .int .i64 0, .lst [] false, .int .i64 a12, .lst (List.map encT l13) false], kg018]) (H2 := [.cells [.bool b8, .int .i64 (andB .i64 a9 tags2), .int .i64 0, .lst (List.map encT []) false, .int .i64 a12, .lst (List.map encT l13) false], kg018]) (frz_c (frz_lstC (H2 := [.cells [.bool b8, .int .i64 (andB .i64 a9 tags2), .int .i64 0, .lst [] false, .int .i64 a12, .lst (List.map encT l13) false], kg018]) rfl rfl rfl rfl) rfl) (by repeat (first | exact rzz | apply rcc rfl | apply rnn rfl)) rfl ⟨(0, []), rfl, rfl, hr⟩
      · refine L_F rfl hc24 ?_
        refine L_skip ?_
        refine L_nil ?_
        exact Sm_norm (e2 := [(1, .int .i64 tags2), (2, .ptr 0 0), (4, .ptr 1 0)]) (H1 := [(kg015 b8 a9 tags2 a10 l11 a12 l13), kg018]) (H2 := [(kg015 b8 a9 tags2 a10 l11 a12 l13), kg018]) (frz_c (frz_lstC (H2 := [(kg015 b8 a9 tags2 a10 l11 a12 l13), kg018]) rfl rfl rfl rfl) rfl) (by repeat (first | exact rzz | apply rcc rfl | apply rnn rfl)) rfl ⟨(a10, l11), rfl, rfl, hr⟩
    · rintro ⟨a14, l15⟩ hr
      show GL _ _ [(1, .int .i64 tags2), (2, .ptr 0 0), (4, .ptr 1 0)] [(kg016 b8 a9 tags2 a14 l15 a12 l13), kg018] _
      replace hr : g_narrow_Keep_j2 tags2 b8 a9 a12 l13 a14 l15 = some r := hr
      unfold g_narrow_Keep_j2 at hr
      refine L_seq ?_
      refine L_stmtJ (S := Int × List Ty) (fun s => [(2, .ptr 0 0), (4, .ptr 1 0)]) (fun s => [.cells [.bool b8, .int .i64 (andB .i64 a9 tags2), .int .i64 a14, .lst (List.map encT l15) false, .int .i64 s.1, .lst (List.map encT s.2) false], kg018]) (fun s => g_narrow_Keep_j1 tags2 b8 a9 a14 l15 s.1 s.2 = some r) ?_ ?_
      · skip
        refine L_seq ?_
        refine L_stmt ?_
        refine L_reg ?_
        refine G_p rfl rfl rfl ?_
        refine G_p rfl rfl rfl ?_
        refine G_p rfl rfl rfl ?_
        refine G_nil ?_
        refine L_nil ?_
        refine Sm_norm (e2 := [(2, .ptr 0 0), (4, .ptr 1 0), (29, .bool (decide ((andB .i64 tags2 128) = 0)))]) (H1 := [(kg016 b8 a9 tags2 a14 l15 a12 l13), kg018]) (H2 := [(kg016 b8 a9 tags2 a14 l15 a12 l13), kg018]) rfl (by repeat (first | exact rzz | apply rcc rfl | apply rnn rfl)) rfl (?_ : GL _ _ _ _ _)
        rcases cond_s hr with ⟨hc29, hr⟩ | ⟨hc29, hr⟩
        · refine L_T rfl hc29 ?_
          refine L_reg ?_
          refine G_p rfl rfl rfl ?_
          refine G_hn (H' := [.cells [.bool b8, .int .i64 (andB .i64 a9 tags2), .int .i64 a14, .lst (List.map encT l15) false, .int .i64 0, .lst (List.map encT l13) false], kg018]) rfl rfl rfl (fun _ => rfl) ?_
          refine G_p rfl rfl rfl ?_
          refine G_hn (H' := [.cells [.bool b8, .int .i64 (andB .i64 a9 tags2), .int .i64 a14, .lst (List.map encT l15) false, .int .i64 0, .lst [] true], kg018]) rfl rfl rfl (fun _ => rfl) ?_
          refine G_nil ?_
          refine L_nil ?_
          exact Sm_norm (e2 := [(2, .ptr 0 0), (4, .ptr 1 0)]) (H1 := [.cells [.bool b8, .int .i64 (andB .i64 a9 tags2), .int .i64 a14, .lst (List.map encT l15) false, .int .i64 0, .lst [] false], kg018]) (H2 := [.cells [.bool b8, .int .i64 (andB .i64 a9 tags2), .int .i64 a14, .lst (List.map encT l15) false, .int .i64 0, .lst (List.map encT []) false], kg018]) (frz_c (frz_lstC (H2 := [.cells [.bool b8, .int .i64 (andB .i64 a9 tags2), .int .i64 a14, .lst (List.map encT l15) false, .int .i64 0, .lst [] false], kg018]) rfl rfl rfl rfl) rfl) (by repeat (first | exact rzz | apply rcc rfl | apply rnn rfl)) rfl ⟨(0, []), rfl, rfl, hr⟩
        · refine L_F rfl hc29 ?_
          refine L_skip ?_
          refine L_nil ?_
          exact Sm_norm (e2 := [(2, .ptr 0 0), (4, .ptr 1 0)]) (H1 := [(kg016 b8 a9 tags2 a14 l15 a12 l13), kg018]) (H2 := [(kg016 b8 a9 tags2 a14 l15 a12 l13), kg018]) (frz_c (frz_lstC (H2 := [(kg016 b8 a9 tags2 a14 l15 a12 l13), kg018]) rfl rfl rfl rfl) rfl) (by repeat (first | exact rzz | apply rcc rfl | apply rnn rfl)) rfl ⟨(a12, l13), rfl, rfl, hr⟩
      · rintro ⟨a16, l17⟩ hr
        show GL _ _ [(2, .ptr 0 0), (4, .ptr 1 0)] [(kg017 b8 a9 tags2 a14 l15 a16 l17), kg018] _
        replace hr : g_narrow_Keep_j1 tags2 b8 a9 a14 l15 a16 l17 = some r := hr
        unfold g_narrow_Keep_j1 at hr
        refine L_seq ?_
        refine L_reg ?_
        refine G_h (v := .agg [.bool b8, .int .i64 (andB .i64 a9 tags2), .int .i64 a14, .lst (List.map encT l15) false, .int .i64 a16, .lst (List.map encT l17) false]) rfl rfl rfl (fun _ => rfl) ?_
        refine G_hn (H' := [(kg017 b8 a9 tags2 a14 l15 a16 l17), (kg017 b8 a9 tags2 a14 l15 a16 l17)]) rfl rfl rfl (fun _ => rfl) ?_
        refine G_nil ?_
        refine L_ret ?_
        have hr := some_s hr
        subst hr
        exact ⟨_, rfl, _, rfl, rfl⟩
noncomputable def g_narrow_Apply_j1 (l33 : List Ty) : Option (List Ty) :=
  some l33
noncomputable def g_narrow_Apply_l2 : List Fct → Nat → (List Ty) → Option (List Ty)
  | [], _, l42 => g_narrow_Apply_j1 l42
  | y53 :: rest55, i54, l42 => (cond ((decide (0 ≤ y53.var)) && (decide (y53.var < ((List.length l42 : Nat) : Int)))) ((idx l42 y53.var).bind fun e61 => ((g_narrow_Keep e61 y53.tags).bind fun r62 => ((idx l42 y53.var).bind fun e63 => ((setL l42 y53.var r62).bind fun l64 => (g_narrow_Apply_l2 rest55 (i54 + 1)) l64)))) ((g_narrow_Apply_l2 rest55 (i54 + 1)) l42))
noncomputable def g_narrow_Apply_j3 (env1 : List Ty) (f2 : Fts) : Option (List Ty) :=
  (cond (okLen f2.l) (g_narrow_Apply_l2 f2.l 0 env1) none)
noncomputable def g_narrow_Apply (env1 : List Ty) (f2 : Fts) : Option (List Ty) :=
  (cond f2.never ((makL (Ty.mk false 0 0 [] 0 []) ((List.length env1 : Nat) : Int)).bind fun l4 => some l4) (cond (okLen env1) (g_narrow_Apply_j3 env1 f2) none))
theorem g_narrow_Apply_ok {env1 : List Ty} {f2 : Fts} {r : List Ty} (hr : g_narrow_Apply env1 f2 = some r) : PRes (tabOf tabL) 17 [.lst (List.map encT env1) false, .agg (cFts f2)] (.lst (List.map encT r) false) := by
  refine pres_fin t17 ?_
  unfold g_narrow_Apply at hr
  refine L_seq ?_
  refine L_stmt ?_
  refine L_reg ?_
  refine G_n (B := .cells [.bool f2.never, .lst (List.map encFct f2.l) false]) rfl rfl rfl ?_
  refine G_p (v := .lst [] true) rfl rfl rfl ?_
  refine G_nil ?_
  refine L_nil ?_
  refine Sm_norm (e2 := [(0, .lst (List.map encT env1) false), (3, .ptr 0 0)]) (H1 := [.cells [.bool f2.never, .lst (List.map encFct f2.l) false]]) (H2 := [.cells [.bool f2.never, .lst (List.map encFct f2.l) false]]) rfl (by repeat (first | exact rzz | apply rcc rfl | apply rnn rfl)) rfl (?_ : GL _ _ _ _ _)
  refine L_seq ?_
  refine L_stmt ?_
  refine L_seq ?_
  refine L_stmt ?_
  refine L_reg ?_
  refine G_p rfl rfl rfl ?_
  refine G_h rfl rfl rfl (fun _ => rfl) ?_
  refine G_nil ?_
  refine L_nil ?_
  refine Sm_norm (e2 := [(0, .lst (List.map encT env1) false), (3, .ptr 0 0), (9, .bool f2.never)]) (H1 := [.cells [.bool f2.never, .lst (List.map encFct f2.l) false]]) (H2 := [.cells [.bool f2.never, .lst (List.map encFct f2.l) false]]) rfl (by repeat (first | exact rzz | apply rcc rfl | apply rnn rfl)) rfl (?_ : GL _ _ _ _ _)
  rcases cond_s hr with ⟨hc9, hr⟩ | ⟨hc9, hr⟩
  · refine L_T rfl hc9 ?_
    refine L_seq ?_
    refine L_reg ?_
    refine G_p (v := .lst (List.map encT env1) false) rfl rfl rfl ?_
    refine G_h rfl rfl rfl (lenL_ev rfl (List.length_map _)) ?_
    obtain ⟨l4, hl4, hr⟩ := bind_s hr
    refine G_n rfl rfl (mks_ev rfl rfl (by decide) rfl rfl hl4) ?_
    refine G_p rfl rfl rfl ?_
    refine G_nil ?_
    refine L_ret ?_
    refine Sm_ret ?_
    have hr := some_s hr
    subst hr
    exact ⟨_, rfl, _, (shutR_ms (f := encT) (z := (Ty.mk false 0 0 [] 0 [])) rfl rfl (by (try simp only [encT_eq]); rfl) encT_w1 hl4), rfl⟩
  · refine L_F rfl hc9 ?_
    refine L_skip ?_
    refine L_nil ?_
    refine Sm_norm (e2 := [(0, .lst (List.map encT env1) false), (3, .ptr 0 0)]) (H1 := [.cells [.bool f2.never, .lst (List.map encFct f2.l) false]]) (H2 := [.cells [.bool f2.never, .lst (List.map encFct f2.l) false]]) rfl (by repeat (first | exact rzz | apply rcc rfl | apply rnn rfl)) rfl (?_ : GL _ _ _ _ _)
    refine L_seq ?_
    refine L_stmtJ (S := Unit) (fun s => [(3, .ptr 0 0), (5, .gl 1 (List.length env1))]) (fun s => [.cells [.bool f2.never, .lst (List.map encFct f2.l) false], openM 6 encT env1]) (fun s => g_narrow_Apply_j3 env1 f2 = some r) ?_ ?_
    · skip
      refine L_seq ?_
      refine L_reg ?_
      refine G_p (v := .lst (List.map encT env1) false) rfl rfl rfl ?_
      obtain ⟨hLq65, hr⟩ := guard_s hr
      rcases emp_or env1 with hEq65 | hEq65
      · skip
        refine G_c 47 rfl rfl (CA_raw (cloneo_e (f := encT) (ys := env1) t47 encT_w1 rfl hEq65) (by simp [cutH] <;> rfl)) ?_
        refine G_p (v := .lst (List.map encT env1) true) rfl rfl rfl ?_
        refine G_nil ?_
        refine L_own (H' := [.cells [.bool f2.never, .lst (List.map encFct f2.l) false], openM 6 encT env1]) (own_e (w := 6) rfl hEq65) ?_
        refine L_nil ?_
        exact Sm_norm (e2 := [(3, .ptr 0 0), (5, .gl 1 (List.length env1))]) (H1 := [.cells [.bool f2.never, .lst (List.map encFct f2.l) false], openM 6 encT env1]) (H2 := [.cells [.bool f2.never, .lst (List.map encFct f2.l) false], openM 6 encT env1]) rfl (by repeat (first | exact rzz | apply rcc rfl | apply rnn rfl)) rfl ⟨(), rfl, rfl, hr⟩
      · skip
        refine G_c 47 rfl rfl (CA_raw (cloneo_n (f := encT) (ys := env1) t47 encT_w1 (by decide) rfl hEq65 hLq65) (by simp [cutH, lowV] <;> rfl)) ?_
        refine G_p rfl rfl rfl ?_
        refine G_nil ?_
        refine L_own (H' := [.cells [.bool f2.never, .lst (List.map encFct f2.l) false], openM 6 encT env1]) rfl ?_
        refine L_nil ?_
        exact Sm_norm (e2 := [(3, .ptr 0 0), (5, .gl 1 (List.length env1))]) (H1 := [.cells [.bool f2.never, .lst (List.map encFct f2.l) false], openM 6 encT env1]) (H2 := [.cells [.bool f2.never, .lst (List.map encFct f2.l) false], openM 6 encT env1]) rfl (by repeat (first | exact rzz | apply rcc rfl | apply rnn rfl)) rfl ⟨(), rfl, rfl, hr⟩
    · rintro ⟨⟩ hr
      show GL _ _ [(3, .ptr 0 0), (5, .gl 1 (List.length env1))] [.cells [.bool f2.never, .lst (List.map encFct f2.l) false], openM 6 encT env1] _
      replace hr : g_narrow_Apply_j3 env1 f2 = some r := hr
      unfold g_narrow_Apply_j3 at hr
      refine L_seq ?_
      refine L_stmtJ (S := List Ty) (fun s => [(5, .gl 1 (List.length s))]) (fun s => [.cells [.bool f2.never, .lst (List.map encFct f2.l) false], openM 6 encT s]) (fun s => g_narrow_Apply_j1 s = some r) ?_ ?_
      · skip
        refine L_seq ?_
        refine L_stmt ?_
        refine L_reg ?_
        refine G_p rfl rfl rfl ?_
        refine G_h (v := .lst (List.map encFct f2.l) false) rfl rfl rfl (fun _ => rfl) ?_
        refine G_h rfl rfl rfl (lenL_ev rfl (List.length_map _)) ?_
        refine G_p rfl rfl rfl ?_
        refine G_nil ?_
        refine L_nil ?_
        refine Sm_norm (e2 := [(5, .gl 1 (List.length env1)), (16, .lst (List.map encFct f2.l) false), (17, .int .i64 ((List.length f2.l : Nat) : Int)), (18, .int .i64 0)]) (H1 := [.cells [.bool f2.never, .lst (List.map encFct f2.l) false], openM 6 encT env1]) (H2 := [.cells [.bool f2.never, .lst (List.map encFct f2.l) false], openM 6 encT env1]) rfl (by repeat (first | exact rzz | apply rcc rfl | apply rnn rfl)) rfl (?_ : GL _ _ _ _ _)
        refine L_block ?_
        obtain ⟨hLq52, hr⟩ := guard_s hr
        replace hLq52 := okLen_s hLq52
        refine L_range (X := Fct) (S := List Ty) f2.l (fun i54 s => [(18, .int .i64 ((i54 : Nat) : Int)), (5, .gl 1 (List.length s)), (16, .lst (List.map encFct f2.l) false), (17, .int .i64 ((List.length f2.l : Nat) : Int))]) (fun i54 s => [.cells [.bool f2.never, .lst (List.map encFct f2.l) false], openM 6 encT s]) (fun rest i54 s => g_narrow_Apply_l2 rest i54 s = some r) (env1) ?_ rfl hr ?_ ?_
        · show restr _ _ = [(18, .int .i64 ((0 : Nat) : Int)), (5, .gl 1 (List.length env1)), (16, .lst (List.map encFct f2.l) false), (17, .int .i64 ((List.length f2.l : Nat) : Int))]
          (repeat (first | exact rzz | apply rcc rfl | apply rnn rfl))
        · rintro l42 hr
          show GL _ _ [(18, .int .i64 (((List.length f2.l) : Nat) : Int)), (5, .gl 1 (List.length l42)), (16, .lst (List.map encFct f2.l) false), (17, .int .i64 ((List.length f2.l : Nat) : Int))] [.cells [.bool f2.never, .lst (List.map encFct f2.l) false], openM 6 encT l42] _
          replace hr : g_narrow_Apply_l2 [] (List.length f2.l) l42 = some r := hr
          rw [g_narrow_Apply_l2] at hr
          refine L_seq ?_
          refine L_stmt ?_
          refine L_reg ?_
          refine G_v (.bool false) rfl rfl rfl (congrArg AVal.bool (decide_eq_false (by omega))) ?_
          refine G_nil ?_
          refine L_nil ?_
          refine Sm_norm (e2 := [(5, .gl 1 (List.length l42)), (16, .lst (List.map encFct f2.l) false), (17, .int .i64 ((List.length f2.l : Nat) : Int)), (18, .int .i64 ((List.length f2.l : Nat) : Int)), (19, .bool false)]) (H1 := [.cells [.bool f2.never, .lst (List.map encFct f2.l) false], openM 6 encT l42]) (H2 := [.cells [.bool f2.never, .lst (List.map encFct f2.l) false], openM 6 encT l42]) rfl (by repeat (first | exact rzz | apply rcc rfl | apply rnn rfl)) rfl (?_ : GL _ _ _ _ _)
          refine L_seq ?_
          refine L_stmt ?_
          refine L_F rfl rfl ?_
          refine L_exit ?_
          refine Sm_exit ?_
          refine Rd_exit ?_
          refine Blk_exit (?_ : GL _ _ _ _ _)
          refine L_nil ?_
          exact Sm_norm (e2 := [(5, .gl 1 (List.length l42))]) (H1 := [.cells [.bool f2.never, .lst (List.map encFct f2.l) false], openM 6 encT l42]) (H2 := [.cells [.bool f2.never, .lst (List.map encFct f2.l) false], openM 6 encT l42]) rfl (by repeat (first | exact rzz | apply rcc rfl | apply rnn rfl)) rfl ⟨l42, rfl, rfl, hr⟩
        · rintro y53 rest55 i54 l42 hy53 hlti54 hr
          show GL _ _ [(18, .int .i64 ((i54 : Nat) : Int)), (5, .gl 1 (List.length l42)), (16, .lst (List.map encFct f2.l) false), (17, .int .i64 ((List.length f2.l : Nat) : Int))] [.cells [.bool f2.never, .lst (List.map encFct f2.l) false], openM 6 encT l42] _
          replace hr : g_narrow_Apply_l2 (y53 :: rest55) i54 l42 = some r := hr
          rw [g_narrow_Apply_l2] at hr
          refine L_seq ?_
          refine L_stmt ?_
          refine L_reg ?_
          refine G_v (.bool true) rfl rfl rfl (congrArg AVal.bool (decide_eq_true (by omega))) ?_
          refine G_nil ?_
          refine L_nil ?_
          refine Sm_norm (e2 := [(5, .gl 1 (List.length l42)), (16, .lst (List.map encFct f2.l) false), (17, .int .i64 ((List.length f2.l : Nat) : Int)), (18, .int .i64 ((i54 : Nat) : Int)), (19, .bool true)]) (H1 := [.cells [.bool f2.never, .lst (List.map encFct f2.l) false], openM 6 encT l42]) (H2 := [.cells [.bool f2.never, .lst (List.map encFct f2.l) false], openM 6 encT l42]) rfl (by repeat (first | exact rzz | apply rcc rfl | apply rnn rfl)) rfl (?_ : GL _ _ _ _ _)
          refine L_seq ?_
          refine L_stmt ?_
          refine L_T rfl rfl ?_
          refine L_skip ?_
          refine L_nil ?_
          refine Sm_norm (e2 := [(5, .gl 1 (List.length l42)), (16, .lst (List.map encFct f2.l) false), (17, .int .i64 ((List.length f2.l : Nat) : Int)), (18, .int .i64 ((i54 : Nat) : Int))]) (H1 := [.cells [.bool f2.never, .lst (List.map encFct f2.l) false], openM 6 encT l42]) (H2 := [.cells [.bool f2.never, .lst (List.map encFct f2.l) false], openM 6 encT l42]) rfl (by repeat (first | exact rzz | apply rcc rfl | apply rnn rfl)) rfl (?_ : GL _ _ _ _ _)
          refine L_seq ?_
          refine L_stmt ?_
          refine L_block ?_
          refine L_seq ?_
          refine L_stmt ?_
          refine L_reg ?_
          refine G_h (v := .ro [.int .i64 y53.var, .int .i64 y53.tags]) rfl rfl rfl (ia_ev (cells := [.int .i64 y53.var, .int .i64 y53.tags]) rfl rfl (Int.natCast_nonneg _) (map_get (x := y53) (by rw [Int.toNat_natCast]; exact hy53)) (encFct_flat _) rfl) ?_
          refine G_h (v := .agg (cFct y53)) rfl rfl rfl (fun _ => rfl) ?_
          refine G_n (B := .cells [.int .i64 0, .int .i64 0]) rfl rfl rfl ?_
          refine G_hn (H' := [.cells [.bool f2.never, .lst (List.map encFct f2.l) false], openM 6 encT l42, .cells [.int .i64 y53.var, .int .i64 y53.tags]]) rfl rfl rfl (fun _ => rfl) ?_
          refine G_nil ?_
          refine L_nil ?_
          refine Sm_norm (e2 := [(5, .gl 1 (List.length l42)), (7, .ptr 2 0), (16, .lst (List.map encFct f2.l) false), (17, .int .i64 ((List.length f2.l : Nat) : Int)), (18, .int .i64 ((i54 : Nat) : Int))]) (H1 := [.cells [.bool f2.never, .lst (List.map encFct f2.l) false], openM 6 encT l42, .cells [.int .i64 y53.var, .int .i64 y53.tags]]) (H2 := [.cells [.bool f2.never, .lst (List.map encFct f2.l) false], openM 6 encT l42, .cells [.int .i64 y53.var, .int .i64 y53.tags]]) rfl (by repeat (first | exact rzz | apply rcc rfl | apply rnn rfl)) rfl (?_ : GL _ _ _ _ _)
          refine L_seq ?_
          refine L_stmt ?_
          refine L_reg ?_
          refine G_p rfl rfl rfl ?_
          refine G_h rfl rfl rfl (fun _ => rfl) ?_
          refine G_p rfl rfl rfl ?_
          refine G_p rfl rfl rfl ?_
          refine G_and (f := (decide (y53.var < ((List.length l42 : Nat) : Int)))) [_, _, _, _, _] rfl rfl ?_ ?_
          · intro hb25
            refine G_p rfl rfl rfl ?_
            refine G_h rfl rfl rfl (fun _ => rfl) ?_
            refine G_p rfl rfl rfl ?_
            refine G_h rfl rfl rfl (fun _ => rfl) ?_
            refine G_p rfl rfl rfl ?_
            exact G_nil (L_nil ⟨rfl, rfl, rfl⟩)
          · intro vs hvs
            obtain ⟨u26, u27, u28, u29, u30, rfl⟩ := len5 hvs
            dsimp only [junk]
            refine G_nil ?_
            refine L_nil ?_
            refine Sm_norm (e2 := [(5, .gl 1 (List.length l42)), (7, .ptr 2 0), (16, .lst (List.map encFct f2.l) false), (17, .int .i64 ((List.length f2.l : Nat) : Int)), (18, .int .i64 ((i54 : Nat) : Int)), (31, .bool ((decide (0 ≤ y53.var)) && (decide (y53.var < ((List.length l42 : Nat) : Int)))))]) (H1 := [.cells [.bool f2.never, .lst (List.map encFct f2.l) false], openM 6 encT l42, .cells [.int .i64 y53.var, .int .i64 y53.tags]]) (H2 := [.cells [.bool f2.never, .lst (List.map encFct f2.l) false], openM 6 encT l42, .cells [.int .i64 y53.var, .int .i64 y53.tags]]) rfl (by repeat (first | exact rzz | apply rcc rfl | apply rnn rfl)) rfl (?_ : GL _ _ _ _ _)
            rcases cond_s hr with ⟨hc31, hr⟩ | ⟨hc31, hr⟩
            · refine L_T rfl hc31 ?_
              refine L_drawT [] rfl ?_
              refine GS_p rfl rfl rfl ?_
              refine GS_p rfl rfl rfl ?_
              refine GS_h (d := some 34) rfl rfl rfl rfl (fun _ => rfl) ?_
              refine GS_p rfl rfl rfl ?_
              refine GS_p rfl rfl rfl ?_
              refine GS_h (d := some 37) rfl rfl rfl rfl (fun _ => rfl) ?_
              obtain ⟨e61, he61, hr⟩ := bind_s hr
              refine GS_h (d := some 38) rfl rfl rfl rfl (iao_ev encT_w1 rfl rfl rfl rfl (idx_s he61).1 (map_get (x := e61) (idx_s he61).2)) ?_
              refine GS_h (d := some 39) (v := .agg (cT e61)) rfl rfl rfl rfl (ldao_ev (off := 0) rfl rfl rfl rfl (idx_s he61).2 (by decide) (by decide) (encT_flat _) rfl) ?_
              refine GS_p rfl rfl rfl ?_
              refine GS_h (d := some 41) rfl rfl rfl rfl (fun _ => rfl) ?_
              obtain ⟨r62, hr62, hr⟩ := bind_s hr
              refine GS_c 20 rfl rfl rfl (CA_of (as := [.agg (cT e61), .int .i64 y53.tags]) rfl (g_narrow_Keep_ok hr62)) ?_
              obtain ⟨e63, he63, hr⟩ := bind_s hr
              refine GS_h (d := some 43) rfl rfl rfl rfl (iao_ev encT_w1 rfl rfl rfl rfl (idx_s he63).1 (map_get (x := e63) (idx_s he63).2)) ?_
              obtain ⟨l64, hl64, hr⟩ := bind_s hr
              refine GS_h (d := none) (H' := [.cells [.bool f2.never, .lst (List.map encFct f2.l) false], openM 6 encT l64, .cells [.int .i64 y53.var, .int .i64 y53.tags]]) rfl rfl rfl rfl (stko_ev (off := 0) rfl rfl rfl rfl rfl (idx_s he63).2 (by decide) (by decide) ⟨rfl, rfl⟩ rfl (by (try simp only [encT_eq]); rfl) (setL_s hl64) rfl) ?_
              refine GS_nil ?_
              refine L_nil ?_
              refine Blk_norm (?_ : GL _ _ _ _ _)
              refine L_nil ?_
              refine Sm_norm (e2 := [(5, .gl 1 (List.length l42)), (16, .lst (List.map encFct f2.l) false), (17, .int .i64 ((List.length f2.l : Nat) : Int)), (18, .int .i64 ((i54 : Nat) : Int))]) (H1 := [.cells [.bool f2.never, .lst (List.map encFct f2.l) false], openM 6 encT l64, .cells [.int .i64 y53.var, .int .i64 y53.tags]]) (H2 := [.cells [.bool f2.never, .lst (List.map encFct f2.l) false], openM 6 encT l64]) rfl (by repeat (first | exact rzz | apply rcc rfl | apply rnn rfl)) rfl (?_ : GL _ _ _ _ _)
              refine L_reg ?_
              refine G_v (.int .i64 ((i54 + 1 : Nat) : Int)) rfl rfl rfl (congrArg _ (wrap_next hLq52 hlti54)) ?_
              refine G_p rfl rfl rfl ?_
              refine G_nil ?_
              refine L_nil ?_
              refine Rd_norm ⟨l64, ?_, rfl, hr⟩
              show restr _ _ = [(18, .int .i64 (((i54 + 1) : Nat) : Int)), (5, .gl 1 (List.length l64)), (16, .lst (List.map encFct f2.l) false), (17, .int .i64 ((List.length f2.l : Nat) : Int))]
              (try rw [show List.length l64 = List.length l42 from (setL_len hl64)])
              (repeat (first | exact rzz | apply rcc rfl | apply rnn rfl))
            · refine L_F rfl hc31 ?_
              refine L_skip ?_
              refine L_nil ?_
              refine Blk_norm (?_ : GL _ _ _ _ _)
              refine L_nil ?_
              refine Sm_norm (e2 := [(5, .gl 1 (List.length l42)), (16, .lst (List.map encFct f2.l) false), (17, .int .i64 ((List.length f2.l : Nat) : Int)), (18, .int .i64 ((i54 : Nat) : Int))]) (H1 := [.cells [.bool f2.never, .lst (List.map encFct f2.l) false], openM 6 encT l42, .cells [.int .i64 y53.var, .int .i64 y53.tags]]) (H2 := [.cells [.bool f2.never, .lst (List.map encFct f2.l) false], openM 6 encT l42]) rfl (by repeat (first | exact rzz | apply rcc rfl | apply rnn rfl)) rfl (?_ : GL _ _ _ _ _)
              refine L_reg ?_
              refine G_v (.int .i64 ((i54 + 1 : Nat) : Int)) rfl rfl rfl (congrArg _ (wrap_next hLq52 hlti54)) ?_
              refine G_p rfl rfl rfl ?_
              refine G_nil ?_
              refine L_nil ?_
              refine Rd_norm ⟨l42, ?_, rfl, hr⟩
              show restr _ _ = [(18, .int .i64 (((i54 + 1) : Nat) : Int)), (5, .gl 1 (List.length l42)), (16, .lst (List.map encFct f2.l) false), (17, .int .i64 ((List.length f2.l : Nat) : Int))]
              (repeat (first | exact rzz | apply rcc rfl | apply rnn rfl))
      · rintro l33 hr
        show GL _ _ [(5, .gl 1 (List.length l33))] [.cells [.bool f2.never, .lst (List.map encFct f2.l) false], openM 6 encT l33] _
        replace hr : g_narrow_Apply_j1 l33 = some r := hr
        unfold g_narrow_Apply_j1 at hr
        refine L_seq ?_
        refine L_shutl (H' := [.cells [.bool f2.never, .lst (List.map encFct f2.l) false], growM 6 encT l33]) (seal_o rfl rfl rfl rfl) ?_
        refine L_seq ?_
        refine L_reg ?_
        refine G_p rfl rfl rfl ?_
        refine G_p rfl rfl rfl ?_
        refine G_nil ?_
        refine L_ret ?_
        have hr := some_s hr
        subst hr
        exact ⟨_, rfl, _, (shutR_gl rfl), rfl⟩
end Go.Ev.Seat
namespace Go.Ev.Seat.TyS
set_option linter.unusedVariables false
set_option linter.unusedSimpArgs false
open Go Go.Ev
set_option maxRecDepth 20000
attribute [local irreducible] pcall callF
theorem size_zero (n : Nat) (t : Ty) : pcall (tabOf tabL) (n + 1) 45 [vT t, .int .i64 (0 : Nat)] = some (.ok (.int .i64 (rsz t 0 : Nat))) := by
  refine pcall_fin t45 ?_
  refine WL_seq ?_
  refine WL_reg ?_
  refine O_n rfl rfl rfl ?_
  refine O_p rfl rfl rfl ?_
  refine WO_nil ?_
  refine WL_seq ?_
  apply WLp
  · (repeat (first | exact rzz | apply rcc rfl | apply rnn rfl))
  refine WL_seq ?_
  refine WL_seq ?_
  refine WL_reg ?_
  refine O_p rfl rfl rfl ?_
  refine O_p rfl rfl rfl ?_
  refine WO_nil ?_
  refine WL_seq ?_
  apply WLp
  · (repeat (first | exact rzz | apply rcc rfl | apply rnn rfl))
  refine WL_cond rfl (fun h9 => ?_) (fun h9 => ?_)
  · skip
    refine WL_seq ?_
    refine WL_reg ?_
    refine O_p rfl rfl rfl ?_
    refine WO_nil ?_
    refine WL_ret ?_
    exact ⟨_, rfl, _, rfl, by rw [rsz_zero]; rfl⟩
  · skip
    simp at h9
theorem size_c : ∀ (n : Nat) (t : Ty) (l : Nat), szT t < n → WfT t → l < 1000 → pcall (tabOf tabL) n 45 [vT t, .int .i64 (l : Nat)] = some (.ok (.int .i64 (rsz t l : Nat)))
  | 0, t, l, h, _, _ => by omega
  | n + 1, t, 0, h, _, _ => size_zero n t
  | n + 1, t, l + 1, h, hw, hl => by
    have ih := size_c n
    have hp := len_pairs t
    have hf := len_funs t
    have hl1 : IntKind.i64.wrap (((l + 1 : Nat) : Int) - 1) = (l : Int) := by rw [kw_i64_id (by omega) (by omega)]; omega
    cases hw with | mk w1 w2 w3 w4 w5 w6 w7 =>
    refine pcall_fin t45 ?_
    refine WL_seq ?_
    refine WL_reg ?_
    refine O_n rfl rfl rfl ?_
    refine O_p rfl rfl rfl ?_
    refine WO_nil ?_
    refine WL_seq ?_
    apply WLp
    · (repeat (first | exact rzz | apply rcc rfl | apply rnn rfl))
    refine WL_seq ?_
    refine WL_seq ?_
    refine WL_reg ?_
    refine O_p rfl rfl rfl ?_
    refine O_p rfl rfl rfl ?_
    refine WO_nil ?_
    refine WL_seq ?_
    apply WLp
    · (repeat (first | exact rzz | apply rcc rfl | apply rnn rfl))
    refine WL_cond rfl (fun h9 => ?_) (fun h9 => ?_)
    · skip
      simp at h9; omega
    · skip
      refine WL_skip ?_
      refine WL_seq ?_
      apply WLp
      · (repeat (first | exact rzz | apply rcc rfl | apply rnn rfl))
      refine WL_seq ?_
      refine WL_reg ?_
      refine O_p rfl rfl rfl ?_
      refine WO_nil ?_
      refine WL_seq ?_
      apply WLp
      · (repeat (first | exact rzz | apply rcc rfl | apply rnn rfl))
      refine WL_seq ?_
      refine WL_seq ?_
      refine WL_reg ?_
      refine O_p rfl rfl rfl ?_
      refine WO_nil ?_
      refine WL_seq ?_
      apply WLp
      · (repeat (first | exact rzz | apply rcc rfl | apply rnn rfl))
      refine WL_block ?_
      apply WL_forc (α := Nat × Nat) (fun s => [(5, .int .i64 (s.1 : Nat)), (6, .int .i64 (s.2 : Nat))]) (fun s => s.2 ≤ t.pairs.length ∧ s.1 ≤ 2000 ∧ min 1000 (1 + rszs t.pairs l) = min 1000 (s.1 + rszs (t.pairs.drop s.2) l)) (fun s => t.pairs.length - s.2) ((1, 0)) (he := ?he) (hP := ?hP) (hk := ?hk) (round := ?round)
      case he =>
        (repeat (first | exact rzz | apply rcc rfl | apply rnn rfl))
      case hP =>
        exact ⟨by omega, by omega, rfl⟩
      case hk =>
        show t.pairs.length - 0 < n; omega
      case round =>
        rintro ⟨c, i⟩ ⟨hi, hc, hs⟩
        simp only at hi hc hs
        dsimp only [List.cons_append, List.nil_append] at *
        refine WL_seq ?_
        refine WL_seq ?_
        refine WL_reg ?_
        refine O_p rfl rfl rfl ?_
        refine O_p rfl rfl rfl ?_
        refine O_h rfl rfl rfl rfl ?_
        refine O_h rfl rfl rfl rfl ?_
        refine O_p rfl rfl rfl ?_
        refine O_p rfl rfl rfl ?_
        apply O_and [_, _] rfl rfl (hT := ?hT18) (h := ?hR18)
        case hT18 =>
          intro hb15
          refine O_p rfl rfl rfl ?_
          refine O_p rfl rfl rfl ?_
          exact WO_nil (WL_nil ⟨rfl, rfl, rfl⟩)
        case hR18 =>
          intro vs hvs
          obtain ⟨u16, u17, rfl⟩ := len2 hvs
          clear hvs; dsimp only [junk]
          refine WO_nil ?_
          refine WL_seq ?_
          apply WLp
          · (repeat (first | exact rzz | apply rcc rfl | apply rnn rfl))
          try clear u16 u17
          refine WL_cond rfl (fun h18 => ?_) (fun h18 => ?_)
          · skip
            simp at h18
            obtain ⟨x, hx⟩ : ∃ x, (t.pairs)[i]? = some x := ⟨_, List.getElem?_eq_getElem (by omega)⟩
            have hmx := List.mem_of_getElem? hx
            have hsx := szT_pairs hmx
            have hle := rsz_le x l
            have hg := drop_of hx
            refine WL_skip ?_
            refine WL_seq ?_
            apply WLp
            · (repeat (first | exact rzz | apply rcc rfl | apply rnn rfl))
            refine WL_seq ?_
            refine WL_block ?_
            refine WL_reg ?_
            refine O_p rfl rfl rfl ?_
            refine O_p rfl rfl rfl ?_
            refine O_h rfl rfl rfl rfl ?_
            refine O_p rfl rfl rfl ?_
            refine O_ia rfl rfl (Int.natCast_nonneg _) (encT_get (i := (i : Nat)) hx) (encT_flat _) rfl ?_
            refine O_h rfl rfl rfl rfl ?_
            refine O_p rfl rfl rfl ?_
            refine O_p rfl rfl rfl ?_
            refine O_c 45 rfl rfl (callA_of rfl (by rw [hl1]; exact ih x l (by omega) (w6 x hmx) (by omega))) ?_
            refine O_p rfl rfl rfl ?_
            refine O_p rfl rfl rfl ?_
            refine WO_nil ?_
            refine WL_nil ?_
            refine Blk_norm (?_ : WL _ _ _ _ _)
            refine WL_seq ?_
            apply WLp
            · (repeat (first | exact rzz | apply rcc rfl | apply rnn rfl))
            refine WL_reg ?_
            refine O_p rfl rfl rfl ?_
            refine O_p rfl rfl rfl ?_
            refine O_p rfl rfl rfl ?_
            refine WO_nil ?_
            refine WL_nil ?_
            refine RndC_norm ((c + rsz x l, i + 1)) (by refine ⟨?_, ?_, ?_⟩ <;> simp only <;> first | omega | (rw [hs, hg, rszs]; omega)) (by show _ < _; omega) ?_ rfl
            · rw [wrap_add (by omega), wrap_succ (by omega)]; (repeat (first | exact rzz | apply rcc rfl | apply rnn rfl))
          · skip
            have hq : min 1000 (1 + rszs t.pairs l) = min 1000 c := by
              rw [hs]; simp at h18
              by_cases hc : i < t.pairs.length
              · have := h18 hc; omega
              · rw [List.drop_eq_nil_of_le (by omega)]; simp [rszs]
            refine WL_exit ?_
            refine RndC_exit ?_
            refine Blk_exit (?_ : WL _ _ _ _ _)
            refine WL_seq ?_
            apply WLp
            · (repeat (first | exact rzz | apply rcc rfl | apply rnn rfl))
            refine WL_seq ?_
            refine WL_seq ?_
            refine WL_reg ?_
            refine O_p rfl rfl rfl ?_
            refine WO_nil ?_
            refine WL_seq ?_
            apply WLp
            · (repeat (first | exact rzz | apply rcc rfl | apply rnn rfl))
            refine WL_block ?_
            apply WL_forc (α := Nat × Nat) (fun s => [(5, .int .i64 (s.1 : Nat)), (7, .int .i64 (s.2 : Nat))]) (fun s => s.2 ≤ t.funs.length ∧ s.1 ≤ 2000 ∧ min 1000 (1 + rszs t.pairs l + rszs t.funs l) = min 1000 (s.1 + rszs (t.funs.drop s.2) l)) (fun s => t.funs.length - s.2) ((c, 0)) (he := ?he) (hP := ?hP) (hk := ?hk) (round := ?round)
            case he =>
              (repeat (first | exact rzz | apply rcc rfl | apply rnn rfl))
            case hP =>
              refine ⟨by simp, by simp only; omega, ?_⟩; simp only [List.drop_zero]; omega
            case hk =>
              show t.funs.length - 0 < n; omega
            case round =>
              rintro ⟨c, i⟩ ⟨hi, hc, hs2⟩
              simp only at hi hc hs2
              dsimp only [List.cons_append, List.nil_append] at *
              refine WL_seq ?_
              refine WL_seq ?_
              refine WL_reg ?_
              refine O_p rfl rfl rfl ?_
              refine O_p rfl rfl rfl ?_
              refine O_h rfl rfl rfl rfl ?_
              refine O_h rfl rfl rfl rfl ?_
              refine O_p rfl rfl rfl ?_
              refine O_p rfl rfl rfl ?_
              apply O_and [_, _] rfl rfl (hT := ?hT39) (h := ?hR39)
              case hT39 =>
                intro hb36
                refine O_p rfl rfl rfl ?_
                refine O_p rfl rfl rfl ?_
                exact WO_nil (WL_nil ⟨rfl, rfl, rfl⟩)
              case hR39 =>
                intro vs hvs
                obtain ⟨u37, u38, rfl⟩ := len2 hvs
                clear hvs; dsimp only [junk]
                refine WO_nil ?_
                refine WL_seq ?_
                apply WLp
                · (repeat (first | exact rzz | apply rcc rfl | apply rnn rfl))
                try clear u37 u38
                refine WL_cond rfl (fun h39 => ?_) (fun h39 => ?_)
                · skip
                  simp at h39
                  obtain ⟨x, hx⟩ : ∃ x, (t.funs)[i]? = some x := ⟨_, List.getElem?_eq_getElem (by omega)⟩
                  have hmx := List.mem_of_getElem? hx
                  have hsx := szT_funs hmx
                  have hle := rsz_le x l
                  have hg := drop_of hx
                  refine WL_skip ?_
                  refine WL_seq ?_
                  apply WLp
                  · (repeat (first | exact rzz | apply rcc rfl | apply rnn rfl))
                  refine WL_seq ?_
                  refine WL_block ?_
                  refine WL_reg ?_
                  refine O_p rfl rfl rfl ?_
                  refine O_p rfl rfl rfl ?_
                  refine O_h rfl rfl rfl rfl ?_
                  refine O_p rfl rfl rfl ?_
                  refine O_ia rfl rfl (Int.natCast_nonneg _) (encT_get (i := (i : Nat)) hx) (encT_flat _) rfl ?_
                  refine O_h rfl rfl rfl rfl ?_
                  refine O_p rfl rfl rfl ?_
                  refine O_p rfl rfl rfl ?_
                  refine O_c 45 rfl rfl (callA_of rfl (by rw [hl1]; exact ih x l (by omega) (w7 x hmx) (by omega))) ?_
                  refine O_p rfl rfl rfl ?_
                  refine O_p rfl rfl rfl ?_
                  refine WO_nil ?_
                  refine WL_nil ?_
                  refine Blk_norm (?_ : WL _ _ _ _ _)
                  refine WL_seq ?_
                  apply WLp
                  · (repeat (first | exact rzz | apply rcc rfl | apply rnn rfl))
                  refine WL_reg ?_
                  refine O_p rfl rfl rfl ?_
                  refine O_p rfl rfl rfl ?_
                  refine O_p rfl rfl rfl ?_
                  refine WO_nil ?_
                  refine WL_nil ?_
                  refine RndC_norm ((c + rsz x l, i + 1)) (by refine ⟨?_, ?_, ?_⟩ <;> simp only <;> first | omega | (rw [hs2, hg, rszs]; omega)) (by show _ < _; omega) ?_ rfl
                  · rw [wrap_add (by omega), wrap_succ (by omega)]; (repeat (first | exact rzz | apply rcc rfl | apply rnn rfl))
                · skip
                  have hr : AVal.int IntKind.i64 (rsz t (l + 1) : Nat) = AVal.int IntKind.i64 (if false = true then if (1000 : Int) > (c : Int) then 1000 else (c : Int) else if (1000 : Int) < (c : Int) then 1000 else (c : Int)) := by
                    have hq2 : rsz t (l + 1) = min 1000 c := by
                      rw [rsz_succ, hs2]; simp at h39
                      by_cases hc : i < t.funs.length
                      · have := h39 hc; omega
                      · rw [List.drop_eq_nil_of_le (by omega)]; simp [rszs]
                    rw [hq2]; congr 1; simp; split <;> omega
                  refine WL_exit ?_
                  refine RndC_exit ?_
                  refine Blk_exit (?_ : WL _ _ _ _ _)
                  refine WL_seq ?_
                  apply WLp
                  · (repeat (first | exact rzz | apply rcc rfl | apply rnn rfl))
                  refine WL_seq ?_
                  refine WL_reg ?_
                  refine O_p rfl rfl rfl ?_
                  refine O_p rfl rfl rfl ?_
                  refine O_p rfl rfl rfl ?_
                  refine WO_nil ?_
                  refine WL_ret ?_
                  refine ⟨_, rfl, _, rfl, ?_⟩
                  rw [hr]
theorem light_c (n : Nat) (t : Ty) (h : szT t < n) (hw : WfT t) : pcall (tabOf tabL) (n + 1) 15 [vT t] = some (.ok (.bool (decide (rsz t 60 < 120)))) := by
  refine pcall_fin t15 ?_
  refine WL_seq ?_
  refine WL_reg ?_
  refine O_n rfl rfl rfl ?_
  refine O_p rfl rfl rfl ?_
  refine WO_nil ?_
  refine WL_seq ?_
  apply WLp
  · (repeat (first | exact rzz | apply rcc rfl | apply rnn rfl))
  refine WL_seq ?_
  refine WL_reg ?_
  refine O_h rfl rfl rfl rfl ?_
  refine O_c 45 rfl rfl (callA_of rfl (size_c n t 60 h hw (by omega))) ?_
  refine O_p rfl rfl rfl ?_
  refine O_p rfl rfl rfl ?_
  refine WO_nil ?_
  refine WL_ret ?_
  exact ⟨_, rfl, _, rfl, by congr 2; apply decide_eq_decide.2; omega⟩
theorem pcnt_get {p : Int} (h0 : 0 ≤ p) (h2 : p ≤ 2) : [AVal.int .i64 0, AVal.int .i64 2, AVal.int .i64 1][p.toNat]? = some (.int .i64 (pcnt p)) := by
  obtain rfl | rfl | rfl : p = 0 ∨ p = 1 ∨ p = 2 := by omega
  all_goals rfl
theorem deep_c : ∀ (n : Nat) (t : Ty) (d : Nat), szT t < n → WfT t → d < 1000 → pcall (tabOf tabL) n 46 [vT t, .int .i64 (d : Nat)] = some (.ok (.bool (rightT t d)))
  | 0, t, d, h, _, _ => by omega
  | n + 1, t, d, h, hw, hd => by
    have ih := deep_c n
    have hp := len_pairs t
    have hf := len_funs t
    cases hw with | mk w1 w2 w3 w4 w5 w6 w7 =>
    refine pcall_fin t46 ?_
    refine WL_seq ?_
    refine WL_reg ?_
    refine O_n rfl rfl rfl ?_
    refine O_p rfl rfl rfl ?_
    refine WO_nil ?_
    refine WL_seq ?_
    apply WLp
    · (repeat (first | exact rzz | apply rcc rfl | apply rnn rfl))
    refine WL_seq ?_
    refine WL_seq ?_
    refine WL_reg ?_
    refine O_p rfl rfl rfl ?_
    refine O_p rfl rfl rfl ?_
    refine O_p rfl rfl rfl ?_
    apply O_or [_, _, _] rfl rfl (hT := ?hT14) (h := ?hR14)
    case hT14 =>
      intro hb10
      refine O_p rfl rfl rfl ?_
      refine O_h rfl rfl rfl rfl ?_
      refine O_p rfl rfl rfl ?_
      exact WO_nil (WL_nil ⟨rfl, rfl, rfl⟩)
    case hR14 =>
      intro vs hvs
      obtain ⟨u11, u12, u13, rfl⟩ := len3 hvs
      clear hvs; dsimp only [junk]
      refine O_p rfl rfl rfl ?_
      apply O_or [_, _, _] rfl rfl (hT := ?hT19) (h := ?hR19)
      case hT19 =>
        intro hb15
        refine O_p rfl rfl rfl ?_
        refine O_h rfl rfl rfl rfl ?_
        refine O_p rfl rfl rfl ?_
        exact WO_nil (WL_nil ⟨rfl, rfl, rfl⟩)
      case hR19 =>
        intro vs hvs
        obtain ⟨u16, u17, u18, rfl⟩ := len3 hvs
        clear hvs; dsimp only [junk]
        refine O_p rfl rfl rfl ?_
        apply O_or [_, _, _] rfl rfl (hT := ?hT24) (h := ?hR24)
        case hT24 =>
          intro hb20
          refine O_p rfl rfl rfl ?_
          refine O_h rfl rfl rfl rfl ?_
          refine O_p rfl rfl rfl ?_
          exact WO_nil (WL_nil ⟨rfl, rfl, rfl⟩)
        case hR24 =>
          intro vs hvs
          obtain ⟨u21, u22, u23, rfl⟩ := len3 hvs
          clear hvs; dsimp only [junk]
          refine O_p rfl rfl rfl ?_
          apply O_or [_, _, _] rfl rfl (hT := ?hT29) (h := ?hR29)
          case hT29 =>
            intro hb25
            refine O_p rfl rfl rfl ?_
            refine O_h rfl rfl rfl rfl ?_
            refine O_p rfl rfl rfl ?_
            exact WO_nil (WL_nil ⟨rfl, rfl, rfl⟩)
          case hR29 =>
            intro vs hvs
            obtain ⟨u26, u27, u28, rfl⟩ := len3 hvs
            clear hvs; dsimp only [junk]
            refine O_p rfl rfl rfl ?_
            apply O_or [_, _, _] rfl rfl (hT := ?hT34) (h := ?hR34)
            case hT34 =>
              intro hb30
              refine O_p rfl rfl rfl ?_
              refine O_h rfl rfl rfl rfl ?_
              refine O_p rfl rfl rfl ?_
              exact WO_nil (WL_nil ⟨rfl, rfl, rfl⟩)
            case hR34 =>
              intro vs hvs
              obtain ⟨u31, u32, u33, rfl⟩ := len3 hvs
              clear hvs; dsimp only [junk]
              refine O_p rfl rfl rfl ?_
              apply O_or [_, _, _] rfl rfl (hT := ?hT39) (h := ?hR39)
              case hT39 =>
                intro hb35
                refine O_p rfl rfl rfl ?_
                refine O_h rfl rfl rfl rfl ?_
                refine O_p rfl rfl rfl ?_
                exact WO_nil (WL_nil ⟨rfl, rfl, rfl⟩)
              case hR39 =>
                intro vs hvs
                obtain ⟨u36, u37, u38, rfl⟩ := len3 hvs
                clear hvs; dsimp only [junk]
                refine WO_nil ?_
                refine WL_seq ?_
                apply WLp
                · (repeat (first | exact rzz | apply rcc rfl | apply rnn rfl))
                try clear u11 u12 u13 u16 u17 u18 u21 u22 u23 u26 u27 u28 u31 u32 u33 u36 u37 u38
                refine WL_cond rfl (fun h39 => ?_) (fun h39 => ?_)
                · skip
                  have hr : rightT t d = false := by
                    cases d with
                    | zero => exact rightT_zero t
                    | succ d =>
                      rw [rightT_succ]
                      have : okT t = false := by
                        unfold okT; simp at h39 ⊢; omega
                      simp [this]
                  refine WL_seq ?_
                  refine WL_reg ?_
                  refine O_p rfl rfl rfl ?_
                  refine WO_nil ?_
                  refine WL_ret ?_
                  exact ⟨_, rfl, _, rfl, by rw [hr]⟩
                · skip
                  simp at h39
                  obtain ⟨d, rfl⟩ : ∃ e, d = e + 1 := ⟨d - 1, by omega⟩
                  have hl1 : IntKind.i64.wrap (((d + 1 : Nat) : Int) - 1) = (d : Int) := by rw [kw_i64_id (by omega) (by omega)]; omega
                  refine WL_skip ?_
                  refine WL_seq ?_
                  apply WLp
                  · (repeat (first | exact rzz | apply rcc rfl | apply rnn rfl))
                  refine WL_seq ?_
                  refine WL_seq ?_
                  refine WL_reg ?_
                  refine O_p rfl rfl rfl ?_
                  refine O_h rfl rfl rfl rfl ?_
                  refine O_p rfl rfl rfl ?_
                  apply O_and [_, _, _, _, _, _, _, _, _, _, _, _, _] rfl rfl (hT := ?hT56) (h := ?hR56)
                  case hT56 =>
                    intro hb42
                    refine O_p rfl rfl rfl ?_
                    refine O_h rfl rfl rfl rfl ?_
                    refine O_p rfl rfl rfl ?_
                    refine O_p rfl rfl rfl ?_
                    apply O_or [_, _, _] rfl rfl (hT := ?hT50) (h := ?hR50)
                    case hT50 =>
                      intro hb46
                      refine O_p rfl rfl rfl ?_
                      refine O_h rfl rfl rfl rfl ?_
                      refine O_p rfl rfl rfl ?_
                      exact WO_nil (WL_nil ⟨rfl, rfl, rfl⟩)
                    case hR50 =>
                      intro vs hvs
                      obtain ⟨u47, u48, u49, rfl⟩ := len3 hvs
                      clear hvs; dsimp only [junk]
                      refine O_p rfl rfl rfl ?_
                      apply O_or [_, _, _] rfl rfl (hT := ?hT55) (h := ?hR55)
                      case hT55 =>
                        intro hb51
                        refine O_p rfl rfl rfl ?_
                        refine O_h rfl rfl rfl rfl ?_
                        refine O_p rfl rfl rfl ?_
                        exact WO_nil (WL_nil ⟨rfl, rfl, rfl⟩)
                      case hR55 =>
                        intro vs hvs
                        obtain ⟨u52, u53, u54, rfl⟩ := len3 hvs
                        clear hvs; dsimp only [junk]
                        exact WO_nil (WL_nil ⟨rfl, rfl, rfl⟩)
                  case hR56 =>
                    intro vs hvs
                    obtain ⟨u43, u44, u45, u46, u47, u48, u49, u50, u51, u52, u53, u54, u55, rfl⟩ := len13 hvs
                    clear hvs; dsimp only [junk]
                    refine WO_nil ?_
                    refine WL_seq ?_
                    apply WLp
                    · (repeat (first | exact rzz | apply rcc rfl | apply rnn rfl))
                    try clear u47 u48 u49 u52 u53 u54 u43 u44 u45 u46 u47 u48 u49 u50 u51 u52 u53 u54 u55
                    refine WL_cond rfl (fun h56 => ?_) (fun h56 => ?_)
                    · skip
                      have hr : rightT t (d + 1) = false := by
                        rw [rightT_succ]
                        have : okT t = false := by
                          unfold okT; simp at h56 ⊢; intros; simp_all
                        simp [this]
                      refine WL_seq ?_
                      refine WL_reg ?_
                      refine O_p rfl rfl rfl ?_
                      refine WO_nil ?_
                      refine WL_ret ?_
                      exact ⟨_, rfl, _, rfl, by rw [hr]⟩
                    · skip
                      refine WL_skip ?_
                      refine WL_seq ?_
                      apply WLp
                      · (repeat (first | exact rzz | apply rcc rfl | apply rnn rfl))
                      refine WL_seq ?_
                      refine WL_reg ?_
                      refine O_h rfl rfl rfl rfl ?_
                      refine O_p rfl rfl rfl ?_
                      refine WO_nil ?_
                      refine WL_seq ?_
                      apply WLp
                      · (repeat (first | exact rzz | apply rcc rfl | apply rnn rfl))
                      refine WL_seq ?_
                      refine WL_seq ?_
                      refine WL_drawS (ops := [_, _, _, _, _, _, _, _, _, _, _, _, _, _, _, _, _, _, _, _, _, _, _, _, _, _, _, _, _, _, _, _, _, _, _, _, _]) rfl rfl ?_
                      refine O_p rfl rfl rfl ?_
                      refine O_h rfl rfl rfl rfl ?_
                      refine O_h rfl rfl rfl rfl ?_
                      refine O_p rfl rfl rfl ?_
                      refine O_p rfl rfl rfl ?_
                      refine O_h rfl rfl rfl rfl ?_
                      refine O_ia rfl rfl (by omega) (pcnt_get (by omega) (by omega)) rfl rfl ?_
                      refine O_h rfl rfl rfl rfl ?_
                      refine O_p rfl rfl rfl ?_
                      refine O_p rfl rfl rfl ?_
                      apply O_or [_, _, _, _, _, _, _, _, _] rfl rfl (hT := ?hT77) (h := ?hR77)
                      case hT77 =>
                        intro hb67
                        refine O_p rfl rfl rfl ?_
                        refine O_h rfl rfl rfl rfl ?_
                        refine O_p rfl rfl rfl ?_
                        refine O_p rfl rfl rfl ?_
                        apply O_and [_, _, _, _] rfl rfl (hT := ?hT76) (h := ?hR76)
                        case hT76 =>
                          intro hb71
                          refine O_p rfl rfl rfl ?_
                          refine O_h rfl rfl rfl rfl ?_
                          refine O_h rfl rfl rfl rfl ?_
                          refine O_p rfl rfl rfl ?_
                          exact WO_nil (WL_nil ⟨rfl, rfl, rfl⟩)
                        case hR76 =>
                          intro vs hvs
                          obtain ⟨u72, u73, u74, u75, rfl⟩ := len4 hvs
                          clear hvs; dsimp only [junk]
                          exact WO_nil (WL_nil ⟨rfl, rfl, rfl⟩)
                      case hR77 =>
                        intro vs hvs
                        obtain ⟨u68, u69, u70, u71, u72, u73, u74, u75, u76, rfl⟩ := len9 hvs
                        clear hvs; dsimp only [junk]
                        refine O_p rfl rfl rfl ?_
                        apply O_or [_, _, _, _, _, _, _, _, _, _, _, _, _, _, _] rfl rfl (hT := ?hT94) (h := ?hR94)
                        case hT94 =>
                          intro hb78
                          refine O_p rfl rfl rfl ?_
                          refine O_h rfl rfl rfl rfl ?_
                          refine O_p rfl rfl rfl ?_
                          refine O_p rfl rfl rfl ?_
                          apply O_and [_, _, _, _, _, _, _, _, _, _] rfl rfl (hT := ?hT93) (h := ?hR93)
                          case hT93 =>
                            intro hb82
                            refine O_p rfl rfl rfl ?_
                            refine O_h rfl rfl rfl rfl ?_
                            refine O_h rfl rfl rfl rfl ?_
                            refine O_p rfl rfl rfl ?_
                            refine O_p rfl rfl rfl ?_
                            apply O_or [_, _, _, _] rfl rfl (hT := ?hT92) (h := ?hR92)
                            case hT92 =>
                              intro hb87
                              refine O_p rfl rfl rfl ?_
                              refine O_h rfl rfl rfl rfl ?_
                              refine O_h rfl rfl rfl rfl ?_
                              refine O_p rfl rfl rfl ?_
                              exact WO_nil (WL_nil ⟨rfl, rfl, rfl⟩)
                            case hR92 =>
                              intro vs hvs
                              obtain ⟨u88, u89, u90, u91, rfl⟩ := len4 hvs
                              clear hvs; dsimp only [junk]
                              exact WO_nil (WL_nil ⟨rfl, rfl, rfl⟩)
                          case hR93 =>
                            intro vs hvs
                            obtain ⟨u83, u84, u85, u86, u87, u88, u89, u90, u91, u92, rfl⟩ := len10 hvs
                            clear hvs; dsimp only [junk]
                            exact WO_nil (WL_nil ⟨rfl, rfl, rfl⟩)
                        case hR94 =>
                          intro vs hvs
                          obtain ⟨u79, u80, u81, u82, u83, u84, u85, u86, u87, u88, u89, u90, u91, u92, u93, rfl⟩ := len15 hvs
                          clear hvs; dsimp only [junk]
                          refine WO_nil (WL_nil ⟨rfl, ?_⟩)
                          refine WL_seq ?_
                          apply WLp
                          · (repeat (first | exact rzz | apply rcc rfl | apply rnn rfl))
                          try clear u72 u73 u74 u75 u68 u69 u70 u71 u72 u73 u74 u75 u76 u88 u89 u90 u91 u83 u84 u85 u86 u87 u88 u89 u90 u91 u92 u79 u80 u81 u82 u83 u84 u85 u86 u87 u88 u89 u90 u91 u92 u93
                          refine WL_cond rfl (fun h94 => ?_) (fun h94 => ?_)
                          · skip
                            have hr : rightT t (d + 1) = false := by
                              rw [rightT_succ]
                              have : okT t = false := by
                                cases q : okT t with
                                | false => rfl
                                | true =>
                                  unfold okT at q; simp at q h94
                                  obtain ⟨⟨q1, q2⟩, q3⟩ := q
                                  by_cases hf1 : t.fn = 1 <;> simp [hf1, q2] at q3 h94 <;> first | omega | simp_all
                              simp [this]
                            refine WL_seq ?_
                            refine WL_reg ?_
                            refine O_p rfl rfl rfl ?_
                            refine WO_nil ?_
                            refine WL_ret ?_
                            exact ⟨_, rfl, _, rfl, by rw [hr]⟩
                          · skip
                            have hok : okT t = true := by
                              unfold okT; simp at h94 h56 ⊢
                              obtain ⟨⟨q1, q2⟩, q3⟩ := h94
                              refine ⟨⟨⟨⟨⟨⟨⟨⟨by omega, by omega⟩, by omega⟩, by omega⟩, by omega⟩, by omega⟩, ?_⟩, q1⟩, ?_⟩
                              · cases ha : t.all <;> simp [ha] at h56 ⊢; exact h56
                              · by_cases hf1 : t.fn = 1 <;> simp [hf1] at q2 q3 ⊢ <;> first | omega | exact q2
                            refine WL_skip ?_
                            refine WL_seq ?_
                            apply WLp
                            · (repeat (first | exact rzz | apply rcc rfl | apply rnn rfl))
                            refine WL_seq ?_
                            refine WL_seq ?_
                            refine WL_reg ?_
                            refine O_p rfl rfl rfl ?_
                            refine WO_nil ?_
                            refine WL_seq ?_
                            apply WLp
                            · (repeat (first | exact rzz | apply rcc rfl | apply rnn rfl))
                            refine WL_block ?_
                            apply WL_forc (α := Nat) (fun i => [(6, .int .i64 (i : Nat))]) (fun i => i ≤ t.pairs.length ∧ rightTs t.pairs d = rightTs (t.pairs.drop i) d) (fun i => t.pairs.length - i) (0) (he := ?he) (hP := ?hP) (hk := ?hk) (round := ?round)
                            case he =>
                              (repeat (first | exact rzz | apply rcc rfl | apply rnn rfl))
                            case hP =>
                              exact ⟨by omega, rfl⟩
                            case hk =>
                              show t.pairs.length - 0 < n; omega
                            case round =>
                              rintro i ⟨hi, hs⟩
                              dsimp only [List.cons_append, List.nil_append] at *
                              refine WL_seq ?_
                              refine WL_seq ?_
                              refine WL_reg ?_
                              refine O_p rfl rfl rfl ?_
                              refine O_p rfl rfl rfl ?_
                              refine O_h rfl rfl rfl rfl ?_
                              refine O_h rfl rfl rfl rfl ?_
                              refine O_p rfl rfl rfl ?_
                              refine WO_nil ?_
                              refine WL_seq ?_
                              apply WLp
                              · (repeat (first | exact rzz | apply rcc rfl | apply rnn rfl))
                              refine WL_cond rfl (fun h99 => ?_) (fun h99 => ?_)
                              · skip
                                simp at h99
                                obtain ⟨x, hx⟩ : ∃ x, (t.pairs)[i]? = some x := ⟨_, List.getElem?_eq_getElem (by omega)⟩
                                have hmx := List.mem_of_getElem? hx
                                have hsx := szT_pairs hmx
                                have hg := drop_of hx
                                refine WL_skip ?_
                                refine WL_seq ?_
                                apply WLp
                                · (repeat (first | exact rzz | apply rcc rfl | apply rnn rfl))
                                refine WL_seq ?_
                                refine WL_block ?_
                                refine WL_seq ?_
                                refine WL_reg ?_
                                refine O_p rfl rfl rfl ?_
                                refine O_h rfl rfl rfl rfl ?_
                                refine O_p rfl rfl rfl ?_
                                refine O_ia rfl rfl (Int.natCast_nonneg _) (encT_get (i := (i : Nat)) hx) (encT_flat _) rfl ?_
                                refine O_h rfl rfl rfl rfl ?_
                                refine O_p rfl rfl rfl ?_
                                refine O_p rfl rfl rfl ?_
                                refine O_c 46 rfl rfl (callA_of rfl (by rw [hl1]; exact ih x d (by omega) (w6 x hmx) (by omega))) ?_
                                refine O_p rfl rfl rfl ?_
                                refine WO_nil ?_
                                refine WL_seq ?_
                                apply WLp
                                · (repeat (first | exact rzz | apply rcc rfl | apply rnn rfl))
                                refine WL_cond rfl (fun h110 => ?_) (fun h110 => ?_)
                                · skip
                                  have hr : rightT t (d + 1) = false := by
                                    simp at h110
                                    rw [rightT_succ, hs, hg]; simp [rightTs, h110]
                                  refine WL_seq ?_
                                  refine WL_reg ?_
                                  refine O_p rfl rfl rfl ?_
                                  refine WO_nil ?_
                                  refine WL_ret ?_
                                  refine Blk_ret ?_
                                  refine RndC_ret ?_
                                  refine Blk_ret ?_
                                  exact ⟨_, rfl, _, rfl, by rw [hr]⟩
                                · skip
                                  refine WL_skip ?_
                                  refine WL_nil ?_
                                  refine Blk_norm (?_ : WL _ _ _ _ _)
                                  refine WL_seq ?_
                                  apply WLp
                                  · (repeat (first | exact rzz | apply rcc rfl | apply rnn rfl))
                                  refine WL_reg ?_
                                  refine O_p rfl rfl rfl ?_
                                  refine O_p rfl rfl rfl ?_
                                  refine O_p rfl rfl rfl ?_
                                  refine WO_nil ?_
                                  refine WL_nil ?_
                                  simp at h110
                                  refine RndC_norm (i + 1) (by refine ⟨by omega, ?_⟩; rw [hs, hg, rightTs, h110]; rfl) (by show _ < _; omega) ?_ rfl
                                  · rw [wrap_succ (by omega)]; (repeat (first | exact rzz | apply rcc rfl | apply rnn rfl))
                              · skip
                                have hq : rightTs t.pairs d = true := by
                                  simp at h99
                                  rw [hs, List.drop_eq_nil_of_le (by omega)]; rfl
                                refine WL_exit ?_
                                refine RndC_exit ?_
                                refine Blk_exit (?_ : WL _ _ _ _ _)
                                refine WL_seq ?_
                                apply WLp
                                · (repeat (first | exact rzz | apply rcc rfl | apply rnn rfl))
                                refine WL_seq ?_
                                refine WL_seq ?_
                                refine WL_reg ?_
                                refine O_p rfl rfl rfl ?_
                                refine WO_nil ?_
                                refine WL_seq ?_
                                apply WLp
                                · (repeat (first | exact rzz | apply rcc rfl | apply rnn rfl))
                                refine WL_block ?_
                                apply WL_forc (α := Nat) (fun i => [(7, .int .i64 (i : Nat))]) (fun i => i ≤ t.funs.length ∧ rightTs t.funs d = rightTs (t.funs.drop i) d) (fun i => t.funs.length - i) (0) (he := ?he) (hP := ?hP) (hk := ?hk) (round := ?round)
                                case he =>
                                  (repeat (first | exact rzz | apply rcc rfl | apply rnn rfl))
                                case hP =>
                                  exact ⟨by omega, rfl⟩
                                case hk =>
                                  show t.funs.length - 0 < n; omega
                                case round =>
                                  rintro i ⟨hi, hs⟩
                                  dsimp only [List.cons_append, List.nil_append] at *
                                  refine WL_seq ?_
                                  refine WL_seq ?_
                                  refine WL_reg ?_
                                  refine O_p rfl rfl rfl ?_
                                  refine O_p rfl rfl rfl ?_
                                  refine O_h rfl rfl rfl rfl ?_
                                  refine O_h rfl rfl rfl rfl ?_
                                  refine O_p rfl rfl rfl ?_
                                  refine WO_nil ?_
                                  refine WL_seq ?_
                                  apply WLp
                                  · (repeat (first | exact rzz | apply rcc rfl | apply rnn rfl))
                                  refine WL_cond rfl (fun h115 => ?_) (fun h115 => ?_)
                                  · skip
                                    simp at h115
                                    obtain ⟨x, hx⟩ : ∃ x, (t.funs)[i]? = some x := ⟨_, List.getElem?_eq_getElem (by omega)⟩
                                    have hmx := List.mem_of_getElem? hx
                                    have hsx := szT_funs hmx
                                    have hg := drop_of hx
                                    refine WL_skip ?_
                                    refine WL_seq ?_
                                    apply WLp
                                    · (repeat (first | exact rzz | apply rcc rfl | apply rnn rfl))
                                    refine WL_seq ?_
                                    refine WL_block ?_
                                    refine WL_seq ?_
                                    refine WL_reg ?_
                                    refine O_p rfl rfl rfl ?_
                                    refine O_h rfl rfl rfl rfl ?_
                                    refine O_p rfl rfl rfl ?_
                                    refine O_ia rfl rfl (Int.natCast_nonneg _) (encT_get (i := (i : Nat)) hx) (encT_flat _) rfl ?_
                                    refine O_h rfl rfl rfl rfl ?_
                                    refine O_p rfl rfl rfl ?_
                                    refine O_p rfl rfl rfl ?_
                                    refine O_c 46 rfl rfl (callA_of rfl (by rw [hl1]; exact ih x d (by omega) (w7 x hmx) (by omega))) ?_
                                    refine O_p rfl rfl rfl ?_
                                    refine WO_nil ?_
                                    refine WL_seq ?_
                                    apply WLp
                                    · (repeat (first | exact rzz | apply rcc rfl | apply rnn rfl))
                                    refine WL_cond rfl (fun h126 => ?_) (fun h126 => ?_)
                                    · skip
                                      have hr : rightT t (d + 1) = false := by
                                        simp at h126
                                        rw [rightT_succ, hs, hg]; simp [rightTs, h126]
                                      refine WL_seq ?_
                                      refine WL_reg ?_
                                      refine O_p rfl rfl rfl ?_
                                      refine WO_nil ?_
                                      refine WL_ret ?_
                                      refine Blk_ret ?_
                                      refine RndC_ret ?_
                                      refine Blk_ret ?_
                                      exact ⟨_, rfl, _, rfl, by rw [hr]⟩
                                    · skip
                                      refine WL_skip ?_
                                      refine WL_nil ?_
                                      refine Blk_norm (?_ : WL _ _ _ _ _)
                                      refine WL_seq ?_
                                      apply WLp
                                      · (repeat (first | exact rzz | apply rcc rfl | apply rnn rfl))
                                      refine WL_reg ?_
                                      refine O_p rfl rfl rfl ?_
                                      refine O_p rfl rfl rfl ?_
                                      refine O_p rfl rfl rfl ?_
                                      refine WO_nil ?_
                                      refine WL_nil ?_
                                      simp at h126
                                      refine RndC_norm (i + 1) (by refine ⟨by omega, ?_⟩; rw [hs, hg, rightTs, h126]; rfl) (by show _ < _; omega) ?_ rfl
                                      · rw [wrap_succ (by omega)]; (repeat (first | exact rzz | apply rcc rfl | apply rnn rfl))
                                  · skip
                                    have hr : rightT t (d + 1) = true := by
                                      simp at h115
                                      rw [rightT_succ, hok, hq, hs, List.drop_eq_nil_of_le (by omega)]; rfl
                                    refine WL_exit ?_
                                    refine RndC_exit ?_
                                    refine Blk_exit (?_ : WL _ _ _ _ _)
                                    refine WL_seq ?_
                                    apply WLp
                                    · (repeat (first | exact rzz | apply rcc rfl | apply rnn rfl))
                                    refine WL_seq ?_
                                    refine WL_reg ?_
                                    refine O_p rfl rfl rfl ?_
                                    refine WO_nil ?_
                                    refine WL_ret ?_
                                    exact ⟨_, rfl, _, rfl, by rw [hr]⟩
theorem same_ref : ∀ (n : Nat) (a b : Ty), szT a < n → WfT a → pcall (tabOf tabL) n 19 [vT a, vT b] = some (.ok (.bool (sameT a b)))
  | 0, a, b, h, _ => by omega
  | n + 1, a, b, h, hw => by
    have ih := same_ref n
    have hp := len_pairs a
    have hf := len_funs a
    cases hw with | mk w1 w2 w3 w4 w5 w6 w7 =>
    refine pcall_fin t19 ?_
    refine WL_seq ?_
    refine WL_reg ?_
    refine O_n rfl rfl rfl ?_
    refine O_n rfl rfl rfl ?_
    refine O_p rfl rfl rfl ?_
    refine WO_nil ?_
    refine WL_seq ?_
    apply WLp
    · (repeat (first | exact rzz | apply rcc rfl | apply rnn rfl))
    refine WL_seq ?_
    refine WL_seq ?_
    refine WL_reg ?_
    refine O_p rfl rfl rfl ?_
    refine O_h rfl rfl rfl rfl ?_
    refine O_p rfl rfl rfl ?_
    refine O_h rfl rfl rfl rfl ?_
    refine O_p rfl rfl rfl ?_
    refine O_p rfl rfl rfl ?_
    apply O_or [_, _, _, _, _] rfl rfl (hT := ?hT18) (h := ?hR18)
    case hT18 =>
      intro hb12
      refine O_p rfl rfl rfl ?_
      refine O_h rfl rfl rfl rfl ?_
      refine O_p rfl rfl rfl ?_
      refine O_h rfl rfl rfl rfl ?_
      refine O_p rfl rfl rfl ?_
      exact WO_nil (WL_nil ⟨rfl, rfl, rfl⟩)
    case hR18 =>
      intro vs hvs
      obtain ⟨u13, u14, u15, u16, u17, rfl⟩ := len5 hvs
      clear hvs; dsimp only [junk]
      refine O_p rfl rfl rfl ?_
      apply O_or [_, _, _, _, _] rfl rfl (hT := ?hT25) (h := ?hR25)
      case hT25 =>
        intro hb19
        refine O_p rfl rfl rfl ?_
        refine O_h rfl rfl rfl rfl ?_
        refine O_p rfl rfl rfl ?_
        refine O_h rfl rfl rfl rfl ?_
        refine O_p rfl rfl rfl ?_
        exact WO_nil (WL_nil ⟨rfl, rfl, rfl⟩)
      case hR25 =>
        intro vs hvs
        obtain ⟨u20, u21, u22, u23, u24, rfl⟩ := len5 hvs
        clear hvs; dsimp only [junk]
        refine O_p rfl rfl rfl ?_
        apply O_or [_, _, _, _, _] rfl rfl (hT := ?hT32) (h := ?hR32)
        case hT32 =>
          intro hb26
          refine O_p rfl rfl rfl ?_
          refine O_h rfl rfl rfl rfl ?_
          refine O_p rfl rfl rfl ?_
          refine O_h rfl rfl rfl rfl ?_
          refine O_p rfl rfl rfl ?_
          exact WO_nil (WL_nil ⟨rfl, rfl, rfl⟩)
        case hR32 =>
          intro vs hvs
          obtain ⟨u27, u28, u29, u30, u31, rfl⟩ := len5 hvs
          clear hvs; dsimp only [junk]
          refine O_p rfl rfl rfl ?_
          apply O_or [_, _, _, _, _, _, _] rfl rfl (hT := ?hT41) (h := ?hR41)
          case hT41 =>
            intro hb33
            refine O_p rfl rfl rfl ?_
            refine O_h rfl rfl rfl rfl ?_
            refine O_h rfl rfl rfl rfl ?_
            refine O_p rfl rfl rfl ?_
            refine O_h rfl rfl rfl rfl ?_
            refine O_h rfl rfl rfl rfl ?_
            refine O_p rfl rfl rfl ?_
            exact WO_nil (WL_nil ⟨rfl, rfl, rfl⟩)
          case hR41 =>
            intro vs hvs
            obtain ⟨u34, u35, u36, u37, u38, u39, u40, rfl⟩ := len7 hvs
            clear hvs; dsimp only [junk]
            refine O_p rfl rfl rfl ?_
            apply O_or [_, _, _, _, _, _, _] rfl rfl (hT := ?hT50) (h := ?hR50)
            case hT50 =>
              intro hb42
              refine O_p rfl rfl rfl ?_
              refine O_h rfl rfl rfl rfl ?_
              refine O_h rfl rfl rfl rfl ?_
              refine O_p rfl rfl rfl ?_
              refine O_h rfl rfl rfl rfl ?_
              refine O_h rfl rfl rfl rfl ?_
              refine O_p rfl rfl rfl ?_
              exact WO_nil (WL_nil ⟨rfl, rfl, rfl⟩)
            case hR50 =>
              intro vs hvs
              obtain ⟨u43, u44, u45, u46, u47, u48, u49, rfl⟩ := len7 hvs
              clear hvs; dsimp only [junk]
              refine WO_nil ?_
              refine WL_seq ?_
              apply WLp
              · (repeat (first | exact rzz | apply rcc rfl | apply rnn rfl))
              try clear u13 u14 u15 u16 u17 u20 u21 u22 u23 u24 u27 u28 u29 u30 u31 u34 u35 u36 u37 u38 u39 u40 u43 u44 u45 u46 u47 u48 u49
              refine WL_cond rfl (fun h50 => ?_) (fun h50 => ?_)
              · skip
                have hr : sameT a b = false := by
                  cases q : sameT a b with
                  | false => rfl
                  | true =>
                    obtain ⟨q1, q2, q3, q4, q5, q6⟩ := sameT_true q
                    simp [q1, q2, q3, q4, sameTs_len q5, sameTs_len q6] at h50
                refine WL_seq ?_
                refine WL_reg ?_
                refine O_p rfl rfl rfl ?_
                refine WO_nil ?_
                refine WL_ret ?_
                exact ⟨_, rfl, _, rfl, by rw [hr]⟩
              · skip
                simp at h50
                obtain ⟨⟨⟨⟨⟨k1, k2⟩, k3⟩, k4⟩, k5⟩, k6⟩ := h50
                refine WL_skip ?_
                refine WL_seq ?_
                apply WLp
                · (repeat (first | exact rzz | apply rcc rfl | apply rnn rfl))
                refine WL_seq ?_
                refine WL_seq ?_
                refine WL_reg ?_
                refine O_p rfl rfl rfl ?_
                refine WO_nil ?_
                refine WL_seq ?_
                apply WLp
                · (repeat (first | exact rzz | apply rcc rfl | apply rnn rfl))
                refine WL_block ?_
                apply WL_forc (α := Nat) (fun i => [(5, .int .i64 (i : Int))]) (fun i => i ≤ a.pairs.length ∧ sameTs a.pairs b.pairs = sameTs (a.pairs.drop i) (b.pairs.drop i)) (fun i => a.pairs.length - i) (0) (he := ?he) (hP := ?hP) (hk := ?hk) (round := ?round)
                case he =>
                  (repeat (first | exact rzz | apply rcc rfl | apply rnn rfl))
                case hP =>
                  exact ⟨by omega, rfl⟩
                case hk =>
                  show a.pairs.length - 0 < n; omega
                case round =>
                  rintro i ⟨hi, hs⟩
                  dsimp only [List.cons_append, List.nil_append] at *
                  refine WL_seq ?_
                  refine WL_seq ?_
                  refine WL_reg ?_
                  refine O_p rfl rfl rfl ?_
                  refine O_p rfl rfl rfl ?_
                  refine O_h rfl rfl rfl rfl ?_
                  refine O_h rfl rfl rfl rfl ?_
                  refine O_p rfl rfl rfl ?_
                  refine WO_nil ?_
                  refine WL_seq ?_
                  apply WLp
                  · (repeat (first | exact rzz | apply rcc rfl | apply rnn rfl))
                  refine WL_cond rfl (fun h55 => ?_) (fun h55 => ?_)
                  · skip
                    simp at h55
                    obtain ⟨x, hx⟩ : ∃ x, (a.pairs)[i]? = some x := ⟨_, List.getElem?_eq_getElem (by omega)⟩
                    have hmx := List.mem_of_getElem? hx
                    have hsx := szT_pairs hmx
                    obtain ⟨y, hy⟩ : ∃ y, (b.pairs)[i]? = some y := ⟨_, List.getElem?_eq_getElem (by omega)⟩
                    have hmy := List.mem_of_getElem? hy
                    refine WL_skip ?_
                    refine WL_seq ?_
                    apply WLp
                    · (repeat (first | exact rzz | apply rcc rfl | apply rnn rfl))
                    refine WL_seq ?_
                    refine WL_block ?_
                    refine WL_seq ?_
                    refine WL_drawS (ops := [_, _, _, _, _, _, _, _, _, _, _, _]) rfl rfl ?_
                    refine O_p rfl rfl rfl ?_
                    refine O_h rfl rfl rfl rfl ?_
                    refine O_p rfl rfl rfl ?_
                    refine O_ia rfl rfl (Int.natCast_nonneg _) (encT_get (i := (i : Nat)) hx) (encT_flat _) rfl ?_
                    refine O_h rfl rfl rfl rfl ?_
                    refine O_p rfl rfl rfl ?_
                    refine O_h rfl rfl rfl rfl ?_
                    refine O_p rfl rfl rfl ?_
                    refine O_ia rfl rfl (Int.natCast_nonneg _) (encT_get (i := (i : Nat)) hy) (encT_flat _) rfl ?_
                    refine O_h rfl rfl rfl rfl ?_
                    refine O_c 19 rfl rfl (callA_of rfl (ih x y (by omega) (w6 x hmx))) ?_
                    refine O_p rfl rfl rfl ?_
                    refine WO_nil (WL_nil ⟨rfl, ?_⟩)
                    refine WL_seq ?_
                    apply WLp
                    · (repeat (first | exact rzz | apply rcc rfl | apply rnn rfl))
                    refine WL_cond rfl (fun h69 => ?_) (fun h69 => ?_)
                    · skip
                      have hr : sameT a b = false := by
                        simp at h69
                        rw [sameT_eq, hs, drop_of hx, drop_of hy]; simp [sameTs, h69]
                      refine WL_seq ?_
                      refine WL_reg ?_
                      refine O_p rfl rfl rfl ?_
                      refine WO_nil ?_
                      refine WL_ret ?_
                      refine Blk_ret ?_
                      refine RndC_ret ?_
                      refine Blk_ret ?_
                      exact ⟨_, rfl, _, rfl, by rw [hr]⟩
                    · skip
                      refine WL_skip ?_
                      refine WL_nil ?_
                      refine Blk_norm (?_ : WL _ _ _ _ _)
                      refine WL_seq ?_
                      apply WLp
                      · (repeat (first | exact rzz | apply rcc rfl | apply rnn rfl))
                      refine WL_reg ?_
                      refine O_p rfl rfl rfl ?_
                      refine O_p rfl rfl rfl ?_
                      refine O_p rfl rfl rfl ?_
                      refine WO_nil ?_
                      refine WL_nil ?_
                      simp at h69
                      refine RndC_norm (i + 1) (by refine ⟨by omega, ?_⟩; rw [hs, drop_of hx, drop_of hy, sameTs, h69]; rfl) (by show _ < _; omega) ?_ rfl
                      · rw [wrap_succ (by omega)]; (repeat (first | exact rzz | apply rcc rfl | apply rnn rfl))
                  · skip
                    have hq : sameTs a.pairs b.pairs = true := by
                      simp at h55
                      rw [hs, List.drop_eq_nil_of_le (by omega), List.drop_eq_nil_of_le (by omega)]; rfl
                    refine WL_exit ?_
                    refine RndC_exit ?_
                    refine Blk_exit (?_ : WL _ _ _ _ _)
                    refine WL_seq ?_
                    apply WLp
                    · (repeat (first | exact rzz | apply rcc rfl | apply rnn rfl))
                    refine WL_seq ?_
                    refine WL_seq ?_
                    refine WL_reg ?_
                    refine O_p rfl rfl rfl ?_
                    refine WO_nil ?_
                    refine WL_seq ?_
                    apply WLp
                    · (repeat (first | exact rzz | apply rcc rfl | apply rnn rfl))
                    refine WL_block ?_
                    apply WL_forc (α := Nat) (fun i => [(6, .int .i64 (i : Int))]) (fun i => i ≤ a.funs.length ∧ sameTs a.funs b.funs = sameTs (a.funs.drop i) (b.funs.drop i)) (fun i => a.funs.length - i) (0) (he := ?he) (hP := ?hP) (hk := ?hk) (round := ?round)
                    case he =>
                      (repeat (first | exact rzz | apply rcc rfl | apply rnn rfl))
                    case hP =>
                      exact ⟨by omega, rfl⟩
                    case hk =>
                      show a.funs.length - 0 < n; omega
                    case round =>
                      rintro i ⟨hi, hs⟩
                      dsimp only [List.cons_append, List.nil_append] at *
                      refine WL_seq ?_
                      refine WL_seq ?_
                      refine WL_reg ?_
                      refine O_p rfl rfl rfl ?_
                      refine O_p rfl rfl rfl ?_
                      refine O_h rfl rfl rfl rfl ?_
                      refine O_h rfl rfl rfl rfl ?_
                      refine O_p rfl rfl rfl ?_
                      refine WO_nil ?_
                      refine WL_seq ?_
                      apply WLp
                      · (repeat (first | exact rzz | apply rcc rfl | apply rnn rfl))
                      refine WL_cond rfl (fun h74 => ?_) (fun h74 => ?_)
                      · skip
                        simp at h74
                        obtain ⟨x, hx⟩ : ∃ x, (a.funs)[i]? = some x := ⟨_, List.getElem?_eq_getElem (by omega)⟩
                        have hmx := List.mem_of_getElem? hx
                        have hsx := szT_funs hmx
                        obtain ⟨y, hy⟩ : ∃ y, (b.funs)[i]? = some y := ⟨_, List.getElem?_eq_getElem (by omega)⟩
                        have hmy := List.mem_of_getElem? hy
                        refine WL_skip ?_
                        refine WL_seq ?_
                        apply WLp
                        · (repeat (first | exact rzz | apply rcc rfl | apply rnn rfl))
                        refine WL_seq ?_
                        refine WL_block ?_
                        refine WL_seq ?_
                        refine WL_drawS (ops := [_, _, _, _, _, _, _, _, _, _, _, _]) rfl rfl ?_
                        refine O_p rfl rfl rfl ?_
                        refine O_h rfl rfl rfl rfl ?_
                        refine O_p rfl rfl rfl ?_
                        refine O_ia rfl rfl (Int.natCast_nonneg _) (encT_get (i := (i : Nat)) hx) (encT_flat _) rfl ?_
                        refine O_h rfl rfl rfl rfl ?_
                        refine O_p rfl rfl rfl ?_
                        refine O_h rfl rfl rfl rfl ?_
                        refine O_p rfl rfl rfl ?_
                        refine O_ia rfl rfl (Int.natCast_nonneg _) (encT_get (i := (i : Nat)) hy) (encT_flat _) rfl ?_
                        refine O_h rfl rfl rfl rfl ?_
                        refine O_c 19 rfl rfl (callA_of rfl (ih x y (by omega) (w7 x hmx))) ?_
                        refine O_p rfl rfl rfl ?_
                        refine WO_nil (WL_nil ⟨rfl, ?_⟩)
                        refine WL_seq ?_
                        apply WLp
                        · (repeat (first | exact rzz | apply rcc rfl | apply rnn rfl))
                        refine WL_cond rfl (fun h88 => ?_) (fun h88 => ?_)
                        · skip
                          have hr : sameT a b = false := by
                            simp at h88
                            rw [sameT_eq, hs, drop_of hx, drop_of hy]; simp [sameTs, h88]
                          refine WL_seq ?_
                          refine WL_reg ?_
                          refine O_p rfl rfl rfl ?_
                          refine WO_nil ?_
                          refine WL_ret ?_
                          refine Blk_ret ?_
                          refine RndC_ret ?_
                          refine Blk_ret ?_
                          exact ⟨_, rfl, _, rfl, by rw [hr]⟩
                        · skip
                          refine WL_skip ?_
                          refine WL_nil ?_
                          refine Blk_norm (?_ : WL _ _ _ _ _)
                          refine WL_seq ?_
                          apply WLp
                          · (repeat (first | exact rzz | apply rcc rfl | apply rnn rfl))
                          refine WL_reg ?_
                          refine O_p rfl rfl rfl ?_
                          refine O_p rfl rfl rfl ?_
                          refine O_p rfl rfl rfl ?_
                          refine WO_nil ?_
                          refine WL_nil ?_
                          simp at h88
                          refine RndC_norm (i + 1) (by refine ⟨by omega, ?_⟩; rw [hs, drop_of hx, drop_of hy, sameTs, h88]; rfl) (by show _ < _; omega) ?_ rfl
                          · rw [wrap_succ (by omega)]; (repeat (first | exact rzz | apply rcc rfl | apply rnn rfl))
                      · skip
                        have hr : sameT a b = true := by
                          simp at h74
                          rw [sameT_eq, hq, hs, List.drop_eq_nil_of_le (by omega), List.drop_eq_nil_of_le (by omega)]; simp [k1, k2, k3, k4, sameTs]
                        refine WL_exit ?_
                        refine RndC_exit ?_
                        refine Blk_exit (?_ : WL _ _ _ _ _)
                        refine WL_seq ?_
                        apply WLp
                        · (repeat (first | exact rzz | apply rcc rfl | apply rnn rfl))
                        refine WL_seq ?_
                        refine WL_reg ?_
                        refine O_p rfl rfl rfl ?_
                        refine WO_nil ?_
                        refine WL_ret ?_
                        exact ⟨_, rfl, _, rfl, by rw [hr]⟩
theorem right_ref (n : Nat) (t : Ty) (h : szT t < n) (hw : WfT t) : pcall (tabOf tabL) (n + 1) 16 [vT t] = some (.ok (.bool (decide (rsz t 60 ≤ 300) && rightT t 20))) := by
  refine pcall_fin t16 ?_
  refine WL_seq ?_
  refine WL_reg ?_
  refine O_n rfl rfl rfl ?_
  refine O_p rfl rfl rfl ?_
  refine WO_nil ?_
  refine WL_seq ?_
  apply WLp
  · (repeat (first | exact rzz | apply rcc rfl | apply rnn rfl))
  refine WL_seq ?_
  refine WL_reg ?_
  refine O_h rfl rfl rfl rfl ?_
  refine O_c 45 rfl rfl (callA_of rfl (size_c n t 60 h hw (by omega))) ?_
  refine O_p rfl rfl rfl ?_
  refine O_p rfl rfl rfl ?_
  apply O_and [_, _] rfl rfl (hT := ?hT9) (h := ?hR9)
  case hT9 =>
    intro hb6
    refine O_h rfl rfl rfl rfl ?_
    refine O_c 46 rfl rfl (callA_of rfl (deep_c n t 20 h hw (by omega))) ?_
    exact WO_nil (WL_nil ⟨rfl, rfl, rfl⟩)
  case hR9 =>
    intro vs hvs
    obtain ⟨u7, u8, rfl⟩ := len2 hvs
    clear hvs; dsimp only [junk]
    refine O_p rfl rfl rfl ?_
    refine WO_nil ?_
    refine WL_ret ?_
    exact ⟨_, rfl, _, rfl, by congr 3; apply decide_eq_decide.2; omega⟩
end Go.Ev.Seat.TyS
namespace Go.Ev.Seat
set_option linter.unusedVariables false
set_option linter.unusedSimpArgs false
open Go Go.Ev
set_option maxRecDepth 20000
attribute [local irreducible] pcall callF
theorem awake_c (n : Nat) : pcall (tabOf tabL) (n + 100) 8 [] = some (.ok (.bool true)) := by kernel_rfl
noncomputable section
open Classical
def oAwake : Option Bool := some true
theorem oAwake_ok {r : Bool} (h : oAwake = some r) : PRes (tabOf tabL) 8 [] (.bool r) := by
  cases h; exact .of_le 100 awake_c
def oLightT (t : Ty) : Option Bool := if WfT t then some (decide (rsz t 60 < 120)) else none
theorem oLightT_ok {t : Ty} {r : Bool} (h : oLightT t = some r) : PRes (tabOf tabL) 15 [vT t] (.bool r) := by
  unfold oLightT at h
  split at h <;> cases h
  rename_i hw
  exact .of_lt (szT t + 1) fun n hn => by obtain ⟨m, rfl⟩ : ∃ m, n = m + 1 := ⟨n - 1, by omega⟩; exact TyS.light_c m t (by omega) hw
def oRightT (t : Ty) : Option Bool := if WfT t then some (decide (rsz t 60 ≤ 300) && rightT t 20) else none
theorem oRightT_ok {t : Ty} {r : Bool} (h : oRightT t = some r) : PRes (tabOf tabL) 16 [vT t] (.bool r) := by
  unfold oRightT at h
  split at h <;> cases h
  rename_i hw
  exact .of_lt (szT t + 1) fun n hn => by obtain ⟨m, rfl⟩ : ∃ m, n = m + 1 := ⟨n - 1, by omega⟩; exact TyS.right_ref m t (by omega) hw
def oSameT (a b : Ty) : Option Bool := if WfT a then some (sameT a b) else none
theorem oSameT_ok {a b : Ty} {r : Bool} (h : oSameT a b = some r) : PRes (tabOf tabL) 19 [vT a, vT b] (.bool r) := by
  unfold oSameT at h
  split at h <;> cases h
  rename_i hw
  exact .of_lt (szT a) fun n hn => TyS.same_ref n a b hn hw
end
end Go.Ev.Seat
namespace Go.Ev.Seat
set_option linter.unusedVariables false
set_option linter.unusedSimpArgs false
open Go Go.Ev
set_option maxRecDepth 20000
attribute [local irreducible] pcall callF
noncomputable def g_w06_NarrowTypes_j1 (r4 : Bool) : Option Bool :=
  some r4
noncomputable def g_w06_NarrowTypes_l2 (tags2 : Int) (r4 : Bool) (r38 : List Ty) (r40 : List Ty) : List Ty → Nat → Option Bool
  | [], _ => g_w06_NarrowTypes_j1 r4
  | y174 :: rest176, i175 => ((idx r38 ((i175 : Nat) : Int)).bind fun e186 => ((idx r40 ((i175 : Nat) : Int)).bind fun e187 => ((oSameT e186 e187).bind fun r188 => ((g_narrow_Keep y174 tags2).bind fun r189 => ((g_r06_Keep y174 tags2).bind fun r190 => ((oSameT r189 r190).bind fun r191 => ((cond (!r188) (some true) (some (!r191))).bind fun v192 => ((cond v192 (some true) (((g_narrow_Tags y174).bind fun r193 => ((g_r06_Tags y174).bind fun r194 => some (!decide (r193 = r194)))))).bind fun v195 => (cond v195 (some false) ((g_w06_NarrowTypes_l2 tags2 r4 r38 r40 rest176 (i175 + 1))))))))))))
noncomputable def g_w06_NarrowTypes_j3 (n : Nat) (env1 : List Ty) (tags2 : Int) (f3 : Fts) (r4 : Bool) : Option Bool :=
  ((g_narrow_Apply env1 f3).bind fun r38 => ((g_w06_to f3).bind fun r39 => ((g_r06_Apply n env1 r39).bind fun r40 => (cond (!decide (((List.length r38 : Nat) : Int) = ((List.length r40 : Nat) : Int))) (some false) (cond (okLen env1) (g_w06_NarrowTypes_l2 tags2 r4 r38 r40 env1 0) none)))))
noncomputable def g_w06_NarrowTypes_l4 (n : Nat) (env1 : List Ty) (tags2 : Int) (f3 : Fts) (r4 : Bool) : List Ty → Nat → Option Bool
  | [], _ => g_w06_NarrowTypes_j3 n env1 tags2 f3 r4
  | y227 :: rest229, i228 => ((oLightT y227).bind fun r233 => ((cond (!r233) (some true) (((oRightT y227).bind fun r234 => some (!r234)))).bind fun v235 => (cond v235 (some r4) ((g_w06_NarrowTypes_l4 n env1 tags2 f3 r4 rest229 (i228 + 1))))))
noncomputable def g_w06_NarrowTypes (n : Nat) (env1 : List Ty) (tags2 : Int) (f3 : Fts) : Option Bool :=
  ((oAwake).bind fun r4 => (cond ((decide (8 < ((List.length env1 : Nat) : Int))) || (decide (30 < ((List.length f3.l : Nat) : Int)))) (some r4) (cond (okLen env1) (g_w06_NarrowTypes_l4 n env1 tags2 f3 r4 env1 0) none)))
abbrev kg11 (i175 : Nat) (env1 : List Ty) (tags2 : Int) (r4 : Bool) (r38 : List Ty) (r40 : List Ty) : List (Nat × AVal) := [(12, .int .i64 (((i175 + 1) : Nat) : Int)), (0, .lst (List.map encT env1) false), (1, .int .i64 tags2), (7, .bool r4), (10, .lst (List.map encT r38) false), (11, .lst (List.map encT r40) false)]
abbrev kg12 (env1 : List Ty) (tags2 : Int) (r4 : Bool) (r38 : List Ty) (r40 : List Ty) (i175 : Nat) : List (Nat × AVal) := [(0, .lst (List.map encT env1) false), (1, .int .i64 tags2), (7, .bool r4), (10, .lst (List.map encT r38) false), (11, .lst (List.map encT r40) false), (12, .int .i64 ((i175 : Nat) : Int))]
abbrev kg13 (env1 : List Ty) (tags2 : Int) (r4 : Bool) : List (Nat × AVal) := [(0, .lst (List.map encT env1) false), (1, .int .i64 tags2), (5, .ptr 0 0), (7, .bool r4)]
theorem g_w06_NarrowTypes_ok {n : Nat} {env1 : List Ty} {tags2 : Int} {f3 : Fts} {r : Bool} (hr : g_w06_NarrowTypes n env1 tags2 f3 = some r) : PRes (tabOf tabL) 4 [.lst (List.map encT env1) false, .int .i64 tags2, .agg (cFts f3)] (.bool r) := by
  refine pres_fin t4 ?_
  unfold g_w06_NarrowTypes at hr
  refine L_seq ?_
  refine L_stmt ?_
  refine L_reg ?_
  refine G_n (B := .cells [.bool f3.never, .lst (List.map encFct f3.l) false]) rfl rfl rfl ?_
  refine G_p rfl rfl rfl ?_
  refine G_nil ?_
  refine L_nil ?_
  refine Sm_norm (e2 := [(0, .lst (List.map encT env1) false), (1, .int .i64 tags2), (5, .ptr 0 0)]) (H1 := [.cells [.bool f3.never, .lst (List.map encFct f3.l) false]]) (H2 := [.cells [.bool f3.never, .lst (List.map encFct f3.l) false]]) rfl (by repeat (first | exact rzz | apply rcc rfl | apply rnn rfl)) rfl (?_ : GL _ _ _ _ _)
  refine L_seq ?_
  refine L_stmt ?_
  refine L_reg ?_
  obtain ⟨r4, hr4, hr⟩ := bind_s hr
  refine G_c 8 rfl rfl (CA_of (as := []) rfl (oAwake_ok hr4)) ?_
  refine G_p rfl rfl rfl ?_
  refine G_nil ?_
  refine L_nil ?_
  refine Sm_norm (e2 := (kg13 env1 tags2 r4)) (H1 := [.cells [.bool f3.never, .lst (List.map encFct f3.l) false]]) (H2 := [.cells [.bool f3.never, .lst (List.map encFct f3.l) false]]) rfl (by repeat (first | exact rzz | apply rcc rfl | apply rnn rfl)) rfl (?_ : GL _ _ _ _ _)
  refine L_seq ?_
  refine L_stmt ?_
  refine L_seq ?_
  refine L_stmt ?_
  refine L_reg ?_
  refine G_p (v := .lst (List.map encT env1) false) rfl rfl rfl ?_
  refine G_h rfl rfl rfl (lenL_ev rfl (List.length_map _)) ?_
  refine G_p rfl rfl rfl ?_
  refine G_p rfl rfl rfl ?_
  refine G_or (f := (decide (30 < ((List.length f3.l : Nat) : Int)))) [_, _, _, _] rfl rfl ?_ ?_
  · intro hb19
    refine G_p rfl rfl rfl ?_
    refine G_h (v := .lst (List.map encFct f3.l) false) rfl rfl rfl (fun _ => rfl) ?_
    refine G_h rfl rfl rfl (lenL_ev rfl (List.length_map _)) ?_
    refine G_p rfl rfl rfl ?_
    exact G_nil (L_nil ⟨rfl, rfl, rfl⟩)
  · intro vs hvs
    obtain ⟨u20, u21, u22, u23, rfl⟩ := len4 hvs
    dsimp only [junk]
    refine G_nil ?_
    refine L_nil ?_
    refine Sm_norm (e2 := [(0, .lst (List.map encT env1) false), (1, .int .i64 tags2), (5, .ptr 0 0), (7, .bool r4), (24, .bool ((decide (8 < ((List.length env1 : Nat) : Int))) || (decide (30 < ((List.length f3.l : Nat) : Int)))))]) (H1 := [.cells [.bool f3.never, .lst (List.map encFct f3.l) false]]) (H2 := [.cells [.bool f3.never, .lst (List.map encFct f3.l) false]]) rfl (by repeat (first | exact rzz | apply rcc rfl | apply rnn rfl)) rfl (?_ : GL _ _ _ _ _)
    rcases cond_s hr with ⟨hc24, hr⟩ | ⟨hc24, hr⟩
    · refine L_T rfl hc24 ?_
      refine L_seq ?_
      refine L_reg ?_
      refine G_p rfl rfl rfl ?_
      refine G_p rfl rfl rfl ?_
      refine G_nil ?_
      refine L_ret ?_
      refine Sm_ret ?_
      have hr := some_s hr
      subst hr
      exact ⟨_, rfl, _, rfl, rfl⟩
    · refine L_F rfl hc24 ?_
      refine L_skip ?_
      refine L_nil ?_
      refine Sm_norm (e2 := (kg13 env1 tags2 r4)) (H1 := [.cells [.bool f3.never, .lst (List.map encFct f3.l) false]]) (H2 := [.cells [.bool f3.never, .lst (List.map encFct f3.l) false]]) rfl (by repeat (first | exact rzz | apply rcc rfl | apply rnn rfl)) rfl (?_ : GL _ _ _ _ _)
      refine L_seq ?_
      refine L_stmtJ (S := Unit) (fun s => (kg13 env1 tags2 r4)) (fun s => [.cells [.bool f3.never, .lst (List.map encFct f3.l) false]]) (fun s => g_w06_NarrowTypes_j3 n env1 tags2 f3 r4 = some r) ?_ ?_
      · skip
        refine L_seq ?_
        refine L_stmt ?_
        refine L_reg ?_
        refine G_p rfl rfl rfl ?_
        refine G_nil ?_
        refine L_nil ?_
        refine Sm_norm (e2 := [(0, .lst (List.map encT env1) false), (1, .int .i64 tags2), (5, .ptr 0 0), (7, .bool r4), (8, .int .i64 0)]) (H1 := [.cells [.bool f3.never, .lst (List.map encFct f3.l) false]]) (H2 := [.cells [.bool f3.never, .lst (List.map encFct f3.l) false]]) rfl (by repeat (first | exact rzz | apply rcc rfl | apply rnn rfl)) rfl (?_ : GL _ _ _ _ _)
        refine L_block ?_
        obtain ⟨hLq226, hr⟩ := guard_s hr
        replace hLq226 := okLen_s hLq226
        refine L_range (X := Ty) (S := Unit) env1 (fun i228 s => [(8, .int .i64 ((i228 : Nat) : Int)), (0, .lst (List.map encT env1) false), (1, .int .i64 tags2), (5, .ptr 0 0), (7, .bool r4)]) (fun i228 s => [.cells [.bool f3.never, .lst (List.map encFct f3.l) false]]) (fun rest i228 s => g_w06_NarrowTypes_l4 n env1 tags2 f3 r4 rest i228 = some r) (()) ?_ rfl hr ?_ ?_
        · show restr _ _ = [(8, .int .i64 ((0 : Nat) : Int)), (0, .lst (List.map encT env1) false), (1, .int .i64 tags2), (5, .ptr 0 0), (7, .bool r4)]
          (repeat (first | exact rzz | apply rcc rfl | apply rnn rfl))
        · rintro ⟨⟩ hr
          show GL _ _ [(8, .int .i64 (((List.length env1) : Nat) : Int)), (0, .lst (List.map encT env1) false), (1, .int .i64 tags2), (5, .ptr 0 0), (7, .bool r4)] [.cells [.bool f3.never, .lst (List.map encFct f3.l) false]] _
          replace hr : g_w06_NarrowTypes_l4 n env1 tags2 f3 r4 [] (List.length env1) = some r := hr
          rw [g_w06_NarrowTypes_l4] at hr
          refine L_seq ?_
          refine L_stmt ?_
          refine L_seq ?_
          refine L_stmt ?_
          refine L_reg ?_
          refine G_p rfl rfl rfl ?_
          refine G_p (v := .lst (List.map encT env1) false) rfl rfl rfl ?_
          refine G_h rfl rfl rfl (lenL_ev rfl (List.length_map _)) ?_
          refine G_v (.bool false) rfl rfl rfl (congrArg AVal.bool (decide_eq_false (by omega))) ?_
          refine G_nil ?_
          refine L_nil ?_
          refine Sm_norm (e2 := [(0, .lst (List.map encT env1) false), (1, .int .i64 tags2), (5, .ptr 0 0), (7, .bool r4), (8, .int .i64 ((List.length env1 : Nat) : Int)), (29, .bool false)]) (H1 := [.cells [.bool f3.never, .lst (List.map encFct f3.l) false]]) (H2 := [.cells [.bool f3.never, .lst (List.map encFct f3.l) false]]) rfl (by repeat (first | exact rzz | apply rcc rfl | apply rnn rfl)) rfl (?_ : GL _ _ _ _ _)
          refine L_F rfl rfl ?_
          refine L_exit ?_
          refine Sm_exit ?_
          refine Rd_exit ?_
          refine Blk_exit (?_ : GL _ _ _ _ _)
          refine L_nil ?_
          exact Sm_norm (e2 := (kg13 env1 tags2 r4)) (H1 := [.cells [.bool f3.never, .lst (List.map encFct f3.l) false]]) (H2 := [.cells [.bool f3.never, .lst (List.map encFct f3.l) false]]) rfl (by repeat (first | exact rzz | apply rcc rfl | apply rnn rfl)) rfl ⟨(), rfl, rfl, hr⟩
        · rintro y227 rest229 i228 ⟨⟩ hy227 hlti228 hr
          show GL _ _ [(8, .int .i64 ((i228 : Nat) : Int)), (0, .lst (List.map encT env1) false), (1, .int .i64 tags2), (5, .ptr 0 0), (7, .bool r4)] [.cells [.bool f3.never, .lst (List.map encFct f3.l) false]] _
          replace hr : g_w06_NarrowTypes_l4 n env1 tags2 f3 r4 (y227 :: rest229) i228 = some r := hr
          rw [g_w06_NarrowTypes_l4] at hr
          refine L_seq ?_
          refine L_stmt ?_
          refine L_seq ?_
          refine L_stmt ?_
          refine L_reg ?_
          refine G_p rfl rfl rfl ?_
          refine G_p (v := .lst (List.map encT env1) false) rfl rfl rfl ?_
          refine G_h rfl rfl rfl (lenL_ev rfl (List.length_map _)) ?_
          refine G_v (.bool true) rfl rfl rfl (congrArg AVal.bool (decide_eq_true (by omega))) ?_
          refine G_nil ?_
          refine L_nil ?_
          refine Sm_norm (e2 := [(0, .lst (List.map encT env1) false), (1, .int .i64 tags2), (5, .ptr 0 0), (7, .bool r4), (8, .int .i64 ((i228 : Nat) : Int)), (29, .bool true)]) (H1 := [.cells [.bool f3.never, .lst (List.map encFct f3.l) false]]) (H2 := [.cells [.bool f3.never, .lst (List.map encFct f3.l) false]]) rfl (by repeat (first | exact rzz | apply rcc rfl | apply rnn rfl)) rfl (?_ : GL _ _ _ _ _)
          refine L_T rfl rfl ?_
          refine L_skip ?_
          refine L_nil ?_
          refine Sm_norm (e2 := [(0, .lst (List.map encT env1) false), (1, .int .i64 tags2), (5, .ptr 0 0), (7, .bool r4), (8, .int .i64 ((i228 : Nat) : Int))]) (H1 := [.cells [.bool f3.never, .lst (List.map encFct f3.l) false]]) (H2 := [.cells [.bool f3.never, .lst (List.map encFct f3.l) false]]) rfl (by repeat (first | exact rzz | apply rcc rfl | apply rnn rfl)) rfl (?_ : GL _ _ _ _ _)
          refine L_seq ?_
          refine L_stmt ?_
          refine L_block ?_
          refine L_seq ?_
          refine L_stmt ?_
          refine L_reg ?_
          refine G_p (v := .lst (List.map encT env1) false) rfl rfl rfl ?_
          refine G_p rfl rfl rfl ?_
          refine G_h (v := .ro [.bool y227.all, .int .i64 y227.flat, .int .i64 y227.pair, .lst (List.map encT y227.pairs) false, .int .i64 y227.fn, .lst (List.map encT y227.funs) false]) rfl rfl rfl (ia_ev (cells := [.bool y227.all, .int .i64 y227.flat, .int .i64 y227.pair, .lst (List.map encT y227.pairs) false, .int .i64 y227.fn, .lst (List.map encT y227.funs) false]) rfl rfl (Int.natCast_nonneg _) (map_get (x := y227) (by rw [Int.toNat_natCast]; exact hy227)) (encT_flat _) rfl) ?_
          refine G_h (v := .agg (cT y227)) rfl rfl rfl (fun _ => rfl) ?_
          obtain ⟨r233, hr233, hr⟩ := bind_s hr
          refine G_c 15 rfl rfl (CA_of (as := [.agg (cT y227)]) rfl (oLightT_ok hr233)) ?_
          refine G_p rfl rfl rfl ?_
          refine G_nil ?_
          refine L_nil ?_
          refine Sm_norm (e2 := [(0, .lst (List.map encT env1) false), (1, .int .i64 tags2), (5, .ptr 0 0), (7, .bool r4), (8, .int .i64 ((i228 : Nat) : Int)), (9, .bool r233)]) (H1 := [.cells [.bool f3.never, .lst (List.map encFct f3.l) false]]) (H2 := [.cells [.bool f3.never, .lst (List.map encFct f3.l) false]]) rfl (by repeat (first | exact rzz | apply rcc rfl | apply rnn rfl)) rfl (?_ : GL _ _ _ _ _)
          refine L_seq ?_
          refine L_stmt ?_
          refine L_reg ?_
          refine G_p rfl rfl rfl ?_
          refine G_p rfl rfl rfl ?_
          refine G_p rfl rfl rfl ?_
          obtain ⟨v235, hvv235, hr⟩ := bind_s hr
          refine G_pick false [_, _, _, _, _, _] (v := .bool v235) (vo := .bool true) rfl rfl ?_ ?_ rfl ?_
          · intro hb39
            have hr := condF hb39 hvv235
            refine G_p (v := .lst (List.map encT env1) false) rfl rfl rfl ?_
            refine G_p rfl rfl rfl ?_
            refine G_h (v := .ro [.bool y227.all, .int .i64 y227.flat, .int .i64 y227.pair, .lst (List.map encT y227.pairs) false, .int .i64 y227.fn, .lst (List.map encT y227.funs) false]) rfl rfl rfl (ia_ev (cells := [.bool y227.all, .int .i64 y227.flat, .int .i64 y227.pair, .lst (List.map encT y227.pairs) false, .int .i64 y227.fn, .lst (List.map encT y227.funs) false]) rfl rfl (Int.natCast_nonneg _) (map_get (x := y227) (by rw [Int.toNat_natCast]; exact hy227)) (encT_flat _) rfl) ?_
            refine G_h (v := .agg (cT y227)) rfl rfl rfl (fun _ => rfl) ?_
            obtain ⟨r234, hr234, hr⟩ := bind_s hr
            refine G_c 16 rfl rfl (CA_of (as := [.agg (cT y227)]) rfl (oRightT_ok hr234)) ?_
            refine G_p rfl rfl rfl ?_
            cases hr; exact G_nil (L_nil ⟨rfl, rfl, rfl⟩)
          · intro hb39; exact pickF hvv235 hb39
          · intro vs hvs
            obtain ⟨u40, u41, u42, u43, u44, u45, rfl⟩ := len6 hvs
            dsimp only [junk]
            refine G_nil ?_
            refine L_nil ?_
            refine Sm_norm (e2 := [(0, .lst (List.map encT env1) false), (1, .int .i64 tags2), (5, .ptr 0 0), (7, .bool r4), (8, .int .i64 ((i228 : Nat) : Int)), (46, .bool v235)]) (H1 := [.cells [.bool f3.never, .lst (List.map encFct f3.l) false]]) (H2 := [.cells [.bool f3.never, .lst (List.map encFct f3.l) false]]) rfl (by repeat (first | exact rzz | apply rcc rfl | apply rnn rfl)) rfl (?_ : GL _ _ _ _ _)
            rcases cond_s hr with ⟨hc46, hr⟩ | ⟨hc46, hr⟩
            · refine L_T rfl hc46 ?_
              refine L_seq ?_
              refine L_reg ?_
              refine G_p rfl rfl rfl ?_
              refine G_p rfl rfl rfl ?_
              refine G_nil ?_
              refine L_ret ?_
              refine Blk_ret ?_
              refine Sm_ret ?_
              refine Rd_ret ?_
              refine Blk_ret ?_
              refine Sm_ret ?_
              have hr := some_s hr
              subst hr
              exact ⟨_, rfl, _, rfl, rfl⟩
            · refine L_F rfl hc46 ?_
              refine L_skip ?_
              refine L_nil ?_
              refine Blk_norm (?_ : GL _ _ _ _ _)
              refine L_nil ?_
              refine Sm_norm (e2 := [(0, .lst (List.map encT env1) false), (1, .int .i64 tags2), (5, .ptr 0 0), (7, .bool r4), (8, .int .i64 ((i228 : Nat) : Int))]) (H1 := [.cells [.bool f3.never, .lst (List.map encFct f3.l) false]]) (H2 := [.cells [.bool f3.never, .lst (List.map encFct f3.l) false]]) rfl (by repeat (first | exact rzz | apply rcc rfl | apply rnn rfl)) rfl (?_ : GL _ _ _ _ _)
              refine L_reg ?_
              refine G_p rfl rfl rfl ?_
              refine G_v (.int .i64 ((i228 + 1 : Nat) : Int)) rfl rfl rfl (congrArg _ (wrap_next hLq226 hlti228)) ?_
              refine G_p rfl rfl rfl ?_
              refine G_nil ?_
              refine L_nil ?_
              refine Rd_norm ⟨(), ?_, rfl, hr⟩
              show restr _ _ = [(8, .int .i64 (((i228 + 1) : Nat) : Int)), (0, .lst (List.map encT env1) false), (1, .int .i64 tags2), (5, .ptr 0 0), (7, .bool r4)]
              (repeat (first | exact rzz | apply rcc rfl | apply rnn rfl))
      · rintro ⟨⟩ hr
        show GL _ _ (kg13 env1 tags2 r4) [.cells [.bool f3.never, .lst (List.map encFct f3.l) false]] _
        replace hr : g_w06_NarrowTypes_j3 n env1 tags2 f3 r4 = some r := hr
        unfold g_w06_NarrowTypes_j3 at hr
        refine L_seq ?_
        refine L_stmt ?_
        refine L_reg ?_
        refine G_p (v := .lst (List.map encT env1) false) rfl rfl rfl ?_
        refine G_h (v := .agg (cFts f3)) rfl rfl rfl (fun _ => rfl) ?_
        obtain ⟨r38, hr38, hr⟩ := bind_s hr
        refine G_c 17 rfl rfl (CA_of (as := [.lst (List.map encT env1) false, .agg (cFts f3)]) rfl (g_narrow_Apply_ok hr38)) ?_
        refine G_p (v := .lst (List.map encT r38) false) rfl rfl rfl ?_
        refine G_nil ?_
        refine L_nil ?_
        refine Sm_norm (e2 := [(0, .lst (List.map encT env1) false), (1, .int .i64 tags2), (5, .ptr 0 0), (7, .bool r4), (10, .lst (List.map encT r38) false)]) (H1 := [.cells [.bool f3.never, .lst (List.map encFct f3.l) false]]) (H2 := [.cells [.bool f3.never, .lst (List.map encFct f3.l) false]]) (frz_c (frz_lst rfl) rfl) (by repeat (first | exact rzz | apply rcc rfl | apply rnn rfl)) rfl (?_ : GL _ _ _ _ _)
        refine L_seq ?_
        refine L_stmt ?_
        refine L_reg ?_
        refine G_p (v := .lst (List.map encT env1) false) rfl rfl rfl ?_
        refine G_h (v := .agg (cFts f3)) rfl rfl rfl (fun _ => rfl) ?_
        obtain ⟨r39, hr39, hr⟩ := bind_s hr
        refine G_c 10 rfl rfl (CA_of (as := [.agg (cFts f3)]) rfl (g_w06_to_ok hr39)) ?_
        obtain ⟨r40, hr40, hr⟩ := bind_s hr
        refine G_c 18 rfl rfl (CA_of (as := [.lst (List.map encT env1) false, .agg (cFts r39)]) rfl (g_r06_Apply_ok hr40)) ?_
        refine G_p (v := .lst (List.map encT r40) false) rfl rfl rfl ?_
        refine G_nil ?_
        refine L_nil ?_
        refine Sm_norm (e2 := [(0, .lst (List.map encT env1) false), (1, .int .i64 tags2), (7, .bool r4), (10, .lst (List.map encT r38) false), (11, .lst (List.map encT r40) false)]) (H1 := [.cells [.bool f3.never, .lst (List.map encFct f3.l) false]]) (H2 := [.cells [.bool f3.never, .lst (List.map encFct f3.l) false]]) (frz_c (frz_lst rfl) rfl) (by repeat (first | exact rzz | apply rcc rfl | apply rnn rfl)) rfl (?_ : GL _ _ _ _ _)
        refine L_seq ?_
        refine L_stmt ?_
        refine L_seq ?_
        refine L_stmt ?_
        refine L_reg ?_
        refine G_p (v := .lst (List.map encT r38) false) rfl rfl rfl ?_
        refine G_h rfl rfl rfl (lenL_ev rfl (List.length_map _)) ?_
        refine G_p (v := .lst (List.map encT r40) false) rfl rfl rfl ?_
        refine G_h rfl rfl rfl (lenL_ev rfl (List.length_map _)) ?_
        refine G_p rfl rfl rfl ?_
        refine G_nil ?_
        refine L_nil ?_
        refine Sm_norm (e2 := [(0, .lst (List.map encT env1) false), (1, .int .i64 tags2), (7, .bool r4), (10, .lst (List.map encT r38) false), (11, .lst (List.map encT r40) false), (59, .bool (!decide (((List.length r38 : Nat) : Int) = ((List.length r40 : Nat) : Int))))]) (H1 := [.cells [.bool f3.never, .lst (List.map encFct f3.l) false]]) (H2 := [.cells [.bool f3.never, .lst (List.map encFct f3.l) false]]) rfl (by repeat (first | exact rzz | apply rcc rfl | apply rnn rfl)) rfl (?_ : GL _ _ _ _ _)
        rcases cond_s hr with ⟨hc59, hr⟩ | ⟨hc59, hr⟩
        · refine L_T rfl hc59 ?_
          refine L_seq ?_
          refine L_reg ?_
          refine G_p rfl rfl rfl ?_
          refine G_nil ?_
          refine L_ret ?_
          refine Sm_ret ?_
          have hr := some_s hr
          subst hr
          exact ⟨_, rfl, _, rfl, rfl⟩
        · refine L_F rfl hc59 ?_
          refine L_skip ?_
          refine L_nil ?_
          refine Sm_norm (e2 := [(0, .lst (List.map encT env1) false), (1, .int .i64 tags2), (7, .bool r4), (10, .lst (List.map encT r38) false), (11, .lst (List.map encT r40) false)]) (H1 := [.cells [.bool f3.never, .lst (List.map encFct f3.l) false]]) (H2 := [.cells [.bool f3.never, .lst (List.map encFct f3.l) false]]) rfl (by repeat (first | exact rzz | apply rcc rfl | apply rnn rfl)) rfl (?_ : GL _ _ _ _ _)
          refine L_seq ?_
          refine L_stmtJ (S := Unit) (fun s => [(7, .bool r4)]) (fun s => [.cells [.bool f3.never, .lst (List.map encFct f3.l) false]]) (fun s => g_w06_NarrowTypes_j1 r4 = some r) ?_ ?_
          · skip
            refine L_seq ?_
            refine L_stmt ?_
            refine L_reg ?_
            refine G_p rfl rfl rfl ?_
            refine G_nil ?_
            refine L_nil ?_
            refine Sm_norm (e2 := [(0, .lst (List.map encT env1) false), (1, .int .i64 tags2), (7, .bool r4), (10, .lst (List.map encT r38) false), (11, .lst (List.map encT r40) false), (12, .int .i64 0)]) (H1 := [.cells [.bool f3.never, .lst (List.map encFct f3.l) false]]) (H2 := [.cells [.bool f3.never, .lst (List.map encFct f3.l) false]]) rfl (by repeat (first | exact rzz | apply rcc rfl | apply rnn rfl)) rfl (?_ : GL _ _ _ _ _)
            refine L_block ?_
            obtain ⟨hLq173, hr⟩ := guard_s hr
            replace hLq173 := okLen_s hLq173
            refine L_range (X := Ty) (S := Unit) env1 (fun i175 s => [(12, .int .i64 ((i175 : Nat) : Int)), (0, .lst (List.map encT env1) false), (1, .int .i64 tags2), (7, .bool r4), (10, .lst (List.map encT r38) false), (11, .lst (List.map encT r40) false)]) (fun i175 s => [.cells [.bool f3.never, .lst (List.map encFct f3.l) false]]) (fun rest i175 s => g_w06_NarrowTypes_l2 tags2 r4 r38 r40 rest i175 = some r) (()) ?_ rfl hr ?_ ?_
            · show restr _ _ = [(12, .int .i64 ((0 : Nat) : Int)), (0, .lst (List.map encT env1) false), (1, .int .i64 tags2), (7, .bool r4), (10, .lst (List.map encT r38) false), (11, .lst (List.map encT r40) false)]
              (repeat (first | exact rzz | apply rcc rfl | apply rnn rfl))
            · rintro ⟨⟩ hr
              show GL _ _ [(12, .int .i64 (((List.length env1) : Nat) : Int)), (0, .lst (List.map encT env1) false), (1, .int .i64 tags2), (7, .bool r4), (10, .lst (List.map encT r38) false), (11, .lst (List.map encT r40) false)] [.cells [.bool f3.never, .lst (List.map encFct f3.l) false]] _
              replace hr : g_w06_NarrowTypes_l2 tags2 r4 r38 r40 [] (List.length env1) = some r := hr
              rw [g_w06_NarrowTypes_l2] at hr
              refine L_seq ?_
              refine L_stmt ?_
              refine L_seq ?_
              refine L_stmt ?_
              refine L_reg ?_
              refine G_p rfl rfl rfl ?_
              refine G_p (v := .lst (List.map encT env1) false) rfl rfl rfl ?_
              refine G_h rfl rfl rfl (lenL_ev rfl (List.length_map _)) ?_
              refine G_v (.bool false) rfl rfl rfl (congrArg AVal.bool (decide_eq_false (by omega))) ?_
              refine G_nil ?_
              refine L_nil ?_
              refine Sm_norm (e2 := [(0, .lst (List.map encT env1) false), (1, .int .i64 tags2), (7, .bool r4), (10, .lst (List.map encT r38) false), (11, .lst (List.map encT r40) false), (12, .int .i64 ((List.length env1 : Nat) : Int)), (63, .bool false)]) (H1 := [.cells [.bool f3.never, .lst (List.map encFct f3.l) false]]) (H2 := [.cells [.bool f3.never, .lst (List.map encFct f3.l) false]]) rfl (by repeat (first | exact rzz | apply rcc rfl | apply rnn rfl)) rfl (?_ : GL _ _ _ _ _)
              refine L_F rfl rfl ?_
              refine L_exit ?_
              refine Sm_exit ?_
              refine Rd_exit ?_
              refine Blk_exit (?_ : GL _ _ _ _ _)
              refine L_nil ?_
              exact Sm_norm (e2 := [(7, .bool r4)]) (H1 := [.cells [.bool f3.never, .lst (List.map encFct f3.l) false]]) (H2 := [.cells [.bool f3.never, .lst (List.map encFct f3.l) false]]) rfl (by repeat (first | exact rzz | apply rcc rfl | apply rnn rfl)) rfl ⟨(), rfl, rfl, hr⟩
            · rintro y174 rest176 i175 ⟨⟩ hy174 hlti175 hr
              show GL _ _ [(12, .int .i64 ((i175 : Nat) : Int)), (0, .lst (List.map encT env1) false), (1, .int .i64 tags2), (7, .bool r4), (10, .lst (List.map encT r38) false), (11, .lst (List.map encT r40) false)] [.cells [.bool f3.never, .lst (List.map encFct f3.l) false]] _
              replace hr : g_w06_NarrowTypes_l2 tags2 r4 r38 r40 (y174 :: rest176) i175 = some r := hr
              rw [g_w06_NarrowTypes_l2] at hr
              refine L_seq ?_
              refine L_stmt ?_
              refine L_seq ?_
              refine L_stmt ?_
              refine L_reg ?_
              refine G_p rfl rfl rfl ?_
              refine G_p (v := .lst (List.map encT env1) false) rfl rfl rfl ?_
              refine G_h rfl rfl rfl (lenL_ev rfl (List.length_map _)) ?_
              refine G_v (.bool true) rfl rfl rfl (congrArg AVal.bool (decide_eq_true (by omega))) ?_
              refine G_nil ?_
              refine L_nil ?_
              refine Sm_norm (e2 := [(0, .lst (List.map encT env1) false), (1, .int .i64 tags2), (7, .bool r4), (10, .lst (List.map encT r38) false), (11, .lst (List.map encT r40) false), (12, .int .i64 ((i175 : Nat) : Int)), (63, .bool true)]) (H1 := [.cells [.bool f3.never, .lst (List.map encFct f3.l) false]]) (H2 := [.cells [.bool f3.never, .lst (List.map encFct f3.l) false]]) rfl (by repeat (first | exact rzz | apply rcc rfl | apply rnn rfl)) rfl (?_ : GL _ _ _ _ _)
              refine L_T rfl rfl ?_
              refine L_skip ?_
              refine L_nil ?_
              refine Sm_norm (e2 := (kg12 env1 tags2 r4 r38 r40 i175)) (H1 := [.cells [.bool f3.never, .lst (List.map encFct f3.l) false]]) (H2 := [.cells [.bool f3.never, .lst (List.map encFct f3.l) false]]) rfl (by repeat (first | exact rzz | apply rcc rfl | apply rnn rfl)) rfl (?_ : GL _ _ _ _ _)
              refine L_seq ?_
              refine L_stmt ?_
              refine L_block ?_
              refine L_seq ?_
              refine L_stmt ?_
              refine L_drawS (ops := [_, _, _, _, _, _, _, _, _, _]) rfl rfl ?_
              refine G_p (v := .lst (List.map encT r38) false) rfl rfl rfl ?_
              refine G_p rfl rfl rfl ?_
              obtain ⟨e186, he186, hr⟩ := bind_s hr
              refine G_h (v := .ro [.bool e186.all, .int .i64 e186.flat, .int .i64 e186.pair, .lst (List.map encT e186.pairs) false, .int .i64 e186.fn, .lst (List.map encT e186.funs) false]) rfl rfl rfl (ia_ev (cells := [.bool e186.all, .int .i64 e186.flat, .int .i64 e186.pair, .lst (List.map encT e186.pairs) false, .int .i64 e186.fn, .lst (List.map encT e186.funs) false]) rfl rfl (idx_s he186).1 (map_get (x := e186) (idx_s he186).2) (encT_flat _) rfl) ?_
              refine G_h (v := .agg (cT e186)) rfl rfl rfl (fun _ => rfl) ?_
              refine G_p (v := .lst (List.map encT r40) false) rfl rfl rfl ?_
              refine G_p rfl rfl rfl ?_
              obtain ⟨e187, he187, hr⟩ := bind_s hr
              refine G_h (v := .ro [.bool e187.all, .int .i64 e187.flat, .int .i64 e187.pair, .lst (List.map encT e187.pairs) false, .int .i64 e187.fn, .lst (List.map encT e187.funs) false]) rfl rfl rfl (ia_ev (cells := [.bool e187.all, .int .i64 e187.flat, .int .i64 e187.pair, .lst (List.map encT e187.pairs) false, .int .i64 e187.fn, .lst (List.map encT e187.funs) false]) rfl rfl (idx_s he187).1 (map_get (x := e187) (idx_s he187).2) (encT_flat _) rfl) ?_
              refine G_h (v := .agg (cT e187)) rfl rfl rfl (fun _ => rfl) ?_
              obtain ⟨r188, hr188, hr⟩ := bind_s hr
              refine G_c 19 rfl rfl (CA_of (as := [.agg (cT e186), .agg (cT e187)]) rfl (oSameT_ok hr188)) ?_
              refine G_p rfl rfl rfl ?_
              refine G_nil (L_nil ⟨rfl, ?_⟩)
              refine L_nil ?_
              refine Sm_norm (e2 := [(0, .lst (List.map encT env1) false), (1, .int .i64 tags2), (7, .bool r4), (10, .lst (List.map encT r38) false), (11, .lst (List.map encT r40) false), (12, .int .i64 ((i175 : Nat) : Int)), (13, .bool r188)]) (H1 := [.cells [.bool f3.never, .lst (List.map encFct f3.l) false]]) (H2 := [.cells [.bool f3.never, .lst (List.map encFct f3.l) false]]) rfl (by repeat (first | exact rzz | apply rcc rfl | apply rnn rfl)) rfl (?_ : GL _ _ _ _ _)
              refine L_seq ?_
              refine L_stmt ?_
              refine L_drawT [] rfl ?_
              refine GS_p (v := .lst (List.map encT env1) false) rfl rfl rfl ?_
              refine GS_p rfl rfl rfl ?_
              refine GS_h (d := some 77) (v := .ro [.bool y174.all, .int .i64 y174.flat, .int .i64 y174.pair, .lst (List.map encT y174.pairs) false, .int .i64 y174.fn, .lst (List.map encT y174.funs) false]) rfl rfl rfl rfl (ia_ev (cells := [.bool y174.all, .int .i64 y174.flat, .int .i64 y174.pair, .lst (List.map encT y174.pairs) false, .int .i64 y174.fn, .lst (List.map encT y174.funs) false]) rfl rfl (Int.natCast_nonneg _) (map_get (x := y174) (by rw [Int.toNat_natCast]; exact hy174)) (encT_flat _) rfl) ?_
              refine GS_h (d := some 78) (v := .agg (cT y174)) rfl rfl rfl rfl (fun _ => rfl) ?_
              refine GS_p rfl rfl rfl ?_
              obtain ⟨r189, hr189, hr⟩ := bind_s hr
              refine GS_c 20 rfl rfl rfl (CA_of (as := [.agg (cT y174), .int .i64 tags2]) rfl (g_narrow_Keep_ok hr189)) ?_
              refine GS_p (v := .lst (List.map encT env1) false) rfl rfl rfl ?_
              refine GS_p rfl rfl rfl ?_
              refine GS_h (d := some 83) (v := .ro [.bool y174.all, .int .i64 y174.flat, .int .i64 y174.pair, .lst (List.map encT y174.pairs) false, .int .i64 y174.fn, .lst (List.map encT y174.funs) false]) rfl rfl rfl rfl (ia_ev (cells := [.bool y174.all, .int .i64 y174.flat, .int .i64 y174.pair, .lst (List.map encT y174.pairs) false, .int .i64 y174.fn, .lst (List.map encT y174.funs) false]) rfl rfl (Int.natCast_nonneg _) (map_get (x := y174) (by rw [Int.toNat_natCast]; exact hy174)) (encT_flat _) rfl) ?_
              refine GS_h (d := some 84) (v := .agg (cT y174)) rfl rfl rfl rfl (fun _ => rfl) ?_
              refine GS_p rfl rfl rfl ?_
              obtain ⟨r190, hr190, hr⟩ := bind_s hr
              refine GS_c 21 rfl rfl rfl (CA_of (as := [.agg (cT y174), .int .i64 tags2]) rfl (g_r06_Keep_ok hr190)) ?_
              obtain ⟨r191, hr191, hr⟩ := bind_s hr
              refine GS_c 19 rfl rfl rfl (CA_of (as := [.agg (cT r189), .agg (cT r190)]) rfl (oSameT_ok hr191)) ?_
              refine GS_p rfl rfl rfl ?_
              refine GS_nil ?_
              refine L_nil ?_
              refine Sm_norm (e2 := [(0, .lst (List.map encT env1) false), (1, .int .i64 tags2), (7, .bool r4), (10, .lst (List.map encT r38) false), (11, .lst (List.map encT r40) false), (12, .int .i64 ((i175 : Nat) : Int)), (13, .bool r188), (14, .bool r191)]) (H1 := [.cells [.bool f3.never, .lst (List.map encFct f3.l) false]]) (H2 := [.cells [.bool f3.never, .lst (List.map encFct f3.l) false]]) rfl (by repeat (first | exact rzz | apply rcc rfl | apply rnn rfl)) rfl (?_ : GL _ _ _ _ _)
              refine L_seq ?_
              refine L_stmt ?_
              refine L_drawT [] rfl ?_
              refine GS_p rfl rfl rfl ?_
              refine GS_p rfl rfl rfl ?_
              refine GS_p rfl rfl rfl ?_
              obtain ⟨v192, hvv192, hr⟩ := bind_s hr
              rcases cond_s hvv192 with ⟨hb90, hvv192⟩ | ⟨hb90, hvv192⟩
              · skip
                refine GS_s (wf rfl hb90) ?_
                refine GS_s (wf rfl hb90) ?_
                replace hvv192 := some_s hvv192
                refine GS_v (.bool v192) rfl rfl (evP_pickT rfl hb90 rfl) (congrArg AVal.bool hvv192) ?_
                refine GS_p rfl rfl rfl ?_
                obtain ⟨v195, hvv195, hr⟩ := bind_s hr
                rcases cond_s hvv195 with ⟨hb94, hvv195⟩ | ⟨hb94, hvv195⟩
                · skip
                  refine GS_s (wf rfl hb94) ?_
                  refine GS_s (wf rfl hb94) ?_
                  refine GS_s (wf rfl hb94) ?_
                  refine GS_s (wf rfl hb94) ?_
                  refine GS_s (wf rfl hb94) ?_
                  refine GS_s (wf rfl hb94) ?_
                  refine GS_s (wf rfl hb94) ?_
                  refine GS_s (wf rfl hb94) ?_
                  refine GS_s (wf rfl hb94) ?_
                  refine GS_s (wf rfl hb94) ?_
                  refine GS_s (wf rfl hb94) ?_
                  replace hvv195 := some_s hvv195
                  refine GS_v (.bool v195) rfl rfl (evP_pickT rfl hb94 rfl) (congrArg AVal.bool hvv195) ?_
                  refine GS_nil ?_
                  refine L_nil ?_
                  refine Sm_norm (e2 := [(0, .lst (List.map encT env1) false), (1, .int .i64 tags2), (7, .bool r4), (10, .lst (List.map encT r38) false), (11, .lst (List.map encT r40) false), (12, .int .i64 ((i175 : Nat) : Int)), (106, .bool v195)]) (H1 := [.cells [.bool f3.never, .lst (List.map encFct f3.l) false]]) (H2 := [.cells [.bool f3.never, .lst (List.map encFct f3.l) false]]) rfl (by repeat (first | exact rzz | apply rcc rfl | apply rnn rfl)) rfl (?_ : GL _ _ _ _ _)
                  rcases cond_s hr with ⟨hc106, hr⟩ | ⟨hc106, hr⟩
                  · refine L_T rfl hc106 ?_
                    refine L_seq ?_
                    refine L_reg ?_
                    refine G_p rfl rfl rfl ?_
                    refine G_nil ?_
                    refine L_ret ?_
                    refine Blk_ret ?_
                    refine Sm_ret ?_
                    refine Rd_ret ?_
                    refine Blk_ret ?_
                    refine Sm_ret ?_
                    have hr := some_s hr
                    subst hr
                    exact ⟨_, rfl, _, rfl, rfl⟩
                  · refine L_F rfl hc106 ?_
                    refine L_skip ?_
                    refine L_nil ?_
                    refine Blk_norm (?_ : GL _ _ _ _ _)
                    refine L_nil ?_
                    refine Sm_norm (e2 := (kg12 env1 tags2 r4 r38 r40 i175)) (H1 := [.cells [.bool f3.never, .lst (List.map encFct f3.l) false]]) (H2 := [.cells [.bool f3.never, .lst (List.map encFct f3.l) false]]) rfl (by repeat (first | exact rzz | apply rcc rfl | apply rnn rfl)) rfl (?_ : GL _ _ _ _ _)
                    refine L_reg ?_
                    refine G_p rfl rfl rfl ?_
                    refine G_v (.int .i64 ((i175 + 1 : Nat) : Int)) rfl rfl rfl (congrArg _ (wrap_next hLq173 hlti175)) ?_
                    refine G_p rfl rfl rfl ?_
                    refine G_nil ?_
                    refine L_nil ?_
                    refine Rd_norm ⟨(), ?_, rfl, hr⟩
                    show restr _ _ = (kg11 i175 env1 tags2 r4 r38 r40)
                    (repeat (first | exact rzz | apply rcc rfl | apply rnn rfl))
                · skip
                  have hkv195 := hr
                  have hr := hvv195
                  refine GS_p (v := .lst (List.map encT env1) false) rfl (wt rfl hb94) rfl ?_
                  refine GS_p rfl (wt rfl hb94) rfl ?_
                  refine GS_h (d := some 97) (v := .ro [.bool y174.all, .int .i64 y174.flat, .int .i64 y174.pair, .lst (List.map encT y174.pairs) false, .int .i64 y174.fn, .lst (List.map encT y174.funs) false]) rfl rfl rfl (wt rfl hb94) (ia_ev (cells := [.bool y174.all, .int .i64 y174.flat, .int .i64 y174.pair, .lst (List.map encT y174.pairs) false, .int .i64 y174.fn, .lst (List.map encT y174.funs) false]) rfl rfl (Int.natCast_nonneg _) (map_get (x := y174) (by rw [Int.toNat_natCast]; exact hy174)) (encT_flat _) rfl) ?_
                  refine GS_h (d := some 98) (v := .agg (cT y174)) rfl rfl rfl (wt rfl hb94) (fun _ => rfl) ?_
                  obtain ⟨r196, hr196, hr⟩ := bind_s hr
                  refine GS_c 22 (wt rfl hb94) rfl rfl (CA_of (as := [.agg (cT y174)]) rfl (g_narrow_Tags_ok hr196)) ?_
                  refine GS_p (v := .lst (List.map encT env1) false) rfl (wt rfl hb94) rfl ?_
                  refine GS_p rfl (wt rfl hb94) rfl ?_
                  refine GS_h (d := some 102) (v := .ro [.bool y174.all, .int .i64 y174.flat, .int .i64 y174.pair, .lst (List.map encT y174.pairs) false, .int .i64 y174.fn, .lst (List.map encT y174.funs) false]) rfl rfl rfl (wt rfl hb94) (ia_ev (cells := [.bool y174.all, .int .i64 y174.flat, .int .i64 y174.pair, .lst (List.map encT y174.pairs) false, .int .i64 y174.fn, .lst (List.map encT y174.funs) false]) rfl rfl (Int.natCast_nonneg _) (map_get (x := y174) (by rw [Int.toNat_natCast]; exact hy174)) (encT_flat _) rfl) ?_
                  refine GS_h (d := some 103) (v := .agg (cT y174)) rfl rfl rfl (wt rfl hb94) (fun _ => rfl) ?_
                  obtain ⟨r197, hr197, hr⟩ := bind_s hr
                  refine GS_c 23 (wt rfl hb94) rfl rfl (CA_of (as := [.agg (cT y174)]) rfl (g_r06_Tags_ok hr197)) ?_
                  refine GS_p rfl (wt rfl hb94) rfl ?_
                  replace hvv195 := some_s hr
                  have hr := hkv195
                  refine GS_v (.bool v195) rfl rfl (evP_pickF rfl hb94 rfl) (congrArg AVal.bool hvv195) ?_
                  refine GS_nil ?_
                  refine L_nil ?_
                  refine Sm_norm (e2 := [(0, .lst (List.map encT env1) false), (1, .int .i64 tags2), (7, .bool r4), (10, .lst (List.map encT r38) false), (11, .lst (List.map encT r40) false), (12, .int .i64 ((i175 : Nat) : Int)), (106, .bool v195)]) (H1 := [.cells [.bool f3.never, .lst (List.map encFct f3.l) false]]) (H2 := [.cells [.bool f3.never, .lst (List.map encFct f3.l) false]]) rfl (by repeat (first | exact rzz | apply rcc rfl | apply rnn rfl)) rfl (?_ : GL _ _ _ _ _)
                  rcases cond_s hr with ⟨hc106, hr⟩ | ⟨hc106, hr⟩
                  · refine L_T rfl hc106 ?_
                    refine L_seq ?_
                    refine L_reg ?_
                    refine G_p rfl rfl rfl ?_
                    refine G_nil ?_
                    refine L_ret ?_
                    refine Blk_ret ?_
                    refine Sm_ret ?_
                    refine Rd_ret ?_
                    refine Blk_ret ?_
                    refine Sm_ret ?_
                    have hr := some_s hr
                    subst hr
                    exact ⟨_, rfl, _, rfl, rfl⟩
                  · refine L_F rfl hc106 ?_
                    refine L_skip ?_
                    refine L_nil ?_
                    refine Blk_norm (?_ : GL _ _ _ _ _)
                    refine L_nil ?_
                    refine Sm_norm (e2 := (kg12 env1 tags2 r4 r38 r40 i175)) (H1 := [.cells [.bool f3.never, .lst (List.map encFct f3.l) false]]) (H2 := [.cells [.bool f3.never, .lst (List.map encFct f3.l) false]]) rfl (by repeat (first | exact rzz | apply rcc rfl | apply rnn rfl)) rfl (?_ : GL _ _ _ _ _)
                    refine L_reg ?_
                    refine G_p rfl rfl rfl ?_
                    refine G_v (.int .i64 ((i175 + 1 : Nat) : Int)) rfl rfl rfl (congrArg _ (wrap_next hLq173 hlti175)) ?_
                    refine G_p rfl rfl rfl ?_
                    refine G_nil ?_
                    refine L_nil ?_
                    refine Rd_norm ⟨(), ?_, rfl, hr⟩
                    show restr _ _ = (kg11 i175 env1 tags2 r4 r38 r40)
                    (repeat (first | exact rzz | apply rcc rfl | apply rnn rfl))
              · skip
                have hkv192 := hr
                have hr := hvv192
                refine GS_p rfl (wt rfl hb90) rfl ?_
                refine GS_p rfl (wt rfl hb90) rfl ?_
                replace hvv192 := some_s hr
                have hr := hkv192
                refine GS_v (.bool v192) rfl rfl (evP_pickF rfl hb90 rfl) (congrArg AVal.bool hvv192) ?_
                refine GS_p rfl rfl rfl ?_
                obtain ⟨v200, hvv200, hr⟩ := bind_s hr
                rcases cond_s hvv200 with ⟨hb94, hvv200⟩ | ⟨hb94, hvv200⟩
                · skip
                  refine GS_s (wf rfl hb94) ?_
                  refine GS_s (wf rfl hb94) ?_
                  refine GS_s (wf rfl hb94) ?_
                  refine GS_s (wf rfl hb94) ?_
                  refine GS_s (wf rfl hb94) ?_
                  refine GS_s (wf rfl hb94) ?_
                  refine GS_s (wf rfl hb94) ?_
                  refine GS_s (wf rfl hb94) ?_
                  refine GS_s (wf rfl hb94) ?_
                  refine GS_s (wf rfl hb94) ?_
                  refine GS_s (wf rfl hb94) ?_
                  replace hvv200 := some_s hvv200
                  refine GS_v (.bool v200) rfl rfl (evP_pickT rfl hb94 rfl) (congrArg AVal.bool hvv200) ?_
                  refine GS_nil ?_
                  refine L_nil ?_
                  refine Sm_norm (e2 := [(0, .lst (List.map encT env1) false), (1, .int .i64 tags2), (7, .bool r4), (10, .lst (List.map encT r38) false), (11, .lst (List.map encT r40) false), (12, .int .i64 ((i175 : Nat) : Int)), (106, .bool v200)]) (H1 := [.cells [.bool f3.never, .lst (List.map encFct f3.l) false]]) (H2 := [.cells [.bool f3.never, .lst (List.map encFct f3.l) false]]) rfl (by repeat (first | exact rzz | apply rcc rfl | apply rnn rfl)) rfl (?_ : GL _ _ _ _ _)
                  rcases cond_s hr with ⟨hc106, hr⟩ | ⟨hc106, hr⟩
                  · refine L_T rfl hc106 ?_
                    refine L_seq ?_
                    refine L_reg ?_
                    refine G_p rfl rfl rfl ?_
                    refine G_nil ?_
                    refine L_ret ?_
                    refine Blk_ret ?_
                    refine Sm_ret ?_
                    refine Rd_ret ?_
                    refine Blk_ret ?_
                    refine Sm_ret ?_
                    have hr := some_s hr
                    subst hr
                    exact ⟨_, rfl, _, rfl, rfl⟩
                  · refine L_F rfl hc106 ?_
                    refine L_skip ?_
                    refine L_nil ?_
                    refine Blk_norm (?_ : GL _ _ _ _ _)
                    refine L_nil ?_
                    refine Sm_norm (e2 := (kg12 env1 tags2 r4 r38 r40 i175)) (H1 := [.cells [.bool f3.never, .lst (List.map encFct f3.l) false]]) (H2 := [.cells [.bool f3.never, .lst (List.map encFct f3.l) false]]) rfl (by repeat (first | exact rzz | apply rcc rfl | apply rnn rfl)) rfl (?_ : GL _ _ _ _ _)
                    refine L_reg ?_
                    refine G_p rfl rfl rfl ?_
                    refine G_v (.int .i64 ((i175 + 1 : Nat) : Int)) rfl rfl rfl (congrArg _ (wrap_next hLq173 hlti175)) ?_
                    refine G_p rfl rfl rfl ?_
                    refine G_nil ?_
                    refine L_nil ?_
                    refine Rd_norm ⟨(), ?_, rfl, hr⟩
                    show restr _ _ = (kg11 i175 env1 tags2 r4 r38 r40)
                    (repeat (first | exact rzz | apply rcc rfl | apply rnn rfl))
                · skip
                  have hkv200 := hr
                  have hr := hvv200
                  refine GS_p (v := .lst (List.map encT env1) false) rfl (wt rfl hb94) rfl ?_
                  refine GS_p rfl (wt rfl hb94) rfl ?_
                  refine GS_h (d := some 97) (v := .ro [.bool y174.all, .int .i64 y174.flat, .int .i64 y174.pair, .lst (List.map encT y174.pairs) false, .int .i64 y174.fn, .lst (List.map encT y174.funs) false]) rfl rfl rfl (wt rfl hb94) (ia_ev (cells := [.bool y174.all, .int .i64 y174.flat, .int .i64 y174.pair, .lst (List.map encT y174.pairs) false, .int .i64 y174.fn, .lst (List.map encT y174.funs) false]) rfl rfl (Int.natCast_nonneg _) (map_get (x := y174) (by rw [Int.toNat_natCast]; exact hy174)) (encT_flat _) rfl) ?_
                  refine GS_h (d := some 98) (v := .agg (cT y174)) rfl rfl rfl (wt rfl hb94) (fun _ => rfl) ?_
                  obtain ⟨r201, hr201, hr⟩ := bind_s hr
                  refine GS_c 22 (wt rfl hb94) rfl rfl (CA_of (as := [.agg (cT y174)]) rfl (g_narrow_Tags_ok hr201)) ?_
                  refine GS_p (v := .lst (List.map encT env1) false) rfl (wt rfl hb94) rfl ?_
                  refine GS_p rfl (wt rfl hb94) rfl ?_
                  refine GS_h (d := some 102) (v := .ro [.bool y174.all, .int .i64 y174.flat, .int .i64 y174.pair, .lst (List.map encT y174.pairs) false, .int .i64 y174.fn, .lst (List.map encT y174.funs) false]) rfl rfl rfl (wt rfl hb94) (ia_ev (cells := [.bool y174.all, .int .i64 y174.flat, .int .i64 y174.pair, .lst (List.map encT y174.pairs) false, .int .i64 y174.fn, .lst (List.map encT y174.funs) false]) rfl rfl (Int.natCast_nonneg _) (map_get (x := y174) (by rw [Int.toNat_natCast]; exact hy174)) (encT_flat _) rfl) ?_
                  refine GS_h (d := some 103) (v := .agg (cT y174)) rfl rfl rfl (wt rfl hb94) (fun _ => rfl) ?_
                  obtain ⟨r202, hr202, hr⟩ := bind_s hr
                  refine GS_c 23 (wt rfl hb94) rfl rfl (CA_of (as := [.agg (cT y174)]) rfl (g_r06_Tags_ok hr202)) ?_
                  refine GS_p rfl (wt rfl hb94) rfl ?_
                  replace hvv200 := some_s hr
                  have hr := hkv200
                  refine GS_v (.bool v200) rfl rfl (evP_pickF rfl hb94 rfl) (congrArg AVal.bool hvv200) ?_
                  refine GS_nil ?_
                  refine L_nil ?_
                  refine Sm_norm (e2 := [(0, .lst (List.map encT env1) false), (1, .int .i64 tags2), (7, .bool r4), (10, .lst (List.map encT r38) false), (11, .lst (List.map encT r40) false), (12, .int .i64 ((i175 : Nat) : Int)), (106, .bool v200)]) (H1 := [.cells [.bool f3.never, .lst (List.map encFct f3.l) false]]) (H2 := [.cells [.bool f3.never, .lst (List.map encFct f3.l) false]]) rfl (by repeat (first | exact rzz | apply rcc rfl | apply rnn rfl)) rfl (?_ : GL _ _ _ _ _)
                  rcases cond_s hr with ⟨hc106, hr⟩ | ⟨hc106, hr⟩
                  · refine L_T rfl hc106 ?_
                    refine L_seq ?_
                    refine L_reg ?_
                    refine G_p rfl rfl rfl ?_
                    refine G_nil ?_
                    refine L_ret ?_
                    refine Blk_ret ?_
                    refine Sm_ret ?_
                    refine Rd_ret ?_
                    refine Blk_ret ?_
                    refine Sm_ret ?_
                    have hr := some_s hr
                    subst hr
                    exact ⟨_, rfl, _, rfl, rfl⟩
                  · refine L_F rfl hc106 ?_
                    refine L_skip ?_
                    refine L_nil ?_
                    refine Blk_norm (?_ : GL _ _ _ _ _)
                    refine L_nil ?_
                    refine Sm_norm (e2 := (kg12 env1 tags2 r4 r38 r40 i175)) (H1 := [.cells [.bool f3.never, .lst (List.map encFct f3.l) false]]) (H2 := [.cells [.bool f3.never, .lst (List.map encFct f3.l) false]]) rfl (by repeat (first | exact rzz | apply rcc rfl | apply rnn rfl)) rfl (?_ : GL _ _ _ _ _)
                    refine L_reg ?_
                    refine G_p rfl rfl rfl ?_
                    refine G_v (.int .i64 ((i175 + 1 : Nat) : Int)) rfl rfl rfl (congrArg _ (wrap_next hLq173 hlti175)) ?_
                    refine G_p rfl rfl rfl ?_
                    refine G_nil ?_
                    refine L_nil ?_
                    refine Rd_norm ⟨(), ?_, rfl, hr⟩
                    show restr _ _ = (kg11 i175 env1 tags2 r4 r38 r40)
                    (repeat (first | exact rzz | apply rcc rfl | apply rnn rfl))
          · rintro ⟨⟩ hr
            show GL _ _ [(7, .bool r4)] [.cells [.bool f3.never, .lst (List.map encFct f3.l) false]] _
            replace hr : g_w06_NarrowTypes_j1 r4 = some r := hr
            unfold g_w06_NarrowTypes_j1 at hr
            refine L_seq ?_
            refine L_reg ?_
            refine G_p rfl rfl rfl ?_
            refine G_p rfl rfl rfl ?_
            refine G_nil ?_
            refine L_ret ?_
            have hr := some_s hr
            subst hr
            exact ⟨_, rfl, _, rfl, rfl⟩
end Go.Ev.Seat
namespace Go.Ev
set_option linter.unusedVariables false
set_option linter.unusedSimpArgs false
open Go
def S (a b : Ty) : Bool := subT (szT a + szT b) a b
end Go.Ev
namespace Go.Ev
set_option linter.unusedVariables false
set_option linter.unusedSimpArgs false
open Go
theorem sameTs_refl (l : List Ty) : sameTs l l = true := by
  induction l with
  | nil => rfl
  | cons x xs ih =>
    simp only [sameTs, ih, Bool.and_true]
    refine Ty.rec (motive_1 := fun t => sameT t t = true) (motive_2 := fun l => sameTs l l = true) ?_ rfl ?_ x
    · intro a f p ps g gs h1 h2; simp [sameT, h1, h2]
    · intro x xs h1 h2; simp [sameTs, h1, h2]
section
variable {f p g : Int} {ps gs : List Ty}
end
end Go.Ev
