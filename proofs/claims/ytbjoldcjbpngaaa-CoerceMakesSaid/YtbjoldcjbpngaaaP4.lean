/-
  Part 4 of a proof: CoerceMakes: for every input the law returns true, and what it was given reads behind the call as before. No conditions.
-/
import Derived.Test.YtbjoldcjbpngaaaP3
namespace Go.Ev
set_option linter.unusedVariables false
set_option linter.unusedSimpArgs false
open Go
theorem bind_s {α β : Type} {o : Option α} {f : α → Option β} {r : β} (h : o.bind f = some r) : ∃ x, o = some x ∧ f x = some r := by
  cases o with
  | none => cases h
  | some x => exact ⟨x, rfl, h⟩
theorem cond_s {α : Type} {c : Bool} {a b : Option α} {r : α} (h : cond c a b = some r) : (c = true ∧ a = some r) ∨ (c = false ∧ b = some r) := by
  cases c with
  | true => exact .inl ⟨rfl, h⟩
  | false => exact .inr ⟨rfl, h⟩
theorem some_s {α : Type} {a b : α} (h : some a = some b) : a = b := Option.some.inj h
theorem guard_s {α : Type} {c : Bool} {a : Option α} {r : α} (h : cond c a none = some r) : c = true ∧ a = some r := by
  cases c with
  | true => exact ⟨rfl, h⟩
  | false => cases h
theorem condF {α : Type} {c : Bool} {a b : Option α} {r : α} (hc : c = false) (h : cond c a b = some r) : b = some r := by subst hc; exact h
theorem pickF {c f v : Bool} {a : Option Bool} (h : cond c (some f) a = some v) (hc : c ≠ false) : AVal.bool v = .bool f := by
  cases c with
  | false => exact absurd rfl hc
  | true => cases h; rfl
def okLen {α : Type} (l : List α) : Bool := decide (l.length < 100000000000)
theorem okLen_s {α : Type} {l : List α} (h : okLen l = true) : l.length < 100000000000 := of_decide_eq_true h
theorem okLen_of {α : Type} {l : List α} (h : l.length < 100000000000) : okLen l = true := decide_eq_true h
def idx {α : Type} (l : List α) (i : Int) : Option α := if 0 ≤ i then l[i.toNat]? else none
theorem idx_s {α : Type} {l : List α} {i : Int} {x : α} (h : idx l i = some x) : 0 ≤ i ∧ l[i.toNat]? = some x := by
  unfold idx at h
  split at h
  · rename_i h0; exact ⟨h0, h⟩
  · cases h
theorem idx_nat {α : Type} (l : List α) (i : Nat) : idx l (i : Int) = l[i]? := by unfold idx; rw [if_pos (Int.natCast_nonneg _), Int.toNat_natCast]
def catL {α : Type} (l m : List α) : Option (List α) := if l.length + m.length < 100000000000 then some (l ++ m) else none
theorem catL_s {α : Type} {l m r : List α} (h : catL l m = some r) : r = l ++ m ∧ l.length + m.length < 100000000000 := by
  unfold catL at h
  split at h
  · rename_i h0; cases h; exact ⟨rfl, h0⟩
  · cases h
theorem catL_of {α : Type} {l m : List α} (h : l.length + m.length < 100000000000) : catL l m = some (l ++ m) := if_pos h
def quoI (k : IntKind) (a b : Int) : Option Int := if b = 0 then none else some (k.wrap (a.tdiv b))
def remI (k : IntKind) (a b : Int) : Option Int := if b = 0 then none else some (a.tmod b)
def esz (w n : Nat) : Nat := if n = 0 then 0 else w
theorem esz_or (w n : Nat) : esz w n = w ∨ esz w n = 0 := by unfold esz; split <;> simp
def growM {α : Type} (w : Nat) (f : α → AVal) (l : List α) : ABlock := .grow (esz w l.length) (l.map f) none
theorem growM_w {α : Type} {w : Nat} {f : α → AVal} (hf : ∀ x, (f x).width = w) (l : List α) : (l.map f).all (fun y => decide (y.width = w)) = true := by
  rw [List.all_eq_true]
  intro y hy
  obtain ⟨x, _, rfl⟩ := List.mem_map.1 hy
  simp [hf]
theorem map_get {α : Type} {f : α → AVal} {l : List α} {n : Nat} {x : α} (h : l[n]? = some x) : (l.map f)[n]? = some (f x) := by rw [List.getElem?_map, h]; rfl
theorem shutV_gl {α : Type} {H : Heap} {o w : Nat} {f : α → AVal} {l : List α} (h : H[o]? = some (growM w f l)) : shutV H (.gl o l.length) = some (.lst (l.map f) false) := by
  simp [shutV, growAt, h, growM]
theorem wrap_next {i n : Nat} (h : n < 100000000000) (hi : i < n) : IntKind.i64.wrap ((i : Int) + 1) = ((i + 1 : Nat) : Int) := by
  rw [kw_i64_id (by omega) (by omega)]; rfl
section
variable {T : Nat → Option AFunc} {cs : List ACode} {e e' : Env} {H H' : Heap} {Q : Post}
theorem L_pruneH {keep : List Nat} {H1 : Heap} (h1 : restr e keep = e') (h2 : H = H1) (h : GL T cs e' H1 Q) : GL T (.prune keep :: cs) e H Q := by
  subst h2; exact L_prune h1 h
def Jn {S : Type} (keep : List Nat) (envs : S → Env) (heaps : S → Heap) (P : S → Prop) (Q : Post) : Post
  | .norm, e, H => ∃ s, restr e keep = envs s ∧ H = heaps s ∧ P s
  | x, e, H => Q x e H
theorem Jn_norm {S : Type} {keep : List Nat} {envs : S → Env} {heaps : S → Heap} {P : S → Prop} (s : S) (h1 : restr e keep = envs s) (h2 : H = heaps s) (h3 : P s) : Jn keep envs heaps P Q .norm e H := ⟨s, h1, h2, h3⟩
theorem Jn_ret {S : Type} {keep : List Nat} {envs : S → Env} {heaps : S → Heap} {P : S → Prop} (h : Q .ret e H) : Jn keep envs heaps P Q .ret e H := h
theorem L_join {S : Type} {a b : ACode} {keep : List Nat} (envs : S → Env) (heaps : S → Heap) (P : S → Prop) (h1 : GL T [a] e H (Jn keep envs heaps P Q)) (h2 : ∀ s, P s → GL T (b :: cs) (envs s) (heaps s) Q) :
    GL T (a :: .seq (.prune keep) b :: cs) e H Q := by
  rw [GL_consI] at h1
  obtain ⟨x, e1, H1, h3, h4⟩ := h1
  rw [GL_consI]
  refine ⟨x, e1, H1, h3, ?_⟩
  cases x with
  | norm =>
    rw [GL_nilI] at h4
    obtain ⟨s, k1, rfl, k3⟩ := h4
    exact L_seq (L_prune k1 (h2 s k3))
  | _ => exact h4
def Sm (keep : List Nat) (frz : List (Nat × Option Nat)) (n : Nat) (K : Env → Heap → Prop) (Q : Post) : Post
  | .norm, e, H => K (stmtE keep frz e H) (stmtH n keep frz e H)
  | x, e, H => Q x e H
theorem Sm_norm {keep : List Nat} {frz : List (Nat × Option Nat)} {n : Nat} {K : Env → Heap → Prop} {e1 e2 : Env} {H1 H2 : Heap} (h0 : frzAll frz e H = (e1, H1)) (h1 : restr e1 keep = e2) (h2 : trunc n e2 H1 = H2) (h : K e2 H2) : Sm keep frz n K Q .norm e H := by
  subst h1 h2
  show K (stmtE keep frz e H) (stmtH n keep frz e H)
  unfold stmtH stmtE
  rw [h0]; exact h
theorem Sm_exit {keep : List Nat} {frz : List (Nat × Option Nat)} {n : Nat} {K : Env → Heap → Prop} {j : Nat} (h : Q (.exit j) e H) : Sm keep frz n K Q (.exit j) e H := h
theorem Sm_ret {keep : List Nat} {frz : List (Nat × Option Nat)} {n : Nat} {K : Env → Heap → Prop} (h : Q .ret e H) : Sm keep frz n K Q .ret e H := h
theorem L_stmt {keep : List Nat} {frz : List (Nat × Option Nat)} {a : ACode} (h : GL T [a] e H (Sm keep frz H.length (fun e' H' => GL T cs e' H' Q) Q)) : GL T (.stmt keep frz a :: cs) e H Q := by
  rw [GL_consI] at h ⊢
  obtain ⟨x, e1, H1, h1, h2⟩ := h
  cases x with
  | norm =>
    rw [GL_nilI] at h2
    exact ⟨.norm, _, _, h1.map fun n k => by simp only [evalCode, k], h2⟩
  | exit i => exact ⟨.exit i, e1, H1, h1.map fun n k => by simp only [evalCode, k], h2⟩
  | ret => exact ⟨.ret, e1, H1, h1.map fun n k => by simp only [evalCode, k], h2⟩
  | pan v => exact ⟨.pan v, e1, H1, h1.map fun n k => by simp only [evalCode, k], h2⟩
theorem L_stmtJ {S : Type} {keep : List Nat} {frz : List (Nat × Option Nat)} {a : ACode} (envs : S → Env) (heaps : S → Heap) (P : S → Prop) (h1 : GL T [a] e H (Sm keep frz H.length (fun e' H' => ∃ s, e' = envs s ∧ H' = heaps s ∧ P s) Q)) (h2 : ∀ s, P s → GL T cs (envs s) (heaps s) Q) :
    GL T (.stmt keep frz a :: cs) e H Q := by
  refine L_stmt (GL_mono ?_ h1)
  intro x e1 H1 h
  cases x with
  | norm => obtain ⟨s, k1, k2, k3⟩ := h; show GL T cs _ _ Q; rw [k1, k2]; exact h2 s k3
  | exit i => exact h
  | ret => exact h
  | pan v => exact h
theorem frz_c {t : Nat} {off : Option Nat} {r : List (Nat × Option Nat)} {e1 : Env} {H1 : Heap} {R : Env × Heap} (h1 : frzA t off e H = (e1, H1)) (h2 : frzAll r e1 H1 = R) : frzAll ((t, off) :: r) e H = R := by
  simp only [frzAll, h1]; exact h2
theorem frz_gl {α : Type} {t o w : Nat} {f : α → AVal} {l : List α} (h1 : e.get t = some (.gl o l.length)) (h2 : H[o]? = some (growM w f l)) : frzA t none e H = ((t, .lst (l.map f) false) :: e, H) := by
  simp only [frzA, h1, frzV, shutV_gl h2]
theorem frz_lst {t : Nat} {xs : List AVal} {b : Bool} (h1 : e.get t = some (.lst xs b)) : frzA t none e H = ((t, .lst xs false) :: e, H) := by
  simp only [frzA, h1, frzV, shutV]
theorem frz_glC {α : Type} {t k b o j w : Nat} {f : α → AVal} {l : List α} {vs : List AVal} {H2 : Heap} (h1 : e.get t = some (.ptr b o)) (hb : H[b]? = some (.cells vs)) (hv : vs[o + k]? = some (.gl j l.length)) (h2 : H[j]? = some (growM w f l)) (h3 : H.set b (.cells (vs.set (o + k) (.lst (l.map f) false))) = H2) : frzA t (some k) e H = (e, H2) := by
  subst h3
  simp only [frzA, h1, hb, hv, frzV, shutV_gl h2]
theorem frz_lstC {t k b o : Nat} {xs : List AVal} {fl : Bool} {vs : List AVal} {H2 : Heap} (h1 : e.get t = some (.ptr b o)) (hb : H[b]? = some (.cells vs)) (hv : vs[o + k]? = some (.lst xs fl)) (h3 : H.set b (.cells (vs.set (o + k) (.lst xs false))) = H2) : frzA t (some k) e H = (e, H2) := by
  subst h3
  simp only [frzA, h1, hb, hv, frzV, shutV]
theorem L_range {X S : Type} {keep : List Nat} {a : ACode} (L : List X) (envs : Nat → S → Env) (heaps : Nat → S → Heap) (P : List X → Nat → S → Prop) (s0 : S)
    (he : restr e keep = envs 0 s0) (hH : trunc H.length (envs 0 s0) H = heaps 0 s0) (h0 : P L 0 s0)
    (hnil : ∀ s, P [] L.length s → GL T [a] (envs L.length s) (heaps L.length s) (Rd (fun _ _ => False) Q))
    (hcons : ∀ x rest i s, L[i]? = some x → i < L.length → P (x :: rest) i s → GL T [a] (envs i s) (heaps i s) (Rd (fun e' H' => ∃ s', restr e' keep = envs (i + 1) s' ∧ trunc H.length (envs (i + 1) s') H' = heaps (i + 1) s' ∧ P rest (i + 1) s') Q)) :
    GL T (.loop keep a :: cs) e H Q := by
  refine L_loop ?_
  have key : ∀ (rest : List X) (i : Nat) (s : S) (e2 : Env) (H2 : Heap), L.drop i = rest → i ≤ L.length → P rest i s → restr e2 keep = envs i s → trunc H.length (envs i s) H2 = heaps i s → GLoop T H.length keep a e2 H2 Q := by
    intro rest
    induction rest with
    | nil =>
      intro i s e2 H2 hd hi hP he hH
      have hi2 : i = L.length := by
        have := congrArg List.length hd
        simp at this; omega
      subst hi2
      refine L_round he hH ?_
      exact GL_mono (Rd_mono fun _ _ h => h.elim) (hnil s hP)
    | cons x rest ih =>
      intro i s e2 H2 hd hi hP he hH
      have hx : L[i]? = some x := by
        have := congrArg (fun l => l[0]?) hd
        simpa using this
      have hlt := (List.getElem?_eq_some_iff.1 hx).1
      refine L_round he hH ?_
      refine GL_mono (Rd_mono ?_) (hcons x rest i s hx hlt hP)
      rintro e3 H3 ⟨s', k1, k2, k3⟩
      refine ih (i + 1) s' e3 H3 ?_ (by omega) k3 k1 k2
      have := congrArg List.tail hd
      simpa using this
  exact key L 0 s0 e H rfl (Nat.zero_le _) h0 he hH
theorem evP_quo {x y : AOpd} {k : IntKind} {a b v : Int} (hx : x.ev e = some (.int k a)) (hy : y.ev e = some (.int k b)) (hv : quoI k a b = some v) : evP e (.bin .quo x y) = some (.int k v) := by
  unfold quoI at hv
  split at hv
  · cases hv
  · rename_i hb; cases hv
    simp only [evP, hx, hy, binA, if_true, bi_quo, hb, if_false]
theorem evP_rem {x y : AOpd} {k : IntKind} {a b v : Int} (hx : x.ev e = some (.int k a)) (hy : y.ev e = some (.int k b)) (hv : remI k a b = some v) : evP e (.bin .rem x y) = some (.int k v) := by
  unfold remI at hv
  split at hv
  · cases hv
  · rename_i hb; cases hv
    simp only [evP, hx, hy, binA, if_true, bi_rem, hb, if_false]
theorem ia_ev {id es : Nat} {x i : AOpd} {xs : List AVal} {b : Bool} {k : IntKind} {n : Int} {y : AVal} {cells : List AVal} (hx : x.ev e = some (.lst xs b)) (hi : i.ev e = some (.int k n)) (h0 : 0 ≤ n) (hy : xs[n.toNat]? = some y) (hf : y.flat = cells) (hw : cells.length = es) (C : Ctx) :
    evH C e id H (.ia es x i) = some (.ok (.ro cells), H) := by
  simp only [evH, hx, hi, h0, if_true, hy, AVal.width, hf, hw]
theorem lenL_ev {id : Nat} {x : AOpd} {xs : List AVal} {b : Bool} {n : Nat} (hx : x.ev e = some (.lst xs b)) (hn : xs.length = n) (C : Ctx) : evH C e id H (.len .slice x) = some (.ok (.int .i64 (n : Nat)), H) := by
  subst hn
  simp only [evH, hx, lenOf]; rfl
theorem appG_ev {α : Type} {id es bytes o : Nat} {s x : AOpd} {sx : AVal} {f : α → AVal} {m ys r : List α} (hf : ∀ x, (f x).width = es) (hby : bytes ≤ 1400) (hs : s.ev e = some (.gl o m.length)) (hx : x.ev e = some sx) (he : elemsOf H sx = some (ys.map f)) (hb : H[o]? = some (growM es f m)) (hr : catL m ys = some r) (C : Ctx) :
    evH C e id H (.app es bytes false s x) = some (.ok (.gl o r.length), H.set o (growM es f r)) := by
  obtain ⟨rfl, hl⟩ := catL_s hr
  have hw := growM_w hf m
  have hy := growM_w hf ys
  simp only [growM] at hb
  have hm : (m.length + ys.length) * bytes ≤ 140737488355328 := by
    have := Nat.mul_le_mul (Nat.le_of_lt hl) hby
    omega
  simp only [evH, hs, hx, appendA, he, hy, if_true, hb, List.length_map]
  rw [if_pos ⟨trivial, esz_or _ _, hw⟩]
  cases ys with
  | nil =>
    have e1 : H.set o (growM es f (m ++ [])) = H := by
      apply List.ext_getElem?
      intro j
      rw [List.getElem?_set]
      split
      · rename_i hj; subst hj; rw [hb, List.append_nil]; rw [if_pos (List.getElem?_eq_some_iff.1 hb).1]; rfl
      · rfl
    rw [e1]
    simp
  | cons y ys =>
    simp only [List.map_cons, List.isEmpty_cons, Bool.false_eq_true, if_false]
    rw [if_pos (by simpa using hm)]
    simp [growM, esz]
theorem appL_ev {α : Type} {id es bytes : Nat} {s x : AOpd} {sx : AVal} {f : α → AVal} {m ys : List α} (hf : ∀ x, (f x).width = es) (hby : bytes ≤ 1400) (hs : s.ev e = some (.lst (m.map f) true)) (hx : x.ev e = some sx) (he : elemsOf H sx = some (ys.map f)) (hne : ys.isEmpty = false) (hl : okLen (m ++ ys) = true) {H2 : Heap} (hn : newAt H id (growM es f (m ++ ys)) = some H2) (C : Ctx) :
    evH C e id H (.app es bytes false s x) = some (.ok (.gl id (m ++ ys).length), H2) := by
  have hy := growM_w hf ys
  have hw := growM_w hf m
  have hl := okLen_s hl
  have hm : (m ++ ys).length * bytes ≤ 140737488355328 := by
    have := Nat.mul_le_mul (Nat.le_of_lt hl) hby
    omega
  rw [List.length_append] at hm
  have hne2 : (ys.map f).isEmpty = false := by cases ys <;> simp_all
  have hg2 : growM es f (m ++ ys) = .grow es (m.map f ++ ys.map f) none := by
    cases ys with
    | nil => simp at hne
    | cons y ys => simp [growM, esz]
  rw [hg2] at hn
  simp only [evH, hs, hx, appendA, he, hy, if_true, hne2, Bool.false_eq_true, if_false]
  rw [if_pos ⟨trivial, hw, by simpa using hm⟩]
  simp [hn]
theorem wt {k : Nat} {b w : Bool} (h : e.get k = some (.bool b)) (hb : b = w) : wantedA e (some (k, w)) = some true := by subst hb; simp [wantedA, h]
theorem wf {k : Nat} {b w : Bool} (h : e.get k = some (.bool b)) (hb : b = !w) : wantedA e (some (k, w)) = some false := by subst hb; simp [wantedA, h]
end
section
variable {T : Nat → Option AFunc} {cs : List ACode} {e e' : Env} {H H' : Heap} {Q : Post}
end
def sixF (a b c d e f : Int) : Nat → Int
  | 0 => a
  | 1 => b
  | 2 => c
  | 3 => d
  | 4 => e
  | 5 => f
  | _ => 0
end Go.Ev
namespace Go.Ev
set_option linter.unusedVariables false
open Go
inductive Ty where
  | mk (all : Bool) (flat pair : Int) (pairs : List Ty) (fn : Int) (funs : List Ty)
namespace Ty
def all : Ty → Bool | mk a _ _ _ _ _ => a
def flat : Ty → Int | mk _ a _ _ _ _ => a
def pair : Ty → Int | mk _ _ a _ _ _ => a
def pairs : Ty → List Ty | mk _ _ _ a _ _ => a
def fn : Ty → Int | mk _ _ _ _ a _ => a
def funs : Ty → List Ty | mk _ _ _ _ _ a => a
end Ty
mutual
def encT : Ty → AVal
  | .mk a f p ps g gs => .agg [.bool a, .int .i64 f, .int .i64 p, .lst (encTs ps) false, .int .i64 g, .lst (encTs gs) false]
def encTs : List Ty → List AVal
  | [] => []
  | x :: xs => encT x :: encTs xs
end
def cT (x : Ty) : List AVal := [.bool x.all, .int .i64 x.flat, .int .i64 x.pair, .lst (x.pairs.map encT) false, .int .i64 x.fn, .lst (x.funs.map encT) false]
abbrev vT (x : Ty) : AVal := .agg (cT x)
theorem encTs_map : ∀ l : List Ty, encTs l = l.map encT
  | [] => rfl
  | x :: xs => by simp only [encTs, List.map_cons, encTs_map xs]
theorem encT_eq (x : Ty) : encT x = vT x := by
  cases x with | mk a f p ps g gs => simp only [encT, encTs_map, vT, cT, Ty.all, Ty.flat, Ty.pair, Ty.pairs, Ty.fn, Ty.funs]
theorem encT_flat (x : Ty) : (encT x).flat = cT x := by rw [encT_eq]; rfl
theorem encT_get {l : List Ty} {i : Int} {x : Ty} (h : l[i.toNat]? = some x) : (l.map encT)[i.toNat]? = some (encT x) := by rw [List.getElem?_map, h]; rfl
inductive WfT : Ty → Prop
  | mk {x : Ty} : (-9223372036854775808 ≤ x.flat ∧ x.flat < 9223372036854775808) → (-9223372036854775808 ≤ x.pair ∧ x.pair < 9223372036854775808) → (-9223372036854775808 ≤ x.fn ∧ x.fn < 9223372036854775808) → x.pairs.length < 9223372036854775808 → x.funs.length < 9223372036854775808 →
      (∀ y, y ∈ x.pairs → WfT y) → (∀ y, y ∈ x.funs → WfT y) → WfT x
mutual
def szT : Ty → Nat
  | .mk _ _ _ ps _ gs => 1 + szTs ps + szTs gs
def szTs : List Ty → Nat
  | [] => 0
  | x :: xs => szT x + szTs xs
end
theorem szT_eq (x : Ty) : szT x = 1 + szTs x.pairs + szTs x.funs := by cases x; rfl
theorem szT_pos (x : Ty) : 0 < szT x := by rw [szT_eq]; omega
theorem szTs_mem {x : Ty} : ∀ {l : List Ty}, x ∈ l → szT x ≤ szTs l
  | y :: ys, h => by
    simp only [szTs]
    rcases List.mem_cons.1 h with rfl | h
    · omega
    · have := szTs_mem h; omega
theorem szTs_len : ∀ l : List Ty, l.length ≤ szTs l
  | [] => by simp
  | y :: ys => by simp only [szTs, List.length_cons]; have := szTs_len ys; have := szT_pos y; omega
theorem szT_pairs {x y : Ty} (h : y ∈ x.pairs) : szT y < szT x := by rw [szT_eq x]; have := szTs_mem h; omega
theorem szT_funs {x y : Ty} (h : y ∈ x.funs) : szT y < szT x := by rw [szT_eq x]; have := szTs_mem h; omega
theorem len_pairs (x : Ty) : x.pairs.length < szT x := by rw [szT_eq x]; have := szTs_len x.pairs; omega
theorem len_funs (x : Ty) : x.funs.length < szT x := by rw [szT_eq x]; have := szTs_len x.funs; omega
theorem wrap_succ {i : Nat} (h : i < 9223372036854775807) : IntKind.i64.wrap ((i : Int) + 1) = ((i + 1 : Nat) : Int) := by
  rw [kw_i64_id (by omega) (by omega)]; rfl
theorem wrap_add {i j : Nat} (h : i + j < 9223372036854775808) : IntKind.i64.wrap ((i : Int) + (j : Int)) = ((i + j : Nat) : Int) := by
  rw [kw_i64_id (by omega) (by omega)]; rfl
theorem drop_of {α : Type} {l : List α} {i : Nat} {x : α} (h : l[i]? = some x) : l.drop i = x :: l.drop (i + 1) := by
  obtain ⟨hi, rfl⟩ := List.getElem?_eq_some_iff.1 h
  exact List.drop_eq_getElem_cons hi
mutual
def rsz : Ty → Nat → Nat
  | .mk _ _ _ ps _ gs, left => match left with
    | 0 => 1000
    | l + 1 => min 1000 (1 + rszs ps l + rszs gs l)
def rszs : List Ty → Nat → Nat
  | [], _ => 0
  | x :: xs, l => rsz x l + rszs xs l
end
theorem rsz_zero (x : Ty) : rsz x 0 = 1000 := by cases x; rfl
theorem rsz_succ (x : Ty) (l : Nat) : rsz x (l + 1) = min 1000 (1 + rszs x.pairs l + rszs x.funs l) := by cases x; rfl
theorem rsz_le (x : Ty) (l : Nat) : rsz x l ≤ 1000 := by cases l <;> simp only [rsz_zero, rsz_succ] <;> omega
mutual
theorem rsz_sz : ∀ (x : Ty) (l : Nat), rsz x l < 1000 → szT x = rsz x l
  | .mk a f p ps g gs, 0, h => by simp [rsz] at h
  | .mk a f p ps g gs, l + 1, h => by
    simp only [rsz] at h ⊢
    rw [szT, rszs_sz ps l (by omega), rszs_sz gs l (by omega)]; omega
theorem rszs_sz : ∀ (xs : List Ty) (l : Nat), rszs xs l < 1000 → szTs xs = rszs xs l
  | [], _, _ => rfl
  | x :: xs, l, h => by
    simp only [rszs] at h ⊢
    rw [szTs, rsz_sz x l (by omega), rszs_sz xs l (by omega)]
end
def pcnt (p : Int) : Int := if p = 1 then 2 else if p = 2 then 1 else 0
def okT (x : Ty) : Bool :=
  decide (0 ≤ x.flat) && decide (x.flat ≤ 63) && decide (0 ≤ x.pair) && decide (x.pair ≤ 2) && decide (0 ≤ x.fn) && decide (x.fn ≤ 2) && (!x.all || (decide (x.flat = 0) && decide (x.pair = 0) && decide (x.fn = 0))) &&
    decide ((x.pairs.length : Int) = pcnt x.pair) && (if x.fn = 1 then decide (1 ≤ x.funs.length) && decide (x.funs.length ≤ 9) else decide (x.funs.length = 0))
mutual
def rightT : Ty → Nat → Bool
  | .mk a f p ps g gs, d => match d with
    | 0 => false
    | d + 1 => okT (.mk a f p ps g gs) && rightTs ps d && rightTs gs d
def rightTs : List Ty → Nat → Bool
  | [], _ => true
  | x :: xs, d => rightT x d && rightTs xs d
end
theorem rightT_zero (x : Ty) : rightT x 0 = false := by cases x; rfl
theorem rightT_succ (x : Ty) (d : Nat) : rightT x (d + 1) = (okT x && rightTs x.pairs d && rightTs x.funs d) := by cases x; rfl
theorem rightTs_mem {d : Nat} : ∀ {l : List Ty} {x : Ty}, rightTs l d = true → x ∈ l → rightT x d = true
  | y :: ys, x, h, hm => by
    simp only [rightTs, Bool.and_eq_true] at h
    rcases List.mem_cons.1 hm with rfl | hm
    · exact h.1
    · exact rightTs_mem h.2 hm
def fidx {α : Type} (p : α → Bool) : List α → Nat → Int
  | [], _ => -1
  | x :: xs, i => if p x then (i : Int) else fidx p xs (i + 1)
theorem fidx_any {α : Type} (p : α → Bool) : ∀ (l : List α) (i : Nat), decide (0 ≤ fidx p l i) = l.any p
  | [], _ => rfl
  | x :: xs, i => by
    unfold fidx
    split
    · rename_i h; simp [h]
    · rename_i h; rw [fidx_any p xs (i + 1)]; simp [h]
theorem pCT (x : Ty) (a b c d e f : AVal) : putCells 0 (cT x) [a, b, c, d, e, f] = cT x := rfl
theorem tCT (x : Ty) : List.take 6 (cT x) = cT x := rfl
end Go.Ev
namespace Go.Ev
set_option linter.unusedVariables false
set_option linter.unusedSimpArgs false
open Go
def zeroT : Ty := ⟨false, 0, 0, [], 0, []⟩
def allT : Ty := ⟨true, 0, 0, [], 0, []⟩
def listT (x : Ty) : Ty := ⟨false, 16, 2, [x], 0, []⟩
theorem okT_facts {t : Ty} (h : okT t = true) : (0 ≤ t.flat ∧ t.flat ≤ 63) ∧ (0 ≤ t.pair ∧ t.pair ≤ 2) ∧ (0 ≤ t.fn ∧ t.fn ≤ 2) ∧ (t.all = true → t = allT) ∧ (t.pair = 0 → t.pairs = []) ∧ (t.pair = 1 → ∃ x y, t.pairs = [x, y]) ∧ (t.pair = 2 → ∃ x, t.pairs = [x]) ∧
    (t.fn = 1 → 1 ≤ t.funs.length ∧ t.funs.length ≤ 9) ∧ (t.fn ≠ 1 → t.funs = []) := by
  unfold okT at h
  simp only [Bool.and_eq_true, decide_eq_true_eq] at h
  obtain ⟨⟨⟨⟨⟨⟨⟨⟨h1, h2⟩, h3⟩, h4⟩, h5⟩, h6⟩, h7⟩, h8⟩, h9⟩ := h
  have p0 : t.pair = 0 → t.pairs = [] := by
    intro h; rw [h] at h8; exact List.length_eq_zero_iff.1 (by simpa [pcnt] using h8)
  have f1 : t.fn ≠ 1 → t.funs = [] := by
    intro h; rw [if_neg h] at h9; exact List.length_eq_zero_iff.1 (by simpa using h9)
  refine ⟨⟨h1, h2⟩, ⟨h3, h4⟩, ⟨h5, h6⟩, ?_, p0, ?_, ?_, ?_, f1⟩
  · intro ha
    simp only [ha, Bool.not_true, Bool.false_or, Bool.and_eq_true, decide_eq_true_eq] at h7
    have q1 := p0 h7.1.2
    have q2 := f1 (by rw [h7.2]; decide)
    cases t with | mk a f p ps g gs =>
    simp only [Ty.all, Ty.flat, Ty.pair, Ty.fn, Ty.pairs, Ty.funs] at *
    rw [ha, h7.1.1, h7.1.2, h7.2, q1, q2]; rfl
  · intro h; rw [h] at h8
    have h8' : t.pairs.length = 2 := by simp [pcnt] at h8; omega
    exact len2 h8'
  · intro h; rw [h] at h8
    have h8' : t.pairs.length = 1 := by simp [pcnt] at h8; omega
    exact len1 h8'
  · intro h; rw [if_pos h] at h9; simpa using h9
def Rt (t : Ty) : Prop := ∃ d, rightT t d = true
theorem Rt.ok {t : Ty} (h : Rt t) : okT t = true := by
  obtain ⟨d, h⟩ := h
  cases d with
  | zero => rw [rightT_zero] at h; cases h
  | succ d => rw [rightT_succ] at h; simp only [Bool.and_eq_true] at h; exact h.1.1
theorem Rt.pairs {t x : Ty} (h : Rt t) (hx : x ∈ t.pairs) : Rt x := by
  obtain ⟨d, h⟩ := h
  cases d with
  | zero => rw [rightT_zero] at h; cases h
  | succ d => rw [rightT_succ] at h; simp only [Bool.and_eq_true] at h; exact ⟨d, rightTs_mem h.1.2 hx⟩
theorem Rt.funs {t x : Ty} (h : Rt t) (hx : x ∈ t.funs) : Rt x := by
  obtain ⟨d, h⟩ := h
  cases d with
  | zero => rw [rightT_zero] at h; cases h
  | succ d => rw [rightT_succ] at h; simp only [Bool.and_eq_true] at h; exact ⟨d, rightTs_mem h.2 hx⟩
theorem Rt.list {x : Ty} (h : Rt x) : Rt (listT x) := by
  obtain ⟨d, h⟩ := h
  refine ⟨d + 1, ?_⟩
  rw [rightT_succ]
  simp [listT, okT, Ty.all, Ty.flat, Ty.pair, Ty.pairs, Ty.fn, Ty.funs, pcnt, rightTs, h]
theorem Rt.all : Rt allT := ⟨1, by rfl⟩
theorem Rt.zero : Rt zeroT := ⟨1, by rfl⟩
theorem WfT.flat {t : Ty} (h : WfT t) : -9223372036854775808 ≤ t.flat ∧ t.flat < 9223372036854775808 := by cases h; assumption
theorem WfT.pairs {t x : Ty} (h : WfT t) (hx : x ∈ t.pairs) : WfT x := by cases h with | mk w1 w2 w3 w4 w5 w6 w7 => exact w6 x hx
theorem WfT.funs {t x : Ty} (h : WfT t) (hx : x ∈ t.funs) : WfT x := by cases h with | mk w1 w2 w3 w4 w5 w6 w7 => exact w7 x hx
theorem WfT.list {x : Ty} (h : WfT x) : WfT (listT x) := by
  refine .mk (by simp [listT, Ty.flat]) (by simp [listT, Ty.pair]) (by simp [listT, Ty.fn]) (by simp [listT, Ty.pairs]) (by simp [listT, Ty.funs]) ?_ (by simp [listT, Ty.funs])
  intro y hy
  simp [listT, Ty.pairs] at hy
  subst hy; exact h
theorem WfT.zero : WfT zeroT := .mk (by simp [zeroT, Ty.flat]) (by simp [zeroT, Ty.pair]) (by simp [zeroT, Ty.fn]) (by simp [zeroT, Ty.pairs]) (by simp [zeroT, Ty.funs]) (by simp [zeroT, Ty.pairs]) (by simp [zeroT, Ty.funs])
theorem WfT.allT : WfT allT := .mk (by simp [Ev.allT, Ty.flat]) (by simp [Ev.allT, Ty.pair]) (by simp [Ev.allT, Ty.fn]) (by simp [Ev.allT, Ty.pairs]) (by simp [Ev.allT, Ty.funs]) (by simp [Ev.allT, Ty.pairs]) (by simp [Ev.allT, Ty.funs])
end Go.Ev
namespace Go.Ev
set_option linter.unusedVariables false
set_option linter.unusedSimpArgs false
open Go
inductive Co where
  | mk (flat : Nat → Int) (pair plab : Int) (pairs : List Co) (fn flab : Int) (funs : List Co)
namespace Co
def flat : Co → Nat → Int | mk a _ _ _ _ _ _ => a
def pair : Co → Int | mk _ a _ _ _ _ _ => a
def plab : Co → Int | mk _ _ a _ _ _ _ => a
def pairs : Co → List Co | mk _ _ _ a _ _ _ => a
def fn : Co → Int | mk _ _ _ _ a _ _ => a
def flab : Co → Int | mk _ _ _ _ _ a _ => a
def funs : Co → List Co | mk _ _ _ _ _ _ a => a
end Co
mutual
def encC : Co → AVal
  | .mk f p l ps g m gs => .agg [.int .i64 (f 0), .int .i64 (f 1), .int .i64 (f 2), .int .i64 (f 3), .int .i64 (f 4), .int .i64 (f 5), .int .i64 p, .int .i64 l, .lst (encCs ps) false, .int .i64 g, .int .i64 m, .lst (encCs gs) false]
def encCs : List Co → List AVal
  | [] => []
  | x :: xs => encC x :: encCs xs
end
def cC (x : Co) : List AVal := [.int .i64 (x.flat 0), .int .i64 (x.flat 1), .int .i64 (x.flat 2), .int .i64 (x.flat 3), .int .i64 (x.flat 4), .int .i64 (x.flat 5), .int .i64 x.pair, .int .i64 x.plab, .lst (x.pairs.map encC) false, .int .i64 x.fn, .int .i64 x.flab, .lst (x.funs.map encC) false]
abbrev vC (x : Co) : AVal := .agg (cC x)
theorem encCs_map : ∀ l : List Co, encCs l = l.map encC
  | [] => rfl
  | x :: xs => by simp only [encCs, List.map_cons, encCs_map xs]
theorem encC_eq (x : Co) : encC x = vC x := by
  cases x with | mk f p l ps g m gs => simp only [encC, encCs_map, vC, cC, Co.flat, Co.pair, Co.plab, Co.pairs, Co.fn, Co.flab, Co.funs]
theorem encC_flat (x : Co) : (encC x).flat = cC x := by rw [encC_eq]; rfl
theorem encC_get {l : List Co} {i : Nat} {x : Co} (h : l[i]? = some x) : (l.map encC)[((i : Nat) : Int).toNat]? = some (encC x) := by rw [Int.toNat_natCast, List.getElem?_map, h]; rfl
theorem encC_w (l : List Co) : (l.map encC).all (fun y => decide (y.width = 12)) = true := by
  rw [List.all_eq_true]
  intro y hy
  obtain ⟨x, _, rfl⟩ := List.mem_map.1 hy
  simp [AVal.width, encC_flat, cC]
theorem encC_w1 (x : Co) : (encC x).width = 12 := by simp [AVal.width, encC_flat, cC]
def encCL (l : List Co) : AVal := .lst (l.map encC) false
theorem encCL_get {ls : List (List Co)} {i : Nat} {x : List Co} (h : ls[i]? = some x) : (ls.map encCL)[((i : Nat) : Int).toNat]? = some (encCL x) := by rw [Int.toNat_natCast, List.getElem?_map, h]; rfl
def i64B (n : Int) : Prop := -9223372036854775808 ≤ n ∧ n < 9223372036854775808
inductive WfC : Co → Prop
  | mk {x : Co} : (∀ i, i64B (x.flat i)) → i64B x.pair → i64B x.plab → i64B x.fn → i64B x.flab → x.pairs.length < 9223372036854775808 → x.funs.length < 9223372036854775808 → (∀ y, y ∈ x.pairs → WfC y) → (∀ y, y ∈ x.funs → WfC y) → WfC x
mutual
def szC : Co → Nat
  | .mk _ _ _ ps _ _ gs => 1 + szCs ps + szCs gs
def szCs : List Co → Nat
  | [] => 0
  | x :: xs => szC x + szCs xs
end
theorem szC_eq (x : Co) : szC x = 1 + szCs x.pairs + szCs x.funs := by cases x; rfl
theorem szC_pos (x : Co) : 0 < szC x := by rw [szC_eq]; omega
theorem szCs_mem {x : Co} : ∀ {l : List Co}, x ∈ l → szC x ≤ szCs l
  | y :: ys, h => by
    simp only [szCs]
    rcases List.mem_cons.1 h with rfl | h
    · omega
    · have := szCs_mem h; omega
theorem szCs_len : ∀ l : List Co, l.length ≤ szCs l
  | [] => by simp
  | y :: ys => by simp only [szCs, List.length_cons]; have := szCs_len ys; have := szC_pos y; omega
theorem szCs_append : ∀ l m : List Co, szCs (l ++ m) = szCs l + szCs m
  | [], m => by simp [szCs]
  | x :: l, m => by simp only [List.cons_append, szCs, szCs_append l m]; omega
theorem szC_pairs {x y : Co} (h : y ∈ x.pairs) : szC y < szC x := by rw [szC_eq x]; have := szCs_mem h; omega
theorem szC_funs {x y : Co} (h : y ∈ x.funs) : szC y < szC x := by rw [szC_eq x]; have := szCs_mem h; omega
theorem lenC_pairs (x : Co) : x.pairs.length < szC x := by rw [szC_eq x]; have := szCs_len x.pairs; omega
theorem lenC_funs (x : Co) : x.funs.length < szC x := by rw [szC_eq x]; have := szCs_len x.funs; omega
theorem lenC_both (x : Co) : x.pairs.length + x.funs.length < szC x := by rw [szC_eq x]; have := szCs_len x.pairs; have := szCs_len x.funs; omega
def six (p : Nat → Bool) : Bool := p 0 && (p 1 && (p 2 && (p 3 && (p 4 && (p 5 && true)))))
mutual
def sameC : Co → Co → Bool
  | .mk f p l ps g m gs, .mk f' p' l' ps' g' m' gs' => six (fun i => decide (f i = f' i)) && decide (p = p') && decide (l = l') && decide (g = g') && decide (m = m') && sameCs ps ps' && sameCs gs gs'
def sameCs : List Co → List Co → Bool
  | [], [] => true
  | x :: xs, y :: ys => sameC x y && sameCs xs ys
  | _, _ => false
end
theorem sameC_eq (a b : Co) : sameC a b = (six (fun i => decide (a.flat i = b.flat i)) && decide (a.pair = b.pair) && decide (a.plab = b.plab) && decide (a.fn = b.fn) && decide (a.flab = b.flab) && sameCs a.pairs b.pairs && sameCs a.funs b.funs) := by
  cases a; cases b; rfl
theorem sameCs_len : ∀ {l m : List Co}, sameCs l m = true → l.length = m.length
  | [], [], _ => rfl
  | x :: xs, y :: ys, h => by simp only [sameCs, Bool.and_eq_true] at h; simp [sameCs_len h.2]
  | [], _ :: _, h => by simp [sameCs] at h
  | _ :: _, [], h => by simp [sameCs] at h
def passC (c : Co) : Bool := six (fun i => decide (c.flat i = 0)) && decide (c.pair = 0) && decide (c.plab = 0) && decide ((c.pairs.length : Int) = 0) && decide (c.fn = 0) && decide (c.flab = 0) && decide ((c.funs.length : Int) = 0)
mutual
def rszC : Co → Nat → Nat
  | .mk _ _ _ ps _ _ gs, left => match left with
    | 0 => 1000
    | l + 1 => min 1000 (1 + rszCs ps l + rszCs gs l)
def rszCs : List Co → Nat → Nat
  | [], _ => 0
  | x :: xs, l => rszC x l + rszCs xs l
end
theorem rszC_zero (x : Co) : rszC x 0 = 1000 := by cases x; rfl
theorem rszC_succ (x : Co) (l : Nat) : rszC x (l + 1) = min 1000 (1 + rszCs x.pairs l + rszCs x.funs l) := by cases x; rfl
theorem rszC_le (x : Co) (l : Nat) : rszC x l ≤ 1000 := by cases l <;> simp only [rszC_zero, rszC_succ] <;> omega
mutual
theorem rszC_sz : ∀ (x : Co) (l : Nat), rszC x l < 1000 → szC x = rszC x l
  | .mk _ _ _ ps _ _ gs, 0, h => by simp [rszC] at h
  | .mk _ _ _ ps _ _ gs, l + 1, h => by
    simp only [rszC] at h ⊢
    rw [szC, rszCs_sz ps l (by omega), rszCs_sz gs l (by omega)]; omega
theorem rszCs_sz : ∀ (xs : List Co) (l : Nat), rszCs xs l < 1000 → szCs xs = rszCs xs l
  | [], _, _ => rfl
  | x :: xs, l, h => by
    simp only [rszCs] at h ⊢
    rw [szCs, rszC_sz x l (by omega), rszCs_sz xs l (by omega)]
end
mutual
def shalC : Co → Nat → Bool
  | .mk _ _ _ ps _ _ gs, left => match left with
    | 0 => false
    | l + 1 => decide (ps.length ≤ 12) && decide (gs.length ≤ 12) && shalCs ps l && shalCs gs l
def shalCs : List Co → Nat → Bool
  | [], _ => true
  | x :: xs, l => shalC x l && shalCs xs l
end
theorem shalC_zero (x : Co) : shalC x 0 = false := by cases x; rfl
theorem shalC_succ (x : Co) (l : Nat) : shalC x (l + 1) = (decide (x.pairs.length ≤ 12) && decide (x.funs.length ≤ 12) && shalCs x.pairs l && shalCs x.funs l) := by cases x; rfl
def pcntC (p : Int) : Int := if p = 2 then 2 else if p = 3 then 1 else 0
def okC (c : Co) : Bool :=
  six (fun i => decide (0 ≤ c.flat i) && decide (c.flat i ≤ 99)) && decide (0 ≤ c.plab) && decide (c.plab ≤ 99) && decide (0 ≤ c.flab) && decide (c.flab ≤ 99) && decide (0 ≤ c.pair) && decide (c.pair ≤ 3) && decide (0 ≤ c.fn) && decide (c.fn ≤ 3) &&
    decide ((c.pairs.length : Int) = pcntC c.pair) &&
    (if c.pair = 0 then decide (c.plab = 0) else if c.pair = 1 then !decide (c.plab = 0) else if c.pair = 2 then decide (c.plab = 0) && c.pairs.any (fun x => !passC x) else !decide (c.plab = 0) || c.pairs.any (fun x => !passC x)) &&
    (if c.fn = 2 then decide (c.funs.length ≤ 9) && c.funs.any (fun x => !passC x) else decide (c.funs.length = 0)) && (decide (c.fn = 1) == !decide (c.flab = 0))
mutual
def rightC : Co → Nat → Bool
  | .mk f p l ps g m gs, d => match d with
    | 0 => false
    | d + 1 => okC (.mk f p l ps g m gs) && rightCs ps d && rightCs gs d
def rightCs : List Co → Nat → Bool
  | [], _ => true
  | x :: xs, d => rightC x d && rightCs xs d
end
theorem rightC_zero (x : Co) : rightC x 0 = false := by cases x; rfl
theorem rightC_succ (x : Co) (d : Nat) : rightC x (d + 1) = (okC x && rightCs x.pairs d && rightCs x.funs d) := by cases x; rfl
theorem rightCs_mem {d : Nat} : ∀ {l : List Co} {x : Co}, rightCs l d = true → x ∈ l → rightC x d = true
  | y :: ys, x, h, hm => by
    simp only [rightCs, Bool.and_eq_true] at h
    rcases List.mem_cons.1 hm with rfl | hm
    · exact h.1
    · exact rightCs_mem h.2 hm
def es0 (w i : Nat) : Nat := if i = 0 then 0 else w
theorem es0_or (w i : Nat) : es0 w i = w ∨ es0 w i = 0 := by unfold es0; split <;> simp
def oC (x : Co) (a b : AVal) : List AVal := [.int .i64 (x.flat 0), .int .i64 (x.flat 1), .int .i64 (x.flat 2), .int .i64 (x.flat 3), .int .i64 (x.flat 4), .int .i64 (x.flat 5), .int .i64 x.pair, .int .i64 x.plab, a, .int .i64 x.fn, .int .i64 x.flab, b]
inductive SmC : Co → Prop
  | mk {x : Co} : x.pairs.length ≤ 1000000 → x.funs.length ≤ 1000000 → (∀ y, y ∈ x.pairs → SmC y) → (∀ y, y ∈ x.funs → SmC y) → SmC x
theorem shalCs_mem {d : Nat} : ∀ {l : List Co} {x : Co}, shalCs l d = true → x ∈ l → shalC x d = true
  | y :: ys, x, h, hm => by
    simp only [shalCs, Bool.and_eq_true] at h
    rcases List.mem_cons.1 hm with rfl | hm
    · exact h.1
    · exact shalCs_mem h.2 hm
theorem smC_shal : ∀ (d : Nat) (x : Co), shalC x d = true → SmC x
  | 0, x, h => by rw [shalC_zero] at h; cases h
  | d + 1, x, h => by
    rw [shalC_succ] at h
    simp only [Bool.and_eq_true, decide_eq_true_eq] at h
    obtain ⟨⟨⟨h1, h2⟩, h3⟩, h4⟩ := h
    exact .mk (by omega) (by omega) (fun y hy => smC_shal d y (shalCs_mem h3 hy)) (fun y hy => smC_shal d y (shalCs_mem h4 hy))
theorem take_succ_map {l : List Co} {i : Nat} {x : Co} (h : l[i]? = some x) : (l.take (i + 1)).map encC = (l.take i).map encC ++ [vC x] := by
  rw [List.take_add_one, h]; simp [encC_eq]
theorem six_at {p : Nat → Bool} (h : six p = true) {i : Nat} (hi : i < 6) : p i = true := by
  simp only [six, Bool.and_eq_true] at h
  obtain rfl | rfl | rfl | rfl | rfl | rfl : i = 0 ∨ i = 1 ∨ i = 2 ∨ i = 3 ∨ i = 4 ∨ i = 5 := by omega
  all_goals simp [h]
theorem six_all {p : Nat → Bool} (h : ∀ i, i < 6 → p i = true) : six p = true := by simp [six, h]
theorem cC_get {c : Co} {i : Nat} (h : i < 6) : (cC c)[i]? = some (.int .i64 (c.flat i)) := by
  obtain rfl | rfl | rfl | rfl | rfl | rfl : i = 0 ∨ i = 1 ∨ i = 2 ∨ i = 3 ∨ i = 4 ∨ i = 5 := by omega
  all_goals rfl
def lab (n : Int) : Bool := decide (0 ≤ n) && decide (n ≤ 99)
def anyA (l : List Co) : Bool := l.any (fun x => !passC x)
theorem okC_iff (c : Co) : okC c = true ↔ (six (fun i => lab (c.flat i)) = true ∧ lab c.plab = true ∧ lab c.flab = true ∧ 0 ≤ c.pair ∧ c.pair ≤ 3 ∧ 0 ≤ c.fn ∧ c.fn ≤ 3 ∧ (c.pairs.length : Int) = pcntC c.pair ∧
    (c.pair = 0 → c.plab = 0) ∧ (c.pair = 1 → c.plab ≠ 0) ∧ (c.pair = 2 → c.plab = 0 ∧ anyA c.pairs = true) ∧ (c.pair = 3 → c.plab ≠ 0 ∨ anyA c.pairs = true) ∧
    (c.fn = 2 → c.funs.length ≤ 9 ∧ anyA c.funs = true) ∧ (c.fn ≠ 2 → c.funs.length = 0) ∧ (c.fn = 1 ↔ c.flab ≠ 0)) := by
  have e : six (fun i => decide (0 ≤ c.flat i) && decide (c.flat i ≤ 99)) = six (fun i => lab (c.flat i)) := rfl
  unfold okC
  rw [e]
  generalize six (fun i => lab (c.flat i)) = s
  unfold lab
  change ((s && decide (0 ≤ c.plab) && decide (c.plab ≤ 99) && decide (0 ≤ c.flab) && decide (c.flab ≤ 99) && decide (0 ≤ c.pair) && decide (c.pair ≤ 3) && decide (0 ≤ c.fn) && decide (c.fn ≤ 3) &&
    decide ((c.pairs.length : Int) = pcntC c.pair) &&
    (if c.pair = 0 then decide (c.plab = 0) else if c.pair = 1 then !decide (c.plab = 0) else if c.pair = 2 then decide (c.plab = 0) && anyA c.pairs else !decide (c.plab = 0) || anyA c.pairs) &&
    (if c.fn = 2 then decide (c.funs.length ≤ 9) && anyA c.funs else decide (c.funs.length = 0)) && (decide (c.fn = 1) == !decide (c.flab = 0))) = true) ↔ _
  generalize anyA c.pairs = ap
  generalize anyA c.funs = af
  simp only [Bool.and_eq_true, decide_eq_true_eq]
  constructor
  · rintro ⟨⟨⟨⟨⟨⟨⟨⟨⟨⟨⟨⟨h1, h2⟩, h3⟩, h4⟩, h5⟩, h6⟩, h7⟩, h8⟩, h9⟩, h10⟩, h11⟩, h12⟩, h13⟩
    refine ⟨h1, ⟨h2, h3⟩, ⟨h4, h5⟩, h6, h7, h8, h9, h10, ?_, ?_, ?_, ?_, ?_, ?_, ?_⟩
    · intro q; rw [if_pos q] at h11; simpa using h11
    · intro q; rw [if_neg (by omega), if_pos q] at h11; simpa using h11
    · intro q; rw [if_neg (by omega), if_neg (by omega), if_pos q] at h11; simpa using h11
    · intro q; rw [if_neg (by omega), if_neg (by omega), if_neg (by omega)] at h11; simpa using h11
    · intro q; rw [if_pos q] at h12; simpa using h12
    · intro q; rw [if_neg q] at h12; simpa using h12
    · by_cases a : c.fn = 1 <;> by_cases b : c.flab = 0 <;> simp [a, b] at h13 ⊢
  · rintro ⟨h1, ⟨h2, h3⟩, ⟨h4, h5⟩, h6, h7, h8, h9, h10, k1, k2, k3, k4, k5, k6, k7⟩
    refine ⟨⟨⟨⟨⟨⟨⟨⟨⟨⟨⟨⟨h1, h2⟩, h3⟩, h4⟩, h5⟩, h6⟩, h7⟩, h8⟩, h9⟩, h10⟩, ?_⟩, ?_⟩, ?_⟩
    · split
      · rename_i q; simp [k1 q]
      · split
        · rename_i q; simpa using k2 q
        · split
          · rename_i q; simp [k3 q]
          · simpa using k4 (by omega)
    · split
      · rename_i q; simpa using k5 q
      · rename_i q; simpa using k6 q
    · by_cases a : c.fn = 1 <;> by_cases b : c.flab = 0 <;> simp [a, b] at k7 ⊢
theorem all_anyA (l : List Co) : l.all passC = !anyA l := by
  induction l with
  | nil => rfl
  | cons x xs ih => simp only [List.all_cons, ih, anyA, List.any_cons]; cases passC x <;> simp
theorem anyA_len {l : List Co} (h : anyA l = true) : 1 ≤ l.length := by
  cases l with
  | nil => simp [anyA] at h
  | cons x xs => simp
theorem pcntC_get {p : Int} (h0 : 0 ≤ p) (h2 : p ≤ 3) : [AVal.int .i64 0, AVal.int .i64 0, AVal.int .i64 2, AVal.int .i64 1][p.toNat]? = some (.int .i64 (pcntC p)) := by
  obtain rfl | rfl | rfl | rfl : p = 0 ∨ p = 1 ∨ p = 2 ∨ p = 3 := by omega
  all_goals rfl
def zeroC : Co := .mk (fun _ => 0) 0 0 [] 0 0 []
def carC (c : Co) : Co := if c.pair < 2 then zeroC else c.pairs.headD zeroC
def listsC (x : Co) (l : Int) : Co := .mk (fun i => if i = 4 then 0 else l) 3 l [x] (if l = 0 then 0 else 1) l []
def cdrC (c : Co) : Co := if c.pair = 2 then (c.pairs.drop 1).headD zeroC else if c.pair = 3 then listsC (c.pairs.headD zeroC) c.plab else zeroC
theorem okC_facts {c : Co} (h : okC c = true) : 0 ≤ c.pair ∧ c.pair ≤ 3 ∧ 0 ≤ c.fn ∧ c.fn ≤ 3 ∧ (c.pairs.length : Int) = pcntC c.pair := by
  obtain ⟨q1, q2, q3, q4, q5, q6, q7, q8, _⟩ := (okC_iff c).1 h
  exact ⟨q4, q5, q6, q7, q8⟩
theorem pairs2 {c : Co} (h : okC c = true) (hp : c.pair = 2) : ∃ x y, c.pairs = [x, y] := by
  have := (okC_facts h).2.2.2.2
  rw [hp] at this
  match hl : c.pairs with
  | [] => simp [hl, pcntC] at this
  | [x] => simp [hl, pcntC] at this
  | [x, y] => exact ⟨x, y, rfl⟩
  | _ :: _ :: _ :: _ => simp [hl, pcntC] at this; omega
theorem pairs3 {c : Co} (h : okC c = true) (hp : c.pair = 3) : ∃ x, c.pairs = [x] := by
  have := (okC_facts h).2.2.2.2
  rw [hp] at this
  match hl : c.pairs with
  | [] => simp [hl, pcntC] at this
  | [x] => exact ⟨x, rfl⟩
  | _ :: _ :: _ => simp [hl, pcntC] at this; omega
theorem two_pow_lt {i : Nat} (h : i < 6) : (2 : Int) ^ i = 1 ∨ (2 : Int) ^ i = 2 ∨ (2 : Int) ^ i = 4 ∨ (2 : Int) ^ i = 8 ∨ (2 : Int) ^ i = 16 ∨ (2 : Int) ^ i = 32 := by
  obtain rfl | rfl | rfl | rfl | rfl | rfl : i = 0 ∨ i = 1 ∨ i = 2 ∨ i = 3 ∨ i = 4 ∨ i = 5 := by omega
  all_goals simp
theorem shl_pow {i : Nat} (h : i < 6) : IntKind.i64.wrap (1 * 2 ^ (min ((i : Int).toNat) IntKind.i64.bits)) = (2 : Int) ^ i := by
  obtain rfl | rfl | rfl | rfl | rfl | rfl : i = 0 ∨ i = 1 ∨ i = 2 ∨ i = 3 ∨ i = 4 ∨ i = 5 := by omega
  all_goals rfl
theorem listsC_1 (x : Co) (l : Int) (h : l ≠ 0) : cC (listsC x l) = [.int .i64 l, .int .i64 l, .int .i64 l, .int .i64 l, .int .i64 0, .int .i64 l, .int .i64 3, .int .i64 l, .lst [vC x] false, .int .i64 1, .int .i64 l, .lst [] false] := by
  simp [cC, listsC, h, Co.flat, Co.pair, Co.plab, Co.pairs, Co.fn, Co.flab, Co.funs, encC_eq]
theorem listsC_0 (x : Co) (l : Int) (h : l = 0) : cC (listsC x l) = [.int .i64 l, .int .i64 l, .int .i64 l, .int .i64 l, .int .i64 0, .int .i64 l, .int .i64 3, .int .i64 l, .lst [vC x] false, .int .i64 0, .int .i64 0, .lst [] false] := by
  subst h
  simp [cC, listsC, Co.flat, Co.pair, Co.plab, Co.pairs, Co.fn, Co.flab, Co.funs, encC_eq]
theorem lightC_sz {c : Co} (h : (shalC c 30 && decide (rszC c 60 < 150)) = true) : szC c < 150 := by
  simp only [Bool.and_eq_true, decide_eq_true_eq] at h
  rw [rszC_sz c 60 (by omega)]; exact h.2
theorem rightC_ok {c : Co} {d : Nat} (h : rightC c d = true) : okC c = true := by
  cases d with
  | zero => rw [rightC_zero] at h; cases h
  | succ d => rw [rightC_succ] at h; simp only [Bool.and_eq_true] at h; exact h.1.1
end Go.Ev
namespace Go.Ev
set_option linter.unusedVariables false
open Go
inductive Dt where
  | mk (kind : Int) (text : List UInt8) (list : List Dt)
namespace Dt
def kind : Dt → Int | mk a _ _ => a
def text : Dt → List UInt8 | mk _ a _ => a
def list : Dt → List Dt | mk _ _ a => a
end Dt
inductive Tst where
  | mk (op : Int) (var : Int) (tags : Int) (yes : Bool) (of : List Tst)
namespace Tst
def op : Tst → Int | mk a _ _ _ _ => a
def var : Tst → Int | mk _ a _ _ _ => a
def tags : Tst → Int | mk _ _ a _ _ => a
def yes : Tst → Bool | mk _ _ _ a _ => a
def of : Tst → List Tst | mk _ _ _ _ a => a
end Tst
inductive Vl where
  | mk (tag : Int) (of : List Vl)
namespace Vl
def tag : Vl → Int | mk a _ => a
def of : Vl → List Vl | mk _ a => a
end Vl
inductive Bnd where
  | mk (name : List UInt8) (depth : Int) (d : Dt) (row : List Bnd)
namespace Bnd
def name : Bnd → List UInt8 | mk a _ _ _ => a
def depth : Bnd → Int | mk _ a _ _ => a
def d : Bnd → Dt | mk _ _ a _ => a
def row : Bnd → List Bnd | mk _ _ _ a => a
end Bnd
end Go.Ev
