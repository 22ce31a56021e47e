/-
  Part 5 of a proof: NarrowTypes: for every input the law returns true, and what it was given reads behind the call as before. No conditions.
-/
import Derived.Test.YtoacjncdnnkbaaaP4
import Derived.OpenShut
namespace Go.Ev.Seat
set_option linter.unusedVariables false
set_option linter.unusedSimpArgs false
open Go Go.Ev
theorem wrapBV (x : BitVec 64) : BitVec.ofInt 64 (IntKind.i64.wrap (x.toNat : Int)) = x := by
  have h := x.isLt
  apply BitVec.eq_of_toNat_eq
  rw [kw_i64, BitVec.toNat_ofInt]
  omega
theorem andBV (a b : Int) : BitVec.ofInt 64 (andB .i64 a b) = BitVec.ofInt 64 a &&& BitVec.ofInt 64 b := wrapBV _
theorem andB_of {a b c d : Int} (h : BitVec.ofInt 64 a &&& BitVec.ofInt 64 b = BitVec.ofInt 64 c &&& BitVec.ofInt 64 d) : andB .i64 a b = andB .i64 c d := by
  show IntKind.i64.wrap ((BitVec.ofInt 64 a &&& BitVec.ofInt 64 b).toNat) = IntKind.i64.wrap ((BitVec.ofInt 64 c &&& BitVec.ofInt 64 d).toNat)
  rw [h]
theorem and_low64 (g : Int) : andB .i64 (andB .i64 g 255) 64 = andB .i64 g 64 := by
  apply andB_of; rw [andBV, BitVec.and_assoc]; congr 1
theorem and_low128 (g : Int) : andB .i64 (andB .i64 g 255) 128 = andB .i64 g 128 := by
  apply andB_of; rw [andBV, BitVec.and_assoc]; congr 1
theorem and_flat {f : Int} (g : Int) (h0 : 0 ≤ f) (h1 : f ≤ 63) : andB .i64 f (andB .i64 g 255) = andB .i64 f g := by
  apply andB_of
  rw [andBV, BitVec.and_comm (BitVec.ofInt 64 g), ← BitVec.and_assoc]
  congr 1
  have : ∀ k : Fin 64, BitVec.ofInt 64 ((k.1 : Nat) : Int) &&& 255#64 = BitVec.ofInt 64 ((k.1 : Nat) : Int) := by decide
  have h2 := this ⟨f.toNat, by omega⟩
  rw [show (((⟨f.toNat, by omega⟩ : Fin 64).1 : Nat) : Int) = f by simp; omega] at h2
  exact h2
theorem and_bounds {f : Int} (g : Int) (h0 : 0 ≤ f) (h1 : f ≤ 63) : 0 ≤ andB .i64 f g ∧ andB .i64 f g ≤ 63 := by
  show 0 ≤ IntKind.i64.wrap ((BitVec.ofInt 64 f &&& BitVec.ofInt 64 g).toNat) ∧ IntKind.i64.wrap ((BitVec.ofInt 64 f &&& BitVec.ofInt 64 g).toNat) ≤ 63
  have h2 : (BitVec.ofInt 64 f &&& BitVec.ofInt 64 g).toNat ≤ 63 := by
    rw [BitVec.toNat_and]
    refine Nat.le_trans Nat.and_le_left ?_
    rw [BitVec.toNat_ofInt]; omega
  rw [kw_i64_id (by omega) (by omega)]
  omega
def keepC (t : Ty) (g : Int) : Ty := .mk t.all (andB .i64 t.flat g) (if andB .i64 g 64 = 0 then 0 else t.pair) (if andB .i64 g 64 = 0 then [] else t.pairs) (if andB .i64 g 128 = 0 then 0 else t.fn) (if andB .i64 g 128 = 0 then [] else t.funs)
def anyT : Ty := .mk false 63 1 [.mk true 0 0 [] 0 [], .mk true 0 0 [] 0 []] 2 []
def keepS (t : Ty) (g : Int) : Ty := if t.all then (if andB .i64 g 255 = 255 then t else keepC anyT g) else keepC t g
theorem keepC_j (g : Int) (a : Bool) (f p : Int) (ps : List Ty) (n : Int) (ns : List Ty) : g_narrow_Keep_j3 g a f p ps n ns = some (keepC (.mk a f p ps n ns) g) := by
  unfold g_narrow_Keep_j3 g_narrow_Keep_j2 g_narrow_Keep_j1 keepC
  by_cases h1 : andB .i64 g 64 = 0 <;> by_cases h2 : andB .i64 g 128 = 0 <;> simp [h1, h2, Ty.all, Ty.flat, Ty.pair, Ty.pairs, Ty.fn, Ty.funs]
theorem keep_p (t : Ty) (g : Int) : g_narrow_Keep t g = some (keepS t g) := by
  have hj : oJoin (.mk false (andB .i64 63 63) 0 [] 0 []) (.mk false 0 1 [.mk true 0 0 [] 0 [], .mk true 0 0 [] 0 []] 0 []) = some bothT := by
    unfold oJoin; rw [if_pos ⟨rfl, rfl⟩]
  unfold g_narrow_Keep keepS
  simp only [g_types_Flat, g_types_All, g_types_Pair, Option.bind_some, hj, keepC_j]
  obtain ⟨a, f, p, ps, q, qs⟩ := t
  cases a with
  | true => by_cases h : andB .i64 g 255 = 255 <;> simp [h, bothT, anyT, Ty.all, Ty.flat, Ty.pair, Ty.pairs, Ty.fn, Ty.funs]
  | false => simp [Ty.all, Ty.flat, Ty.pair, Ty.pairs, Ty.fn, Ty.funs]
theorem keep_r (t : Ty) (g : Int) (h0 : 0 ≤ t.flat) (h1 : t.flat ≤ 63) : g_r06_Keep t g = some (keepS t g) := by
  unfold g_r06_Keep keepS keepC g_r06_low g_r06_Keep_j2 g_r06_Keep_j1
  simp only [Option.bind_some, and_low64, and_low128]
  have e1 := and_flat g h0 h1
  have e2 := and_flat g (f := 63) (by decide) (by decide)
  by_cases a1 : t.all = true <;> by_cases h : andB .i64 g 255 = 255 <;> by_cases h64 : andB .i64 g 64 = 0 <;> by_cases h128 : andB .i64 g 128 = 0 <;>
    simp_all [anyT, Ty.all, Ty.flat, Ty.pair, Ty.pairs, Ty.fn, Ty.funs]
def Fl (t : Ty) : Prop := 0 ≤ t.flat ∧ t.flat ≤ 63
theorem keepC_fl {t : Ty} (g : Int) (h : Fl t) : Fl (keepC t g) := and_bounds g h.1 h.2
theorem keep_fl {t : Ty} (g : Int) (h : Fl t) : Fl (keepS t g) := by
  unfold keepS; split
  · split
    · exact h
    · exact keepC_fl g ⟨by decide, by decide⟩
  · exact keepC_fl g h
theorem wf_keepC {t : Ty} (g : Int) (h : WfT t) (hf : Fl t) : WfT (keepC t g) := by
  obtain ⟨b0, b1⟩ := and_bounds g hf.1 hf.2
  cases h with | mk w1 w2 w3 w4 w5 w6 w7 =>
  refine .mk ?_ ?_ ?_ ?_ ?_ ?_ ?_
  · show -9223372036854775808 ≤ andB .i64 t.flat g ∧ andB .i64 t.flat g < 9223372036854775808
    omega
  · show -9223372036854775808 ≤ (if andB .i64 g 64 = 0 then 0 else t.pair) ∧ (if andB .i64 g 64 = 0 then 0 else t.pair) < 9223372036854775808
    split <;> omega
  · show -9223372036854775808 ≤ (if andB .i64 g 128 = 0 then 0 else t.fn) ∧ (if andB .i64 g 128 = 0 then 0 else t.fn) < 9223372036854775808
    split <;> omega
  · show (if andB .i64 g 64 = 0 then [] else t.pairs).length < _
    split
    · simp
    · exact w4
  · show (if andB .i64 g 128 = 0 then [] else t.funs).length < _
    split
    · simp
    · exact w5
  · intro y hy
    have hy : y ∈ (if andB .i64 g 64 = 0 then [] else t.pairs) := hy
    split at hy
    · simp at hy
    · exact w6 y hy
  · intro y hy
    have hy : y ∈ (if andB .i64 g 128 = 0 then [] else t.funs) := hy
    split at hy
    · simp at hy
    · exact w7 y hy
theorem wf_all0 : WfT (.mk true 0 0 [] 0 []) := WfT.allT
theorem wf_anyT : WfT anyT := by
  refine .mk (by decide) (by decide) (by decide) (by decide) (by decide) ?_ ?_
  · intro y hy
    have hy : y ∈ [Ty.mk true 0 0 [] 0 [], Ty.mk true 0 0 [] 0 []] := hy
    simp at hy; subst hy; exact wf_all0
  · intro y hy
    have hy : y ∈ ([] : List Ty) := hy
    simp at hy
theorem wf_keep {t : Ty} (g : Int) (h : WfT t) (hf : Fl t) : WfT (keepS t g) := by
  unfold keepS; split
  · split
    · exact h
    · exact wf_keepC g wf_anyT ⟨by decide, by decide⟩
  · exact wf_keepC g h hf
theorem sameT_refl (t : Ty) : sameT t t = true := by
  rw [sameT_eq]; simp [sameTs_refl]
def foldK (j : Int) (fs : List Fct) (t : Ty) : Ty := fs.foldl (fun t x => if x.var = j then keepS t x.tags else t) t
theorem foldK_wf {j : Int} : ∀ (fs : List Fct) {t : Ty}, Fl t → WfT t → WfT (foldK j fs t)
  | [], t, _, w => w
  | x :: fs, t, h, w => by
    show WfT (foldK j fs (if x.var = j then keepS t x.tags else t))
    refine foldK_wf fs ?_ ?_ <;> split
    · exact keep_fl _ h
    · exact h
    · exact wf_keep _ w h
    · exact w
def mapG (fs : List Fct) : Nat → List Ty → List Ty
  | _, [] => []
  | j, t :: ts => foldK j fs t :: mapG fs (j + 1) ts
theorem mapG_len (fs : List Fct) : ∀ (j : Nat) (l : List Ty), (mapG fs j l).length = l.length
  | _, [] => rfl
  | j, t :: ts => by simp [mapG, mapG_len fs (j + 1) ts]
theorem mapG_nil : ∀ (j : Nat) (l : List Ty), mapG [] j l = l
  | _, [] => rfl
  | j, t :: ts => by rw [mapG, mapG_nil (j + 1) ts]; rfl
theorem mapG_cons (x : Fct) (fs : List Fct) : ∀ (j : Nat) (l : List Ty), mapG fs j (mapG [x] j l) = mapG (x :: fs) j l
  | _, [] => rfl
  | j, t :: ts => by
    rw [mapG, mapG, mapG, mapG_cons x fs (j + 1) ts]; rfl
theorem mapG_no (x : Fct) : ∀ (j : Nat) (l : List Ty), (x.var < j ∨ (j : Int) + l.length ≤ x.var) → mapG [x] j l = l
  | _, [], _ => rfl
  | j, t :: ts, h => by
    simp only [List.length_cons] at h
    rw [mapG, mapG_no x (j + 1) ts (by omega)]
    have : foldK j [x] t = t := by
      show (if x.var = (j : Int) then keepS t x.tags else t) = t
      rw [if_neg (by omega)]
    rw [this]
theorem mapG_set (x : Fct) : ∀ (k j : Nat) (l : List Ty) (t : Ty), l[k]? = some t → x.var = (j : Int) + k → mapG [x] j l = l.set k (keepS t x.tags)
  | _, _, [], _, h, _ => by simp at h
  | 0, j, t :: ts, t', h, e => by
    simp at h; subst h
    rw [mapG, mapG_no x (j + 1) ts (by omega)]
    have : foldK j [x] t = keepS t x.tags := by
      show (if x.var = (j : Int) then keepS t x.tags else t) = _
      rw [if_pos (by omega)]
    rw [this]; rfl
  | k + 1, j, t :: ts, t', h, e => by
    have h : ts[k]? = some t' := by simpa using h
    rw [mapG, mapG_set x k (j + 1) ts t' h (by omega)]
    have : foldK j [x] t = t := by
      show (if x.var = (j : Int) then keepS t x.tags else t) = t
      rw [if_neg (by omega)]
    rw [this]; rfl
theorem applyP_l : ∀ (fs : List Fct) (i : Nat) (l : List Ty), g_narrow_Apply_l2 fs i l = some (mapG fs 0 l)
  | [], i, l => by rw [g_narrow_Apply_l2, g_narrow_Apply_j1, mapG_nil]
  | x :: fs, i, l => by
    rw [g_narrow_Apply_l2]
    by_cases h : 0 ≤ x.var ∧ x.var < (l.length : Int)
    · obtain ⟨h0, h1⟩ := h
      obtain ⟨t, ht⟩ : ∃ t, l[x.var.toNat]? = some t := ⟨_, List.getElem?_eq_getElem (by omega)⟩
      have hi : idx l x.var = some t := by unfold idx; rw [if_pos h0, ht]
      simp only [h0, h1, decide_true, Bool.and_self, cond_true, hi, Option.bind_some, keep_p, setL]
      rw [applyP_l fs (i + 1), ← mapG_cons, mapG_set x x.var.toNat 0 l t ht (by omega)]
    · have : (decide (0 ≤ x.var) && decide (x.var < (l.length : Int))) = false := by
        rw [Bool.and_eq_false_iff]
        by_cases h0 : 0 ≤ x.var
        · right; exact decide_eq_false (fun h1 => h ⟨h0, h1⟩)
        · left; exact decide_eq_false h0
      rw [this, cond_false, applyP_l fs (i + 1), ← mapG_cons, mapG_no x 0 l (by
        by_cases h0 : 0 ≤ x.var
        · right; have : ¬ x.var < (l.length : Int) := fun h1 => h ⟨h0, h1⟩
          omega
        · left; omega)]
def zT : Ty := .mk false 0 0 [] 0 []
def outS (env : List Ty) (f : Fts) : List Ty := if f.never then List.replicate env.length zT else mapG f.l 0 env
theorem applyP (env : List Ty) (f : Fts) (h1 : env.length ≤ 8) (h2 : f.l.length ≤ 30) : g_narrow_Apply env f = some (outS env f) := by
  unfold g_narrow_Apply outS g_narrow_Apply_j3
  rw [okLen_of (l := env) (by omega), okLen_of (l := f.l) (by omega)]
  cases f.never with
  | true =>
    have : makL zT ((env.length : Nat) : Int) = some (List.replicate env.length zT) := by unfold makL; rw [if_pos ⟨by omega, by omega⟩]; simp
    simp only [cond_true, if_true, show (Ty.mk false 0 0 [] 0 []) = zT from rfl, this, Option.bind_some]
  | false => simp only [cond_true, cond_false, applyP_l, Bool.false_eq_true, if_false]
def outJ (f : Fts) (j : Nat) (t : Ty) : Ty := if f.never then zT else foldK j f.l t
def mapO (f : Fts) : Nat → List Ty → List Ty
  | _, [] => []
  | j, t :: ts => outJ f j t :: mapO f (j + 1) ts
theorem mapO_eq (f : Fts) : ∀ (j : Nat) (l : List Ty), mapO f j l = if f.never then List.replicate l.length zT else mapG f.l j l
  | _, [] => by cases f.never <;> rfl
  | j, t :: ts => by
    rw [mapO, mapO_eq f (j + 1) ts]
    cases h : f.never <;> simp [outJ, h, mapG, List.replicate_succ]
theorem applyR_j4 (f : Fts) (j : Nat) (K : List Ty → Int → Option (List Ty)) (l : List Ty) (t u : Ty) (ht : l[j]? = some t) (hu : (if f.never then zT else t) = u) (hj : j < 100) : g_r06_Apply_j4 f j K l = K (l.set j u) ((j + 1 : Nat) : Int) := by
  have hlt := (List.getElem?_eq_some_iff.1 ht).1
  unfold g_r06_Apply_j4 g_r06_Apply_j3
  have hw : IntKind.i64.wrap ((j : Int) + 1) = ((j + 1 : Nat) : Int) := by rw [kw_i64_id (by omega) (by omega)]; rfl
  rw [hw]
  cases hn : f.never with
  | true =>
    rw [hn] at hu
    simp only [if_true] at hu
    subst hu
    have hi : idx l ((j : Nat) : Int) = some t := by unfold idx; rw [if_pos (by omega)]; simpa using ht
    simp only [cond_true, hi, Option.bind_some, setL, Int.toNat_natCast]; rfl
  | false =>
    rw [hn] at hu
    simp only [Bool.false_eq_true, if_false] at hu
    subst hu
    have : l.set j t = l := by
      apply List.ext_getElem?
      intro i
      rw [List.getElem?_set]
      split
      · rename_i e; subst e; exact ht.symm
      · rfl
    rw [cond_false, this]
theorem applyR_l5 (f : Fts) (j : Nat) (K : List Ty → Int → Option (List Ty)) (hj : j < 100) : ∀ (fs : List Fct) (i : Nat) (l : List Ty) (t : Ty), l[j]? = some t → Fl t →
    g_r06_Apply_l5 f j K fs i l = K (l.set j (if f.never then zT else foldK j fs t)) ((j + 1 : Nat) : Int)
  | [], i, l, t, ht, hf => by
    rw [g_r06_Apply_l5, applyR_j4 f j K l t _ ht rfl hj]; rfl
  | x :: fs, i, l, t, ht, hf => by
    have hlt := (List.getElem?_eq_some_iff.1 ht).1
    rw [g_r06_Apply_l5]
    by_cases h : x.var = (j : Int)
    · have hi : idx l ((j : Nat) : Int) = some t := by unfold idx; rw [if_pos (by omega)]; simpa using ht
      rw [decide_eq_true h, cond_true]
      simp only [hi, Option.bind_some, keep_r t x.tags hf.1 hf.2, setL, Int.toNat_natCast]
      rw [applyR_l5 f j K hj fs (i + 1) (l.set j (keepS t x.tags)) (keepS t x.tags) (List.getElem?_set_self hlt) (keep_fl _ hf), List.set_set]
      have : foldK j (x :: fs) t = foldK j fs (keepS t x.tags) := by
        show foldK j fs (if x.var = (j : Int) then keepS t x.tags else t) = _
        rw [if_pos h]
      rw [this]
    · rw [decide_eq_false h, cond_false, applyR_l5 f j K hj fs (i + 1) l t ht hf]
      have : foldK j (x :: fs) t = foldK j fs t := by
        show foldK j fs (if x.var = (j : Int) then keepS t x.tags else t) = _
        rw [if_neg h]
      rw [this]
theorem applyR_l2 (f : Fts) (h2 : f.l.length ≤ 30) : ∀ (suf pre : List Ty) (m : Nat), suf.length < m → pre.length + suf.length ≤ 8 → (∀ t, t ∈ suf → Fl t) → g_r06_Apply_l2 f m (pre ++ suf) (pre.length : Nat) = some (pre ++ mapO f pre.length suf)
  | _, _, 0, h, _, _ => by omega
  | [], pre, m + 1, _, _, _ => by
    rw [g_r06_Apply_l2, decide_eq_false (by simp), cond_false]; rfl
  | t :: ts, pre, m + 1, h, hl, hf => by
    simp only [List.length_cons] at h hl
    have hget : (pre ++ t :: ts)[pre.length]? = some t := by rw [List.getElem?_append_right (Nat.le_refl _)]; simp
    rw [g_r06_Apply_l2, decide_eq_true (by simp; omega), cond_true, okLen_of (l := f.l) (by omega), cond_true, applyR_l5 f pre.length (g_r06_Apply_l2 f m) (by omega) f.l 0 _ t hget (hf t (by simp))]
    have hset : (pre ++ t :: ts).set pre.length (if f.never then zT else foldK pre.length f.l t) = (pre ++ [outJ f pre.length t]) ++ ts := by
      rw [List.set_append_right _ _ (Nat.le_refl _)]; simp [outJ]
    rw [hset]
    have ih := applyR_l2 f h2 ts (pre ++ [outJ f pre.length t]) m (by omega) (by simp; omega) (fun y hy => hf y (by simp [hy]))
    simp only [List.length_append, List.length_cons, List.length_nil, Nat.zero_add] at ih
    rw [ih]
    simp [mapO]
theorem applyR (env : List Ty) (f : Fts) (h1 : env.length ≤ 8) (h2 : f.l.length ≤ 30) (hf : ∀ t, t ∈ env → Fl t) : g_r06_Apply 100 env f = some (outS env f) := by
  unfold g_r06_Apply g_r06_Apply_j6
  rw [okLen_of (l := env) (by omega), cond_true]
  have := applyR_l2 f h2 env [] 100 (by omega) (by simpa using h1) hf
  simp only [List.nil_append, List.length_nil] at this
  rw [show ((0 : Nat) : Int) = 0 from rfl] at this
  rw [this, mapO_eq]; rfl
theorem to_l (f : Fts) : ∀ (fs : List Fct) (i : Nat) (acc : List Fct), acc.length + fs.length < 1000 → g_w06_to_l2 f fs i acc = some ⟨f.never, acc ++ fs⟩
  | [], i, acc, _ => by rw [g_w06_to_l2, g_w06_to_j1, List.append_nil]
  | x :: fs, i, acc, h => by
    simp only [List.length_cons] at h
    have : catL acc [x] = some (acc ++ [x]) := by unfold catL; rw [if_pos (by simp; omega)]
    rw [g_w06_to_l2, this, Option.bind_some, to_l f fs (i + 1) (acc ++ [x]) (by simp; omega)]
    simp
theorem to_p (f : Fts) (h : f.l.length ≤ 30) : g_w06_to f = some f := by
  unfold g_w06_to
  rw [okLen_of (l := f.l) (by omega), cond_true, to_l f f.l 0 [] (by simp; omega)]; rfl
theorem orTags : ∀ k : Fin 64, orB .i64 ((k.1 : Nat) : Int) 64 = IntKind.i64.wrap (((k.1 : Nat) : Int) + 64) ∧ orB .i64 ((k.1 : Nat) : Int) 128 = IntKind.i64.wrap (((k.1 : Nat) : Int) + 128) ∧ orB .i64 (orB .i64 ((k.1 : Nat) : Int) 64) 128 = IntKind.i64.wrap (IntKind.i64.wrap (((k.1 : Nat) : Int) + 64) + 128) := by decide
theorem tags_eq (t : Ty) (h : Fl t) : ∃ r, g_narrow_Tags t = some r ∧ g_r06_Tags t = some r := by
  obtain ⟨h0, h1⟩ := h
  have h2 := orTags ⟨t.flat.toNat, by omega⟩
  rw [show (((⟨t.flat.toNat, by omega⟩ : Fin 64).1 : Nat) : Int) = t.flat by simp; omega] at h2
  obtain ⟨e1, e2, e3⟩ := h2
  unfold g_narrow_Tags g_r06_Tags g_narrow_Tags_j1 g_r06_Tags_j1
  by_cases a : t.all = true <;> by_cases p : t.pair = 0 <;> by_cases q : t.fn = 0 <;> simp_all
theorem ntypes_l2 (tags : Int) (r : List Ty) : ∀ (ts : List Ty) (i : Nat), (∀ t, t ∈ ts → Fl t ∧ WfT t) → i + ts.length = r.length → (∀ t, t ∈ r → WfT t) → g_w06_NarrowTypes_l2 tags true r r ts i = some true
  | [], i, _, _, _ => rfl
  | t :: ts, i, h, hl, hr => by
    simp only [List.length_cons] at hl
    obtain ⟨x, hx⟩ : ∃ x, r[i]? = some x := ⟨_, List.getElem?_eq_getElem (by omega)⟩
    have hi : idx r ((i : Nat) : Int) = some x := by unfold idx; rw [if_pos (by omega)]; simpa using hx
    obtain ⟨hf, hw⟩ := h t (by simp)
    obtain ⟨q, t1, t2⟩ := tags_eq t hf
    rw [g_w06_NarrowTypes_l2]
    simp only [hi, Option.bind_some, oSameT, if_pos (hr x (List.mem_of_getElem? hx)), sameT_refl, keep_p, keep_r t tags hf.1 hf.2, if_pos (wf_keep tags hw hf), t1, t2, Bool.not_true, cond_false, decide_true]
    exact ntypes_l2 tags r ts (i + 1) (fun y hy => h y (by simp [hy])) (by omega) hr
theorem wf_zT : WfT zT := WfT.zero
theorem outS_len (env : List Ty) (f : Fts) : (outS env f).length = env.length := by
  unfold outS; split
  · simp
  · exact mapG_len _ _ _
theorem mapG_wf (fs : List Fct) : ∀ (j : Nat) (l : List Ty), (∀ t, t ∈ l → Fl t ∧ WfT t) → ∀ t, t ∈ mapG fs j l → WfT t
  | _, [], _, t, h => by simp [mapG] at h
  | j, x :: xs, hl, t, h => by
    rw [mapG, List.mem_cons] at h
    rcases h with rfl | h
    · exact foldK_wf fs (hl x (by simp)).1 (hl x (by simp)).2
    · exact mapG_wf fs (j + 1) xs (fun y hy => hl y (by simp [hy])) t h
theorem outS_wf (env : List Ty) (f : Fts) (h : ∀ t, t ∈ env → Fl t ∧ WfT t) : ∀ t, t ∈ outS env f → WfT t := by
  unfold outS; split
  · intro t ht; rw [List.eq_of_mem_replicate ht]; exact wf_zT
  · exact mapG_wf _ _ _ h
theorem ntypes_j3 (env : List Ty) (tags : Int) (f : Fts) (h1 : env.length ≤ 8) (h2 : f.l.length ≤ 30) (h : ∀ t, t ∈ env → Fl t ∧ WfT t) : g_w06_NarrowTypes_j3 100 env tags f true = some true := by
  unfold g_w06_NarrowTypes_j3
  simp only [applyP env f h1 h2, to_p f h2, applyR env f h1 h2 (fun t ht => (h t ht).1), Option.bind_some, decide_true, Bool.not_true, cond_false, okLen_of (l := env) (by omega), cond_true]
  exact ntypes_l2 tags _ env 0 h (by rw [outS_len]; omega) (outS_wf env f h)
theorem ntypes_l4 (env : List Ty) (tags : Int) (f : Fts) (h1 : env.length ≤ 8) (h2 : f.l.length ≤ 30) (hw : ∀ t, t ∈ env → WfT t) : ∀ (ts pre : List Ty) (i : Nat), env = pre ++ ts → (∀ t, t ∈ pre → Fl t) → g_w06_NarrowTypes_l4 100 env tags f true ts i = some true
  | [], pre, i, e, hp => by
    rw [g_w06_NarrowTypes_l4]
    exact ntypes_j3 env tags f h1 h2 fun t ht => ⟨hp t (by rw [e] at ht; simpa using ht), hw t ht⟩
  | t :: ts, pre, i, e, hp => by
    have wt : WfT t := hw t (by rw [e]; simp)
    rw [g_w06_NarrowTypes_l4]
    simp only [oLightT, if_pos wt, Option.bind_some, oRightT]
    cases hl : decide (rsz t 60 < 120) with
    | false => rfl
    | true =>
    cases hr : (decide (rsz t 60 ≤ 300) && rightT t 20) with
    | false => rfl
    | true =>
    simp only [Bool.not_true, cond_false, Option.bind_some]
    refine ntypes_l4 env tags f h1 h2 hw ts (pre ++ [t]) (i + 1) (by simp [e]) ?_
    intro y hy
    rcases List.mem_append.1 hy with hy | hy
    · exact hp y hy
    · simp at hy; subst hy
      simp only [Bool.and_eq_true] at hr
      have h2 := hr.2
      rw [rightT_succ] at h2
      simp only [Bool.and_eq_true] at h2
      have := (okT_facts h2.1.1).1
      exact ⟨this.1, this.2⟩
theorem ntypesG (env : List Ty) (tags : Int) (f : Fts) (hw : ∀ t, t ∈ env → WfT t) : g_w06_NarrowTypes 100 env tags f = some true := by
  unfold g_w06_NarrowTypes
  simp only [oAwake, Option.bind_some]
  cases hc : (decide (8 < ((env.length : Nat) : Int)) || decide (30 < ((f.l.length : Nat) : Int))) with
  | true => rfl
  | false =>
    simp only [Bool.or_eq_false_iff, decide_eq_false_iff_not] at hc
    rw [cond_false, okLen_of (l := env) (by omega), cond_true]
    exact ntypes_l4 env tags f (by omega) (by omega) hw env [] 0 rfl (by simp)
theorem ntypes (env : List Ty) (tags : Int) (f : Fts) (hw : ∀ t, t ∈ env → WfT t) : ∃ n, pcall (tabOf tabL) n 4 [.lst (env.map encT) false, .int .i64 tags, vFts f] = some (.ok (.bool true)) :=
  (g_w06_NarrowTypes_ok (ntypesG env tags f hw)).get
end Go.Ev.Seat
namespace Go.Ev
set_option linter.unusedVariables false
set_option linter.unusedSimpArgs false
open Go
def HasT (P : Program) : Nat → TypeId → List AVal → Prop
  | 0, _, _ => False
  | n + 1, t, as => match P.underlying t with
    | some .bool => ∃ b, as = [.bool b]
    | some (.int k) => ∃ i, (Lit.int k i).wf = true ∧ as = [.int k i]
    | some .string => ∃ s : List UInt8, s.length ≤ maxLen ∧ as = [.str s]
    | some (.slice e) => ∃ xs : List AVal, xs.length ≤ maxLen ∧ as = [.lst xs false] ∧ ∀ x, x ∈ xs → HasT P n e x.flat ∧ (aggB P e = some true → ∃ cs, x = .agg cs) ∧ (aggB P e = some false → x.flat = [x])
    | some (.struct fs) => ∃ parts : List (List AVal), parts.length = fs.size ∧ as = parts.flatten ∧ ∀ (i : Nat) (f : Field) (p : List AVal), fs[i]? = some f → parts[i]? = some p → HasT P n f.type p
    | some (.array m e) => ∃ parts : List (List AVal), parts.length = m ∧ as = parts.flatten ∧ ∀ p, p ∈ parts → HasT P n e p
    | some (.pointer e) => as = [.nilp] ∨ ∃ cs, as = [.ro cs] ∧ HasT P n e cs
    | _ => False
def contig (P : Program) : Nat → List Field → Nat → Bool
  | off, [], tot => Nat.beq off tot
  | off, f :: fs, tot => Nat.beq f.offset off && contig P (off + P.cellsOf f.type) fs tot
def plainT (P : Program) (ts : List TypeId) (t : TypeId) : Bool :=
  match P.underlying t with
  | some .bool => true
  | some (.int _) => true
  | some .string => true
  | some (.slice e) => ts.contains e && Nat.ble 1 (P.cellsOf e)
  | some (.struct fs) => contig P 0 fs.toList (P.cellsOf t) && fs.toList.all fun f => ts.contains f.type
  | some (.array m e) => ts.contains e && Nat.beq (P.cellsOf t) (m * P.cellsOf e)
  | some (.pointer e) => ts.contains e && Nat.ble 1 (P.cellsOf e)
  | _ => false
def plainTs (P : Program) (ts : List TypeId) : Bool := ts.all (plainT P ts)
theorem build {α : Type} {Pr : Nat → α → Prop} : ∀ (n : Nat), (∀ i, i < n → ∃ y, Pr i y) → ∃ l : List α, l.length = n ∧ ∀ (i : Nat) (y : α), l[i]? = some y → Pr i y
  | 0, _ => ⟨[], rfl, by simp⟩
  | n + 1, h => by
    obtain ⟨l, h1, h2⟩ := build n (fun i hi => h i (by omega))
    obtain ⟨y, hy⟩ := h n (by omega)
    refine ⟨l ++ [y], by simp [h1], ?_⟩
    intro i z hz
    by_cases hi : i < l.length
    · rw [List.getElem?_append_left hi] at hz; exact h2 i z hz
    · rw [List.getElem?_append_right (by omega)] at hz
      have : i = n := by
        have := (List.getElem?_eq_some_iff.1 hz).1
        simp at this; omega
      subst this
      simp [h1] at hz; subst hz; exact hy
def scal : AVal → Bool
  | .agg _ => false
  | .tup _ => false
  | _ => true
def Flat1 (c : AVal) : Prop := rfree c ∧ scal c = true
theorem Flat1.flat {c : AVal} (h : Flat1 c) : c.flat = [c] := by
  have := h.2
  cases c <;> simp [scal] at this <;> rfl
theorem Flat1.one {Γ : Gh} {c : AVal} {d : Value} (h : Flat1 c) (hr : Rep Γ c d) : d.oneCell' = true := by
  have := h.2
  cases hr <;> first | rfl | (simp [scal] at this; done)
section
variable {H : Type} {enc : TypeId × Value → H} {P : Program} {w : World}
theorem reps_flatten_parts {Γ : Gh} : ∀ {parts : List (List AVal)} {cparts : List (List Value)}, parts.length = cparts.length → (∀ (i : Nat) (p : List AVal) (c : List Value), parts[i]? = some p → cparts[i]? = some c → Reps Γ p c) → Reps Γ parts.flatten cparts.flatten
  | [], [], _, _ => Reps.nil Γ
  | p :: ps, c :: cs, hl, h => by
    simp only [List.flatten_cons]
    exact (h 0 p c rfl rfl).append (reps_flatten_parts (by simpa using hl) fun i p c h1 h2 => h (i + 1) p c (by simpa using h1) (by simpa using h2))
  | [], _ :: _, hl, _ => by simp at hl
  | _ :: _, [], hl, _ => by simp at hl
theorem contig_parts : ∀ {fs : List Field} {off tot : Nat} {cs : List Value}, contig P off fs tot = true → cs.length = tot → (fs.map fun f => (cs.drop f.offset).take (P.cellsOf f.type)).flatten = cs.drop off
  | [], off, tot, cs, h, hl => by
    have := Nat.eq_of_beq_eq_true (by simpa [contig] using h)
    simp; omega
  | f :: fs, off, tot, cs, h, hl => by
    simp only [contig, Bool.and_eq_true] at h
    have h1 := Nat.eq_of_beq_eq_true h.1
    simp only [List.map_cons, List.flatten_cons]
    rw [contig_parts h.2 hl, h1, ← List.drop_drop, List.take_append_drop]
theorem array_parts {z : Nat} : ∀ {m : Nat} {cs : List Value}, cs.length = m * z → ((List.range m).map fun i => (cs.drop (i * z)).take z).flatten = cs
  | 0, cs, hl => by
    have : cs = [] := List.length_eq_zero_iff.1 (by omega)
    simp [this]
  | m + 1, cs, hl => by
    rw [List.range_succ_eq_map, List.map_cons, List.flatten_cons, List.map_map]
    have h := array_parts (z := z) (m := m) (cs := cs.drop z) (by simp [hl, Nat.add_mul])
    have e : ((fun i => (cs.drop (i * z)).take z) ∘ Nat.succ) = fun i => ((cs.drop z).drop (i * z)).take z := by
      funext i
      simp only [Function.comp, List.drop_drop, Nat.succ_eq_add_one, Nat.add_mul, Nat.one_mul]
      rw [Nat.add_comm]
    rw [e, h]
    simp
def mkEl (b : Option Bool) (p : List AVal) : AVal := match b with
  | some false => p.headD .nilp
  | _ => .agg p
theorem mkEl_rfree {b : Option Bool} {p : List AVal} (h : ∀ c, c ∈ p → rfree c) : rfree (mkEl b p) := by
  unfold mkEl
  split
  · cases p with
    | nil => rfl
    | cons c cs => exact h c (by simp)
  · exact lowL_iff.2 h
theorem HasT_single {ts : List TypeId} (hp : plainTs P ts = true) {n : Nat} {e : TypeId} {p : List AVal} (he : e ∈ ts) (ha : aggB P e = some false) (h : HasT P n e p) : ∃ c, p = [c] := by
  cases n with
  | zero => cases h
  | succ n =>
    unfold aggB at ha
    unfold HasT at h
    cases hu : P.underlying e with
    | none => rw [hu] at h; cases h
    | some u =>
      rw [hu] at h ha
      cases u <;> simp only [reduceCtorEq] at h ha <;> first | (cases ha; done) | (cases h; done) | skip
      · obtain ⟨b, rfl⟩ := h; exact ⟨_, rfl⟩
      · obtain ⟨i, _, rfl⟩ := h; exact ⟨_, rfl⟩
      · obtain ⟨b, _, rfl⟩ := h; exact ⟨_, rfl⟩
      · rcases h with rfl | ⟨cs, rfl, _⟩ <;> exact ⟨_, rfl⟩
      · obtain ⟨xs, _, rfl, _⟩ := h; exact ⟨_, rfl⟩
theorem mkEl_flat {ts : List TypeId} (hp : plainTs P ts = true) {n : Nat} {e : TypeId} {p : List AVal} (he : e ∈ ts) (h : HasT P n e p) (hf : ∀ c, c ∈ p → Flat1 c) : (mkEl (aggB P e) p).flat = p := by
  unfold mkEl
  split
  · rename_i ha
    obtain ⟨c, rfl⟩ := HasT_single hp he ha h
    exact (hf c (by simp)).flat
  · rfl
theorem flatL_mkEl {b : Option Bool} : ∀ {parts : List (List AVal)}, (∀ p, p ∈ parts → (mkEl b p).flat = p) → flatL (parts.map (mkEl b)) = parts.flatten
  | [], _ => rfl
  | p :: ps, h => by
    simp only [List.map_cons, flatL, List.flatten_cons, h p (by simp)]
    rw [flatL_mkEl fun q hq => h q (by simp [hq])]
theorem flatten_get {α : Type} {z : Nat} (hz : 0 < z) : ∀ {parts : List (List α)} {j : Nat} {c : α}, (∀ p, p ∈ parts → p.length = z) → parts.flatten[j]? = some c → ∃ p, parts[j / z]? = some p ∧ p[j % z]? = some c
  | [], j, c, _, h => by simp at h
  | p :: ps, j, c, hl, h => by
    have hp := hl p (by simp)
    rw [List.flatten_cons] at h
    by_cases hj : j < z
    · rw [List.getElem?_append_left (by omega)] at h
      rw [Nat.div_eq_of_lt hj, Nat.mod_eq_of_lt hj]
      exact ⟨p, rfl, h⟩
    · rw [List.getElem?_append_right (by omega), hp] at h
      obtain ⟨q, h1, h2⟩ := flatten_get hz (fun q hq => hl q (by simp [hq])) h
      have e1 : j / z = (j - z) / z + 1 := by
        rw [← Nat.add_div_right _ hz]; congr 1; omega
      have e2 : j % z = (j - z) % z := by
        rw [Nat.mod_eq_sub_mod (by omega)]
      exact ⟨q, by rw [e1]; exact h1, by rw [e2]; exact h2⟩
theorem trod_has {ts : List TypeId} (hp : plainTs P ts = true) : ∀ (n : Nat) (t : TypeId) (cs : List Value) (x : DataW H × List MemPlace), t ∈ ts → DataW.trod enc P w 0 (fun _ => true) true n t cs = some x →
    ∃ as : List AVal, Reps (Gh.all w) as cs ∧ HasT P n t as ∧ ∀ c, c ∈ as → Flat1 c := by
  intro n
  induction n with
  | zero => intro t cs x _ h; simp [DataW.trod] at h
  | succ n ih =>
    intro t cs x ht h
    have hpt := List.all_eq_true.1 hp t ht
    unfold plainT at hpt
    have hT : ∀ as, HasT P (n + 1) t as = HasT P (n + 1) t as := fun _ => rfl
    have single : ∀ (a : AVal) (v : Value), cs = [v] → Rep (Gh.all w) a v → Flat1 a → ∀ Q : List AVal → Prop, Q [a] → ∃ as : List AVal, Reps (Gh.all w) as cs ∧ Q as ∧ ∀ c, c ∈ as → Flat1 c := by
      rintro a v rfl hr hf Q hQ
      exact ⟨[a], Reps.cons hr (Reps.nil _), hQ, by simpa using hf⟩
    split at hpt
    · rename_i hu
      obtain ⟨b, hc, _⟩ := DataW.trod_bool hu h
      simp only [HasT, hu]
      exact single (.bool b) _ hc (.bool b) ⟨rfl, rfl⟩ _ ⟨b, rfl⟩
    · rename_i k hu
      obtain ⟨i, hc, _, hw⟩ := DataW.trod_int hu h
      simp only [HasT, hu]
      exact single (.int k i) _ hc (.int k i) ⟨rfl, rfl⟩ _ ⟨i, hw, rfl⟩
    · rename_i hu
      obtain ⟨s, hc, _, hl⟩ := DataW.trod_string hu h
      simp only [HasT, hu]
      refine single (.str s.data.toList) _ hc ?_ ⟨rfl, rfl⟩ _ ⟨s.data.toList, by rw [Array.length_toList]; exact hl, rfl⟩
      have := Rep.str (Γ := Gh.all w) s.data.toList
      simpa using this
    · rename_i e hu
      simp only [Bool.and_eq_true] at hpt
      have hz : 1 ≤ P.cellsOf e := Nat.le_of_ble_eq_true hpt.2
      have he : e ∈ ts := by simpa using hpt.1
      simp only [HasT, hu]
      rcases DataW.trod_slice hu h with ⟨hc, _⟩ | ⟨a, len, cap, elems, rest, m, hm, hc, _, _, hlc, hmax, hel, hget, _, _⟩
      · exact single (.lst [] false) _ hc (.lstN false) ⟨rfl, rfl⟩ _ ⟨[], by simp, rfl, by simp⟩
      · cases hm
        have each : ∀ i, i < len → ∃ p : List AVal, ∃ ds : List Value, p.length = P.cellsOf e ∧ Reps (Gh.all w) p ds ∧ HasT P n e p ∧ (∀ c, c ∈ p → Flat1 c) ∧ ∀ j, j < P.cellsOf e → w.cell? ((a.add (i * P.cellsOf e)).add j) = ds[j]? := by
          intro i hi
          have h1 := hget i hi
          have hx : elems[i]? = some elems[i] := List.getElem?_eq_getElem (by omega)
          rw [hx] at h1
          obtain ⟨cs', hc1, hc2⟩ := Option.bind_eq_some_iff.1 h1
          obtain ⟨p, h2, h3, h4⟩ := ih e cs' elems[i] he hc2
          obtain ⟨_, hl, hcell⟩ := World.cells?_some hc1
          exact ⟨p, cs', by rw [← h2.1, hl], h2, h3, h4, hcell⟩
        obtain ⟨parts, hpl, hpe⟩ := build len each
        rcases Nat.eq_zero_or_pos len with hl0 | hpos
        · subst hl0
          exact single (.lst [] false) _ hc (.lstE (by simp)) ⟨rfl, rfl⟩ _ ⟨[], by simp, rfl, by simp⟩
        · obtain ⟨blk, off, spot⟩ := a
          have hspot : spot = none := by
            obtain ⟨p, ds, q1, q2, _, _, q3⟩ := each 0 hpos
            have h0 := q3 0 hz
            rw [Nat.zero_mul, Addr.add_zero', Addr.add_zero'] at h0
            cases hx : ds[0]? with
            | none => have := (List.getElem?_eq_none_iff.1 hx); have := q2.1; omega
            | some v => rw [hx] at h0; exact World.cell?_spot h0
          subst hspot
          refine single (.lst (parts.map (mkEl (aggB P e))) false) _ hc ?_ ⟨?_, rfl⟩ _ ⟨parts.map (mkEl (aggB P e)), by simpa [hpl] using Nat.le_trans hlc hmax, rfl, ?_⟩
          · have hfl : ∀ p, p ∈ parts → (mkEl (aggB P e) p).flat = p := by
              intro p hp1
              obtain ⟨i, hi⟩ := List.getElem?_of_mem hp1
              obtain ⟨ds, q1, q2, q3, q4, q5⟩ := hpe i p hi
              exact mkEl_flat hp he q3 q4
            have hlens : ∀ p, p ∈ parts → p.length = P.cellsOf e := by
              intro p hp1
              obtain ⟨i, hi⟩ := List.getElem?_of_mem hp1
              obtain ⟨ds, q1, _⟩ := hpe i p hi
              exact q1
            have hall : ∀ (j : Nat) (c : AVal), parts.flatten[j]? = some c → ∃ d, w.cell? ⟨blk, off + j, none⟩ = some d ∧ Rep (Gh.all w) c d ∧ Flat1 c := by
              intro j c hj
              obtain ⟨p, hp1, hp2⟩ := flatten_get hz hlens hj
              obtain ⟨ds, q1, q2, q3, q4, q5⟩ := hpe _ p hp1
              obtain ⟨d, hd, hr⟩ := q2.get hp2
              refine ⟨d, ?_, hr, q4 c (List.mem_of_getElem? hp2)⟩
              have h6 := q5 (j % P.cellsOf e) (Nat.mod_lt _ hz)
              rw [Addr.add_lit, Addr.add_lit] at h6
              rw [← hd, ← h6]
              congr 2
              rw [Nat.add_assoc, Nat.mul_comm, Nat.div_add_mod]
            have hflat : flatL (parts.map (mkEl (aggB P e))) = parts.flatten := flatL_mkEl hfl
            have hlen2 : (parts.map (mkEl (aggB P e))).length = len := by simp [hpl]
            have key := Rep.lst (Γ := Gh.all w) (xs := parts.map (mkEl (aggB P e))) (e := false) (g := blk) (off := off) (cap := cap) (es := P.cellsOf e) (fun j => (w.cell? ⟨blk, off + j, none⟩).getD undef) (by omega) (by simp) ?_ ?_ ?_ ?_ ?_
            · rw [hlen2] at key; exact key
            · intro x hx
              obtain ⟨p, hp1, rfl⟩ := List.mem_map.1 hx
              simp only [AVal.width, hfl p hp1, hlens p hp1]
            · intro x hx
              obtain ⟨p, hp1, rfl⟩ := List.mem_map.1 hx
              obtain ⟨i, hi⟩ := List.getElem?_of_mem hp1
              obtain ⟨ds, q1, q2, q3, q4, q5⟩ := hpe i p hi
              exact mkEl_rfree (fun c hc => (q4 c hc).1)
            · intro j c hj
              rw [hflat] at hj
              obtain ⟨d, h1, h2, h3⟩ := hall j c hj
              simp only [Gh.all, h1, Option.getD_some]
            · intro j c hj
              rw [hflat] at hj
              obtain ⟨d, h1, h2, h3⟩ := hall j c hj
              simp only [h1, Option.getD_some]
              exact h3.one h2
            · intro j c hj
              rw [hflat] at hj
              obtain ⟨d, h1, h2, h3⟩ := hall j c hj
              simp only [h1, Option.getD_some]
              exact h2
          · rfl
          · intro x hx
            obtain ⟨p, hp1, rfl⟩ := List.mem_map.1 hx
            obtain ⟨i, hi⟩ := List.getElem?_of_mem hp1
            obtain ⟨ds, q1, q2, q3, q4, q5⟩ := hpe i p hi
            have hf := mkEl_flat hp he q3 q4
            refine ⟨by rw [hf]; exact q3, ?_, ?_⟩
            · intro h; exact ⟨p, by rw [h]; rfl⟩
            · intro h
              rw [hf]
              obtain ⟨c, hc1⟩ := HasT_single hp he h q3
              rw [hc1, h]; rfl
    · rename_i fs hu
      simp only [Bool.and_eq_true] at hpt
      simp only [HasT, hu]
      obtain ⟨xs, m, hm, _, hlen, hxl, hget⟩ := DataW.trod_struct hu h
      cases hm
      have each : ∀ i, i < fs.size → ∃ p : List AVal, ∀ f, fs[i]? = some f → Reps (Gh.all w) p ((cs.drop f.offset).take (P.cellsOf f.type)) ∧ HasT P n f.type p ∧ ∀ c, c ∈ p → Flat1 c := by
        intro i hi
        have hfi : fs[i]? = some fs[i] := Array.getElem?_eq_getElem hi
        have hx : xs[i]? = some xs[i] := List.getElem?_eq_getElem (by omega)
        have hmem : fs[i].type ∈ ts := by
          have := List.all_eq_true.1 hpt.2 fs[i] (by simp)
          simpa using this
        obtain ⟨p, h1, h2, h3⟩ := ih fs[i].type _ xs[i] hmem (by rw [hget i _ hfi, hx])
        exact ⟨p, fun f hf => by rw [hfi] at hf; cases hf; exact ⟨h1, h2, h3⟩⟩
      obtain ⟨parts, hpl, hpe⟩ := build fs.size each
      refine ⟨parts.flatten, ?_, ⟨parts, hpl, rfl, fun i f p hf hp => ((hpe i p hp) f hf).2.1⟩, ?_⟩
      · have := contig_parts (cs := cs) hpt.1 hlen
        rw [List.drop_zero] at this
        rw [← this]
        refine reps_flatten_parts (by simp [hpl]) ?_
        intro i p c h1 h2
        rw [List.getElem?_map, Option.map_eq_some_iff] at h2
        obtain ⟨f, hf, rfl⟩ := h2
        exact ((hpe i p h1) f (by simpa using hf)).1
      · intro c hc
        obtain ⟨p, hp1, hp2⟩ := List.mem_flatten.1 hc
        obtain ⟨i, hi⟩ := List.getElem?_of_mem hp1
        have hlt : i < fs.size := by rw [← hpl]; exact (List.getElem?_eq_some_iff.1 hi).1
        exact ((hpe i p hi) fs[i] (Array.getElem?_eq_getElem hlt)).2.2 c hp2
    · rename_i m e hu
      simp only [Bool.and_eq_true] at hpt
      simp only [HasT, hu]
      have he : e ∈ ts := by simpa using hpt.1
      have hsz := Nat.eq_of_beq_eq_true hpt.2
      obtain ⟨xs, k, hm, _, hlen, hxl, hget⟩ := DataW.trod_array hu h
      cases hm
      have each : ∀ i, i < m → ∃ p : List AVal, Reps (Gh.all w) p ((cs.drop (i * P.cellsOf e)).take (P.cellsOf e)) ∧ HasT P n e p ∧ ∀ c, c ∈ p → Flat1 c := by
        intro i hi
        have hx : xs[i]? = some xs[i] := List.getElem?_eq_getElem (by omega)
        exact ih e _ xs[i] he (by rw [hget i hi, hx])
      obtain ⟨parts, hpl, hpe⟩ := build m each
      refine ⟨parts.flatten, ?_, ⟨parts, hpl, rfl, ?_⟩, ?_⟩
      · have := array_parts (z := P.cellsOf e) (m := m) (cs := cs) (by omega)
        rw [← this]
        refine reps_flatten_parts (by simp [hpl]) ?_
        intro i p c h1 h2
        rw [List.getElem?_map, Option.map_eq_some_iff] at h2
        obtain ⟨j, hj, rfl⟩ := h2
        have hji : j = i := by
          have := List.getElem?_eq_some_iff.1 hj
          obtain ⟨hj1, hj2⟩ := this
          simp at hj2; omega
        subst hji
        exact (hpe j p h1).1
      · intro p hp1
        obtain ⟨i, hi⟩ := List.getElem?_of_mem hp1
        exact (hpe i p hi).2.1
      · intro c hc
        obtain ⟨p, hp1, hp2⟩ := List.mem_flatten.1 hc
        obtain ⟨i, hi⟩ := List.getElem?_of_mem hp1
        exact (hpe i p hi).2.2 c hp2
    · rename_i e hu
      simp only [Bool.and_eq_true] at hpt
      simp only [HasT, hu]
      have hz : 1 ≤ P.cellsOf e := Nat.le_of_ble_eq_true hpt.2
      have he : e ∈ ts := by simpa using hpt.1
      rcases DataW.trod_pointer hu h with ⟨hc, _⟩ | ⟨a, cs', y, m, hm, hc, _, hcells, hy⟩
      · exact single .nilp _ hc .nilp ⟨rfl, rfl⟩ _ (.inl rfl)
      · cases hm
        obtain ⟨p, h1, h2, h3⟩ := ih e cs' y he hy
        obtain ⟨hb, hl, hcell⟩ := World.cells?_some hcells
        have hspot : a.spot = none := by
          have h0 := hcell 0 (by omega)
          rw [Addr.add_zero'] at h0
          cases hx : cs'[0]? with
          | none => have := (List.getElem?_eq_none_iff.1 hx); omega
          | some v => rw [hx] at h0; exact World.cell?_spot h0
        obtain ⟨blk, off, spot⟩ := a
        simp only at hspot
        subst hspot
        refine single (.ro p) _ hc ?_ ⟨rfl, rfl⟩ _ (.inr ⟨p, rfl, h2⟩)
        have hd : ∀ (j : Nat) (c : AVal), p[j]? = some c → ∃ d, cs'[j]? = some d ∧ Rep (Gh.all w) c d ∧ w.cell? ⟨blk, off + j, none⟩ = some d := by
          intro j c hj
          obtain ⟨d, hd, hr⟩ := h1.get hj
          have hlt := (List.getElem?_eq_some_iff.1 hd).1
          refine ⟨d, hd, hr, ?_⟩
          have := hcell j (by omega)
          rw [Addr.add_lit] at this
          rw [this]; exact hd
        refine .ro (fun j => cs'.getD j undef) (fun c hc => (h3 c hc).1) ?_ ?_ ?_
        · intro j c hj
          obtain ⟨d, hd1, hr, hd2⟩ := hd j c hj
          simp only [Gh.all, hd2, List.getD, hd1, Option.getD_some]
        · intro j c hj
          obtain ⟨d, hd1, hr, hd2⟩ := hd j c hj
          simp only [List.getD, hd1, Option.getD_some]
          exact (h3 c (List.mem_of_getElem? hj)).one hr
        · intro j c hj
          obtain ⟨d, hd1, hr, hd2⟩ := hd j c hj
          simp only [List.getD, hd1, Option.getD_some]
          exact hr
    · cases hpt
end
section
variable {H : Type} {enc : TypeId × Value → H} {P : Program} {w : World}
theorem plain_cell {ts : List TypeId} (hp : plainTs P ts = true) {t : TypeId} {v : Value} {base : Nat} (ht : t ∈ ts) (ha : aggB P t = some false) (hok : Value.okWide P w .any base t v) : v.cells.toList = [v] := by
  have hpt := List.all_eq_true.1 hp t ht
  cases v <;> first | rfl | skip
  exfalso
  unfold aggB at ha
  unfold plainT at hpt
  unfold Value.okWide Cell.okWide Cell.ok at hok
  cases hu : P.underlying t with
  | none => rw [hu] at ha; cases ha
  | some u => rw [hu] at ha hpt hok; cases u <;> simp_all
theorem arg_has {ts : List TypeId} (hp : plainTs P ts = true) {t : TypeId} {v : Value} {d : DataW H} {ps : List MemPlace} {base : Nat} (ht : t ∈ ts) (hok : Value.okWide P w .any base t v)
    (h : DataW.Trod enc P w 0 (fun _ => true) true t v d ps) : ∃ (n : Nat) (as : List AVal), HasT P n t as ∧ (aggB P t = some true → Rep (Gh.all w) (.agg as) v) ∧ (aggB P t = some false → ∃ c, as = [c] ∧ Rep (Gh.all w) c v) := by
  obtain ⟨n, hf⟩ := h
  obtain ⟨as, h1, h2, h3⟩ := trod_has hp n t _ _ ht hf
  refine ⟨n, as, h2, ?_, ?_⟩
  · intro ha
    have hv : ∃ cs, v = .agg cs := by
      unfold Value.okWide at hok
      unfold aggB at ha
      cases hu : P.underlying t with
      | none => rw [hu] at ha; cases ha
      | some u =>
        rw [hu] at ha hok
        cases u <;> simp only [reduceCtorEq, Option.some.injEq, Bool.false_eq_true] at ha
        · obtain ⟨cs, hcs, _⟩ := hok; exact ⟨cs, hcs⟩
        · obtain ⟨cs, hcs, _⟩ := hok; exact ⟨cs, hcs⟩
    obtain ⟨cs, rfl⟩ := hv
    have e : (Value.agg cs).cells.toList = cs.toList := rfl
    rw [e] at h1
    have := Rep.agg (Γ := Gh.all w) h1.1 h1.2 (fun d hd => by
      obtain ⟨i, hi⟩ := List.getElem?_of_mem hd
      have hlt : i < as.length := by rw [← h1.1]; exact (List.getElem?_eq_some_iff.1 hi).1
      have ha' := List.getElem?_eq_getElem hlt
      exact (h3 _ (List.mem_of_getElem? ha')).one (h1.2 i _ _ ha' hi))
    simpa using this
  · intro ha
    have hc := plain_cell hp ht ha hok
    rw [hc] at h1
    obtain ⟨c, rfl⟩ := HasT_single hp ht ha h2
    exact ⟨c, rfl, h1.2 0 c v rfl rfl⟩
end
end Go.Ev
namespace Go.Ev
set_option linter.unusedVariables false
set_option linter.unusedSimpArgs false
open Go
theorem dec_list {α : Type} {enc : α → AVal} {Q : α → Prop} : ∀ {xs : List AVal}, (∀ x, x ∈ xs → ∃ y, x = enc y ∧ Q y) → ∃ ys : List α, xs = ys.map enc ∧ ∀ y, y ∈ ys → Q y
  | [], _ => ⟨[], rfl, by simp⟩
  | x :: xs, h => by
    obtain ⟨y, rfl, hy⟩ := h x (by simp)
    obtain ⟨ys, rfl, hys⟩ := dec_list (xs := xs) (fun z hz => h z (List.mem_cons_of_mem _ hz))
    exact ⟨y :: ys, rfl, by simpa using ⟨hy, hys⟩⟩
structure TyP (P : Program) (t s b i : TypeId) : Prop where
  fs : ∃ fs : Array Field, P.underlying t = some (.struct fs) ∧ fs.toList.map (·.type) = [b, i, i, s, i, s]
  sl : P.underlying s = some (.slice t)
  bo : P.underlying b = some .bool
  int : P.underlying i = some (.int .i64)
theorem HasT.bool_of {P : Program} {n : Nat} {t : TypeId} {as : List AVal} (hu : P.underlying t = some .bool) (h : HasT P n t as) : ∃ b, as = [.bool b] := by
  cases n with
  | zero => cases h
  | succ n => unfold HasT at h; rw [hu] at h; exact h
theorem HasT.int_of {P : Program} {n : Nat} {t : TypeId} {k : IntKind} {as : List AVal} (hu : P.underlying t = some (.int k)) (h : HasT P n t as) : ∃ i, (Lit.int k i).wf = true ∧ as = [.int k i] := by
  cases n with
  | zero => cases h
  | succ n => unfold HasT at h; rw [hu] at h; exact h
theorem HasT.slice_of {P : Program} {n : Nat} {t e : TypeId} {as : List AVal} (hu : P.underlying t = some (.slice e)) (h : HasT P (n + 1) t as) :
    ∃ xs : List AVal, xs.length ≤ maxLen ∧ as = [.lst xs false] ∧ ∀ x, x ∈ xs → HasT P n e x.flat ∧ (aggB P e = some true → ∃ cs, x = .agg cs) ∧ (aggB P e = some false → x.flat = [x]) := by
  unfold HasT at h; rw [hu] at h; exact h
theorem HasT.struct_of {P : Program} {n : Nat} {t : TypeId} {fs : Array Field} {l : List TypeId} {as : List AVal} (hu : P.underlying t = some (.struct fs)) (hl : fs.toList.map (·.type) = l) (h : HasT P (n + 1) t as) :
    ∃ parts : List (List AVal), parts.length = l.length ∧ as = parts.flatten ∧ ∀ (i : Nat) (u : TypeId) (p : List AVal), l[i]? = some u → parts[i]? = some p → HasT P n u p := by
  unfold HasT at h; rw [hu] at h
  obtain ⟨parts, h1, h2, h3⟩ := h
  refine ⟨parts, by rw [h1, ← hl]; simp, h2, ?_⟩
  intro i u p hu hp
  rw [← hl, List.getElem?_map, Option.map_eq_some_iff] at hu
  obtain ⟨f, hf, rfl⟩ := hu
  exact h3 i f p (by simpa using hf) hp
theorem i64_wf {i : Int} (h : (Lit.int .i64 i).wf = true) : -9223372036854775808 ≤ i ∧ i < 9223372036854775808 := by
  simp only [Lit.wf, Bool.and_eq_true, IntKind.min, IntKind.max, IntKind.signed, IntKind.bits] at h
  simp at h
  exact ⟨by omega, by omega⟩
theorem ty_dec {P : Program} {t s b i : TypeId} (hP : TyP P t s b i) : ∀ (n : Nat) (as : List AVal), HasT P n t as → ∃ x : Ty, as = cT x ∧ WfT x := by
  obtain ⟨fs, hu, hl⟩ := hP.fs
  have hagg : aggB P t = some true := by unfold aggB; rw [hu]
  intro n
  induction n using Nat.strongRecOn with
  | ind n ih =>
    intro as h
    cases n with
    | zero => cases h
    | succ n =>
      obtain ⟨parts, h1, rfl, h3⟩ := HasT.struct_of hu hl h
      obtain ⟨p0, p1, p2, p3, p4, p5, rfl⟩ := len6 h1
      obtain ⟨v0, rfl⟩ := HasT.bool_of hP.bo (h3 0 b p0 rfl rfl)
      obtain ⟨v1, w1, rfl⟩ := HasT.int_of hP.int (h3 1 i p1 rfl rfl)
      obtain ⟨v2, w2, rfl⟩ := HasT.int_of hP.int (h3 2 i p2 rfl rfl)
      obtain ⟨v4, w4, rfl⟩ := HasT.int_of hP.int (h3 4 i p4 rfl rfl)
      have hs3 := h3 3 s p3 rfl rfl
      have hs5 := h3 5 s p5 rfl rfl
      cases n with
      | zero => cases hs3
      | succ n =>
        have list : ∀ p, HasT P (n + 1) s p → ∃ ys : List Ty, p = [.lst (ys.map encT) false] ∧ ys.length < 9223372036854775808 ∧ ∀ y, y ∈ ys → WfT y := by
          intro p hp
          obtain ⟨xs, k1, rfl, k3⟩ := HasT.slice_of hP.sl hp
          obtain ⟨ys, rfl, hys⟩ := dec_list (enc := encT) (Q := WfT) (xs := xs) (by
            intro x hx
            obtain ⟨q1, q2, _⟩ := k3 x hx
            obtain ⟨cs, rfl⟩ := q2 hagg
            obtain ⟨y, hy, hw⟩ := ih n (by omega) _ q1
            refine ⟨y, ?_, hw⟩
            rw [encT_eq]
            have : cs = cT y := hy
            rw [this])
          refine ⟨ys, rfl, ?_, hys⟩
          rw [List.length_map] at k1
          have : maxLen = 9223372036854775807 := rfl
          omega
        obtain ⟨ys3, rfl, l3, q3⟩ := list p3 hs3
        obtain ⟨ys5, rfl, l5, q5⟩ := list p5 hs5
        exact ⟨⟨v0, v1, v2, ys3, v4, ys5⟩, rfl, .mk (i64_wf w1) (i64_wf w2) (i64_wf w4) l3 l5 q3 q5⟩
end Go.Ev
