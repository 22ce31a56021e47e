/-
  Coercions, one after the other.
-/
import Derived.Test.YtbjoldcjbpngaaaCoA
set_option linter.unusedVariables false
set_option linter.unusedSimpArgs false
namespace Go.Ev
open Go

def orI (x y : Int) : Int := if x = 0 then y else x
def orL : List Int → Int
  | [] => 0
  | x :: xs => if x = 0 then orL xs else x
def encI (n : Int) : AVal := .int .i64 n
theorem encI_get {l : List Int} {i : Nat} {x : Int} (h : l[i]? = some x) : (l.map encI)[((i : Nat) : Int).toNat]? = some (encI x) := by rw [Int.toNat_natCast, List.getElem?_map, h]; rfl
theorem orL_two (x y : Int) : orL [x, y] = orI x y := by
  simp only [orL, orI]; split <;> (try rfl) <;> split <;> simp_all

def pairP (f : Co → Co → Co) (a b : Co) : Int × Int × List Co :=
  if a.pair = 1 ∨ b.pair = 0 then (a.pair, a.plab, a.pairs)
  else if b.pair = 1 ∨ a.pair = 0 then (b.pair, b.plab, b.pairs)
  else if a.pair = 3 ∧ b.pair = 3 then (3, orI a.plab b.plab, [f (carC a) (carC b)])
  else (2, 0, [f (carC a) (carC b), f (cdrC a) (cdrC b)])
def mixF (f : Co → Co → Co) : List Co → List Co → List Co
  | [], _ => []
  | _ :: _, [] => []
  | x :: xs, y :: ys => (if xs.length = 0 then f x y else f y x) :: mixF f xs ys
def funP (f : Co → Co → Co) (a b : Co) : Int × Int × List Co :=
  if a.fn = 1 ∨ b.fn = 0 then (a.fn, a.flab, a.funs)
  else if b.fn = 1 ∨ a.fn = 0 then (b.fn, b.flab, b.funs)
  else if a.fn = 3 ∨ b.fn = 3 ∨ a.funs.length ≠ b.funs.length then (3, a.flab, [])
  else (a.fn, a.flab, mixF f a.funs b.funs)
/-- One, and then another one. -/
def compC : Nat → Co → Co → Co
  | 0, a, _ => a
  | k + 1, a, b => .mk (fun i => orI (a.flat i) (b.flat i)) (pairP (compC k) a b).1 (pairP (compC k) a b).2.1 (pairP (compC k) a b).2.2 (funP (compC k) a b).1 (funP (compC k) a b).2.1 (funP (compC k) a b).2.2

theorem mixF_len (f : Co → Co → Co) : ∀ (l m : List Co), l.length = m.length → (mixF f l m).length = l.length
  | [], _, _ => rfl
  | _ :: _, [], h => by simp at h
  | x :: xs, y :: ys, h => by simp only [mixF, List.length_cons]; rw [mixF_len f xs ys (by simpa using h)]
theorem mixF_get (f : Co → Co → Co) : ∀ (l m : List Co) (i : Nat) (x y : Co), l[i]? = some x → m[i]? = some y → (mixF f l m)[i]? = some (if i + 1 = l.length then f x y else f y x)
  | [], _, _, _, _, h, _ => by simp at h
  | _ :: _, [], _, _, _, _, h => by simp at h
  | a :: l, b :: m, 0, x, y, h1, h2 => by
    simp at h1 h2; subst h1; subst h2
    simp only [mixF, List.getElem?_cons_zero, List.length_cons]
    by_cases h : l.length = 0
    · rw [if_pos h, if_pos (by omega)]
    · rw [if_neg h, if_neg (by omega)]
  | a :: l, b :: m, i + 1, x, y, h1, h2 => by
    simp only [mixF, List.getElem?_cons_succ, List.length_cons] at h1 h2 ⊢
    rw [mixF_get f l m i x y h1 h2]
    congr 1
    by_cases h : i + 1 = l.length
    · rw [if_pos h, if_pos (by omega)]
    · rw [if_neg h, if_neg (by omega)]

/-! ### Coercions that may be -/
def RtC (c : Co) : Prop := ∃ d, rightC c d = true
theorem RtC.ok {c : Co} (h : RtC c) : okC c = true := by obtain ⟨d, h⟩ := h; exact rightC_ok h
theorem RtC.pairs {c x : Co} (h : RtC c) (hx : x ∈ c.pairs) : RtC x := by
  obtain ⟨d, h⟩ := h
  cases d with
  | zero => rw [rightC_zero] at h; cases h
  | succ d => rw [rightC_succ] at h; simp only [Bool.and_eq_true] at h; exact ⟨d, rightCs_mem h.1.2 hx⟩
theorem RtC.funs {c x : Co} (h : RtC c) (hx : x ∈ c.funs) : RtC x := by
  obtain ⟨d, h⟩ := h
  cases d with
  | zero => rw [rightC_zero] at h; cases h
  | succ d => rw [rightC_succ] at h; simp only [Bool.and_eq_true] at h; exact ⟨d, rightCs_mem h.2 hx⟩
theorem lab_iff {n : Int} : lab n = true ↔ 0 ≤ n ∧ n ≤ 99 := by simp [lab]
theorem okC_lists {x : Co} {l : Int} (hl : lab l = true) (h : l ≠ 0 ∨ passC x = false) : okC (listsC x l) = true := by
  rw [okC_iff]
  refine ⟨?_, hl, hl, ?_⟩
  · refine six_all fun i _ => ?_
    show lab (if i = 4 then 0 else l) = true
    split
    · rfl
    · exact hl
  · show (0 : Int) ≤ 3 ∧ (3 : Int) ≤ 3 ∧ (0 : Int) ≤ (if l = 0 then 0 else 1) ∧ (if l = 0 then (0 : Int) else 1) ≤ 3 ∧ (([x].length : Nat) : Int) = pcntC 3 ∧ ((3 : Int) = 0 → l = 0) ∧ ((3 : Int) = 1 → l ≠ 0) ∧ ((3 : Int) = 2 → l = 0 ∧ anyA [x] = true) ∧ ((3 : Int) = 3 → l ≠ 0 ∨ anyA [x] = true) ∧ ((if l = 0 then (0 : Int) else 1) = 2 → ([] : List Co).length ≤ 9 ∧ anyA [] = true) ∧ ((if l = 0 then (0 : Int) else 1) ≠ 2 → ([] : List Co).length = 0) ∧ ((if l = 0 then (0 : Int) else 1) = 1 ↔ l ≠ 0)
    have ha : anyA [x] = !passC x := by simp [anyA]
    rw [ha]
    by_cases h0 : l = 0
    · simp [h0] at h
      simp [h0, h, pcntC]
    · simp [h0, pcntC]
theorem RtC.car {c : Co} (h : RtC c) (hp : 2 ≤ c.pair) : RtC (carC c) ∧ szC (carC c) < szC c := by
  have hm : carC c ∈ c.pairs := by
    have hf := okC_facts h.ok
    unfold carC; rw [if_neg (by omega)]
    rcases (show c.pair = 2 ∨ c.pair = 3 by omega) with q | q
    · obtain ⟨x, y, e⟩ := pairs2 h.ok q; rw [e]; simp
    · obtain ⟨x, e⟩ := pairs3 h.ok q; rw [e]; simp
  exact ⟨h.pairs hm, szC_pairs hm⟩
theorem cdr3_eq {c : Co} (h : RtC c) (hp : c.pair = 3) : ∃ x, c.pairs = [x] ∧ cdrC c = listsC x c.plab ∧ (c.plab ≠ 0 ∨ passC x = false) ∧ lab c.plab = true := by
  obtain ⟨x, e⟩ := pairs3 h.ok hp
  obtain ⟨q1, q2, q3, q4, q5, q6, q7, q8, q9, q10, q11, q12, _⟩ := (okC_iff c).1 h.ok
  refine ⟨x, e, ?_, ?_, q2⟩
  · unfold cdrC; rw [if_neg (by omega), if_pos hp, e]; rfl
  · have := q12 hp
    rw [e] at this
    simpa [anyA] using this
theorem RtC.cdr {c : Co} (h : RtC c) (hp : 2 ≤ c.pair) : RtC (cdrC c) ∧ szC (cdrC c) ≤ szC c ∧ (c.pair = 2 → szC (cdrC c) < szC c) := by
  have hf := okC_facts h.ok
  rcases (show c.pair = 2 ∨ c.pair = 3 by omega) with q | q
  · obtain ⟨x, y, e⟩ := pairs2 h.ok q
    have e2 : cdrC c = y := by unfold cdrC; rw [if_pos q, e]; rfl
    have hm : y ∈ c.pairs := by rw [e]; simp
    rw [e2]
    exact ⟨h.pairs hm, Nat.le_of_lt (szC_pairs hm), fun _ => szC_pairs hm⟩
  · obtain ⟨x, e, e2, e3, e4⟩ := cdr3_eq h q
    have hm : x ∈ c.pairs := by rw [e]; simp
    refine ⟨?_, ?_, fun q2 => by omega⟩
    · rw [e2]
      obtain ⟨d, hd⟩ := h
      cases d with
      | zero => rw [rightC_zero] at hd; cases hd
      | succ d =>
        refine ⟨d + 1, ?_⟩
        rw [rightC_succ] at hd ⊢
        simp only [Bool.and_eq_true] at hd ⊢
        refine ⟨⟨okC_lists e4 e3, ?_⟩, rfl⟩
        show rightCs [x] d = true
        rw [← e]; exact hd.1.2
    · rw [e2]
      have e5 : szC (listsC x c.plab) = 1 + (szC x + 0) + 0 := rfl
      have e6 : szCs c.pairs = szC x + 0 := by rw [e]; rfl
      rw [e5, szC_eq c, e6]; omega

/-! ### One that is put together with itself -/
theorem orI_self (x : Int) : orI x x = x := by unfold orI; split <;> omega
theorem co_ext {f g : Nat → Int} {a b c d : Int} {ps gs : List Co} (h : f = g) : Co.mk f a b ps c d gs = Co.mk g a b ps c d gs := by rw [h]
theorem mixF_self (f : Co → Co → Co) : ∀ (l : List Co), (∀ x, x ∈ l → f x x = x) → mixF f l l = l
  | [], _ => rfl
  | x :: xs, h => by
    simp only [mixF, ite_self, h x (by simp)]
    rw [mixF_self f xs fun y hy => h y (by simp [hy])]
/-- A coercion of lists, with itself. -/
theorem comp_self : ∀ (k : Nat) (c : Co), RtC c → szC c ≤ k → compC k c c = c
  | 0, c, _, h => by have := szC_pos c; omega
  | k + 1, c, hr, h => by
    have hf := okC_facts hr.ok
    have hP : pairP (compC k) c c = (c.pair, c.plab, c.pairs) := by
      unfold pairP
      by_cases h1 : c.pair = 1 ∨ c.pair = 0
      · rw [if_pos h1]
      · rw [if_neg h1, if_neg h1]
        have hc := hr.car (by omega)
        have e1 : compC k (carC c) (carC c) = carC c := comp_self k _ hc.1 (by omega)
        by_cases h3 : c.pair = 3
        · rw [if_pos ⟨h3, h3⟩, e1, orI_self]
          obtain ⟨x, e, _⟩ := cdr3_eq hr h3
          have : carC c = x := by unfold carC; rw [if_neg (by omega), e]; rfl
          rw [this, e, h3]
        · have h2 : c.pair = 2 := by omega
          rw [if_neg (by omega), e1]
          have hd := hr.cdr (by omega)
          rw [comp_self k _ hd.1 (by have := hd.2.2 h2; omega)]
          obtain ⟨x, y, e⟩ := pairs2 hr.ok h2
          have q1 : carC c = x := by unfold carC; rw [if_neg (by omega), e]; rfl
          have q2 : cdrC c = y := by unfold cdrC; rw [if_pos h2, e]; rfl
          have q3 := ((okC_iff c).1 hr.ok).2.2.2.2.2.2.2.2.2.2.1 h2
          rw [q1, q2, e, h2, q3.1]
    have hG : funP (compC k) c c = (c.fn, c.flab, c.funs) := by
      unfold funP
      by_cases h1 : c.fn = 1 ∨ c.fn = 0
      · rw [if_pos h1]
      · rw [if_neg h1, if_neg h1]
        by_cases h3 : c.fn = 3
        · rw [if_pos (.inl h3)]
          have q3 := ((okC_iff c).1 hr.ok).2.2.2.2.2.2.2.2.2.2.2.2.2.1 (by omega)
          rw [List.length_eq_zero_iff.1 q3, h3]
        · rw [if_neg (by simp [h3]), mixF_self]
          intro x hx
          exact comp_self k x (hr.funs hx) (by have := szC_funs hx; omega)
    rw [compC, hP, hG]
    cases c with | mk f p l ps g m gs =>
    exact co_ext (funext fun i => orI_self (f i))
end Go.Ev
