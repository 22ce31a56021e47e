/-
  Coercions as the evaluator's values.
-/
import Derived.Test.YtbjoldcjbpngaaaTyB
set_option linter.unusedVariables false
set_option linter.unusedSimpArgs false
namespace Go.Ev
open Go

/-- Coercions. -/
inductive Co where
  | mk (flat : Nat → Int) (pair plab : Int) (pairs : List Co) (fn flab : Int) (funs : List Co)

namespace Co
def flat : Co → Nat → Int | mk a _ _ _ _ _ _ => a
def pair : Co → Int | mk _ a _ _ _ _ _ => a
def plab : Co → Int | mk _ _ a _ _ _ _ => a
def pairs : Co → List Co | mk _ _ _ a _ _ _ => a
def fn : Co → Int | mk _ _ _ _ a _ _ => a
def flab : Co → Int | mk _ _ _ _ _ a _ => a
def funs : Co → List Co | mk _ _ _ _ _ _ a => a
end Co

/-- Six numbers. -/
def sixC (f : Nat → Int) : List AVal := [.int .i64 (f 0), .int .i64 (f 1), .int .i64 (f 2), .int .i64 (f 3), .int .i64 (f 4), .int .i64 (f 5)]

mutual
def encC : Co → AVal
  | .mk f p l ps g m gs => .agg [.int .i64 (f 0), .int .i64 (f 1), .int .i64 (f 2), .int .i64 (f 3), .int .i64 (f 4), .int .i64 (f 5), .int .i64 p, .int .i64 l, .lst (encCs ps) false, .int .i64 g, .int .i64 m, .lst (encCs gs) false]
def encCs : List Co → List AVal
  | [] => []
  | x :: xs => encC x :: encCs xs
end

/-- A coercion's cells. -/
def cC (x : Co) : List AVal := [.int .i64 (x.flat 0), .int .i64 (x.flat 1), .int .i64 (x.flat 2), .int .i64 (x.flat 3), .int .i64 (x.flat 4), .int .i64 (x.flat 5), .int .i64 x.pair, .int .i64 x.plab, .lst (x.pairs.map encC) false, .int .i64 x.fn, .int .i64 x.flab, .lst (x.funs.map encC) false]
abbrev vC (x : Co) : AVal := .agg (cC x)

theorem encCs_map : ∀ l : List Co, encCs l = l.map encC
  | [] => rfl
  | x :: xs => by simp only [encCs, List.map_cons, encCs_map xs]
theorem encC_eq (x : Co) : encC x = vC x := by
  cases x with | mk f p l ps g m gs => simp only [encC, encCs_map, vC, cC, Co.flat, Co.pair, Co.plab, Co.pairs, Co.fn, Co.flab, Co.funs]
theorem encC_flat (x : Co) : (encC x).flat = cC x := by rw [encC_eq]; rfl
theorem encC_get {l : List Co} {i : Nat} {x : Co} (h : l[i]? = some x) : (l.map encC)[((i : Nat) : Int).toNat]? = some (encC x) := by rw [Int.toNat_natCast, List.getElem?_map, h]; rfl
theorem encC_w (l : List Co) : (l.map encC).all (fun y => decide (y.width = 12)) = true := by
  rw [List.all_eq_true]
  intro y hy
  obtain ⟨x, _, rfl⟩ := List.mem_map.1 hy
  simp [AVal.width, encC_flat, cC]
theorem putCells_cC (x : Co) (a b c d e f g h i j k l : AVal) : putCells 0 (cC x) [a, b, c, d, e, f, g, h, i, j, k, l] = cC x := rfl
theorem take_cC (x : Co) : List.take 12 (cC x) = cC x := rfl
def encCL (l : List Co) : AVal := .lst (l.map encC) false
theorem encCL_get {ls : List (List Co)} {i : Nat} {x : List Co} (h : ls[i]? = some x) : (ls.map encCL)[((i : Nat) : Int).toNat]? = some (encCL x) := by rw [Int.toNat_natCast, List.getElem?_map, h]; rfl

def i64B (n : Int) : Prop := -9223372036854775808 ≤ n ∧ n < 9223372036854775808

/-- The numbers in a coercion are numbers. -/
inductive WfC : Co → Prop
  | mk {x : Co} : (∀ i, i64B (x.flat i)) → i64B x.pair → i64B x.plab → i64B x.fn → i64B x.flab → x.pairs.length < 9223372036854775808 → x.funs.length < 9223372036854775808 → (∀ y, y ∈ x.pairs → WfC y) → (∀ y, y ∈ x.funs → WfC y) → WfC x

mutual
/-- Of how many a coercion is. -/
def szC : Co → Nat
  | .mk _ _ _ ps _ _ gs => 1 + szCs ps + szCs gs
def szCs : List Co → Nat
  | [] => 0
  | x :: xs => szC x + szCs xs
end
theorem szC_eq (x : Co) : szC x = 1 + szCs x.pairs + szCs x.funs := by cases x; rfl
theorem szC_pos (x : Co) : 0 < szC x := by rw [szC_eq]; omega
theorem szCs_mem {x : Co} : ∀ {l : List Co}, x ∈ l → szC x ≤ szCs l
  | y :: ys, h => by
    simp only [szCs]
    rcases List.mem_cons.1 h with rfl | h
    · omega
    · have := szCs_mem h; omega
theorem szCs_len : ∀ l : List Co, l.length ≤ szCs l
  | [] => by simp
  | y :: ys => by simp only [szCs, List.length_cons]; have := szCs_len ys; have := szC_pos y; omega
theorem szCs_append : ∀ l m : List Co, szCs (l ++ m) = szCs l + szCs m
  | [], m => by simp [szCs]
  | x :: l, m => by simp only [List.cons_append, szCs, szCs_append l m]; omega
theorem szC_pairs {x y : Co} (h : y ∈ x.pairs) : szC y < szC x := by rw [szC_eq x]; have := szCs_mem h; omega
theorem szC_funs {x y : Co} (h : y ∈ x.funs) : szC y < szC x := by rw [szC_eq x]; have := szCs_mem h; omega
theorem lenC_pairs (x : Co) : x.pairs.length < szC x := by rw [szC_eq x]; have := szCs_len x.pairs; omega
theorem lenC_funs (x : Co) : x.funs.length < szC x := by rw [szC_eq x]; have := szCs_len x.funs; omega
theorem lenC_both (x : Co) : x.pairs.length + x.funs.length < szC x := by rw [szC_eq x]; have := szCs_len x.pairs; have := szCs_len x.funs; omega

/-- All six. -/
def six (p : Nat → Bool) : Bool := p 0 && (p 1 && (p 2 && (p 3 && (p 4 && (p 5 && true)))))

mutual
/-- Are two coercions the same? -/
def sameC : Co → Co → Bool
  | .mk f p l ps g m gs, .mk f' p' l' ps' g' m' gs' => six (fun i => decide (f i = f' i)) && decide (p = p') && decide (l = l') && decide (g = g') && decide (m = m') && sameCs ps ps' && sameCs gs gs'
def sameCs : List Co → List Co → Bool
  | [], [] => true
  | x :: xs, y :: ys => sameC x y && sameCs xs ys
  | _, _ => false
end
theorem sameC_eq (a b : Co) : sameC a b = (six (fun i => decide (a.flat i = b.flat i)) && decide (a.pair = b.pair) && decide (a.plab = b.plab) && decide (a.fn = b.fn) && decide (a.flab = b.flab) && sameCs a.pairs b.pairs && sameCs a.funs b.funs) := by
  cases a; cases b; rfl
theorem sameCs_len : ∀ {l m : List Co}, sameCs l m = true → l.length = m.length
  | [], [], _ => rfl
  | x :: xs, y :: ys, h => by simp only [sameCs, Bool.and_eq_true] at h; simp [sameCs_len h.2]
  | [], _ :: _, h => by simp [sameCs] at h
  | _ :: _, [], h => by simp [sameCs] at h
theorem sameC_refl (c : Co) : sameC c c = true := by
  refine Co.rec (motive_1 := fun t => sameC t t = true) (motive_2 := fun l => sameCs l l = true) ?_ rfl ?_ c
  · intro f p l ps g m gs h1 h2; simp [sameC, six, h1, h2]
  · intro x xs h1 h2; simp [sameCs, h1, h2]

/-- Does all pass? -/
def passC (c : Co) : Bool := six (fun i => decide (c.flat i = 0)) && decide (c.pair = 0) && decide (c.plab = 0) && decide ((c.pairs.length : Int) = 0) && decide (c.fn = 0) && decide (c.flab = 0) && decide ((c.funs.length : Int) = 0)

mutual
/-- How deep one is. -/
def hgC : Co → Nat
  | .mk _ _ _ ps _ _ gs => max (hgCs ps) (hgCs gs) + 1
def hgCs : List Co → Nat
  | [] => 0
  | x :: xs => max (hgC x) (hgCs xs)
end
theorem hgC_eq (x : Co) : hgC x = max (hgCs x.pairs) (hgCs x.funs) + 1 := by cases x; rfl
theorem hgCs_append : ∀ l m : List Co, hgCs (l ++ m) = max (hgCs l) (hgCs m)
  | [], m => by simp [hgCs]
  | x :: l, m => by simp only [List.cons_append, hgCs, hgCs_append l m]; omega
mutual
theorem hg_sz : ∀ x : Co, hgC x ≤ szC x
  | .mk _ _ _ ps _ _ gs => by simp only [hgC, szC]; have := hg_szs ps; have := hg_szs gs; omega
theorem hg_szs : ∀ xs : List Co, hgCs xs ≤ szCs xs
  | [] => by simp [hgCs, szCs]
  | x :: xs => by simp only [hgCs, szCs]; have := hg_sz x; have := hg_szs xs; omega
end

mutual
def rszC : Co → Nat → Nat
  | .mk _ _ _ ps _ _ gs, left => match left with
    | 0 => 1000
    | l + 1 => min 1000 (1 + rszCs ps l + rszCs gs l)
def rszCs : List Co → Nat → Nat
  | [], _ => 0
  | x :: xs, l => rszC x l + rszCs xs l
end
theorem rszC_zero (x : Co) : rszC x 0 = 1000 := by cases x; rfl
theorem rszC_succ (x : Co) (l : Nat) : rszC x (l + 1) = min 1000 (1 + rszCs x.pairs l + rszCs x.funs l) := by cases x; rfl
theorem rszC_le (x : Co) (l : Nat) : rszC x l ≤ 1000 := by cases l <;> simp only [rszC_zero, rszC_succ] <;> omega
mutual
theorem rszC_sz : ∀ (x : Co) (l : Nat), rszC x l < 1000 → szC x = rszC x l
  | .mk _ _ _ ps _ _ gs, 0, h => by simp [rszC] at h
  | .mk _ _ _ ps _ _ gs, l + 1, h => by
    simp only [rszC] at h ⊢
    rw [szC, rszCs_sz ps l (by omega), rszCs_sz gs l (by omega)]; omega
theorem rszCs_sz : ∀ (xs : List Co) (l : Nat), rszCs xs l < 1000 → szCs xs = rszCs xs l
  | [], _, _ => rfl
  | x :: xs, l, h => by
    simp only [rszCs] at h ⊢
    rw [szCs, rszC_sz x l (by omega), rszCs_sz xs l (by omega)]
end

mutual
/-- Is one not too deep, and not too great, to be gone through? -/
def shalC : Co → Nat → Bool
  | .mk _ _ _ ps _ _ gs, left => match left with
    | 0 => false
    | l + 1 => decide (ps.length ≤ 12) && decide (gs.length ≤ 12) && shalCs ps l && shalCs gs l
def shalCs : List Co → Nat → Bool
  | [], _ => true
  | x :: xs, l => shalC x l && shalCs xs l
end
theorem shalC_zero (x : Co) : shalC x 0 = false := by cases x; rfl
theorem shalC_succ (x : Co) (l : Nat) : shalC x (l + 1) = (decide (x.pairs.length ≤ 12) && decide (x.funs.length ≤ 12) && shalCs x.pairs l && shalCs x.funs l) := by cases x; rfl

def pcntC (p : Int) : Int := if p = 2 then 2 else if p = 3 then 1 else 0

/-- May one be, apart from its parts? -/
def okC (c : Co) : Bool :=
  six (fun i => decide (0 ≤ c.flat i) && decide (c.flat i ≤ 99)) && decide (0 ≤ c.plab) && decide (c.plab ≤ 99) && decide (0 ≤ c.flab) && decide (c.flab ≤ 99) && decide (0 ≤ c.pair) && decide (c.pair ≤ 3) && decide (0 ≤ c.fn) && decide (c.fn ≤ 3) &&
    decide ((c.pairs.length : Int) = pcntC c.pair) &&
    (if c.pair = 0 then decide (c.plab = 0) else if c.pair = 1 then !decide (c.plab = 0) else if c.pair = 2 then decide (c.plab = 0) && c.pairs.any (fun x => !passC x) else !decide (c.plab = 0) || c.pairs.any (fun x => !passC x)) &&
    (if c.fn = 2 then decide (c.funs.length ≤ 9) && c.funs.any (fun x => !passC x) else decide (c.funs.length = 0)) && (decide (c.fn = 1) == !decide (c.flab = 0))

mutual
def rightC : Co → Nat → Bool
  | .mk f p l ps g m gs, d => match d with
    | 0 => false
    | d + 1 => okC (.mk f p l ps g m gs) && rightCs ps d && rightCs gs d
def rightCs : List Co → Nat → Bool
  | [], _ => true
  | x :: xs, d => rightC x d && rightCs xs d
end
theorem rightC_zero (x : Co) : rightC x 0 = false := by cases x; rfl
theorem rightC_succ (x : Co) (d : Nat) : rightC x (d + 1) = (okC x && rightCs x.pairs d && rightCs x.funs d) := by cases x; rfl
theorem rightCs_any : ∀ (l : List Co) (d : Nat), rightCs l d = !l.any (fun x => !rightC x d)
  | [], _ => rfl
  | x :: xs, d => by simp [rightCs, rightCs_any xs d]
theorem rightCs_mem {d : Nat} : ∀ {l : List Co} {x : Co}, rightCs l d = true → x ∈ l → rightC x d = true
  | y :: ys, x, h, hm => by
    simp only [rightCs, Bool.and_eq_true] at h
    rcases List.mem_cons.1 hm with rfl | hm
    · exact h.1
    · exact rightCs_mem h.2 hm

/-- Of how many cells an element of a list is that is empty at first. -/
def es0 (w i : Nat) : Nat := if i = 0 then 0 else w
theorem es0_or (w i : Nat) : es0 w i = w ∨ es0 w i = 0 := by unfold es0; split <;> simp
theorem es0_succ (w i : Nat) : es0 w (i + 1) = w := rfl

/-- A coercion's cells, but for the lists. -/
def oC (x : Co) (a b : AVal) : List AVal := [.int .i64 (x.flat 0), .int .i64 (x.flat 1), .int .i64 (x.flat 2), .int .i64 (x.flat 3), .int .i64 (x.flat 4), .int .i64 (x.flat 5), .int .i64 x.pair, .int .i64 x.plab, a, .int .i64 x.fn, .int .i64 x.flab, b]
/-- Its lists are not too long. -/
inductive SmC : Co → Prop
  | mk {x : Co} : x.pairs.length ≤ 1000000 → x.funs.length ≤ 1000000 → (∀ y, y ∈ x.pairs → SmC y) → (∀ y, y ∈ x.funs → SmC y) → SmC x
theorem smC_sz : ∀ (n : Nat) (x : Co), szC x < n → n ≤ 1000000 → SmC x
  | 0, x, h, _ => by omega
  | n + 1, x, h, hn => by
    have h1 := lenC_pairs x
    have h2 := lenC_funs x
    exact .mk (by omega) (by omega) (fun y hy => smC_sz n y (by have := szC_pairs hy; omega) (by omega)) (fun y hy => smC_sz n y (by have := szC_funs hy; omega) (by omega))
theorem shalCs_mem {d : Nat} : ∀ {l : List Co} {x : Co}, shalCs l d = true → x ∈ l → shalC x d = true
  | y :: ys, x, h, hm => by
    simp only [shalCs, Bool.and_eq_true] at h
    rcases List.mem_cons.1 hm with rfl | hm
    · exact h.1
    · exact shalCs_mem h.2 hm
theorem smC_shal : ∀ (d : Nat) (x : Co), shalC x d = true → SmC x
  | 0, x, h => by rw [shalC_zero] at h; cases h
  | d + 1, x, h => by
    rw [shalC_succ] at h
    simp only [Bool.and_eq_true, decide_eq_true_eq] at h
    obtain ⟨⟨⟨h1, h2⟩, h3⟩, h4⟩ := h
    exact .mk (by omega) (by omega) (fun y hy => smC_shal d y (shalCs_mem h3 hy)) (fun y hy => smC_shal d y (shalCs_mem h4 hy))
theorem take_succ_map {l : List Co} {i : Nat} {x : Co} (h : l[i]? = some x) : (l.take (i + 1)).map encC = (l.take i).map encC ++ [vC x] := by
  rw [List.take_add_one, h]; simp [encC_eq]
theorem six_at {p : Nat → Bool} (h : six p = true) {i : Nat} (hi : i < 6) : p i = true := by
  simp only [six, Bool.and_eq_true] at h
  obtain rfl | rfl | rfl | rfl | rfl | rfl : i = 0 ∨ i = 1 ∨ i = 2 ∨ i = 3 ∨ i = 4 ∨ i = 5 := by omega
  all_goals simp [h]
theorem six_all {p : Nat → Bool} (h : ∀ i, i < 6 → p i = true) : six p = true := by simp [six, h]
theorem cC_get {c : Co} {i : Nat} (h : i < 6) : (cC c)[i]? = some (.int .i64 (c.flat i)) := by
  obtain rfl | rfl | rfl | rfl | rfl | rfl : i = 0 ∨ i = 1 ∨ i = 2 ∨ i = 3 ∨ i = 4 ∨ i = 5 := by omega
  all_goals rfl
theorem mm_max (a b : Nat) : (if true = true then if (b : Int) > (a : Int) then (b : Int) else (a : Int) else if (b : Int) < (a : Int) then (b : Int) else (a : Int)) = ((max a b : Nat) : Int) := by
  simp; split <;> omega
def lab (n : Int) : Bool := decide (0 ≤ n) && decide (n ≤ 99)
def anyA (l : List Co) : Bool := l.any (fun x => !passC x)
theorem okC_iff (c : Co) : okC c = true ↔ (six (fun i => lab (c.flat i)) = true ∧ lab c.plab = true ∧ lab c.flab = true ∧ 0 ≤ c.pair ∧ c.pair ≤ 3 ∧ 0 ≤ c.fn ∧ c.fn ≤ 3 ∧ (c.pairs.length : Int) = pcntC c.pair ∧
    (c.pair = 0 → c.plab = 0) ∧ (c.pair = 1 → c.plab ≠ 0) ∧ (c.pair = 2 → c.plab = 0 ∧ anyA c.pairs = true) ∧ (c.pair = 3 → c.plab ≠ 0 ∨ anyA c.pairs = true) ∧
    (c.fn = 2 → c.funs.length ≤ 9 ∧ anyA c.funs = true) ∧ (c.fn ≠ 2 → c.funs.length = 0) ∧ (c.fn = 1 ↔ c.flab ≠ 0)) := by
  have e : six (fun i => decide (0 ≤ c.flat i) && decide (c.flat i ≤ 99)) = six (fun i => lab (c.flat i)) := rfl
  unfold okC
  rw [e]
  generalize six (fun i => lab (c.flat i)) = s
  unfold lab
  change ((s && decide (0 ≤ c.plab) && decide (c.plab ≤ 99) && decide (0 ≤ c.flab) && decide (c.flab ≤ 99) && decide (0 ≤ c.pair) && decide (c.pair ≤ 3) && decide (0 ≤ c.fn) && decide (c.fn ≤ 3) &&
    decide ((c.pairs.length : Int) = pcntC c.pair) &&
    (if c.pair = 0 then decide (c.plab = 0) else if c.pair = 1 then !decide (c.plab = 0) else if c.pair = 2 then decide (c.plab = 0) && anyA c.pairs else !decide (c.plab = 0) || anyA c.pairs) &&
    (if c.fn = 2 then decide (c.funs.length ≤ 9) && anyA c.funs else decide (c.funs.length = 0)) && (decide (c.fn = 1) == !decide (c.flab = 0))) = true) ↔ _
  generalize anyA c.pairs = ap
  generalize anyA c.funs = af
  simp only [Bool.and_eq_true, decide_eq_true_eq]
  constructor
  · rintro ⟨⟨⟨⟨⟨⟨⟨⟨⟨⟨⟨⟨h1, h2⟩, h3⟩, h4⟩, h5⟩, h6⟩, h7⟩, h8⟩, h9⟩, h10⟩, h11⟩, h12⟩, h13⟩
    refine ⟨h1, ⟨h2, h3⟩, ⟨h4, h5⟩, h6, h7, h8, h9, h10, ?_, ?_, ?_, ?_, ?_, ?_, ?_⟩
    · intro q; rw [if_pos q] at h11; simpa using h11
    · intro q; rw [if_neg (by omega), if_pos q] at h11; simpa using h11
    · intro q; rw [if_neg (by omega), if_neg (by omega), if_pos q] at h11; simpa using h11
    · intro q; rw [if_neg (by omega), if_neg (by omega), if_neg (by omega)] at h11; simpa using h11
    · intro q; rw [if_pos q] at h12; simpa using h12
    · intro q; rw [if_neg q] at h12; simpa using h12
    · by_cases a : c.fn = 1 <;> by_cases b : c.flab = 0 <;> simp [a, b] at h13 ⊢
  · rintro ⟨h1, ⟨h2, h3⟩, ⟨h4, h5⟩, h6, h7, h8, h9, h10, k1, k2, k3, k4, k5, k6, k7⟩
    refine ⟨⟨⟨⟨⟨⟨⟨⟨⟨⟨⟨⟨h1, h2⟩, h3⟩, h4⟩, h5⟩, h6⟩, h7⟩, h8⟩, h9⟩, h10⟩, ?_⟩, ?_⟩, ?_⟩
    · split
      · rename_i q; simp [k1 q]
      · split
        · rename_i q; simpa using k2 q
        · split
          · rename_i q; simp [k3 q]
          · simpa using k4 (by omega)
    · split
      · rename_i q; simpa using k5 q
      · rename_i q; simpa using k6 q
    · by_cases a : c.fn = 1 <;> by_cases b : c.flab = 0 <;> simp [a, b] at k7 ⊢
theorem all_anyA (l : List Co) : l.all passC = !anyA l := by
  induction l with
  | nil => rfl
  | cons x xs ih => simp only [List.all_cons, ih, anyA, List.any_cons]; cases passC x <;> simp
theorem anyA_len {l : List Co} (h : anyA l = true) : 1 ≤ l.length := by
  cases l with
  | nil => simp [anyA] at h
  | cons x xs => simp
theorem pcntC_get {p : Int} (h0 : 0 ≤ p) (h2 : p ≤ 3) : [AVal.int .i64 0, AVal.int .i64 0, AVal.int .i64 2, AVal.int .i64 1][p.toNat]? = some (.int .i64 (pcntC p)) := by
  obtain rfl | rfl | rfl | rfl : p = 0 ∨ p = 1 ∨ p = 2 ∨ p = 3 := by omega
  all_goals rfl
/-! ### The parts -/
def zeroC : Co := .mk (fun _ => 0) 0 0 [] 0 0 []
def carC (c : Co) : Co := if c.pair < 2 then zeroC else c.pairs.headD zeroC
def listsC (x : Co) (l : Int) : Co := .mk (fun i => if i = 4 then 0 else l) 3 l [x] (if l = 0 then 0 else 1) l []
def cdrC (c : Co) : Co := if c.pair = 2 then (c.pairs.drop 1).headD zeroC else if c.pair = 3 then listsC (c.pairs.headD zeroC) c.plab else zeroC
def flatAt (c : Co) (tag : Int) : Int := if tag = 1 then c.flat 0 else if tag = 2 then c.flat 1 else if tag = 4 then c.flat 2 else if tag = 8 then c.flat 3 else if tag = 16 then c.flat 4 else if tag = 32 then c.flat 5 else 0
def firstC (c : Co) (tag : Int) : Int := if tag = 64 ∧ c.pair = 1 then c.plab else if tag = 128 ∧ c.fn = 1 then c.flab else flatAt c tag
def wrapsC (c : Co) (tag : Int) : Bool := decide (tag = 64) && decide (2 ≤ c.pair) || decide (tag = 128) && decide (2 ≤ c.fn)
theorem okC_facts {c : Co} (h : okC c = true) : 0 ≤ c.pair ∧ c.pair ≤ 3 ∧ 0 ≤ c.fn ∧ c.fn ≤ 3 ∧ (c.pairs.length : Int) = pcntC c.pair := by
  obtain ⟨q1, q2, q3, q4, q5, q6, q7, q8, _⟩ := (okC_iff c).1 h
  exact ⟨q4, q5, q6, q7, q8⟩
theorem pairs2 {c : Co} (h : okC c = true) (hp : c.pair = 2) : ∃ x y, c.pairs = [x, y] := by
  have := (okC_facts h).2.2.2.2
  rw [hp] at this
  match hl : c.pairs with
  | [] => simp [hl, pcntC] at this
  | [x] => simp [hl, pcntC] at this
  | [x, y] => exact ⟨x, y, rfl⟩
  | _ :: _ :: _ :: _ => simp [hl, pcntC] at this; omega
theorem pairs3 {c : Co} (h : okC c = true) (hp : c.pair = 3) : ∃ x, c.pairs = [x] := by
  have := (okC_facts h).2.2.2.2
  rw [hp] at this
  match hl : c.pairs with
  | [] => simp [hl, pcntC] at this
  | [x] => exact ⟨x, rfl⟩
  | _ :: _ :: _ => simp [hl, pcntC] at this; omega
theorem two_pow_lt {i : Nat} (h : i < 6) : (2 : Int) ^ i = 1 ∨ (2 : Int) ^ i = 2 ∨ (2 : Int) ^ i = 4 ∨ (2 : Int) ^ i = 8 ∨ (2 : Int) ^ i = 16 ∨ (2 : Int) ^ i = 32 := by
  obtain rfl | rfl | rfl | rfl | rfl | rfl : i = 0 ∨ i = 1 ∨ i = 2 ∨ i = 3 ∨ i = 4 ∨ i = 5 := by omega
  all_goals simp
theorem flatAt_pow (c : Co) {i : Nat} (h : i < 6) : flatAt c (2 ^ i) = c.flat i := by
  obtain rfl | rfl | rfl | rfl | rfl | rfl : i = 0 ∨ i = 1 ∨ i = 2 ∨ i = 3 ∨ i = 4 ∨ i = 5 := by omega
  all_goals rfl
theorem flatAt_none (c : Co) {tag : Int} (h : ∀ j, j < 6 → tag ≠ 2 ^ j) : flatAt c tag = 0 := by
  have h0 := h 0 (by omega); have h1 := h 1 (by omega); have h2 := h 2 (by omega); have h3 := h 3 (by omega); have h4 := h 4 (by omega); have h5 := h 5 (by omega)
  simp at h0 h1 h2 h3 h4 h5
  unfold flatAt
  rw [if_neg h0, if_neg h1, if_neg h2, if_neg h3, if_neg h4, if_neg h5]
theorem firstC_pow (c : Co) {i : Nat} (h : i < 6) : firstC c (2 ^ i) = c.flat i := by
  have := two_pow_lt h
  unfold firstC
  rw [if_neg (by omega), if_neg (by omega), flatAt_pow c h]
theorem shl_pow {i : Nat} (h : i < 6) : IntKind.i64.wrap (1 * 2 ^ (min ((i : Int).toNat) IntKind.i64.bits)) = (2 : Int) ^ i := by
  obtain rfl | rfl | rfl | rfl | rfl | rfl : i = 0 ∨ i = 1 ∨ i = 2 ∨ i = 3 ∨ i = 4 ∨ i = 5 := by omega
  all_goals rfl
theorem ixa_six {c : Co} {i : Nat} (h : i < 6) : (if 0 ≤ (i : Int) ∧ (i : Int) < ((6 : Nat) : Int) then part ((i : Int).toNat * 1) none (sixC c.flat) else none) = some (.int .i64 (c.flat i)) := by
  obtain rfl | rfl | rfl | rfl | rfl | rfl : i = 0 ∨ i = 1 ∨ i = 2 ∨ i = 3 ∨ i = 4 ∨ i = 5 := by omega
  all_goals rfl
theorem listsC_1 (x : Co) (l : Int) (h : l ≠ 0) : cC (listsC x l) = [.int .i64 l, .int .i64 l, .int .i64 l, .int .i64 l, .int .i64 0, .int .i64 l, .int .i64 3, .int .i64 l, .lst [vC x] false, .int .i64 1, .int .i64 l, .lst [] false] := by
  simp [cC, listsC, h, Co.flat, Co.pair, Co.plab, Co.pairs, Co.fn, Co.flab, Co.funs, encC_eq]
theorem listsC_0 (x : Co) (l : Int) (h : l = 0) : cC (listsC x l) = [.int .i64 l, .int .i64 l, .int .i64 l, .int .i64 l, .int .i64 0, .int .i64 l, .int .i64 3, .int .i64 l, .lst [vC x] false, .int .i64 0, .int .i64 0, .lst [] false] := by
  subst h
  simp [cC, listsC, Co.flat, Co.pair, Co.plab, Co.pairs, Co.fn, Co.flab, Co.funs, encC_eq]
theorem dbl_pow {i : Nat} (h : i < 6) : IntKind.i64.wrap (2 * 2 ^ i) = (2 : Int) ^ (i + 1) := by
  obtain rfl | rfl | rfl | rfl | rfl | rfl : i = 0 ∨ i = 1 ∨ i = 2 ∨ i = 3 ∨ i = 4 ∨ i = 5 := by omega
  all_goals rfl
theorem lightC_sz {c : Co} (h : (shalC c 30 && decide (rszC c 60 < 150)) = true) : szC c < 150 := by
  simp only [Bool.and_eq_true, decide_eq_true_eq] at h
  rw [rszC_sz c 60 (by omega)]; exact h.2
theorem rightC_ok {c : Co} {d : Nat} (h : rightC c d = true) : okC c = true := by
  cases d with
  | zero => rw [rightC_zero] at h; cases h
  | succ d => rw [rightC_succ] at h; simp only [Bool.and_eq_true] at h; exact h.1.1
theorem szC_head (l : List Co) : szC (l.headD zeroC) ≤ szCs l + 1 := by
  cases l with
  | nil => simp [zeroC, szC, szCs]
  | cons x xs => simp [szCs]; omega
theorem szCs_drop (l : List Co) : szCs (l.drop 1) ≤ szCs l := by
  cases l with
  | nil => simp
  | cons x xs => simp [szCs]
theorem carC_sz (c : Co) : szC (carC c) ≤ szC c := by
  unfold carC
  split
  · rw [szC_eq c]; simp [zeroC, szC, szCs]; omega
  · have := szC_head c.pairs; rw [szC_eq c]; omega
theorem cdrC_sz (c : Co) : szC (cdrC c) ≤ szC c + 2 := by
  unfold cdrC
  split
  · have := szC_head (c.pairs.drop 1); have := szCs_drop c.pairs; rw [szC_eq c]; omega
  · split
    · have := szC_head c.pairs
      have e : szC (listsC (c.pairs.headD zeroC) c.plab) = 1 + (szC (c.pairs.headD zeroC) + 0) + 0 := rfl
      rw [e, szC_eq c]; omega
    · have e : szC zeroC = 1 := rfl
      rw [e, szC_eq c]; omega
end Go.Ev
