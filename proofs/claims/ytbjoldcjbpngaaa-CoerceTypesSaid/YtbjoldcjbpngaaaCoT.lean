/-
  Coercions of types.
-/
import Derived.Test.YtbjoldcjbpngaaaCoB
set_option linter.unusedVariables false
set_option linter.unusedSimpArgs false
namespace Go.Ev
open Go

/-- Has a set of tags one not? -/
def bit0 (f : Int) (i : Nat) : Bool := decide (f / 2 ^ i % 2 = 0)
def pairG (up : Bool) (l p : Int) (qs : List Co) : Int × Int × List Co :=
  if p = 0 then (if up then (1, l, []) else (0, 0, []))
  else if p = 1 then (if anyA qs then (2, 0, qs) else (0, 0, []))
  else if up then (3, l, qs) else if anyA qs then (3, 0, qs) else (0, 0, [])
def funG (up : Bool) (l g : Int) (ds : List Co) : Int × Int × List Co :=
  if g = 0 then (if up then (1, l, []) else (0, 0, []))
  else if g = 1 then (if anyA ds then (2, 0, ds) else (0, 0, []))
  else (0, 0, [])
def flatG (up : Bool) (l f : Int) (i : Nat) : Int := if up && bit0 f i then l else 0
def goK (up : Bool) (l : Int) (a : Bool) (f p : Int) (qs : List Co) (g : Int) (ds : List Co) : Co :=
  if up && a then zeroC else .mk (flatG up l f) (pairG up l p qs).1 (pairG up l p qs).2.1 (pairG up l p qs).2.2 (funG up l g ds).1 (funG up l g ds).2.1 (funG up l g ds).2.2
mutual
/-- That of a value that is said to be of a type ('up'), or goes away as one. -/
def goC : Bool → Int → Ty → Co
  | up, l, .mk a f p ps g gs => goK up l a f p (goCs up l ps) g (goFs up l gs)
def goCs : Bool → Int → List Ty → List Co
  | _, _, [] => []
  | up, l, x :: xs => goC up l x :: goCs up l xs
def goFs : Bool → Int → List Ty → List Co
  | _, _, [] => []
  | up, l, x :: xs => (if xs.length = 0 then goC up l x else goC (!up) l x) :: goFs up l xs
end
theorem goC_eq (up : Bool) (l : Int) (t : Ty) : goC up l t = goK up l t.all t.flat t.pair (goCs up l t.pairs) t.fn (goFs up l t.funs) := by cases t; rfl
theorem goCs_map (up : Bool) (l : Int) : ∀ ts : List Ty, goCs up l ts = ts.map (goC up l)
  | [] => rfl
  | x :: xs => by simp only [goCs, List.map_cons, goCs_map up l xs]
theorem goFs_len (up : Bool) (l : Int) : ∀ ts : List Ty, (goFs up l ts).length = ts.length
  | [] => rfl
  | x :: xs => by simp only [goFs, List.length_cons, goFs_len up l xs]
theorem goFs_get (up : Bool) (l : Int) : ∀ (ts : List Ty) (i : Nat) (x : Ty), ts[i]? = some x → (goFs up l ts)[i]? = some (if i + 1 = ts.length then goC up l x else goC (!up) l x)
  | [], _, _, h => by simp at h
  | y :: ys, 0, x, h => by
    simp at h; subst h
    simp only [goFs, List.getElem?_cons_zero, List.length_cons]
    by_cases h : ys.length = 0
    · rw [if_pos h, if_pos (by omega)]
    · rw [if_neg h, if_neg (by omega)]
  | y :: ys, i + 1, x, h => by
    simp only [goFs, List.getElem?_cons_succ, List.length_cons] at h ⊢
    rw [goFs_get up l ys i x h]
    congr 1
    by_cases h : i + 1 = ys.length
    · rw [if_pos h, if_pos (by omega)]
    · rw [if_neg h, if_neg (by omega)]
theorem goFs_mem (up : Bool) (l : Int) : ∀ {ts : List Ty} {c : Co}, c ∈ goFs up l ts → ∃ x, x ∈ ts ∧ ∃ u, c = goC u l x
  | x :: xs, c, h => by
    simp only [goFs, List.mem_cons] at h
    rcases h with rfl | h
    · split
      · exact ⟨x, by simp, _, rfl⟩
      · exact ⟨x, by simp, _, rfl⟩
    · obtain ⟨y, hy, u, e⟩ := goFs_mem up l h
      exact ⟨y, by simp [hy], u, e⟩
theorem lab_l {l : Int} (h : 1 ≤ l ∧ l ≤ 99) : lab l = true := by rw [lab_iff]; omega
theorem okC_zero : okC zeroC = true := by rfl
theorem pairG_ok {t : Ty} (ht : okT t = true) (up : Bool) {l : Int} (hl : 1 ≤ l ∧ l ≤ 99) (qs : List Co) (hq : qs.length = t.pairs.length) :
    lab (pairG up l t.pair qs).2.1 = true ∧ 0 ≤ (pairG up l t.pair qs).1 ∧ (pairG up l t.pair qs).1 ≤ 3 ∧ ((pairG up l t.pair qs).2.2.length : Int) = pcntC (pairG up l t.pair qs).1 ∧
      ((pairG up l t.pair qs).1 = 0 → (pairG up l t.pair qs).2.1 = 0) ∧ ((pairG up l t.pair qs).1 = 1 → (pairG up l t.pair qs).2.1 ≠ 0) ∧
      ((pairG up l t.pair qs).1 = 2 → (pairG up l t.pair qs).2.1 = 0 ∧ anyA (pairG up l t.pair qs).2.2 = true) ∧ ((pairG up l t.pair qs).1 = 3 → (pairG up l t.pair qs).2.1 ≠ 0 ∨ anyA (pairG up l t.pair qs).2.2 = true) := by
  have hf := okT_facts ht
  have hlab := lab_l hl
  rcases (show t.pair = 0 ∨ t.pair = 1 ∨ t.pair = 2 by omega) with h | h | h
  · cases up <;> simp [pairG, h, pcntC, hlab, lab] <;> omega
  · obtain ⟨x, y, e⟩ := hf.2.2.2.2.2.1 h
    rw [e] at hq
    by_cases ha : anyA qs = true
    · simp [pairG, h, ha, pcntC, hq, lab]
    · simp [pairG, h, ha, pcntC, lab]
  · obtain ⟨x, e⟩ := hf.2.2.2.2.2.2.1 h
    rw [e] at hq
    cases up
    · by_cases ha : anyA qs = true
      · simp [pairG, h, ha, pcntC, hq, lab]
      · simp [pairG, h, ha, pcntC, lab]
    · simp [pairG, h, pcntC, hq, hlab]; omega
theorem funG_ok {t : Ty} (ht : okT t = true) (up : Bool) {l : Int} (hl : 1 ≤ l ∧ l ≤ 99) (ds : List Co) (hd : ds.length = t.funs.length) :
    lab (funG up l t.fn ds).2.1 = true ∧ 0 ≤ (funG up l t.fn ds).1 ∧ (funG up l t.fn ds).1 ≤ 3 ∧
      ((funG up l t.fn ds).1 = 2 → (funG up l t.fn ds).2.2.length ≤ 9 ∧ anyA (funG up l t.fn ds).2.2 = true) ∧ ((funG up l t.fn ds).1 ≠ 2 → (funG up l t.fn ds).2.2.length = 0) ∧ ((funG up l t.fn ds).1 = 1 ↔ (funG up l t.fn ds).2.1 ≠ 0) := by
  have hf := okT_facts ht
  have hlab := lab_l hl
  rcases (show t.fn = 0 ∨ t.fn = 1 ∨ t.fn = 2 by omega) with h | h | h
  · cases up <;> simp [funG, h, hlab, lab] <;> omega
  · have := (hf.2.2.2.2.2.2.2.1 h).2
    by_cases ha : anyA ds = true
    · simp [funG, h, ha, lab]; omega
    · simp [funG, h, ha, lab]
  · simp [funG, h, lab]
theorem goC_ok {t : Ty} (ht : okT t = true) (up : Bool) {l : Int} (hl : 1 ≤ l ∧ l ≤ 99) : okC (goC up l t) = true := by
  rw [goC_eq, goK]
  split
  · exact okC_zero
  · obtain ⟨p1, p2, p3, p4, p5, p6, p7, p8⟩ := pairG_ok ht up hl (goCs up l t.pairs) (by rw [goCs_map, List.length_map])
    obtain ⟨f1, f2, f3, f4, f5, f6⟩ := funG_ok ht up hl (goFs up l t.funs) (goFs_len up l t.funs)
    rw [okC_iff]
    refine ⟨six_all fun i _ => ?_, p1, f1, p2, p3, f2, f3, p4, p5, p6, p7, p8, f4, f5, f6⟩
    show lab (flatG up l t.flat i) = true
    unfold flatG; split
    · exact lab_l hl
    · rfl
theorem rightCs_all {d : Nat} : ∀ {l : List Co}, (∀ x, x ∈ l → rightC x d = true) → rightCs l d = true
  | [], _ => rfl
  | x :: xs, h => by simp only [rightCs, h x (by simp), rightCs_all (l := xs) fun y hy => h y (by simp [hy]), Bool.and_self]
theorem pairG_mem {up : Bool} {l p : Int} {qs : List Co} {c : Co} (h : c ∈ (pairG up l p qs).2.2) : c ∈ qs := by
  revert h; unfold pairG
  split
  · split <;> simp
  · split
    · split <;> simp
    · split
      · simp
      · split <;> simp
theorem funG_mem {up : Bool} {l p : Int} {qs : List Co} {c : Co} (h : c ∈ (funG up l p qs).2.2) : c ∈ qs := by
  revert h; unfold funG
  split
  · split <;> simp
  · split
    · split <;> simp
    · simp
theorem goC_right {l : Int} (hl : 1 ≤ l ∧ l ≤ 99) : ∀ (d : Nat) (t : Ty) (up : Bool), rightT t d = true → rightC (goC up l t) d = true
  | 0, t, up, h => by rw [rightT_zero] at h; cases h
  | d + 1, t, up, h => by
    rw [rightT_succ] at h
    simp only [Bool.and_eq_true] at h
    obtain ⟨⟨h1, h2⟩, h3⟩ := h
    rw [rightC_succ, goC_ok h1 up hl, Bool.true_and]
    rw [goC_eq, goK]
    split
    · rfl
    · rw [Bool.and_eq_true]
      refine ⟨rightCs_all fun c hc => ?_, rightCs_all fun c hc => ?_⟩
      · have hc := pairG_mem (show c ∈ (pairG up l t.pair (goCs up l t.pairs)).2.2 from hc)
        rw [goCs_map] at hc
        obtain ⟨x, hx, rfl⟩ := List.mem_map.1 hc
        exact goC_right hl d x up (rightTs_mem h2 hx)
      · have hc := funG_mem (show c ∈ (funG up l t.fn (goFs up l t.funs)).2.2 from hc)
        obtain ⟨x, hx, u, rfl⟩ := goFs_mem up l hc
        exact goC_right hl d x u (rightTs_mem h3 hx)
theorem rightC_mono : ∀ (d e : Nat) (c : Co), d ≤ e → rightC c d = true → rightC c e = true
  | 0, e, c, _, h => by rw [rightC_zero] at h; cases h
  | d + 1, 0, c, h, _ => by omega
  | d + 1, e + 1, c, hle, h => by
    rw [rightC_succ] at h ⊢
    simp only [Bool.and_eq_true] at h ⊢
    exact ⟨⟨h.1.1, rightCs_all fun x hx => rightC_mono d e x (by omega) (rightCs_mem h.1.2 hx)⟩, rightCs_all fun x hx => rightC_mono d e x (by omega) (rightCs_mem h.2 hx)⟩
theorem and_bit0 {f : Int} (h0 : 0 ≤ f) (h1 : f ≤ 63) {i : Nat} (hi : i < 6) : decide (IntKind.i64.wrap (((BitVec.ofInt IntKind.i64.bits f &&& BitVec.ofInt IntKind.i64.bits (2 ^ i)).toNat : Nat) : Int) = 0) = bit0 f i := by
  obtain ⟨k, rfl⟩ : ∃ k : Fin 64, f = (k.val : Int) := ⟨⟨f.toNat, by omega⟩, by simp; omega⟩
  have key : ∀ (k : Fin 64) (i : Fin 6), decide (IntKind.i64.wrap (((BitVec.ofInt IntKind.i64.bits (k.val : Int) &&& BitVec.ofInt IntKind.i64.bits (2 ^ i.val)).toNat : Nat) : Int) = 0) = bit0 (k.val : Int) i.val := by decide +kernel
  exact key k ⟨i, hi⟩
end Go.Ev
