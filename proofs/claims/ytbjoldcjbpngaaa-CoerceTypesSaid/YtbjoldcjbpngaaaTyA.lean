/-
  Types as the evaluator's values.
-/
import Derived.Test.YtbjoldcjbpngaaaEvZ
set_option linter.unusedVariables false
namespace Go.Ev
open Go

/-- Types. -/
inductive Ty where
  | mk (all : Bool) (flat pair : Int) (pairs : List Ty) (fn : Int) (funs : List Ty)

namespace Ty
def all : Ty → Bool | mk a _ _ _ _ _ => a
def flat : Ty → Int | mk _ a _ _ _ _ => a
def pair : Ty → Int | mk _ _ a _ _ _ => a
def pairs : Ty → List Ty | mk _ _ _ a _ _ => a
def fn : Ty → Int | mk _ _ _ _ a _ => a
def funs : Ty → List Ty | mk _ _ _ _ _ a => a
end Ty

mutual
def encT : Ty → AVal
  | .mk a f p ps g gs => .agg [.bool a, .int .i64 f, .int .i64 p, .lst (encTs ps) false, .int .i64 g, .lst (encTs gs) false]
def encTs : List Ty → List AVal
  | [] => []
  | x :: xs => encT x :: encTs xs
end

/-- A type's cells. -/
def cT (x : Ty) : List AVal := [.bool x.all, .int .i64 x.flat, .int .i64 x.pair, .lst (x.pairs.map encT) false, .int .i64 x.fn, .lst (x.funs.map encT) false]
abbrev vT (x : Ty) : AVal := .agg (cT x)

theorem encTs_map : ∀ l : List Ty, encTs l = l.map encT
  | [] => rfl
  | x :: xs => by simp only [encTs, List.map_cons, encTs_map xs]
theorem encT_eq (x : Ty) : encT x = vT x := by
  cases x with | mk a f p ps g gs => simp only [encT, encTs_map, vT, cT, Ty.all, Ty.flat, Ty.pair, Ty.pairs, Ty.fn, Ty.funs]
theorem encT_flat (x : Ty) : (encT x).flat = cT x := by rw [encT_eq]; rfl
theorem encT_get {l : List Ty} {i : Int} {x : Ty} (h : l[i.toNat]? = some x) : (l.map encT)[i.toNat]? = some (encT x) := by rw [List.getElem?_map, h]; rfl
theorem encT_w (l : List Ty) : (l.map encT).all (fun y => decide (y.width = 6)) = true := by
  rw [List.all_eq_true]
  intro y hy
  obtain ⟨x, _, rfl⟩ := List.mem_map.1 hy
  simp [AVal.width, encT_flat, cT]

def encL (l : List Ty) : AVal := .lst (l.map encT) false
theorem encL_get {ls : List (List Ty)} {i : Nat} {x : List Ty} (h : ls[i]? = some x) : (ls.map encL)[((i : Nat) : Int).toNat]? = some (encL x) := by rw [Int.toNat_natCast, List.getElem?_map, h]; rfl

/-- The numbers in a type are numbers. -/
inductive WfT : Ty → Prop
  | mk {x : Ty} : (-9223372036854775808 ≤ x.flat ∧ x.flat < 9223372036854775808) → (-9223372036854775808 ≤ x.pair ∧ x.pair < 9223372036854775808) → (-9223372036854775808 ≤ x.fn ∧ x.fn < 9223372036854775808) → x.pairs.length < 9223372036854775808 → x.funs.length < 9223372036854775808 →
      (∀ y, y ∈ x.pairs → WfT y) → (∀ y, y ∈ x.funs → WfT y) → WfT x

mutual
/-- Of how many parts a type is. -/
def szT : Ty → Nat
  | .mk _ _ _ ps _ gs => 1 + szTs ps + szTs gs
def szTs : List Ty → Nat
  | [] => 0
  | x :: xs => szT x + szTs xs
end
theorem szT_eq (x : Ty) : szT x = 1 + szTs x.pairs + szTs x.funs := by cases x; rfl
theorem szT_pos (x : Ty) : 0 < szT x := by rw [szT_eq]; omega
theorem szTs_mem {x : Ty} : ∀ {l : List Ty}, x ∈ l → szT x ≤ szTs l
  | y :: ys, h => by
    simp only [szTs]
    rcases List.mem_cons.1 h with rfl | h
    · omega
    · have := szTs_mem h; omega
theorem szTs_len : ∀ l : List Ty, l.length ≤ szTs l
  | [] => by simp
  | y :: ys => by simp only [szTs, List.length_cons]; have := szTs_len ys; have := szT_pos y; omega
theorem szT_pairs {x y : Ty} (h : y ∈ x.pairs) : szT y < szT x := by rw [szT_eq x]; have := szTs_mem h; omega
theorem szT_funs {x y : Ty} (h : y ∈ x.funs) : szT y < szT x := by rw [szT_eq x]; have := szTs_mem h; omega
theorem len_pairs (x : Ty) : x.pairs.length < szT x := by rw [szT_eq x]; have := szTs_len x.pairs; omega
theorem len_funs (x : Ty) : x.funs.length < szT x := by rw [szT_eq x]; have := szTs_len x.funs; omega

mutual
/-- Are two types the same? -/
def sameT : Ty → Ty → Bool
  | .mk a f p ps g gs, .mk a' f' p' ps' g' gs' => a == a' && decide (f = f') && decide (p = p') && decide (g = g') && sameTs ps ps' && sameTs gs gs'
def sameTs : List Ty → List Ty → Bool
  | [], [] => true
  | x :: xs, y :: ys => sameT x y && sameTs xs ys
  | _, _ => false
end
theorem sameT_eq (a b : Ty) : sameT a b = (a.all == b.all && decide (a.flat = b.flat) && decide (a.pair = b.pair) && decide (a.fn = b.fn) && sameTs a.pairs b.pairs && sameTs a.funs b.funs) := by
  cases a; cases b; rfl
theorem sameTs_len : ∀ {l m : List Ty}, sameTs l m = true → l.length = m.length
  | [], [], _ => rfl
  | x :: xs, y :: ys, h => by simp only [sameTs, Bool.and_eq_true] at h; simp [sameTs_len h.2]
  | [], _ :: _, h => by simp [sameTs] at h
  | _ :: _, [], h => by simp [sameTs] at h

theorem sameT_true {a b : Ty} (h : sameT a b = true) : a.all = b.all ∧ a.flat = b.flat ∧ a.pair = b.pair ∧ a.fn = b.fn ∧ sameTs a.pairs b.pairs = true ∧ sameTs a.funs b.funs = true := by
  rw [sameT_eq] at h
  simp only [Bool.and_eq_true, beq_iff_eq, decide_eq_true_eq] at h
  obtain ⟨⟨⟨⟨⟨h1, h2⟩, h3⟩, h4⟩, h5⟩, h6⟩ := h
  exact ⟨h1, h2, h3, h4, h5, h6⟩

theorem wrap_succ {i : Nat} (h : i < 9223372036854775807) : IntKind.i64.wrap ((i : Int) + 1) = ((i + 1 : Nat) : Int) := by
  rw [kw_i64_id (by omega) (by omega)]; rfl

theorem wrap_add {i j : Nat} (h : i + j < 9223372036854775808) : IntKind.i64.wrap ((i : Int) + (j : Int)) = ((i + j : Nat) : Int) := by
  rw [kw_i64_id (by omega) (by omega)]; rfl

theorem drop_of {α : Type} {l : List α} {i : Nat} {x : α} (h : l[i]? = some x) : l.drop i = x :: l.drop (i + 1) := by
  obtain ⟨hi, rfl⟩ := List.getElem?_eq_some_iff.1 h
  exact List.drop_eq_getElem_cons hi

/-! ### How great a type is -/
mutual
def rsz : Ty → Nat → Nat
  | .mk _ _ _ ps _ gs, left => match left with
    | 0 => 1000
    | l + 1 => min 1000 (1 + rszs ps l + rszs gs l)
def rszs : List Ty → Nat → Nat
  | [], _ => 0
  | x :: xs, l => rsz x l + rszs xs l
end
theorem rsz_zero (x : Ty) : rsz x 0 = 1000 := by cases x; rfl
theorem rsz_succ (x : Ty) (l : Nat) : rsz x (l + 1) = min 1000 (1 + rszs x.pairs l + rszs x.funs l) := by cases x; rfl
theorem rsz_le (x : Ty) (l : Nat) : rsz x l ≤ 1000 := by cases l <;> simp only [rsz_zero, rsz_succ] <;> omega
theorem rsz_pos (x : Ty) (l : Nat) : 0 < rsz x l := by cases l <;> simp only [rsz_zero, rsz_succ] <;> omega

mutual
theorem rsz_sz : ∀ (x : Ty) (l : Nat), rsz x l < 1000 → szT x = rsz x l
  | .mk a f p ps g gs, 0, h => by simp [rsz] at h
  | .mk a f p ps g gs, l + 1, h => by
    simp only [rsz] at h ⊢
    rw [szT, rszs_sz ps l (by omega), rszs_sz gs l (by omega)]; omega
theorem rszs_sz : ∀ (xs : List Ty) (l : Nat), rszs xs l < 1000 → szTs xs = rszs xs l
  | [], _, _ => rfl
  | x :: xs, l, h => by
    simp only [rszs] at h ⊢
    rw [szTs, rsz_sz x l (by omega), rszs_sz xs l (by omega)]
end

/-! ### May a type be? -/
def pcnt (p : Int) : Int := if p = 1 then 2 else if p = 2 then 1 else 0

/-- .. apart from its parts. -/
def okT (x : Ty) : Bool :=
  decide (0 ≤ x.flat) && decide (x.flat ≤ 63) && decide (0 ≤ x.pair) && decide (x.pair ≤ 2) && decide (0 ≤ x.fn) && decide (x.fn ≤ 2) && (!x.all || (decide (x.flat = 0) && decide (x.pair = 0) && decide (x.fn = 0))) &&
    decide ((x.pairs.length : Int) = pcnt x.pair) && (if x.fn = 1 then decide (1 ≤ x.funs.length) && decide (x.funs.length ≤ 9) else decide (x.funs.length = 0))

mutual
def rightT : Ty → Nat → Bool
  | .mk a f p ps g gs, d => match d with
    | 0 => false
    | d + 1 => okT (.mk a f p ps g gs) && rightTs ps d && rightTs gs d
def rightTs : List Ty → Nat → Bool
  | [], _ => true
  | x :: xs, d => rightT x d && rightTs xs d
end
theorem rightT_zero (x : Ty) : rightT x 0 = false := by cases x; rfl
theorem rightT_succ (x : Ty) (d : Nat) : rightT x (d + 1) = (okT x && rightTs x.pairs d && rightTs x.funs d) := by cases x; rfl
theorem rightTs_any : ∀ (l : List Ty) (d : Nat), rightTs l d = !l.any (fun x => !rightT x d)
  | [], _ => rfl
  | x :: xs, d => by simp [rightTs, rightTs_any xs d]
theorem rightTs_mem {d : Nat} : ∀ {l : List Ty} {x : Ty}, rightTs l d = true → x ∈ l → rightT x d = true
  | y :: ys, x, h, hm => by
    simp only [rightTs, Bool.and_eq_true] at h
    rcases List.mem_cons.1 hm with rfl | hm
    · exact h.1
    · exact rightTs_mem h.2 hm

/-- Where the first one is of which something holds. -/
def fidx {α : Type} (p : α → Bool) : List α → Nat → Int
  | [], _ => -1
  | x :: xs, i => if p x then (i : Int) else fidx p xs (i + 1)
theorem fidx_ge {α : Type} (p : α → Bool) : ∀ (l : List α) (i : Nat), fidx p l i = -1 ∨ 0 ≤ fidx p l i
  | [], _ => .inl rfl
  | x :: xs, i => by unfold fidx; split; exact .inr (by omega); exact fidx_ge p xs (i + 1)
theorem fidx_any {α : Type} (p : α → Bool) : ∀ (l : List α) (i : Nat), decide (0 ≤ fidx p l i) = l.any p
  | [], _ => rfl
  | x :: xs, i => by
    unfold fidx
    split
    · rename_i h; simp [h]
    · rename_i h; rw [fidx_any p xs (i + 1)]; simp [h]

theorem bv_andn63 (x : BitVec 64) : (x &&& ~~~63#64) = 0#64 ↔ x.toNat < 64 := by
  constructor
  · intro h
    have e : x = x &&& 63#64 := by
      ext i hi
      have := congrArg (fun v => v.getLsbD i) h
      simp only [BitVec.getLsbD_and, BitVec.getLsbD_not, BitVec.getLsbD_zero, hi, decide_true, Bool.true_and] at this
      simp only [BitVec.getElem_and]
      rw [BitVec.getLsbD_eq_getElem hi, BitVec.getLsbD_eq_getElem hi] at this
      cases h1 : x[i] <;> cases h2 : (63#64)[i] <;> simp_all
    rw [e, BitVec.toNat_and]
    have := @Nat.and_le_right x.toNat (63#64).toNat
    have h2 : (63#64).toNat = 63 := rfl
    omega
  · intro h
    have key : ∀ k : Fin 64, (BitVec.ofNat 64 k.val &&& ~~~63#64) = 0#64 := by decide
    have := key ⟨x.toNat, h⟩
    simpa using this

theorem i64_bits (v : BitVec 64) : IntKind.i64.wrap ((v.toNat : Nat) : Int) = 0 ↔ v = 0#64 := by
  rw [kw_i64]
  have := v.isLt
  constructor
  · intro h
    apply BitVec.eq_of_toNat_eq
    simp; omega
  · intro h; subst h; decide

theorem toNat_i64 {x : Int} (h0 : -9223372036854775808 ≤ x) (h1 : x < 9223372036854775808) : ((BitVec.ofInt 64 x).toNat : Int) = x % 18446744073709551616 := by
  rw [BitVec.toNat_ofInt]; omega

theorem flat63 {x : Int} (h0 : -9223372036854775808 ≤ x) (h1 : x < 9223372036854775808) : (IntKind.i64.wrap (((BitVec.ofInt IntKind.i64.bits x &&& ~~~ BitVec.ofInt IntKind.i64.bits 63).toNat : Nat) : Int) = 0) ↔ (0 ≤ x ∧ x ≤ 63) := by
  show (IntKind.i64.wrap (((BitVec.ofInt 64 x &&& ~~~ BitVec.ofInt 64 63).toNat : Nat) : Int) = 0) ↔ (0 ≤ x ∧ x ≤ 63)
  rw [i64_bits, show BitVec.ofInt 64 63 = 63#64 by decide, bv_andn63]
  have := toNat_i64 h0 h1
  omega

theorem bv_or0 (x y : BitVec 64) : (x ||| y) = 0#64 ↔ x = 0#64 ∧ y = 0#64 := by
  constructor
  · intro h
    constructor
    · ext i hi
      have := congrArg (fun v => v.getLsbD i) h
      simp at this; simp [BitVec.getLsbD_eq_getElem hi] at this; simp [this]
    · ext i hi
      have := congrArg (fun v => v.getLsbD i) h
      simp at this; simp [BitVec.getLsbD_eq_getElem hi] at this; simp [this]
  · rintro ⟨rfl, rfl⟩; rfl

theorem bv_ofInt0 {x : Int} (h0 : -9223372036854775808 ≤ x) (h1 : x < 9223372036854775808) : BitVec.ofInt 64 x = 0#64 ↔ x = 0 := by
  constructor
  · intro h
    have := toNat_i64 h0 h1
    rw [h] at this; simp at this; omega
  · rintro rfl; rfl

theorem ofInt_wrap (v : BitVec 64) : BitVec.ofInt 64 (IntKind.i64.wrap ((v.toNat : Nat) : Int)) = v := by
  apply BitVec.eq_of_toNat_eq
  have := v.isLt
  rw [BitVec.toNat_ofInt, kw_i64]; omega

theorem or3_zero {x y z : Int} (hx : -9223372036854775808 ≤ x ∧ x < 9223372036854775808) (hy : -9223372036854775808 ≤ y ∧ y < 9223372036854775808) (hz : -9223372036854775808 ≤ z ∧ z < 9223372036854775808) :
    IntKind.i64.wrap (((BitVec.ofInt IntKind.i64.bits (IntKind.i64.wrap (((BitVec.ofInt IntKind.i64.bits x ||| BitVec.ofInt IntKind.i64.bits y).toNat : Nat) : Int)) ||| BitVec.ofInt IntKind.i64.bits z).toNat : Nat) : Int) = 0 ↔ (x = 0 ∧ y = 0) ∧ z = 0 := by
  show IntKind.i64.wrap (((BitVec.ofInt 64 (IntKind.i64.wrap (((BitVec.ofInt 64 x ||| BitVec.ofInt 64 y).toNat : Nat) : Int)) ||| BitVec.ofInt 64 z).toNat : Nat) : Int) = 0 ↔ (x = 0 ∧ y = 0) ∧ z = 0
  rw [i64_bits, bv_or0, ofInt_wrap, bv_or0, bv_ofInt0 hx.1 hx.2, bv_ofInt0 hy.1 hy.2, bv_ofInt0 hz.1 hz.2]

theorem ixa_pcnt {p : Int} (h0 : 0 ≤ p) (h2 : p ≤ 2) : (if 0 ≤ p ∧ p < ((3 : Nat) : Int) then part (p.toNat * 1) none [AVal.int .i64 0, AVal.int .i64 2, AVal.int .i64 1] else none) = some (.int .i64 (pcnt p)) := by
  rw [if_pos ⟨h0, by omega⟩]
  obtain rfl | rfl | rfl : p = 0 ∨ p = 1 ∨ p = 2 := by omega
  all_goals rfl
/-! ### How many parts may still be -/
mutual
def cntT : Ty → Int → Int
  | .mk _ _ _ ps _ gs, l => cntTs gs (cntTs ps (l - 1))
def cntTs : List Ty → Int → Int
  | [], l => l
  | x :: xs, l => if l < 0 then l else cntTs xs (cntT x l)
end
theorem cntT_eq (x : Ty) (l : Int) : cntT x l = cntTs x.funs (cntTs x.pairs (l - 1)) := by cases x; rfl
theorem cntTs_neg {l : Int} (h : l < 0) : ∀ xs : List Ty, cntTs xs l = l
  | [] => rfl
  | x :: xs => by simp [cntTs, h]
theorem cntTs_append : ∀ (xs ys : List Ty) (l : Int), cntTs (xs ++ ys) l = cntTs ys (cntTs xs l)
  | [], ys, l => rfl
  | x :: xs, ys, l => by
    simp only [List.cons_append, cntTs]
    split
    · rename_i h; rw [cntTs_neg h]
    · exact cntTs_append xs ys _

mutual
theorem cntT_sz : ∀ (x : Ty) (l : Int), 0 ≤ l → (szT x ≤ l → cntT x l = l - szT x) ∧ (l < szT x → cntT x l < 0) ∧ -1 ≤ cntT x l ∧ cntT x l ≤ l
  | .mk a f p ps g gs, l, h => by
    simp only [cntT, szT]
    by_cases h0 : l - 1 < 0
    · rw [cntTs_neg h0, cntTs_neg h0]; omega
    · have h1 := cntTs_sz ps (l - 1) (by omega)
      by_cases h2 : cntTs ps (l - 1) < 0
      · rw [cntTs_neg h2]; omega
      · have h3 := cntTs_sz gs (cntTs ps (l - 1)) (by omega)
        omega
theorem cntTs_sz : ∀ (xs : List Ty) (l : Int), 0 ≤ l → (szTs xs ≤ l → cntTs xs l = l - szTs xs) ∧ (l < szTs xs → cntTs xs l < 0) ∧ -1 ≤ cntTs xs l ∧ cntTs xs l ≤ l
  | [], l, h => by simp only [cntTs, szTs]; omega
  | x :: xs, l, h => by
    simp only [cntTs, szTs]
    rw [if_neg (by omega)]
    have h1 := cntT_sz x l h
    by_cases h2 : cntT x l < 0
    · rw [cntTs_neg h2]; omega
    · have h3 := cntTs_sz xs (cntT x l) (by omega)
      omega
end
theorem putCells_cT (x : Ty) (a b c d e f : AVal) : putCells 0 (cT x) [a, b, c, d, e, f] = cT x := rfl
theorem take_cT (x : Ty) : List.take 6 (cT x) = cT x := rfl
end Go.Ev
