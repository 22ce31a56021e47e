/-
  Cars and cdrs of types; whether one is of another; their join.
-/
import Derived.Test.YtbjoldcjbpngaaaTyA
set_option linter.unusedVariables false
set_option linter.unusedSimpArgs false
namespace Go.Ev
open Go

def zeroT : Ty := ⟨false, 0, 0, [], 0, []⟩
def allT : Ty := ⟨true, 0, 0, [], 0, []⟩
def listT (x : Ty) : Ty := ⟨false, 16, 2, [x], 0, []⟩
def pairT (x y : Ty) : Ty := ⟨false, 0, 1, [x, y], 0, []⟩

/-- What a type is that may be: all, or of its parts. -/
theorem okT_facts {t : Ty} (h : okT t = true) : (0 ≤ t.flat ∧ t.flat ≤ 63) ∧ (0 ≤ t.pair ∧ t.pair ≤ 2) ∧ (0 ≤ t.fn ∧ t.fn ≤ 2) ∧ (t.all = true → t = allT) ∧ (t.pair = 0 → t.pairs = []) ∧ (t.pair = 1 → ∃ x y, t.pairs = [x, y]) ∧ (t.pair = 2 → ∃ x, t.pairs = [x]) ∧
    (t.fn = 1 → 1 ≤ t.funs.length ∧ t.funs.length ≤ 9) ∧ (t.fn ≠ 1 → t.funs = []) := by
  unfold okT at h
  simp only [Bool.and_eq_true, decide_eq_true_eq] at h
  obtain ⟨⟨⟨⟨⟨⟨⟨⟨h1, h2⟩, h3⟩, h4⟩, h5⟩, h6⟩, h7⟩, h8⟩, h9⟩ := h
  have p0 : t.pair = 0 → t.pairs = [] := by
    intro h; rw [h] at h8; exact List.length_eq_zero_iff.1 (by simpa [pcnt] using h8)
  have f1 : t.fn ≠ 1 → t.funs = [] := by
    intro h; rw [if_neg h] at h9; exact List.length_eq_zero_iff.1 (by simpa using h9)
  refine ⟨⟨h1, h2⟩, ⟨h3, h4⟩, ⟨h5, h6⟩, ?_, p0, ?_, ?_, ?_, f1⟩
  · intro ha
    simp only [ha, Bool.not_true, Bool.false_or, Bool.and_eq_true, decide_eq_true_eq] at h7
    have q1 := p0 h7.1.2
    have q2 := f1 (by rw [h7.2]; decide)
    cases t with | mk a f p ps g gs =>
    simp only [Ty.all, Ty.flat, Ty.pair, Ty.fn, Ty.pairs, Ty.funs] at *
    rw [ha, h7.1.1, h7.1.2, h7.2, q1, q2]; rfl
  · intro h; rw [h] at h8
    have h8' : t.pairs.length = 2 := by simp [pcnt] at h8; omega
    exact len2 h8'
  · intro h; rw [h] at h8
    have h8' : t.pairs.length = 1 := by simp [pcnt] at h8; omega
    exact len1 h8'
  · intro h; rw [if_pos h] at h9; simpa using h9

/-- A type that may be, however deep. -/
def Rt (t : Ty) : Prop := ∃ d, rightT t d = true
theorem Rt.ok {t : Ty} (h : Rt t) : okT t = true := by
  obtain ⟨d, h⟩ := h
  cases d with
  | zero => rw [rightT_zero] at h; cases h
  | succ d => rw [rightT_succ] at h; simp only [Bool.and_eq_true] at h; exact h.1.1
theorem Rt.pairs {t x : Ty} (h : Rt t) (hx : x ∈ t.pairs) : Rt x := by
  obtain ⟨d, h⟩ := h
  cases d with
  | zero => rw [rightT_zero] at h; cases h
  | succ d => rw [rightT_succ] at h; simp only [Bool.and_eq_true] at h; exact ⟨d, rightTs_mem h.1.2 hx⟩
theorem Rt.funs {t x : Ty} (h : Rt t) (hx : x ∈ t.funs) : Rt x := by
  obtain ⟨d, h⟩ := h
  cases d with
  | zero => rw [rightT_zero] at h; cases h
  | succ d => rw [rightT_succ] at h; simp only [Bool.and_eq_true] at h; exact ⟨d, rightTs_mem h.2 hx⟩
theorem Rt.list {x : Ty} (h : Rt x) : Rt (listT x) := by
  obtain ⟨d, h⟩ := h
  refine ⟨d + 1, ?_⟩
  rw [rightT_succ]
  simp [listT, okT, Ty.all, Ty.flat, Ty.pair, Ty.pairs, Ty.fn, Ty.funs, pcnt, rightTs, h]
theorem Rt.all : Rt allT := ⟨1, by rfl⟩
theorem Rt.zero : Rt zeroT := ⟨1, by rfl⟩
theorem WfT.flat {t : Ty} (h : WfT t) : -9223372036854775808 ≤ t.flat ∧ t.flat < 9223372036854775808 := by cases h; assumption
theorem WfT.pairs {t x : Ty} (h : WfT t) (hx : x ∈ t.pairs) : WfT x := by cases h with | mk w1 w2 w3 w4 w5 w6 w7 => exact w6 x hx
theorem WfT.funs {t x : Ty} (h : WfT t) (hx : x ∈ t.funs) : WfT x := by cases h with | mk w1 w2 w3 w4 w5 w6 w7 => exact w7 x hx
theorem WfT.list {x : Ty} (h : WfT x) : WfT (listT x) := by
  refine .mk (by simp [listT, Ty.flat]) (by simp [listT, Ty.pair]) (by simp [listT, Ty.fn]) (by simp [listT, Ty.pairs]) (by simp [listT, Ty.funs]) ?_ (by simp [listT, Ty.funs])
  intro y hy
  simp [listT, Ty.pairs] at hy
  subst hy; exact h
theorem WfT.zero : WfT zeroT := .mk (by simp [zeroT, Ty.flat]) (by simp [zeroT, Ty.pair]) (by simp [zeroT, Ty.fn]) (by simp [zeroT, Ty.pairs]) (by simp [zeroT, Ty.funs]) (by simp [zeroT, Ty.pairs]) (by simp [zeroT, Ty.funs])
theorem WfT.allT : WfT allT := .mk (by simp [Ev.allT, Ty.flat]) (by simp [Ev.allT, Ty.pair]) (by simp [Ev.allT, Ty.fn]) (by simp [Ev.allT, Ty.pairs]) (by simp [Ev.allT, Ty.funs]) (by simp [Ev.allT, Ty.pairs]) (by simp [Ev.allT, Ty.funs])

def carT (t : Ty) : Ty := if t.all then t else if t.pair = 0 then zeroT else t.pairs.headD zeroT
def cdrT (t : Ty) : Ty := if t.all then t else if t.pair = 0 then zeroT else if t.pair = 2 then listT (t.pairs.headD zeroT) else (t.pairs[1]?).getD zeroT
def hasT (t : Ty) : Bool := t.all || !decide (t.pair = 0)

theorem headD_mem {l : List Ty} (h : l ≠ []) : l.headD zeroT ∈ l := by cases l with | nil => exact absurd rfl h | cons x xs => simp

/-- Cars and cdrs of types with pairs. -/
theorem car_facts {t : Ty} (h : Rt t) (ha : t.all = false) (hp : t.pair ≠ 0) : carT t ∈ t.pairs ∧ Rt (carT t) ∧ szT (carT t) < szT t := by
  obtain ⟨_, _, _, _, _, h1, h2, _⟩ := okT_facts h.ok
  have hne : t.pairs ≠ [] := by
    have := (okT_facts h.ok).2.1
    rcases (show t.pair = 1 ∨ t.pair = 2 by omega) with q | q
    · obtain ⟨x, y, e⟩ := h1 q; simp [e]
    · obtain ⟨x, e⟩ := h2 q; simp [e]
  have e : carT t = t.pairs.headD zeroT := by simp [carT, ha, hp]
  have hm := headD_mem hne
  rw [e]
  exact ⟨hm, h.pairs hm, szT_pairs hm⟩
theorem szT_list (x : Ty) : szT (listT x) = 1 + szT x := by simp [listT, szT, szTs]
theorem cdr_facts {t : Ty} (h : Rt t) (ha : t.all = false) (hp : t.pair ≠ 0) : (t.pair = 1 → cdrT t ∈ t.pairs ∧ szT (cdrT t) < szT t) ∧ (t.pair = 2 → cdrT t = listT (carT t) ∧ szT (cdrT t) ≤ szT t) ∧ Rt (cdrT t) := by
  obtain ⟨_, _, _, _, _, h1, h2, _⟩ := okT_facts h.ok
  have hb := (okT_facts h.ok).2.1
  rcases (show t.pair = 1 ∨ t.pair = 2 by omega) with q | q
  · obtain ⟨x, y, e⟩ := h1 q
    have e2 : cdrT t = y := by simp [cdrT, ha, hp, q, e]
    have hy : y ∈ t.pairs := by simp [e]
    rw [e2]
    exact ⟨fun _ => ⟨hy, szT_pairs hy⟩, fun h => by omega, h.pairs hy⟩
  · obtain ⟨x, e⟩ := h2 q
    have hx : x ∈ t.pairs := by simp [e]
    have e1 : carT t = x := by simp [carT, ha, hp, e]
    have e2 : cdrT t = listT x := by simp [cdrT, ha, hp, q, e]
    rw [e2, e1, szT_list]
    exact ⟨fun h => by omega, fun _ => ⟨rfl, by have := szT_pairs hx; omega⟩, (h.pairs hx).list⟩
theorem car_wf {t : Ty} (h : WfT t) : WfT (carT t) := by
  unfold carT
  split
  · exact h
  · split
    · exact .zero
    · by_cases hn : t.pairs = []
      · rw [hn]; exact .zero
      · exact h.pairs (headD_mem hn)
theorem cdr_wf {t : Ty} (h : WfT t) : WfT (cdrT t) := by
  unfold cdrT
  split
  · exact h
  · split
    · exact .zero
    · split
      · refine WfT.list ?_
        by_cases hn : t.pairs = []
        · rw [hn]; exact .zero
        · exact h.pairs (headD_mem hn)
      · cases hy : t.pairs[1]? with
        | none => exact .zero
        | some y => exact h.pairs (List.mem_of_getElem? hy)

/-- Are some flat tags among others? -/
def subF (a b : Int) : Bool := a.toNat &&& b.toNat == a.toNat
def orF (a b : Int) : Int := ((a.toNat ||| b.toNat : Nat) : Int)

/-- Sub, so deep. -/
def subT : Nat → Ty → Ty → Bool
  | 0, _, _ => false
  | k + 1, a, b =>
    if b.all then true
    else if a.all || !subF a.flat b.flat || (!decide (a.pair = 0) && decide (b.pair = 0)) || (!decide (a.fn = 0) && decide (b.fn = 0)) then false
    else
      let is := if a.pair = 0 then true else subT k (carT a) (carT b) && (if a.pair = 2 ∧ b.pair = 2 then true else subT k (cdrT a) (cdrT b))
      if a.fn = 0 ∨ b.fn = 2 then is
      else if a.fn = 2 ∨ b.funs.length ≠ a.funs.length then false
      else is && (List.range (a.funs.length - 1)).all (fun i => subT k (b.funs.getD i zeroT) (a.funs.getD i zeroT)) && subT k (a.funs.getD (a.funs.length - 1) zeroT) (b.funs.getD (a.funs.length - 1) zeroT)

def joinG (a b : Ty) : Int × List Ty := if a.fn = 0 then (b.fn, b.funs) else if b.fn ≠ 0 ∧ ¬(a.fn = b.fn ∧ sameTs a.funs b.funs = true) then (2, []) else (a.fn, a.funs)

def joinT : Nat → Ty → Ty → Ty
  | 0, _, _ => allT
  | k + 1, a, b =>
    if a.all || b.all then allT
    else
      let p : Int × List Ty := if a.pair = 0 then (b.pair, b.pairs) else if b.pair = 0 then (a.pair, a.pairs)
        else if a.pair = 2 ∧ b.pair = 2 then (2, [joinT k (carT a) (carT b)]) else (1, [joinT k (carT a) (carT b), joinT k (cdrT a) (cdrT b)])
      ⟨false, orF a.flat b.flat, p.1, p.2, (joinG a b).1, (joinG a b).2⟩

def joinP (k : Nat) (a b : Ty) : Int × List Ty := if a.pair = 0 then (b.pair, b.pairs) else if b.pair = 0 then (a.pair, a.pairs)
        else if a.pair = 2 ∧ b.pair = 2 then (2, [joinT k (carT a) (carT b)]) else (1, [joinT k (carT a) (carT b), joinT k (cdrT a) (cdrT b)])

theorem joinT_all (k : Nat) (a b : Ty) (h : (a.all || b.all) = true) : joinT (k + 1) a b = allT := by rw [joinT, h]; rfl
theorem joinT_succ (k : Nat) (a b : Ty) (h : (a.all || b.all) = false) : joinT (k + 1) a b = ⟨false, orF a.flat b.flat, (joinP k a b).1, (joinP k a b).2, (joinG a b).1, (joinG a b).2⟩ := by rw [joinT, h]; rfl

theorem flats_key : ∀ a b : Fin 64, (BitVec.ofNat 64 a.val &&& ~~~ BitVec.ofNat 64 b.val = 0#64) ↔ (a.val &&& b.val == a.val) = true := by decide +kernel

theorem ofInt_small {a : Int} (h0 : 0 ≤ a) (h1 : a ≤ 63) : BitVec.ofInt 64 a = BitVec.ofNat 64 a.toNat := by
  apply BitVec.eq_of_toNat_eq
  rw [BitVec.toNat_ofInt, BitVec.toNat_ofNat]; omega

theorem andn_sub {a b : Int} (ha : 0 ≤ a ∧ a ≤ 63) (hb : 0 ≤ b ∧ b ≤ 63) : IntKind.i64.wrap (((BitVec.ofInt IntKind.i64.bits a &&& ~~~ BitVec.ofInt IntKind.i64.bits b).toNat : Nat) : Int) = 0 ↔ subF a b = true := by
  show IntKind.i64.wrap (((BitVec.ofInt 64 a &&& ~~~ BitVec.ofInt 64 b).toNat : Nat) : Int) = 0 ↔ _
  rw [i64_bits, ofInt_small ha.1 ha.2, ofInt_small hb.1 hb.2]
  exact flats_key ⟨a.toNat, by omega⟩ ⟨b.toNat, by omega⟩

theorem getD_of {l : List Ty} {i : Nat} {x : Ty} (h : l[i]? = some x) : l.getD i zeroT = x := by simp [List.getD, h]
theorem range_all_succ (p : Nat → Bool) (i : Nat) : (List.range (i + 1)).all p = ((List.range i).all p && p i) := by simp [List.range_succ]
theorem andn_dec {a b : Int} (ha : 0 ≤ a ∧ a ≤ 63) (hb : 0 ≤ b ∧ b ≤ 63) : decide (IntKind.i64.wrap (((BitVec.ofInt IntKind.i64.bits a &&& ~~~ BitVec.ofInt IntKind.i64.bits b).toNat : Nat) : Int) = 0) = subF a b := by
  rw [Bool.eq_iff_iff, decide_eq_true_eq, andn_sub ha hb]

theorem subT_succ (k : Nat) (a b : Ty) (hb : b.all = false) (hc : (a.all || !subF a.flat b.flat || (!decide (a.pair = 0) && decide (b.pair = 0)) || (!decide (a.fn = 0) && decide (b.fn = 0))) = false) :
    subT (k + 1) a b = (if a.fn = 0 ∨ b.fn = 2 then (if a.pair = 0 then true else (subT k (carT a) (carT b) && (if a.pair = 2 ∧ b.pair = 2 then true else subT k (cdrT a) (cdrT b)))) else if a.fn = 2 ∨ b.funs.length ≠ a.funs.length then false
      else ((if a.pair = 0 then true else (subT k (carT a) (carT b) && (if a.pair = 2 ∧ b.pair = 2 then true else subT k (cdrT a) (cdrT b)))) && (List.range (a.funs.length - 1)).all (fun i => subT k (b.funs.getD i zeroT) (a.funs.getD i zeroT)) && subT k (a.funs.getD (a.funs.length - 1) zeroT) (b.funs.getD (a.funs.length - 1) zeroT))) := by
  rw [subT, hb, hc]; simp only [Bool.false_eq_true, if_false]
theorem subT_conj (k : Nat) (a b : Ty) (hb : b.all = false) (ha : a.all = false) : subT (k + 1) a b =
    (subF a.flat b.flat && (decide (a.pair = 0) || (!decide (b.pair = 0) && subT k (carT a) (carT b) && (decide (a.pair = 2 ∧ b.pair = 2) || subT k (cdrT a) (cdrT b)))) &&
      (decide (a.fn = 0) || (!decide (b.fn = 0) && (decide (b.fn = 2) || (!decide (a.fn = 2) && decide (b.funs.length = a.funs.length) && (List.range (a.funs.length - 1)).all (fun i => subT k (b.funs.getD i zeroT) (a.funs.getD i zeroT)) &&
        subT k (a.funs.getD (a.funs.length - 1) zeroT) (b.funs.getD (a.funs.length - 1) zeroT)))))) := by
  rw [subT]
  simp only [hb, ha, Bool.false_eq_true, if_false, Bool.false_or]
  generalize (List.range (a.funs.length - 1)).all (fun i => subT k (b.funs.getD i zeroT) (a.funs.getD i zeroT)) = X
  generalize subT k (a.funs.getD (a.funs.length - 1) zeroT) (b.funs.getD (a.funs.length - 1) zeroT) = Y
  generalize subT k (carT a) (carT b) = r1
  generalize subT k (cdrT a) (cdrT b) = r2
  cases subF a.flat b.flat
  · simp
  · by_cases h1 : a.pair = 0 <;> by_cases h2 : b.pair = 0 <;> by_cases h3 : a.fn = 0 <;> by_cases h4 : b.fn = 0 <;> by_cases h5 : b.fn = 2 <;> by_cases h6 : a.fn = 2 <;> by_cases h7 : b.funs.length = a.funs.length <;> by_cases h8 : a.pair = 2 ∧ b.pair = 2 <;>
      simp [h1, h2, h3, h4, h5, h6, h7, h8] <;> first | omega | (cases r1 <;> cases r2 <;> cases X <;> cases Y <;> simp_all)

def bitOk (a b : Int) (j : Nat) : Bool := !(decide (a.toNat / 2 ^ j % 2 = 1) && decide (b.toNat / 2 ^ j % 2 = 0))
theorem bits_key : ∀ a b : Fin 64, (a.val &&& b.val == a.val) = (List.range 6).all (fun j => !(decide (a.val / 2 ^ j % 2 = 1) && decide (b.val / 2 ^ j % 2 = 0))) := by decide +kernel
theorem subF_bits {a b : Int} (ha : 0 ≤ a ∧ a ≤ 63) (hb : 0 ≤ b ∧ b ≤ 63) : subF a b = (List.range 6).all (bitOk a b) := bits_key ⟨a.toNat, by omega⟩ ⟨b.toNat, by omega⟩
theorem tdiv_pow {a : Int} (ha : 0 ≤ a ∧ a ≤ 63) (j : Nat) : IntKind.i64.wrap (a.tdiv ((2 ^ j : Nat) : Int)) = ((a.toNat / 2 ^ j : Nat) : Int) := by
  have h : a.tdiv ((2 ^ j : Nat) : Int) = ((a.toNat / 2 ^ j : Nat) : Int) := by
    rw [Int.tdiv_eq_ediv_of_nonneg ha.1, Int.natCast_ediv, Int.toNat_of_nonneg ha.1]
  have h2 : a.toNat / 2 ^ j ≤ a.toNat := Nat.div_le_self _ _
  rw [h]
  generalize a.toNat / 2 ^ j = q at h2
  exact kw_i64_id (by omega) (by omega)
theorem tmod2 (q : Nat) : ((q : Nat) : Int).tmod 2 = ((q % 2 : Nat) : Int) := by
  rw [Int.tmod_eq_emod_of_nonneg (by omega)]; omega
theorem wrap_dbl {j : Nat} (h : j ≤ 6) : IntKind.i64.wrap (2 * ((2 ^ j : Nat) : Int)) = ((2 ^ (j + 1) : Nat) : Int) := by
  have : 2 ^ j ≤ 2 ^ 6 := Nat.pow_le_pow_right (by decide) h
  rw [Nat.pow_succ]
  generalize 2 ^ j = q at this
  rw [kw_i64_id (by omega) (by omega)]; omega
theorem pow_lt64 {j : Nat} (h : j ≤ 6) : ((2 ^ j : Nat) : Int) < 64 ↔ j < 6 := by
  have : ∀ q : Fin 7, ((2 ^ q.val : Nat) : Int) < 64 ↔ q.val < 6 := by decide
  exact this ⟨j, by omega⟩
theorem pow_ne0 (j : Nat) : ((2 ^ j : Nat) : Int) ≠ 0 := by
  have := Nat.two_pow_pos j
  generalize 2 ^ j = q at this ⊢
  omega
theorem bit_cast (a b : Int) (j : Nat) : (decide (((a.toNat / 2 ^ j % 2 : Nat) : Int) = 1) && decide (((b.toNat / 2 ^ j % 2 : Nat) : Int) = 0)) = !bitOk a b j := by
  unfold bitOk
  generalize a.toNat / 2 ^ j % 2 = p
  generalize b.toNat / 2 ^ j % 2 = q
  rw [Bool.not_not]
  congr 1 <;> apply decide_eq_decide.2 <;> omega
theorem or_key : ∀ a b : Fin 64, (BitVec.ofNat 64 a.val ||| BitVec.ofNat 64 b.val).toNat = a.val ||| b.val := by decide +kernel
theorem or_lt : ∀ a b : Fin 64, a.val ||| b.val < 64 := by decide +kernel
theorem orF_b {a b : Int} (ha : 0 ≤ a ∧ a ≤ 63) (hb : 0 ≤ b ∧ b ≤ 63) : 0 ≤ orF a b ∧ orF a b ≤ 63 := by
  have := or_lt ⟨a.toNat, by omega⟩ ⟨b.toNat, by omega⟩
  unfold orF; simp only at this; omega
theorem or_orF {a b : Int} (ha : 0 ≤ a ∧ a ≤ 63) (hb : 0 ≤ b ∧ b ≤ 63) : IntKind.i64.wrap (((BitVec.ofInt IntKind.i64.bits a ||| BitVec.ofInt IntKind.i64.bits b).toNat : Nat) : Int) = orF a b := by
  show IntKind.i64.wrap (((BitVec.ofInt 64 a ||| BitVec.ofInt 64 b).toNat : Nat) : Int) = orF a b
  have h := orF_b ha hb
  have hk := or_key ⟨a.toNat, by omega⟩ ⟨b.toNat, by omega⟩
  rw [ofInt_small ha.1 ha.2, ofInt_small hb.1 hb.2]
  simp only at hk
  rw [hk]
  exact kw_i64_id (by unfold orF at h; omega) (by unfold orF at h; omega)
/-- The flat tags of either, the first ones. -/
def orAcc (a b : Int) (j : Nat) : Int := (((a.toNat ||| b.toNat) % 2 ^ j : Nat) : Int)
theorem acc_key : ∀ o : Fin 64, ∀ j : Fin 6, (o.val % 2 ^ j.val) + (if o.val / 2 ^ j.val % 2 = 1 then 2 ^ j.val else 0) = o.val % 2 ^ (j.val + 1) := by decide +kernel
theorem or_bit (a b j : Nat) : ((a ||| b) / 2 ^ j % 2 = 1) ↔ (a / 2 ^ j % 2 = 1 ∨ b / 2 ^ j % 2 = 1) := by
  have := Nat.testBit_or a b j
  rw [Nat.testBit_eq_decide_div_mod_eq, Nat.testBit_eq_decide_div_mod_eq, Nat.testBit_eq_decide_div_mod_eq, ← Bool.decide_or] at this
  exact decide_eq_decide.1 this
theorem orAcc_b {a b : Int} (ha : 0 ≤ a ∧ a ≤ 63) (hb : 0 ≤ b ∧ b ≤ 63) (j : Nat) : 0 ≤ orAcc a b j ∧ orAcc a b j ≤ 63 := by
  have h := or_lt ⟨a.toNat, by omega⟩ ⟨b.toNat, by omega⟩
  simp only at h
  have := Nat.mod_le (a.toNat ||| b.toNat) (2 ^ j)
  unfold orAcc
  generalize (a.toNat ||| b.toNat) % 2 ^ j = q at *
  omega
theorem orAcc_T {a b : Int} (ha : 0 ≤ a ∧ a ≤ 63) (hb : 0 ≤ b ∧ b ≤ 63) {j : Nat} (hj : j < 6) (h : a.toNat / 2 ^ j % 2 = 1 ∨ b.toNat / 2 ^ j % 2 = 1) : IntKind.i64.wrap (orAcc a b j + ((2 ^ j : Nat) : Int)) = orAcc a b (j + 1) := by
  have h1 := or_lt ⟨a.toNat, by omega⟩ ⟨b.toNat, by omega⟩
  simp only at h1
  have h2 := acc_key ⟨a.toNat ||| b.toNat, h1⟩ ⟨j, hj⟩
  simp only at h2
  rw [if_pos ((or_bit _ _ _).2 h)] at h2
  have h3 := orAcc_b ha hb (j + 1)
  unfold orAcc at h3 ⊢
  rw [← h2] at h3 ⊢
  rw [kw_i64_id (by rw [← Int.natCast_add]; omega) (by rw [← Int.natCast_add]; omega), Int.natCast_add]
theorem orAcc_F {a b : Int} (ha : 0 ≤ a ∧ a ≤ 63) (hb : 0 ≤ b ∧ b ≤ 63) {j : Nat} (hj : j < 6) (h : ¬(a.toNat / 2 ^ j % 2 = 1 ∨ b.toNat / 2 ^ j % 2 = 1)) : orAcc a b j = orAcc a b (j + 1) := by
  have h1 := or_lt ⟨a.toNat, by omega⟩ ⟨b.toNat, by omega⟩
  simp only at h1
  have h2 := acc_key ⟨a.toNat ||| b.toNat, h1⟩ ⟨j, hj⟩
  simp only at h2
  rw [if_neg (mt (or_bit _ _ _).1 h), Nat.add_zero] at h2
  unfold orAcc; rw [h2]
theorem orAcc_zero (a b : Int) : orAcc a b 0 = 0 := by unfold orAcc; rw [Nat.pow_zero, Nat.mod_one]; rfl
theorem orAcc_six {a b : Int} (ha : 0 ≤ a ∧ a ≤ 63) (hb : 0 ≤ b ∧ b ≤ 63) : orAcc a b 6 = orF a b := by
  have h1 := or_lt ⟨a.toNat, by omega⟩ ⟨b.toNat, by omega⟩
  simp only at h1
  unfold orAcc orF; rw [Nat.mod_eq_of_lt (by omega)]
theorem or_cast (a b : Int) (j : Nat) : (decide (((a.toNat / 2 ^ j % 2 : Nat) : Int) = 1) || decide (((b.toNat / 2 ^ j % 2 : Nat) : Int) = 1)) = decide (a.toNat / 2 ^ j % 2 = 1 ∨ b.toNat / 2 ^ j % 2 = 1) := by
  generalize a.toNat / 2 ^ j % 2 = p
  generalize b.toNat / 2 ^ j % 2 = q
  rw [← Bool.decide_or]; apply decide_eq_decide.2; omega
theorem szT_zero : szT zeroT = 1 := rfl
theorem headD_sz {t : Ty} : szT (t.pairs.headD zeroT) ≤ szT t := by
  cases h : t.pairs with
  | nil => have := szT_pos t; simp [szT_zero]; omega
  | cons x xs => have : x ∈ t.pairs := by simp [h]
                 have := szT_pairs this; simp; omega
theorem car_sz (t : Ty) : szT (carT t) ≤ szT t := by
  unfold carT
  split
  · omega
  · split
    · have := szT_pos t; rw [szT_zero]; omega
    · exact headD_sz
theorem cdr_sz {t : Ty} (hr : Rt t) : szT (cdrT t) ≤ szT t := by
  unfold cdrT
  split
  · omega
  · split
    · have := szT_pos t; rw [szT_zero]; omega
    · split
      · rw [szT_list]
        cases h : t.pairs with
        | nil => rename_i hp; obtain ⟨x, hx⟩ := (okT_facts hr.ok).2.2.2.2.2.2.1 hp; rw [h] at hx; cases hx
        | cons x xs => have : x ∈ t.pairs := by simp [h]
                       have := szT_pairs this; simp; omega
      · cases hy : t.pairs[1]? with
        | none => have := szT_pos t; simp [szT_zero]; omega
        | some y => have := szT_pairs (List.mem_of_getElem? hy); simp; omega
theorem mem_one {x y : Ty} (h : x ∈ [y]) : x = y := by simpa using h
theorem join_wf : ∀ (k : Nat) (a b : Ty), Rt a → Rt b → WfT a → WfT b → WfT (joinT k a b)
  | 0, a, b, _, _, _, _ => .allT
  | k + 1, a, b, ha, hb, wa, wb => by
    have ih := join_wf k
    have fa := okT_facts ha.ok
    have fb := okT_facts hb.ok
    cases h : (a.all || b.all) with
    | true => rw [joinT_all k a b h]; exact .allT
    | false =>
      rw [joinT_succ k a b h]
      simp only [Bool.or_eq_false_iff] at h
      have hf := orF_b fa.1 fb.1
      have hP : (-9223372036854775808 ≤ (joinP k a b).1 ∧ (joinP k a b).1 < 9223372036854775808) ∧ (joinP k a b).2.length < 9223372036854775808 ∧ ∀ y, y ∈ (joinP k a b).2 → WfT y := by
        unfold joinP
        cases wa with | mk w1 w2 w3 w4 w5 w6 w7 =>
        cases wb with | mk v1 v2 v3 v4 v5 v6 v7 =>
        split
        · exact ⟨v2, v4, v6⟩
        · rename_i ha0
          split
          · exact ⟨w2, w4, w6⟩
          · rename_i hb0
            have c1 := car_facts ha h.1 ha0
            have c2 := car_facts hb h.2 hb0
            have c3 := cdr_facts ha h.1 ha0
            have c4 := cdr_facts hb h.2 hb0
            have j1 := ih _ _ c1.2.1 c2.2.1 (car_wf (.mk w1 w2 w3 w4 w5 w6 w7)) (car_wf (.mk v1 v2 v3 v4 v5 v6 v7))
            have j2 := ih _ _ c3.2.2 c4.2.2 (cdr_wf (.mk w1 w2 w3 w4 w5 w6 w7)) (cdr_wf (.mk v1 v2 v3 v4 v5 v6 v7))
            split
            · exact ⟨by simp, by simp, fun y hy => by rw [mem_one hy]; exact j1⟩
            · refine ⟨by simp, by simp, fun y hy => ?_⟩
              simp only [List.mem_cons, List.not_mem_nil, or_false] at hy
              rcases hy with rfl | rfl
              · exact j1
              · exact j2
      have hG : (-9223372036854775808 ≤ (joinG a b).1 ∧ (joinG a b).1 < 9223372036854775808) ∧ (joinG a b).2.length < 9223372036854775808 ∧ ∀ y, y ∈ (joinG a b).2 → WfT y := by
        unfold joinG
        cases wa with | mk w1 w2 w3 w4 w5 w6 w7 =>
        cases wb with | mk v1 v2 v3 v4 v5 v6 v7 =>
        split
        · exact ⟨v3, v5, v7⟩
        · split
          · exact ⟨by simp, by simp, by simp⟩
          · exact ⟨w3, w5, w7⟩
      exact .mk (by show -9223372036854775808 ≤ orF a.flat b.flat ∧ orF a.flat b.flat < 9223372036854775808; omega) hP.1 hG.1 hP.2.1 hG.2.1 hP.2.2 hG.2.2
def flatT (f : Int) : Ty := ⟨false, f, 0, [], 0, []⟩
def procT (l : List Ty) : Ty := ⟨false, 0, 0, [], 1, l⟩
theorem WfT.flat_ {f : Int} (h : -9223372036854775808 ≤ f ∧ f < 9223372036854775808) : WfT (flatT f) := .mk h (by simp [flatT, Ty.pair]) (by simp [flatT, Ty.fn]) (by simp [flatT, Ty.pairs]) (by simp [flatT, Ty.funs]) (by simp [flatT, Ty.pairs]) (by simp [flatT, Ty.funs])
theorem WfT.pair_ {x y : Ty} (hx : WfT x) (hy : WfT y) : WfT (pairT x y) := .mk (by simp [pairT, Ty.flat]) (by simp [pairT, Ty.pair]) (by simp [pairT, Ty.fn]) (by simp [pairT, Ty.pairs]) (by simp [pairT, Ty.funs])
  (by intro z hz; simp [pairT, Ty.pairs] at hz; rcases hz with rfl | rfl; exact hx; exact hy) (by simp [pairT, Ty.funs])
theorem WfT.proc_ {l : List Ty} (hl : l.length < 9223372036854775808) (h : ∀ y, y ∈ l → WfT y) : WfT (procT l) := .mk (by simp [procT, Ty.flat]) (by simp [procT, Ty.pair]) (by simp [procT, Ty.fn]) (by simp [procT, Ty.pairs]) hl (by simp [procT, Ty.pairs]) h
theorem szT_flat (f : Int) : szT (flatT f) = 1 := rfl
theorem szT_pair (x y : Ty) : szT (pairT x y) = 1 + szT x + szT y := by simp [pairT, szT, szTs]; omega
theorem szT_proc (l : List Ty) : szT (procT l) = 1 + szTs l := by simp [procT, szT, szTs]
theorem and63 {t : Int} (h0 : 0 ≤ t) (h1 : t < 9223372036854775808) : IntKind.i64.wrap (((BitVec.ofInt IntKind.i64.bits t &&& BitVec.ofInt IntKind.i64.bits 63).toNat : Nat) : Int) = t.tmod 64 := by
  show IntKind.i64.wrap (((BitVec.ofInt 64 t &&& BitVec.ofInt 64 63).toNat : Nat) : Int) = t.tmod 64
  obtain ⟨n, rfl⟩ := Int.eq_ofNat_of_zero_le h0
  have e1 : (BitVec.ofInt 64 (n : Int)).toNat = n := by rw [BitVec.toNat_ofInt]; omega
  have e2 : (BitVec.ofInt 64 63).toNat = 63 := by decide
  rw [BitVec.toNat_and, e1, e2, show (63 : Nat) = 2 ^ 6 - 1 from rfl, Nat.and_two_pow_sub_one_eq_mod]
  rw [kw_i64_id (by omega) (by omega), Int.tmod_eq_emod_of_nonneg (by omega)]; omega
end Go.Ev
