/-
  Part 4 of a proof: NarrowParts: for every input the law returns true, and what it was given reads behind the call as before. No conditions.
-/
import Derived.Test.YtoacjncdnnkbaaaP3
import Derived.KernelRfl
namespace Go.Ev
set_option linter.unusedVariables false
set_option linter.unusedSimpArgs false
open Go
def zeroT : Ty := ⟨false, 0, 0, [], 0, []⟩
def allT : Ty := ⟨true, 0, 0, [], 0, []⟩
def listT (x : Ty) : Ty := ⟨false, 16, 2, [x], 0, []⟩
def pairT (x y : Ty) : Ty := ⟨false, 0, 1, [x, y], 0, []⟩
theorem okT_facts {t : Ty} (h : okT t = true) : (0 ≤ t.flat ∧ t.flat ≤ 63) ∧ (0 ≤ t.pair ∧ t.pair ≤ 2) ∧ (0 ≤ t.fn ∧ t.fn ≤ 2) ∧ (t.all = true → t = allT) ∧ (t.pair = 0 → t.pairs = []) ∧ (t.pair = 1 → ∃ x y, t.pairs = [x, y]) ∧ (t.pair = 2 → ∃ x, t.pairs = [x]) ∧
    (t.fn = 1 → 1 ≤ t.funs.length ∧ t.funs.length ≤ 9) ∧ (t.fn ≠ 1 → t.funs = []) := by
  unfold okT at h
  simp only [Bool.and_eq_true, decide_eq_true_eq] at h
  obtain ⟨⟨⟨⟨⟨⟨⟨⟨h1, h2⟩, h3⟩, h4⟩, h5⟩, h6⟩, h7⟩, h8⟩, h9⟩ := h
  have p0 : t.pair = 0 → t.pairs = [] := by
    intro h; rw [h] at h8; exact List.length_eq_zero_iff.1 (by simpa [pcnt] using h8)
  have f1 : t.fn ≠ 1 → t.funs = [] := by
    intro h; rw [if_neg h] at h9; exact List.length_eq_zero_iff.1 (by simpa using h9)
  refine ⟨⟨h1, h2⟩, ⟨h3, h4⟩, ⟨h5, h6⟩, ?_, p0, ?_, ?_, ?_, f1⟩
  · intro ha
    simp only [ha, Bool.not_true, Bool.false_or, Bool.and_eq_true, decide_eq_true_eq] at h7
    have q1 := p0 h7.1.2
    have q2 := f1 (by rw [h7.2]; decide)
    cases t with | mk a f p ps g gs =>
    simp only [Ty.all, Ty.flat, Ty.pair, Ty.fn, Ty.pairs, Ty.funs] at *
    rw [ha, h7.1.1, h7.1.2, h7.2, q1, q2]; rfl
  · intro h; rw [h] at h8
    have h8' : t.pairs.length = 2 := by simp [pcnt] at h8; omega
    exact len2 h8'
  · intro h; rw [h] at h8
    have h8' : t.pairs.length = 1 := by simp [pcnt] at h8; omega
    exact len1 h8'
  · intro h; rw [if_pos h] at h9; simpa using h9
def Rt (t : Ty) : Prop := ∃ d, rightT t d = true
theorem Rt.ok {t : Ty} (h : Rt t) : okT t = true := by
  obtain ⟨d, h⟩ := h
  cases d with
  | zero => rw [rightT_zero] at h; cases h
  | succ d => rw [rightT_succ] at h; simp only [Bool.and_eq_true] at h; exact h.1.1
theorem Rt.pairs {t x : Ty} (h : Rt t) (hx : x ∈ t.pairs) : Rt x := by
  obtain ⟨d, h⟩ := h
  cases d with
  | zero => rw [rightT_zero] at h; cases h
  | succ d => rw [rightT_succ] at h; simp only [Bool.and_eq_true] at h; exact ⟨d, rightTs_mem h.1.2 hx⟩
theorem Rt.funs {t x : Ty} (h : Rt t) (hx : x ∈ t.funs) : Rt x := by
  obtain ⟨d, h⟩ := h
  cases d with
  | zero => rw [rightT_zero] at h; cases h
  | succ d => rw [rightT_succ] at h; simp only [Bool.and_eq_true] at h; exact ⟨d, rightTs_mem h.2 hx⟩
theorem Rt.list {x : Ty} (h : Rt x) : Rt (listT x) := by
  obtain ⟨d, h⟩ := h
  refine ⟨d + 1, ?_⟩
  rw [rightT_succ]
  simp [listT, okT, Ty.all, Ty.flat, Ty.pair, Ty.pairs, Ty.fn, Ty.funs, pcnt, rightTs, h]
theorem Rt.all : Rt allT := ⟨1, by rfl⟩
theorem Rt.zero : Rt zeroT := ⟨1, by rfl⟩
theorem WfT.flat {t : Ty} (h : WfT t) : -9223372036854775808 ≤ t.flat ∧ t.flat < 9223372036854775808 := by cases h; assumption
theorem WfT.pairs {t x : Ty} (h : WfT t) (hx : x ∈ t.pairs) : WfT x := by cases h with | mk w1 w2 w3 w4 w5 w6 w7 => exact w6 x hx
theorem WfT.funs {t x : Ty} (h : WfT t) (hx : x ∈ t.funs) : WfT x := by cases h with | mk w1 w2 w3 w4 w5 w6 w7 => exact w7 x hx
theorem WfT.list {x : Ty} (h : WfT x) : WfT (listT x) := by
  refine .mk (by simp [listT, Ty.flat]) (by simp [listT, Ty.pair]) (by simp [listT, Ty.fn]) (by simp [listT, Ty.pairs]) (by simp [listT, Ty.funs]) ?_ (by simp [listT, Ty.funs])
  intro y hy
  simp [listT, Ty.pairs] at hy
  subst hy; exact h
theorem WfT.zero : WfT zeroT := .mk (by simp [zeroT, Ty.flat]) (by simp [zeroT, Ty.pair]) (by simp [zeroT, Ty.fn]) (by simp [zeroT, Ty.pairs]) (by simp [zeroT, Ty.funs]) (by simp [zeroT, Ty.pairs]) (by simp [zeroT, Ty.funs])
theorem WfT.allT : WfT allT := .mk (by simp [Ev.allT, Ty.flat]) (by simp [Ev.allT, Ty.pair]) (by simp [Ev.allT, Ty.fn]) (by simp [Ev.allT, Ty.pairs]) (by simp [Ev.allT, Ty.funs]) (by simp [Ev.allT, Ty.pairs]) (by simp [Ev.allT, Ty.funs])
def carT (t : Ty) : Ty := if t.all then t else if t.pair = 0 then zeroT else t.pairs.headD zeroT
def cdrT (t : Ty) : Ty := if t.all then t else if t.pair = 0 then zeroT else if t.pair = 2 then listT (t.pairs.headD zeroT) else (t.pairs[1]?).getD zeroT
def hasT (t : Ty) : Bool := t.all || !decide (t.pair = 0)
theorem headD_mem {l : List Ty} (h : l ≠ []) : l.headD zeroT ∈ l := by cases l with | nil => exact absurd rfl h | cons x xs => simp
theorem car_facts {t : Ty} (h : Rt t) (ha : t.all = false) (hp : t.pair ≠ 0) : carT t ∈ t.pairs ∧ Rt (carT t) ∧ szT (carT t) < szT t := by
  obtain ⟨_, _, _, _, _, h1, h2, _⟩ := okT_facts h.ok
  have hne : t.pairs ≠ [] := by
    have := (okT_facts h.ok).2.1
    rcases (show t.pair = 1 ∨ t.pair = 2 by omega) with q | q
    · obtain ⟨x, y, e⟩ := h1 q; simp [e]
    · obtain ⟨x, e⟩ := h2 q; simp [e]
  have e : carT t = t.pairs.headD zeroT := by simp [carT, ha, hp]
  have hm := headD_mem hne
  rw [e]
  exact ⟨hm, h.pairs hm, szT_pairs hm⟩
theorem szT_list (x : Ty) : szT (listT x) = 1 + szT x := by simp [listT, szT, szTs]
theorem cdr_facts {t : Ty} (h : Rt t) (ha : t.all = false) (hp : t.pair ≠ 0) : (t.pair = 1 → cdrT t ∈ t.pairs ∧ szT (cdrT t) < szT t) ∧ (t.pair = 2 → cdrT t = listT (carT t) ∧ szT (cdrT t) ≤ szT t) ∧ Rt (cdrT t) := by
  obtain ⟨_, _, _, _, _, h1, h2, _⟩ := okT_facts h.ok
  have hb := (okT_facts h.ok).2.1
  rcases (show t.pair = 1 ∨ t.pair = 2 by omega) with q | q
  · obtain ⟨x, y, e⟩ := h1 q
    have e2 : cdrT t = y := by simp [cdrT, ha, hp, q, e]
    have hy : y ∈ t.pairs := by simp [e]
    rw [e2]
    exact ⟨fun _ => ⟨hy, szT_pairs hy⟩, fun h => by omega, h.pairs hy⟩
  · obtain ⟨x, e⟩ := h2 q
    have hx : x ∈ t.pairs := by simp [e]
    have e1 : carT t = x := by simp [carT, ha, hp, e]
    have e2 : cdrT t = listT x := by simp [cdrT, ha, hp, q, e]
    rw [e2, e1, szT_list]
    exact ⟨fun h => by omega, fun _ => ⟨rfl, by have := szT_pairs hx; omega⟩, (h.pairs hx).list⟩
theorem car_wf {t : Ty} (h : WfT t) : WfT (carT t) := by
  unfold carT
  split
  · exact h
  · split
    · exact .zero
    · by_cases hn : t.pairs = []
      · rw [hn]; exact .zero
      · exact h.pairs (headD_mem hn)
theorem cdr_wf {t : Ty} (h : WfT t) : WfT (cdrT t) := by
  unfold cdrT
  split
  · exact h
  · split
    · exact .zero
    · split
      · refine WfT.list ?_
        by_cases hn : t.pairs = []
        · rw [hn]; exact .zero
        · exact h.pairs (headD_mem hn)
      · cases hy : t.pairs[1]? with
        | none => exact .zero
        | some y => exact h.pairs (List.mem_of_getElem? hy)
def subF (a b : Int) : Bool := a.toNat &&& b.toNat == a.toNat
def orF (a b : Int) : Int := ((a.toNat ||| b.toNat : Nat) : Int)
def subT : Nat → Ty → Ty → Bool
  | 0, _, _ => false
  | k + 1, a, b =>
    if b.all then true
    else if a.all || !subF a.flat b.flat || (!decide (a.pair = 0) && decide (b.pair = 0)) || (!decide (a.fn = 0) && decide (b.fn = 0)) then false
    else
      let is := if a.pair = 0 then true else subT k (carT a) (carT b) && (if a.pair = 2 ∧ b.pair = 2 then true else subT k (cdrT a) (cdrT b))
      if a.fn = 0 ∨ b.fn = 2 then is
      else if a.fn = 2 ∨ b.funs.length ≠ a.funs.length then false
      else is && (List.range (a.funs.length - 1)).all (fun i => subT k (b.funs.getD i zeroT) (a.funs.getD i zeroT)) && subT k (a.funs.getD (a.funs.length - 1) zeroT) (b.funs.getD (a.funs.length - 1) zeroT)
def joinG (a b : Ty) : Int × List Ty := if a.fn = 0 then (b.fn, b.funs) else if b.fn ≠ 0 ∧ ¬(a.fn = b.fn ∧ sameTs a.funs b.funs = true) then (2, []) else (a.fn, a.funs)
def joinT : Nat → Ty → Ty → Ty
  | 0, _, _ => allT
  | k + 1, a, b =>
    if a.all || b.all then allT
    else
      let p : Int × List Ty := if a.pair = 0 then (b.pair, b.pairs) else if b.pair = 0 then (a.pair, a.pairs)
        else if a.pair = 2 ∧ b.pair = 2 then (2, [joinT k (carT a) (carT b)]) else (1, [joinT k (carT a) (carT b), joinT k (cdrT a) (cdrT b)])
      ⟨false, orF a.flat b.flat, p.1, p.2, (joinG a b).1, (joinG a b).2⟩
def joinP (k : Nat) (a b : Ty) : Int × List Ty := if a.pair = 0 then (b.pair, b.pairs) else if b.pair = 0 then (a.pair, a.pairs)
        else if a.pair = 2 ∧ b.pair = 2 then (2, [joinT k (carT a) (carT b)]) else (1, [joinT k (carT a) (carT b), joinT k (cdrT a) (cdrT b)])
theorem joinT_all (k : Nat) (a b : Ty) (h : (a.all || b.all) = true) : joinT (k + 1) a b = allT := by rw [joinT, h]; rfl
theorem joinT_succ (k : Nat) (a b : Ty) (h : (a.all || b.all) = false) : joinT (k + 1) a b = ⟨false, orF a.flat b.flat, (joinP k a b).1, (joinP k a b).2, (joinG a b).1, (joinG a b).2⟩ := by rw [joinT, h]; rfl
theorem flats_key : ∀ a b : Fin 64, (BitVec.ofNat 64 a.val &&& ~~~ BitVec.ofNat 64 b.val = 0#64) ↔ (a.val &&& b.val == a.val) = true := by decide +kernel
theorem ofInt_small {a : Int} (h0 : 0 ≤ a) (h1 : a ≤ 63) : BitVec.ofInt 64 a = BitVec.ofNat 64 a.toNat := by
  apply BitVec.eq_of_toNat_eq
  rw [BitVec.toNat_ofInt, BitVec.toNat_ofNat]; omega
theorem andn_sub {a b : Int} (ha : 0 ≤ a ∧ a ≤ 63) (hb : 0 ≤ b ∧ b ≤ 63) : IntKind.i64.wrap (((BitVec.ofInt IntKind.i64.bits a &&& ~~~ BitVec.ofInt IntKind.i64.bits b).toNat : Nat) : Int) = 0 ↔ subF a b = true := by
  show IntKind.i64.wrap (((BitVec.ofInt 64 a &&& ~~~ BitVec.ofInt 64 b).toNat : Nat) : Int) = 0 ↔ _
  rw [i64_bits, ofInt_small ha.1 ha.2, ofInt_small hb.1 hb.2]
  exact flats_key ⟨a.toNat, by omega⟩ ⟨b.toNat, by omega⟩
theorem getD_of {l : List Ty} {i : Nat} {x : Ty} (h : l[i]? = some x) : l.getD i zeroT = x := by simp [List.getD, h]
theorem range_all_succ (p : Nat → Bool) (i : Nat) : (List.range (i + 1)).all p = ((List.range i).all p && p i) := by simp [List.range_succ]
theorem andn_dec {a b : Int} (ha : 0 ≤ a ∧ a ≤ 63) (hb : 0 ≤ b ∧ b ≤ 63) : decide (IntKind.i64.wrap (((BitVec.ofInt IntKind.i64.bits a &&& ~~~ BitVec.ofInt IntKind.i64.bits b).toNat : Nat) : Int) = 0) = subF a b := by
  rw [Bool.eq_iff_iff, decide_eq_true_eq, andn_sub ha hb]
theorem subT_succ (k : Nat) (a b : Ty) (hb : b.all = false) (hc : (a.all || !subF a.flat b.flat || (!decide (a.pair = 0) && decide (b.pair = 0)) || (!decide (a.fn = 0) && decide (b.fn = 0))) = false) :
    subT (k + 1) a b = (if a.fn = 0 ∨ b.fn = 2 then (if a.pair = 0 then true else (subT k (carT a) (carT b) && (if a.pair = 2 ∧ b.pair = 2 then true else subT k (cdrT a) (cdrT b)))) else if a.fn = 2 ∨ b.funs.length ≠ a.funs.length then false
      else ((if a.pair = 0 then true else (subT k (carT a) (carT b) && (if a.pair = 2 ∧ b.pair = 2 then true else subT k (cdrT a) (cdrT b)))) && (List.range (a.funs.length - 1)).all (fun i => subT k (b.funs.getD i zeroT) (a.funs.getD i zeroT)) && subT k (a.funs.getD (a.funs.length - 1) zeroT) (b.funs.getD (a.funs.length - 1) zeroT))) := by
  rw [subT, hb, hc]; simp only [Bool.false_eq_true, if_false]
theorem subT_conj (k : Nat) (a b : Ty) (hb : b.all = false) (ha : a.all = false) : subT (k + 1) a b =
    (subF a.flat b.flat && (decide (a.pair = 0) || (!decide (b.pair = 0) && subT k (carT a) (carT b) && (decide (a.pair = 2 ∧ b.pair = 2) || subT k (cdrT a) (cdrT b)))) &&
      (decide (a.fn = 0) || (!decide (b.fn = 0) && (decide (b.fn = 2) || (!decide (a.fn = 2) && decide (b.funs.length = a.funs.length) && (List.range (a.funs.length - 1)).all (fun i => subT k (b.funs.getD i zeroT) (a.funs.getD i zeroT)) &&
        subT k (a.funs.getD (a.funs.length - 1) zeroT) (b.funs.getD (a.funs.length - 1) zeroT)))))) := by
  rw [subT]
  simp only [hb, ha, Bool.false_eq_true, if_false, Bool.false_or]
  generalize (List.range (a.funs.length - 1)).all (fun i => subT k (b.funs.getD i zeroT) (a.funs.getD i zeroT)) = X
  generalize subT k (a.funs.getD (a.funs.length - 1) zeroT) (b.funs.getD (a.funs.length - 1) zeroT) = Y
  generalize subT k (carT a) (carT b) = r1
  generalize subT k (cdrT a) (cdrT b) = r2
  cases subF a.flat b.flat
  · simp
  · by_cases h1 : a.pair = 0 <;> by_cases h2 : b.pair = 0 <;> by_cases h3 : a.fn = 0 <;> by_cases h4 : b.fn = 0 <;> by_cases h5 : b.fn = 2 <;> by_cases h6 : a.fn = 2 <;> by_cases h7 : b.funs.length = a.funs.length <;> by_cases h8 : a.pair = 2 ∧ b.pair = 2 <;>
      simp [h1, h2, h3, h4, h5, h6, h7, h8] <;> first | omega | (cases r1 <;> cases r2 <;> cases X <;> cases Y <;> simp_all)
theorem or_key : ∀ a b : Fin 64, (BitVec.ofNat 64 a.val ||| BitVec.ofNat 64 b.val).toNat = a.val ||| b.val := by decide +kernel
theorem or_lt : ∀ a b : Fin 64, a.val ||| b.val < 64 := by decide +kernel
theorem orF_b {a b : Int} (ha : 0 ≤ a ∧ a ≤ 63) (hb : 0 ≤ b ∧ b ≤ 63) : 0 ≤ orF a b ∧ orF a b ≤ 63 := by
  have := or_lt ⟨a.toNat, by omega⟩ ⟨b.toNat, by omega⟩
  unfold orF; simp only at this; omega
theorem or_orF {a b : Int} (ha : 0 ≤ a ∧ a ≤ 63) (hb : 0 ≤ b ∧ b ≤ 63) : IntKind.i64.wrap (((BitVec.ofInt IntKind.i64.bits a ||| BitVec.ofInt IntKind.i64.bits b).toNat : Nat) : Int) = orF a b := by
  show IntKind.i64.wrap (((BitVec.ofInt 64 a ||| BitVec.ofInt 64 b).toNat : Nat) : Int) = orF a b
  have h := orF_b ha hb
  have hk := or_key ⟨a.toNat, by omega⟩ ⟨b.toNat, by omega⟩
  rw [ofInt_small ha.1 ha.2, ofInt_small hb.1 hb.2]
  simp only at hk
  rw [hk]
  exact kw_i64_id (by unfold orF at h; omega) (by unfold orF at h; omega)
theorem mem_one {x y : Ty} (h : x ∈ [y]) : x = y := by simpa using h
theorem join_wf : ∀ (k : Nat) (a b : Ty), Rt a → Rt b → WfT a → WfT b → WfT (joinT k a b)
  | 0, a, b, _, _, _, _ => .allT
  | k + 1, a, b, ha, hb, wa, wb => by
    have ih := join_wf k
    have fa := okT_facts ha.ok
    have fb := okT_facts hb.ok
    cases h : (a.all || b.all) with
    | true => rw [joinT_all k a b h]; exact .allT
    | false =>
      rw [joinT_succ k a b h]
      simp only [Bool.or_eq_false_iff] at h
      have hf := orF_b fa.1 fb.1
      have hP : (-9223372036854775808 ≤ (joinP k a b).1 ∧ (joinP k a b).1 < 9223372036854775808) ∧ (joinP k a b).2.length < 9223372036854775808 ∧ ∀ y, y ∈ (joinP k a b).2 → WfT y := by
        unfold joinP
        cases wa with | mk w1 w2 w3 w4 w5 w6 w7 =>
        cases wb with | mk v1 v2 v3 v4 v5 v6 v7 =>
        split
        · exact ⟨v2, v4, v6⟩
        · rename_i ha0
          split
          · exact ⟨w2, w4, w6⟩
          · rename_i hb0
            have c1 := car_facts ha h.1 ha0
            have c2 := car_facts hb h.2 hb0
            have c3 := cdr_facts ha h.1 ha0
            have c4 := cdr_facts hb h.2 hb0
            have j1 := ih _ _ c1.2.1 c2.2.1 (car_wf (.mk w1 w2 w3 w4 w5 w6 w7)) (car_wf (.mk v1 v2 v3 v4 v5 v6 v7))
            have j2 := ih _ _ c3.2.2 c4.2.2 (cdr_wf (.mk w1 w2 w3 w4 w5 w6 w7)) (cdr_wf (.mk v1 v2 v3 v4 v5 v6 v7))
            split
            · exact ⟨by simp, by simp, fun y hy => by rw [mem_one hy]; exact j1⟩
            · refine ⟨by simp, by simp, fun y hy => ?_⟩
              simp only [List.mem_cons, List.not_mem_nil, or_false] at hy
              rcases hy with rfl | rfl
              · exact j1
              · exact j2
      have hG : (-9223372036854775808 ≤ (joinG a b).1 ∧ (joinG a b).1 < 9223372036854775808) ∧ (joinG a b).2.length < 9223372036854775808 ∧ ∀ y, y ∈ (joinG a b).2 → WfT y := by
        unfold joinG
        cases wa with | mk w1 w2 w3 w4 w5 w6 w7 =>
        cases wb with | mk v1 v2 v3 v4 v5 v6 v7 =>
        split
        · exact ⟨v3, v5, v7⟩
        · split
          · exact ⟨by simp, by simp, by simp⟩
          · exact ⟨w3, w5, w7⟩
      exact .mk (by show -9223372036854775808 ≤ orF a.flat b.flat ∧ orF a.flat b.flat < 9223372036854775808; omega) hP.1 hG.1 hP.2.1 hG.2.1 hP.2.2 hG.2.2
def flatT (f : Int) : Ty := ⟨false, f, 0, [], 0, []⟩
end Go.Ev
namespace Go.Ev
set_option linter.unusedVariables false
set_option linter.unusedSimpArgs false
open Go
inductive Co where
  | mk (flat : Nat → Int) (pair plab : Int) (pairs : List Co) (fn flab : Int) (funs : List Co)
namespace Co
def flat : Co → Nat → Int | mk a _ _ _ _ _ _ => a
def pair : Co → Int | mk _ a _ _ _ _ _ => a
def plab : Co → Int | mk _ _ a _ _ _ _ => a
def pairs : Co → List Co | mk _ _ _ a _ _ _ => a
def fn : Co → Int | mk _ _ _ _ a _ _ => a
def flab : Co → Int | mk _ _ _ _ _ a _ => a
def funs : Co → List Co | mk _ _ _ _ _ _ a => a
end Co
def es0 (w i : Nat) : Nat := if i = 0 then 0 else w
end Go.Ev
namespace Go.Ev
set_option linter.unusedVariables false
open Go
inductive Dt where
  | mk (kind : Int) (text : List UInt8) (list : List Dt)
namespace Dt
def kind : Dt → Int | mk a _ _ => a
def text : Dt → List UInt8 | mk _ a _ => a
def list : Dt → List Dt | mk _ _ a => a
end Dt
inductive Tst where
  | mk (op : Int) (var : Int) (tags : Int) (yes : Bool) (of : List Tst)
namespace Tst
def op : Tst → Int | mk a _ _ _ _ => a
def var : Tst → Int | mk _ a _ _ _ => a
def tags : Tst → Int | mk _ _ a _ _ => a
def yes : Tst → Bool | mk _ _ _ a _ => a
def of : Tst → List Tst | mk _ _ _ _ a => a
end Tst
inductive Vl where
  | mk (tag : Int) (of : List Vl)
namespace Vl
def tag : Vl → Int | mk a _ => a
def of : Vl → List Vl | mk _ a => a
end Vl
inductive Bnd where
  | mk (name : List UInt8) (depth : Int) (d : Dt) (row : List Bnd)
namespace Bnd
def name : Bnd → List UInt8 | mk a _ _ _ => a
def depth : Bnd → Int | mk _ a _ _ => a
def d : Bnd → Dt | mk _ _ a _ => a
def row : Bnd → List Bnd | mk _ _ _ a => a
end Bnd
end Go.Ev
namespace Go.Ev.Seat
open Go Go.Ev
def flatT : Ty := .mk false 63 0 [] 0 []
def pairT : Ty := .mk false 0 1 [.mk true 0 0 [] 0 [], .mk true 0 0 [] 0 []] 0 []
def bothT : Ty := .mk false 63 1 [.mk true 0 0 [] 0 [], .mk true 0 0 [] 0 []] 0 []
open Classical in
noncomputable def oJoin (a b : Ty) : Option Ty := if a = flatT ∧ b = pairT then some bothT else none
attribute [local irreducible] pcall callF
theorem oJoin_ok {a b r : Ty} (h : oJoin a b = some r) : PRes (tabOf tabL) 31 [.agg (cT a), .agg (cT b)] (.agg (cT r)) := by
  unfold oJoin at h
  split at h
  · rename_i hc
    obtain ⟨rfl, rfl⟩ := hc
    cases h
    exact .of_lt 200 fun n hn => by
      obtain ⟨n, rfl⟩ : ∃ m, n = m + 60 := ⟨n - 60, by omega⟩
      exact (show pcall (tabOf tabL) (n + 60) 31 [.agg (cT flatT), .agg (cT pairT)] = some (.ok (.agg (cT bothT))) by kernel_rfl)
  · cases h
end Go.Ev.Seat
namespace Go.Ev.Seat
set_option linter.unusedVariables false
set_option linter.unusedSimpArgs false
open Go Go.Ev
set_option maxRecDepth 20000
attribute [local irreducible] pcall callF
noncomputable def g_narrow_Tags_j1 (t1 : Ty) (a2 : Int) : Option Int :=
  (cond (!decide (t1.fn = 0)) (cond t1.all (some 255) (some (orB .i64 a2 128))) (cond t1.all (some 255) (some a2)))
noncomputable def g_narrow_Tags (t1 : Ty) : Option Int :=
  (cond (!decide (t1.pair = 0)) (g_narrow_Tags_j1 t1 (orB .i64 t1.flat 64)) (g_narrow_Tags_j1 t1 t1.flat))
abbrev kg01 (t1 : Ty) : ABlock := .cells [.bool t1.all, .int .i64 t1.flat, .int .i64 t1.pair, .lst (List.map encT t1.pairs) false, .int .i64 t1.fn, .lst (List.map encT t1.funs) false]
theorem g_narrow_Tags_ok {t1 : Ty} {r : Int} (hr : g_narrow_Tags t1 = some r) : PRes (tabOf tabL) 22 [.agg (cT t1)] (.int .i64 r) := by
  refine pres_fin t22 ?_
  unfold g_narrow_Tags at hr
  refine L_seq ?_
  refine L_stmt ?_
  refine L_reg ?_
  refine G_n (B := (kg01 t1)) rfl rfl rfl ?_
  refine G_p rfl rfl rfl ?_
  refine G_nil ?_
  refine L_nil ?_
  refine Sm_norm (e2 := [(1, .ptr 0 0)]) (H1 := [(kg01 t1)]) (H2 := [(kg01 t1)]) rfl (by repeat (first | exact rzz | apply rcc rfl | apply rnn rfl)) rfl (?_ : GL _ _ _ _ _)
  refine L_seq ?_
  refine L_stmt ?_
  refine L_reg ?_
  refine G_p rfl rfl rfl ?_
  refine G_h rfl rfl rfl (fun _ => rfl) ?_
  refine G_p rfl rfl rfl ?_
  refine G_nil ?_
  refine L_nil ?_
  refine Sm_norm (e2 := [(1, .ptr 0 0), (3, .int .i64 t1.flat)]) (H1 := [(kg01 t1)]) (H2 := [(kg01 t1)]) rfl (by repeat (first | exact rzz | apply rcc rfl | apply rnn rfl)) rfl (?_ : GL _ _ _ _ _)
  refine L_seq ?_
  refine L_stmtJ (S := Int) (fun s => [(1, .ptr 0 0), (3, .int .i64 s)]) (fun s => [(kg01 t1)]) (fun s => g_narrow_Tags_j1 t1 s = some r) ?_ ?_
  · skip
    refine L_seq ?_
    refine L_stmt ?_
    refine L_reg ?_
    refine G_p rfl rfl rfl ?_
    refine G_h rfl rfl rfl (fun _ => rfl) ?_
    refine G_p rfl rfl rfl ?_
    refine G_nil ?_
    refine L_nil ?_
    refine Sm_norm (e2 := [(1, .ptr 0 0), (3, .int .i64 t1.flat), (8, .bool (!decide (t1.pair = 0)))]) (H1 := [(kg01 t1)]) (H2 := [(kg01 t1)]) rfl (by repeat (first | exact rzz | apply rcc rfl | apply rnn rfl)) rfl (?_ : GL _ _ _ _ _)
    rcases cond_s hr with ⟨hc8, hr⟩ | ⟨hc8, hr⟩
    · refine L_T rfl hc8 ?_
      refine L_reg ?_
      refine G_p rfl rfl rfl ?_
      refine G_p rfl rfl rfl ?_
      refine G_p rfl rfl rfl ?_
      refine G_nil ?_
      refine L_nil ?_
      exact Sm_norm (e2 := [(1, .ptr 0 0), (3, .int .i64 (orB .i64 t1.flat 64))]) (H1 := [(kg01 t1)]) (H2 := [(kg01 t1)]) rfl (by repeat (first | exact rzz | apply rcc rfl | apply rnn rfl)) rfl ⟨(orB .i64 t1.flat 64), rfl, rfl, hr⟩
    · refine L_F rfl hc8 ?_
      refine L_skip ?_
      refine L_nil ?_
      exact Sm_norm (e2 := [(1, .ptr 0 0), (3, .int .i64 t1.flat)]) (H1 := [(kg01 t1)]) (H2 := [(kg01 t1)]) rfl (by repeat (first | exact rzz | apply rcc rfl | apply rnn rfl)) rfl ⟨t1.flat, rfl, rfl, hr⟩
  · rintro a2 hr
    show GL _ _ [(1, .ptr 0 0), (3, .int .i64 a2)] [(kg01 t1)] _
    replace hr : g_narrow_Tags_j1 t1 a2 = some r := hr
    unfold g_narrow_Tags_j1 at hr
    refine L_seq ?_
    refine L_stmt ?_
    refine L_seq ?_
    refine L_stmt ?_
    refine L_reg ?_
    refine G_p rfl rfl rfl ?_
    refine G_h rfl rfl rfl (fun _ => rfl) ?_
    refine G_p rfl rfl rfl ?_
    refine G_nil ?_
    refine L_nil ?_
    refine Sm_norm (e2 := [(1, .ptr 0 0), (3, .int .i64 a2), (13, .bool (!decide (t1.fn = 0)))]) (H1 := [(kg01 t1)]) (H2 := [(kg01 t1)]) rfl (by repeat (first | exact rzz | apply rcc rfl | apply rnn rfl)) rfl (?_ : GL _ _ _ _ _)
    rcases cond_s hr with ⟨hc13, hr⟩ | ⟨hc13, hr⟩
    · refine L_T rfl hc13 ?_
      refine L_reg ?_
      refine G_p rfl rfl rfl ?_
      refine G_p rfl rfl rfl ?_
      refine G_p rfl rfl rfl ?_
      refine G_nil ?_
      refine L_nil ?_
      refine Sm_norm (e2 := [(1, .ptr 0 0), (3, .int .i64 (orB .i64 a2 128))]) (H1 := [(kg01 t1)]) (H2 := [(kg01 t1)]) rfl (by repeat (first | exact rzz | apply rcc rfl | apply rnn rfl)) rfl (?_ : GL _ _ _ _ _)
      refine L_seq ?_
      refine L_stmt ?_
      refine L_seq ?_
      refine L_stmt ?_
      refine L_reg ?_
      refine G_p rfl rfl rfl ?_
      refine G_h rfl rfl rfl (fun _ => rfl) ?_
      refine G_nil ?_
      refine L_nil ?_
      refine Sm_norm (e2 := [(3, .int .i64 (orB .i64 a2 128)), (17, .bool t1.all)]) (H1 := [(kg01 t1)]) (H2 := [(kg01 t1)]) rfl (by repeat (first | exact rzz | apply rcc rfl | apply rnn rfl)) rfl (?_ : GL _ _ _ _ _)
      rcases cond_s hr with ⟨hc17, hr⟩ | ⟨hc17, hr⟩
      · refine L_T rfl hc17 ?_
        refine L_reg ?_
        refine G_p rfl rfl rfl ?_
        refine G_nil ?_
        refine L_nil ?_
        refine Sm_norm (e2 := [(3, .int .i64 255)]) (H1 := [(kg01 t1)]) (H2 := [(kg01 t1)]) rfl (by repeat (first | exact rzz | apply rcc rfl | apply rnn rfl)) rfl (?_ : GL _ _ _ _ _)
        refine L_seq ?_
        refine L_reg ?_
        refine G_p rfl rfl rfl ?_
        refine G_p rfl rfl rfl ?_
        refine G_nil ?_
        refine L_ret ?_
        have hr := some_s hr
        subst hr
        exact ⟨_, rfl, _, rfl, rfl⟩
      · refine L_F rfl hc17 ?_
        refine L_skip ?_
        refine L_nil ?_
        refine Sm_norm (e2 := [(3, .int .i64 (orB .i64 a2 128))]) (H1 := [(kg01 t1)]) (H2 := [(kg01 t1)]) rfl (by repeat (first | exact rzz | apply rcc rfl | apply rnn rfl)) rfl (?_ : GL _ _ _ _ _)
        refine L_seq ?_
        refine L_reg ?_
        refine G_p rfl rfl rfl ?_
        refine G_p rfl rfl rfl ?_
        refine G_nil ?_
        refine L_ret ?_
        have hr := some_s hr
        subst hr
        exact ⟨_, rfl, _, rfl, rfl⟩
    · refine L_F rfl hc13 ?_
      refine L_skip ?_
      refine L_nil ?_
      refine Sm_norm (e2 := [(1, .ptr 0 0), (3, .int .i64 a2)]) (H1 := [(kg01 t1)]) (H2 := [(kg01 t1)]) rfl (by repeat (first | exact rzz | apply rcc rfl | apply rnn rfl)) rfl (?_ : GL _ _ _ _ _)
      refine L_seq ?_
      refine L_stmt ?_
      refine L_seq ?_
      refine L_stmt ?_
      refine L_reg ?_
      refine G_p rfl rfl rfl ?_
      refine G_h rfl rfl rfl (fun _ => rfl) ?_
      refine G_nil ?_
      refine L_nil ?_
      refine Sm_norm (e2 := [(3, .int .i64 a2), (17, .bool t1.all)]) (H1 := [(kg01 t1)]) (H2 := [(kg01 t1)]) rfl (by repeat (first | exact rzz | apply rcc rfl | apply rnn rfl)) rfl (?_ : GL _ _ _ _ _)
      rcases cond_s hr with ⟨hc17, hr⟩ | ⟨hc17, hr⟩
      · refine L_T rfl hc17 ?_
        refine L_reg ?_
        refine G_p rfl rfl rfl ?_
        refine G_nil ?_
        refine L_nil ?_
        refine Sm_norm (e2 := [(3, .int .i64 255)]) (H1 := [(kg01 t1)]) (H2 := [(kg01 t1)]) rfl (by repeat (first | exact rzz | apply rcc rfl | apply rnn rfl)) rfl (?_ : GL _ _ _ _ _)
        refine L_seq ?_
        refine L_reg ?_
        refine G_p rfl rfl rfl ?_
        refine G_p rfl rfl rfl ?_
        refine G_nil ?_
        refine L_ret ?_
        have hr := some_s hr
        subst hr
        exact ⟨_, rfl, _, rfl, rfl⟩
      · refine L_F rfl hc17 ?_
        refine L_skip ?_
        refine L_nil ?_
        refine Sm_norm (e2 := [(3, .int .i64 a2)]) (H1 := [(kg01 t1)]) (H2 := [(kg01 t1)]) rfl (by repeat (first | exact rzz | apply rcc rfl | apply rnn rfl)) rfl (?_ : GL _ _ _ _ _)
        refine L_seq ?_
        refine L_reg ?_
        refine G_p rfl rfl rfl ?_
        refine G_p rfl rfl rfl ?_
        refine G_nil ?_
        refine L_ret ?_
        have hr := some_s hr
        subst hr
        exact ⟨_, rfl, _, rfl, rfl⟩
noncomputable def g_types_All : Option Ty :=
  some (Ty.mk true 0 0 [] 0 [])
theorem g_types_All_ok {r : Ty} (hr : g_types_All = some r) : PRes (tabOf tabL) 36 [] (.agg (cT r)) := by
  refine pres_fin t36 ?_
  unfold g_types_All at hr
  refine L_seq ?_
  refine L_reg ?_
  refine G_n (B := .cells [.bool false, .int .i64 0, .int .i64 0, .lst [] true, .int .i64 0, .lst [] true]) rfl rfl rfl ?_
  refine G_nil ?_
  refine L_seq ?_
  refine L_pruneH (e' := [(0, .ptr 0 0)]) (H1 := [.cells [.bool false, .int .i64 0, .int .i64 0, .lst [] true, .int .i64 0, .lst [] true]]) (by repeat (first | exact rzz | apply rcc rfl | apply rnn rfl)) rfl ?_
  refine L_seq ?_
  refine L_reg ?_
  refine G_p (v := .agg [.bool true, .int .i64 0, .int .i64 0, .lst [] true, .int .i64 0, .lst [] true]) rfl rfl rfl ?_
  refine G_hn (H' := [.cells [.bool true, .int .i64 0, .int .i64 0, .lst [] true, .int .i64 0, .lst [] true]]) rfl rfl rfl (fun _ => rfl) ?_
  refine G_nil ?_
  refine L_ret ?_
  have hr := some_s hr
  subst hr
  exact ⟨_, rfl, _, rfl, rfl⟩
noncomputable def g_types_Flat (tags1 : Int) : Option Ty :=
  some (Ty.mk false (andB .i64 tags1 63) 0 [] 0 [])
theorem g_types_Flat_ok {tags1 : Int} {r : Ty} (hr : g_types_Flat tags1 = some r) : PRes (tabOf tabL) 48 [.int .i64 tags1] (.agg (cT r)) := by
  refine pres_fin t48 ?_
  unfold g_types_Flat at hr
  refine L_seq ?_
  refine L_reg ?_
  refine G_n (B := .cells [.bool false, .int .i64 0, .int .i64 0, .lst [] true, .int .i64 0, .lst [] true]) rfl rfl rfl ?_
  refine G_nil ?_
  refine L_seq ?_
  refine L_pruneH (e' := [(0, .int .i64 tags1), (2, .ptr 0 0)]) (H1 := [.cells [.bool false, .int .i64 0, .int .i64 0, .lst [] true, .int .i64 0, .lst [] true]]) (by repeat (first | exact rzz | apply rcc rfl | apply rnn rfl)) rfl ?_
  refine L_seq ?_
  refine L_reg ?_
  refine G_p rfl rfl rfl ?_
  refine G_p rfl rfl rfl ?_
  refine G_p (v := .agg [.bool false, .int .i64 (andB .i64 tags1 63), .int .i64 0, .lst [] true, .int .i64 0, .lst [] true]) rfl rfl rfl ?_
  refine G_hn (H' := [.cells [.bool false, .int .i64 (andB .i64 tags1 63), .int .i64 0, .lst [] true, .int .i64 0, .lst [] true]]) rfl rfl rfl (fun _ => rfl) ?_
  refine G_nil ?_
  refine L_ret ?_
  have hr := some_s hr
  subst hr
  exact ⟨_, rfl, _, rfl, rfl⟩
noncomputable def g_types_Pair (a1 : Ty) (b2 : Ty) : Option Ty :=
  some (Ty.mk false 0 1 [a1, b2] 0 [])
abbrev kg012 (a1 : Ty) : ABlock := .cells [.bool a1.all, .int .i64 a1.flat, .int .i64 a1.pair, .lst (List.map encT a1.pairs) false, .int .i64 a1.fn, .lst (List.map encT a1.funs) false]
abbrev kg013 (b2 : Ty) : ABlock := .cells [.bool b2.all, .int .i64 b2.flat, .int .i64 b2.pair, .lst (List.map encT b2.pairs) false, .int .i64 b2.fn, .lst (List.map encT b2.funs) false]
theorem g_types_Pair_ok {a1 : Ty} {b2 : Ty} {r : Ty} (hr : g_types_Pair a1 b2 = some r) : PRes (tabOf tabL) 49 [.agg (cT a1), .agg (cT b2)] (.agg (cT r)) := by
  refine pres_fin t49 ?_
  unfold g_types_Pair at hr
  refine L_seq ?_
  refine L_reg ?_
  refine G_n (B := (kg012 a1)) rfl rfl rfl ?_
  refine G_n (B := (kg013 b2)) rfl rfl rfl ?_
  refine G_n (B := .cells [.bool false, .int .i64 0, .int .i64 0, .lst [] true, .int .i64 0, .lst [] true]) rfl rfl rfl ?_
  refine G_nil ?_
  refine L_seq ?_
  refine L_pruneH (e' := [(2, .ptr 0 0), (3, .ptr 1 0), (4, .ptr 2 0)]) (H1 := [(kg012 a1), (kg013 b2), .cells [.bool false, .int .i64 0, .int .i64 0, .lst [] true, .int .i64 0, .lst [] true]]) (by repeat (first | exact rzz | apply rcc rfl | apply rnn rfl)) rfl ?_
  refine L_seq ?_
  refine L_reg ?_
  refine G_h (v := .agg (cT a1)) rfl rfl rfl (fun _ => rfl) ?_
  refine G_h (v := .agg (cT b2)) rfl rfl rfl (fun _ => rfl) ?_
  refine G_h (v := .lst (List.map encT [a1, b2]) true) rfl rfl rfl (fun _ => Eq.trans (b := some (Ex.ok (AVal.lst [.agg (cT a1), .agg (cT b2)] true), _)) rfl (congrArg (fun z => some (Ex.ok (AVal.lst z true), _)) (by first | rfl | (simp only [List.map_cons, List.map_nil, encT_eq] <;> rfl)))) ?_
  refine G_p (v := .agg [.bool false, .int .i64 0, .int .i64 1, .lst (List.map encT [a1, b2]) true, .int .i64 0, .lst [] true]) rfl rfl rfl ?_
  refine G_hn (H' := [(kg012 a1), (kg013 b2), .cells [.bool false, .int .i64 0, .int .i64 1, .lst (List.map encT [a1, b2]) true, .int .i64 0, .lst [] true]]) rfl rfl rfl (fun _ => rfl) ?_
  refine G_nil ?_
  refine L_ret ?_
  have hr := some_s hr
  subst hr
  exact ⟨_, rfl, _, rfl, rfl⟩
noncomputable def g_narrow_Keep_j1 (tags2 : Int) (b8 : Bool) (a9 : Int) (a14 : Int) (l15 : List Ty) (a16 : Int) (l17 : List Ty) : Option Ty :=
  some (Ty.mk b8 (andB .i64 a9 tags2) a14 l15 a16 l17)
noncomputable def g_narrow_Keep_j2 (tags2 : Int) (b8 : Bool) (a9 : Int) (a12 : Int) (l13 : List Ty) (a14 : Int) (l15 : List Ty) : Option Ty :=
  (cond (decide ((andB .i64 tags2 128) = 0)) (g_narrow_Keep_j1 tags2 b8 a9 a14 l15 0 []) (g_narrow_Keep_j1 tags2 b8 a9 a14 l15 a12 l13))
noncomputable def g_narrow_Keep_j3 (tags2 : Int) (b8 : Bool) (a9 : Int) (a10 : Int) (l11 : List Ty) (a12 : Int) (l13 : List Ty) : Option Ty :=
  (cond (decide ((andB .i64 tags2 64) = 0)) (g_narrow_Keep_j2 tags2 b8 a9 a12 l13 0 []) (g_narrow_Keep_j2 tags2 b8 a9 a12 l13 a10 l11))
noncomputable def g_narrow_Keep (t1 : Ty) (tags2 : Int) : Option Ty :=
  (cond t1.all (cond (decide ((andB .i64 tags2 255) = 255)) (some t1) ((g_types_Flat 63).bind fun r18 => ((g_types_All).bind fun r19 => ((g_types_All).bind fun r20 => ((g_types_Pair r19 r20).bind fun r21 => ((oJoin r18 r21).bind fun r22 => g_narrow_Keep_j3 tags2 r22.all r22.flat r22.pair r22.pairs 2 r22.funs)))))) (g_narrow_Keep_j3 tags2 t1.all t1.flat t1.pair t1.pairs t1.fn t1.funs))
abbrev kg014 (t1 : Ty) : ABlock := .cells [.bool t1.all, .int .i64 t1.flat, .int .i64 t1.pair, .lst (List.map encT t1.pairs) false, .int .i64 t1.fn, .lst (List.map encT t1.funs) false]
abbrev kg015 (b8 : Bool) (a9 : Int) (tags2 : Int) (a10 : Int) (l11 : List Ty) (a12 : Int) (l13 : List Ty) : ABlock := .cells [.bool b8, .int .i64 (andB .i64 a9 tags2), .int .i64 a10, .lst (List.map encT l11) false, .int .i64 a12, .lst (List.map encT l13) false]
abbrev kg016 (b8 : Bool) (a9 : Int) (tags2 : Int) (a14 : Int) (l15 : List Ty) (a12 : Int) (l13 : List Ty) : ABlock := .cells [.bool b8, .int .i64 (andB .i64 a9 tags2), .int .i64 a14, .lst (List.map encT l15) false, .int .i64 a12, .lst (List.map encT l13) false]
abbrev kg017 (b8 : Bool) (a9 : Int) (tags2 : Int) (a14 : Int) (l15 : List Ty) (a16 : Int) (l17 : List Ty) : ABlock := .cells [.bool b8, .int .i64 (andB .i64 a9 tags2), .int .i64 a14, .lst (List.map encT l15) false, .int .i64 a16, .lst (List.map encT l17) false]
abbrev kg018 : ABlock := .cells [.bool false, .int .i64 0, .int .i64 0, .lst [] true, .int .i64 0, .lst [] true]
theorem g_narrow_Keep_ok {t1 : Ty} {tags2 : Int} {r : Ty} (hr : g_narrow_Keep t1 tags2 = some r) : PRes (tabOf tabL) 20 [.agg (cT t1), .int .i64 tags2] (.agg (cT r)) := by
  refine pres_fin t20 ?_
  unfold g_narrow_Keep at hr
  refine L_seq ?_
  refine L_stmt ?_
  refine L_reg ?_
  refine G_n (B := (kg014 t1)) rfl rfl rfl ?_
  refine G_n (B := kg018) rfl rfl rfl ?_
  refine G_nil ?_
  refine L_nil ?_
  refine Sm_norm (e2 := [(1, .int .i64 tags2), (2, .ptr 0 0), (4, .ptr 1 0)]) (H1 := [(kg014 t1), kg018]) (H2 := [(kg014 t1), kg018]) rfl (by repeat (first | exact rzz | apply rcc rfl | apply rnn rfl)) rfl (?_ : GL _ _ _ _ _)
  refine L_seq ?_
  refine L_stmtJ (S := Bool × Int × Int × List Ty × Int × List Ty) (fun s => [(1, .int .i64 tags2), (2, .ptr 0 0), (4, .ptr 1 0)]) (fun s => [.cells [.bool s.1, .int .i64 s.2.1, .int .i64 s.2.2.1, .lst (List.map encT s.2.2.2.1) false, .int .i64 s.2.2.2.2.1, .lst (List.map encT s.2.2.2.2.2) false], kg018]) (fun s => g_narrow_Keep_j3 tags2 s.1 s.2.1 s.2.2.1 s.2.2.2.1 s.2.2.2.2.1 s.2.2.2.2.2 = some r) ?_ ?_
  · skip
    refine L_seq ?_
    refine L_stmt ?_
    refine L_reg ?_
    refine G_p rfl rfl rfl ?_
    refine G_h rfl rfl rfl (fun _ => rfl) ?_
    refine G_nil ?_
    refine L_nil ?_
    refine Sm_norm (e2 := [(1, .int .i64 tags2), (2, .ptr 0 0), (4, .ptr 1 0), (6, .bool t1.all)]) (H1 := [(kg014 t1), kg018]) (H2 := [(kg014 t1), kg018]) rfl (by repeat (first | exact rzz | apply rcc rfl | apply rnn rfl)) rfl (?_ : GL _ _ _ _ _)
    rcases cond_s hr with ⟨hc6, hr⟩ | ⟨hc6, hr⟩
    · refine L_T rfl hc6 ?_
      refine L_seq ?_
      refine L_stmt ?_
      refine L_seq ?_
      refine L_stmt ?_
      refine L_reg ?_
      refine G_p rfl rfl rfl ?_
      refine G_p rfl rfl rfl ?_
      refine G_p rfl rfl rfl ?_
      refine G_nil ?_
      refine L_nil ?_
      refine Sm_norm (e2 := [(1, .int .i64 tags2), (2, .ptr 0 0), (4, .ptr 1 0), (9, .bool (decide ((andB .i64 tags2 255) = 255)))]) (H1 := [(kg014 t1), kg018]) (H2 := [(kg014 t1), kg018]) rfl (by repeat (first | exact rzz | apply rcc rfl | apply rnn rfl)) rfl (?_ : GL _ _ _ _ _)
      rcases cond_s hr with ⟨hc9, hr⟩ | ⟨hc9, hr⟩
      · refine L_T rfl hc9 ?_
        refine L_seq ?_
        refine L_reg ?_
        refine G_h (v := .agg (cT t1)) rfl rfl rfl (fun _ => rfl) ?_
        refine G_hn (H' := [(kg014 t1), (kg014 t1)]) rfl rfl rfl (fun _ => rfl) ?_
        refine G_nil ?_
        refine L_ret ?_
        refine Sm_ret ?_
        refine Sm_ret ?_
        have hr := some_s hr
        subst hr
        exact ⟨_, rfl, _, rfl, rfl⟩
      · refine L_F rfl hc9 ?_
        refine L_skip ?_
        refine L_nil ?_
        refine Sm_norm (e2 := [(1, .int .i64 tags2), (2, .ptr 0 0), (4, .ptr 1 0)]) (H1 := [(kg014 t1), kg018]) (H2 := [(kg014 t1), kg018]) rfl (by repeat (first | exact rzz | apply rcc rfl | apply rnn rfl)) rfl (?_ : GL _ _ _ _ _)
        refine L_seq ?_
        refine L_stmt ?_
        refine L_reg ?_
        obtain ⟨r18, hr18, hr⟩ := bind_s hr
        refine G_c 48 rfl rfl (CA_of (as := [.int .i64 63]) rfl (g_types_Flat_ok hr18)) ?_
        obtain ⟨r19, hr19, hr⟩ := bind_s hr
        refine G_c 36 rfl rfl (CA_of (as := []) rfl (g_types_All_ok hr19)) ?_
        obtain ⟨r20, hr20, hr⟩ := bind_s hr
        refine G_c 36 rfl rfl (CA_of (as := []) rfl (g_types_All_ok hr20)) ?_
        obtain ⟨r21, hr21, hr⟩ := bind_s hr
        refine G_c 49 rfl rfl (CA_of (as := [.agg (cT r19), .agg (cT r20)]) rfl (g_types_Pair_ok hr21)) ?_
        obtain ⟨r22, hr22, hr⟩ := bind_s hr
        refine G_c 31 rfl rfl (CA_of (as := [.agg (cT r18), .agg (cT r21)]) rfl (oJoin_ok hr22)) ?_
        refine G_hn (H' := [.cells [.bool r22.all, .int .i64 r22.flat, .int .i64 r22.pair, .lst (List.map encT r22.pairs) false, .int .i64 r22.fn, .lst (List.map encT r22.funs) false], kg018]) rfl rfl rfl (fun _ => rfl) ?_
        refine G_nil ?_
        refine L_nil ?_
        refine Sm_norm (e2 := [(1, .int .i64 tags2), (2, .ptr 0 0), (4, .ptr 1 0)]) (H1 := [.cells [.bool r22.all, .int .i64 r22.flat, .int .i64 r22.pair, .lst (List.map encT r22.pairs) false, .int .i64 r22.fn, .lst (List.map encT r22.funs) false], kg018]) (H2 := [.cells [.bool r22.all, .int .i64 r22.flat, .int .i64 r22.pair, .lst (List.map encT r22.pairs) false, .int .i64 r22.fn, .lst (List.map encT r22.funs) false], kg018]) rfl (by repeat (first | exact rzz | apply rcc rfl | apply rnn rfl)) rfl (?_ : GL _ _ _ _ _)
        refine L_reg ?_
        refine G_p rfl rfl rfl ?_
        refine G_hn (H' := [.cells [.bool r22.all, .int .i64 r22.flat, .int .i64 r22.pair, .lst (List.map encT r22.pairs) false, .int .i64 2, .lst (List.map encT r22.funs) false], kg018]) rfl rfl rfl (fun _ => rfl) ?_
        refine G_nil ?_
        refine L_nil ?_
        exact Sm_norm (e2 := [(1, .int .i64 tags2), (2, .ptr 0 0), (4, .ptr 1 0)]) (H1 := [.cells [.bool r22.all, .int .i64 r22.flat, .int .i64 r22.pair, .lst (List.map encT r22.pairs) false, .int .i64 2, .lst (List.map encT r22.funs) false], kg018]) (H2 := [.cells [.bool r22.all, .int .i64 r22.flat, .int .i64 r22.pair, .lst (List.map encT r22.pairs) false, .int .i64 2, .lst (List.map encT r22.funs) false], kg018]) rfl (by repeat (first | exact rzz | apply rcc rfl | apply rnn rfl)) rfl ⟨(r22.all, r22.flat, r22.pair, r22.pairs, 2, r22.funs), rfl, rfl, hr⟩
    · refine L_F rfl hc6 ?_
      refine L_skip ?_
      refine L_nil ?_
      exact Sm_norm (e2 := [(1, .int .i64 tags2), (2, .ptr 0 0), (4, .ptr 1 0)]) (H1 := [(kg014 t1), kg018]) (H2 := [(kg014 t1), kg018]) rfl (by repeat (first | exact rzz | apply rcc rfl | apply rnn rfl)) rfl ⟨(t1.all, t1.flat, t1.pair, t1.pairs, t1.fn, t1.funs), rfl, rfl, hr⟩
  · rintro ⟨b8, a9, a10, l11, a12, l13⟩ hr
    show GL _ _ [(1, .int .i64 tags2), (2, .ptr 0 0), (4, .ptr 1 0)] [.cells [.bool b8, .int .i64 a9, .int .i64 a10, .lst (List.map encT l11) false, .int .i64 a12, .lst (List.map encT l13) false], kg018] _
    replace hr : g_narrow_Keep_j3 tags2 b8 a9 a10 l11 a12 l13 = some r := hr
    unfold g_narrow_Keep_j3 at hr
    refine L_seq ?_
    refine L_stmt ?_
    refine L_reg ?_
    refine G_p rfl rfl rfl ?_
    refine G_h rfl rfl rfl (fun _ => rfl) ?_
    refine G_p rfl rfl rfl ?_
    refine G_p rfl rfl rfl ?_
    refine G_p rfl rfl rfl ?_
    refine G_hn (H' := [(kg015 b8 a9 tags2 a10 l11 a12 l13), kg018]) rfl rfl rfl (fun _ => rfl) ?_
    refine G_nil ?_
    refine L_nil ?_
    refine Sm_norm (e2 := [(1, .int .i64 tags2), (2, .ptr 0 0), (4, .ptr 1 0)]) (H1 := [(kg015 b8 a9 tags2 a10 l11 a12 l13), kg018]) (H2 := [(kg015 b8 a9 tags2 a10 l11 a12 l13), kg018]) rfl (by repeat (first | exact rzz | apply rcc rfl | apply rnn rfl)) rfl (?_ : GL _ _ _ _ _)
    refine L_seq ?_
    refine L_stmtJ (S := Int × List Ty) (fun s => [(1, .int .i64 tags2), (2, .ptr 0 0), (4, .ptr 1 0)]) (fun s => [.cells [.bool b8, .int .i64 (andB .i64 a9 tags2), .int .i64 s.1, .lst (List.map encT s.2) false, .int .i64 a12, .lst (List.map encT l13) false], kg018]) (fun s => g_narrow_Keep_j2 tags2 b8 a9 a12 l13 s.1 s.2 = some r) ?_ ?_
    · skip
      refine L_seq ?_
      refine L_stmt ?_
      refine L_reg ?_
      refine G_p rfl rfl rfl ?_
      refine G_p rfl rfl rfl ?_
      refine G_p rfl rfl rfl ?_
      refine G_nil ?_
      refine L_nil ?_
      refine Sm_norm (e2 := [(1, .int .i64 tags2), (2, .ptr 0 0), (4, .ptr 1 0), (24, .bool (decide ((andB .i64 tags2 64) = 0)))]) (H1 := [(kg015 b8 a9 tags2 a10 l11 a12 l13), kg018]) (H2 := [(kg015 b8 a9 tags2 a10 l11 a12 l13), kg018]) rfl (by repeat (first | exact rzz | apply rcc rfl | apply rnn rfl)) rfl (?_ : GL _ _ _ _ _)
      rcases cond_s hr with ⟨hc24, hr⟩ | ⟨hc24, hr⟩
      · refine L_T rfl hc24 ?_
        refine L_reg ?_
        refine G_p rfl rfl rfl ?_
        refine G_hn (H' := [.cells [.bool b8, .int .i64 (andB .i64 a9 tags2), .int .i64 0, .lst (List.map encT l11) false, .int .i64 a12, .lst (List.map encT l13) false], kg018]) rfl rfl rfl (fun _ => rfl) ?_
        refine G_p rfl rfl rfl ?_
        refine G_hn (H' := [.cells [.bool b8, .int .i64 (andB .i64 a9 tags2), .int .i64 0, .lst [] true, .int .i64 a12, .lst (List.map encT l13) false], kg018]) rfl rfl rfl (fun _ => rfl) ?_
        refine G_nil ?_
        refine L_nil ?_
        exact Sm_norm (e2 := [(1, .int .i64 tags2), (2, .ptr 0 0), (4, .ptr 1 0)]) (H1 := [.cells [.bool b8, .int .i64 (andB .i64 a9 tags2), .int .i64 0, .lst [] false, .int .i64 a12, .lst (List.map encT l13) false], kg018]) (H2 := [.cells [.bool b8, .int .i64 (andB .i64 a9 tags2), .int .i64 0, .lst (List.map encT []) false, .int .i64 a12, .lst (List.map encT l13) false], kg018]) (frz_c (frz_lstC (H2 := [.cells [.bool b8, .int .i64 (andB .i64 a9 tags2), .int .i64 0, .lst [] false, .int .i64 a12, .lst (List.map encT l13) false], kg018]) rfl rfl rfl rfl) rfl) (by repeat (first | exact rzz | apply rcc rfl | apply rnn rfl)) rfl ⟨(0, []), rfl, rfl, hr⟩
      · refine L_F rfl hc24 ?_
        refine L_skip ?_
        refine L_nil ?_
        exact Sm_norm (e2 := [(1, .int .i64 tags2), (2, .ptr 0 0), (4, .ptr 1 0)]) (H1 := [(kg015 b8 a9 tags2 a10 l11 a12 l13), kg018]) (H2 := [(kg015 b8 a9 tags2 a10 l11 a12 l13), kg018]) (frz_c (frz_lstC (H2 := [(kg015 b8 a9 tags2 a10 l11 a12 l13), kg018]) rfl rfl rfl rfl) rfl) (by repeat (first | exact rzz | apply rcc rfl | apply rnn rfl)) rfl ⟨(a10, l11), rfl, rfl, hr⟩
    · rintro ⟨a14, l15⟩ hr
      show GL _ _ [(1, .int .i64 tags2), (2, .ptr 0 0), (4, .ptr 1 0)] [(kg016 b8 a9 tags2 a14 l15 a12 l13), kg018] _
      replace hr : g_narrow_Keep_j2 tags2 b8 a9 a12 l13 a14 l15 = some r := hr
      unfold g_narrow_Keep_j2 at hr
      refine L_seq ?_
      refine L_stmtJ (S := Int × List Ty) (fun s => [(2, .ptr 0 0), (4, .ptr 1 0)]) (fun s => [.cells [.bool b8, .int .i64 (andB .i64 a9 tags2), .int .i64 a14, .lst (List.map encT l15) false, .int .i64 s.1, .lst (List.map encT s.2) false], kg018]) (fun s => g_narrow_Keep_j1 tags2 b8 a9 a14 l15 s.1 s.2 = some r) ?_ ?_
      · skip
        refine L_seq ?_
        refine L_stmt ?_
        refine L_reg ?_
        refine G_p rfl rfl rfl ?_
        refine G_p rfl rfl rfl ?_
        refine G_p rfl rfl rfl ?_
        refine G_nil ?_
        refine L_nil ?_
        refine Sm_norm (e2 := [(2, .ptr 0 0), (4, .ptr 1 0), (29, .bool (decide ((andB .i64 tags2 128) = 0)))]) (H1 := [(kg016 b8 a9 tags2 a14 l15 a12 l13), kg018]) (H2 := [(kg016 b8 a9 tags2 a14 l15 a12 l13), kg018]) rfl (by repeat (first | exact rzz | apply rcc rfl | apply rnn rfl)) rfl (?_ : GL _ _ _ _ _)
        rcases cond_s hr with ⟨hc29, hr⟩ | ⟨hc29, hr⟩
        · refine L_T rfl hc29 ?_
          refine L_reg ?_
          refine G_p rfl rfl rfl ?_
          refine G_hn (H' := [.cells [.bool b8, .int .i64 (andB .i64 a9 tags2), .int .i64 a14, .lst (List.map encT l15) false, .int .i64 0, .lst (List.map encT l13) false], kg018]) rfl rfl rfl (fun _ => rfl) ?_
          refine G_p rfl rfl rfl ?_
          refine G_hn (H' := [.cells [.bool b8, .int .i64 (andB .i64 a9 tags2), .int .i64 a14, .lst (List.map encT l15) false, .int .i64 0, .lst [] true], kg018]) rfl rfl rfl (fun _ => rfl) ?_
          refine G_nil ?_
          refine L_nil ?_
          exact Sm_norm (e2 := [(2, .ptr 0 0), (4, .ptr 1 0)]) (H1 := [.cells [.bool b8, .int .i64 (andB .i64 a9 tags2), .int .i64 a14, .lst (List.map encT l15) false, .int .i64 0, .lst [] false], kg018]) (H2 := [.cells [.bool b8, .int .i64 (andB .i64 a9 tags2), .int .i64 a14, .lst (List.map encT l15) false, .int .i64 0, .lst (List.map encT []) false], kg018]) (frz_c (frz_lstC (H2 := [.cells [.bool b8, .int .i64 (andB .i64 a9 tags2), .int .i64 a14, .lst (List.map encT l15) false, .int .i64 0, .lst [] false], kg018]) rfl rfl rfl rfl) rfl) (by repeat (first | exact rzz | apply rcc rfl | apply rnn rfl)) rfl ⟨(0, []), rfl, rfl, hr⟩
        · refine L_F rfl hc29 ?_
          refine L_skip ?_
          refine L_nil ?_
          exact Sm_norm (e2 := [(2, .ptr 0 0), (4, .ptr 1 0)]) (H1 := [(kg016 b8 a9 tags2 a14 l15 a12 l13), kg018]) (H2 := [(kg016 b8 a9 tags2 a14 l15 a12 l13), kg018]) (frz_c (frz_lstC (H2 := [(kg016 b8 a9 tags2 a14 l15 a12 l13), kg018]) rfl rfl rfl rfl) rfl) (by repeat (first | exact rzz | apply rcc rfl | apply rnn rfl)) rfl ⟨(a12, l13), rfl, rfl, hr⟩
      · rintro ⟨a16, l17⟩ hr
        show GL _ _ [(2, .ptr 0 0), (4, .ptr 1 0)] [(kg017 b8 a9 tags2 a14 l15 a16 l17), kg018] _
        replace hr : g_narrow_Keep_j1 tags2 b8 a9 a14 l15 a16 l17 = some r := hr
        unfold g_narrow_Keep_j1 at hr
        refine L_seq ?_
        refine L_reg ?_
        refine G_h (v := .agg [.bool b8, .int .i64 (andB .i64 a9 tags2), .int .i64 a14, .lst (List.map encT l15) false, .int .i64 a16, .lst (List.map encT l17) false]) rfl rfl rfl (fun _ => rfl) ?_
        refine G_hn (H' := [(kg017 b8 a9 tags2 a14 l15 a16 l17), (kg017 b8 a9 tags2 a14 l15 a16 l17)]) rfl rfl rfl (fun _ => rfl) ?_
        refine G_nil ?_
        refine L_ret ?_
        have hr := some_s hr
        subst hr
        exact ⟨_, rfl, _, rfl, rfl⟩
end Go.Ev.Seat
namespace Go.Ev.Seat.TyS
set_option linter.unusedVariables false
set_option linter.unusedSimpArgs false
open Go Go.Ev
set_option maxRecDepth 20000
attribute [local irreducible] pcall callF
theorem size_zero (n : Nat) (t : Ty) : pcall (tabOf tabL) (n + 1) 45 [vT t, .int .i64 (0 : Nat)] = some (.ok (.int .i64 (rsz t 0 : Nat))) := by
  refine pcall_fin t45 ?_
  refine WL_seq ?_
  refine WL_reg ?_
  refine O_n rfl rfl rfl ?_
  refine O_p rfl rfl rfl ?_
  refine WO_nil ?_
  refine WL_seq ?_
  apply WLp
  · (repeat (first | exact rzz | apply rcc rfl | apply rnn rfl))
  refine WL_seq ?_
  refine WL_seq ?_
  refine WL_reg ?_
  refine O_p rfl rfl rfl ?_
  refine O_p rfl rfl rfl ?_
  refine WO_nil ?_
  refine WL_seq ?_
  apply WLp
  · (repeat (first | exact rzz | apply rcc rfl | apply rnn rfl))
  refine WL_cond rfl (fun h9 => ?_) (fun h9 => ?_)
  · skip
    refine WL_seq ?_
    refine WL_reg ?_
    refine O_p rfl rfl rfl ?_
    refine WO_nil ?_
    refine WL_ret ?_
    exact ⟨_, rfl, _, rfl, by rw [rsz_zero]; rfl⟩
  · skip
    simp at h9
theorem size_c : ∀ (n : Nat) (t : Ty) (l : Nat), szT t < n → WfT t → l < 1000 → pcall (tabOf tabL) n 45 [vT t, .int .i64 (l : Nat)] = some (.ok (.int .i64 (rsz t l : Nat)))
  | 0, t, l, h, _, _ => by omega
  | n + 1, t, 0, h, _, _ => size_zero n t
  | n + 1, t, l + 1, h, hw, hl => by
    have ih := size_c n
    have hp := len_pairs t
    have hf := len_funs t
    have hl1 : IntKind.i64.wrap (((l + 1 : Nat) : Int) - 1) = (l : Int) := by rw [kw_i64_id (by omega) (by omega)]; omega
    cases hw with | mk w1 w2 w3 w4 w5 w6 w7 =>
    refine pcall_fin t45 ?_
    refine WL_seq ?_
    refine WL_reg ?_
    refine O_n rfl rfl rfl ?_
    refine O_p rfl rfl rfl ?_
    refine WO_nil ?_
    refine WL_seq ?_
    apply WLp
    · (repeat (first | exact rzz | apply rcc rfl | apply rnn rfl))
    refine WL_seq ?_
    refine WL_seq ?_
    refine WL_reg ?_
    refine O_p rfl rfl rfl ?_
    refine O_p rfl rfl rfl ?_
    refine WO_nil ?_
    refine WL_seq ?_
    apply WLp
    · (repeat (first | exact rzz | apply rcc rfl | apply rnn rfl))
    refine WL_cond rfl (fun h9 => ?_) (fun h9 => ?_)
    · skip
      simp at h9; omega
    · skip
      refine WL_skip ?_
      refine WL_seq ?_
      apply WLp
      · (repeat (first | exact rzz | apply rcc rfl | apply rnn rfl))
      refine WL_seq ?_
      refine WL_reg ?_
      refine O_p rfl rfl rfl ?_
      refine WO_nil ?_
      refine WL_seq ?_
      apply WLp
      · (repeat (first | exact rzz | apply rcc rfl | apply rnn rfl))
      refine WL_seq ?_
      refine WL_seq ?_
      refine WL_reg ?_
      refine O_p rfl rfl rfl ?_
      refine WO_nil ?_
      refine WL_seq ?_
      apply WLp
      · (repeat (first | exact rzz | apply rcc rfl | apply rnn rfl))
      refine WL_block ?_
      apply WL_forc (α := Nat × Nat) (fun s => [(5, .int .i64 (s.1 : Nat)), (6, .int .i64 (s.2 : Nat))]) (fun s => s.2 ≤ t.pairs.length ∧ s.1 ≤ 2000 ∧ min 1000 (1 + rszs t.pairs l) = min 1000 (s.1 + rszs (t.pairs.drop s.2) l)) (fun s => t.pairs.length - s.2) ((1, 0)) (he := ?he) (hP := ?hP) (hk := ?hk) (round := ?round)
      case he =>
        (repeat (first | exact rzz | apply rcc rfl | apply rnn rfl))
      case hP =>
        exact ⟨by omega, by omega, rfl⟩
      case hk =>
        show t.pairs.length - 0 < n; omega
      case round =>
        rintro ⟨c, i⟩ ⟨hi, hc, hs⟩
        simp only at hi hc hs
        dsimp only [List.cons_append, List.nil_append] at *
        refine WL_seq ?_
        refine WL_seq ?_
        refine WL_reg ?_
        refine O_p rfl rfl rfl ?_
        refine O_p rfl rfl rfl ?_
        refine O_h rfl rfl rfl rfl ?_
        refine O_h rfl rfl rfl rfl ?_
        refine O_p rfl rfl rfl ?_
        refine O_p rfl rfl rfl ?_
        apply O_and [_, _] rfl rfl (hT := ?hT18) (h := ?hR18)
        case hT18 =>
          intro hb15
          refine O_p rfl rfl rfl ?_
          refine O_p rfl rfl rfl ?_
          exact WO_nil (WL_nil ⟨rfl, rfl, rfl⟩)
        case hR18 =>
          intro vs hvs
          obtain ⟨u16, u17, rfl⟩ := len2 hvs
          clear hvs; dsimp only [junk]
          refine WO_nil ?_
          refine WL_seq ?_
          apply WLp
          · (repeat (first | exact rzz | apply rcc rfl | apply rnn rfl))
          try clear u16 u17
          refine WL_cond rfl (fun h18 => ?_) (fun h18 => ?_)
          · skip
            simp at h18
            obtain ⟨x, hx⟩ : ∃ x, (t.pairs)[i]? = some x := ⟨_, List.getElem?_eq_getElem (by omega)⟩
            have hmx := List.mem_of_getElem? hx
            have hsx := szT_pairs hmx
            have hle := rsz_le x l
            have hg := drop_of hx
            refine WL_skip ?_
            refine WL_seq ?_
            apply WLp
            · (repeat (first | exact rzz | apply rcc rfl | apply rnn rfl))
            refine WL_seq ?_
            refine WL_block ?_
            refine WL_reg ?_
            refine O_p rfl rfl rfl ?_
            refine O_p rfl rfl rfl ?_
            refine O_h rfl rfl rfl rfl ?_
            refine O_p rfl rfl rfl ?_
            refine O_ia rfl rfl (Int.natCast_nonneg _) (encT_get (i := (i : Nat)) hx) (encT_flat _) rfl ?_
            refine O_h rfl rfl rfl rfl ?_
            refine O_p rfl rfl rfl ?_
            refine O_p rfl rfl rfl ?_
            refine O_c 45 rfl rfl (callA_of rfl (by rw [hl1]; exact ih x l (by omega) (w6 x hmx) (by omega))) ?_
            refine O_p rfl rfl rfl ?_
            refine O_p rfl rfl rfl ?_
            refine WO_nil ?_
            refine WL_nil ?_
            refine Blk_norm (?_ : WL _ _ _ _ _)
            refine WL_seq ?_
            apply WLp
            · (repeat (first | exact rzz | apply rcc rfl | apply rnn rfl))
            refine WL_reg ?_
            refine O_p rfl rfl rfl ?_
            refine O_p rfl rfl rfl ?_
            refine O_p rfl rfl rfl ?_
            refine WO_nil ?_
            refine WL_nil ?_
            refine RndC_norm ((c + rsz x l, i + 1)) (by refine ⟨?_, ?_, ?_⟩ <;> simp only <;> first | omega | (rw [hs, hg, rszs]; omega)) (by show _ < _; omega) ?_ rfl
            · rw [wrap_add (by omega), wrap_succ (by omega)]; (repeat (first | exact rzz | apply rcc rfl | apply rnn rfl))
          · skip
            have hq : min 1000 (1 + rszs t.pairs l) = min 1000 c := by
              rw [hs]; simp at h18
              by_cases hc : i < t.pairs.length
              · have := h18 hc; omega
              · rw [List.drop_eq_nil_of_le (by omega)]; simp [rszs]
            refine WL_exit ?_
            refine RndC_exit ?_
            refine Blk_exit (?_ : WL _ _ _ _ _)
            refine WL_seq ?_
            apply WLp
            · (repeat (first | exact rzz | apply rcc rfl | apply rnn rfl))
            refine WL_seq ?_
            refine WL_seq ?_
            refine WL_reg ?_
            refine O_p rfl rfl rfl ?_
            refine WO_nil ?_
            refine WL_seq ?_
            apply WLp
            · (repeat (first | exact rzz | apply rcc rfl | apply rnn rfl))
            refine WL_block ?_
            apply WL_forc (α := Nat × Nat) (fun s => [(5, .int .i64 (s.1 : Nat)), (7, .int .i64 (s.2 : Nat))]) (fun s => s.2 ≤ t.funs.length ∧ s.1 ≤ 2000 ∧ min 1000 (1 + rszs t.pairs l + rszs t.funs l) = min 1000 (s.1 + rszs (t.funs.drop s.2) l)) (fun s => t.funs.length - s.2) ((c, 0)) (he := ?he) (hP := ?hP) (hk := ?hk) (round := ?round)
            case he =>
              (repeat (first | exact rzz | apply rcc rfl | apply rnn rfl))
            case hP =>
              refine ⟨by simp, by simp only; omega, ?_⟩; simp only [List.drop_zero]; omega
            case hk =>
              show t.funs.length - 0 < n; omega
            case round =>
              rintro ⟨c, i⟩ ⟨hi, hc, hs2⟩
              simp only at hi hc hs2
              dsimp only [List.cons_append, List.nil_append] at *
              refine WL_seq ?_
              refine WL_seq ?_
              refine WL_reg ?_
              refine O_p rfl rfl rfl ?_
              refine O_p rfl rfl rfl ?_
              refine O_h rfl rfl rfl rfl ?_
              refine O_h rfl rfl rfl rfl ?_
              refine O_p rfl rfl rfl ?_
              refine O_p rfl rfl rfl ?_
              apply O_and [_, _] rfl rfl (hT := ?hT39) (h := ?hR39)
              case hT39 =>
                intro hb36
                refine O_p rfl rfl rfl ?_
                refine O_p rfl rfl rfl ?_
                exact WO_nil (WL_nil ⟨rfl, rfl, rfl⟩)
              case hR39 =>
                intro vs hvs
                obtain ⟨u37, u38, rfl⟩ := len2 hvs
                clear hvs; dsimp only [junk]
                refine WO_nil ?_
                refine WL_seq ?_
                apply WLp
                · (repeat (first | exact rzz | apply rcc rfl | apply rnn rfl))
                try clear u37 u38
                refine WL_cond rfl (fun h39 => ?_) (fun h39 => ?_)
                · skip
                  simp at h39
                  obtain ⟨x, hx⟩ : ∃ x, (t.funs)[i]? = some x := ⟨_, List.getElem?_eq_getElem (by omega)⟩
                  have hmx := List.mem_of_getElem? hx
                  have hsx := szT_funs hmx
                  have hle := rsz_le x l
                  have hg := drop_of hx
                  refine WL_skip ?_
                  refine WL_seq ?_
                  apply WLp
                  · (repeat (first | exact rzz | apply rcc rfl | apply rnn rfl))
                  refine WL_seq ?_
                  refine WL_block ?_
                  refine WL_reg ?_
                  refine O_p rfl rfl rfl ?_
                  refine O_p rfl rfl rfl ?_
                  refine O_h rfl rfl rfl rfl ?_
                  refine O_p rfl rfl rfl ?_
                  refine O_ia rfl rfl (Int.natCast_nonneg _) (encT_get (i := (i : Nat)) hx) (encT_flat _) rfl ?_
                  refine O_h rfl rfl rfl rfl ?_
                  refine O_p rfl rfl rfl ?_
                  refine O_p rfl rfl rfl ?_
                  refine O_c 45 rfl rfl (callA_of rfl (by rw [hl1]; exact ih x l (by omega) (w7 x hmx) (by omega))) ?_
                  refine O_p rfl rfl rfl ?_
                  refine O_p rfl rfl rfl ?_
                  refine WO_nil ?_
                  refine WL_nil ?_
                  refine Blk_norm (?_ : WL _ _ _ _ _)
                  refine WL_seq ?_
                  apply WLp
                  · (repeat (first | exact rzz | apply rcc rfl | apply rnn rfl))
                  refine WL_reg ?_
                  refine O_p rfl rfl rfl ?_
                  refine O_p rfl rfl rfl ?_
                  refine O_p rfl rfl rfl ?_
                  refine WO_nil ?_
                  refine WL_nil ?_
                  refine RndC_norm ((c + rsz x l, i + 1)) (by refine ⟨?_, ?_, ?_⟩ <;> simp only <;> first | omega | (rw [hs2, hg, rszs]; omega)) (by show _ < _; omega) ?_ rfl
                  · rw [wrap_add (by omega), wrap_succ (by omega)]; (repeat (first | exact rzz | apply rcc rfl | apply rnn rfl))
                · skip
                  have hr : AVal.int IntKind.i64 (rsz t (l + 1) : Nat) = AVal.int IntKind.i64 (if false = true then if (1000 : Int) > (c : Int) then 1000 else (c : Int) else if (1000 : Int) < (c : Int) then 1000 else (c : Int)) := by
                    have hq2 : rsz t (l + 1) = min 1000 c := by
                      rw [rsz_succ, hs2]; simp at h39
                      by_cases hc : i < t.funs.length
                      · have := h39 hc; omega
                      · rw [List.drop_eq_nil_of_le (by omega)]; simp [rszs]
                    rw [hq2]; congr 1; simp; split <;> omega
                  refine WL_exit ?_
                  refine RndC_exit ?_
                  refine Blk_exit (?_ : WL _ _ _ _ _)
                  refine WL_seq ?_
                  apply WLp
                  · (repeat (first | exact rzz | apply rcc rfl | apply rnn rfl))
                  refine WL_seq ?_
                  refine WL_reg ?_
                  refine O_p rfl rfl rfl ?_
                  refine O_p rfl rfl rfl ?_
                  refine O_p rfl rfl rfl ?_
                  refine WO_nil ?_
                  refine WL_ret ?_
                  refine ⟨_, rfl, _, rfl, ?_⟩
                  rw [hr]
theorem light_c (n : Nat) (t : Ty) (h : szT t < n) (hw : WfT t) : pcall (tabOf tabL) (n + 1) 15 [vT t] = some (.ok (.bool (decide (rsz t 60 < 120)))) := by
  refine pcall_fin t15 ?_
  refine WL_seq ?_
  refine WL_reg ?_
  refine O_n rfl rfl rfl ?_
  refine O_p rfl rfl rfl ?_
  refine WO_nil ?_
  refine WL_seq ?_
  apply WLp
  · (repeat (first | exact rzz | apply rcc rfl | apply rnn rfl))
  refine WL_seq ?_
  refine WL_reg ?_
  refine O_h rfl rfl rfl rfl ?_
  refine O_c 45 rfl rfl (callA_of rfl (size_c n t 60 h hw (by omega))) ?_
  refine O_p rfl rfl rfl ?_
  refine O_p rfl rfl rfl ?_
  refine WO_nil ?_
  refine WL_ret ?_
  exact ⟨_, rfl, _, rfl, by congr 2; apply decide_eq_decide.2; omega⟩
theorem index_c (n : Nat) (l : List Ty) (b : Bool) (f : FuncId) (caps : List AVal) (p : Ty → Bool) (H : Heap) (hl : l.length < n) (hm : l.length < 9223372036854775808)
    (hf : ∀ x, x ∈ l → callA ⟨callF (tabOf tabL) n, n⟩ false f (vT x :: caps) H = some (.ok (.bool (p x)), H)) :
    callF (tabOf tabL) (n + 1) 83 [.lst (l.map encT) b, .fn f caps] H = some (.ok (.int .i64 (fidx p l 0)), H) := by
  refine callF_fin t83 ?_
  refine WL_seq ?_
  refine WL_reg ?_
  refine O_p rfl rfl rfl ?_
  refine WO_nil ?_
  refine WL_seq ?_
  apply WLp
  · (repeat (first | exact rzz | apply rcc rfl | apply rnn rfl))
  refine WL_seq ?_
  refine WL_seq ?_
  refine WL_reg ?_
  refine O_p rfl rfl rfl ?_
  refine O_h rfl rfl rfl rfl ?_
  refine O_p rfl rfl rfl ?_
  refine WO_nil ?_
  refine WL_seq ?_
  apply WLp
  · (repeat (first | exact rzz | apply rcc rfl | apply rnn rfl))
  refine WL_block ?_
  apply WL_forc (α := Nat) (fun i => [(8, .int .i64 (i : Nat))]) (fun i => i ≤ l.length ∧ fidx p l 0 = fidx p (l.drop i) i) (fun i => l.length - i) (0) (he := ?he) (hP := ?hP) (hk := ?hk) (round := ?round)
  case he =>
    (repeat (first | exact rzz | apply rcc rfl | apply rnn rfl))
  case hP =>
    exact ⟨by omega, rfl⟩
  case hk =>
    show l.length - 0 < n; omega
  case round =>
    rintro i ⟨hi, hs⟩
    dsimp only [List.cons_append, List.nil_append] at *
    refine WL_seq ?_
    refine WL_reg ?_
    refine O_p rfl rfl rfl ?_
    refine WO_nil ?_
    refine WL_seq ?_
    apply WLp
    · (repeat (first | exact rzz | apply rcc rfl | apply rnn rfl))
    refine WL_seq ?_
    refine WL_cond rfl (fun h9 => ?_) (fun h9 => ?_)
    · skip
      simp at h9
      obtain ⟨x, hx⟩ : ∃ x, (l)[i]? = some x := ⟨_, List.getElem?_eq_getElem (by omega)⟩
      have hmx := List.mem_of_getElem? hx
      have hg := drop_of hx
      refine WL_skip ?_
      refine WL_seq ?_
      apply WLp
      · (repeat (first | exact rzz | apply rcc rfl | apply rnn rfl))
      refine WL_seq ?_
      refine WL_block ?_
      refine WL_seq ?_
      refine WL_reg ?_
      refine O_p rfl rfl rfl ?_
      refine O_p rfl rfl rfl ?_
      refine WO_nil ?_
      refine WL_seq ?_
      apply WLp
      · (repeat (first | exact rzz | apply rcc rfl | apply rnn rfl))
      refine WL_seq ?_
      refine WL_reg ?_
      refine O_p rfl rfl rfl ?_
      refine O_p rfl rfl rfl ?_
      refine O_p rfl rfl rfl ?_
      refine O_ia rfl rfl (Int.natCast_nonneg _) (encT_get (i := (i : Nat)) hx) (encT_flat _) rfl ?_
      refine O_h rfl rfl rfl rfl ?_
      refine O_cv rfl rfl (hf x hmx) ?_
      refine WO_nil ?_
      refine WL_seq ?_
      apply WLp
      · (repeat (first | exact rzz | apply rcc rfl | apply rnn rfl))
      refine WL_cond rfl (fun h16 => ?_) (fun h16 => ?_)
      · skip
        have hr : fidx p l 0 = i := by
          rw [hs, hg]; simp [fidx, h16]
        refine WL_seq ?_
        refine WL_reg ?_
        refine O_p rfl rfl rfl ?_
        refine O_p rfl rfl rfl ?_
        refine WO_nil ?_
        refine WL_ret ?_
        refine Blk_ret ?_
        refine RndC_ret ?_
        refine Blk_ret ?_
        exact ⟨_, rfl, by rw [hr]; rfl, rfl⟩
      · skip
        refine WL_skip ?_
        refine WL_nil ?_
        refine Blk_norm (?_ : WL _ _ _ _ _)
        refine WL_seq ?_
        apply WLp
        · (repeat (first | exact rzz | apply rcc rfl | apply rnn rfl))
        refine WL_reg ?_
        refine O_p rfl rfl rfl ?_
        refine O_p rfl rfl rfl ?_
        refine WO_nil ?_
        refine WL_nil ?_
        refine RndC_norm (i + 1) (by refine ⟨by omega, ?_⟩; rw [hs, hg]; simp [fidx, h16]) (by show _ < _; omega) ?_ ?_
        · rw [wrap_succ (by omega)]; (repeat (first | exact rzz | apply rcc rfl | apply rnn rfl))
        · exact trunc_id (Nat.le_refl _)
    · skip
      have hr : fidx p l 0 = -1 := by
        simp at h9
        rw [hs, List.drop_eq_nil_of_le (by omega)]; rfl
      refine WL_exit ?_
      refine RndC_exit ?_
      refine Blk_exit (?_ : WL _ _ _ _ _)
      refine WL_seq ?_
      apply WLp
      · (repeat (first | exact rzz | apply rcc rfl | apply rnn rfl))
      refine WL_seq ?_
      refine WL_reg ?_
      refine O_p rfl rfl rfl ?_
      refine WO_nil ?_
      refine WL_ret ?_
      exact ⟨_, rfl, by rw [hr]; rfl, rfl⟩
theorem contains_c (n : Nat) (l : List Ty) (b : Bool) (f : FuncId) (caps : List AVal) (p : Ty → Bool) (H : Heap) (hl : l.length < n) (hm : l.length < 9223372036854775808) (hn : shutL H [.lst (l.map encT) b, .fn f caps] = none)
    (hf : ∀ x, x ∈ l → callA ⟨callF (tabOf tabL) n, n⟩ false f (vT x :: caps) H = some (.ok (.bool (p x)), H)) :
    callF (tabOf tabL) (n + 2) 77 [.lst (l.map encT) b, .fn f caps] H = some (.ok (.bool (l.any p)), H) := by
  refine callF_fin t77 ?_
  refine WL_seq ?_
  refine WL_reg ?_
  refine O_p rfl rfl rfl ?_
  refine WO_nil ?_
  refine WL_seq ?_
  apply WLp
  · (repeat (first | exact rzz | apply rcc rfl | apply rnn rfl))
  refine WL_seq ?_
  refine WL_reg ?_
  refine O_p rfl rfl rfl ?_
  refine O_p rfl rfl rfl ?_
  refine O_c 83 rfl rfl (callA_h hn (index_c n l b f caps p H hl hm hf)) ?_
  refine O_p rfl rfl rfl ?_
  refine O_p rfl rfl rfl ?_
  refine WO_nil ?_
  refine WL_ret ?_
  exact ⟨_, rfl, by rw [← fidx_any p l 0]; rfl, rfl⟩
theorem right_c : ∀ (n : Nat) (t : Ty) (d : Nat), 10 * szT t < n → WfT t → d < 1000 → pcall (tabOf tabL) n 60 [vT t, .int .i64 (d : Nat)] = some (.ok (.bool (rightT t d)))
  | 0, t, d, h, _, _ => by omega
  | n + 1, t, d, h, hw, hd => by
    have hz := szT_pos t
    obtain ⟨n, rfl⟩ : ∃ m, n = m + 3 := ⟨n - 3, by omega⟩
    have ih := right_c n
    have hp := len_pairs t
    have hf := len_funs t
    cases hw with | mk w1 w2 w3 w4 w5 w6 w7 =>
    have hz1 := bv_ofInt0 w1.1 w1.2
    have hz2 := bv_ofInt0 w2.1 w2.2
    have hz3 := bv_ofInt0 w3.1 w3.2
    have inner : ∀ (e : Nat) (H : Heap) (x : Ty), d = e + 1 → (x ∈ t.pairs ∨ x ∈ t.funs) → H = [.cells (cT t), .cells [.int .i64 (d : Nat)]] → callA ⟨callF (tabOf tabL) (n + 1), n + 1⟩ false 76 [vT x, .ptr 1 0] H = some (.ok (.bool (!rightT x e)), H) := by
      rintro e H x rfl hx rfl
      have hxs : szT x < szT t := by rcases hx with hx | hx; exact szT_pairs hx; exact szT_funs hx
      have hxw : WfT x := by rcases hx with hx | hx; exact w6 x hx; exact w7 x hx
      have hl1 : IntKind.i64.wrap (((e + 1 : Nat) : Int) - 1) = (e : Int) := by rw [kw_i64_id (by omega) (by omega)]; omega
      refine callA_hc (H1 := [.cells (cT t), .cells [.int .i64 ((e + 1 : Nat) : Int)], .cells (cT x)]) rfl ?_ (by simp) rfl rfl rfl
      refine callF_fin t76 ?_
      refine WL_seq ?_
      refine WL_reg ?_
      refine O_n rfl rfl rfl ?_
      refine O_p rfl rfl rfl ?_
      refine WO_nil ?_
      refine WL_seq ?_
      apply WLp
      · (repeat (first | exact rzz | apply rcc rfl | apply rnn rfl))
      refine WL_seq ?_
      refine WL_reg ?_
      refine O_h rfl rfl rfl rfl ?_
      refine O_h rfl rfl rfl rfl ?_
      refine O_p rfl rfl rfl ?_
      refine O_c 60 rfl rfl (callA_of rfl (by rw [hl1]; exact ih x e (by omega) hxw (by omega))) ?_
      refine O_p rfl rfl rfl ?_
      refine O_p rfl rfl rfl ?_
      refine WO_nil ?_
      refine WL_ret ?_
      exact ⟨_, rfl, rfl, rfl⟩
    refine pcall_fin t60 ?_
    refine WL_seq ?_
    refine WL_reg ?_
    refine O_n rfl rfl rfl ?_
    refine O_n rfl rfl rfl ?_
    refine O_p rfl rfl rfl ?_
    refine WO_nil ?_
    refine WL_seq ?_
    apply WLp
    · (repeat (first | exact rzz | apply rcc rfl | apply rnn rfl))
    refine WL_seq ?_
    refine WL_reg ?_
    refine O_p rfl rfl rfl ?_
    refine O_p rfl rfl rfl ?_
    refine WO_nil ?_
    refine WL_seq ?_
    apply WLp
    · (repeat (first | exact rzz | apply rcc rfl | apply rnn rfl))
    refine WL_seq ?_
    refine WL_block ?_
    refine WL_seq ?_
    refine WL_reg ?_
    refine O_h rfl rfl rfl rfl ?_
    refine O_p rfl rfl rfl ?_
    refine O_p rfl rfl rfl ?_
    apply O_or [_, _, _, _] rfl rfl (hT := ?hT15) (h := ?hR15)
    case hT15 =>
      intro hb10
      refine O_p rfl rfl rfl ?_
      refine O_h rfl rfl rfl rfl ?_
      refine O_p rfl rfl rfl ?_
      refine O_p rfl rfl rfl ?_
      exact WO_nil (WL_nil ⟨rfl, rfl, rfl⟩)
    case hR15 =>
      intro vs hvs
      obtain ⟨u11, u12, u13, u14, rfl⟩ := len4 hvs
      clear hvs; dsimp only [junk]
      refine O_p rfl rfl rfl ?_
      apply O_or [_, _, _] rfl rfl (hT := ?hT20) (h := ?hR20)
      case hT20 =>
        intro hb16
        refine O_p rfl rfl rfl ?_
        refine O_h rfl rfl rfl rfl ?_
        refine O_p rfl rfl rfl ?_
        exact WO_nil (WL_nil ⟨rfl, rfl, rfl⟩)
      case hR20 =>
        intro vs hvs
        obtain ⟨u17, u18, u19, rfl⟩ := len3 hvs
        clear hvs; dsimp only [junk]
        refine O_p rfl rfl rfl ?_
        apply O_or [_, _, _] rfl rfl (hT := ?hT25) (h := ?hR25)
        case hT25 =>
          intro hb21
          refine O_p rfl rfl rfl ?_
          refine O_h rfl rfl rfl rfl ?_
          refine O_p rfl rfl rfl ?_
          exact WO_nil (WL_nil ⟨rfl, rfl, rfl⟩)
        case hR25 =>
          intro vs hvs
          obtain ⟨u22, u23, u24, rfl⟩ := len3 hvs
          clear hvs; dsimp only [junk]
          refine O_p rfl rfl rfl ?_
          apply O_or [_, _, _] rfl rfl (hT := ?hT30) (h := ?hR30)
          case hT30 =>
            intro hb26
            refine O_p rfl rfl rfl ?_
            refine O_h rfl rfl rfl rfl ?_
            refine O_p rfl rfl rfl ?_
            exact WO_nil (WL_nil ⟨rfl, rfl, rfl⟩)
          case hR30 =>
            intro vs hvs
            obtain ⟨u27, u28, u29, rfl⟩ := len3 hvs
            clear hvs; dsimp only [junk]
            refine O_p rfl rfl rfl ?_
            apply O_or [_, _, _] rfl rfl (hT := ?hT35) (h := ?hR35)
            case hT35 =>
              intro hb31
              refine O_p rfl rfl rfl ?_
              refine O_h rfl rfl rfl rfl ?_
              refine O_p rfl rfl rfl ?_
              exact WO_nil (WL_nil ⟨rfl, rfl, rfl⟩)
            case hR35 =>
              intro vs hvs
              obtain ⟨u32, u33, u34, rfl⟩ := len3 hvs
              clear hvs; dsimp only [junk]
              refine O_p rfl rfl rfl ?_
              refine WO_nil ?_
              refine WL_seq ?_
              apply WLp
              · (repeat (first | exact rzz | apply rcc rfl | apply rnn rfl))
              try clear u11 u12 u13 u14 u17 u18 u19 u22 u23 u24 u27 u28 u29 u32 u33 u34
              refine WL_cond rfl (fun h7 => ?_) (fun h7 => ?_)
              · skip
                have hr : rightT t d = false := by
                  cases d with
                  | zero => exact rightT_zero t
                  | succ d =>
                    rw [rightT_succ]
                    have : okT t = false := by
                      simp only [flat63 w1.1 w1.2] at h7
                      unfold okT; simp at h7 ⊢; omega
                    simp [this]
                refine WL_seq ?_
                refine WL_reg ?_
                refine O_p rfl rfl rfl ?_
                refine WO_nil ?_
                refine WL_ret ?_
                refine Blk_ret ?_
                exact ⟨_, rfl, _, rfl, by rw [hr]⟩
              · skip
                simp only [flat63 w1.1 w1.2] at h7
                simp at h7
                obtain ⟨d, rfl⟩ : ∃ e, d = e + 1 := ⟨d - 1, by omega⟩
                refine WL_seq ?_
                refine WL_reg ?_
                refine O_p rfl rfl rfl ?_
                refine O_h rfl rfl rfl rfl ?_
                refine O_p rfl rfl rfl ?_
                apply O_and [_, _, _, _, _, _, _, _, _] rfl rfl (hT := ?hT49) (h := ?hR49)
                case hT49 =>
                  intro hb39
                  refine O_p rfl rfl rfl ?_
                  refine O_h rfl rfl rfl rfl ?_
                  refine O_p rfl rfl rfl ?_
                  refine O_h rfl rfl rfl rfl ?_
                  refine O_p rfl rfl rfl ?_
                  refine O_p rfl rfl rfl ?_
                  refine O_h rfl rfl rfl rfl ?_
                  refine O_p rfl rfl rfl ?_
                  refine O_p rfl rfl rfl ?_
                  exact WO_nil (WL_nil ⟨rfl, rfl, rfl⟩)
                case hR49 =>
                  intro vs hvs
                  obtain ⟨u40, u41, u42, u43, u44, u45, u46, u47, u48, rfl⟩ := len9 hvs
                  clear hvs; dsimp only [junk]
                  refine O_p rfl rfl rfl ?_
                  refine WO_nil ?_
                  refine WL_seq ?_
                  apply WLp
                  · (repeat (first | exact rzz | apply rcc rfl | apply rnn rfl))
                  try clear u40 u41 u42 u43 u44 u45 u46 u47 u48
                  refine WL_cond rfl (fun h36 => ?_) (fun h36 => ?_)
                  · skip
                    have hr : rightT t (d + 1) = false := by
                      rw [rightT_succ]
                      have : okT t = false := by
                        simp only [or3_zero w1 w2 w3] at h36
                        unfold okT; simp at h36 ⊢; intros; simp_all
                      simp [this]
                    refine WL_seq ?_
                    refine WL_reg ?_
                    refine O_p rfl rfl rfl ?_
                    refine WO_nil ?_
                    refine WL_ret ?_
                    refine Blk_ret ?_
                    exact ⟨_, rfl, _, rfl, by rw [hr]⟩
                  · skip
                    simp only [or3_zero w1 w2 w3] at h36
                    simp at h36
                    refine WL_seq ?_
                    refine WL_drawS (ops := [_, _, _, _, _, _, _, _, _]) rfl rfl ?_
                    refine O_p rfl rfl rfl ?_
                    refine O_h rfl rfl rfl rfl ?_
                    refine O_h rfl rfl rfl rfl ?_
                    refine O_p rfl rfl rfl ?_
                    refine O_p rfl rfl rfl ?_
                    refine O_h rfl rfl rfl rfl ?_
                    refine O_p (v := .int .i64 (pcnt t.pair)) rfl rfl (ixa_pcnt (by omega) (by omega)) ?_
                    refine O_p rfl rfl rfl ?_
                    refine O_p rfl rfl rfl ?_
                    refine WO_nil (WL_nil ⟨rfl, ?_⟩)
                    refine WL_seq ?_
                    apply WLp
                    · (repeat (first | exact rzz | apply rcc rfl | apply rnn rfl))
                    refine WL_cond rfl (fun h50 => ?_) (fun h50 => ?_)
                    · skip
                      have hr : rightT t (d + 1) = false := by
                        rw [rightT_succ]
                        have : okT t = false := by
                          unfold okT; simp at h50 ⊢; intros; omega
                        simp [this]
                      refine WL_seq ?_
                      refine WL_reg ?_
                      refine O_p rfl rfl rfl ?_
                      refine WO_nil ?_
                      refine WL_ret ?_
                      refine Blk_ret ?_
                      exact ⟨_, rfl, _, rfl, by rw [hr]⟩
                    · skip
                      refine WL_seq ?_
                      refine WL_reg ?_
                      refine O_p rfl rfl rfl ?_
                      refine O_h rfl rfl rfl rfl ?_
                      refine O_p rfl rfl rfl ?_
                      refine O_p rfl rfl rfl ?_
                      apply O_and [_, _, _, _, _, _, _, _, _, _] rfl rfl (hT := ?hT74) (h := ?hR74)
                      case hT74 =>
                        intro hb63
                        refine O_p rfl rfl rfl ?_
                        refine O_h rfl rfl rfl rfl ?_
                        refine O_h rfl rfl rfl rfl ?_
                        refine O_p rfl rfl rfl ?_
                        refine O_p rfl rfl rfl ?_
                        apply O_or [_, _, _, _] rfl rfl (hT := ?hT73) (h := ?hR73)
                        case hT73 =>
                          intro hb68
                          refine O_p rfl rfl rfl ?_
                          refine O_h rfl rfl rfl rfl ?_
                          refine O_h rfl rfl rfl rfl ?_
                          refine O_p rfl rfl rfl ?_
                          exact WO_nil (WL_nil ⟨rfl, rfl, rfl⟩)
                        case hR73 =>
                          intro vs hvs
                          obtain ⟨u69, u70, u71, u72, rfl⟩ := len4 hvs
                          clear hvs; dsimp only [junk]
                          exact WO_nil (WL_nil ⟨rfl, rfl, rfl⟩)
                      case hR74 =>
                        intro vs hvs
                        obtain ⟨u64, u65, u66, u67, u68, u69, u70, u71, u72, u73, rfl⟩ := len10 hvs
                        clear hvs; dsimp only [junk]
                        refine O_p rfl rfl rfl ?_
                        apply O_or [_, _, _, _, _, _, _, _, _] rfl rfl (hT := ?hT85) (h := ?hR85)
                        case hT85 =>
                          intro hb75
                          refine O_p rfl rfl rfl ?_
                          refine O_h rfl rfl rfl rfl ?_
                          refine O_p rfl rfl rfl ?_
                          refine O_p rfl rfl rfl ?_
                          apply O_and [_, _, _, _] rfl rfl (hT := ?hT84) (h := ?hR84)
                          case hT84 =>
                            intro hb79
                            refine O_p rfl rfl rfl ?_
                            refine O_h rfl rfl rfl rfl ?_
                            refine O_h rfl rfl rfl rfl ?_
                            refine O_p rfl rfl rfl ?_
                            exact WO_nil (WL_nil ⟨rfl, rfl, rfl⟩)
                          case hR84 =>
                            intro vs hvs
                            obtain ⟨u80, u81, u82, u83, rfl⟩ := len4 hvs
                            clear hvs; dsimp only [junk]
                            exact WO_nil (WL_nil ⟨rfl, rfl, rfl⟩)
                        case hR85 =>
                          intro vs hvs
                          obtain ⟨u76, u77, u78, u79, u80, u81, u82, u83, u84, rfl⟩ := len9 hvs
                          clear hvs; dsimp only [junk]
                          refine O_p rfl rfl rfl ?_
                          refine WO_nil ?_
                          refine WL_seq ?_
                          apply WLp
                          · (repeat (first | exact rzz | apply rcc rfl | apply rnn rfl))
                          try clear u69 u70 u71 u72 u64 u65 u66 u67 u68 u69 u70 u71 u72 u73 u80 u81 u82 u83 u76 u77 u78 u79 u80 u81 u82 u83 u84
                          refine WL_cond rfl (fun h59 => ?_) (fun h59 => ?_)
                          · skip
                            have hr : rightT t (d + 1) = false := by
                              rw [rightT_succ]
                              have : okT t = false := by
                                cases q : okT t with
                                | false => rfl
                                | true =>
                                  unfold okT at q; simp at q h59
                                  obtain ⟨⟨q1, q2⟩, q3⟩ := q
                                  by_cases hf1 : t.fn = 1 <;> simp [hf1, q2] at q3 h59 <;> first | omega | simp_all
                              simp [this]
                            refine WL_seq ?_
                            refine WL_reg ?_
                            refine O_p rfl rfl rfl ?_
                            refine WO_nil ?_
                            refine WL_ret ?_
                            refine Blk_ret ?_
                            exact ⟨_, rfl, _, rfl, by rw [hr]⟩
                          · skip
                            have hok : okT t = true := by
                              unfold okT; simp at h59 h50 ⊢
                              refine ⟨⟨⟨⟨⟨⟨⟨⟨by omega, by omega⟩, by omega⟩, by omega⟩, by omega⟩, by omega⟩, ?_⟩, by omega⟩, ?_⟩
                              · cases ha : t.all <;> simp [ha] at h36 ⊢; exact h36
                              · obtain ⟨q1, q2⟩ := h59
                                by_cases hf1 : t.fn = 1 <;> simp [hf1] at q1 q2 ⊢ <;> first | omega | exact q2
                            have hr : rightT t (d + 1) = (!(t.pairs.any fun x => !rightT x d) && !(t.funs.any fun x => !rightT x d)) := by rw [rightT_succ, hok, rightTs_any, rightTs_any]; rfl
                            have hH : [ABlock.cells (cT t), ABlock.cells [AVal.int .i64 ((d + 1 : Nat) : Int)]] = [ABlock.cells (cT t), ABlock.cells [AVal.int .i64 ((d + 1 : Nat) : Int)]] := rfl
                            refine WL_skip ?_
                            refine WL_nil ?_
                            refine Blk_norm (?_ : WL _ _ _ _ _)
                            refine WL_seq ?_
                            apply WLp
                            · (repeat (first | exact rzz | apply rcc rfl | apply rnn rfl))
                            refine WL_seq ?_
                            refine WL_reg ?_
                            refine O_p rfl rfl rfl ?_
                            refine O_h rfl rfl rfl rfl ?_
                            refine O_p rfl rfl rfl ?_
                            refine O_c 77 rfl rfl (callA_h rfl (contains_c (n + 1) t.pairs false _ _ (fun x => !rightT x d) _ (by omega) w4 rfl (fun x hx => inner d _ x rfl (.inl hx) rfl))) ?_
                            refine O_p rfl rfl rfl ?_
                            refine O_p rfl rfl rfl ?_
                            apply O_and [_, _, _, _, _] rfl rfl (hT := ?hT97) (h := ?hR97)
                            case hT97 =>
                              intro hb91
                              refine O_p rfl rfl rfl ?_
                              refine O_h rfl rfl rfl rfl ?_
                              refine O_p rfl rfl rfl ?_
                              refine O_c 77 rfl rfl (callA_h rfl (contains_c (n + 1) t.funs false _ _ (fun x => !rightT x d) _ (by omega) w5 rfl (fun x hx => inner d _ x rfl (.inr hx) rfl))) ?_
                              refine O_p rfl rfl rfl ?_
                              exact WO_nil (WL_nil ⟨rfl, rfl, rfl⟩)
                            case hR97 =>
                              intro vs hvs
                              obtain ⟨u92, u93, u94, u95, u96, rfl⟩ := len5 hvs
                              clear hvs; dsimp only [junk]
                              refine O_p rfl rfl rfl ?_
                              refine WO_nil ?_
                              refine WL_ret ?_
                              exact ⟨_, rfl, _, rfl, by rw [hr]⟩
theorem same_ref : ∀ (n : Nat) (a b : Ty), szT a < n → WfT a → pcall (tabOf tabL) n 19 [vT a, vT b] = some (.ok (.bool (sameT a b)))
  | 0, a, b, h, _ => by omega
  | n + 1, a, b, h, hw => by
    have ih := same_ref n
    have hp := len_pairs a
    have hf := len_funs a
    cases hw with | mk w1 w2 w3 w4 w5 w6 w7 =>
    refine pcall_fin t19 ?_
    refine WL_seq ?_
    refine WL_reg ?_
    refine O_n rfl rfl rfl ?_
    refine O_n rfl rfl rfl ?_
    refine O_p rfl rfl rfl ?_
    refine WO_nil ?_
    refine WL_seq ?_
    apply WLp
    · (repeat (first | exact rzz | apply rcc rfl | apply rnn rfl))
    refine WL_seq ?_
    refine WL_seq ?_
    refine WL_reg ?_
    refine O_p rfl rfl rfl ?_
    refine O_h rfl rfl rfl rfl ?_
    refine O_p rfl rfl rfl ?_
    refine O_h rfl rfl rfl rfl ?_
    refine O_p rfl rfl rfl ?_
    refine O_p rfl rfl rfl ?_
    apply O_or [_, _, _, _, _] rfl rfl (hT := ?hT18) (h := ?hR18)
    case hT18 =>
      intro hb12
      refine O_p rfl rfl rfl ?_
      refine O_h rfl rfl rfl rfl ?_
      refine O_p rfl rfl rfl ?_
      refine O_h rfl rfl rfl rfl ?_
      refine O_p rfl rfl rfl ?_
      exact WO_nil (WL_nil ⟨rfl, rfl, rfl⟩)
    case hR18 =>
      intro vs hvs
      obtain ⟨u13, u14, u15, u16, u17, rfl⟩ := len5 hvs
      clear hvs; dsimp only [junk]
      refine O_p rfl rfl rfl ?_
      apply O_or [_, _, _, _, _] rfl rfl (hT := ?hT25) (h := ?hR25)
      case hT25 =>
        intro hb19
        refine O_p rfl rfl rfl ?_
        refine O_h rfl rfl rfl rfl ?_
        refine O_p rfl rfl rfl ?_
        refine O_h rfl rfl rfl rfl ?_
        refine O_p rfl rfl rfl ?_
        exact WO_nil (WL_nil ⟨rfl, rfl, rfl⟩)
      case hR25 =>
        intro vs hvs
        obtain ⟨u20, u21, u22, u23, u24, rfl⟩ := len5 hvs
        clear hvs; dsimp only [junk]
        refine O_p rfl rfl rfl ?_
        apply O_or [_, _, _, _, _] rfl rfl (hT := ?hT32) (h := ?hR32)
        case hT32 =>
          intro hb26
          refine O_p rfl rfl rfl ?_
          refine O_h rfl rfl rfl rfl ?_
          refine O_p rfl rfl rfl ?_
          refine O_h rfl rfl rfl rfl ?_
          refine O_p rfl rfl rfl ?_
          exact WO_nil (WL_nil ⟨rfl, rfl, rfl⟩)
        case hR32 =>
          intro vs hvs
          obtain ⟨u27, u28, u29, u30, u31, rfl⟩ := len5 hvs
          clear hvs; dsimp only [junk]
          refine O_p rfl rfl rfl ?_
          apply O_or [_, _, _, _, _, _, _] rfl rfl (hT := ?hT41) (h := ?hR41)
          case hT41 =>
            intro hb33
            refine O_p rfl rfl rfl ?_
            refine O_h rfl rfl rfl rfl ?_
            refine O_h rfl rfl rfl rfl ?_
            refine O_p rfl rfl rfl ?_
            refine O_h rfl rfl rfl rfl ?_
            refine O_h rfl rfl rfl rfl ?_
            refine O_p rfl rfl rfl ?_
            exact WO_nil (WL_nil ⟨rfl, rfl, rfl⟩)
          case hR41 =>
            intro vs hvs
            obtain ⟨u34, u35, u36, u37, u38, u39, u40, rfl⟩ := len7 hvs
            clear hvs; dsimp only [junk]
            refine O_p rfl rfl rfl ?_
            apply O_or [_, _, _, _, _, _, _] rfl rfl (hT := ?hT50) (h := ?hR50)
            case hT50 =>
              intro hb42
              refine O_p rfl rfl rfl ?_
              refine O_h rfl rfl rfl rfl ?_
              refine O_h rfl rfl rfl rfl ?_
              refine O_p rfl rfl rfl ?_
              refine O_h rfl rfl rfl rfl ?_
              refine O_h rfl rfl rfl rfl ?_
              refine O_p rfl rfl rfl ?_
              exact WO_nil (WL_nil ⟨rfl, rfl, rfl⟩)
            case hR50 =>
              intro vs hvs
              obtain ⟨u43, u44, u45, u46, u47, u48, u49, rfl⟩ := len7 hvs
              clear hvs; dsimp only [junk]
              refine WO_nil ?_
              refine WL_seq ?_
              apply WLp
              · (repeat (first | exact rzz | apply rcc rfl | apply rnn rfl))
              try clear u13 u14 u15 u16 u17 u20 u21 u22 u23 u24 u27 u28 u29 u30 u31 u34 u35 u36 u37 u38 u39 u40 u43 u44 u45 u46 u47 u48 u49
              refine WL_cond rfl (fun h50 => ?_) (fun h50 => ?_)
              · skip
                have hr : sameT a b = false := by
                  cases q : sameT a b with
                  | false => rfl
                  | true =>
                    obtain ⟨q1, q2, q3, q4, q5, q6⟩ := sameT_true q
                    simp [q1, q2, q3, q4, sameTs_len q5, sameTs_len q6] at h50
                refine WL_seq ?_
                refine WL_reg ?_
                refine O_p rfl rfl rfl ?_
                refine WO_nil ?_
                refine WL_ret ?_
                exact ⟨_, rfl, _, rfl, by rw [hr]⟩
              · skip
                simp at h50
                obtain ⟨⟨⟨⟨⟨k1, k2⟩, k3⟩, k4⟩, k5⟩, k6⟩ := h50
                refine WL_skip ?_
                refine WL_seq ?_
                apply WLp
                · (repeat (first | exact rzz | apply rcc rfl | apply rnn rfl))
                refine WL_seq ?_
                refine WL_seq ?_
                refine WL_reg ?_
                refine O_p rfl rfl rfl ?_
                refine WO_nil ?_
                refine WL_seq ?_
                apply WLp
                · (repeat (first | exact rzz | apply rcc rfl | apply rnn rfl))
                refine WL_block ?_
                apply WL_forc (α := Nat) (fun i => [(5, .int .i64 (i : Int))]) (fun i => i ≤ a.pairs.length ∧ sameTs a.pairs b.pairs = sameTs (a.pairs.drop i) (b.pairs.drop i)) (fun i => a.pairs.length - i) (0) (he := ?he) (hP := ?hP) (hk := ?hk) (round := ?round)
                case he =>
                  (repeat (first | exact rzz | apply rcc rfl | apply rnn rfl))
                case hP =>
                  exact ⟨by omega, rfl⟩
                case hk =>
                  show a.pairs.length - 0 < n; omega
                case round =>
                  rintro i ⟨hi, hs⟩
                  dsimp only [List.cons_append, List.nil_append] at *
                  refine WL_seq ?_
                  refine WL_seq ?_
                  refine WL_reg ?_
                  refine O_p rfl rfl rfl ?_
                  refine O_p rfl rfl rfl ?_
                  refine O_h rfl rfl rfl rfl ?_
                  refine O_h rfl rfl rfl rfl ?_
                  refine O_p rfl rfl rfl ?_
                  refine WO_nil ?_
                  refine WL_seq ?_
                  apply WLp
                  · (repeat (first | exact rzz | apply rcc rfl | apply rnn rfl))
                  refine WL_cond rfl (fun h55 => ?_) (fun h55 => ?_)
                  · skip
                    simp at h55
                    obtain ⟨x, hx⟩ : ∃ x, (a.pairs)[i]? = some x := ⟨_, List.getElem?_eq_getElem (by omega)⟩
                    have hmx := List.mem_of_getElem? hx
                    have hsx := szT_pairs hmx
                    obtain ⟨y, hy⟩ : ∃ y, (b.pairs)[i]? = some y := ⟨_, List.getElem?_eq_getElem (by omega)⟩
                    have hmy := List.mem_of_getElem? hy
                    refine WL_skip ?_
                    refine WL_seq ?_
                    apply WLp
                    · (repeat (first | exact rzz | apply rcc rfl | apply rnn rfl))
                    refine WL_seq ?_
                    refine WL_block ?_
                    refine WL_seq ?_
                    refine WL_drawS (ops := [_, _, _, _, _, _, _, _, _, _, _, _]) rfl rfl ?_
                    refine O_p rfl rfl rfl ?_
                    refine O_h rfl rfl rfl rfl ?_
                    refine O_p rfl rfl rfl ?_
                    refine O_ia rfl rfl (Int.natCast_nonneg _) (encT_get (i := (i : Nat)) hx) (encT_flat _) rfl ?_
                    refine O_h rfl rfl rfl rfl ?_
                    refine O_p rfl rfl rfl ?_
                    refine O_h rfl rfl rfl rfl ?_
                    refine O_p rfl rfl rfl ?_
                    refine O_ia rfl rfl (Int.natCast_nonneg _) (encT_get (i := (i : Nat)) hy) (encT_flat _) rfl ?_
                    refine O_h rfl rfl rfl rfl ?_
                    refine O_c 19 rfl rfl (callA_of rfl (ih x y (by omega) (w6 x hmx))) ?_
                    refine O_p rfl rfl rfl ?_
                    refine WO_nil (WL_nil ⟨rfl, ?_⟩)
                    refine WL_seq ?_
                    apply WLp
                    · (repeat (first | exact rzz | apply rcc rfl | apply rnn rfl))
                    refine WL_cond rfl (fun h69 => ?_) (fun h69 => ?_)
                    · skip
                      have hr : sameT a b = false := by
                        simp at h69
                        rw [sameT_eq, hs, drop_of hx, drop_of hy]; simp [sameTs, h69]
                      refine WL_seq ?_
                      refine WL_reg ?_
                      refine O_p rfl rfl rfl ?_
                      refine WO_nil ?_
                      refine WL_ret ?_
                      refine Blk_ret ?_
                      refine RndC_ret ?_
                      refine Blk_ret ?_
                      exact ⟨_, rfl, _, rfl, by rw [hr]⟩
                    · skip
                      refine WL_skip ?_
                      refine WL_nil ?_
                      refine Blk_norm (?_ : WL _ _ _ _ _)
                      refine WL_seq ?_
                      apply WLp
                      · (repeat (first | exact rzz | apply rcc rfl | apply rnn rfl))
                      refine WL_reg ?_
                      refine O_p rfl rfl rfl ?_
                      refine O_p rfl rfl rfl ?_
                      refine O_p rfl rfl rfl ?_
                      refine WO_nil ?_
                      refine WL_nil ?_
                      simp at h69
                      refine RndC_norm (i + 1) (by refine ⟨by omega, ?_⟩; rw [hs, drop_of hx, drop_of hy, sameTs, h69]; rfl) (by show _ < _; omega) ?_ rfl
                      · rw [wrap_succ (by omega)]; (repeat (first | exact rzz | apply rcc rfl | apply rnn rfl))
                  · skip
                    have hq : sameTs a.pairs b.pairs = true := by
                      simp at h55
                      rw [hs, List.drop_eq_nil_of_le (by omega), List.drop_eq_nil_of_le (by omega)]; rfl
                    refine WL_exit ?_
                    refine RndC_exit ?_
                    refine Blk_exit (?_ : WL _ _ _ _ _)
                    refine WL_seq ?_
                    apply WLp
                    · (repeat (first | exact rzz | apply rcc rfl | apply rnn rfl))
                    refine WL_seq ?_
                    refine WL_seq ?_
                    refine WL_reg ?_
                    refine O_p rfl rfl rfl ?_
                    refine WO_nil ?_
                    refine WL_seq ?_
                    apply WLp
                    · (repeat (first | exact rzz | apply rcc rfl | apply rnn rfl))
                    refine WL_block ?_
                    apply WL_forc (α := Nat) (fun i => [(6, .int .i64 (i : Int))]) (fun i => i ≤ a.funs.length ∧ sameTs a.funs b.funs = sameTs (a.funs.drop i) (b.funs.drop i)) (fun i => a.funs.length - i) (0) (he := ?he) (hP := ?hP) (hk := ?hk) (round := ?round)
                    case he =>
                      (repeat (first | exact rzz | apply rcc rfl | apply rnn rfl))
                    case hP =>
                      exact ⟨by omega, rfl⟩
                    case hk =>
                      show a.funs.length - 0 < n; omega
                    case round =>
                      rintro i ⟨hi, hs⟩
                      dsimp only [List.cons_append, List.nil_append] at *
                      refine WL_seq ?_
                      refine WL_seq ?_
                      refine WL_reg ?_
                      refine O_p rfl rfl rfl ?_
                      refine O_p rfl rfl rfl ?_
                      refine O_h rfl rfl rfl rfl ?_
                      refine O_h rfl rfl rfl rfl ?_
                      refine O_p rfl rfl rfl ?_
                      refine WO_nil ?_
                      refine WL_seq ?_
                      apply WLp
                      · (repeat (first | exact rzz | apply rcc rfl | apply rnn rfl))
                      refine WL_cond rfl (fun h74 => ?_) (fun h74 => ?_)
                      · skip
                        simp at h74
                        obtain ⟨x, hx⟩ : ∃ x, (a.funs)[i]? = some x := ⟨_, List.getElem?_eq_getElem (by omega)⟩
                        have hmx := List.mem_of_getElem? hx
                        have hsx := szT_funs hmx
                        obtain ⟨y, hy⟩ : ∃ y, (b.funs)[i]? = some y := ⟨_, List.getElem?_eq_getElem (by omega)⟩
                        have hmy := List.mem_of_getElem? hy
                        refine WL_skip ?_
                        refine WL_seq ?_
                        apply WLp
                        · (repeat (first | exact rzz | apply rcc rfl | apply rnn rfl))
                        refine WL_seq ?_
                        refine WL_block ?_
                        refine WL_seq ?_
                        refine WL_drawS (ops := [_, _, _, _, _, _, _, _, _, _, _, _]) rfl rfl ?_
                        refine O_p rfl rfl rfl ?_
                        refine O_h rfl rfl rfl rfl ?_
                        refine O_p rfl rfl rfl ?_
                        refine O_ia rfl rfl (Int.natCast_nonneg _) (encT_get (i := (i : Nat)) hx) (encT_flat _) rfl ?_
                        refine O_h rfl rfl rfl rfl ?_
                        refine O_p rfl rfl rfl ?_
                        refine O_h rfl rfl rfl rfl ?_
                        refine O_p rfl rfl rfl ?_
                        refine O_ia rfl rfl (Int.natCast_nonneg _) (encT_get (i := (i : Nat)) hy) (encT_flat _) rfl ?_
                        refine O_h rfl rfl rfl rfl ?_
                        refine O_c 19 rfl rfl (callA_of rfl (ih x y (by omega) (w7 x hmx))) ?_
                        refine O_p rfl rfl rfl ?_
                        refine WO_nil (WL_nil ⟨rfl, ?_⟩)
                        refine WL_seq ?_
                        apply WLp
                        · (repeat (first | exact rzz | apply rcc rfl | apply rnn rfl))
                        refine WL_cond rfl (fun h88 => ?_) (fun h88 => ?_)
                        · skip
                          have hr : sameT a b = false := by
                            simp at h88
                            rw [sameT_eq, hs, drop_of hx, drop_of hy]; simp [sameTs, h88]
                          refine WL_seq ?_
                          refine WL_reg ?_
                          refine O_p rfl rfl rfl ?_
                          refine WO_nil ?_
                          refine WL_ret ?_
                          refine Blk_ret ?_
                          refine RndC_ret ?_
                          refine Blk_ret ?_
                          exact ⟨_, rfl, _, rfl, by rw [hr]⟩
                        · skip
                          refine WL_skip ?_
                          refine WL_nil ?_
                          refine Blk_norm (?_ : WL _ _ _ _ _)
                          refine WL_seq ?_
                          apply WLp
                          · (repeat (first | exact rzz | apply rcc rfl | apply rnn rfl))
                          refine WL_reg ?_
                          refine O_p rfl rfl rfl ?_
                          refine O_p rfl rfl rfl ?_
                          refine O_p rfl rfl rfl ?_
                          refine WO_nil ?_
                          refine WL_nil ?_
                          simp at h88
                          refine RndC_norm (i + 1) (by refine ⟨by omega, ?_⟩; rw [hs, drop_of hx, drop_of hy, sameTs, h88]; rfl) (by show _ < _; omega) ?_ rfl
                          · rw [wrap_succ (by omega)]; (repeat (first | exact rzz | apply rcc rfl | apply rnn rfl))
                      · skip
                        have hr : sameT a b = true := by
                          simp at h74
                          rw [sameT_eq, hq, hs, List.drop_eq_nil_of_le (by omega), List.drop_eq_nil_of_le (by omega)]; simp [k1, k2, k3, k4, sameTs]
                        refine WL_exit ?_
                        refine RndC_exit ?_
                        refine Blk_exit (?_ : WL _ _ _ _ _)
                        refine WL_seq ?_
                        apply WLp
                        · (repeat (first | exact rzz | apply rcc rfl | apply rnn rfl))
                        refine WL_seq ?_
                        refine WL_reg ?_
                        refine O_p rfl rfl rfl ?_
                        refine WO_nil ?_
                        refine WL_ret ?_
                        exact ⟨_, rfl, _, rfl, by rw [hr]⟩
theorem equal_c (n : Nat) (l m : List Ty) (f : FuncId) (hl : l.length < n) (hm : l.length < 9223372036854775808)
    (hf : ∀ x, x ∈ l → ∀ y, pcall (tabOf tabL) n f [vT x, vT y] = some (.ok (.bool (sameT x y)))) :
    pcall (tabOf tabL) (n + 1) 63 [.lst (l.map encT) false, .lst (m.map encT) false, .fn f []] = some (.ok (.bool (sameTs l m))) := by
  refine pcall_fin t63 ?_
  refine WL_seq ?_
  refine WL_reg ?_
  refine O_p rfl rfl rfl ?_
  refine WO_nil ?_
  refine WL_seq ?_
  apply WLp
  · (repeat (first | exact rzz | apply rcc rfl | apply rnn rfl))
  refine WL_seq ?_
  refine WL_seq ?_
  refine WL_reg ?_
  refine O_p rfl rfl rfl ?_
  refine O_h rfl rfl rfl rfl ?_
  refine O_p rfl rfl rfl ?_
  refine O_h rfl rfl rfl rfl ?_
  refine O_p rfl rfl rfl ?_
  refine WO_nil ?_
  refine WL_seq ?_
  apply WLp
  · (repeat (first | exact rzz | apply rcc rfl | apply rnn rfl))
  refine WL_cond rfl (fun h14 => ?_) (fun h14 => ?_)
  · skip
    have hr : sameTs l m = false := by
      cases q : sameTs l m with
      | false => rfl
      | true => simp [sameTs_len q] at h14
    refine WL_seq ?_
    refine WL_reg ?_
    refine O_p rfl rfl rfl ?_
    refine WO_nil ?_
    refine WL_ret ?_
    exact ⟨_, rfl, _, rfl, by rw [hr]⟩
  · skip
    simp at h14
    refine WL_skip ?_
    refine WL_seq ?_
    apply WLp
    · (repeat (first | exact rzz | apply rcc rfl | apply rnn rfl))
    refine WL_seq ?_
    refine WL_seq ?_
    refine WL_reg ?_
    refine O_p rfl rfl rfl ?_
    refine O_h rfl rfl rfl rfl ?_
    refine O_p rfl rfl rfl ?_
    refine WO_nil ?_
    refine WL_seq ?_
    apply WLp
    · (repeat (first | exact rzz | apply rcc rfl | apply rnn rfl))
    refine WL_block ?_
    apply WL_forc (α := Nat) (fun i => [(17, .int .i64 (i : Nat))]) (fun i => i ≤ l.length ∧ sameTs l m = sameTs (l.drop i) (m.drop i)) (fun i => l.length - i) (0) (he := ?he) (hP := ?hP) (hk := ?hk) (round := ?round)
    case he =>
      (repeat (first | exact rzz | apply rcc rfl | apply rnn rfl))
    case hP =>
      exact ⟨by omega, rfl⟩
    case hk =>
      show l.length - 0 < n; omega
    case round =>
      rintro i ⟨hi, hs⟩
      dsimp only [List.cons_append, List.nil_append] at *
      refine WL_seq ?_
      refine WL_reg ?_
      refine O_p rfl rfl rfl ?_
      refine WO_nil ?_
      refine WL_seq ?_
      apply WLp
      · (repeat (first | exact rzz | apply rcc rfl | apply rnn rfl))
      refine WL_seq ?_
      refine WL_cond rfl (fun h18 => ?_) (fun h18 => ?_)
      · skip
        simp at h18
        obtain ⟨x, hx⟩ : ∃ x, (l)[i]? = some x := ⟨_, List.getElem?_eq_getElem (by omega)⟩
        have hmx := List.mem_of_getElem? hx
        obtain ⟨y, hy⟩ : ∃ y, (m)[i]? = some y := ⟨_, List.getElem?_eq_getElem (by omega)⟩
        have hmy := List.mem_of_getElem? hy
        refine WL_skip ?_
        refine WL_seq ?_
        apply WLp
        · (repeat (first | exact rzz | apply rcc rfl | apply rnn rfl))
        refine WL_seq ?_
        refine WL_block ?_
        refine WL_seq ?_
        refine WL_reg ?_
        refine O_p rfl rfl rfl ?_
        refine O_ia rfl rfl (Int.natCast_nonneg _) (encT_get (i := (i : Nat)) hx) (encT_flat _) rfl ?_
        refine O_h rfl rfl rfl rfl ?_
        refine O_n rfl rfl rfl ?_
        refine O_p rfl rfl rfl ?_
        refine O_hn rfl rfl rfl rfl ?_
        refine WO_nil ?_
        refine WL_seq ?_
        apply WLp
        · (repeat (first | exact rzz | apply rcc rfl | apply rnn rfl))
        refine WL_seq ?_
        refine WL_reg ?_
        refine O_p rfl rfl rfl ?_
        refine O_p rfl rfl rfl ?_
        refine O_ia rfl rfl (Int.natCast_nonneg _) (encT_get (i := (i : Nat)) hy) (encT_flat _) rfl ?_
        refine O_h rfl rfl rfl rfl ?_
        refine O_n rfl rfl rfl ?_
        refine O_hn rfl rfl rfl rfl ?_
        refine WO_nil ?_
        refine WL_seq ?_
        apply WLp
        · (repeat (first | exact rzz | apply rcc rfl | apply rnn rfl))
        refine WL_seq ?_
        refine WL_reg ?_
        refine O_p rfl rfl rfl ?_
        refine O_h rfl rfl rfl rfl ?_
        refine O_h rfl rfl rfl rfl ?_
        refine O_cv rfl rfl (callA_of rfl (hf x hmx y)) ?_
        refine O_p rfl rfl rfl ?_
        refine WO_nil ?_
        refine WL_seq ?_
        apply WLp
        · (repeat (first | exact rzz | apply rcc rfl | apply rnn rfl))
        refine WL_cond rfl (fun h30 => ?_) (fun h30 => ?_)
        · skip
          have hr : sameTs l m = false := by
            simp at h30
            rw [hs, drop_of hx, drop_of hy]; simp [sameTs, h30]
          refine WL_seq ?_
          refine WL_reg ?_
          refine O_p rfl rfl rfl ?_
          refine WO_nil ?_
          refine WL_ret ?_
          refine Blk_ret ?_
          refine RndC_ret ?_
          refine Blk_ret ?_
          exact ⟨_, rfl, _, rfl, by rw [hr]⟩
        · skip
          refine WL_skip ?_
          refine WL_nil ?_
          refine Blk_norm (?_ : WL _ _ _ _ _)
          refine WL_seq ?_
          apply WLp
          · (repeat (first | exact rzz | apply rcc rfl | apply rnn rfl))
          refine WL_reg ?_
          refine O_p rfl rfl rfl ?_
          refine O_p rfl rfl rfl ?_
          refine WO_nil ?_
          refine WL_nil ?_
          simp at h30
          refine RndC_norm (i + 1) (by refine ⟨by omega, ?_⟩; rw [hs, drop_of hx, drop_of hy, sameTs, h30]; rfl) (by show _ < _; omega) ?_ rfl
          · rw [wrap_succ (by omega)]; (repeat (first | exact rzz | apply rcc rfl | apply rnn rfl))
      · skip
        have hr : sameTs l m = true := by
          simp at h18
          rw [hs, List.drop_eq_nil_of_le (by omega), List.drop_eq_nil_of_le (by omega)]; rfl
        refine WL_exit ?_
        refine RndC_exit ?_
        refine Blk_exit (?_ : WL _ _ _ _ _)
        refine WL_seq ?_
        apply WLp
        · (repeat (first | exact rzz | apply rcc rfl | apply rnn rfl))
        refine WL_seq ?_
        refine WL_reg ?_
        refine O_p rfl rfl rfl ?_
        refine WO_nil ?_
        refine WL_ret ?_
        exact ⟨_, rfl, _, rfl, by rw [hr]⟩
theorem same_c : ∀ (n : Nat) (a b : Ty), 10 * szT a < n → WfT a → pcall (tabOf tabL) n 64 [vT a, vT b] = some (.ok (.bool (sameT a b)))
  | 0, a, b, h, _ => by omega
  | n + 1, a, b, h, hw => by
    have hz := szT_pos a
    obtain ⟨n, rfl⟩ : ∃ m, n = m + 3 := ⟨n - 3, by omega⟩
    have ih := same_c (n + 2)
    have hp := len_pairs a
    have hf := len_funs a
    cases hw with | mk w1 w2 w3 w4 w5 w6 w7 =>
    have e1 := equal_c (n + 2) a.pairs b.pairs 64 (by omega) w4 (fun x hx y => ih x y (by have := szT_pairs hx; omega) (w6 x hx))
    have e2 := equal_c (n + 2) a.funs b.funs 64 (by omega) w5 (fun x hx y => ih x y (by have := szT_funs hx; omega) (w7 x hx))
    refine pcall_fin t64 ?_
    refine WL_seq ?_
    refine WL_reg ?_
    refine O_n rfl rfl rfl ?_
    refine O_n rfl rfl rfl ?_
    refine O_p rfl rfl rfl ?_
    refine WO_nil ?_
    refine WL_seq ?_
    apply WLp
    · (repeat (first | exact rzz | apply rcc rfl | apply rnn rfl))
    refine WL_seq ?_
    refine WL_reg ?_
    refine O_p rfl rfl rfl ?_
    refine O_h rfl rfl rfl rfl ?_
    refine O_p rfl rfl rfl ?_
    refine O_h rfl rfl rfl rfl ?_
    refine O_p rfl rfl rfl ?_
    refine O_p rfl rfl rfl ?_
    apply O_and [_, _, _, _, _] rfl rfl (hT := ?hT16) (h := ?hR16)
    case hT16 =>
      intro hb10
      refine O_p rfl rfl rfl ?_
      refine O_h rfl rfl rfl rfl ?_
      refine O_p rfl rfl rfl ?_
      refine O_h rfl rfl rfl rfl ?_
      refine O_p rfl rfl rfl ?_
      exact WO_nil (WL_nil ⟨rfl, rfl, rfl⟩)
    case hR16 =>
      intro vs hvs
      obtain ⟨u11, u12, u13, u14, u15, rfl⟩ := len5 hvs
      clear hvs; dsimp only [junk]
      refine O_p rfl rfl rfl ?_
      apply O_and [_, _, _, _, _] rfl rfl (hT := ?hT23) (h := ?hR23)
      case hT23 =>
        intro hb17
        refine O_p rfl rfl rfl ?_
        refine O_h rfl rfl rfl rfl ?_
        refine O_p rfl rfl rfl ?_
        refine O_h rfl rfl rfl rfl ?_
        refine O_p rfl rfl rfl ?_
        exact WO_nil (WL_nil ⟨rfl, rfl, rfl⟩)
      case hR23 =>
        intro vs hvs
        obtain ⟨u18, u19, u20, u21, u22, rfl⟩ := len5 hvs
        clear hvs; dsimp only [junk]
        refine O_p rfl rfl rfl ?_
        apply O_and [_, _, _, _, _] rfl rfl (hT := ?hT30) (h := ?hR30)
        case hT30 =>
          intro hb24
          refine O_p rfl rfl rfl ?_
          refine O_h rfl rfl rfl rfl ?_
          refine O_p rfl rfl rfl ?_
          refine O_h rfl rfl rfl rfl ?_
          refine O_p rfl rfl rfl ?_
          exact WO_nil (WL_nil ⟨rfl, rfl, rfl⟩)
        case hR30 =>
          intro vs hvs
          obtain ⟨u25, u26, u27, u28, u29, rfl⟩ := len5 hvs
          clear hvs; dsimp only [junk]
          refine O_p rfl rfl rfl ?_
          apply O_and [_, _, _, _, _] rfl rfl (hT := ?hT37) (h := ?hR37)
          case hT37 =>
            intro hb31
            refine O_p rfl rfl rfl ?_
            refine O_h rfl rfl rfl rfl ?_
            refine O_p rfl rfl rfl ?_
            refine O_h rfl rfl rfl rfl ?_
            refine O_c 63 rfl rfl (callA_of rfl e1) ?_
            exact WO_nil (WL_nil ⟨rfl, rfl, rfl⟩)
          case hR37 =>
            intro vs hvs
            obtain ⟨u32, u33, u34, u35, u36, rfl⟩ := len5 hvs
            clear hvs; dsimp only [junk]
            refine O_p rfl rfl rfl ?_
            apply O_and [_, _, _, _, _] rfl rfl (hT := ?hT44) (h := ?hR44)
            case hT44 =>
              intro hb38
              refine O_p rfl rfl rfl ?_
              refine O_h rfl rfl rfl rfl ?_
              refine O_p rfl rfl rfl ?_
              refine O_h rfl rfl rfl rfl ?_
              refine O_c 63 rfl rfl (callA_of rfl e2) ?_
              exact WO_nil (WL_nil ⟨rfl, rfl, rfl⟩)
            case hR44 =>
              intro vs hvs
              obtain ⟨u39, u40, u41, u42, u43, rfl⟩ := len5 hvs
              clear hvs; dsimp only [junk]
              refine O_p rfl rfl rfl ?_
              refine WO_nil ?_
              refine WL_ret ?_
              exact ⟨_, rfl, _, rfl, by rw [sameT_eq]; rfl⟩
theorem grow_c (n : Nat) (k : Nat) (H : Heap) (h0 : 0 < k) (hk : k ≤ 1000000) : callF (tabOf tabL) (n + 1) 82 [.lst [] true, .int .i64 (k : Nat)] H = some (.ok (.gl (H.length + 1) 0), H ++ [.dead, .grow 6 [] none]) := by
  have e1 : IntKind.i64.wrap (0 - 0) = 0 := by decide
  have e2 : IntKind.i64.wrap ((k : Int) - 0) = k := by rw [kw_i64_id (by omega) (by omega)]; omega
  refine callF_fin t82 ?_
  refine WL_seq ?_
  refine WL_reg ?_
  refine O_p rfl rfl rfl ?_
  refine WO_nil ?_
  refine WL_seq ?_
  apply WLp
  · (repeat (first | exact rzz | apply rcc rfl | apply rnn rfl))
  refine WL_seq ?_
  refine WL_seq ?_
  refine WL_reg ?_
  refine O_p rfl rfl rfl ?_
  refine O_p rfl rfl rfl ?_
  refine WO_nil ?_
  refine WL_seq ?_
  apply WLp
  · (repeat (first | exact rzz | apply rcc rfl | apply rnn rfl))
  refine WL_cond rfl (fun h6 => ?_) (fun h6 => ?_)
  · skip
    simp at h6; omega
  · skip
    refine WL_skip ?_
    refine WL_seq ?_
    apply WLp
    · (repeat (first | exact rzz | apply rcc rfl | apply rnn rfl))
    refine WL_seq ?_
    refine WL_seq ?_
    refine WL_reg ?_
    refine O_p rfl rfl rfl ?_
    refine O_p rfl rfl rfl ?_
    refine O_h rfl rfl rfl rfl ?_
    refine O_p rfl rfl rfl ?_
    refine O_h rfl rfl rfl rfl ?_
    refine O_p rfl rfl rfl ?_
    refine O_v (.int .i64 (k : Nat)) rfl rfl rfl (by show AVal.int _ (IntKind.i64.wrap (_ - IntKind.i64.wrap (0 - 0))) = _; rw [e1, e2]) ?_
    refine O_p rfl rfl rfl ?_
    refine WO_nil ?_
    refine WL_seq ?_
    apply WLp
    · (repeat (first | exact rzz | apply rcc rfl | apply rnn rfl))
    refine WL_seq ?_
    refine WL_reg ?_
    refine O_p rfl rfl rfl ?_
    refine O_p rfl rfl rfl ?_
    refine WO_nil ?_
    refine WL_seq ?_
    apply WLp
    · (repeat (first | exact rzz | apply rcc rfl | apply rnn rfl))
    refine WL_cond rfl (fun h16 => ?_) (fun h16 => ?_)
    · skip
      refine WL_reg ?_
      refine O_p rfl rfl rfl ?_
      refine O_p rfl rfl rfl ?_
      refine O_h rfl rfl rfl rfl ?_
      refine O_h (v := .lst [] true) rfl rfl rfl rfl ?_
      refine O_p rfl rfl rfl ?_
      refine O_h rfl rfl rfl (appz_ev rfl rfl h0 (by omega) rfl (by omega)) ?_
      refine O_p rfl rfl rfl ?_
      refine O_h rfl rfl rfl rfl ?_
      refine O_h rfl rfl rfl (cut_ev rfl rfl (by simp)) ?_
      refine O_p rfl rfl rfl ?_
      refine WO_nil ?_
      refine WL_seq ?_
      apply WLp
      · (repeat (first | exact rzz | apply rcc rfl | apply rnn rfl))
      refine WL_seq ?_
      refine WL_reg ?_
      refine O_p rfl rfl rfl ?_
      refine O_p rfl rfl rfl ?_
      refine WO_nil ?_
      refine WL_ret ?_
      exact ⟨_, rfl, rfl, rfl⟩
    · skip
      simp at h16; omega
theorem concat_c (n : Nat) (ls : List (List Ty)) (h0 : 0 < ls.flatten.length) (hk : ls.flatten.length ≤ 1000000) (hn : ls.length < n) (hm : ls.length ≤ 1000000) :
    pcall (tabOf tabL) (n + 2) 75 [.lst (ls.map encL) false] = some (.ok (.lst (ls.flatten.map encT) false)) := by
  refine pcall_fin t75 ?_
  refine WL_seq ?_
  refine WL_reg ?_
  refine O_p rfl rfl rfl ?_
  refine WO_nil ?_
  refine WL_seq ?_
  apply WLp
  · (repeat (first | exact rzz | apply rcc rfl | apply rnn rfl))
  refine WL_seq ?_
  refine WL_reg ?_
  refine O_p rfl rfl rfl ?_
  refine WO_nil ?_
  refine WL_seq ?_
  apply WLp
  · (repeat (first | exact rzz | apply rcc rfl | apply rnn rfl))
  refine WL_seq ?_
  refine WL_seq ?_
  refine WL_reg ?_
  refine O_p rfl rfl rfl ?_
  refine O_h rfl rfl rfl rfl ?_
  refine O_p rfl rfl rfl ?_
  refine WO_nil ?_
  refine WL_seq ?_
  apply WLp
  · (repeat (first | exact rzz | apply rcc rfl | apply rnn rfl))
  refine WL_block ?_
  apply WL_forc (α := Nat × Nat) (fun s => [(3, .int .i64 (s.1 : Nat)), (11, .int .i64 (s.2 : Nat))]) (fun s => s.2 ≤ ls.length ∧ s.1 + (ls.drop s.2).flatten.length = ls.flatten.length) (fun s => ls.length - s.2) ((0, 0)) (he := ?he) (hP := ?hP) (hk := ?hk) (round := ?round)
  case he =>
    (repeat (first | exact rzz | apply rcc rfl | apply rnn rfl))
  case hP =>
    exact ⟨by simp, by simp⟩
  case hk =>
    show ls.length - 0 < n + 1; omega
  case round =>
    rintro ⟨c, i⟩ ⟨hi, hs⟩
    simp only at hi hs
    dsimp only [List.cons_append, List.nil_append] at *
    refine WL_seq ?_
    refine WL_reg ?_
    refine O_p rfl rfl rfl ?_
    refine WO_nil ?_
    refine WL_seq ?_
    apply WLp
    · (repeat (first | exact rzz | apply rcc rfl | apply rnn rfl))
    refine WL_seq ?_
    refine WL_cond rfl (fun h12 => ?_) (fun h12 => ?_)
    · skip
      simp at h12
      obtain ⟨x, hx⟩ : ∃ x, (ls)[i]? = some x := ⟨_, List.getElem?_eq_getElem (by omega)⟩
      have hmx := List.mem_of_getElem? hx
      have hg := drop_of hx
      refine WL_skip ?_
      refine WL_seq ?_
      apply WLp
      · (repeat (first | exact rzz | apply rcc rfl | apply rnn rfl))
      refine WL_seq ?_
      refine WL_block ?_
      refine WL_seq ?_
      refine WL_reg ?_
      refine O_ia rfl rfl (Int.natCast_nonneg _) (encL_get hx) rfl rfl ?_
      refine O_h rfl rfl rfl rfl ?_
      refine O_p rfl rfl rfl ?_
      refine WO_nil ?_
      refine WL_seq ?_
      apply WLp
      · (repeat (first | exact rzz | apply rcc rfl | apply rnn rfl))
      refine WL_seq ?_
      refine WL_reg ?_
      refine O_p rfl rfl rfl ?_
      refine O_p rfl rfl rfl ?_
      refine O_h rfl rfl rfl rfl ?_
      refine O_p rfl rfl rfl ?_
      refine O_p rfl rfl rfl ?_
      refine WO_nil ?_
      refine WL_seq ?_
      apply WLp
      · (repeat (first | exact rzz | apply rcc rfl | apply rnn rfl))
      refine WL_seq ?_
      refine WL_reg ?_
      refine O_p rfl rfl rfl ?_
      refine O_p rfl rfl rfl ?_
      refine WO_nil ?_
      refine WL_seq ?_
      apply WLp
      · (repeat (first | exact rzz | apply rcc rfl | apply rnn rfl))
      refine WL_cond rfl (fun h20 => ?_) (fun h20 => ?_)
      · skip
        rw [hg] at hs
        simp only [List.flatten_cons, List.length_append] at hs
        have := wrap_add (i := c) (j := x.length) (by omega)
        simp at h20; omega
      · skip
        refine WL_skip ?_
        refine WL_nil ?_
        refine Blk_norm (?_ : WL _ _ _ _ _)
        refine WL_seq ?_
        apply WLp
        · (repeat (first | exact rzz | apply rcc rfl | apply rnn rfl))
        refine WL_reg ?_
        refine O_p rfl rfl rfl ?_
        refine O_p rfl rfl rfl ?_
        refine WO_nil ?_
        refine WL_nil ?_
        rw [hg] at hs
        simp only [List.flatten_cons, List.length_append] at hs
        refine RndC_norm ((c + x.length, i + 1)) (by refine ⟨?_, ?_⟩ <;> simp only <;> omega) (by show _ < _; omega) ?_ rfl
        · rw [show IntKind.i64.wrap ((c : Int) + (((x.map encT).length : Nat) : Int)) = ((c + x.length : Nat) : Int) by rw [List.length_map]; exact wrap_add (by omega), wrap_succ (by omega)]; (repeat (first | exact rzz | apply rcc rfl | apply rnn rfl))
    · skip
      have hq : c = ls.flatten.length := by
        simp at h12
        rw [List.drop_eq_nil_of_le (by omega)] at hs; simpa using hs
      refine WL_exit ?_
      refine RndC_exit ?_
      refine Blk_exit (?_ : WL _ _ _ _ _)
      refine WL_seq ?_
      apply WLp
      · (repeat (first | exact rzz | apply rcc rfl | apply rnn rfl))
      refine WL_seq ?_
      refine WL_reg ?_
      refine O_p rfl rfl rfl ?_
      refine O_c 82 rfl rfl (callA_raw (by rw [hq]; exact grow_c n _ _ h0 hk) rfl) ?_
      refine O_p rfl rfl rfl ?_
      refine WO_nil ?_
      refine WL_seq ?_
      apply WLp
      · (repeat (first | exact rzz | apply rcc rfl | apply rnn rfl))
      refine WL_seq ?_
      refine WL_seq ?_
      refine WL_reg ?_
      refine O_p rfl rfl rfl ?_
      refine O_h rfl rfl rfl rfl ?_
      refine O_p rfl rfl rfl ?_
      refine WO_nil ?_
      refine WL_seq ?_
      apply WLp
      · (repeat (first | exact rzz | apply rcc rfl | apply rnn rfl))
      refine WL_block ?_
      refine WL_seq ?_
      refine WL_own rfl ?_
      apply WL_forv (hc := [.dead]) (α := Nat × List Ty) (fun s => [(6, .gl 1 s.2.length), (27, .int .i64 (s.1 : Nat))]) (fun s => [.grow 6 (s.2.map encT) none]) (fun s => s.1 ≤ ls.length ∧ s.2 ++ (ls.drop s.1).flatten = ls.flatten) (fun s => ls.length - s.1) ((0, [])) (he := ?he) (hh := ?hh) (hP := ?hP) (hk := ?hk) (round := ?round)
      case he =>
        (repeat (first | exact rzz | apply rcc rfl | apply rnn rfl))
      case hh =>
        rfl
      case hP =>
        exact ⟨by simp, by simp⟩
      case hk =>
        show ls.length - 0 < n + 1; omega
      case round =>
        rintro ⟨i, xs⟩ ⟨hi, hs⟩
        simp only at hi hs
        dsimp only [List.cons_append, List.nil_append] at *
        refine WL_seq ?_
        refine WL_reg ?_
        refine O_p rfl rfl rfl ?_
        refine WO_nil ?_
        refine WL_seq ?_
        apply WLp
        · (repeat (first | exact rzz | apply rcc rfl | apply rnn rfl))
        refine WL_seq ?_
        refine WL_cond rfl (fun h28 => ?_) (fun h28 => ?_)
        · skip
          simp at h28
          obtain ⟨x, hx⟩ : ∃ x, (ls)[i]? = some x := ⟨_, List.getElem?_eq_getElem (by omega)⟩
          have hmx := List.mem_of_getElem? hx
          have hg := drop_of hx
          refine WL_skip ?_
          refine WL_seq ?_
          apply WLp
          · (repeat (first | exact rzz | apply rcc rfl | apply rnn rfl))
          refine WL_seq ?_
          refine WL_block ?_
          refine WL_seq ?_
          refine WL_reg ?_
          refine O_ia rfl rfl (Int.natCast_nonneg _) (encL_get hx) rfl rfl ?_
          refine O_h rfl rfl rfl rfl ?_
          refine O_p rfl rfl rfl ?_
          refine WO_nil ?_
          refine WL_seq ?_
          apply WLp
          · (repeat (first | exact rzz | apply rcc rfl | apply rnn rfl))
          refine WL_reg ?_
          refine O_p rfl rfl rfl ?_
          refine O_p rfl rfl rfl ?_
          rw [hg] at hs
          have hlen : xs.length + x.length ≤ 1000000 := by have := congrArg List.length hs; simp at this hk; omega
          refine O_appL rfl rfl rfl (by simp) (encT_w _) (encT_w _) (by simp; omega) rfl ?_
          refine O_p rfl rfl rfl ?_
          refine WO_nil ?_
          refine WL_nil ?_
          refine Blk_norm (?_ : WL _ _ _ _ _)
          refine WL_seq ?_
          apply WLp
          · (repeat (first | exact rzz | apply rcc rfl | apply rnn rfl))
          refine WL_reg ?_
          refine O_p rfl rfl rfl ?_
          refine O_p rfl rfl rfl ?_
          refine WO_nil ?_
          refine WL_nil ?_
          refine RndV_norm ((i + 1, xs ++ x)) (by refine ⟨by simp only; omega, ?_⟩; simp only; rw [← hs]; simp) (by show _ < _; omega) ?_ ?_
          · rw [wrap_succ (by omega), show (xs.map encT).length + (x.map encT).length = (xs ++ x).length by simp]; (repeat (first | exact rzz | apply rcc rfl | apply rnn rfl))
          · show trunc _ _ [ABlock.dead, ABlock.grow 6 (xs.map encT ++ x.map encT) none] = _; rw [← List.map_append]; rfl
        · skip
          have hr : ls.flatten = xs := by
            simp at h28
            rw [List.drop_eq_nil_of_le (by omega)] at hs; simpa using hs.symm
          refine WL_exit ?_
          refine RndV_exit ?_
          refine Blk_exit (?_ : WL _ _ _ _ _)
          refine WL_seq ?_
          apply WLp
          · (repeat (first | exact rzz | apply rcc rfl | apply rnn rfl))
          refine WL_seq ?_
          refine WL_reg ?_
          refine O_p rfl rfl rfl ?_
          refine O_p rfl rfl rfl ?_
          refine WO_nil ?_
          refine WL_ret ?_
          exact ⟨_, rfl, .lst (xs.map encT) false, by simp [oneOr, shutR, growAt], by rw [hr]⟩
theorem concat_nil (n : Nat) : pcall (tabOf tabL) (n + 20) 75 [.lst [.lst [] false, .lst [] false] false] = some (.ok (.lst [] false)) := by kernel_rfl
theorem concat2_c (n : Nat) (a b : List Ty) (h : a.length + b.length ≤ 1000000) : pcall (tabOf tabL) (n + 20) 75 [.lst [.lst (a.map encT) false, .lst (b.map encT) false] false] = some (.ok (.lst ((a ++ b).map encT) false)) := by
  rcases Nat.eq_zero_or_pos (a.length + b.length) with h0 | h0
  · obtain rfl : a = [] := List.length_eq_zero_iff.1 (by omega)
    obtain rfl : b = [] := List.length_eq_zero_iff.1 (by omega)
    exact concat_nil n
  · have := concat_c (n + 18) [a, b] (by simpa using h0) (by simpa using h) (by simp) (by simp)
    simpa [encL] using this
theorem count_c : ∀ (n : Nat) (t : Ty) (l : Int), 10 * szT t + 30 < n → WfT t → szT t ≤ 1000000 → 0 ≤ l → l ≤ 1000 → pcall (tabOf tabL) n 59 [vT t, .int .i64 l] = some (.ok (.int .i64 (cntT t l)))
  | 0, t, l, h, _, _, _, _ => by omega
  | n + 1, t, l, h, hw, hs1, hl0, hl => by
    have hz := szT_pos t
    obtain ⟨n, rfl⟩ : ∃ m, n = m + 20 := ⟨n - 20, by omega⟩
    have ih := count_c (n + 20)
    have hp := len_pairs t
    have hf := len_funs t
    have hpf : t.pairs.length + t.funs.length < szT t := by rw [szT_eq t]; have := szTs_len t.pairs; have := szTs_len t.funs; omega
    have hl1 : IntKind.i64.wrap (l - 1) = l - 1 := kw_i64_id (by omega) (by omega)
    cases hw with | mk w1 w2 w3 w4 w5 w6 w7 =>
    have e0 : cntT t l = cntTs (t.pairs ++ t.funs) (l - 1) := by rw [cntT_eq, cntTs_append]
    refine pcall_fin t59 ?_
    refine WL_seq ?_
    refine WL_reg ?_
    refine O_n rfl rfl rfl ?_
    refine O_p rfl rfl rfl ?_
    refine WO_nil ?_
    refine WL_seq ?_
    apply WLp
    · (repeat (first | exact rzz | apply rcc rfl | apply rnn rfl))
    refine WL_seq ?_
    refine WL_reg ?_
    refine O_p rfl rfl rfl ?_
    refine O_v (.int .i64 (l - 1)) rfl rfl rfl (by rw [hl1]) ?_
    refine O_p rfl rfl rfl ?_
    refine WO_nil ?_
    refine WL_seq ?_
    apply WLp
    · (repeat (first | exact rzz | apply rcc rfl | apply rnn rfl))
    refine WL_seq ?_
    refine WL_seq ?_
    refine WL_reg ?_
    refine O_p rfl rfl rfl ?_
    refine O_h rfl rfl rfl rfl ?_
    refine O_p rfl rfl rfl ?_
    refine O_h rfl rfl rfl rfl ?_
    refine O_h rfl rfl rfl rfl ?_
    refine O_c 75 rfl rfl (callA_of rfl (concat2_c n t.pairs t.funs (by omega))) ?_
    refine O_h rfl rfl rfl rfl ?_
    refine O_p rfl rfl rfl ?_
    refine WO_nil ?_
    refine WL_seq ?_
    apply WLp
    · (repeat (first | exact rzz | apply rcc rfl | apply rnn rfl))
    refine WL_block ?_
    apply WL_forc (α := Int × Nat) (fun s => [(1, .int .i64 s.1), (16, .int .i64 (s.2 : Nat))]) (fun s => s.2 ≤ (t.pairs ++ t.funs).length ∧ -1 ≤ s.1 ∧ s.1 ≤ 1000 ∧ cntT t l = cntTs ((t.pairs ++ t.funs).drop s.2) s.1) (fun s => (t.pairs ++ t.funs).length - s.2) ((l - 1, 0)) (he := ?he) (hP := ?hP) (hk := ?hk) (round := ?round)
    case he =>
      (repeat (first | exact rzz | apply rcc rfl | apply rnn rfl))
    case hP =>
      exact ⟨by simp, by simp only; omega, by simp only; omega, e0⟩
    case hk =>
      show (t.pairs ++ t.funs).length - 0 < n + 20; simp; omega
    case round =>
      rintro ⟨c, i⟩ ⟨hi, hc1, hc2, hs⟩
      simp only at hi hc1 hc2 hs
      dsimp only [List.cons_append, List.nil_append] at *
      refine WL_seq ?_
      refine WL_reg ?_
      refine O_p rfl rfl rfl ?_
      refine WO_nil ?_
      refine WL_seq ?_
      apply WLp
      · (repeat (first | exact rzz | apply rcc rfl | apply rnn rfl))
      refine WL_seq ?_
      refine WL_cond rfl (fun h17 => ?_) (fun h17 => ?_)
      · skip
        simp at h17
        obtain ⟨x, hx⟩ : ∃ x, (t.pairs ++ t.funs)[i]? = some x := ⟨_, List.getElem?_eq_getElem (by simp; omega)⟩
        have hmx := List.mem_of_getElem? hx
        have hg := drop_of hx
        have hsx : 10 * szT x + 30 < n + 20 := by rcases List.mem_append.1 hmx with q | q; have := szT_pairs q; omega; have := szT_funs q; omega
        have hwx : WfT x := by rcases List.mem_append.1 hmx with q | q; exact w6 x q; exact w7 x q
        have hsz : szT x < szT t := by rcases List.mem_append.1 hmx with q | q; exact szT_pairs q; exact szT_funs q
        refine WL_skip ?_
        refine WL_seq ?_
        apply WLp
        · (repeat (first | exact rzz | apply rcc rfl | apply rnn rfl))
        refine WL_seq ?_
        refine WL_block ?_
        refine WL_seq ?_
        refine WL_reg ?_
        refine O_ia rfl rfl (Int.natCast_nonneg _) (encT_get (i := (i : Nat)) hx) (encT_flat _) rfl ?_
        refine O_h rfl rfl rfl rfl ?_
        refine O_n rfl rfl rfl ?_
        refine O_hn rfl rfl rfl rfl ?_
        refine WO_nil ?_
        refine WL_seq ?_
        apply WLp
        · (repeat (first | exact rzz | apply rcc rfl | apply rnn rfl))
        refine WL_seq ?_
        refine WL_seq ?_
        refine WL_reg ?_
        refine O_p rfl rfl rfl ?_
        refine O_p rfl rfl rfl ?_
        refine WO_nil ?_
        refine WL_seq ?_
        apply WLp
        · (repeat (first | exact rzz | apply rcc rfl | apply rnn rfl))
        refine WL_cond rfl (fun h21 => ?_) (fun h21 => ?_)
        · skip
          have hr : cntT t l = c := by
            simp at h21
            rw [hs, hg, cntTs, if_pos h21]
          refine WL_exit ?_
          refine Blk_other (by decide) ?_
          refine RndC_exit ?_
          refine Blk_exit (?_ : WL _ _ _ _ _)
          refine WL_seq ?_
          apply WLp
          · (repeat (first | exact rzz | apply rcc rfl | apply rnn rfl))
          refine WL_seq ?_
          refine WL_reg ?_
          refine O_p rfl rfl rfl ?_
          refine O_p rfl rfl rfl ?_
          refine WO_nil ?_
          refine WL_ret ?_
          exact ⟨_, rfl, _, rfl, by rw [hr]⟩
        · skip
          simp at h21
          refine WL_skip ?_
          refine WL_seq ?_
          apply WLp
          · (repeat (first | exact rzz | apply rcc rfl | apply rnn rfl))
          refine WL_reg ?_
          refine O_h rfl rfl rfl rfl ?_
          refine O_p rfl rfl rfl ?_
          refine O_c 59 rfl rfl (callA_of rfl (ih x c hsx hwx (by omega) h21 (by omega))) ?_
          refine O_p rfl rfl rfl ?_
          refine WO_nil ?_
          refine WL_nil ?_
          refine Blk_norm (?_ : WL _ _ _ _ _)
          refine WL_seq ?_
          apply WLp
          · (repeat (first | exact rzz | apply rcc rfl | apply rnn rfl))
          refine WL_reg ?_
          refine O_p rfl rfl rfl ?_
          refine O_p rfl rfl rfl ?_
          refine WO_nil ?_
          refine WL_nil ?_
          have hq := cntT_sz x c h21
          refine RndC_norm ((cntT x c, i + 1)) (by refine ⟨?_, ?_, ?_, ?_⟩ <;> simp only <;> first | (simp; omega) | omega | (rw [hs, hg, cntTs, if_neg (by omega)])) (by show _ < _; simp; omega) ?_ rfl
          · rw [wrap_succ (by simp at hi; omega)]; (repeat (first | exact rzz | apply rcc rfl | apply rnn rfl))
      · skip
        have hr : cntT t l = c := by
          simp at h17
          rw [hs, List.drop_eq_nil_of_le (by simp; omega)]; rfl
        refine WL_exit ?_
        refine RndC_exit ?_
        refine Blk_exit (?_ : WL _ _ _ _ _)
        refine WL_seq ?_
        apply WLp
        · (repeat (first | exact rzz | apply rcc rfl | apply rnn rfl))
        refine WL_seq ?_
        refine WL_reg ?_
        refine O_p rfl rfl rfl ?_
        refine O_p rfl rfl rfl ?_
        refine WO_nil ?_
        refine WL_ret ?_
        exact ⟨_, rfl, _, rfl, by rw [hr]⟩
theorem tright_c (n : Nat) (t : Ty) (h : 10 * szT t + 30 < n) (hw : WfT t) (hs : szT t ≤ 1000000) : pcall (tabOf tabL) (n + 1) 30 [vT t] = some (.ok (.bool (decide (szT t ≤ 300) && rightT t 20))) := by
  have hq := cntT_sz t 300 (by omega)
  refine pcall_fin t30 ?_
  refine WL_seq ?_
  refine WL_reg ?_
  refine O_n rfl rfl rfl ?_
  refine O_p rfl rfl rfl ?_
  refine WO_nil ?_
  refine WL_seq ?_
  apply WLp
  · (repeat (first | exact rzz | apply rcc rfl | apply rnn rfl))
  refine WL_seq ?_
  refine WL_reg ?_
  refine O_h rfl rfl rfl rfl ?_
  refine O_c 59 rfl rfl (callA_of rfl (count_c n t 300 h hw hs (by omega) (by omega))) ?_
  refine O_p rfl rfl rfl ?_
  refine O_p rfl rfl rfl ?_
  apply O_and [_, _] rfl rfl (hT := ?hT9) (h := ?hR9)
  case hT9 =>
    intro hb6
    refine O_h rfl rfl rfl rfl ?_
    refine O_c 60 rfl rfl (callA_of rfl (right_c n t 20 (by omega) hw (by omega))) ?_
    exact WO_nil (WL_nil ⟨rfl, rfl, rfl⟩)
  case hR9 =>
    intro vs hvs
    obtain ⟨u7, u8, rfl⟩ := len2 hvs
    clear hvs; dsimp only [junk]
    refine O_p rfl rfl rfl ?_
    refine WO_nil ?_
    refine WL_ret ?_
    exact ⟨_, rfl, _, rfl, by congr 3; apply decide_eq_decide.2; omega⟩
end Go.Ev.Seat.TyS
namespace Go.Ev.Seat
set_option linter.unusedVariables false
set_option linter.unusedSimpArgs false
open Go Go.Ev
set_option maxRecDepth 20000
attribute [local irreducible] pcall callF
theorem awake_c (n : Nat) : pcall (tabOf tabL) (n + 100) 8 [] = some (.ok (.bool true)) := by kernel_rfl
noncomputable section
open Classical
def oAwake : Option Bool := some true
theorem oAwake_ok {r : Bool} (h : oAwake = some r) : PRes (tabOf tabL) 8 [] (.bool r) := by
  cases h; exact .of_le 100 awake_c
def oLightT (t : Ty) : Option Bool := if WfT t then some (decide (rsz t 60 < 120)) else none
theorem oLightT_ok {t : Ty} {r : Bool} (h : oLightT t = some r) : PRes (tabOf tabL) 15 [vT t] (.bool r) := by
  unfold oLightT at h
  split at h <;> cases h
  rename_i hw
  exact .of_lt (szT t + 1) fun n hn => by obtain ⟨m, rfl⟩ : ∃ m, n = m + 1 := ⟨n - 1, by omega⟩; exact TyS.light_c m t (by omega) hw
def oSameT (a b : Ty) : Option Bool := if WfT a then some (sameT a b) else none
theorem oSameT_ok {a b : Ty} {r : Bool} (h : oSameT a b = some r) : PRes (tabOf tabL) 19 [vT a, vT b] (.bool r) := by
  unfold oSameT at h
  split at h <;> cases h
  rename_i hw
  exact .of_lt (szT a) fun n hn => TyS.same_ref n a b hn hw
end
end Go.Ev.Seat
namespace Go.Ev.Seat.TyS
set_option linter.unusedVariables false
set_option linter.unusedSimpArgs false
open Go Go.Ev
set_option maxRecDepth 20000
attribute [local irreducible] pcall callF
theorem list_c (n : Nat) (t : Ty) : pcall (tabOf tabL) (n + 1) 84 [vT t] = some (.ok (vT (listT t))) := by
  refine pcall_fin t84 ?_
  refine WL_seq ?_
  refine WL_reg ?_
  refine O_n rfl rfl rfl ?_
  refine O_n rfl rfl rfl ?_
  refine WO_nil ?_
  refine WL_seq ?_
  apply WLp
  · (repeat (first | exact rzz | apply rcc rfl | apply rnn rfl))
  refine WL_seq ?_
  refine WL_reg ?_
  refine O_h rfl rfl rfl rfl ?_
  refine O_h rfl rfl rfl rfl ?_
  refine O_p rfl rfl rfl ?_
  refine O_hn rfl rfl rfl rfl ?_
  refine WO_nil ?_
  refine WL_ret ?_
  exact ⟨_, rfl, _, rfl, by simp [vT, cT, listT, encT_eq, Ty.all, Ty.flat, Ty.pair, Ty.pairs, Ty.fn, Ty.funs]⟩
theorem all_c (n : Nat) : pcall (tabOf tabL) (n + 1) 36 [] = some (.ok (vT allT)) := by
  refine pcall_fin t36 ?_
  refine WL_seq ?_
  refine WL_reg ?_
  refine O_n rfl rfl rfl ?_
  refine WO_nil ?_
  refine WL_seq ?_
  apply WLp
  · (repeat (first | exact rzz | apply rcc rfl | apply rnn rfl))
  refine WL_seq ?_
  refine WL_reg ?_
  refine O_p rfl rfl rfl ?_
  refine O_hn rfl rfl rfl rfl ?_
  refine WO_nil ?_
  refine WL_ret ?_
  exact ⟨_, rfl, _, rfl, rfl⟩
theorem car_c (n : Nat) (t : Ty) (h : Rt t) : pcall (tabOf tabL) (n + 1) 78 [vT t] = some (.ok (.tup [vT (carT t), .bool (hasT t)])) := by
  refine pcall_fin t78 ?_
  refine WL_seq ?_
  refine WL_reg ?_
  refine O_n rfl rfl rfl ?_
  refine O_n rfl rfl rfl ?_
  refine O_p rfl rfl rfl ?_
  refine WO_nil ?_
  refine WL_seq ?_
  apply WLp
  · (repeat (first | exact rzz | apply rcc rfl | apply rnn rfl))
  refine WL_seq ?_
  refine WL_block ?_
  refine WL_seq ?_
  refine WL_reg ?_
  refine O_p rfl rfl rfl ?_
  refine O_h rfl rfl rfl rfl ?_
  refine O_p rfl rfl rfl ?_
  refine WO_nil ?_
  refine WL_seq ?_
  apply WLp
  · (repeat (first | exact rzz | apply rcc rfl | apply rnn rfl))
  refine WL_cond rfl (fun h4 => ?_) (fun h4 => ?_)
  · skip
    have hr : carT t = t := by simp [carT, h4]
    have hr2 : hasT t = true := by simp [hasT, h4]
    refine WL_seq ?_
    refine WL_reg ?_
    refine O_h rfl rfl rfl rfl ?_
    refine O_hn rfl rfl rfl rfl ?_
    refine O_p rfl rfl rfl ?_
    refine WO_nil ?_
    refine WL_ret ?_
    refine Blk_ret ?_
    exact ⟨_, rfl, _, rfl, by rw [hr, hr2]; rfl⟩
  · skip
    refine WL_seq ?_
    refine WL_reg ?_
    refine O_p rfl rfl rfl ?_
    refine O_h rfl rfl rfl rfl ?_
    refine O_p rfl rfl rfl ?_
    refine O_p rfl rfl rfl ?_
    refine WO_nil ?_
    refine WL_seq ?_
    apply WLp
    · (repeat (first | exact rzz | apply rcc rfl | apply rnn rfl))
    refine WL_cond rfl (fun h8 => ?_) (fun h8 => ?_)
    · skip
      simp at h8
      have hr : carT t = zeroT := by simp [carT, h4, h8]
      have hr2 : hasT t = false := by simp [hasT, h4, h8]
      refine WL_seq ?_
      refine WL_reg ?_
      refine O_p rfl rfl rfl ?_
      refine O_hn rfl rfl rfl rfl ?_
      refine O_p rfl rfl rfl ?_
      refine WO_nil ?_
      refine WL_ret ?_
      refine Blk_ret ?_
      exact ⟨_, rfl, _, rfl, by rw [hr, hr2]; rfl⟩
    · skip
      simp at h8
      obtain ⟨x, hx⟩ : ∃ x, t.pairs[0]? = some x := by
        have hm := (car_facts h h4 h8).1
        exact ⟨_, List.getElem?_eq_getElem (by have := List.length_pos_of_mem hm; omega)⟩
      have hr : carT t = x := by
        simp only [carT, h4, h8, if_false, Bool.false_eq_true]
        cases hp : t.pairs with
        | nil => rw [hp] at hx; cases hx
        | cons y ys => rw [hp] at hx; simpa using hx
      have hr2 : hasT t = true := by simp [hasT, h8]
      refine WL_skip ?_
      refine WL_nil ?_
      refine Blk_norm (?_ : WL _ _ _ _ _)
      refine WL_seq ?_
      apply WLp
      · (repeat (first | exact rzz | apply rcc rfl | apply rnn rfl))
      refine WL_seq ?_
      refine WL_reg ?_
      refine O_p rfl rfl rfl ?_
      refine O_h rfl rfl rfl rfl ?_
      refine O_ia rfl rfl (by decide) (encT_get (i := 0) hx) (encT_flat _) rfl ?_
      refine O_h rfl rfl rfl rfl ?_
      refine O_hn rfl rfl rfl rfl ?_
      refine O_p rfl rfl rfl ?_
      refine WO_nil ?_
      refine WL_ret ?_
      exact ⟨_, rfl, _, rfl, by rw [hr, hr2]; rfl⟩
theorem cdr_c (n : Nat) (t : Ty) (h : Rt t) : pcall (tabOf tabL) (n + 2) 79 [vT t] = some (.ok (.tup [vT (cdrT t), .bool (hasT t)])) := by
  have hk := okT_facts h.ok
  refine pcall_fin t79 ?_
  refine WL_seq ?_
  refine WL_reg ?_
  refine O_n rfl rfl rfl ?_
  refine O_n rfl rfl rfl ?_
  refine O_p rfl rfl rfl ?_
  refine WO_nil ?_
  refine WL_seq ?_
  apply WLp
  · (repeat (first | exact rzz | apply rcc rfl | apply rnn rfl))
  refine WL_seq ?_
  refine WL_block ?_
  refine WL_seq ?_
  refine WL_reg ?_
  refine O_p rfl rfl rfl ?_
  refine O_h rfl rfl rfl rfl ?_
  refine O_p rfl rfl rfl ?_
  refine WO_nil ?_
  refine WL_seq ?_
  apply WLp
  · (repeat (first | exact rzz | apply rcc rfl | apply rnn rfl))
  refine WL_cond rfl (fun h4 => ?_) (fun h4 => ?_)
  · skip
    have hr : cdrT t = t := by simp [cdrT, h4]
    have hr2 : hasT t = true := by simp [hasT, h4]
    refine WL_seq ?_
    refine WL_reg ?_
    refine O_h rfl rfl rfl rfl ?_
    refine O_hn rfl rfl rfl rfl ?_
    refine O_p rfl rfl rfl ?_
    refine WO_nil ?_
    refine WL_ret ?_
    refine Blk_ret ?_
    exact ⟨_, rfl, _, rfl, by rw [hr, hr2]; rfl⟩
  · skip
    refine WL_seq ?_
    refine WL_reg ?_
    refine O_p rfl rfl rfl ?_
    refine O_h rfl rfl rfl rfl ?_
    refine O_p rfl rfl rfl ?_
    refine O_p rfl rfl rfl ?_
    refine WO_nil ?_
    refine WL_seq ?_
    apply WLp
    · (repeat (first | exact rzz | apply rcc rfl | apply rnn rfl))
    refine WL_cond rfl (fun h8 => ?_) (fun h8 => ?_)
    · skip
      simp at h8
      have hr : cdrT t = zeroT := by simp [cdrT, h4, h8]
      have hr2 : hasT t = false := by simp [hasT, h4, h8]
      refine WL_seq ?_
      refine WL_reg ?_
      refine O_p rfl rfl rfl ?_
      refine O_hn rfl rfl rfl rfl ?_
      refine O_p rfl rfl rfl ?_
      refine WO_nil ?_
      refine WL_ret ?_
      refine Blk_ret ?_
      exact ⟨_, rfl, _, rfl, by rw [hr, hr2]; rfl⟩
    · skip
      simp at h8
      have hr2 : hasT t = true := by simp [hasT, h8]
      refine WL_seq ?_
      refine WL_reg ?_
      refine O_p rfl rfl rfl ?_
      refine O_h rfl rfl rfl rfl ?_
      refine O_p rfl rfl rfl ?_
      refine O_p rfl rfl rfl ?_
      refine WO_nil ?_
      refine WL_seq ?_
      apply WLp
      · (repeat (first | exact rzz | apply rcc rfl | apply rnn rfl))
      refine WL_cond rfl (fun h13 => ?_) (fun h13 => ?_)
      · skip
        simp at h13
        obtain ⟨x, hp⟩ := hk.2.2.2.2.2.2.1 h13
        have hx : t.pairs[0]? = some x := by rw [hp]; rfl
        have hr : cdrT t = listT x := by simp [cdrT, h4, h8, h13, hp]
        refine WL_seq ?_
        refine WL_reg ?_
        refine O_p rfl rfl rfl ?_
        refine O_h rfl rfl rfl rfl ?_
        refine O_ia rfl rfl (by decide) (encT_get (i := 0) hx) (encT_flat _) rfl ?_
        refine O_h rfl rfl rfl rfl ?_
        refine O_c 84 rfl rfl (callA_of rfl (list_c n x)) ?_
        refine O_hn rfl rfl rfl rfl ?_
        refine O_p rfl rfl rfl ?_
        refine WO_nil ?_
        refine WL_ret ?_
        refine Blk_ret ?_
        exact ⟨_, rfl, _, rfl, by rw [hr, hr2]; rfl⟩
      · skip
        simp at h13
        obtain ⟨y, x, hp⟩ := hk.2.2.2.2.2.1 (by omega)
        have hx : t.pairs[1]? = some x := by rw [hp]; rfl
        have hr : cdrT t = x := by simp [cdrT, h4, h8, h13, hp]
        refine WL_skip ?_
        refine WL_nil ?_
        refine Blk_norm (?_ : WL _ _ _ _ _)
        refine WL_seq ?_
        apply WLp
        · (repeat (first | exact rzz | apply rcc rfl | apply rnn rfl))
        refine WL_seq ?_
        refine WL_reg ?_
        refine O_p rfl rfl rfl ?_
        refine O_h rfl rfl rfl rfl ?_
        refine O_ia rfl rfl (by decide) (encT_get (i := 1) hx) (encT_flat _) rfl ?_
        refine O_h rfl rfl rfl rfl ?_
        refine O_hn rfl rfl rfl rfl ?_
        refine O_p rfl rfl rfl ?_
        refine WO_nil ?_
        refine WL_ret ?_
        exact ⟨_, rfl, _, rfl, by rw [hr, hr2]; rfl⟩
theorem sub1_c3 (m : Nat) (x y : Ty) (r is : Bool) (c0 c1 : ABlock) (h : pcall (tabOf tabL) m 32 [vT x, vT y] = some (.ok (.bool r))) (hl : lowH 3 [c0, c1, .cells [.bool is]] = true) :
    callA ⟨callF (tabOf tabL) (m + 1), m + 1⟩ false 65 [vT x, vT y, .ptr 2 0] [c0, c1, .cells [.bool is]] = some (.ok (.tup []), [c0, c1, .cells [.bool (is && r)]]) := by
  refine callA_hc (H1 := [c0, c1, .cells [.bool (is && r)], .cells (cT x), .cells (cT y)]) rfl ?_ (by simp) rfl rfl (by simpa [lowH, lowB, lowL, lowV] using hl)
  refine callF_fin t65 ?_
  refine WL_seq ?_
  refine WL_reg ?_
  refine O_n rfl rfl rfl ?_
  refine O_n rfl rfl rfl ?_
  refine WO_nil ?_
  refine WL_seq ?_
  apply WLp
  · (repeat (first | exact rzz | apply rcc rfl | apply rnn rfl))
  refine WL_reg ?_
  refine O_h rfl rfl rfl rfl ?_
  refine O_p rfl rfl rfl ?_
  apply O_and [_, _, _] rfl rfl (hT := ?hT10) (h := ?hR10)
  case hT10 =>
    intro hb6
    refine O_h rfl rfl rfl rfl ?_
    refine O_h rfl rfl rfl rfl ?_
    refine O_c 32 rfl rfl (callA_of rfl h) ?_
    exact WO_nil (WL_nil ⟨rfl, rfl, rfl⟩)
  case hR10 =>
    intro vs hvs
    obtain ⟨u7, u8, u9, rfl⟩ := len3 hvs
    clear hvs; dsimp only [junk]
    refine O_hn rfl rfl rfl rfl ?_
    refine WO_nil ?_
    refine WL_nil ?_
    exact ⟨_, rfl, rfl, rfl⟩
theorem sub1_c7 (m : Nat) (x y : Ty) (r is : Bool) (c0 c1 c3 c4 c5 c6 : ABlock) (h : pcall (tabOf tabL) m 32 [vT x, vT y] = some (.ok (.bool r))) (hl : lowH 7 [c0, c1, .cells [.bool is], c3, c4, c5, c6] = true) :
    callA ⟨callF (tabOf tabL) (m + 1), m + 1⟩ false 65 [vT x, vT y, .ptr 2 0] [c0, c1, .cells [.bool is], c3, c4, c5, c6] = some (.ok (.tup []), [c0, c1, .cells [.bool (is && r)], c3, c4, c5, c6]) := by
  refine callA_hc (H1 := [c0, c1, .cells [.bool (is && r)], c3, c4, c5, c6, .cells (cT x), .cells (cT y)]) rfl ?_ (by simp) rfl rfl (by simpa [lowH, lowB, lowL, lowV] using hl)
  refine callF_fin t65 ?_
  refine WL_seq ?_
  refine WL_reg ?_
  refine O_n rfl rfl rfl ?_
  refine O_n rfl rfl rfl ?_
  refine WO_nil ?_
  refine WL_seq ?_
  apply WLp
  · (repeat (first | exact rzz | apply rcc rfl | apply rnn rfl))
  refine WL_reg ?_
  refine O_h rfl rfl rfl rfl ?_
  refine O_p rfl rfl rfl ?_
  apply O_and [_, _, _] rfl rfl (hT := ?hT10) (h := ?hR10)
  case hT10 =>
    intro hb6
    refine O_h rfl rfl rfl rfl ?_
    refine O_h rfl rfl rfl rfl ?_
    refine O_c 32 rfl rfl (callA_of rfl h) ?_
    exact WO_nil (WL_nil ⟨rfl, rfl, rfl⟩)
  case hR10 =>
    intro vs hvs
    obtain ⟨u7, u8, u9, rfl⟩ := len3 hvs
    clear hvs; dsimp only [junk]
    refine O_hn rfl rfl rfl rfl ?_
    refine WO_nil ?_
    refine WL_nil ?_
    exact ⟨_, rfl, rfl, rfl⟩
theorem both_sub (m : Nat) (a b : Ty) (r1 r2 is : Bool) (c0 c1 : ABlock) (ha : Rt a) (hb : Rt b) (h1 : pcall (tabOf tabL) m 32 [vT (carT a), vT (carT b)] = some (.ok (.bool r1)))
    (h2 : ¬(a.pair = 2 ∧ b.pair = 2) → pcall (tabOf tabL) m 32 [vT (cdrT a), vT (cdrT b)] = some (.ok (.bool r2))) (hm : 1 ≤ m) (hl : lowH 3 [c0, c1, .cells [.bool is]] = true) :
    callA ⟨callF (tabOf tabL) (m + 2), m + 2⟩ false 61 [vT a, vT b, .fn 65 [.ptr 2 0]] [c0, c1, .cells [.bool is]] = some (.ok (.tup []), [c0, c1, .cells [.bool (is && (r1 && (if a.pair = 2 ∧ b.pair = 2 then true else r2)))]]) := by
  obtain ⟨m, rfl⟩ : ∃ q, m = q + 1 := ⟨m - 1, by omega⟩
  have hl0 : lowB 3 c0 = true ∧ lowB 3 c1 = true := by simp only [lowH, Bool.and_eq_true] at hl; exact ⟨hl.1, hl.2.1⟩
  have hl7 : lowB 7 c0 = true ∧ lowB 7 c1 = true := ⟨lowB_mono (by decide) hl0.1, lowB_mono (by decide) hl0.2⟩
  by_cases hp : a.pair = 2 ∧ b.pair = 2
  · refine callA_hc (H1 := [c0, c1, .cells [.bool (is && r1)], .cells (cT a), .cells (cT b), .cells (cT (carT a)), .cells (cT (carT b))]) rfl ?_ (by simp) rfl (by simp [hp]) (lowH_cons hl0.1 (lowH_cons hl0.2 rfl))
    refine callF_fin t61 ?_
    refine WL_seq ?_
    refine WL_reg ?_
    refine O_n rfl rfl rfl ?_
    refine O_n rfl rfl rfl ?_
    refine WO_nil ?_
    refine WL_seq ?_
    apply WLp
    · (repeat (first | exact rzz | apply rcc rfl | apply rnn rfl))
    refine WL_seq ?_
    refine WL_reg ?_
    refine O_h rfl rfl rfl rfl ?_
    refine O_c 78 rfl rfl (callA_of rfl (car_c (m + 1) a ha)) ?_
    refine O_p rfl rfl rfl ?_
    refine O_p rfl rfl rfl ?_
    refine O_p rfl rfl rfl ?_
    refine O_n rfl rfl rfl ?_
    refine O_hn rfl rfl rfl rfl ?_
    refine O_p rfl rfl rfl ?_
    refine WO_nil ?_
    refine WL_seq ?_
    apply WLp
    · (repeat (first | exact rzz | apply rcc rfl | apply rnn rfl))
    refine WL_seq ?_
    refine WL_reg ?_
    refine O_h rfl rfl rfl rfl ?_
    refine O_c 78 rfl rfl (callA_of rfl (car_c (m + 1) b hb)) ?_
    refine O_p rfl rfl rfl ?_
    refine O_p rfl rfl rfl ?_
    refine O_p rfl rfl rfl ?_
    refine O_n rfl rfl rfl ?_
    refine O_hn rfl rfl rfl rfl ?_
    refine O_p rfl rfl rfl ?_
    refine WO_nil ?_
    refine WL_seq ?_
    apply WLp
    · (repeat (first | exact rzz | apply rcc rfl | apply rnn rfl))
    refine WL_seq ?_
    refine WL_reg ?_
    refine O_p rfl rfl rfl ?_
    refine O_h rfl rfl rfl rfl ?_
    refine O_h rfl rfl rfl rfl ?_
    refine O_cv rfl rfl (sub1_c7 (m + 1) (carT a) (carT b) r1 is c0 c1 _ _ _ _ h1 (lowH_cons hl7.1 (lowH_cons hl7.2 rfl))) ?_
    refine WO_nil ?_
    refine WL_seq ?_
    apply WLp
    · (repeat (first | exact rzz | apply rcc rfl | apply rnn rfl))
    refine WL_seq ?_
    refine WL_seq ?_
    refine WL_reg ?_
    refine O_p rfl rfl rfl ?_
    refine O_h rfl rfl rfl rfl ?_
    refine O_p rfl rfl rfl ?_
    refine O_p rfl rfl rfl ?_
    apply O_and [_, _, _] rfl rfl (hT := ?hT31) (h := ?hR31)
    case hT31 =>
      intro hb27
      refine O_p rfl rfl rfl ?_
      refine O_h rfl rfl rfl rfl ?_
      refine O_p rfl rfl rfl ?_
      exact WO_nil (WL_nil ⟨rfl, rfl, rfl⟩)
    case hR31 =>
      intro vs hvs
      obtain ⟨u28, u29, u30, rfl⟩ := len3 hvs
      clear hvs; dsimp only [junk]
      refine WO_nil ?_
      refine WL_seq ?_
      apply WLp
      · (repeat (first | exact rzz | apply rcc rfl | apply rnn rfl))
      try clear u28 u29 u30
      refine WL_cond rfl (fun h31 => ?_) (fun h31 => ?_)
      · skip
        refine WL_ret ?_
        exact ⟨_, rfl, rfl, rfl⟩
      · skip
        simp [hp] at h31
  · refine callA_hc (H1 := [c0, c1, .cells [.bool (is && r1 && r2)], .cells (cT a), .cells (cT b), .cells (cT (cdrT a)), .cells (cT (cdrT b))]) rfl ?_ (by simp) rfl (by simp [hp, Bool.and_assoc]) (lowH_cons hl0.1 (lowH_cons hl0.2 rfl))
    refine callF_fin t61 ?_
    refine WL_seq ?_
    refine WL_reg ?_
    refine O_n rfl rfl rfl ?_
    refine O_n rfl rfl rfl ?_
    refine WO_nil ?_
    refine WL_seq ?_
    apply WLp
    · (repeat (first | exact rzz | apply rcc rfl | apply rnn rfl))
    refine WL_seq ?_
    refine WL_reg ?_
    refine O_h rfl rfl rfl rfl ?_
    refine O_c 78 rfl rfl (callA_of rfl (car_c (m + 1) a ha)) ?_
    refine O_p rfl rfl rfl ?_
    refine O_p rfl rfl rfl ?_
    refine O_p rfl rfl rfl ?_
    refine O_n rfl rfl rfl ?_
    refine O_hn rfl rfl rfl rfl ?_
    refine O_p rfl rfl rfl ?_
    refine WO_nil ?_
    refine WL_seq ?_
    apply WLp
    · (repeat (first | exact rzz | apply rcc rfl | apply rnn rfl))
    refine WL_seq ?_
    refine WL_reg ?_
    refine O_h rfl rfl rfl rfl ?_
    refine O_c 78 rfl rfl (callA_of rfl (car_c (m + 1) b hb)) ?_
    refine O_p rfl rfl rfl ?_
    refine O_p rfl rfl rfl ?_
    refine O_p rfl rfl rfl ?_
    refine O_n rfl rfl rfl ?_
    refine O_hn rfl rfl rfl rfl ?_
    refine O_p rfl rfl rfl ?_
    refine WO_nil ?_
    refine WL_seq ?_
    apply WLp
    · (repeat (first | exact rzz | apply rcc rfl | apply rnn rfl))
    refine WL_seq ?_
    refine WL_reg ?_
    refine O_p rfl rfl rfl ?_
    refine O_h rfl rfl rfl rfl ?_
    refine O_h rfl rfl rfl rfl ?_
    refine O_cv rfl rfl (sub1_c7 (m + 1) (carT a) (carT b) r1 is c0 c1 _ _ _ _ h1 (lowH_cons hl7.1 (lowH_cons hl7.2 rfl))) ?_
    refine WO_nil ?_
    refine WL_seq ?_
    apply WLp
    · (repeat (first | exact rzz | apply rcc rfl | apply rnn rfl))
    refine WL_seq ?_
    refine WL_seq ?_
    refine WL_reg ?_
    refine O_p rfl rfl rfl ?_
    refine O_h rfl rfl rfl rfl ?_
    refine O_p rfl rfl rfl ?_
    refine O_p rfl rfl rfl ?_
    apply O_and [_, _, _] rfl rfl (hT := ?hT31) (h := ?hR31)
    case hT31 =>
      intro hb27
      refine O_p rfl rfl rfl ?_
      refine O_h rfl rfl rfl rfl ?_
      refine O_p rfl rfl rfl ?_
      exact WO_nil (WL_nil ⟨rfl, rfl, rfl⟩)
    case hR31 =>
      intro vs hvs
      obtain ⟨u28, u29, u30, rfl⟩ := len3 hvs
      clear hvs; dsimp only [junk]
      refine WO_nil ?_
      refine WL_seq ?_
      apply WLp
      · (repeat (first | exact rzz | apply rcc rfl | apply rnn rfl))
      try clear u28 u29 u30
      refine WL_cond rfl (fun h31 => ?_) (fun h31 => ?_)
      · skip
        simp at h31; exact absurd h31 hp
      · skip
        refine WL_skip ?_
        refine WL_seq ?_
        apply WLp
        · (repeat (first | exact rzz | apply rcc rfl | apply rnn rfl))
        refine WL_seq ?_
        refine WL_reg ?_
        refine O_h rfl rfl rfl rfl ?_
        refine O_c 79 rfl rfl (callA_of rfl (cdr_c m a ha)) ?_
        refine O_p rfl rfl rfl ?_
        refine O_p rfl rfl rfl ?_
        refine O_p rfl rfl rfl ?_
        refine O_hn rfl rfl rfl rfl ?_
        refine WO_nil ?_
        refine WL_seq ?_
        apply WLp
        · (repeat (first | exact rzz | apply rcc rfl | apply rnn rfl))
        refine WL_seq ?_
        refine WL_reg ?_
        refine O_h rfl rfl rfl rfl ?_
        refine O_c 79 rfl rfl (callA_of rfl (cdr_c m b hb)) ?_
        refine O_p rfl rfl rfl ?_
        refine O_p rfl rfl rfl ?_
        refine O_p rfl rfl rfl ?_
        refine O_hn rfl rfl rfl rfl ?_
        refine WO_nil ?_
        refine WL_seq ?_
        apply WLp
        · (repeat (first | exact rzz | apply rcc rfl | apply rnn rfl))
        refine WL_reg ?_
        refine O_p rfl rfl rfl ?_
        refine O_h rfl rfl rfl rfl ?_
        refine O_h rfl rfl rfl rfl ?_
        refine O_cv rfl rfl (sub1_c7 (m + 1) (cdrT a) (cdrT b) r2 (is && r1) c0 c1 _ _ _ _ (h2 hp) (lowH_cons hl7.1 (lowH_cons hl7.2 rfl))) ?_
        refine WO_nil ?_
        refine WL_nil ?_
        exact ⟨_, rfl, rfl, rfl⟩
theorem sub_c : ∀ (k n : Nat) (a b : Ty), Rt a → Rt b → WfT a → WfT b → szT a + szT b ≤ k → 20 * k + 20 < n → pcall (tabOf tabL) n 32 [vT a, vT b] = some (.ok (.bool (subT k a b)))
  | 0, n, a, b, _, _, _, _, h, _ => by have := szT_pos a; omega
  | k + 1, n, a, b, ha, hb, wa, wb, h, hn => by
    obtain ⟨n, rfl⟩ : ∃ m, n = m + 3 := ⟨n - 3, by omega⟩
    have ih := sub_c k
    have fa := okT_facts ha.ok
    have fb := okT_facts hb.ok
    have hp := len_pairs a
    have hf := len_funs a
    have hfb := len_funs b
    have hwa : a.funs.length ≤ 9 := by by_cases q : a.fn = 1; exact (fa.2.2.2.2.2.2.2.1 q).2; rw [fa.2.2.2.2.2.2.2.2 q]; decide
    have hF := andn_dec fa.1 fb.1
    refine pcall_fin t32 ?_
    refine WL_seq ?_
    refine WL_reg ?_
    refine O_n rfl rfl rfl ?_
    refine O_n rfl rfl rfl ?_
    refine O_p rfl rfl rfl ?_
    refine WO_nil ?_
    refine WL_seq ?_
    apply WLp
    · (repeat (first | exact rzz | apply rcc rfl | apply rnn rfl))
    refine WL_seq ?_
    refine WL_block ?_
    refine WL_seq ?_
    refine WL_reg ?_
    refine O_p rfl rfl rfl ?_
    refine O_h rfl rfl rfl rfl ?_
    refine O_p rfl rfl rfl ?_
    refine WO_nil ?_
    refine WL_seq ?_
    apply WLp
    · (repeat (first | exact rzz | apply rcc rfl | apply rnn rfl))
    refine WL_cond rfl (fun h9 => ?_) (fun h9 => ?_)
    · skip
      have hr : subT (k + 1) a b = true := by simp [subT, h9]
      refine WL_seq ?_
      refine WL_reg ?_
      refine O_p rfl rfl rfl ?_
      refine WO_nil ?_
      refine WL_ret ?_
      refine Blk_ret ?_
      exact ⟨_, rfl, _, rfl, by rw [hr]⟩
    · skip
      refine WL_seq ?_
      refine WL_reg ?_
      refine O_p rfl rfl rfl ?_
      refine O_h rfl rfl rfl rfl ?_
      refine O_p rfl rfl rfl ?_
      apply O_or [_, _, _, _, _, _] rfl rfl (hT := ?hT22) (h := ?hR22)
      case hT22 =>
        intro hb15
        refine O_p rfl rfl rfl ?_
        refine O_h rfl rfl rfl rfl ?_
        refine O_p rfl rfl rfl ?_
        refine O_h rfl rfl rfl rfl ?_
        refine O_p rfl rfl rfl ?_
        refine O_p rfl rfl rfl ?_
        exact WO_nil (WL_nil ⟨rfl, rfl, rfl⟩)
      case hR22 =>
        intro vs hvs
        obtain ⟨u16, u17, u18, u19, u20, u21, rfl⟩ := len6 hvs
        clear hvs; dsimp only [junk]
        refine O_p rfl rfl rfl ?_
        apply O_or [_, _, _, _, _, _, _, _] rfl rfl (hT := ?hT32) (h := ?hR32)
        case hT32 =>
          intro hb23
          refine O_p rfl rfl rfl ?_
          refine O_h rfl rfl rfl rfl ?_
          refine O_p rfl rfl rfl ?_
          refine O_p rfl rfl rfl ?_
          apply O_and [_, _, _] rfl rfl (hT := ?hT31) (h := ?hR31)
          case hT31 =>
            intro hb27
            refine O_p rfl rfl rfl ?_
            refine O_h rfl rfl rfl rfl ?_
            refine O_p rfl rfl rfl ?_
            exact WO_nil (WL_nil ⟨rfl, rfl, rfl⟩)
          case hR31 =>
            intro vs hvs
            obtain ⟨u28, u29, u30, rfl⟩ := len3 hvs
            clear hvs; dsimp only [junk]
            exact WO_nil (WL_nil ⟨rfl, rfl, rfl⟩)
        case hR32 =>
          intro vs hvs
          obtain ⟨u24, u25, u26, u27, u28, u29, u30, u31, rfl⟩ := len8 hvs
          clear hvs; dsimp only [junk]
          refine O_p rfl rfl rfl ?_
          apply O_or [_, _, _, _, _, _, _, _] rfl rfl (hT := ?hT42) (h := ?hR42)
          case hT42 =>
            intro hb33
            refine O_p rfl rfl rfl ?_
            refine O_h rfl rfl rfl rfl ?_
            refine O_p rfl rfl rfl ?_
            refine O_p rfl rfl rfl ?_
            apply O_and [_, _, _] rfl rfl (hT := ?hT41) (h := ?hR41)
            case hT41 =>
              intro hb37
              refine O_p rfl rfl rfl ?_
              refine O_h rfl rfl rfl rfl ?_
              refine O_p rfl rfl rfl ?_
              exact WO_nil (WL_nil ⟨rfl, rfl, rfl⟩)
            case hR41 =>
              intro vs hvs
              obtain ⟨u38, u39, u40, rfl⟩ := len3 hvs
              clear hvs; dsimp only [junk]
              exact WO_nil (WL_nil ⟨rfl, rfl, rfl⟩)
          case hR42 =>
            intro vs hvs
            obtain ⟨u34, u35, u36, u37, u38, u39, u40, u41, rfl⟩ := len8 hvs
            clear hvs; dsimp only [junk]
            refine O_p rfl rfl rfl ?_
            refine WO_nil ?_
            refine WL_seq ?_
            apply WLp
            · (repeat (first | exact rzz | apply rcc rfl | apply rnn rfl))
            try clear u16 u17 u18 u19 u20 u21 u28 u29 u30 u24 u25 u26 u27 u28 u29 u30 u31 u38 u39 u40 u34 u35 u36 u37 u38 u39 u40 u41
            refine WL_cond rfl (fun h12 => ?_) (fun h12 => ?_)
            · skip
              have hr : subT (k + 1) a b = false := by
                simp only [hF] at h12
                simp only [subT, h9, Bool.false_eq_true, if_false]
                rw [if_pos h12]
              refine WL_seq ?_
              refine WL_reg ?_
              refine O_p rfl rfl rfl ?_
              refine WO_nil ?_
              refine WL_ret ?_
              refine Blk_ret ?_
              exact ⟨_, rfl, _, rfl, by rw [hr]⟩
            · skip
              simp only [hF] at h12
              have hS := subT_succ k a b h9 h12
              simp at h12
              refine WL_skip ?_
              refine WL_nil ?_
              refine Blk_norm (?_ : WL _ _ _ _ _)
              refine WL_seq ?_
              apply WLp
              · (repeat (first | exact rzz | apply rcc rfl | apply rnn rfl))
              refine WL_seq ?_
              refine WL_reg ?_
              refine O_n rfl rfl rfl ?_
              refine O_hn rfl rfl rfl rfl ?_
              refine WO_nil ?_
              refine WL_seq ?_
              apply WLp
              · (repeat (first | exact rzz | apply rcc rfl | apply rnn rfl))
              refine WL_seq ?_
              refine WL_reg ?_
              refine O_p rfl rfl rfl ?_
              refine O_p rfl rfl rfl ?_
              refine WO_nil ?_
              refine WL_seq ?_
              apply WLp
              · (repeat (first | exact rzz | apply rcc rfl | apply rnn rfl))
              refine WL_seq ?_
              refine WL_seq ?_
              refine WL_reg ?_
              refine O_p rfl rfl rfl ?_
              refine O_h rfl rfl rfl rfl ?_
              refine O_p rfl rfl rfl ?_
              refine WO_nil ?_
              refine WL_seq ?_
              apply WLp
              · (repeat (first | exact rzz | apply rcc rfl | apply rnn rfl))
              refine WL_cond rfl (fun h46 => ?_) (fun h46 => ?_)
              · skip
                simp at h46
                have h1 := car_facts ha h12.1.1.1 h46
                have h2 := car_facts hb h9 (by simpa using h12.1.2 h46)
                have h3 := cdr_facts ha h12.1.1.1 h46
                have h4 := cdr_facts hb h9 (by simpa using h12.1.2 h46)
                let v0 : Bool := (true && (subT k (carT a) (carT b) && (if a.pair = 2 ∧ b.pair = 2 then true else subT k (cdrT a) (cdrT b))))
                have hv0 : v0 = (if a.pair = 0 then true else (subT k (carT a) (carT b) && (if a.pair = 2 ∧ b.pair = 2 then true else subT k (cdrT a) (cdrT b)))) := by simp [v0, h46]
                refine WL_reg ?_
                refine O_h rfl rfl rfl rfl ?_
                refine O_h rfl rfl rfl rfl ?_
                refine O_p rfl rfl rfl ?_
                refine O_c 61 rfl rfl (both_sub (n + 0) a b _ _ true _ _ ha hb (ih n _ _ h1.2.1 h2.2.1 (car_wf wa) (car_wf wb) (by omega) (by omega)) (fun hnl => ih n _ _ h3.2.2 h4.2.2 (cdr_wf wa) (cdr_wf wb) (by omega) (by omega)) (by omega) rfl) ?_
                refine WO_nil ?_
                refine WL_seq ?_
                apply WLp
                · (repeat (first | exact rzz | apply rcc rfl | apply rnn rfl))
                refine WL_seq ?_
                refine WL_seq ?_
                refine WL_reg ?_
                refine O_p rfl rfl rfl ?_
                refine O_h rfl rfl rfl rfl ?_
                refine O_p rfl rfl rfl ?_
                refine O_p rfl rfl rfl ?_
                apply O_or [_, _, _] rfl rfl (hT := ?hT58) (h := ?hR58)
                case hT58 =>
                  intro hb54
                  refine O_p rfl rfl rfl ?_
                  refine O_h rfl rfl rfl rfl ?_
                  refine O_p rfl rfl rfl ?_
                  exact WO_nil (WL_nil ⟨rfl, rfl, rfl⟩)
                case hR58 =>
                  intro vs hvs
                  obtain ⟨u55, u56, u57, rfl⟩ := len3 hvs
                  clear hvs; dsimp only [junk]
                  refine WO_nil ?_
                  refine WL_seq ?_
                  apply WLp
                  · (repeat (first | exact rzz | apply rcc rfl | apply rnn rfl))
                  try clear u55 u56 u57
                  refine WL_cond rfl (fun h58 => ?_) (fun h58 => ?_)
                  · skip
                    have hr : subT (k + 1) a b = v0 := by
                      simp at h58
                      rw [hS, if_pos h58, hv0]
                    refine WL_seq ?_
                    refine WL_reg ?_
                    refine O_h rfl rfl rfl rfl ?_
                    refine O_p rfl rfl rfl ?_
                    refine WO_nil ?_
                    refine WL_ret ?_
                    exact ⟨_, rfl, _, rfl, by rw [hr]⟩
                  · skip
                    simp at h58
                    rw [if_neg (by omega)] at hS
                    have hf1 : a.funs.length ≥ 1 ∨ a.fn = 2 := by
                      by_cases q : a.fn = 1
                      · exact .inl (fa.2.2.2.2.2.2.2.1 q).1
                      · right; omega
                    have e63 : a.fn ≠ 2 → IntKind.i64.wrap (((List.map encT a.funs).length : Int) - 1) = ((a.funs.length - 1 : Nat) : Int) := by
                      intro q; rw [List.length_map, kw_i64_id (by omega) (by omega)]; omega
                    refine WL_skip ?_
                    refine WL_seq ?_
                    apply WLp
                    · (repeat (first | exact rzz | apply rcc rfl | apply rnn rfl))
                    refine WL_seq ?_
                    refine WL_reg ?_
                    refine O_p rfl rfl rfl ?_
                    refine O_h rfl rfl rfl rfl ?_
                    refine O_h rfl rfl rfl rfl ?_
                    refine O_p rfl rfl rfl ?_
                    refine O_p rfl rfl rfl ?_
                    refine WO_nil ?_
                    refine WL_seq ?_
                    apply WLp
                    · (repeat (first | exact rzz | apply rcc rfl | apply rnn rfl))
                    refine WL_seq ?_
                    refine WL_seq ?_
                    refine WL_reg ?_
                    refine O_p rfl rfl rfl ?_
                    refine O_h rfl rfl rfl rfl ?_
                    refine O_p rfl rfl rfl ?_
                    refine O_p rfl rfl rfl ?_
                    apply O_or [_, _, _, _, _, _] rfl rfl (hT := ?hT74) (h := ?hR74)
                    case hT74 =>
                      intro hb67
                      refine O_p rfl rfl rfl ?_
                      refine O_h rfl rfl rfl rfl ?_
                      refine O_h rfl rfl rfl rfl ?_
                      refine O_p rfl rfl rfl ?_
                      refine O_p rfl rfl rfl ?_
                      refine O_p rfl rfl rfl ?_
                      exact WO_nil (WL_nil ⟨rfl, rfl, rfl⟩)
                    case hR74 =>
                      intro vs hvs
                      obtain ⟨u68, u69, u70, u71, u72, u73, rfl⟩ := len6 hvs
                      clear hvs; dsimp only [junk]
                      refine WO_nil ?_
                      refine WL_seq ?_
                      apply WLp
                      · (repeat (first | exact rzz | apply rcc rfl | apply rnn rfl))
                      try clear u68 u69 u70 u71 u72 u73
                      refine WL_cond rfl (fun h74 => ?_) (fun h74 => ?_)
                      · skip
                        have hr : subT (k + 1) a b = false := by
                          by_cases q : a.fn = 2
                          · rw [hS, if_pos (.inl q)]
                          · simp [q] at h74
                            have e63 := e63 q
                            rw [List.length_map] at e63
                            rw [e63, kw_i64_id (by omega) (by omega)] at h74
                            rw [hS, if_pos (.inr (by omega))]
                        refine WL_seq ?_
                        refine WL_reg ?_
                        refine O_p rfl rfl rfl ?_
                        refine WO_nil ?_
                        refine WL_ret ?_
                        exact ⟨_, rfl, _, rfl, by rw [hr]⟩
                      · skip
                        have hq2 : a.fn ≠ 2 := by intro q; simp [q] at h74
                        have e63 := e63 hq2
                        have hlen : b.funs.length = a.funs.length := by
                          simp [hq2] at h74
                          rw [List.length_map] at e63
                          rw [e63, kw_i64_id (by omega) (by omega)] at h74; omega
                        rw [if_neg (by omega)] at hS
                        rw [e63]
                        refine WL_skip ?_
                        refine WL_seq ?_
                        apply WLp
                        · (repeat (first | exact rzz | apply rcc rfl | apply rnn rfl))
                        refine WL_seq ?_
                        refine WL_seq ?_
                        refine WL_reg ?_
                        refine O_p rfl rfl rfl ?_
                        refine O_p rfl rfl rfl ?_
                        refine WO_nil ?_
                        refine WL_seq ?_
                        apply WLp
                        · (repeat (first | exact rzz | apply rcc rfl | apply rnn rfl))
                        refine WL_block ?_
                        apply WL_forv (hc := [.cells (cT a), .cells (cT b)]) (α := Nat × Bool) (fun s => [(76, .int .i64 (s.1 : Nat))]) (fun s => [.cells [.bool s.2]]) (fun s => s.1 ≤ a.funs.length - 1 ∧ s.2 = (v0 && (List.range s.1).all (fun i => subT k (b.funs.getD i zeroT) (a.funs.getD i zeroT)))) (fun s => a.funs.length - s.1) ((0, v0)) (he := ?he) (hh := ?hh) (hP := ?hP) (hk := ?hk) (round := ?round)
                        case he =>
                          (repeat (first | exact rzz | apply rcc rfl | apply rnn rfl))
                        case hh =>
                          rfl
                        case hP =>
                          exact ⟨by simp, by simp⟩
                        case hk =>
                          show a.funs.length - 0 < n + 2; omega
                        case round =>
                          rintro ⟨i, v⟩ ⟨hi, hs⟩
                          simp only at hi hs
                          dsimp only [List.cons_append, List.nil_append] at *
                          refine WL_seq ?_
                          refine WL_reg ?_
                          refine O_p rfl rfl rfl ?_
                          refine WO_nil ?_
                          refine WL_seq ?_
                          apply WLp
                          · (repeat (first | exact rzz | apply rcc rfl | apply rnn rfl))
                          refine WL_seq ?_
                          refine WL_cond rfl (fun h77 => ?_) (fun h77 => ?_)
                          · skip
                            simp at h77
                            obtain ⟨x, hx⟩ : ∃ x, (b.funs)[i]? = some x := ⟨_, List.getElem?_eq_getElem (by omega)⟩
                            have hmx := List.mem_of_getElem? hx
                            have hsx := szT_funs hmx
                            obtain ⟨y, hy⟩ : ∃ y, (a.funs)[i]? = some y := ⟨_, List.getElem?_eq_getElem (by omega)⟩
                            have hmy := List.mem_of_getElem? hy
                            have hsy := szT_funs hmy
                            refine WL_skip ?_
                            refine WL_seq ?_
                            apply WLp
                            · (repeat (first | exact rzz | apply rcc rfl | apply rnn rfl))
                            refine WL_seq ?_
                            refine WL_block ?_
                            refine WL_seq ?_
                            refine WL_reg ?_
                            refine O_p rfl rfl rfl ?_
                            refine O_p rfl rfl rfl ?_
                            refine WO_nil ?_
                            refine WL_seq ?_
                            apply WLp
                            · (repeat (first | exact rzz | apply rcc rfl | apply rnn rfl))
                            refine WL_drawS (ops := [_, _, _, _, _, _, _, _, _, _, _, _]) rfl rfl ?_
                            refine O_p rfl rfl rfl ?_
                            refine O_p rfl rfl rfl ?_
                            refine O_h rfl rfl rfl rfl ?_
                            refine O_p rfl rfl rfl ?_
                            refine O_ia rfl rfl (Int.natCast_nonneg _) (encT_get (i := (i : Nat)) hx) (encT_flat _) rfl ?_
                            refine O_h rfl rfl rfl rfl ?_
                            refine O_p rfl rfl rfl ?_
                            refine O_h rfl rfl rfl rfl ?_
                            refine O_p rfl rfl rfl ?_
                            refine O_ia rfl rfl (Int.natCast_nonneg _) (encT_get (i := (i : Nat)) hy) (encT_flat _) rfl ?_
                            refine O_h rfl rfl rfl rfl ?_
                            refine O_cv rfl rfl (sub1_c3 (n + 1) x y (subT k x y) v _ _ (ih (n + 1) x y (hb.funs hmx) (ha.funs hmy) (wb.funs hmx) (wa.funs hmy) (by omega) (by omega)) rfl) ?_
                            refine WO_nil (WL_nil ⟨rfl, ?_⟩)
                            refine WL_nil ?_
                            refine Blk_norm (?_ : WL _ _ _ _ _)
                            refine WL_seq ?_
                            apply WLp
                            · (repeat (first | exact rzz | apply rcc rfl | apply rnn rfl))
                            refine WL_reg ?_
                            refine O_p rfl rfl rfl ?_
                            refine O_p rfl rfl rfl ?_
                            refine WO_nil ?_
                            refine WL_nil ?_
                            refine RndV_norm ((i + 1, v && subT k x y)) (by refine ⟨by simp only; omega, ?_⟩; simp only; rw [range_all_succ, hs, getD_of hx, getD_of hy, Bool.and_assoc]) (by show _ < _; omega) ?_ rfl
                            · rw [wrap_succ (by omega)]; (repeat (first | exact rzz | apply rcc rfl | apply rnn rfl))
                          · skip
                            simp at h77
                            obtain rfl : i = a.funs.length - 1 := by omega
                            obtain ⟨x, hx⟩ : ∃ x, (b.funs)[(a.funs.length - 1)]? = some x := ⟨_, List.getElem?_eq_getElem (by omega)⟩
                            have hmx := List.mem_of_getElem? hx
                            have hsx := szT_funs hmx
                            obtain ⟨y, hy⟩ : ∃ y, (a.funs)[(a.funs.length - 1)]? = some y := ⟨_, List.getElem?_eq_getElem (by omega)⟩
                            have hmy := List.mem_of_getElem? hy
                            have hsy := szT_funs hmy
                            have hr : subT (k + 1) a b = (v && subT k y x) := by
                              rw [hS, hs, hv0, getD_of hx, getD_of hy]
                            refine WL_exit ?_
                            refine RndV_exit ?_
                            refine Blk_exit (?_ : WL _ _ _ _ _)
                            refine WL_seq ?_
                            apply WLp
                            · (repeat (first | exact rzz | apply rcc rfl | apply rnn rfl))
                            refine WL_seq ?_
                            refine WL_drawS (ops := [_, _, _, _, _, _, _, _, _, _, _, _]) rfl rfl ?_
                            refine O_p rfl rfl rfl ?_
                            refine O_p rfl rfl rfl ?_
                            refine O_h rfl rfl rfl rfl ?_
                            refine O_p rfl rfl rfl ?_
                            refine O_ia rfl rfl (Int.natCast_nonneg _) (encT_get (i := ((a.funs.length - 1) : Nat)) hy) (encT_flat _) rfl ?_
                            refine O_h rfl rfl rfl rfl ?_
                            refine O_p rfl rfl rfl ?_
                            refine O_h rfl rfl rfl rfl ?_
                            refine O_p rfl rfl rfl ?_
                            refine O_ia rfl rfl (Int.natCast_nonneg _) (encT_get (i := ((a.funs.length - 1) : Nat)) hx) (encT_flat _) rfl ?_
                            refine O_h rfl rfl rfl rfl ?_
                            refine O_cv rfl rfl (sub1_c3 (n + 1) y x (subT k y x) v _ _ (ih (n + 1) y x (ha.funs hmy) (hb.funs hmx) (wa.funs hmy) (wb.funs hmx) (by omega) (by omega)) rfl) ?_
                            refine WO_nil (WL_nil ⟨rfl, ?_⟩)
                            refine WL_seq ?_
                            apply WLp
                            · (repeat (first | exact rzz | apply rcc rfl | apply rnn rfl))
                            refine WL_seq ?_
                            refine WL_reg ?_
                            refine O_h rfl rfl rfl rfl ?_
                            refine O_p rfl rfl rfl ?_
                            refine WO_nil ?_
                            refine WL_ret ?_
                            exact ⟨_, rfl, _, rfl, by rw [hr]⟩
              · skip
                simp at h46
                let v0 : Bool := true
                have hv0 : v0 = (if a.pair = 0 then true else (subT k (carT a) (carT b) && (if a.pair = 2 ∧ b.pair = 2 then true else subT k (cdrT a) (cdrT b)))) := by simp [v0, h46]
                refine WL_skip ?_
                refine WL_seq ?_
                apply WLp
                · (repeat (first | exact rzz | apply rcc rfl | apply rnn rfl))
                refine WL_seq ?_
                refine WL_seq ?_
                refine WL_reg ?_
                refine O_p rfl rfl rfl ?_
                refine O_h rfl rfl rfl rfl ?_
                refine O_p rfl rfl rfl ?_
                refine O_p rfl rfl rfl ?_
                apply O_or [_, _, _] rfl rfl (hT := ?hT58) (h := ?hR58)
                case hT58 =>
                  intro hb54
                  refine O_p rfl rfl rfl ?_
                  refine O_h rfl rfl rfl rfl ?_
                  refine O_p rfl rfl rfl ?_
                  exact WO_nil (WL_nil ⟨rfl, rfl, rfl⟩)
                case hR58 =>
                  intro vs hvs
                  obtain ⟨u55, u56, u57, rfl⟩ := len3 hvs
                  clear hvs; dsimp only [junk]
                  refine WO_nil ?_
                  refine WL_seq ?_
                  apply WLp
                  · (repeat (first | exact rzz | apply rcc rfl | apply rnn rfl))
                  try clear u55 u56 u57
                  refine WL_cond rfl (fun h58 => ?_) (fun h58 => ?_)
                  · skip
                    have hr : subT (k + 1) a b = v0 := by
                      simp at h58
                      rw [hS, if_pos h58, hv0]
                    refine WL_seq ?_
                    refine WL_reg ?_
                    refine O_h rfl rfl rfl rfl ?_
                    refine O_p rfl rfl rfl ?_
                    refine WO_nil ?_
                    refine WL_ret ?_
                    exact ⟨_, rfl, _, rfl, by rw [hr]⟩
                  · skip
                    simp at h58
                    rw [if_neg (by omega)] at hS
                    have hf1 : a.funs.length ≥ 1 ∨ a.fn = 2 := by
                      by_cases q : a.fn = 1
                      · exact .inl (fa.2.2.2.2.2.2.2.1 q).1
                      · right; omega
                    have e63 : a.fn ≠ 2 → IntKind.i64.wrap (((List.map encT a.funs).length : Int) - 1) = ((a.funs.length - 1 : Nat) : Int) := by
                      intro q; rw [List.length_map, kw_i64_id (by omega) (by omega)]; omega
                    refine WL_skip ?_
                    refine WL_seq ?_
                    apply WLp
                    · (repeat (first | exact rzz | apply rcc rfl | apply rnn rfl))
                    refine WL_seq ?_
                    refine WL_reg ?_
                    refine O_p rfl rfl rfl ?_
                    refine O_h rfl rfl rfl rfl ?_
                    refine O_h rfl rfl rfl rfl ?_
                    refine O_p rfl rfl rfl ?_
                    refine O_p rfl rfl rfl ?_
                    refine WO_nil ?_
                    refine WL_seq ?_
                    apply WLp
                    · (repeat (first | exact rzz | apply rcc rfl | apply rnn rfl))
                    refine WL_seq ?_
                    refine WL_seq ?_
                    refine WL_reg ?_
                    refine O_p rfl rfl rfl ?_
                    refine O_h rfl rfl rfl rfl ?_
                    refine O_p rfl rfl rfl ?_
                    refine O_p rfl rfl rfl ?_
                    apply O_or [_, _, _, _, _, _] rfl rfl (hT := ?hT74) (h := ?hR74)
                    case hT74 =>
                      intro hb67
                      refine O_p rfl rfl rfl ?_
                      refine O_h rfl rfl rfl rfl ?_
                      refine O_h rfl rfl rfl rfl ?_
                      refine O_p rfl rfl rfl ?_
                      refine O_p rfl rfl rfl ?_
                      refine O_p rfl rfl rfl ?_
                      exact WO_nil (WL_nil ⟨rfl, rfl, rfl⟩)
                    case hR74 =>
                      intro vs hvs
                      obtain ⟨u68, u69, u70, u71, u72, u73, rfl⟩ := len6 hvs
                      clear hvs; dsimp only [junk]
                      refine WO_nil ?_
                      refine WL_seq ?_
                      apply WLp
                      · (repeat (first | exact rzz | apply rcc rfl | apply rnn rfl))
                      try clear u68 u69 u70 u71 u72 u73
                      refine WL_cond rfl (fun h74 => ?_) (fun h74 => ?_)
                      · skip
                        have hr : subT (k + 1) a b = false := by
                          by_cases q : a.fn = 2
                          · rw [hS, if_pos (.inl q)]
                          · simp [q] at h74
                            have e63 := e63 q
                            rw [List.length_map] at e63
                            rw [e63, kw_i64_id (by omega) (by omega)] at h74
                            rw [hS, if_pos (.inr (by omega))]
                        refine WL_seq ?_
                        refine WL_reg ?_
                        refine O_p rfl rfl rfl ?_
                        refine WO_nil ?_
                        refine WL_ret ?_
                        exact ⟨_, rfl, _, rfl, by rw [hr]⟩
                      · skip
                        have hq2 : a.fn ≠ 2 := by intro q; simp [q] at h74
                        have e63 := e63 hq2
                        have hlen : b.funs.length = a.funs.length := by
                          simp [hq2] at h74
                          rw [List.length_map] at e63
                          rw [e63, kw_i64_id (by omega) (by omega)] at h74; omega
                        rw [if_neg (by omega)] at hS
                        rw [e63]
                        refine WL_skip ?_
                        refine WL_seq ?_
                        apply WLp
                        · (repeat (first | exact rzz | apply rcc rfl | apply rnn rfl))
                        refine WL_seq ?_
                        refine WL_seq ?_
                        refine WL_reg ?_
                        refine O_p rfl rfl rfl ?_
                        refine O_p rfl rfl rfl ?_
                        refine WO_nil ?_
                        refine WL_seq ?_
                        apply WLp
                        · (repeat (first | exact rzz | apply rcc rfl | apply rnn rfl))
                        refine WL_block ?_
                        apply WL_forv (hc := [.cells (cT a), .cells (cT b)]) (α := Nat × Bool) (fun s => [(76, .int .i64 (s.1 : Nat))]) (fun s => [.cells [.bool s.2]]) (fun s => s.1 ≤ a.funs.length - 1 ∧ s.2 = (v0 && (List.range s.1).all (fun i => subT k (b.funs.getD i zeroT) (a.funs.getD i zeroT)))) (fun s => a.funs.length - s.1) ((0, v0)) (he := ?he) (hh := ?hh) (hP := ?hP) (hk := ?hk) (round := ?round)
                        case he =>
                          (repeat (first | exact rzz | apply rcc rfl | apply rnn rfl))
                        case hh =>
                          rfl
                        case hP =>
                          exact ⟨by simp, by simp⟩
                        case hk =>
                          show a.funs.length - 0 < n + 2; omega
                        case round =>
                          rintro ⟨i, v⟩ ⟨hi, hs⟩
                          simp only at hi hs
                          dsimp only [List.cons_append, List.nil_append] at *
                          refine WL_seq ?_
                          refine WL_reg ?_
                          refine O_p rfl rfl rfl ?_
                          refine WO_nil ?_
                          refine WL_seq ?_
                          apply WLp
                          · (repeat (first | exact rzz | apply rcc rfl | apply rnn rfl))
                          refine WL_seq ?_
                          refine WL_cond rfl (fun h77 => ?_) (fun h77 => ?_)
                          · skip
                            simp at h77
                            obtain ⟨x, hx⟩ : ∃ x, (b.funs)[i]? = some x := ⟨_, List.getElem?_eq_getElem (by omega)⟩
                            have hmx := List.mem_of_getElem? hx
                            have hsx := szT_funs hmx
                            obtain ⟨y, hy⟩ : ∃ y, (a.funs)[i]? = some y := ⟨_, List.getElem?_eq_getElem (by omega)⟩
                            have hmy := List.mem_of_getElem? hy
                            have hsy := szT_funs hmy
                            refine WL_skip ?_
                            refine WL_seq ?_
                            apply WLp
                            · (repeat (first | exact rzz | apply rcc rfl | apply rnn rfl))
                            refine WL_seq ?_
                            refine WL_block ?_
                            refine WL_seq ?_
                            refine WL_reg ?_
                            refine O_p rfl rfl rfl ?_
                            refine O_p rfl rfl rfl ?_
                            refine WO_nil ?_
                            refine WL_seq ?_
                            apply WLp
                            · (repeat (first | exact rzz | apply rcc rfl | apply rnn rfl))
                            refine WL_drawS (ops := [_, _, _, _, _, _, _, _, _, _, _, _]) rfl rfl ?_
                            refine O_p rfl rfl rfl ?_
                            refine O_p rfl rfl rfl ?_
                            refine O_h rfl rfl rfl rfl ?_
                            refine O_p rfl rfl rfl ?_
                            refine O_ia rfl rfl (Int.natCast_nonneg _) (encT_get (i := (i : Nat)) hx) (encT_flat _) rfl ?_
                            refine O_h rfl rfl rfl rfl ?_
                            refine O_p rfl rfl rfl ?_
                            refine O_h rfl rfl rfl rfl ?_
                            refine O_p rfl rfl rfl ?_
                            refine O_ia rfl rfl (Int.natCast_nonneg _) (encT_get (i := (i : Nat)) hy) (encT_flat _) rfl ?_
                            refine O_h rfl rfl rfl rfl ?_
                            refine O_cv rfl rfl (sub1_c3 (n + 1) x y (subT k x y) v _ _ (ih (n + 1) x y (hb.funs hmx) (ha.funs hmy) (wb.funs hmx) (wa.funs hmy) (by omega) (by omega)) rfl) ?_
                            refine WO_nil (WL_nil ⟨rfl, ?_⟩)
                            refine WL_nil ?_
                            refine Blk_norm (?_ : WL _ _ _ _ _)
                            refine WL_seq ?_
                            apply WLp
                            · (repeat (first | exact rzz | apply rcc rfl | apply rnn rfl))
                            refine WL_reg ?_
                            refine O_p rfl rfl rfl ?_
                            refine O_p rfl rfl rfl ?_
                            refine WO_nil ?_
                            refine WL_nil ?_
                            refine RndV_norm ((i + 1, v && subT k x y)) (by refine ⟨by simp only; omega, ?_⟩; simp only; rw [range_all_succ, hs, getD_of hx, getD_of hy, Bool.and_assoc]) (by show _ < _; omega) ?_ rfl
                            · rw [wrap_succ (by omega)]; (repeat (first | exact rzz | apply rcc rfl | apply rnn rfl))
                          · skip
                            simp at h77
                            obtain rfl : i = a.funs.length - 1 := by omega
                            obtain ⟨x, hx⟩ : ∃ x, (b.funs)[(a.funs.length - 1)]? = some x := ⟨_, List.getElem?_eq_getElem (by omega)⟩
                            have hmx := List.mem_of_getElem? hx
                            have hsx := szT_funs hmx
                            obtain ⟨y, hy⟩ : ∃ y, (a.funs)[(a.funs.length - 1)]? = some y := ⟨_, List.getElem?_eq_getElem (by omega)⟩
                            have hmy := List.mem_of_getElem? hy
                            have hsy := szT_funs hmy
                            have hr : subT (k + 1) a b = (v && subT k y x) := by
                              rw [hS, hs, hv0, getD_of hx, getD_of hy]
                            refine WL_exit ?_
                            refine RndV_exit ?_
                            refine Blk_exit (?_ : WL _ _ _ _ _)
                            refine WL_seq ?_
                            apply WLp
                            · (repeat (first | exact rzz | apply rcc rfl | apply rnn rfl))
                            refine WL_seq ?_
                            refine WL_drawS (ops := [_, _, _, _, _, _, _, _, _, _, _, _]) rfl rfl ?_
                            refine O_p rfl rfl rfl ?_
                            refine O_p rfl rfl rfl ?_
                            refine O_h rfl rfl rfl rfl ?_
                            refine O_p rfl rfl rfl ?_
                            refine O_ia rfl rfl (Int.natCast_nonneg _) (encT_get (i := ((a.funs.length - 1) : Nat)) hy) (encT_flat _) rfl ?_
                            refine O_h rfl rfl rfl rfl ?_
                            refine O_p rfl rfl rfl ?_
                            refine O_h rfl rfl rfl rfl ?_
                            refine O_p rfl rfl rfl ?_
                            refine O_ia rfl rfl (Int.natCast_nonneg _) (encT_get (i := ((a.funs.length - 1) : Nat)) hx) (encT_flat _) rfl ?_
                            refine O_h rfl rfl rfl rfl ?_
                            refine O_cv rfl rfl (sub1_c3 (n + 1) y x (subT k y x) v _ _ (ih (n + 1) y x (ha.funs hmy) (hb.funs hmx) (wa.funs hmy) (wb.funs hmx) (by omega) (by omega)) rfl) ?_
                            refine WO_nil (WL_nil ⟨rfl, ?_⟩)
                            refine WL_seq ?_
                            apply WLp
                            · (repeat (first | exact rzz | apply rcc rfl | apply rnn rfl))
                            refine WL_seq ?_
                            refine WL_reg ?_
                            refine O_h rfl rfl rfl rfl ?_
                            refine O_p rfl rfl rfl ?_
                            refine WO_nil ?_
                            refine WL_ret ?_
                            exact ⟨_, rfl, _, rfl, by rw [hr]⟩
def outB (f p g : Int) (gs : List Ty) (x : AVal) : ABlock := .cells [.bool false, .int .i64 f, .int .i64 p, x, .int .i64 g, .lst (gs.map encT) false]
def zeroB : ABlock := .cells [.bool false, .int .i64 0, .int .i64 0, .lst [] true, .int .i64 0, .lst [] true]
theorem join1_c (m : Nat) (a b x y u w r : Ty) (f p g : Int) (gs : List Ty) (h : pcall (tabOf tabL) m 31 [vT x, vT y] = some (.ok (vT r))) :
    callA ⟨callF (tabOf tabL) (m + 1), m + 1⟩ false 62 [vT x, vT y, .ptr 3 0] [.cells (cT a), .cells (cT b), zeroB, outB f p g gs (.lst [] true), .cells (cT a), .cells (cT b), .cells (cT u), .cells (cT w)] =
      some (.ok (.tup []), [.cells (cT a), .cells (cT b), zeroB, outB f p g gs (.gl 10 1), .cells (cT a), .cells (cT b), .cells (cT u), .cells (cT w), .cells (cT x), .cells (cT y), .grow 6 [vT r] none]) := by
  refine callA_nr (H1 := [.cells (cT a), .cells (cT b), zeroB, outB f p g gs (.gl 10 1), .cells (cT a), .cells (cT b), .cells (cT u), .cells (cT w), .cells (cT x), .cells (cT y), .grow 6 [vT r] none]) rfl ?_ rfl
  refine callF_fin t62 ?_
  refine WL_seq ?_
  refine WL_reg ?_
  refine O_n rfl rfl rfl ?_
  refine O_n rfl rfl rfl ?_
  refine WO_nil ?_
  refine WL_seq ?_
  apply WLp
  · (repeat (first | exact rzz | apply rcc rfl | apply rnn rfl))
  refine WL_draw ?_
  refine D_p rfl rfl rfl ?_
  refine D_h (d := some 6) rfl rfl rfl rfl rfl ?_
  refine D_h (d := some 7) rfl rfl rfl rfl rfl ?_
  refine D_h (d := some 8) rfl rfl rfl rfl rfl ?_
  refine D_c 31 rfl rfl rfl (callA_of rfl h) ?_
  refine D_h (d := some 10) rfl rfl rfl rfl rfl ?_
  refine D_h (d := some 11) rfl rfl rfl rfl rfl ?_
  refine D_o (d := some 12) rfl rfl rfl rfl rfl ?_
  refine D_h (d := some 13) rfl rfl rfl rfl rfl ?_
  refine D_h (d := none) rfl rfl rfl rfl rfl ?_
  refine D_p rfl rfl rfl ?_
  refine D_h (d := none) rfl rfl rfl rfl rfl ?_
  refine WD_nil ⟨by first | rfl | (simp [okFs, okEarlier, disj, notIn, noneIn, sameOn, sameB_self, glsL, glsV, partsGls, AOpd.ev, zeroB, outB] <;> (repeat' apply And.intro) <;> rfl), ?_⟩
  refine WL_nil ?_
  exact ⟨_, rfl, rfl, rfl⟩
theorem join2_c (m : Nat) (a b x y u w r r2 z1 z2 : Ty) (f p g : Int) (gs : List Ty) (h : pcall (tabOf tabL) m 31 [vT x, vT y] = some (.ok (vT r2))) :
    callA ⟨callF (tabOf tabL) (m + 1), m + 1⟩ false 62 [vT x, vT y, .ptr 3 0] [.cells (cT a), .cells (cT b), zeroB, outB f p g gs (.gl 10 1), .cells (cT a), .cells (cT b), .cells (cT u), .cells (cT w), .cells (cT z1), .cells (cT z2), .grow 6 [vT r] none] =
      some (.ok (.tup []), [.cells (cT a), .cells (cT b), zeroB, outB f p g gs (.gl 10 2), .cells (cT a), .cells (cT b), .cells (cT u), .cells (cT w), .cells (cT z1), .cells (cT z2), .grow 6 [vT r, vT r2] none]) := by
  refine callA_nr (H1 := [.cells (cT a), .cells (cT b), zeroB, outB f p g gs (.gl 10 2), .cells (cT a), .cells (cT b), .cells (cT u), .cells (cT w), .cells (cT z1), .cells (cT z2), .grow 6 [vT r, vT r2] none, .cells (cT x), .cells (cT y), .hole]) rfl ?_ rfl
  refine callF_fin t62 ?_
  refine WL_seq ?_
  refine WL_reg ?_
  refine O_n rfl rfl rfl ?_
  refine O_n rfl rfl rfl ?_
  refine WO_nil ?_
  refine WL_seq ?_
  apply WLp
  · (repeat (first | exact rzz | apply rcc rfl | apply rnn rfl))
  refine WL_draw ?_
  refine D_p rfl rfl rfl ?_
  refine D_h (d := some 6) rfl rfl rfl rfl rfl ?_
  refine D_h (d := some 7) rfl rfl rfl rfl rfl ?_
  refine D_h (d := some 8) rfl rfl rfl rfl rfl ?_
  refine D_c 31 rfl rfl rfl (callA_of rfl h) ?_
  refine D_h (d := some 10) rfl rfl rfl rfl rfl ?_
  refine D_h (d := some 11) rfl rfl rfl rfl rfl ?_
  refine D_o (d := some 12) rfl rfl rfl rfl rfl ?_
  refine D_h (d := some 13) rfl rfl rfl rfl rfl ?_
  refine D_h (d := none) rfl rfl rfl rfl rfl ?_
  refine D_p rfl rfl rfl ?_
  refine D_h (d := none) rfl rfl rfl rfl rfl ?_
  refine WD_nil ⟨by first | rfl | (simp [okFs, okEarlier, disj, notIn, noneIn, sameOn, sameB_self, glsL, glsV, partsGls, AOpd.ev, zeroB, outB] <;> (repeat' apply And.intro) <;> rfl), ?_⟩
  refine WL_nil ?_
  exact ⟨_, rfl, rfl, rfl⟩
theorem both_join1 (m : Nat) (a b r : Ty) (f p g : Int) (gs : List Ty) (ha : Rt a) (hb : Rt b) (hp : a.pair = 2 ∧ b.pair = 2) (h1 : pcall (tabOf tabL) m 31 [vT (carT a), vT (carT b)] = some (.ok (vT r))) (hm : 1 ≤ m) :
    callA ⟨callF (tabOf tabL) (m + 2), m + 2⟩ false 61 [vT a, vT b, .fn 62 [.ptr 3 0]] [.cells (cT a), .cells (cT b), zeroB, outB f p g gs (.lst [] true)] =
      some (.ok (.tup []), [.cells (cT a), .cells (cT b), zeroB, outB f p g gs (.gl 10 1), .cells (cT a), .cells (cT b), .cells (cT (carT a)), .cells (cT (carT b)), .cells (cT (carT a)), .cells (cT (carT b)), .grow 6 [vT r] none]) := by
  obtain ⟨m, rfl⟩ : ∃ q, m = q + 1 := ⟨m - 1, by omega⟩
  refine callA_nr (H1 := [.cells (cT a), .cells (cT b), zeroB, outB f p g gs (.gl 10 1), .cells (cT a), .cells (cT b), .cells (cT (carT a)), .cells (cT (carT b)), .cells (cT (carT a)), .cells (cT (carT b)), .grow 6 [vT r] none]) rfl ?_ rfl
  refine callF_fin t61 ?_
  refine WL_seq ?_
  refine WL_reg ?_
  refine O_n rfl rfl rfl ?_
  refine O_n rfl rfl rfl ?_
  refine WO_nil ?_
  refine WL_seq ?_
  apply WLp
  · (repeat (first | exact rzz | apply rcc rfl | apply rnn rfl))
  refine WL_seq ?_
  refine WL_reg ?_
  refine O_h rfl rfl rfl rfl ?_
  refine O_c 78 rfl rfl (callA_of rfl (car_c (m + 1) a ha)) ?_
  refine O_p rfl rfl rfl ?_
  refine O_p rfl rfl rfl ?_
  refine O_p rfl rfl rfl ?_
  refine O_n rfl rfl rfl ?_
  refine O_hn rfl rfl rfl rfl ?_
  refine O_p rfl rfl rfl ?_
  refine WO_nil ?_
  refine WL_seq ?_
  apply WLp
  · (repeat (first | exact rzz | apply rcc rfl | apply rnn rfl))
  refine WL_seq ?_
  refine WL_reg ?_
  refine O_h rfl rfl rfl rfl ?_
  refine O_c 78 rfl rfl (callA_of rfl (car_c (m + 1) b hb)) ?_
  refine O_p rfl rfl rfl ?_
  refine O_p rfl rfl rfl ?_
  refine O_p rfl rfl rfl ?_
  refine O_n rfl rfl rfl ?_
  refine O_hn rfl rfl rfl rfl ?_
  refine O_p rfl rfl rfl ?_
  refine WO_nil ?_
  refine WL_seq ?_
  apply WLp
  · (repeat (first | exact rzz | apply rcc rfl | apply rnn rfl))
  refine WL_seq ?_
  refine WL_reg ?_
  refine O_p rfl rfl rfl ?_
  refine O_h rfl rfl rfl rfl ?_
  refine O_h rfl rfl rfl rfl ?_
  refine O_cv rfl rfl (join1_c (m + 1) a b (carT a) (carT b) (carT a) (carT b) r f p g gs h1) ?_
  refine WO_nil ?_
  refine WL_seq ?_
  apply WLp
  · (repeat (first | exact rzz | apply rcc rfl | apply rnn rfl))
  refine WL_seq ?_
  refine WL_seq ?_
  refine WL_reg ?_
  refine O_p rfl rfl rfl ?_
  refine O_h rfl rfl rfl rfl ?_
  refine O_p rfl rfl rfl ?_
  refine O_p rfl rfl rfl ?_
  apply O_and [_, _, _] rfl rfl (hT := ?hT31) (h := ?hR31)
  case hT31 =>
    intro hb27
    refine O_p rfl rfl rfl ?_
    refine O_h rfl rfl rfl rfl ?_
    refine O_p rfl rfl rfl ?_
    exact WO_nil (WL_nil ⟨rfl, rfl, rfl⟩)
  case hR31 =>
    intro vs hvs
    obtain ⟨u28, u29, u30, rfl⟩ := len3 hvs
    clear hvs; dsimp only [junk]
    refine WO_nil ?_
    refine WL_seq ?_
    apply WLp
    · (repeat (first | exact rzz | apply rcc rfl | apply rnn rfl))
    try clear u28 u29 u30
    refine WL_cond rfl (fun h31 => ?_) (fun h31 => ?_)
    · skip
      refine WL_ret ?_
      exact ⟨_, rfl, rfl, rfl⟩
    · skip
      simp [hp] at h31
theorem both_join2 (m : Nat) (a b r r2 : Ty) (f p g : Int) (gs : List Ty) (ha : Rt a) (hb : Rt b) (hp : ¬(a.pair = 2 ∧ b.pair = 2)) (h1 : pcall (tabOf tabL) m 31 [vT (carT a), vT (carT b)] = some (.ok (vT r)))
    (h2 : pcall (tabOf tabL) m 31 [vT (cdrT a), vT (cdrT b)] = some (.ok (vT r2))) (hm : 1 ≤ m) :
    callA ⟨callF (tabOf tabL) (m + 2), m + 2⟩ false 61 [vT a, vT b, .fn 62 [.ptr 3 0]] [.cells (cT a), .cells (cT b), zeroB, outB f p g gs (.lst [] true)] =
      some (.ok (.tup []), [.cells (cT a), .cells (cT b), zeroB, outB f p g gs (.gl 10 2), .cells (cT a), .cells (cT b), .cells (cT (cdrT a)), .cells (cT (cdrT b)), .cells (cT (carT a)), .cells (cT (carT b)), .grow 6 [vT r, vT r2] none]) := by
  obtain ⟨m, rfl⟩ : ∃ q, m = q + 1 := ⟨m - 1, by omega⟩
  refine callA_nr (H1 := [.cells (cT a), .cells (cT b), zeroB, outB f p g gs (.gl 10 2), .cells (cT a), .cells (cT b), .cells (cT (cdrT a)), .cells (cT (cdrT b)), .cells (cT (carT a)), .cells (cT (carT b)), .grow 6 [vT r, vT r2] none]) rfl ?_ rfl
  refine callF_fin t61 ?_
  refine WL_seq ?_
  refine WL_reg ?_
  refine O_n rfl rfl rfl ?_
  refine O_n rfl rfl rfl ?_
  refine WO_nil ?_
  refine WL_seq ?_
  apply WLp
  · (repeat (first | exact rzz | apply rcc rfl | apply rnn rfl))
  refine WL_seq ?_
  refine WL_reg ?_
  refine O_h rfl rfl rfl rfl ?_
  refine O_c 78 rfl rfl (callA_of rfl (car_c (m + 1) a ha)) ?_
  refine O_p rfl rfl rfl ?_
  refine O_p rfl rfl rfl ?_
  refine O_p rfl rfl rfl ?_
  refine O_n rfl rfl rfl ?_
  refine O_hn rfl rfl rfl rfl ?_
  refine O_p rfl rfl rfl ?_
  refine WO_nil ?_
  refine WL_seq ?_
  apply WLp
  · (repeat (first | exact rzz | apply rcc rfl | apply rnn rfl))
  refine WL_seq ?_
  refine WL_reg ?_
  refine O_h rfl rfl rfl rfl ?_
  refine O_c 78 rfl rfl (callA_of rfl (car_c (m + 1) b hb)) ?_
  refine O_p rfl rfl rfl ?_
  refine O_p rfl rfl rfl ?_
  refine O_p rfl rfl rfl ?_
  refine O_n rfl rfl rfl ?_
  refine O_hn rfl rfl rfl rfl ?_
  refine O_p rfl rfl rfl ?_
  refine WO_nil ?_
  refine WL_seq ?_
  apply WLp
  · (repeat (first | exact rzz | apply rcc rfl | apply rnn rfl))
  refine WL_seq ?_
  refine WL_reg ?_
  refine O_p rfl rfl rfl ?_
  refine O_h rfl rfl rfl rfl ?_
  refine O_h rfl rfl rfl rfl ?_
  refine O_cv rfl rfl (join1_c (m + 1) a b (carT a) (carT b) (carT a) (carT b) r f p g gs h1) ?_
  refine WO_nil ?_
  refine WL_seq ?_
  apply WLp
  · (repeat (first | exact rzz | apply rcc rfl | apply rnn rfl))
  refine WL_seq ?_
  refine WL_seq ?_
  refine WL_reg ?_
  refine O_p rfl rfl rfl ?_
  refine O_h rfl rfl rfl rfl ?_
  refine O_p rfl rfl rfl ?_
  refine O_p rfl rfl rfl ?_
  apply O_and [_, _, _] rfl rfl (hT := ?hT31) (h := ?hR31)
  case hT31 =>
    intro hb27
    refine O_p rfl rfl rfl ?_
    refine O_h rfl rfl rfl rfl ?_
    refine O_p rfl rfl rfl ?_
    exact WO_nil (WL_nil ⟨rfl, rfl, rfl⟩)
  case hR31 =>
    intro vs hvs
    obtain ⟨u28, u29, u30, rfl⟩ := len3 hvs
    clear hvs; dsimp only [junk]
    refine WO_nil ?_
    refine WL_seq ?_
    apply WLp
    · (repeat (first | exact rzz | apply rcc rfl | apply rnn rfl))
    try clear u28 u29 u30
    refine WL_cond rfl (fun h31 => ?_) (fun h31 => ?_)
    · skip
      simp at h31; exact absurd h31 hp
    · skip
      refine WL_skip ?_
      refine WL_seq ?_
      apply WLp
      · (repeat (first | exact rzz | apply rcc rfl | apply rnn rfl))
      refine WL_seq ?_
      refine WL_reg ?_
      refine O_h rfl rfl rfl rfl ?_
      refine O_c 79 rfl rfl (callA_of rfl (cdr_c m a ha)) ?_
      refine O_p rfl rfl rfl ?_
      refine O_p rfl rfl rfl ?_
      refine O_p rfl rfl rfl ?_
      refine O_hn rfl rfl rfl rfl ?_
      refine WO_nil ?_
      refine WL_seq ?_
      apply WLp
      · (repeat (first | exact rzz | apply rcc rfl | apply rnn rfl))
      refine WL_seq ?_
      refine WL_reg ?_
      refine O_h rfl rfl rfl rfl ?_
      refine O_c 79 rfl rfl (callA_of rfl (cdr_c m b hb)) ?_
      refine O_p rfl rfl rfl ?_
      refine O_p rfl rfl rfl ?_
      refine O_p rfl rfl rfl ?_
      refine O_hn rfl rfl rfl rfl ?_
      refine WO_nil ?_
      refine WL_seq ?_
      apply WLp
      · (repeat (first | exact rzz | apply rcc rfl | apply rnn rfl))
      refine WL_reg ?_
      refine O_p rfl rfl rfl ?_
      refine O_h rfl rfl rfl rfl ?_
      refine O_h rfl rfl rfl rfl ?_
      refine O_cv rfl rfl (join2_c (m + 1) a b (cdrT a) (cdrT b) (cdrT a) (cdrT b) r r2 (carT a) (carT b) f p g gs h2) ?_
      refine WO_nil ?_
      refine WL_nil ?_
      exact ⟨_, rfl, rfl, rfl⟩
end Go.Ev.Seat.TyS
