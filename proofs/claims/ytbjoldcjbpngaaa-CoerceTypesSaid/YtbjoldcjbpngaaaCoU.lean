/-
  Coercions of types: who is blamed.
-/
import Derived.Test.YtbjoldcjbpngaaaCoT
set_option linter.unusedVariables false
set_option linter.unusedSimpArgs false
namespace Go.Ev
open Go

def own1 (l n : Int) : Bool := decide (n = 0) || decide (n = l)
mutual
/-- Blames one just a party? -/
def blC : Co → Int → Bool
  | .mk f p pl ps g gl gs, l => six (fun i => own1 l (f i)) && own1 l pl && own1 l gl && blCs ps l && blCs gs l
def blCs : List Co → Int → Bool
  | [], _ => true
  | x :: xs, l => blC x l && blCs xs l
end
theorem blC_eq (c : Co) (l : Int) : blC c l = (six (fun i => own1 l (c.flat i)) && own1 l c.plab && own1 l c.flab && blCs c.pairs l && blCs c.funs l) := by cases c; rfl
theorem blCs_all {l : Int} : ∀ {cs : List Co}, (∀ x, x ∈ cs → blC x l = true) → blCs cs l = true
  | [], _ => rfl
  | x :: xs, h => by simp only [blCs, h x (by simp), blCs_all (cs := xs) fun y hy => h y (by simp [hy]), Bool.and_self]
theorem own1_l (l : Int) : own1 l l = true := by simp [own1]
theorem own1_0 (l : Int) : own1 l 0 = true := by simp [own1]
theorem pairG_own (up : Bool) (l p : Int) (qs : List Co) : own1 l (pairG up l p qs).2.1 = true := by
  unfold pairG
  split
  · split <;> simp [own1]
  · split
    · split <;> simp [own1]
    · split
      · simp [own1]
      · split <;> simp [own1]
theorem funG_own (up : Bool) (l p : Int) (qs : List Co) : own1 l (funG up l p qs).2.1 = true := by
  unfold funG
  split
  · split <;> simp [own1]
  · split
    · split <;> simp [own1]
    · simp [own1]
theorem goC_bl (l : Int) : ∀ (n : Nat) (t : Ty) (up : Bool), szT t ≤ n → blC (goC up l t) l = true
  | 0, t, _, h => by have := szT_pos t; omega
  | n + 1, t, up, h => by
    rw [goC_eq, goK]
    split
    · simp [zeroC, blC, six, blCs, own1]
    · rw [blC_eq]
      simp only [Bool.and_eq_true]
      refine ⟨⟨⟨⟨six_all fun i _ => ?_, pairG_own up l t.pair _⟩, funG_own up l t.fn _⟩, blCs_all fun c hc => ?_⟩, blCs_all fun c hc => ?_⟩
      · show own1 l (flatG up l t.flat i) = true
        unfold flatG; split
        · exact own1_l l
        · exact own1_0 l
      · have hc := pairG_mem (show c ∈ (pairG up l t.pair (goCs up l t.pairs)).2.2 from hc)
        rw [goCs_map] at hc
        obtain ⟨x, hx, rfl⟩ := List.mem_map.1 hc
        exact goC_bl l n x up (by have := szT_pairs hx; omega)
      · have hc := funG_mem (show c ∈ (funG up l t.fn (goFs up l t.funs)).2.2 from hc)
        obtain ⟨x, hx, u, rfl⟩ := goFs_mem up l hc
        exact goC_bl l n x u (by have := szT_funs hx; omega)
theorem pairG_sz (up : Bool) (l p : Int) (qs : List Co) : szCs (pairG up l p qs).2.2 ≤ szCs qs := by
  unfold pairG
  split
  · split <;> simp [szCs]
  · split
    · split <;> simp [szCs]
    · split
      · simp
      · split <;> simp [szCs]
theorem funG_sz (up : Bool) (l p : Int) (qs : List Co) : szCs (funG up l p qs).2.2 ≤ szCs qs := by
  unfold funG
  split
  · split <;> simp [szCs]
  · split
    · split <;> simp [szCs]
    · simp [szCs]
mutual
theorem goC_sz : ∀ (up : Bool) (l : Int) (t : Ty), szC (goC up l t) ≤ szT t
  | up, l, .mk a f p ps g gs => by
    have h1 := goCs_sz up l ps
    have h2 := goFs_sz up l gs
    have h3 := pairG_sz up l p (goCs up l ps)
    have h4 := funG_sz up l g (goFs up l gs)
    simp only [goC, goK, szT]
    split
    · simp [zeroC, szC, szCs]; omega
    · simp only [szC]; omega
theorem goCs_sz : ∀ (up : Bool) (l : Int) (ts : List Ty), szCs (goCs up l ts) ≤ szTs ts
  | _, _, [] => by simp [goCs, szCs]
  | up, l, x :: xs => by
    have h1 := goC_sz up l x
    have h2 := goCs_sz up l xs
    simp only [goCs, szCs, szTs]; omega
theorem goFs_sz : ∀ (up : Bool) (l : Int) (ts : List Ty), szCs (goFs up l ts) ≤ szTs ts
  | _, _, [] => by simp [goFs, szCs]
  | up, l, x :: xs => by
    have h1 := goC_sz up l x
    have h1' := goC_sz (!up) l x
    have h2 := goFs_sz up l xs
    simp only [goFs, szCs, szTs]; split <;> omega
end
theorem pairG_not1 (l p : Int) (qs : List Co) : (pairG false l p qs).1 ≠ 1 := by
  unfold pairG
  split
  · simp
  · split
    · split <;> simp
    · simp; split <;> simp
theorem funG_not1 (l p : Int) (qs : List Co) : (funG false l p qs).1 ≠ 1 := by
  unfold funG
  split
  · simp
  · split
    · split <;> simp
    · simp
theorem first_from (l : Int) (t : Ty) (tag : Int) : firstC (goC false l t) tag = 0 := by
  rw [goC_eq]
  simp only [goK, Bool.false_and, Bool.false_eq_true, if_false]
  unfold firstC
  rw [if_neg (fun h => pairG_not1 _ _ _ h.2), if_neg (fun h => funG_not1 _ _ _ h.2)]
  unfold flatAt
  simp only [Co.flat, flatG, Bool.false_and, Bool.false_eq_true, if_false]
  repeat' split
  all_goals rfl
def tags : List Int := [1, 2, 4, 8, 16, 32, 64, 128]
theorem first_bad (c : Co) {tag : Int} (h : tag ≠ 1 ∧ tag ≠ 2 ∧ tag ≠ 4 ∧ tag ≠ 8 ∧ tag ≠ 16 ∧ tag ≠ 32 ∧ tag ≠ 64 ∧ tag ≠ 128) : firstC c tag = 0 := by
  obtain ⟨h1, h2, h3, h4, h5, h6, h7, h8⟩ := h
  unfold firstC flatAt
  rw [if_neg (fun q => h7 q.1), if_neg (fun q => h8 q.1), if_neg h1, if_neg h2, if_neg h3, if_neg h4, if_neg h5, if_neg h6]
theorem first_zero (tag : Int) : firstC zeroC tag = 0 := by
  unfold firstC
  rw [if_neg (fun h => by have := h.2; simp [zeroC, Co.pair] at this), if_neg (fun h => by have := h.2; simp [zeroC, Co.fn] at this)]
  unfold flatAt
  simp only [zeroC, Co.flat]
  repeat' split
  all_goals rfl
/-- Has a type a tag? -/
def hasTag (t : Ty) (tag : Int) : Bool := t.all || (decide (tag < 64) && !decide (IntKind.i64.wrap (((BitVec.ofInt IntKind.i64.bits t.flat &&& BitVec.ofInt IntKind.i64.bits tag).toNat : Nat) : Int) = 0)) || (decide (tag = 64) && !decide (t.pair = 0)) || (decide (tag = 128) && !decide (t.fn = 0))
theorem first_flat {t : Ty} (ht : okT t = true) (ha : t.all = false) {l : Int} (hl : 1 ≤ l) {i : Nat} (hi : i < 6) : decide (firstC (goC true l t) (2 ^ i) = 0) = hasTag t (2 ^ i) := by
  have hf := okT_facts ht
  rw [firstC_pow _ hi, goC_eq]
  simp only [goK, ha, Bool.and_false, Bool.false_eq_true, if_false, Co.flat, flatG, Bool.true_and]
  have h2 := two_pow_lt hi
  unfold hasTag
  rw [ha, and_bit0 hf.1.1 hf.1.2 hi, decide_eq_true (show (2 : Int) ^ i < 64 by omega), decide_eq_false (show ¬ (2 : Int) ^ i = 64 by omega), decide_eq_false (show ¬ (2 : Int) ^ i = 128 by omega)]
  cases bit0 t.flat i <;> simp <;> omega
theorem first_to {t : Ty} (ht : okT t = true) {l : Int} (hl : 1 ≤ l) {tag : Int} (h : tag = 1 ∨ tag = 2 ∨ tag = 4 ∨ tag = 8 ∨ tag = 16 ∨ tag = 32 ∨ tag = 64 ∨ tag = 128) : decide (firstC (goC true l t) tag = 0) = hasTag t tag := by
  have hf := okT_facts ht
  cases ha : t.all with
  | true =>
    have : goC true l t = zeroC := by rw [goC_eq]; simp [goK, ha]
    rw [this, first_zero]; simp [hasTag, ha]
  | false =>
    have hk : goC true l t = .mk (flatG true l t.flat) (pairG true l t.pair (goCs true l t.pairs)).1 (pairG true l t.pair (goCs true l t.pairs)).2.1 (pairG true l t.pair (goCs true l t.pairs)).2.2 (funG true l t.fn (goFs true l t.funs)).1 (funG true l t.fn (goFs true l t.funs)).2.1 (funG true l t.fn (goFs true l t.funs)).2.2 := by
      rw [goC_eq]; simp [goK, ha]
    rcases h with rfl | rfl | rfl | rfl | rfl | rfl | rfl | rfl
    · exact first_flat ht ha hl (i := 0) (by omega)
    · exact first_flat ht ha hl (i := 1) (by omega)
    · exact first_flat ht ha hl (i := 2) (by omega)
    · exact first_flat ht ha hl (i := 3) (by omega)
    · exact first_flat ht ha hl (i := 4) (by omega)
    · exact first_flat ht ha hl (i := 5) (by omega)
    · rw [hk]
      have e : firstC (.mk (flatG true l t.flat) (pairG true l t.pair (goCs true l t.pairs)).1 (pairG true l t.pair (goCs true l t.pairs)).2.1 (pairG true l t.pair (goCs true l t.pairs)).2.2 (funG true l t.fn (goFs true l t.funs)).1 (funG true l t.fn (goFs true l t.funs)).2.1 (funG true l t.fn (goFs true l t.funs)).2.2) 64 = if (pairG true l t.pair (goCs true l t.pairs)).1 = 1 then (pairG true l t.pair (goCs true l t.pairs)).2.1 else 0 := by
        unfold firstC; simp [Co.pair, Co.plab, flatAt]
      rw [e]
      by_cases h0 : t.pair = 0
      · simp [pairG, h0, hasTag, ha]; omega
      · have : (pairG true l t.pair (goCs true l t.pairs)).1 ≠ 1 := by
          unfold pairG; rw [if_neg h0]; split
          · split <;> simp
          · simp
        rw [if_neg this]; simp [hasTag, ha, h0]
    · rw [hk]
      have e : firstC (.mk (flatG true l t.flat) (pairG true l t.pair (goCs true l t.pairs)).1 (pairG true l t.pair (goCs true l t.pairs)).2.1 (pairG true l t.pair (goCs true l t.pairs)).2.2 (funG true l t.fn (goFs true l t.funs)).1 (funG true l t.fn (goFs true l t.funs)).2.1 (funG true l t.fn (goFs true l t.funs)).2.2) 128 = if (funG true l t.fn (goFs true l t.funs)).1 = 1 then (funG true l t.fn (goFs true l t.funs)).2.1 else 0 := by
        unfold firstC; simp [Co.fn, Co.flab, flatAt]
      rw [e]
      by_cases h0 : t.fn = 0
      · simp [funG, h0, hasTag, ha]; omega
      · have : (funG true l t.fn (goFs true l t.funs)).1 ≠ 1 := by
          unfold funG; rw [if_neg h0]; split
          · split <;> simp
          · simp
        rw [if_neg this]; simp [hasTag, ha, h0]
end Go.Ev
