/-
  Each type is of itself; what is of what is of one is of that; both are of their join.
-/
import Derived.Test.YtpidcekngfnfjaaTyB
set_option linter.unusedVariables false
set_option linter.unusedSimpArgs false
namespace Go.Ev
open Go

theorem getD_mem {l : List Ty} {i : Nat} (h : i < l.length) : l.getD i zeroT ∈ l := by
  simp [List.getD, List.getElem?_eq_getElem h]

theorem all_congr {n : Nat} {p q : Nat → Bool} (h : ∀ i, i < n → p i = q i) : (List.range n).all p = (List.range n).all q := by
  rw [Bool.eq_iff_iff, List.all_eq_true, List.all_eq_true]
  constructor
  · intro h1 i hi; rw [← h i (List.mem_range.1 hi)]; exact h1 i hi
  · intro h1 i hi; rw [h i (List.mem_range.1 hi)]; exact h1 i hi

theorem fn_facts {t : Ty} (h : Rt t) : t.fn = 0 ∨ t.fn = 2 ∨ (t.fn = 1 ∧ 1 ≤ t.funs.length) := by
  have f := okT_facts h.ok
  by_cases q : t.fn = 1
  · exact .inr (.inr ⟨q, (f.2.2.2.2.2.2.2.1 q).1⟩)
  · omega

theorem subT_step : ∀ (k : Nat) (a b : Ty), Rt a → Rt b → szT a + szT b ≤ k → subT (k + 1) a b = subT k a b
  | 0, a, b, _, _, h => by have := szT_pos a; omega
  | k + 1, a, b, ha, hb, h => by
    have ih := subT_step k
    cases hB : b.all with
    | true => simp [subT, hB]
    | false =>
      cases hA : a.all with
      | true => simp [subT, hA, hB]
      | false =>
        rw [subT_conj (k + 1) a b hB hA, subT_conj k a b hB hA]
        congr 1
        · congr 1
          by_cases hp : a.pair = 0
          · simp [hp]
          · by_cases hq : b.pair = 0
            · simp [hp, hq]
            · have c1 := car_facts ha hA hp
              have c2 := car_facts hb hB hq
              have d1 := cdr_facts ha hA hp
              have d2 := cdr_facts hb hB hq
              rw [ih _ _ c1.2.1 c2.2.1 (by omega)]
              by_cases hl : a.pair = 2 ∧ b.pair = 2
              · simp [hl]
              · have fa := (okT_facts ha.ok).2.1
                have fb := (okT_facts hb.ok).2.1
                rw [ih _ _ d1.2.2 d2.2.2 (by
                  rcases (show a.pair = 1 ∨ a.pair = 2 by omega) with q | q <;> rcases (show b.pair = 1 ∨ b.pair = 2 by omega) with r | r
                  · have := (d1.1 q).2; have := (d2.1 r).2; omega
                  · have := (d1.1 q).2; have := (d2.2.1 r).2; omega
                  · have := (d1.2.1 q).2; have := (d2.1 r).2; omega
                  · exact absurd ⟨q, r⟩ hl)]
        · by_cases hf0 : a.fn = 0
          · simp [hf0]
          congr 1
          congr 1
          congr 1
          by_cases hl : b.funs.length = a.funs.length
          · rcases fn_facts ha with q | q | ⟨_, q⟩
            · exact absurd q hf0
            · simp [q]
            · have key : ∀ i, i < a.funs.length → (a.funs.getD i zeroT ∈ a.funs ∧ szT (a.funs.getD i zeroT) < szT a) ∧ (b.funs.getD i zeroT ∈ b.funs ∧ szT (b.funs.getD i zeroT) < szT b) := by
                intro i hi
                have m1 := getD_mem hi
                have m2 := getD_mem (l := b.funs) (i := i) (by omega)
                exact ⟨⟨m1, szT_funs m1⟩, ⟨m2, szT_funs m2⟩⟩
              rw [all_congr (q := fun i => subT k (b.funs.getD i zeroT) (a.funs.getD i zeroT)) (fun i hi => by
                have := key i (by omega)
                exact ih _ _ (hb.funs this.2.1) (ha.funs this.1.1) (by omega))]
              have := key (a.funs.length - 1) (by omega)
              rw [ih _ _ (ha.funs this.1.1) (hb.funs this.2.1) (by omega)]
          · simp [hl]

/-- Sub. -/
def S (a b : Ty) : Bool := subT (szT a + szT b) a b

theorem subT_S : ∀ (k : Nat) (a b : Ty), Rt a → Rt b → szT a + szT b ≤ k → subT k a b = S a b
  | 0, a, b, _, _, h => by have := szT_pos a; omega
  | k + 1, a, b, ha, hb, h => by
    rcases Nat.lt_or_ge k (szT a + szT b) with q | q
    · have : k + 1 = szT a + szT b := by omega
      rw [this]; rfl
    · rw [subT_step k a b ha hb q]; exact subT_S k a b ha hb q

theorem S_all {a b : Ty} (h : b.all = true) : S a b = true := by
  unfold S
  have := szT_pos a
  obtain ⟨k, hk⟩ : ∃ k, szT a + szT b = k + 1 := ⟨szT a + szT b - 1, by omega⟩
  rw [hk]; simp [subT, h]
theorem S_nall {a b : Ty} (h : b.all = false) (ha : a.all = true) : S a b = false := by
  unfold S
  have := szT_pos a
  obtain ⟨k, hk⟩ : ∃ k, szT a + szT b = k + 1 := ⟨szT a + szT b - 1, by omega⟩
  rw [hk]; simp [subT, h, ha]

/-- What Sub asks. -/
structure SubP (a b : Ty) : Prop where
  flat : subF a.flat b.flat = true
  pair : a.pair ≠ 0 → b.pair ≠ 0 ∧ S (carT a) (carT b) = true ∧ (¬(a.pair = 2 ∧ b.pair = 2) → S (cdrT a) (cdrT b) = true)
  fn : a.fn ≠ 0 → b.fn ≠ 0 ∧ (b.fn ≠ 2 → a.fn ≠ 2 ∧ b.funs.length = a.funs.length ∧ (∀ i, i < a.funs.length - 1 → S (b.funs.getD i zeroT) (a.funs.getD i zeroT) = true) ∧
    S (a.funs.getD (a.funs.length - 1) zeroT) (b.funs.getD (a.funs.length - 1) zeroT) = true)

theorem S_iff {a b : Ty} (ha : Rt a) (hb : Rt b) (hA : a.all = false) (hB : b.all = false) : S a b = true ↔ SubP a b := by
  have pa := szT_pos a
  obtain ⟨k, hk⟩ : ∃ k, szT a + szT b = k + 1 := ⟨szT a + szT b - 1, by omega⟩
  have e1 : a.pair ≠ 0 → b.pair ≠ 0 → subT k (carT a) (carT b) = S (carT a) (carT b) := by
    intro hp hq
    have c1 := car_facts ha hA hp
    have c2 := car_facts hb hB hq
    exact subT_S _ _ _ c1.2.1 c2.2.1 (by omega)
  have e2 : a.pair ≠ 0 → b.pair ≠ 0 → ¬(a.pair = 2 ∧ b.pair = 2) → subT k (cdrT a) (cdrT b) = S (cdrT a) (cdrT b) := by
    intro hp hq hl
    have d1 := cdr_facts ha hA hp
    have d2 := cdr_facts hb hB hq
    have fa := (okT_facts ha.ok).2.1
    have fb := (okT_facts hb.ok).2.1
    refine subT_S _ _ _ d1.2.2 d2.2.2 ?_
    rcases (show a.pair = 1 ∨ a.pair = 2 by omega) with q | q <;> rcases (show b.pair = 1 ∨ b.pair = 2 by omega) with r | r
    · have := (d1.1 q).2; have := (d2.1 r).2; omega
    · have := (d1.1 q).2; have := (d2.2.1 r).2; omega
    · have := (d1.2.1 q).2; have := (d2.1 r).2; omega
    · exact absurd ⟨q, r⟩ hl
  have key : b.funs.length = a.funs.length → ∀ i, i < a.funs.length → (a.funs.getD i zeroT ∈ a.funs ∧ szT (a.funs.getD i zeroT) < szT a) ∧ (b.funs.getD i zeroT ∈ b.funs ∧ szT (b.funs.getD i zeroT) < szT b) := by
    intro hl i hi
    have m1 := getD_mem hi
    have m2 := getD_mem (l := b.funs) (i := i) (by omega)
    exact ⟨⟨m1, szT_funs m1⟩, ⟨m2, szT_funs m2⟩⟩
  have e3 : b.funs.length = a.funs.length → ∀ i, i < a.funs.length → subT k (b.funs.getD i zeroT) (a.funs.getD i zeroT) = S (b.funs.getD i zeroT) (a.funs.getD i zeroT) := by
    intro hl i hi
    have := key hl i hi
    exact subT_S _ _ _ (hb.funs this.2.1) (ha.funs this.1.1) (by omega)
  have e4 : b.funs.length = a.funs.length → a.fn = 1 → subT k (a.funs.getD (a.funs.length - 1) zeroT) (b.funs.getD (a.funs.length - 1) zeroT) = S (a.funs.getD (a.funs.length - 1) zeroT) (b.funs.getD (a.funs.length - 1) zeroT) := by
    intro hl hf
    have := ((okT_facts ha.ok).2.2.2.2.2.2.2.1 hf).1
    have := key hl (a.funs.length - 1) (by omega)
    exact subT_S _ _ _ (ha.funs this.1.1) (hb.funs this.2.1) (by omega)
  have fa := (okT_facts ha.ok).2.2.1
  rw [S, hk, subT_conj k a b hB hA]
  simp only [Bool.and_eq_true, Bool.or_eq_true, decide_eq_true_eq, Bool.not_eq_true', decide_eq_false_iff_not, List.all_eq_true, List.mem_range]
  constructor
  · rintro ⟨⟨h1, h2⟩, h3⟩
    refine ⟨h1, fun hp => ?_, fun hf => ?_⟩
    · rcases h2 with h2 | ⟨⟨h2, h4⟩, h5⟩
      · exact absurd h2 hp
      · refine ⟨h2, by rw [← e1 hp h2]; exact h4, fun hl => ?_⟩
        rcases h5 with h5 | h5
        · exact absurd h5 hl
        · rw [← e2 hp h2 hl]; exact h5
    · rcases h3 with h3 | ⟨h3, h4⟩
      · exact absurd h3 hf
      · refine ⟨h3, fun h2 => ?_⟩
        rcases h4 with h4 | ⟨⟨⟨h4, h5⟩, h6⟩, h7⟩
        · exact absurd h4 h2
        · exact ⟨h4, h5, fun i hi => by rw [← e3 h5 i (by omega)]; exact h6 i hi, by rw [← e4 h5 (by omega)]; exact h7⟩
  · rintro ⟨h1, h2, h3⟩
    refine ⟨⟨h1, ?_⟩, ?_⟩
    · by_cases hp : a.pair = 0
      · exact .inl hp
      · obtain ⟨q1, q2, q3⟩ := h2 hp
        refine .inr ⟨⟨q1, by rw [e1 hp q1]; exact q2⟩, ?_⟩
        by_cases hl : a.pair = 2 ∧ b.pair = 2
        · exact .inl hl
        · exact .inr (by rw [e2 hp q1 hl]; exact q3 hl)
    · by_cases hf : a.fn = 0
      · exact .inl hf
      · obtain ⟨q1, q2⟩ := h3 hf
        refine .inr ⟨q1, ?_⟩
        by_cases h2 : b.fn = 2
        · exact .inl h2
        · obtain ⟨r1, r2, r3, r4⟩ := q2 h2
          exact .inr ⟨⟨⟨r1, r2⟩, fun i hi => by rw [e3 r2 i (by omega)]; exact r3 i hi⟩, by rw [e4 r2 (by omega)]; exact r4⟩

theorem subF_refl (a : Int) : subF a a = true := by simp [subF]
theorem subF_trans {a b c : Int} (h : subF a b = true) (h' : subF b c = true) : subF a c = true := by
  simp only [subF, beq_iff_eq] at h h' ⊢
  rw [← h, Nat.and_assoc, h']

theorem S_refl : ∀ (n : Nat) (a : Ty), szT a ≤ n → Rt a → S a a = true
  | 0, a, h, _ => by have := szT_pos a; omega
  | n + 1, a, h, ha => by
    cases hA : a.all with
    | true => exact S_all hA
    | false =>
      refine (S_iff ha ha hA hA).2 ⟨subF_refl _, fun hp => ?_, fun hf => ?_⟩
      · have c := car_facts ha hA hp
        have d := cdr_facts ha hA hp
        refine ⟨hp, S_refl n _ (by omega) c.2.1, fun hl => ?_⟩
        have fa := (okT_facts ha.ok).2.1
        have := (d.1 (by omega)).2
        exact S_refl n _ (by omega) d.2.2
      · refine ⟨hf, fun h2 => ⟨h2, rfl, fun i hi => ?_, ?_⟩⟩
        · have m := getD_mem (l := a.funs) (i := i) (by omega)
          have := szT_funs m
          exact S_refl n _ (by omega) (ha.funs m)
        · have fa := (okT_facts ha.ok)
          have := (fa.2.2.2.2.2.2.2.1 (by have := fa.2.2.1; omega)).1
          have m := getD_mem (l := a.funs) (i := a.funs.length - 1) (by omega)
          have := szT_funs m
          exact S_refl n _ (by omega) (ha.funs m)

theorem car_list (x : Ty) : carT (listT x) = x := by simp [carT, listT, Ty.all, Ty.pair, Ty.pairs]
theorem S_list {x y : Ty} (hx : Rt x) (hy : Rt y) (h : S x y = true) : S (listT x) (listT y) = true := by
  refine (S_iff hx.list hy.list rfl rfl).2 ⟨subF_refl _, fun _ => ⟨by simp [listT, Ty.pair], by rw [car_list, car_list]; exact h, fun hl => absurd ⟨rfl, rfl⟩ hl⟩, fun hf => absurd rfl hf⟩

theorem S_trans : ∀ (n : Nat) (a b c : Ty), szT a + szT b + szT c ≤ n → Rt a → Rt b → Rt c → S a b = true → S b c = true → S a c = true
  | 0, a, b, c, h, _, _, _, _, _ => by have := szT_pos a; omega
  | n + 1, a, b, c, h, ha, hb, hc, h1, h2 => by
    have ih := S_trans n
    cases hC : c.all with
    | true => exact S_all hC
    | false =>
      have hB : b.all = false := by
        cases q : b.all with
        | false => rfl
        | true => rw [S_nall hC q] at h2; cases h2
      have hA : a.all = false := by
        cases q : a.all with
        | false => rfl
        | true => rw [S_nall hB q] at h1; cases h1
      obtain ⟨f1, p1, g1⟩ := (S_iff ha hb hA hB).1 h1
      obtain ⟨f2, p2, g2⟩ := (S_iff hb hc hB hC).1 h2
      refine (S_iff ha hc hA hC).2 ⟨subF_trans f1 f2, fun hp => ?_, fun hf => ?_⟩
      · obtain ⟨q1, q2, q3⟩ := p1 hp
        obtain ⟨r1, r2, r3⟩ := p2 q1
        have ca := car_facts ha hA hp
        have cb := car_facts hb hB q1
        have cc := car_facts hc hC r1
        have da := cdr_facts ha hA hp
        have db := cdr_facts hb hB q1
        have dc := cdr_facts hc hC r1
        have fa := (okT_facts ha.ok).2.1
        have fb := (okT_facts hb.ok).2.1
        have fc := (okT_facts hc.ok).2.1
        have za := cdr_sz ha
        have zb := cdr_sz hb
        have zc := cdr_sz hc
        refine ⟨r1, ih _ _ _ (by omega) ca.2.1 cb.2.1 cc.2.1 q2 r2, fun hl => ?_⟩
        have s1 : S (cdrT a) (cdrT b) = true := by
          by_cases hh : a.pair = 2 ∧ b.pair = 2
          · rw [(da.2.1 hh.1).1, (db.2.1 hh.2).1]; exact S_list ca.2.1 cb.2.1 q2
          · exact q3 hh
        have s2 : S (cdrT b) (cdrT c) = true := by
          by_cases hh : b.pair = 2 ∧ c.pair = 2
          · rw [(db.2.1 hh.1).1, (dc.2.1 hh.2).1]; exact S_list cb.2.1 cc.2.1 r2
          · exact r3 hh
        refine ih _ _ _ ?_ da.2.2 db.2.2 dc.2.2 s1 s2
        rcases (show a.pair = 1 ∨ c.pair = 1 by omega) with q | q
        · have := (da.1 q).2; omega
        · have := (dc.1 q).2; omega
      · obtain ⟨q1, q2⟩ := g1 hf
        obtain ⟨r1, r2⟩ := g2 q1
        refine ⟨r1, fun hc2 => ?_⟩
        obtain ⟨b2, l2, t2, u2⟩ := r2 hc2
        obtain ⟨a2, l1, t1, u1⟩ := q2 b2
        have fa := okT_facts ha.ok
        have hlen := (fa.2.2.2.2.2.2.2.1 (by have := fa.2.2.1; omega)).1
        have key : ∀ i, i < a.funs.length → (a.funs.getD i zeroT ∈ a.funs ∧ szT (a.funs.getD i zeroT) < szT a) ∧ (b.funs.getD i zeroT ∈ b.funs ∧ szT (b.funs.getD i zeroT) < szT b) ∧ (c.funs.getD i zeroT ∈ c.funs ∧ szT (c.funs.getD i zeroT) < szT c) := by
          intro i hi
          have m1 := getD_mem hi
          have m2 := getD_mem (l := b.funs) (i := i) (by omega)
          have m3 := getD_mem (l := c.funs) (i := i) (by omega)
          exact ⟨⟨m1, szT_funs m1⟩, ⟨m2, szT_funs m2⟩, ⟨m3, szT_funs m3⟩⟩
        refine ⟨a2, by omega, fun i hi => ?_, ?_⟩
        · obtain ⟨k1, k2, k3⟩ := key i (by omega)
          exact ih _ _ _ (by omega) (hc.funs k3.1) (hb.funs k2.1) (ha.funs k1.1) (t2 i (by omega)) (t1 i hi)
        · obtain ⟨k1, k2, k3⟩ := key (a.funs.length - 1) (by omega)
          rw [l1] at u2
          exact ih _ _ _ (by omega) (ha.funs k1.1) (hb.funs k2.1) (hc.funs k3.1) u1 u2
theorem S_zero {b : Ty} (hb : Rt b) : S zeroT b = true := by
  cases hB : b.all with
  | true => exact S_all hB
  | false => exact (S_iff .zero hb rfl hB).2 ⟨by simp [subF, zeroT, Ty.flat], fun h => absurd rfl h, fun h => absurd rfl h⟩
end Go.Ev
