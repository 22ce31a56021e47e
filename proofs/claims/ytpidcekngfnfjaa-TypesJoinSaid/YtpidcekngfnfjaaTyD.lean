/-
  Joins of types: both are of it; in the other order it is as much; of one with itself it is that one.
-/
import Derived.Test.YtpidcekngfnfjaaTyC
set_option linter.unusedVariables false
set_option linter.unusedSimpArgs false
namespace Go.Ev
open Go

/-- Cars and cdrs together are smaller, unless both are lists. -/
theorem cd_small {a b : Ty} (ha : Rt a) (hb : Rt b) (hA : a.all = false) (hB : b.all = false) (hp : a.pair ≠ 0) (hq : b.pair ≠ 0) : Rt (carT a) ∧ Rt (carT b) ∧ szT (carT a) + szT (carT b) < szT a + szT b ∧ Rt (cdrT a) ∧ Rt (cdrT b) ∧ (¬(a.pair = 2 ∧ b.pair = 2) → szT (cdrT a) + szT (cdrT b) < szT a + szT b) := by
  have c1 := car_facts ha hA hp
  have c2 := car_facts hb hB hq
  have d1 := cdr_facts ha hA hp
  have d2 := cdr_facts hb hB hq
  have fa := (okT_facts ha.ok).2.1
  have fb := (okT_facts hb.ok).2.1
  refine ⟨c1.2.1, c2.2.1, by omega, d1.2.2, d2.2.2, fun hl => ?_⟩
  rcases (show a.pair = 1 ∨ a.pair = 2 by omega) with q | q <;> rcases (show b.pair = 1 ∨ b.pair = 2 by omega) with r | r
  · have := (d1.1 q).2; have := (d2.1 r).2; omega
  · have := (d1.1 q).2; have := (d2.2.1 r).2; omega
  · have := (d1.2.1 q).2; have := (d2.1 r).2; omega
  · exact absurd ⟨q, r⟩ hl

theorem joinT_step : ∀ (k : Nat) (a b : Ty), Rt a → Rt b → szT a + szT b ≤ k → joinT (k + 1) a b = joinT k a b
  | 0, a, b, _, _, h => by have := szT_pos a; omega
  | k + 1, a, b, ha, hb, h => by
    have ih := joinT_step k
    cases hAB : (a.all || b.all) with
    | true => rw [joinT_all _ _ _ hAB, joinT_all _ _ _ hAB]
    | false =>
      have e : joinP (k + 1) a b = joinP k a b := by
        simp only [Bool.or_eq_false_iff] at hAB
        unfold joinP
        split
        · rfl
        · rename_i hp
          split
          · rfl
          · rename_i hq
            obtain ⟨c1, c2, c3, d1, d2, d3⟩ := cd_small ha hb hAB.1 hAB.2 hp hq
            split
            · rw [ih _ _ c1 c2 (by omega)]
            · rename_i hl
              rw [ih _ _ c1 c2 (by omega), ih _ _ d1 d2 (by have := d3 hl; omega)]
      rw [joinT_succ _ _ _ hAB, joinT_succ _ _ _ hAB, e]

def J (a b : Ty) : Ty := joinT (szT a + szT b) a b

theorem joinT_J : ∀ (k : Nat) (a b : Ty), Rt a → Rt b → szT a + szT b ≤ k → joinT k a b = J a b
  | 0, a, b, _, _, h => by have := szT_pos a; omega
  | k + 1, a, b, ha, hb, h => by
    rcases Nat.lt_or_ge k (szT a + szT b) with q | q
    · have : k + 1 = szT a + szT b := by omega
      rw [this]; rfl
    · rw [joinT_step k a b ha hb q]; exact joinT_J k a b ha hb q

theorem J_all {a b : Ty} (h : (a.all || b.all) = true) : J a b = allT := by
  unfold J
  have := szT_pos a
  obtain ⟨k, hk⟩ : ∃ k, szT a + szT b = k + 1 := ⟨szT a + szT b - 1, by omega⟩
  rw [hk]; exact joinT_all _ _ _ h

def JP (a b : Ty) : Int × List Ty := if a.pair = 0 then (b.pair, b.pairs) else if b.pair = 0 then (a.pair, a.pairs)
        else if a.pair = 2 ∧ b.pair = 2 then (2, [J (carT a) (carT b)]) else (1, [J (carT a) (carT b), J (cdrT a) (cdrT b)])

theorem J_eq {a b : Ty} (ha : Rt a) (hb : Rt b) (hA : a.all = false) (hB : b.all = false) : J a b = ⟨false, orF a.flat b.flat, (JP a b).1, (JP a b).2, (joinG a b).1, (joinG a b).2⟩ := by
  have := szT_pos a
  obtain ⟨k, hk⟩ : ∃ k, szT a + szT b = k + 1 := ⟨szT a + szT b - 1, by omega⟩
  have e : joinP k a b = JP a b := by
    unfold joinP JP
    split
    · rfl
    · rename_i hp
      split
      · rfl
      · rename_i hq
        obtain ⟨c1, c2, c3, d1, d2, d3⟩ := cd_small ha hb hA hB hp hq
        split
        · rw [joinT_J _ _ _ c1 c2 (by omega)]
        · rename_i hl
          rw [joinT_J _ _ _ c1 c2 (by omega), joinT_J _ _ _ d1 d2 (by have := d3 hl; omega)]
  rw [J, hk, joinT_succ _ _ _ (by simp [hA, hB]), e]

mutual
theorem sameT_eq' : ∀ a b : Ty, sameT a b = true → a = b
  | .mk a f p ps g gs, .mk a' f' p' ps' g' gs', h => by
    simp only [sameT, Bool.and_eq_true, beq_iff_eq, decide_eq_true_eq] at h
    obtain ⟨⟨⟨⟨⟨h1, h2⟩, h3⟩, h4⟩, h5⟩, h6⟩ := h
    rw [h1, h2, h3, h4, sameTs_eq' ps ps' h5, sameTs_eq' gs gs' h6]
theorem sameTs_eq' : ∀ a b : List Ty, sameTs a b = true → a = b
  | [], [], _ => rfl
  | x :: xs, y :: ys, h => by
    simp only [sameTs, Bool.and_eq_true] at h
    rw [sameT_eq' x y h.1, sameTs_eq' xs ys h.2]
  | [], _ :: _, h => by simp [sameTs] at h
  | _ :: _, [], h => by simp [sameTs] at h
end
theorem sameTs_refl (l : List Ty) : sameTs l l = true := by
  induction l with
  | nil => rfl
  | cons x xs ih =>
    simp only [sameTs, ih, Bool.and_true]
    refine Ty.rec (motive_1 := fun t => sameT t t = true) (motive_2 := fun l => sameTs l l = true) ?_ rfl ?_ x
    · intro a f p ps g gs h1 h2; simp [sameT, h1, h2]
    · intro x xs h1 h2; simp [sameTs, h1, h2]

theorem joinG_cases (a b : Ty) : (a.fn = 0 ∧ joinG a b = (b.fn, b.funs)) ∨ (a.fn ≠ 0 ∧ b.fn = 0 ∧ joinG a b = (a.fn, a.funs)) ∨ (a.fn ≠ 0 ∧ b.fn ≠ 0 ∧ a.fn = b.fn ∧ a.funs = b.funs ∧ joinG a b = (a.fn, a.funs)) ∨
    (a.fn ≠ 0 ∧ b.fn ≠ 0 ∧ ¬(a.fn = b.fn ∧ a.funs = b.funs) ∧ joinG a b = (2, [])) := by
  unfold joinG
  by_cases h1 : a.fn = 0
  · exact .inl ⟨h1, by rw [if_pos h1]⟩
  · right
    by_cases h2 : b.fn = 0
    · exact .inl ⟨h1, h2, by rw [if_neg h1, if_neg (by simp [h2])]⟩
    · right
      by_cases h3 : a.fn = b.fn ∧ sameTs a.funs b.funs = true
      · exact .inl ⟨h1, h2, h3.1, sameTs_eq' _ _ h3.2, by rw [if_neg h1, if_neg (by simp [h2, h3])]⟩
      · refine .inr ⟨h1, h2, ?_, by rw [if_neg h1, if_pos ⟨h2, h3⟩]⟩
        rintro ⟨q1, q2⟩
        exact h3 ⟨q1, by rw [q2]; exact sameTs_refl _⟩

/-- Of types with the same procedures. -/
theorem fn_refl {a j : Ty} (ha : Rt a) (e1 : j.fn = a.fn) (e2 : j.funs = a.funs) : a.fn ≠ 0 → j.fn ≠ 0 ∧ (j.fn ≠ 2 → a.fn ≠ 2 ∧ j.funs.length = a.funs.length ∧ (∀ i, i < a.funs.length - 1 → S (j.funs.getD i zeroT) (a.funs.getD i zeroT) = true) ∧
    S (a.funs.getD (a.funs.length - 1) zeroT) (j.funs.getD (a.funs.length - 1) zeroT) = true) := by
  intro hf
  rw [e1, e2]
  refine ⟨hf, fun h2 => ⟨h2, rfl, fun i hi => S_refl _ _ (Nat.le_refl _) (ha.funs (getD_mem (by omega))), ?_⟩⟩
  have fa := okT_facts ha.ok
  have := (fa.2.2.2.2.2.2.2.1 (by have := fa.2.2.1; omega)).1
  exact S_refl _ _ (Nat.le_refl _) (ha.funs (getD_mem (by omega)))

/-- Of types with the same pairs. -/
theorem pair_refl {a j : Ty} (ha : Rt a) (hA : a.all = false) (hJ : j.all = false) (e1 : j.pair = a.pair) (e2 : j.pairs = a.pairs) : a.pair ≠ 0 → j.pair ≠ 0 ∧ S (carT a) (carT j) = true ∧ (¬(a.pair = 2 ∧ j.pair = 2) → S (cdrT a) (cdrT j) = true) := by
  intro hp
  have c := car_facts ha hA hp
  have d := cdr_facts ha hA hp
  have q1 : carT j = carT a := by simp [carT, hJ, hA, e1, e2]
  have q2 : cdrT j = cdrT a := by simp [cdrT, hJ, hA, e1, e2]
  rw [q1, q2, e1]
  exact ⟨hp, S_refl _ _ (Nat.le_refl _) c.2.1, fun _ => S_refl _ _ (Nat.le_refl _) d.2.2⟩

theorem subF_or_l {a b : Int} : subF a (orF a b) = true := by
  have : a.toNat &&& (a.toNat ||| b.toNat) = a.toNat := by
    apply Nat.eq_of_testBit_eq; intro i; simp only [Nat.testBit_and, Nat.testBit_or]; cases a.toNat.testBit i <;> simp
  simp [subF, orF, this]
theorem orF_comm (a b : Int) : orF a b = orF b a := by simp [orF, Nat.or_comm]
theorem subF_or_r {a b : Int} : subF b (orF a b) = true := by rw [orF_comm]; exact subF_or_l

section
variable {f p g : Int} {ps gs : List Ty}
theorem mk_all : (Ty.mk false f p ps g gs).all = false := rfl
theorem mk_flat : (Ty.mk false f p ps g gs).flat = f := rfl
theorem mk_pair : (Ty.mk false f p ps g gs).pair = p := rfl
theorem mk_pairs : (Ty.mk false f p ps g gs).pairs = ps := rfl
theorem mk_fn : (Ty.mk false f p ps g gs).fn = g := rfl
theorem mk_funs : (Ty.mk false f p ps g gs).funs = gs := rfl
end

/-- The pairs of a join. -/
theorem JP_cases (a b : Ty) : (a.pair = 0 ∧ JP a b = (b.pair, b.pairs)) ∨ (a.pair ≠ 0 ∧ b.pair = 0 ∧ JP a b = (a.pair, a.pairs)) ∨ (a.pair ≠ 0 ∧ b.pair ≠ 0 ∧ (a.pair = 2 ∧ b.pair = 2) ∧ JP a b = (2, [J (carT a) (carT b)])) ∨
    (a.pair ≠ 0 ∧ b.pair ≠ 0 ∧ ¬(a.pair = 2 ∧ b.pair = 2) ∧ JP a b = (1, [J (carT a) (carT b), J (cdrT a) (cdrT b)])) := by
  unfold JP
  by_cases h1 : a.pair = 0
  · exact .inl ⟨h1, by rw [if_pos h1]⟩
  · right
    by_cases h2 : b.pair = 0
    · exact .inl ⟨h1, h2, by rw [if_neg h1, if_pos h2]⟩
    · right
      by_cases h3 : a.pair = 2 ∧ b.pair = 2
      · exact .inl ⟨h1, h2, h3, by rw [if_neg h1, if_neg h2, if_pos h3]⟩
      · exact .inr ⟨h1, h2, h3, by rw [if_neg h1, if_neg h2, if_neg h3]⟩

theorem join_l : ∀ (n : Nat) (a b : Ty), szT a + szT b ≤ n → Rt a → Rt b → Rt (J a b) → S a (J a b) = true
  | 0, a, b, h, _, _, _ => by have := szT_pos a; omega
  | n + 1, a, b, h, ha, hb, hj => by
    have ih := join_l n
    cases hAB : (a.all || b.all) with
    | true => rw [J_all hAB]; exact S_all rfl
    | false =>
      simp only [Bool.or_eq_false_iff] at hAB
      have hJ := J_eq ha hb hAB.1 hAB.2
      rw [hJ] at hj ⊢
      refine (S_iff ha hj hAB.1 rfl).2 ⟨subF_or_l, ?_, ?_⟩
      · rcases JP_cases a b with ⟨q, _⟩ | ⟨q1, q2, e⟩ | ⟨q1, q2, q3, e⟩ | ⟨q1, q2, q3, e⟩
        · exact fun hp => absurd q hp
        · rw [e] at hj ⊢; exact pair_refl ha hAB.1 rfl rfl rfl
        · obtain ⟨c1, c2, c3, d1, d2, d3⟩ := cd_small ha hb hAB.1 hAB.2 q1 q2
          rw [e] at hj ⊢
          refine fun hp => ⟨by simp [mk_pair], ?_, fun hl => absurd ⟨q3.1, rfl⟩ hl⟩
          have ec : carT (Ty.mk false (orF a.flat b.flat) 2 [J (carT a) (carT b)] (joinG a b).1 (joinG a b).2) = J (carT a) (carT b) := by simp [carT, Ty.all, Ty.pair, Ty.pairs]
          rw [ec]
          exact ih _ _ (by omega) c1 c2 (hj.pairs (by simp [mk_pairs]))
        · obtain ⟨c1, c2, c3, d1, d2, d3⟩ := cd_small ha hb hAB.1 hAB.2 q1 q2
          have d3 := d3 q3
          rw [e] at hj ⊢
          refine fun hp => ⟨by simp [mk_pair], ?_, fun hl => ?_⟩
          · have ec : carT (Ty.mk false (orF a.flat b.flat) 1 [J (carT a) (carT b), J (cdrT a) (cdrT b)] (joinG a b).1 (joinG a b).2) = J (carT a) (carT b) := by simp [carT, Ty.all, Ty.pair, Ty.pairs]
            rw [ec]
            exact ih _ _ (by omega) c1 c2 (hj.pairs (by simp [mk_pairs]))
          · have ec : cdrT (Ty.mk false (orF a.flat b.flat) 1 [J (carT a) (carT b), J (cdrT a) (cdrT b)] (joinG a b).1 (joinG a b).2) = J (cdrT a) (cdrT b) := by simp [cdrT, Ty.all, Ty.pair, Ty.pairs]
            rw [ec]
            exact ih _ _ (by omega) d1 d2 (hj.pairs (by simp [mk_pairs]))
      · rcases joinG_cases a b with ⟨q, _⟩ | ⟨q1, q2, e⟩ | ⟨q1, q2, q3, q4, e⟩ | ⟨q1, q2, q3, e⟩
        · exact fun hp => absurd q hp
        · rw [e]; exact fn_refl ha rfl rfl
        · rw [e]; exact fn_refl ha rfl rfl
        · rw [e]; exact fun _ => ⟨by simp [mk_fn], fun h2 => absurd rfl h2⟩

theorem join_r : ∀ (n : Nat) (a b : Ty), szT a + szT b ≤ n → Rt a → Rt b → Rt (J a b) → S b (J a b) = true
  | 0, a, b, h, _, _, _ => by have := szT_pos a; omega
  | n + 1, a, b, h, ha, hb, hj => by
    have ih := join_r n
    cases hAB : (a.all || b.all) with
    | true => rw [J_all hAB]; exact S_all rfl
    | false =>
      simp only [Bool.or_eq_false_iff] at hAB
      have hJ := J_eq ha hb hAB.1 hAB.2
      rw [hJ] at hj ⊢
      refine (S_iff hb hj hAB.2 rfl).2 ⟨subF_or_r, ?_, ?_⟩
      · rcases JP_cases a b with ⟨q, e⟩ | ⟨q1, q2, e⟩ | ⟨q1, q2, q3, e⟩ | ⟨q1, q2, q3, e⟩
        · rw [e] at hj ⊢; exact pair_refl hb hAB.2 rfl rfl rfl
        · exact fun hp => absurd q2 hp
        · obtain ⟨c1, c2, c3, d1, d2, d3⟩ := cd_small ha hb hAB.1 hAB.2 q1 q2
          rw [e] at hj ⊢
          refine fun hp => ⟨by simp [mk_pair], ?_, fun hl => absurd ⟨q3.2, rfl⟩ hl⟩
          have ec : carT (Ty.mk false (orF a.flat b.flat) 2 [J (carT a) (carT b)] (joinG a b).1 (joinG a b).2) = J (carT a) (carT b) := by simp [carT, Ty.all, Ty.pair, Ty.pairs]
          rw [ec]
          exact ih _ _ (by omega) c1 c2 (hj.pairs (by simp [mk_pairs]))
        · obtain ⟨c1, c2, c3, d1, d2, d3⟩ := cd_small ha hb hAB.1 hAB.2 q1 q2
          have d3 := d3 q3
          rw [e] at hj ⊢
          refine fun hp => ⟨by simp [mk_pair], ?_, fun hl => ?_⟩
          · have ec : carT (Ty.mk false (orF a.flat b.flat) 1 [J (carT a) (carT b), J (cdrT a) (cdrT b)] (joinG a b).1 (joinG a b).2) = J (carT a) (carT b) := by simp [carT, Ty.all, Ty.pair, Ty.pairs]
            rw [ec]
            exact ih _ _ (by omega) c1 c2 (hj.pairs (by simp [mk_pairs]))
          · have ec : cdrT (Ty.mk false (orF a.flat b.flat) 1 [J (carT a) (carT b), J (cdrT a) (cdrT b)] (joinG a b).1 (joinG a b).2) = J (cdrT a) (cdrT b) := by simp [cdrT, Ty.all, Ty.pair, Ty.pairs]
            rw [ec]
            exact ih _ _ (by omega) d1 d2 (hj.pairs (by simp [mk_pairs]))
      · rcases joinG_cases a b with ⟨q, e⟩ | ⟨q1, q2, e⟩ | ⟨q1, q2, q3, q4, e⟩ | ⟨q1, q2, q3, e⟩
        · rw [e]; exact fn_refl hb rfl rfl
        · exact fun hp => absurd q2 hp
        · rw [e, q3, q4]; exact fn_refl hb rfl rfl
        · rw [e]; exact fun _ => ⟨by simp [mk_fn], fun h2 => absurd rfl h2⟩

theorem joinG_comm {a b : Ty} (ha : Rt a) (hb : Rt b) : joinG a b = joinG b a := by
  have za : a.fn = 0 → a.funs = [] := fun h => (okT_facts ha.ok).2.2.2.2.2.2.2.2 (by omega)
  have zb : b.fn = 0 → b.funs = [] := fun h => (okT_facts hb.ok).2.2.2.2.2.2.2.2 (by omega)
  rcases joinG_cases a b with ⟨q, e⟩ | ⟨q1, q2, e⟩ | ⟨q1, q2, q3, q4, e⟩ | ⟨q1, q2, q3, e⟩ <;> rcases joinG_cases b a with ⟨r, e'⟩ | ⟨r1, r2, e'⟩ | ⟨r1, r2, r3, r4, e'⟩ | ⟨r1, r2, r3, e'⟩ <;> rw [e, e'] <;>
    first | rfl | (exfalso; omega) | (rw [q, r, za q, zb r]; done) | (rw [q3, q4]; done) | skip
  all_goals first | (exact absurd ⟨q3.symm, q4.symm⟩ r3) | (exact absurd ⟨r3.symm, r4.symm⟩ q3)

theorem join_comm : ∀ (n : Nat) (a b : Ty), szT a + szT b ≤ n → Rt a → Rt b → Rt (J a b) → Rt (J b a) → S (J a b) (J b a) = true
  | 0, a, b, h, _, _, _, _ => by have := szT_pos a; omega
  | n + 1, a, b, h, ha, hb, hj, hk => by
    have ih := join_comm n
    cases hAB : (a.all || b.all) with
    | true => rw [J_all (a := b) (b := a) (by rw [Bool.or_comm]; exact hAB)]; exact S_all rfl
    | false =>
      simp only [Bool.or_eq_false_iff] at hAB
      have hJ := J_eq ha hb hAB.1 hAB.2
      have hK := J_eq hb ha hAB.2 hAB.1
      rw [orF_comm b.flat, joinG_comm hb ha] at hK
      rw [hJ] at hj
      rw [hK] at hk
      rw [hJ, hK]
      refine (S_iff hj hk rfl rfl).2 ⟨subF_refl _, ?_, fn_refl hj rfl rfl⟩
      rcases JP_cases a b with ⟨q, e⟩ | ⟨q1, q2, e⟩ | ⟨q1, q2, q3, e⟩ | ⟨q1, q2, q3, e⟩ <;> rcases JP_cases b a with ⟨r, e'⟩ | ⟨r1, r2, e'⟩ | ⟨r1, r2, r3, e'⟩ | ⟨r1, r2, r3, e'⟩ <;> first | (exfalso; omega) | skip
      · rw [e, e'] at *; intro hp; exact absurd r hp
      · rw [e] at hj; rw [e, e']; exact pair_refl hj rfl rfl rfl rfl
      · rw [e] at hj; rw [e, e']; exact pair_refl hj rfl rfl rfl rfl
      · obtain ⟨c1, c2, c3, d1, d2, d3⟩ := cd_small ha hb hAB.1 hAB.2 q1 q2
        rw [e] at hj ⊢
        rw [e'] at hk ⊢
        refine fun hp => ⟨by simp [mk_pair], ?_, fun hl => absurd ⟨rfl, rfl⟩ hl⟩
        show S (carT (Ty.mk false _ 2 [J (carT a) (carT b)] _ _)) (carT (Ty.mk false _ 2 [J (carT b) (carT a)] _ _)) = true
        have e1 : ∀ f g gs x, carT (Ty.mk false f 2 [x] g gs) = x := by intros; simp [carT, Ty.all, Ty.pair, Ty.pairs]
        rw [e1, e1]
        exact ih _ _ (by omega) c1 c2 (hj.pairs (by simp [mk_pairs])) (hk.pairs (by simp [mk_pairs]))
      · obtain ⟨c1, c2, c3, d1, d2, d3⟩ := cd_small ha hb hAB.1 hAB.2 q1 q2
        have d3 := d3 q3
        rw [e] at hj ⊢
        rw [e'] at hk ⊢
        refine fun hp => ⟨by simp [mk_pair], ?_, fun hl => ?_⟩
        · show S (carT (Ty.mk false _ 1 [J (carT a) (carT b), J (cdrT a) (cdrT b)] _ _)) (carT (Ty.mk false _ 1 [J (carT b) (carT a), J (cdrT b) (cdrT a)] _ _)) = true
          have e1 : ∀ f g gs x y, carT (Ty.mk false f 1 [x, y] g gs) = x := by intros; simp [carT, Ty.all, Ty.pair, Ty.pairs]
          rw [e1, e1]
          exact ih _ _ (by omega) c1 c2 (hj.pairs (by simp [mk_pairs])) (hk.pairs (by simp [mk_pairs]))
        · show S (cdrT (Ty.mk false _ 1 [J (carT a) (carT b), J (cdrT a) (cdrT b)] _ _)) (cdrT (Ty.mk false _ 1 [J (carT b) (carT a), J (cdrT b) (cdrT a)] _ _)) = true
          have e1 : ∀ f g gs x y, cdrT (Ty.mk false f 1 [x, y] g gs) = y := by intros; simp [cdrT, Ty.all, Ty.pair, Ty.pairs]
          rw [e1, e1]
          exact ih _ _ (by omega) d1 d2 (hj.pairs (by simp [mk_pairs])) (hk.pairs (by simp [mk_pairs]))

theorem orF_self {a : Int} (h : 0 ≤ a) : orF a a = a := by simp [orF, Nat.or_self]; omega
theorem orF_zero {a : Int} (h : 0 ≤ a) : orF a 0 = a := by simp [orF]; omega

theorem join_self : ∀ (n : Nat) (a : Ty), szT a ≤ n → Rt a → J a a = a
  | 0, a, h, _ => by have := szT_pos a; omega
  | n + 1, a, h, ha => by
    have ih := join_self n
    have fa := okT_facts ha.ok
    cases hA : a.all with
    | true => rw [J_all (by simp [hA])]; exact (fa.2.2.2.1 hA).symm
    | false =>
      rw [J_eq ha ha hA hA, orF_self fa.1.1]
      have eP : JP a a = (a.pair, a.pairs) := by
        rcases JP_cases a a with ⟨q, e⟩ | ⟨q1, q2, e⟩ | ⟨q1, q2, q3, e⟩ | ⟨q1, q2, q3, e⟩
        · exact e
        · exact e
        · obtain ⟨x, hx⟩ := fa.2.2.2.2.2.2.1 q3.1
          have c := car_facts ha hA q1
          have ec : carT a = x := by simp [carT, hA, q1, hx]
          rw [e, ih _ (by omega) c.2.1, ec, q3.1, hx]
        · obtain ⟨x, y, hx⟩ := fa.2.2.2.2.2.1 (by have := fa.2.1; omega)
          have c := car_facts ha hA q1
          have d := cdr_facts ha hA q1
          have p1 : a.pair = 1 := by have := fa.2.1; omega
          have ec : carT a = x := by simp [carT, hA, q1, hx]
          have ed : cdrT a = y := by simp [cdrT, hA, p1, hx]
          have := (d.1 p1).2
          rw [e, ih _ (by omega) c.2.1, ih _ (by omega) d.2.2, ec, ed, p1, hx]
      have eG : joinG a a = (a.fn, a.funs) := by
        rcases joinG_cases a a with ⟨q, e⟩ | ⟨q1, q2, e⟩ | ⟨q1, q2, q3, q4, e⟩ | ⟨q1, q2, q3, e⟩
        · exact e
        · exact e
        · exact e
        · exact absurd ⟨rfl, rfl⟩ q3
      rw [eP, eG]
      cases a with | mk a f p ps g gs =>
      simp only [Ty.all] at hA
      simp only [Ty.flat, Ty.pair, Ty.pairs, Ty.fn, Ty.funs, hA]

theorem join_zero {a : Ty} (ha : Rt a) : J a zeroT = a := by
  have fa := okT_facts ha.ok
  cases hA : a.all with
  | true => rw [J_all (by simp [hA])]; exact (fa.2.2.2.1 hA).symm
  | false =>
    rw [J_eq ha .zero hA rfl]
    have e0 : orF a.flat zeroT.flat = a.flat := orF_zero fa.1.1
    have eP : JP a zeroT = (a.pair, a.pairs) := by
      unfold JP
      split
      · rename_i h; rw [h, fa.2.2.2.2.1 h]; rfl
      · rfl
    have eG : joinG a zeroT = (a.fn, a.funs) := by
      unfold joinG
      split
      · rename_i h; rw [h, fa.2.2.2.2.2.2.2.2 (by omega)]; rfl
      · rw [if_neg (by simp [zeroT, Ty.fn])]
    rw [e0, eP, eG]
    cases a with | mk a f p ps g gs =>
    simp only [Ty.all] at hA
    simp only [Ty.flat, Ty.pair, Ty.pairs, Ty.fn, Ty.funs, hA]
end Go.Ev
