/-
  Part 6 of a proof: TypesBack: for every input the law returns true, and what it was given reads behind the call as before. No conditions.
-/
import Derived.Test.YtpidcekngfnfjaaP5
import Derived.OpenShut
namespace Go.Ev.Seat
set_option linter.unusedVariables false
set_option linter.unusedSimpArgs false
open Go Go.Ev
set_option maxRecDepth 20000
attribute [local irreducible] pcall callF
theorem g_w05_TypesBack_ok {n : Nat} {t1 : Ty} {r : Bool} (hr : g_w05_TypesBack n t1 = some r) : PRes (tabOf tabL) 7 [.agg (cT t1)] (.bool r) := by
  refine pres_fin t7 ?_
  unfold g_w05_TypesBack at hr
  refine L_seq ?_
  refine L_stmt ?_
  refine L_reg ?_
  refine G_n (B := (kg026 t1)) rfl rfl rfl ?_
  refine G_p rfl rfl rfl ?_
  refine G_nil ?_
  refine L_nil ?_
  refine Sm_norm (e2 := [(1, .ptr 0 0)]) (H1 := [(kg026 t1)]) (H2 := [(kg026 t1)]) rfl (by repeat (first | exact rzz | apply rcc rfl | apply rnn rfl)) rfl (?_ : GL _ _ _ _ _)
  refine L_seq ?_
  refine L_stmt ?_
  refine L_reg ?_
  obtain ⟨r2, hr2, hr⟩ := bind_s hr
  refine G_c 8 rfl rfl (CA_of (as := []) rfl (oAwake_ok hr2)) ?_
  refine G_p rfl rfl rfl ?_
  refine G_nil ?_
  refine L_nil ?_
  refine Sm_norm (e2 := [(1, .ptr 0 0), (3, .bool r2)]) (H1 := [(kg026 t1)]) (H2 := [(kg026 t1)]) rfl (by repeat (first | exact rzz | apply rcc rfl | apply rnn rfl)) rfl (?_ : GL _ _ _ _ _)
  refine L_seq ?_
  refine L_stmt ?_
  refine L_reg ?_
  refine G_h (v := .agg (cT t1)) rfl rfl rfl (fun _ => rfl) ?_
  obtain ⟨r3, hr3, hr⟩ := bind_s hr
  refine G_c 9 rfl rfl (CA_of (as := [.agg (cT t1)]) rfl (oLightT_ok hr3)) ?_
  refine G_p rfl rfl rfl ?_
  refine G_nil ?_
  refine L_nil ?_
  refine Sm_norm (e2 := [(1, .ptr 0 0), (3, .bool r2), (4, .bool r3)]) (H1 := [(kg026 t1)]) (H2 := [(kg026 t1)]) rfl (by repeat (first | exact rzz | apply rcc rfl | apply rnn rfl)) rfl (?_ : GL _ _ _ _ _)
  refine L_seq ?_
  refine L_stmt ?_
  refine L_seq ?_
  refine L_stmt ?_
  refine L_reg ?_
  refine G_p rfl rfl rfl ?_
  refine G_p rfl rfl rfl ?_
  refine G_nil ?_
  refine L_nil ?_
  refine Sm_norm (e2 := [(1, .ptr 0 0), (3, .bool r2), (14, .bool (!r3))]) (H1 := [(kg026 t1)]) (H2 := [(kg026 t1)]) rfl (by repeat (first | exact rzz | apply rcc rfl | apply rnn rfl)) rfl (?_ : GL _ _ _ _ _)
  rcases cond_s hr with ⟨hc14, hr⟩ | ⟨hc14, hr⟩
  · refine L_T rfl hc14 ?_
    refine L_seq ?_
    refine L_reg ?_
    refine G_p rfl rfl rfl ?_
    refine G_p rfl rfl rfl ?_
    refine G_nil ?_
    refine L_ret ?_
    refine Sm_ret ?_
    have hr := some_s hr
    subst hr
    exact ⟨_, rfl, _, rfl, rfl⟩
  · refine L_F rfl hc14 ?_
    refine L_skip ?_
    refine L_nil ?_
    refine Sm_norm (e2 := [(1, .ptr 0 0), (3, .bool r2)]) (H1 := [(kg026 t1)]) (H2 := [(kg026 t1)]) rfl (by repeat (first | exact rzz | apply rcc rfl | apply rnn rfl)) rfl (?_ : GL _ _ _ _ _)
    refine L_seq ?_
    refine L_stmt ?_
    refine L_reg ?_
    refine G_h (v := .agg (cT t1)) rfl rfl rfl (fun _ => rfl) ?_
    obtain ⟨r4, hr4, hr⟩ := bind_s hr
    refine G_c 28 rfl rfl (CA_of (as := [.agg (cT t1)]) rfl (g_types_Datum_ok hr4)) ?_
    refine G_p (v := .tup [.agg (cDt r4.1), .int .i64 r4.2]) rfl rfl rfl ?_
    refine G_p (v := .agg (cDt r4.1)) rfl rfl rfl ?_
    refine G_p rfl rfl rfl ?_
    refine G_n (B := .cells [.int .i64 0, .str [], .lst [] true]) rfl rfl rfl ?_
    refine G_hn (H' := [(kg026 t1), .cells [.int .i64 r4.1.kind, .str r4.1.text, .lst (List.map encDt r4.1.list) false]]) rfl rfl rfl (fun _ => rfl) ?_
    refine G_p rfl rfl rfl ?_
    refine G_nil ?_
    refine L_nil ?_
    refine Sm_norm (e2 := [(1, .ptr 0 0), (3, .bool r2), (5, .ptr 1 0), (6, .int .i64 r4.2)]) (H1 := [(kg026 t1), .cells [.int .i64 r4.1.kind, .str r4.1.text, .lst (List.map encDt r4.1.list) false]]) (H2 := [(kg026 t1), .cells [.int .i64 r4.1.kind, .str r4.1.text, .lst (List.map encDt r4.1.list) false]]) rfl (by repeat (first | exact rzz | apply rcc rfl | apply rnn rfl)) rfl (?_ : GL _ _ _ _ _)
    refine L_seq ?_
    refine L_stmt ?_
    refine L_seq ?_
    refine L_stmt ?_
    refine L_reg ?_
    refine G_h (v := .agg (cT t1)) rfl rfl rfl (fun _ => rfl) ?_
    obtain ⟨r6, hr6, hr⟩ := bind_s hr
    refine G_c 10 rfl rfl (CA_of (as := [.agg (cT t1)]) rfl (oRight_ok hr6)) ?_
    refine G_p rfl rfl rfl ?_
    refine G_nil ?_
    refine L_nil ?_
    refine Sm_norm (e2 := [(1, .ptr 0 0), (3, .bool r2), (5, .ptr 1 0), (6, .int .i64 r4.2), (23, .bool (!r6))]) (H1 := [(kg026 t1), .cells [.int .i64 r4.1.kind, .str r4.1.text, .lst (List.map encDt r4.1.list) false]]) (H2 := [(kg026 t1), .cells [.int .i64 r4.1.kind, .str r4.1.text, .lst (List.map encDt r4.1.list) false]]) rfl (by repeat (first | exact rzz | apply rcc rfl | apply rnn rfl)) rfl (?_ : GL _ _ _ _ _)
    rcases cond_s hr with ⟨hc23, hr⟩ | ⟨hc23, hr⟩
    · refine L_T rfl hc23 ?_
      refine L_seq ?_
      refine L_reg ?_
      refine G_p rfl rfl rfl ?_
      refine G_p rfl rfl rfl ?_
      refine G_and (f := (decide (r4.2 = 1))) [_, _] rfl rfl ?_ ?_
      · intro hb25
        refine G_p rfl rfl rfl ?_
        refine G_p rfl rfl rfl ?_
        exact G_nil (L_nil ⟨rfl, rfl, rfl⟩)
      · intro vs hvs
        obtain ⟨u26, u27, rfl⟩ := len2 hvs
        dsimp only [junk]
        refine G_p rfl rfl rfl ?_
        refine G_nil ?_
        refine L_ret ?_
        refine Sm_ret ?_
        have hr := some_s hr
        subst hr
        exact ⟨_, rfl, _, rfl, rfl⟩
    · refine L_F rfl hc23 ?_
      refine L_skip ?_
      refine L_nil ?_
      refine Sm_norm (e2 := [(1, .ptr 0 0), (3, .bool r2), (5, .ptr 1 0), (6, .int .i64 r4.2)]) (H1 := [(kg026 t1), .cells [.int .i64 r4.1.kind, .str r4.1.text, .lst (List.map encDt r4.1.list) false]]) (H2 := [(kg026 t1), .cells [.int .i64 r4.1.kind, .str r4.1.text, .lst (List.map encDt r4.1.list) false]]) rfl (by repeat (first | exact rzz | apply rcc rfl | apply rnn rfl)) rfl (?_ : GL _ _ _ _ _)
      refine L_seq ?_
      refine L_stmt ?_
      refine L_reg ?_
      refine G_h (v := .agg (cDt r4.1)) rfl rfl rfl (fun _ => rfl) ?_
      obtain ⟨r7, hr7, hr⟩ := bind_s hr
      refine G_c 29 rfl rfl (CA_of (as := [.agg (cDt r4.1)]) rfl (g_types_Read_ok hr7)) ?_
      refine G_p (v := .tup [.agg (cT r7.1), .int .i64 r7.2]) rfl rfl rfl ?_
      refine G_p (v := .agg (cT r7.1)) rfl rfl rfl ?_
      refine G_p rfl rfl rfl ?_
      refine G_n (B := .cells [.bool false, .int .i64 0, .int .i64 0, .lst [] true, .int .i64 0, .lst [] true]) rfl rfl rfl ?_
      refine G_hn (H' := [(kg026 t1), .cells [.int .i64 r4.1.kind, .str r4.1.text, .lst (List.map encDt r4.1.list) false], .cells [.bool r7.1.all, .int .i64 r7.1.flat, .int .i64 r7.1.pair, .lst (List.map encT r7.1.pairs) false, .int .i64 r7.1.fn, .lst (List.map encT r7.1.funs) false]]) rfl rfl rfl (fun _ => rfl) ?_
      refine G_p rfl rfl rfl ?_
      refine G_nil ?_
      refine L_nil ?_
      refine Sm_norm (e2 := [(1, .ptr 0 0), (3, .bool r2), (6, .int .i64 r4.2), (7, .ptr 2 0), (8, .int .i64 r7.2)]) (H1 := [(kg026 t1), .cells [.int .i64 r4.1.kind, .str r4.1.text, .lst (List.map encDt r4.1.list) false], .cells [.bool r7.1.all, .int .i64 r7.1.flat, .int .i64 r7.1.pair, .lst (List.map encT r7.1.pairs) false, .int .i64 r7.1.fn, .lst (List.map encT r7.1.funs) false]]) (H2 := [(kg026 t1), .cells [.int .i64 r4.1.kind, .str r4.1.text, .lst (List.map encDt r4.1.list) false], .cells [.bool r7.1.all, .int .i64 r7.1.flat, .int .i64 r7.1.pair, .lst (List.map encT r7.1.pairs) false, .int .i64 r7.1.fn, .lst (List.map encT r7.1.funs) false]]) rfl (by repeat (first | exact rzz | apply rcc rfl | apply rnn rfl)) rfl (?_ : GL _ _ _ _ _)
      refine L_seq ?_
      refine L_stmt ?_
      refine L_reg ?_
      refine G_h (v := .agg (cT t1)) rfl rfl rfl (fun _ => rfl) ?_
      refine G_h (v := .agg (cT r7.1)) rfl rfl rfl (fun _ => rfl) ?_
      obtain ⟨r8, hr8, hr⟩ := bind_s hr
      refine G_c 13 rfl rfl (CA_of (as := [.agg (cT t1), .agg (cT r7.1)]) rfl (oSameT_ok hr8)) ?_
      refine G_p rfl rfl rfl ?_
      refine G_nil ?_
      refine L_nil ?_
      refine Sm_norm (e2 := [(3, .bool r2), (6, .int .i64 r4.2), (8, .int .i64 r7.2), (9, .bool r8)]) (H1 := [(kg026 t1), .cells [.int .i64 r4.1.kind, .str r4.1.text, .lst (List.map encDt r4.1.list) false], .cells [.bool r7.1.all, .int .i64 r7.1.flat, .int .i64 r7.1.pair, .lst (List.map encT r7.1.pairs) false, .int .i64 r7.1.fn, .lst (List.map encT r7.1.funs) false]]) (H2 := [(kg026 t1), .cells [.int .i64 r4.1.kind, .str r4.1.text, .lst (List.map encDt r4.1.list) false], .cells [.bool r7.1.all, .int .i64 r7.1.flat, .int .i64 r7.1.pair, .lst (List.map encT r7.1.pairs) false, .int .i64 r7.1.fn, .lst (List.map encT r7.1.funs) false]]) rfl (by repeat (first | exact rzz | apply rcc rfl | apply rnn rfl)) rfl (?_ : GL _ _ _ _ _)
      refine L_seq ?_
      refine L_reg ?_
      refine G_p rfl rfl rfl ?_
      refine G_p rfl rfl rfl ?_
      refine G_and (f := (decide (r4.2 = 0))) [_, _] rfl rfl ?_ ?_
      · intro hb38
        refine G_p rfl rfl rfl ?_
        refine G_p rfl rfl rfl ?_
        exact G_nil (L_nil ⟨rfl, rfl, rfl⟩)
      · intro vs hvs
        obtain ⟨u39, u40, rfl⟩ := len2 hvs
        dsimp only [junk]
        refine G_p rfl rfl rfl ?_
        refine G_and (f := (decide (r7.2 = 0))) [_, _] rfl rfl ?_ ?_
        · intro hb42
          refine G_p rfl rfl rfl ?_
          refine G_p rfl rfl rfl ?_
          exact G_nil (L_nil ⟨rfl, rfl, rfl⟩)
        · intro vs hvs
          obtain ⟨u43, u44, rfl⟩ := len2 hvs
          dsimp only [junk]
          refine G_p rfl rfl rfl ?_
          refine G_and (f := r8) [_] rfl rfl ?_ ?_
          · intro hb46
            refine G_p rfl rfl rfl ?_
            exact G_nil (L_nil ⟨rfl, rfl, rfl⟩)
          · intro vs hvs
            obtain ⟨u47, rfl⟩ := len1 hvs
            dsimp only [junk]
            refine G_p rfl rfl rfl ?_
            refine G_nil ?_
            refine L_ret ?_
            have hr := some_s hr
            subst hr
            exact ⟨_, rfl, _, rfl, rfl⟩
end Go.Ev.Seat
namespace Go.Ev
set_option linter.unusedVariables false
set_option linter.unusedSimpArgs false
open Go
theorem getD_mem {l : List Ty} {i : Nat} (h : i < l.length) : l.getD i zeroT ∈ l := by
  simp [List.getD, List.getElem?_eq_getElem h]
theorem all_congr {n : Nat} {p q : Nat → Bool} (h : ∀ i, i < n → p i = q i) : (List.range n).all p = (List.range n).all q := by
  rw [Bool.eq_iff_iff, List.all_eq_true, List.all_eq_true]
  constructor
  · intro h1 i hi; rw [← h i (List.mem_range.1 hi)]; exact h1 i hi
  · intro h1 i hi; rw [h i (List.mem_range.1 hi)]; exact h1 i hi
theorem fn_facts {t : Ty} (h : Rt t) : t.fn = 0 ∨ t.fn = 2 ∨ (t.fn = 1 ∧ 1 ≤ t.funs.length) := by
  have f := okT_facts h.ok
  by_cases q : t.fn = 1
  · exact .inr (.inr ⟨q, (f.2.2.2.2.2.2.2.1 q).1⟩)
  · omega
theorem subT_step : ∀ (k : Nat) (a b : Ty), Rt a → Rt b → szT a + szT b ≤ k → subT (k + 1) a b = subT k a b
  | 0, a, b, _, _, h => by have := szT_pos a; omega
  | k + 1, a, b, ha, hb, h => by
    have ih := subT_step k
    cases hB : b.all with
    | true => simp [subT, hB]
    | false =>
      cases hA : a.all with
      | true => simp [subT, hA, hB]
      | false =>
        rw [subT_conj (k + 1) a b hB hA, subT_conj k a b hB hA]
        congr 1
        · congr 1
          by_cases hp : a.pair = 0
          · simp [hp]
          · by_cases hq : b.pair = 0
            · simp [hp, hq]
            · have c1 := car_facts ha hA hp
              have c2 := car_facts hb hB hq
              have d1 := cdr_facts ha hA hp
              have d2 := cdr_facts hb hB hq
              rw [ih _ _ c1.2.1 c2.2.1 (by omega)]
              by_cases hl : a.pair = 2 ∧ b.pair = 2
              · simp [hl]
              · have fa := (okT_facts ha.ok).2.1
                have fb := (okT_facts hb.ok).2.1
                rw [ih _ _ d1.2.2 d2.2.2 (by
                  rcases (show a.pair = 1 ∨ a.pair = 2 by omega) with q | q <;> rcases (show b.pair = 1 ∨ b.pair = 2 by omega) with r | r
                  · have := (d1.1 q).2; have := (d2.1 r).2; omega
                  · have := (d1.1 q).2; have := (d2.2.1 r).2; omega
                  · have := (d1.2.1 q).2; have := (d2.1 r).2; omega
                  · exact absurd ⟨q, r⟩ hl)]
        · by_cases hf0 : a.fn = 0
          · simp [hf0]
          congr 1
          congr 1
          congr 1
          by_cases hl : b.funs.length = a.funs.length
          · rcases fn_facts ha with q | q | ⟨_, q⟩
            · exact absurd q hf0
            · simp [q]
            · have key : ∀ i, i < a.funs.length → (a.funs.getD i zeroT ∈ a.funs ∧ szT (a.funs.getD i zeroT) < szT a) ∧ (b.funs.getD i zeroT ∈ b.funs ∧ szT (b.funs.getD i zeroT) < szT b) := by
                intro i hi
                have m1 := getD_mem hi
                have m2 := getD_mem (l := b.funs) (i := i) (by omega)
                exact ⟨⟨m1, szT_funs m1⟩, ⟨m2, szT_funs m2⟩⟩
              rw [all_congr (q := fun i => subT k (b.funs.getD i zeroT) (a.funs.getD i zeroT)) (fun i hi => by
                have := key i (by omega)
                exact ih _ _ (hb.funs this.2.1) (ha.funs this.1.1) (by omega))]
              have := key (a.funs.length - 1) (by omega)
              rw [ih _ _ (ha.funs this.1.1) (hb.funs this.2.1) (by omega)]
          · simp [hl]
def S (a b : Ty) : Bool := subT (szT a + szT b) a b
theorem subT_S : ∀ (k : Nat) (a b : Ty), Rt a → Rt b → szT a + szT b ≤ k → subT k a b = S a b
  | 0, a, b, _, _, h => by have := szT_pos a; omega
  | k + 1, a, b, ha, hb, h => by
    rcases Nat.lt_or_ge k (szT a + szT b) with q | q
    · have : k + 1 = szT a + szT b := by omega
      rw [this]; rfl
    · rw [subT_step k a b ha hb q]; exact subT_S k a b ha hb q
theorem S_all {a b : Ty} (h : b.all = true) : S a b = true := by
  unfold S
  have := szT_pos a
  obtain ⟨k, hk⟩ : ∃ k, szT a + szT b = k + 1 := ⟨szT a + szT b - 1, by omega⟩
  rw [hk]; simp [subT, h]
structure SubP (a b : Ty) : Prop where
  flat : subF a.flat b.flat = true
  pair : a.pair ≠ 0 → b.pair ≠ 0 ∧ S (carT a) (carT b) = true ∧ (¬(a.pair = 2 ∧ b.pair = 2) → S (cdrT a) (cdrT b) = true)
  fn : a.fn ≠ 0 → b.fn ≠ 0 ∧ (b.fn ≠ 2 → a.fn ≠ 2 ∧ b.funs.length = a.funs.length ∧ (∀ i, i < a.funs.length - 1 → S (b.funs.getD i zeroT) (a.funs.getD i zeroT) = true) ∧
    S (a.funs.getD (a.funs.length - 1) zeroT) (b.funs.getD (a.funs.length - 1) zeroT) = true)
theorem S_iff {a b : Ty} (ha : Rt a) (hb : Rt b) (hA : a.all = false) (hB : b.all = false) : S a b = true ↔ SubP a b := by
  have pa := szT_pos a
  obtain ⟨k, hk⟩ : ∃ k, szT a + szT b = k + 1 := ⟨szT a + szT b - 1, by omega⟩
  have e1 : a.pair ≠ 0 → b.pair ≠ 0 → subT k (carT a) (carT b) = S (carT a) (carT b) := by
    intro hp hq
    have c1 := car_facts ha hA hp
    have c2 := car_facts hb hB hq
    exact subT_S _ _ _ c1.2.1 c2.2.1 (by omega)
  have e2 : a.pair ≠ 0 → b.pair ≠ 0 → ¬(a.pair = 2 ∧ b.pair = 2) → subT k (cdrT a) (cdrT b) = S (cdrT a) (cdrT b) := by
    intro hp hq hl
    have d1 := cdr_facts ha hA hp
    have d2 := cdr_facts hb hB hq
    have fa := (okT_facts ha.ok).2.1
    have fb := (okT_facts hb.ok).2.1
    refine subT_S _ _ _ d1.2.2 d2.2.2 ?_
    rcases (show a.pair = 1 ∨ a.pair = 2 by omega) with q | q <;> rcases (show b.pair = 1 ∨ b.pair = 2 by omega) with r | r
    · have := (d1.1 q).2; have := (d2.1 r).2; omega
    · have := (d1.1 q).2; have := (d2.2.1 r).2; omega
    · have := (d1.2.1 q).2; have := (d2.1 r).2; omega
    · exact absurd ⟨q, r⟩ hl
  have key : b.funs.length = a.funs.length → ∀ i, i < a.funs.length → (a.funs.getD i zeroT ∈ a.funs ∧ szT (a.funs.getD i zeroT) < szT a) ∧ (b.funs.getD i zeroT ∈ b.funs ∧ szT (b.funs.getD i zeroT) < szT b) := by
    intro hl i hi
    have m1 := getD_mem hi
    have m2 := getD_mem (l := b.funs) (i := i) (by omega)
    exact ⟨⟨m1, szT_funs m1⟩, ⟨m2, szT_funs m2⟩⟩
  have e3 : b.funs.length = a.funs.length → ∀ i, i < a.funs.length → subT k (b.funs.getD i zeroT) (a.funs.getD i zeroT) = S (b.funs.getD i zeroT) (a.funs.getD i zeroT) := by
    intro hl i hi
    have := key hl i hi
    exact subT_S _ _ _ (hb.funs this.2.1) (ha.funs this.1.1) (by omega)
  have e4 : b.funs.length = a.funs.length → a.fn = 1 → subT k (a.funs.getD (a.funs.length - 1) zeroT) (b.funs.getD (a.funs.length - 1) zeroT) = S (a.funs.getD (a.funs.length - 1) zeroT) (b.funs.getD (a.funs.length - 1) zeroT) := by
    intro hl hf
    have := ((okT_facts ha.ok).2.2.2.2.2.2.2.1 hf).1
    have := key hl (a.funs.length - 1) (by omega)
    exact subT_S _ _ _ (ha.funs this.1.1) (hb.funs this.2.1) (by omega)
  have fa := (okT_facts ha.ok).2.2.1
  rw [S, hk, subT_conj k a b hB hA]
  simp only [Bool.and_eq_true, Bool.or_eq_true, decide_eq_true_eq, Bool.not_eq_true', decide_eq_false_iff_not, List.all_eq_true, List.mem_range]
  constructor
  · rintro ⟨⟨h1, h2⟩, h3⟩
    refine ⟨h1, fun hp => ?_, fun hf => ?_⟩
    · rcases h2 with h2 | ⟨⟨h2, h4⟩, h5⟩
      · exact absurd h2 hp
      · refine ⟨h2, by rw [← e1 hp h2]; exact h4, fun hl => ?_⟩
        rcases h5 with h5 | h5
        · exact absurd h5 hl
        · rw [← e2 hp h2 hl]; exact h5
    · rcases h3 with h3 | ⟨h3, h4⟩
      · exact absurd h3 hf
      · refine ⟨h3, fun h2 => ?_⟩
        rcases h4 with h4 | ⟨⟨⟨h4, h5⟩, h6⟩, h7⟩
        · exact absurd h4 h2
        · exact ⟨h4, h5, fun i hi => by rw [← e3 h5 i (by omega)]; exact h6 i hi, by rw [← e4 h5 (by omega)]; exact h7⟩
  · rintro ⟨h1, h2, h3⟩
    refine ⟨⟨h1, ?_⟩, ?_⟩
    · by_cases hp : a.pair = 0
      · exact .inl hp
      · obtain ⟨q1, q2, q3⟩ := h2 hp
        refine .inr ⟨⟨q1, by rw [e1 hp q1]; exact q2⟩, ?_⟩
        by_cases hl : a.pair = 2 ∧ b.pair = 2
        · exact .inl hl
        · exact .inr (by rw [e2 hp q1 hl]; exact q3 hl)
    · by_cases hf : a.fn = 0
      · exact .inl hf
      · obtain ⟨q1, q2⟩ := h3 hf
        refine .inr ⟨q1, ?_⟩
        by_cases h2 : b.fn = 2
        · exact .inl h2
        · obtain ⟨r1, r2, r3, r4⟩ := q2 h2
          exact .inr ⟨⟨⟨r1, r2⟩, fun i hi => by rw [e3 r2 i (by omega)]; exact r3 i hi⟩, by rw [e4 r2 (by omega)]; exact r4⟩
theorem subF_refl (a : Int) : subF a a = true := by simp [subF]
theorem S_refl : ∀ (n : Nat) (a : Ty), szT a ≤ n → Rt a → S a a = true
  | 0, a, h, _ => by have := szT_pos a; omega
  | n + 1, a, h, ha => by
    cases hA : a.all with
    | true => exact S_all hA
    | false =>
      refine (S_iff ha ha hA hA).2 ⟨subF_refl _, fun hp => ?_, fun hf => ?_⟩
      · have c := car_facts ha hA hp
        have d := cdr_facts ha hA hp
        refine ⟨hp, S_refl n _ (by omega) c.2.1, fun hl => ?_⟩
        have fa := (okT_facts ha.ok).2.1
        have := (d.1 (by omega)).2
        exact S_refl n _ (by omega) d.2.2
      · refine ⟨hf, fun h2 => ⟨h2, rfl, fun i hi => ?_, ?_⟩⟩
        · have m := getD_mem (l := a.funs) (i := i) (by omega)
          have := szT_funs m
          exact S_refl n _ (by omega) (ha.funs m)
        · have fa := (okT_facts ha.ok)
          have := (fa.2.2.2.2.2.2.2.1 (by have := fa.2.2.1; omega)).1
          have m := getD_mem (l := a.funs) (i := a.funs.length - 1) (by omega)
          have := szT_funs m
          exact S_refl n _ (by omega) (ha.funs m)
end Go.Ev
namespace Go.Ev
set_option linter.unusedVariables false
set_option linter.unusedSimpArgs false
open Go
theorem cd_small {a b : Ty} (ha : Rt a) (hb : Rt b) (hA : a.all = false) (hB : b.all = false) (hp : a.pair ≠ 0) (hq : b.pair ≠ 0) : Rt (carT a) ∧ Rt (carT b) ∧ szT (carT a) + szT (carT b) < szT a + szT b ∧ Rt (cdrT a) ∧ Rt (cdrT b) ∧ (¬(a.pair = 2 ∧ b.pair = 2) → szT (cdrT a) + szT (cdrT b) < szT a + szT b) := by
  have c1 := car_facts ha hA hp
  have c2 := car_facts hb hB hq
  have d1 := cdr_facts ha hA hp
  have d2 := cdr_facts hb hB hq
  have fa := (okT_facts ha.ok).2.1
  have fb := (okT_facts hb.ok).2.1
  refine ⟨c1.2.1, c2.2.1, by omega, d1.2.2, d2.2.2, fun hl => ?_⟩
  rcases (show a.pair = 1 ∨ a.pair = 2 by omega) with q | q <;> rcases (show b.pair = 1 ∨ b.pair = 2 by omega) with r | r
  · have := (d1.1 q).2; have := (d2.1 r).2; omega
  · have := (d1.1 q).2; have := (d2.2.1 r).2; omega
  · have := (d1.2.1 q).2; have := (d2.1 r).2; omega
  · exact absurd ⟨q, r⟩ hl
theorem joinT_step : ∀ (k : Nat) (a b : Ty), Rt a → Rt b → szT a + szT b ≤ k → joinT (k + 1) a b = joinT k a b
  | 0, a, b, _, _, h => by have := szT_pos a; omega
  | k + 1, a, b, ha, hb, h => by
    have ih := joinT_step k
    cases hAB : (a.all || b.all) with
    | true => rw [joinT_all _ _ _ hAB, joinT_all _ _ _ hAB]
    | false =>
      have e : joinP (k + 1) a b = joinP k a b := by
        simp only [Bool.or_eq_false_iff] at hAB
        unfold joinP
        split
        · rfl
        · rename_i hp
          split
          · rfl
          · rename_i hq
            obtain ⟨c1, c2, c3, d1, d2, d3⟩ := cd_small ha hb hAB.1 hAB.2 hp hq
            split
            · rw [ih _ _ c1 c2 (by omega)]
            · rename_i hl
              rw [ih _ _ c1 c2 (by omega), ih _ _ d1 d2 (by have := d3 hl; omega)]
      rw [joinT_succ _ _ _ hAB, joinT_succ _ _ _ hAB, e]
def J (a b : Ty) : Ty := joinT (szT a + szT b) a b
theorem joinT_J : ∀ (k : Nat) (a b : Ty), Rt a → Rt b → szT a + szT b ≤ k → joinT k a b = J a b
  | 0, a, b, _, _, h => by have := szT_pos a; omega
  | k + 1, a, b, ha, hb, h => by
    rcases Nat.lt_or_ge k (szT a + szT b) with q | q
    · have : k + 1 = szT a + szT b := by omega
      rw [this]; rfl
    · rw [joinT_step k a b ha hb q]; exact joinT_J k a b ha hb q
theorem J_all {a b : Ty} (h : (a.all || b.all) = true) : J a b = allT := by
  unfold J
  have := szT_pos a
  obtain ⟨k, hk⟩ : ∃ k, szT a + szT b = k + 1 := ⟨szT a + szT b - 1, by omega⟩
  rw [hk]; exact joinT_all _ _ _ h
def JP (a b : Ty) : Int × List Ty := if a.pair = 0 then (b.pair, b.pairs) else if b.pair = 0 then (a.pair, a.pairs)
        else if a.pair = 2 ∧ b.pair = 2 then (2, [J (carT a) (carT b)]) else (1, [J (carT a) (carT b), J (cdrT a) (cdrT b)])
theorem J_eq {a b : Ty} (ha : Rt a) (hb : Rt b) (hA : a.all = false) (hB : b.all = false) : J a b = ⟨false, orF a.flat b.flat, (JP a b).1, (JP a b).2, (joinG a b).1, (joinG a b).2⟩ := by
  have := szT_pos a
  obtain ⟨k, hk⟩ : ∃ k, szT a + szT b = k + 1 := ⟨szT a + szT b - 1, by omega⟩
  have e : joinP k a b = JP a b := by
    unfold joinP JP
    split
    · rfl
    · rename_i hp
      split
      · rfl
      · rename_i hq
        obtain ⟨c1, c2, c3, d1, d2, d3⟩ := cd_small ha hb hA hB hp hq
        split
        · rw [joinT_J _ _ _ c1 c2 (by omega)]
        · rename_i hl
          rw [joinT_J _ _ _ c1 c2 (by omega), joinT_J _ _ _ d1 d2 (by have := d3 hl; omega)]
  rw [J, hk, joinT_succ _ _ _ (by simp [hA, hB]), e]
mutual
theorem sameT_eq' : ∀ a b : Ty, sameT a b = true → a = b
  | .mk a f p ps g gs, .mk a' f' p' ps' g' gs', h => by
    simp only [sameT, Bool.and_eq_true, beq_iff_eq, decide_eq_true_eq] at h
    obtain ⟨⟨⟨⟨⟨h1, h2⟩, h3⟩, h4⟩, h5⟩, h6⟩ := h
    rw [h1, h2, h3, h4, sameTs_eq' ps ps' h5, sameTs_eq' gs gs' h6]
theorem sameTs_eq' : ∀ a b : List Ty, sameTs a b = true → a = b
  | [], [], _ => rfl
  | x :: xs, y :: ys, h => by
    simp only [sameTs, Bool.and_eq_true] at h
    rw [sameT_eq' x y h.1, sameTs_eq' xs ys h.2]
  | [], _ :: _, h => by simp [sameTs] at h
  | _ :: _, [], h => by simp [sameTs] at h
end
theorem sameTs_refl (l : List Ty) : sameTs l l = true := by
  induction l with
  | nil => rfl
  | cons x xs ih =>
    simp only [sameTs, ih, Bool.and_true]
    refine Ty.rec (motive_1 := fun t => sameT t t = true) (motive_2 := fun l => sameTs l l = true) ?_ rfl ?_ x
    · intro a f p ps g gs h1 h2; simp [sameT, h1, h2]
    · intro x xs h1 h2; simp [sameTs, h1, h2]
theorem joinG_cases (a b : Ty) : (a.fn = 0 ∧ joinG a b = (b.fn, b.funs)) ∨ (a.fn ≠ 0 ∧ b.fn = 0 ∧ joinG a b = (a.fn, a.funs)) ∨ (a.fn ≠ 0 ∧ b.fn ≠ 0 ∧ a.fn = b.fn ∧ a.funs = b.funs ∧ joinG a b = (a.fn, a.funs)) ∨
    (a.fn ≠ 0 ∧ b.fn ≠ 0 ∧ ¬(a.fn = b.fn ∧ a.funs = b.funs) ∧ joinG a b = (2, [])) := by
  unfold joinG
  by_cases h1 : a.fn = 0
  · exact .inl ⟨h1, by rw [if_pos h1]⟩
  · right
    by_cases h2 : b.fn = 0
    · exact .inl ⟨h1, h2, by rw [if_neg h1, if_neg (by simp [h2])]⟩
    · right
      by_cases h3 : a.fn = b.fn ∧ sameTs a.funs b.funs = true
      · exact .inl ⟨h1, h2, h3.1, sameTs_eq' _ _ h3.2, by rw [if_neg h1, if_neg (by simp [h2, h3])]⟩
      · refine .inr ⟨h1, h2, ?_, by rw [if_neg h1, if_pos ⟨h2, h3⟩]⟩
        rintro ⟨q1, q2⟩
        exact h3 ⟨q1, by rw [q2]; exact sameTs_refl _⟩
theorem fn_refl {a j : Ty} (ha : Rt a) (e1 : j.fn = a.fn) (e2 : j.funs = a.funs) : a.fn ≠ 0 → j.fn ≠ 0 ∧ (j.fn ≠ 2 → a.fn ≠ 2 ∧ j.funs.length = a.funs.length ∧ (∀ i, i < a.funs.length - 1 → S (j.funs.getD i zeroT) (a.funs.getD i zeroT) = true) ∧
    S (a.funs.getD (a.funs.length - 1) zeroT) (j.funs.getD (a.funs.length - 1) zeroT) = true) := by
  intro hf
  rw [e1, e2]
  refine ⟨hf, fun h2 => ⟨h2, rfl, fun i hi => S_refl _ _ (Nat.le_refl _) (ha.funs (getD_mem (by omega))), ?_⟩⟩
  have fa := okT_facts ha.ok
  have := (fa.2.2.2.2.2.2.2.1 (by have := fa.2.2.1; omega)).1
  exact S_refl _ _ (Nat.le_refl _) (ha.funs (getD_mem (by omega)))
theorem pair_refl {a j : Ty} (ha : Rt a) (hA : a.all = false) (hJ : j.all = false) (e1 : j.pair = a.pair) (e2 : j.pairs = a.pairs) : a.pair ≠ 0 → j.pair ≠ 0 ∧ S (carT a) (carT j) = true ∧ (¬(a.pair = 2 ∧ j.pair = 2) → S (cdrT a) (cdrT j) = true) := by
  intro hp
  have c := car_facts ha hA hp
  have d := cdr_facts ha hA hp
  have q1 : carT j = carT a := by simp [carT, hJ, hA, e1, e2]
  have q2 : cdrT j = cdrT a := by simp [cdrT, hJ, hA, e1, e2]
  rw [q1, q2, e1]
  exact ⟨hp, S_refl _ _ (Nat.le_refl _) c.2.1, fun _ => S_refl _ _ (Nat.le_refl _) d.2.2⟩
theorem subF_or_l {a b : Int} : subF a (orF a b) = true := by
  have : a.toNat &&& (a.toNat ||| b.toNat) = a.toNat := by
    apply Nat.eq_of_testBit_eq; intro i; simp only [Nat.testBit_and, Nat.testBit_or]; cases a.toNat.testBit i <;> simp
  simp [subF, orF, this]
theorem orF_comm (a b : Int) : orF a b = orF b a := by simp [orF, Nat.or_comm]
section
variable {f p g : Int} {ps gs : List Ty}
theorem mk_all : (Ty.mk false f p ps g gs).all = false := rfl
theorem mk_flat : (Ty.mk false f p ps g gs).flat = f := rfl
theorem mk_pair : (Ty.mk false f p ps g gs).pair = p := rfl
theorem mk_pairs : (Ty.mk false f p ps g gs).pairs = ps := rfl
theorem mk_fn : (Ty.mk false f p ps g gs).fn = g := rfl
theorem mk_funs : (Ty.mk false f p ps g gs).funs = gs := rfl
end
theorem JP_cases (a b : Ty) : (a.pair = 0 ∧ JP a b = (b.pair, b.pairs)) ∨ (a.pair ≠ 0 ∧ b.pair = 0 ∧ JP a b = (a.pair, a.pairs)) ∨ (a.pair ≠ 0 ∧ b.pair ≠ 0 ∧ (a.pair = 2 ∧ b.pair = 2) ∧ JP a b = (2, [J (carT a) (carT b)])) ∨
    (a.pair ≠ 0 ∧ b.pair ≠ 0 ∧ ¬(a.pair = 2 ∧ b.pair = 2) ∧ JP a b = (1, [J (carT a) (carT b), J (cdrT a) (cdrT b)])) := by
  unfold JP
  by_cases h1 : a.pair = 0
  · exact .inl ⟨h1, by rw [if_pos h1]⟩
  · right
    by_cases h2 : b.pair = 0
    · exact .inl ⟨h1, h2, by rw [if_neg h1, if_pos h2]⟩
    · right
      by_cases h3 : a.pair = 2 ∧ b.pair = 2
      · exact .inl ⟨h1, h2, h3, by rw [if_neg h1, if_neg h2, if_pos h3]⟩
      · exact .inr ⟨h1, h2, h3, by rw [if_neg h1, if_neg h2, if_neg h3]⟩
theorem join_l : ∀ (n : Nat) (a b : Ty), szT a + szT b ≤ n → Rt a → Rt b → Rt (J a b) → S a (J a b) = true
  | 0, a, b, h, _, _, _ => by have := szT_pos a; omega
  | n + 1, a, b, h, ha, hb, hj => by
    have ih := join_l n
    cases hAB : (a.all || b.all) with
    | true => rw [J_all hAB]; exact S_all rfl
    | false =>
      simp only [Bool.or_eq_false_iff] at hAB
      have hJ := J_eq ha hb hAB.1 hAB.2
      rw [hJ] at hj ⊢
      refine (S_iff ha hj hAB.1 rfl).2 ⟨subF_or_l, ?_, ?_⟩
      · rcases JP_cases a b with ⟨q, _⟩ | ⟨q1, q2, e⟩ | ⟨q1, q2, q3, e⟩ | ⟨q1, q2, q3, e⟩
        · exact fun hp => absurd q hp
        · rw [e] at hj ⊢; exact pair_refl ha hAB.1 rfl rfl rfl
        · obtain ⟨c1, c2, c3, d1, d2, d3⟩ := cd_small ha hb hAB.1 hAB.2 q1 q2
          rw [e] at hj ⊢
          refine fun hp => ⟨by simp [mk_pair], ?_, fun hl => absurd ⟨q3.1, rfl⟩ hl⟩
          have ec : carT (Ty.mk false (orF a.flat b.flat) 2 [J (carT a) (carT b)] (joinG a b).1 (joinG a b).2) = J (carT a) (carT b) := by simp [carT, Ty.all, Ty.pair, Ty.pairs]
          rw [ec]
          exact ih _ _ (by omega) c1 c2 (hj.pairs (by simp [mk_pairs]))
        · obtain ⟨c1, c2, c3, d1, d2, d3⟩ := cd_small ha hb hAB.1 hAB.2 q1 q2
          have d3 := d3 q3
          rw [e] at hj ⊢
          refine fun hp => ⟨by simp [mk_pair], ?_, fun hl => ?_⟩
          · have ec : carT (Ty.mk false (orF a.flat b.flat) 1 [J (carT a) (carT b), J (cdrT a) (cdrT b)] (joinG a b).1 (joinG a b).2) = J (carT a) (carT b) := by simp [carT, Ty.all, Ty.pair, Ty.pairs]
            rw [ec]
            exact ih _ _ (by omega) c1 c2 (hj.pairs (by simp [mk_pairs]))
          · have ec : cdrT (Ty.mk false (orF a.flat b.flat) 1 [J (carT a) (carT b), J (cdrT a) (cdrT b)] (joinG a b).1 (joinG a b).2) = J (cdrT a) (cdrT b) := by simp [cdrT, Ty.all, Ty.pair, Ty.pairs]
            rw [ec]
            exact ih _ _ (by omega) d1 d2 (hj.pairs (by simp [mk_pairs]))
      · rcases joinG_cases a b with ⟨q, _⟩ | ⟨q1, q2, e⟩ | ⟨q1, q2, q3, q4, e⟩ | ⟨q1, q2, q3, e⟩
        · exact fun hp => absurd q hp
        · rw [e]; exact fn_refl ha rfl rfl
        · rw [e]; exact fn_refl ha rfl rfl
        · rw [e]; exact fun _ => ⟨by simp [mk_fn], fun h2 => absurd rfl h2⟩
theorem orF_zero {a : Int} (h : 0 ≤ a) : orF a 0 = a := by simp [orF]; omega
end Go.Ev
namespace Go.Ev.Seat
set_option linter.unusedVariables false
set_option linter.unusedSimpArgs false
open Go Go.Ev
def W (s : List UInt8) : Dt := .mk 1 s []
def Row (l : List Dt) : Dt := .mk 5 [] l
def stepL {α : Type} (b : Bool) (l : List α) (w : α) : List α := if b then l ++ [w] else l
theorem stepL_len {α : Type} (b : Bool) (l : List α) (w : α) : (stepL b l w).length ≤ l.length + 1 := by unfold stepL; split <;> simp
theorem catL_ok {α : Type} (l : List α) (x : α) (h : l.length < 1000) : catL l [x] = some (l ++ [x]) := by unfold catL; rw [if_pos (by simp; omega)]
def bit (f k : Int) : Bool := !decide (andB .i64 f k = 0)
def isList (t : Ty) : Bool := decide (t.pair = 2) && bit t.flat 16
def flatsD (t : Ty) : List Dt :=
  stepL (bit t.flat 32) (stepL (bit t.flat 16 && !isList t) (stepL (bit t.flat 8) (stepL (bit t.flat 4) (stepL (bit t.flat 2) (stepL (bit t.flat 1) [] (W [73, 110, 116])) (W [66, 111, 111, 108])) (W [83, 116, 114])) (W [83, 121, 109])) (W [78, 117, 108, 108])) (W [86, 111, 105, 100])
def nameP (t : Ty) : List UInt8 := if isList t then [76, 105, 115, 116] else if t.pair = 2 then [76, 105, 115, 116, 49] else [80, 97, 105, 114]
def finD : List Dt → Dt
  | [] => W [78, 111, 116, 104, 105, 110, 103]
  | [p] => p
  | ps => Row (W [85] :: ps)
def pairD (t : Ty) (a : List Dt) : List Dt := if t.pair = 1 ∨ t.pair = 2 then flatsD t ++ [Row (W (nameP t) :: a)] else flatsD t
def partsD (t : Ty) (a b : List Dt) : List Dt := if t.fn = 1 then pairD t a ++ [Row (W [45, 62] :: b)] else if t.fn = 2 then pairD t a ++ [W [80, 114, 111, 99]] else pairD t a
theorem flatsD_len (t : Ty) : (flatsD t).length ≤ 6 := by
  unfold flatsD
  refine Nat.le_trans (stepL_len _ _ _) ?_
  refine Nat.succ_le_succ (Nat.le_trans (stepL_len _ _ _) ?_)
  refine Nat.succ_le_succ (Nat.le_trans (stepL_len _ _ _) ?_)
  refine Nat.succ_le_succ (Nat.le_trans (stepL_len _ _ _) ?_)
  refine Nat.succ_le_succ (Nat.le_trans (stepL_len _ _ _) ?_)
  exact Nat.succ_le_succ (Nat.le_trans (stepL_len _ _ _) (by simp))
inductive Tolds (rec : Ty → Option Dt) : List Ty → List Dt → Prop
  | nil : Tolds rec [] []
  | cons {x : Ty} {d : Dt} {xs : List Ty} {ds : List Dt} : rec x = some d → Tolds rec xs ds → Tolds rec (x :: xs) (d :: ds)
theorem Tolds.len {rec : Ty → Option Dt} {xs : List Ty} {ds : List Dt} (h : Tolds rec xs ds) : ds.length = xs.length := by
  induction h with
  | nil => rfl
  | cons _ _ ih => simp [ih]
theorem row_l {rec : Ty → Option Dt} {l0 : List Dt} (h0 : l0.length < 500) : ∀ {xs : List Ty} {ds : List Dt} (i : Nat) (acc : List Dt), Tolds rec xs ds → acc.length + xs.length < 900 → g_xtold_types_told_1_5_l2 rec l0 xs i acc = some (l0 ++ [Row (acc ++ ds)])
  | _, _, i, acc, .nil, h => by
    rw [g_xtold_types_told_1_5_l2, g_xtold_types_told_1_5_j1, g_datum_Row, okLen_of (by simp at h; omega), cond_true, Option.bind_some, catL_ok _ _ (by omega)]
    simp [Row]
  | _, _, i, acc, .cons (x := x) (d := d) (xs := xs) (ds := ds) hx ht, h => by
    simp only [List.length_cons] at h
    rw [g_xtold_types_told_1_5_l2, hx, Option.bind_some, catL_ok _ _ (by omega), Option.bind_some, row_l h0 (i + 1) (acc ++ [d]) ht (by simp; omega)]
    simp
theorem row_l4 {rec : Ty → Option Dt} {l0 : List Dt} (h0 : l0.length < 500) : ∀ {xs : List Ty} {ds : List Dt} (i : Nat) (acc : List Dt), Tolds rec xs ds → acc.length + xs.length < 900 → g_xtold_types_told_1_4_l2 rec l0 xs i acc = some (l0 ++ [Row (acc ++ ds)])
  | _, _, i, acc, .nil, h => by
    rw [g_xtold_types_told_1_4_l2, g_xtold_types_told_1_4_j1, g_datum_Row, okLen_of (by simp at h; omega), cond_true, Option.bind_some, catL_ok _ _ (by omega)]
    simp [Row]
  | _, _, i, acc, .cons (x := x) (d := d) (xs := xs) (ds := ds) hx ht, h => by
    simp only [List.length_cons] at h
    rw [g_xtold_types_told_1_4_l2, hx, Option.bind_some, catL_ok _ _ (by omega), Option.bind_some, row_l4 h0 (i + 1) (acc ++ [d]) ht (by simp; omega)]
    simp
theorem row_5 {rec : Ty → Option Dt} {t : Ty} {l0 : List Dt} (h0 : l0.length < 500) {xs : List Ty} {ds : List Dt} (s : List UInt8) (h : Tolds rec xs ds) (hl : xs.length < 500) : g_xtold_types_told_1_5 rec t l0 s xs = some (l0 ++ [Row (W s :: ds)]) := by
  unfold g_xtold_types_told_1_5
  rw [g_datum_Word, Option.bind_some, okLen_of (by omega), cond_true, row_l h0 0 _ h (by simp; omega)]; rfl
theorem row_4 {rec : Ty → Option Dt} {t : Ty} {l0 : List Dt} (h0 : l0.length < 500) {xs : List Ty} {ds : List Dt} (a b c d : Int) (s : List UInt8) (h : Tolds rec xs ds) (hl : xs.length < 500) : g_xtold_types_told_1_4 rec t l0 a b c d s xs = some (l0 ++ [Row (W s :: ds)]) := by
  unfold g_xtold_types_told_1_4
  rw [g_datum_Word, Option.bind_some, okLen_of (by omega), cond_true, row_l4 h0 0 _ h (by simp; omega)]; rfl
theorem told_j1 (l : List Dt) (h : l.length < 100) : g_types_told_j1 l l = some (finD l) := by
  unfold g_types_told_j1
  cases l with
  | nil => rfl
  | cons p l =>
    cases l with
    | nil => rfl
    | cons q l =>
      have h1 : decide ((((p :: q :: l).length : Nat) : Int) = 0) = false := decide_eq_false (by simp; omega)
      have h2 : decide ((((p :: q :: l).length : Nat) : Int) = 1) = false := decide_eq_false (by simp; omega)
      have hc : catL [W [85]] (p :: q :: l) = some (W [85] :: p :: q :: l) := by unfold catL; rw [if_pos (by simp at h ⊢; omega)]; rfl
      rw [h1, h2, cond_false, cond_false, g_datum_Word, Option.bind_some]
      show (catL [W [85]] (p :: q :: l)).bind _ = _
      rw [hc, Option.bind_some, g_datum_Row, okLen_of (by simp at h ⊢; omega), cond_true]; rfl
theorem told_j2 {rec : Ty → Option Dt} {t : Ty} (l : List Dt) (hl : l.length < 50) {b : List Dt} (hb : Tolds rec t.funs b) (h9 : t.funs.length < 100) (x y z : Int) :
    g_types_told_j2 rec t l x y t.fn z = some (finD (if t.fn = 1 then l ++ [Row (W [45, 62] :: b)] else if t.fn = 2 then l ++ [W [80, 114, 111, 99]] else l)) := by
  unfold g_types_told_j2
  by_cases h1 : t.fn = 1
  · rw [decide_eq_true h1, cond_true, row_4 (by omega) _ _ _ _ _ hb (by omega), Option.bind_some, told_j1 _ (by simp; omega), if_pos h1]
  · rw [decide_eq_false h1, cond_false, if_neg h1]
    by_cases h2 : t.fn = 2
    · rw [decide_eq_true h2, cond_true, g_datum_Word, Option.bind_some]
      show (catL l [W [80, 114, 111, 99]]).bind _ = _
      rw [catL_ok _ _ (by omega), Option.bind_some, told_j1 _ (by simp; omega), if_pos h2]
    · rw [decide_eq_false h2, cond_false, told_j1 _ (by omega), if_neg h2]
theorem told_j3 {rec : Ty → Option Dt} {t : Ty} {a b : List Dt} (ha : Tolds rec t.pairs a) (hb : Tolds rec t.funs b) (h8 : t.pairs.length < 100) (h9 : t.funs.length < 100) : g_types_told_j3 rec t (flatsD t) = some (finD (partsD t a b)) := by
  have hl := flatsD_len t
  have hi : (decide (t.pair = 2) && !decide (andB .i64 t.flat 16 = 0)) = isList t := rfl
  have fin : ∀ l, l = pairD t a → l.length < 50 → ∀ x y z, g_types_told_j2 rec t l x y t.fn z = some (finD (partsD t a b)) := by
    rintro l rfl hl x y z
    exact told_j2 _ hl hb h9 x y z
  unfold g_types_told_j3
  rw [hi]
  cases hL : isList t with
  | true =>
    have h2 : t.pair = 2 := by unfold isList at hL; simp at hL; exact hL.1
    rw [cond_true, row_5 (by omega) _ ha (by omega), Option.bind_some]
    exact fin _ (by unfold pairD nameP; rw [if_pos (.inr h2), if_pos hL]) (by simp; omega) _ _ _
  | false =>
    have hn : ¬ isList t = true := by rw [hL]; simp
    rw [cond_false]
    by_cases h2 : t.pair = 2
    · rw [decide_eq_true h2, cond_true, row_5 (by omega) _ ha (by omega), Option.bind_some]
      exact fin _ (by unfold pairD nameP; rw [if_pos (.inr h2), if_neg hn, if_pos h2]) (by simp; omega) _ _ _
    · rw [decide_eq_false h2, cond_false]
      by_cases h1 : t.pair = 1
      · rw [decide_eq_true h1, cond_true, row_5 (by omega) _ ha (by omega), Option.bind_some]
        exact fin _ (by unfold pairD nameP; rw [if_pos (.inl h1), if_neg hn, if_neg h2]) (by simp; omega) _ _ _
      · rw [decide_eq_false h1, cond_false]
        exact fin _ (by unfold pairD; rw [if_neg (by simp [h1, h2])]) (by omega) _ _ _
theorem step_told {x : Option Dt} {l : List Dt} {w : Dt} {c b : Bool} {k : List Dt → Option Dt} (hl : l.length < 100) (hw : x = some w) (hb : c = b) : (cond c (x.bind fun r => (catL l [r]).bind fun l2 => k l2) (k l)) = k (stepL b l w) := by
  subst hb; subst hw
  cases c with
  | true => rw [cond_true, Option.bind_some, catL_ok _ _ (by omega), Option.bind_some]; rfl
  | false => rfl
theorem told_b {rec : Ty → Option Dt} {t : Ty} {n : Nat} {a b : List Dt} (hA : t.all = false) (ha : Tolds rec t.pairs a) (hb : Tolds rec t.funs b) (h8 : t.pairs.length < 100) (h9 : t.funs.length < 100) : g_types_told_b rec n t = some (finD (partsD t a b)) := by
  have hi : (decide (t.pair = 2) && !decide (andB .i64 t.flat 16 = 0)) = isList t := rfl
  have e1 : ∀ k, ((!decide (andB .i64 t.flat k = 0)) && !(isList t && false)) = bit t.flat k := by intro k; simp [bit]
  have e2 : ((!decide (andB .i64 t.flat 16 = 0)) && !(isList t && true)) = (bit t.flat 16 && !isList t) := by simp [bit]
  have L1 := stepL_len (bit t.flat 1) [] (W [73, 110, 116])
  have L2 := stepL_len (bit t.flat 2) (stepL (bit t.flat 1) [] (W [73, 110, 116])) (W [66, 111, 111, 108])
  have L3 := stepL_len (bit t.flat 4) (stepL (bit t.flat 2) (stepL (bit t.flat 1) [] (W [73, 110, 116])) (W [66, 111, 111, 108])) (W [83, 116, 114])
  have L4 := stepL_len (bit t.flat 8) (stepL (bit t.flat 4) (stepL (bit t.flat 2) (stepL (bit t.flat 1) [] (W [73, 110, 116])) (W [66, 111, 111, 108])) (W [83, 116, 114])) (W [83, 121, 109])
  have L5 := stepL_len (bit t.flat 16 && !isList t) (stepL (bit t.flat 8) (stepL (bit t.flat 4) (stepL (bit t.flat 2) (stepL (bit t.flat 1) [] (W [73, 110, 116])) (W [66, 111, 111, 108])) (W [83, 116, 114])) (W [83, 121, 109])) (W [78, 117, 108, 108])
  simp only [List.length_nil] at L1
  have hj := told_j3 ha hb h8 h9
  unfold flatsD at hj
  unfold g_types_told_b
  rw [hA, cond_false, hi]
  refine (step_told (w := W [73, 110, 116]) (k := g_types_told_j9 rec t) (by simp) rfl (e1 1)).trans ?_
  unfold g_types_told_j9
  rw [hi]
  refine (step_told (w := W [66, 111, 111, 108]) (k := g_types_told_j8 rec t) (by omega) rfl (e1 2)).trans ?_
  unfold g_types_told_j8
  rw [hi]
  refine (step_told (w := W [83, 116, 114]) (k := g_types_told_j7 rec t) (by omega) rfl (e1 4)).trans ?_
  unfold g_types_told_j7
  rw [hi]
  refine (step_told (w := W [83, 121, 109]) (k := g_types_told_j6 rec t) (by omega) rfl (e1 8)).trans ?_
  unfold g_types_told_j6
  rw [hi]
  refine (step_told (w := W [78, 117, 108, 108]) (k := g_types_told_j5 rec t) (by omega) rfl e2).trans ?_
  unfold g_types_told_j5
  rw [hi]
  refine (step_told (w := W [86, 111, 105, 100]) (k := g_types_told_j4 rec t) (by omega) rfl (e1 32)).trans ?_
  exact hj
end Go.Ev.Seat
namespace Go.Ev.Seat
set_option linter.unusedVariables false
set_option linter.unusedSimpArgs false
open Go Go.Ev
inductive Ofs (m : Nat) : List Dt → List Ty → Prop
  | nil : Ofs m [] []
  | cons {d : Dt} {x : Ty} {ds : List Dt} {xs : List Ty} : g_types_of m d = some (x, true) → Ofs m ds xs → Ofs m (d :: ds) (x :: xs)
theorem Ofs.len {m : Nat} {ds : List Dt} {xs : List Ty} (h : Ofs m ds xs) : ds.length = xs.length := by
  induction h with
  | nil => rfl
  | cons _ _ ih => simp [ih]
theorem Ofs.snoc {m : Nat} {ds : List Dt} {xs : List Ty} {d : Dt} {x : Ty} (h : Ofs m ds xs) (hd : g_types_of m d = some (x, true)) : Ofs m (ds ++ [d]) (xs ++ [x]) := by
  induction h with
  | nil => exact .cons hd .nil
  | cons h1 _ ih => exact .cons h1 ih
theorem of_l5 {m : Nat} (d1 : Dt) : ∀ {ds : List Dt} {xs : List Ty} (i : Nat) (acc : List Ty), Ofs m ds xs → acc.length + xs.length < 900 → g_types_of_l5 (g_types_of m) d1 ds i acc = g_types_of_j4 d1 (acc ++ xs)
  | _, _, i, acc, .nil, _ => by rw [g_types_of_l5, List.append_nil]
  | _, _, i, acc, .cons (d := d) (x := x) (ds := ds) (xs := xs) hd ht, h => by
    simp only [List.length_cons] at h
    rw [g_types_of_l5, hd, Option.bind_some]
    simp only [Bool.not_true, cond_false]
    rw [catL_ok _ _ (by omega), Option.bind_some, of_l5 d1 (i + 1) (acc ++ [x]) ht (by simp; omega)]
    simp
theorem of_row {m : Nat} (s : List UInt8) {ds : List Dt} {xs : List Ty} (h : Ofs m ds xs) (hl : xs.length < 500) : g_types_of (m + 1) (Row (W s :: ds)) = g_types_of_j4 (Row (W s :: ds)) xs := by
  have hs : subL (W s :: ds) 1 ((W s :: ds).length : Nat) = some ds := by
    unfold subL
    rw [if_pos ⟨by omega, by simp; omega, Int.le_refl _⟩]
    simp
  have hi : idx (W s :: ds) 0 = some (W s) := rfl
  have hle := h.len
  show g_types_of_b (g_types_of m) (Row (W s :: ds)) = _
  unfold g_types_of_b
  have k1 : (Row (W s :: ds)).kind = 5 := rfl
  have k2 : (Row (W s :: ds)).list = W s :: ds := rfl
  rw [k1, k2, hi, hs]
  have z : decide ((((W s :: ds).length : Nat) : Int) = 0) = false := decide_eq_false (by simp; omega)
  rw [z]
  simp only [Option.bind_some, show (W s).kind = 1 from rfl]
  show (cond (okLen ds) (g_types_of_l5 (g_types_of m) (Row (W s :: ds)) ds 0 []) none) = _
  rw [okLen_of (by omega), cond_true, of_l5 _ 0 [] h (by simp; omega)]; rfl
theorem of_word {m : Nat} (s : List UInt8) (x : Ty) (h : g_types_word s = some (x, true)) : g_types_of (m + 1) (W s) = some (x, true) := by
  show g_types_of_b (g_types_of m) (W s) = _
  unfold g_types_of_b
  rw [show (W s).kind = 1 from rfl, show (W s).text = s from rfl, h]; rfl
inductive Fold : Ty → List Ty → Ty → Prop
  | nil (a : Ty) : Fold a [] a
  | cons {a t c : Ty} {ts : List Ty} : Rt a → Rt t → WfT a → WfT t → Fold (J a t) ts c → Fold a (t :: ts) c
theorem Fold.snoc {a b t : Ty} {ts : List Ty} (h : Fold a ts b) (rb : Rt b) (rt : Rt t) (wb : WfT b) (wt : WfT t) : Fold a (ts ++ [t]) (J b t) := by
  induction h with
  | nil a => exact .cons rb rt wb wt (.nil _)
  | cons h1 h2 h3 h4 _ ih => exact .cons h1 h2 h3 h4 (ih rb wb)
theorem fold_l3 : ∀ {ts : List Ty} {a c : Ty} (i : Nat) (f g : Bool), Fold a ts c → g_types_of_l3 ts i a.all a.flat a.pair f a.pairs a.fn g a.funs = some (c, true)
  | _, a, _, i, f, g, .nil _ => by rw [g_types_of_l3, g_types_of_j2]; cases a; rfl
  | _, a, _, i, f, g, .cons (t := t) (ts := ts) h1 h2 h3 h4 h5 => by
    have e : Ty.mk a.all a.flat a.pair a.pairs a.fn a.funs = a := by cases a; rfl
    rw [g_types_of_l3, e]
    unfold oJoin
    rw [if_pos ⟨h1, h2, h3, h4⟩, Option.bind_some]
    exact fold_l3 (i + 1) false false h5
def Q (t : Ty) (f : Int) (p q : Bool) : Ty := .mk false f (if p then t.pair else 0) (if p then t.pairs else []) (if q then t.fn else 0) (if q then t.funs else [])
theorem Q_rt {t : Ty} {f : Int} (p q : Bool) (h : Rt t) (h0 : 0 ≤ f) (h1 : f ≤ 63) : Rt (Q t f p q) := by
  obtain ⟨d, h⟩ := h
  cases d with
  | zero => rw [rightT_zero] at h; cases h
  | succ d =>
    refine ⟨d + 1, ?_⟩
    rw [rightT_succ] at h ⊢
    simp only [Bool.and_eq_true] at h
    obtain ⟨⟨k1, k2⟩, k3⟩ := h
    unfold okT at k1
    simp only [Bool.and_eq_true, decide_eq_true_eq] at k1
    obtain ⟨⟨⟨⟨⟨⟨⟨⟨q1, q2⟩, q3⟩, q4⟩, q5⟩, q6⟩, q7⟩, q8⟩, q9⟩ := k1
    have pc0 : ((([] : List Ty).length : Nat) : Int) = pcnt 0 := by decide
    unfold okT
    cases p <;> cases q <;> simp only [Q, mk_all, mk_flat, mk_pair, mk_pairs, mk_fn, mk_funs, if_true, if_false, Bool.false_eq_true, h0, h1, decide_true, Bool.true_and, Bool.and_true, Bool.not_false, Bool.true_or, q3, q4, q5, q6, q8, q9, pc0, k2, k3, rightTs, Int.le_refl] <;> simp
theorem Q_wf {t : Ty} {f : Int} (p q : Bool) (h : WfT t) (h0 : 0 ≤ f) (h1 : f ≤ 63) : WfT (Q t f p q) := by
  cases h with | mk w1 w2 w3 w4 w5 w6 w7 =>
  refine .mk (by show -9223372036854775808 ≤ f ∧ f < 9223372036854775808; omega) ?_ ?_ ?_ ?_ ?_ ?_
  · show -9223372036854775808 ≤ (if p then t.pair else 0) ∧ (if p then t.pair else 0) < 9223372036854775808
    cases p
    · simp
    · exact w2
  · show -9223372036854775808 ≤ (if q then t.fn else 0) ∧ (if q then t.fn else 0) < 9223372036854775808
    cases q
    · simp
    · exact w3
  · show (if p then t.pairs else []).length < _
    cases p
    · simp
    · exact w4
  · show (if q then t.funs else []).length < _
    cases q
    · simp
    · exact w5
  · intro y hy
    have hy : y ∈ (if p then t.pairs else []) := hy
    cases p
    · simp at hy
    · exact w6 y hy
  · intro y hy
    have hy : y ∈ (if q then t.funs else []) := hy
    cases q
    · simp at hy
    · exact w7 y hy
theorem orF_bd {a b : Int} (h0 : 0 ≤ a) (h1 : a ≤ 63) (h2 : 0 ≤ b) (h3 : b ≤ 63) : 0 ≤ orF a b ∧ orF a b ≤ 63 := by
  unfold orF
  have : a.toNat ||| b.toNat < 2 ^ 6 := Nat.or_lt_two_pow (by omega) (by omega)
  omega
theorem J_Q {t : Ty} {f g : Int} {p q p' q' : Bool} (h : Rt t) (h0 : 0 ≤ f) (h1 : f ≤ 63) (h2 : 0 ≤ g) (h3 : g ≤ 63) (hp : p = false ∨ p' = false) (hq : q = false ∨ q' = false) : J (Q t f p q) (Q t g p' q') = Q t (orF f g) (p || p') (q || q') := by
  have hf := okT_facts h.ok
  have p0 := hf.2.2.2.2.1
  have f0 : t.fn = 0 → t.funs = [] := fun h => hf.2.2.2.2.2.2.2.2 (by omega)
  rw [J_eq (Q_rt p q h h0 h1) (Q_rt p' q' h h2 h3) rfl rfl]
  have e1 : JP (Q t f p q) (Q t g p' q') = (if (p || p') then t.pair else 0, if (p || p') then t.pairs else []) := by
    unfold JP
    by_cases hz : t.pair = 0 <;> cases p <;> cases p' <;> simp_all [Q, Ty.pair, Ty.pairs]
  have e2 : joinG (Q t f p q) (Q t g p' q') = (if (q || q') then t.fn else 0, if (q || q') then t.funs else []) := by
    unfold joinG
    by_cases hz : t.fn = 0 <;> cases q <;> cases q' <;> simp_all [Q, Ty.fn, Ty.funs]
  rw [e1, e2]; rfl
structure Chn (t : Ty) (m : Nat) (ps : List Dt) (ts : List Ty) (f : Int) (p q : Bool) : Prop where
  ofs : Ofs m ps ts
  fold : Fold (Q t 0 false false) ts (Q t f p q)
  all : ∀ x, x ∈ ts → ∃ g a b, 0 ≤ g ∧ g ≤ 63 ∧ x = Q t g a b
  bd : 0 ≤ f ∧ f ≤ 63
theorem Chn.step {t : Ty} {m : Nat} {ps : List Dt} {ts : List Ty} {f g : Int} {p q p' q' : Bool} {d : Dt} (h : Chn t m ps ts f p q) (rt : Rt t) (wt : WfT t) (h2 : 0 ≤ g) (h3 : g ≤ 63) (hp : p = false ∨ p' = false) (hq : q = false ∨ q' = false) (hd : g_types_of m d = some (Q t g p' q', true)) :
    Chn t m (ps ++ [d]) (ts ++ [Q t g p' q']) (orF f g) (p || p') (q || q') := by
  refine ⟨h.ofs.snoc hd, ?_, ?_, orF_bd h.bd.1 h.bd.2 h2 h3⟩
  · rw [← J_Q rt h.bd.1 h.bd.2 h2 h3 hp hq]
    exact h.fold.snoc (Q_rt _ _ rt h.bd.1 h.bd.2) (Q_rt _ _ rt h2 h3) (Q_wf _ _ wt h.bd.1 h.bd.2) (Q_wf _ _ wt h2 h3)
  · intro x hx
    rcases List.mem_append.1 hx with hx | hx
    · exact h.all x hx
    · simp at hx; exact ⟨g, p', q', h2, h3, hx⟩
theorem Chn.stepL {t : Ty} {m : Nat} {ps : List Dt} {f g : Int} {d : Dt} (b : Bool) (h : ∃ ts, Chn t m ps ts f false false) (rt : Rt t) (wt : WfT t) (h2 : 0 ≤ g) (h3 : g ≤ 63) (hd : g_types_of m d = some (Q t g false false, true)) :
    ∃ ts, Chn t m (stepL b ps d) ts (if b then orF f g else f) false false := by
  obtain ⟨ts, h⟩ := h
  cases b with
  | true => exact ⟨_, h.step rt wt h2 h3 (.inl rfl) (.inl rfl) hd⟩
  | false => exact ⟨ts, h⟩
def chF (f : Int) (L : Bool) : Int :=
  let s1 := if bit f 1 then orF 0 1 else 0
  let s2 := if bit f 2 then orF s1 2 else s1
  let s3 := if bit f 4 then orF s2 4 else s2
  let s4 := if bit f 8 then orF s3 8 else s3
  let s5 := if bit f 16 && !L then orF s4 16 else s4
  if bit f 32 then orF s5 32 else s5
theorem chF_ok : ∀ k : Fin 64, ∀ L : Bool, (L = true → bit ((k.1 : Nat) : Int) 16 = true) → orF (chF ((k.1 : Nat) : Int) L) (if L then 16 else 0) = ((k.1 : Nat) : Int) := by decide +kernel
theorem flats_chn {t : Ty} {m : Nat} (rt : Rt t) (wt : WfT t) : ∃ ts, Chn t (m + 1) (flatsD t) ts (chF t.flat (isList t)) false false := by
  have w : ∀ s x, g_types_word s = some (x, true) → g_types_of (m + 1) (W s) = some (x, true) := fun s x h => of_word s x h
  have h0 : ∃ ts, Chn t (m + 1) [] ts 0 false false := ⟨[], ⟨.nil, .nil _, by simp, by omega, by omega⟩⟩
  have h1 := Chn.stepL (g := 1) (d := W [73, 110, 116]) (bit t.flat 1) h0 rt wt (by decide) (by decide) (w _ _ rfl)
  have h2 := Chn.stepL (g := 2) (d := W [66, 111, 111, 108]) (bit t.flat 2) h1 rt wt (by decide) (by decide) (w _ _ rfl)
  have h3 := Chn.stepL (g := 4) (d := W [83, 116, 114]) (bit t.flat 4) h2 rt wt (by decide) (by decide) (w _ _ rfl)
  have h4 := Chn.stepL (g := 8) (d := W [83, 121, 109]) (bit t.flat 8) h3 rt wt (by decide) (by decide) (w _ _ rfl)
  have h5 := Chn.stepL (g := 16) (d := W [78, 117, 108, 108]) (bit t.flat 16 && !isList t) h4 rt wt (by decide) (by decide) (w _ _ rfl)
  exact Chn.stepL (g := 32) (d := W [86, 111, 105, 100]) (bit t.flat 32) h5 rt wt (by decide) (by decide) (w _ _ rfl)
theorem orF_0 {a : Int} (h : 0 ≤ a) : orF a 0 = a := orF_zero h
theorem j4_list (x : Ty) (a : List Dt) : g_types_of_j4 (Row (W [76, 105, 115, 116] :: a)) [x] = some (.mk false 16 2 [x] 0 [], true) := rfl
theorem j4_list1 (x : Ty) (a : List Dt) : g_types_of_j4 (Row (W [76, 105, 115, 116, 49] :: a)) [x] = some (.mk false 0 2 [x] 0 [], true) := rfl
theorem j4_pair (x y : Ty) (a : List Dt) : g_types_of_j4 (Row (W [80, 97, 105, 114] :: a)) [x, y] = some (.mk false 0 1 [x, y] 0 [], true) := rfl
theorem j4_fn {l : List Ty} (h : 1 ≤ l.length) (a : List Dt) : g_types_of_j4 (Row (W [45, 62] :: a)) l = some (.mk false 0 0 [] 1 l, true) := by
  have z : decide ((0 : Int) < ((l.length : Nat) : Int)) = true := decide_eq_true (by omega)
  show (cond (true && decide ((0 : Int) < ((l.length : Nat) : Int))) (some ((Ty.mk false 0 0 [] 1 l), true)) _) = _
  rw [z]; rfl
theorem j4_U (l : List Ty) (a : List Dt) (h : l.length < 500) : g_types_of_j4 (Row (W [85] :: a)) l = g_types_of_l3 l 0 false 0 0 true [] 0 true [] := by
  show (cond (okLen l) (g_types_of_l3 l 0 false 0 0 true [] 0 true []) none) = _
  rw [okLen_of (by omega)]; rfl
theorem pair_chn {t : Ty} {m : Nat} {a : List Dt} (rt : Rt t) (wt : WfT t) (ha : Ofs m a t.pairs) : ∃ ts, Chn t (m + 1) (pairD t a) ts (orF (chF t.flat (isList t)) (if isList t then 16 else 0)) true false := by
  have hf := okT_facts rt.ok
  obtain ⟨ts, h⟩ := flats_chn (m := m) rt wt
  unfold pairD
  by_cases h2 : t.pair = 2
  · obtain ⟨x, hx⟩ := hf.2.2.2.2.2.2.1 h2
    rw [if_pos (.inr h2)]
    rw [hx] at ha
    cases hL : isList t with
    | true =>
      refine ⟨_, hL ▸ h.step (g := 16) (p' := true) (q' := false) rt wt (by decide) (by decide) (.inl rfl) (.inl rfl) ?_⟩
      unfold nameP
      rw [hL, if_pos rfl, of_row _ ha (by simp), j4_list]
      simp [Q, h2, hx]
    | false =>
      refine ⟨_, hL ▸ h.step (g := 0) (p' := true) (q' := false) rt wt (by decide) (by decide) (.inl rfl) (.inl rfl) ?_⟩
      unfold nameP
      rw [hL, if_neg (by simp), if_pos h2, of_row _ ha (by simp), j4_list1]
      simp [Q, h2, hx]
  · have hL : isList t = false := by unfold isList; simp [h2]
    by_cases h1 : t.pair = 1
    · obtain ⟨x, y, hx⟩ := hf.2.2.2.2.2.1 h1
      rw [if_pos (.inl h1)]
      rw [hx] at ha
      rw [show (if isList t = true then (16 : Int) else 0) = 0 from by rw [hL]; rfl]
      refine ⟨_, h.step (g := 0) (p' := true) (q' := false) rt wt (by decide) (by decide) (.inl rfl) (.inl rfl) ?_⟩
      unfold nameP
      rw [hL, if_neg (by simp), if_neg h2, of_row _ ha (by simp), j4_pair]
      simp [Q, h1, hx]
    · have hp : t.pair = 0 := by have := hf.2.1; omega
      rw [if_neg (by simp [h1, h2])]
      refine ⟨ts, ?_⟩
      have e : Q t (orF (chF t.flat (isList t)) 0) true false = Q t (chF t.flat (isList t)) false false := by
        rw [orF_0 h.bd.1]; simp [Q, hp, hf.2.2.2.2.1 hp]
      refine ⟨h.ofs, ?_, h.all, ?_⟩
      · rw [hL] at h e ⊢; simp only [Bool.false_eq_true, if_false]; rw [e]; exact h.fold
      · rw [hL]; simp only [Bool.false_eq_true, if_false]; rw [orF_0 (hL ▸ h.bd.1)]; exact hL ▸ h.bd
theorem parts_chn {t : Ty} {m : Nat} {a b : List Dt} (rt : Rt t) (wt : WfT t) (ha : Ofs m a t.pairs) (hb : Ofs m b t.funs) : ∃ ts, Chn t (m + 1) (partsD t a b) ts t.flat true true := by
  have hf := okT_facts rt.ok
  have hfl : orF (chF t.flat (isList t)) (if isList t then 16 else 0) = t.flat := by
    have := chF_ok ⟨t.flat.toNat, by have := hf.1; omega⟩ (isList t) (by
      intro h
      rw [show (((⟨t.flat.toNat, by have := hf.1; omega⟩ : Fin 64).1 : Nat) : Int) = t.flat by have := hf.1; simp; omega]
      unfold isList at h; simp at h; exact h.2)
    rw [show (((⟨t.flat.toNat, by have := hf.1; omega⟩ : Fin 64).1 : Nat) : Int) = t.flat by have := hf.1; simp; omega] at this
    exact this
  obtain ⟨ts, h⟩ := pair_chn (m := m) rt wt ha
  rw [hfl] at h
  have oz : orF t.flat 0 = t.flat := orF_0 hf.1.1
  unfold partsD
  by_cases h1 : t.fn = 1
  · rw [if_pos h1]
    have hn := hf.2.2.2.2.2.2.2.1 h1
    have := h.step (g := 0) (p' := false) (q' := true) (d := Row (W [45, 62] :: b)) rt wt (by decide) (by decide) (.inr rfl) (.inl rfl) (by
      rw [of_row _ hb (by omega)]
      rw [j4_fn hn.1]
      simp [Q, h1])
    rw [oz] at this
    exact ⟨_, this⟩
  · rw [if_neg h1]
    by_cases h2 : t.fn = 2
    · rw [if_pos h2]
      have := h.step (g := 0) (p' := false) (q' := true) (d := W [80, 114, 111, 99]) rt wt (by decide) (by decide) (.inr rfl) (.inl rfl) (by
        rw [of_word (m := m) [80, 114, 111, 99] (.mk false 0 0 [] 2 []) rfl]
        simp [Q, h2, hf.2.2.2.2.2.2.2.2 (by omega)])
      rw [oz] at this
      exact ⟨_, this⟩
    · rw [if_neg h2]
      have h0 : t.fn = 0 := by have := hf.2.2.1; omega
      have e : Q t t.flat true true = Q t t.flat true false := by simp [Q, h0, hf.2.2.2.2.2.2.2.2 (by omega)]
      exact ⟨ts, h.ofs, by rw [e]; exact h.fold, h.all, h.bd⟩
end Go.Ev.Seat
namespace Go.Ev.Seat
set_option linter.unusedVariables false
set_option linter.unusedSimpArgs false
open Go Go.Ev
theorem sameT_refl (t : Ty) : sameT t t = true := by
  rw [sameT_eq]; simp [sameTs_refl]
theorem backs {s : Nat} : ∀ (xs : List Ty), (∀ x, x ∈ xs → szT x < s ∧ ∃ d, (∀ n, szT x < n → g_types_told n x = some d) ∧ ∀ m, 2 * szT x + 2 ≤ m → g_types_of m d = some (x, true)) → ∃ ds, (∀ n, s ≤ n → Tolds (g_types_told n) xs ds) ∧ ∀ m, 2 * s ≤ m → Ofs m ds xs
  | [], _ => ⟨[], fun _ _ => .nil, fun _ _ => .nil⟩
  | x :: xs, h => by
    obtain ⟨h0, d, h1, h2⟩ := h x (by simp)
    obtain ⟨ds, h3, h4⟩ := backs xs fun y hy => h y (by simp [hy])
    exact ⟨d :: ds, fun n hn => .cons (h1 n (by omega)) (h3 n hn), fun m hm => .cons (h2 m (by omega)) (h4 m hm)⟩
theorem Q_self {t : Ty} (h : t.all = false) : Q t t.flat true true = t := by
  cases t with
  | mk a f p ps n ns =>
    have h : a = false := h
    subst h; rfl
theorem partsD_len (t : Ty) (a b : List Dt) : (partsD t a b).length ≤ 8 := by
  have h := flatsD_len t
  have h2 : (pairD t a).length ≤ 7 := by
    unfold pairD; split
    · simp; omega
    · omega
  unfold partsD
  split
  · simp; omega
  · split
    · simp; omega
    · omega
theorem fold_nil {a c : Ty} (h : Fold a [] c) : c = a := by cases h; rfl
theorem fold_one {a t c : Ty} (h : Fold a [t] c) : c = J a t := by
  cases h with | cons _ _ _ _ h => exact fold_nil h
theorem back : ∀ (N : Nat) (t : Ty), szT t < N → Rt t → WfT t → ∃ d, (∀ n, szT t < n → g_types_told n t = some d) ∧ ∀ m, 2 * szT t + 2 ≤ m → g_types_of m d = some (t, true)
  | 0, t, h, _, _ => by omega
  | N + 1, t, h, rt, wt => by
    have hf := okT_facts rt.ok
    cases hA : t.all with
    | true =>
      have ht : t = allT := hf.2.2.2.1 hA
      refine ⟨W [65, 110, 121], ?_, ?_⟩
      · intro n hn
        obtain ⟨n, rfl⟩ : ∃ j, n = j + 1 := ⟨n - 1, by omega⟩
        show g_types_told_b (g_types_told n) n t = _
        unfold g_types_told_b
        rw [hA]; rfl
      · intro m hm
        obtain ⟨k, rfl⟩ : ∃ k, m = k + 1 := ⟨m - 1, by omega⟩
        rw [of_word [65, 110, 121] (.mk true 0 0 [] 0 []) rfl, ht]; rfl
    | false =>
      have hpl : t.pairs.length ≤ 2 := by
        have := hf.2.1
        rcases (show t.pair = 0 ∨ t.pair = 1 ∨ t.pair = 2 by omega) with e | e | e
        · rw [hf.2.2.2.2.1 e]; simp
        · obtain ⟨x, y, hx⟩ := hf.2.2.2.2.2.1 e; rw [hx]; simp
        · obtain ⟨x, hx⟩ := hf.2.2.2.2.2.2.1 e; rw [hx]; simp
      have hfl : t.funs.length ≤ 9 := by
        by_cases e : t.fn = 1
        · exact (hf.2.2.2.2.2.2.2.1 e).2
        · rw [hf.2.2.2.2.2.2.2.2 e]; simp
      obtain ⟨a, ta, oa⟩ := backs (s := szT t) t.pairs fun x hx => ⟨szT_pairs hx, back N x (by have := szT_pairs hx; omega) (rt.pairs hx) (wt.pairs hx)⟩
      obtain ⟨b, tb, ob⟩ := backs (s := szT t) t.funs fun x hx => ⟨szT_funs hx, back N x (by have := szT_funs hx; omega) (rt.funs hx) (wt.funs hx)⟩
      refine ⟨finD (partsD t a b), ?_, ?_⟩
      · intro n hn
        obtain ⟨n, rfl⟩ : ∃ j, n = j + 1 := ⟨n - 1, by omega⟩
        exact told_b hA (ta n (by omega)) (tb n (by omega)) (by omega) (by omega)
      intro m hm
      obtain ⟨k, rfl⟩ : ∃ k, m = k + 2 := ⟨m - 2, by omega⟩
      have hl := partsD_len t a b
      obtain ⟨ts, h1⟩ := parts_chn (m := k) rt wt (oa k (by omega)) (ob k (by omega))
      obtain ⟨us, h2⟩ := parts_chn (m := k + 1) rt wt (oa (k + 1) (by omega)) (ob (k + 1) (by omega))
      have f1 := h1.fold
      have f2 := h2.fold
      rw [Q_self hA] at f1 f2
      have o1 := h1.ofs
      have o2 := h2.ofs
      have al := h2.all
      revert o1 o2
      generalize partsD t a b = ps at hl
      intro o1 o2
      match ps, o1, o2, hl with
      | [], .nil, .nil, _ =>
        rw [fold_nil f1]
        exact of_word (m := k + 1) [78, 111, 116, 104, 105, 110, 103] (.mk false 0 0 [] 0 []) rfl
      | [p], _, .cons (x := x) hp .nil, _ =>
        obtain ⟨g, pa, pb, g0, g1, hx⟩ := al x (by simp)
        have hj : J (Q t 0 false false) x = t := (fold_one f2).symm
        rw [hx, J_Q rt (by omega) (by omega) g0 g1 (.inl rfl) (.inl rfl), orF_comm, orF_zero g0] at hj
        simp only [Bool.false_or] at hj
        show g_types_of (k + 2) p = _
        rw [hp, hx, hj]
      | p :: q :: r, o1, _, hl =>
        show g_types_of (k + 1 + 1) (Row (W [85] :: p :: q :: r)) = _
        have hle := o1.len
        rw [of_row _ o1 (by omega), j4_U _ _ (by omega)]
        exact fold_l3 0 true true f1
theorem tbackG (t : Ty) (wt : WfT t) : g_w05_TypesBack 1000 t = some true := by
  unfold g_w05_TypesBack
  simp only [oAwake, Option.bind_some, oLightT, if_pos wt]
  cases hl : decide (rsz t 60 < 120) with
  | false => rfl
  | true =>
  have hsz : szT t < 120 := by
    have h := of_decide_eq_true hl
    rw [rsz_sz t 60 (by omega)]; exact h
  have hR : oRight t = some (decide (szT t ≤ 300) && rightT t 20) := by unfold oRight; rw [if_pos ⟨wt, by omega⟩]
  simp only [Bool.not_true, cond_false, g_types_Datum, hR, Option.bind_some]
  cases hr : (decide (szT t ≤ 300) && rightT t 20) with
  | false => rfl
  | true =>
  have rt : Rt t := ⟨20, by simp only [Bool.and_eq_true] at hr; exact hr.2⟩
  obtain ⟨d, h1, h2⟩ := back 200 t (by omega) rt wt
  have hS : oSameT t t = some true := by unfold oSameT; rw [if_pos wt, sameT_refl]
  rw [hr] at hR
  simp only [Bool.not_true, cond_false, h1 1000 (by omega), Option.bind_some, g_types_Read, h2 1000 (by omega), hR, hS, decide_true, Bool.and_self]
theorem tback (t : Ty) (wt : WfT t) : ∃ n, pcall (tabOf tabL) n 7 [vT t] = some (.ok (.bool true)) :=
  (g_w05_TypesBack_ok (tbackG t wt)).get
end Go.Ev.Seat
namespace Go.Ev
set_option linter.unusedVariables false
set_option linter.unusedSimpArgs false
open Go
def HasT (P : Program) : Nat → TypeId → List AVal → Prop
  | 0, _, _ => False
  | n + 1, t, as => match P.underlying t with
    | some .bool => ∃ b, as = [.bool b]
    | some (.int k) => ∃ i, (Lit.int k i).wf = true ∧ as = [.int k i]
    | some .string => ∃ s : List UInt8, s.length ≤ maxLen ∧ as = [.str s]
    | some (.slice e) => ∃ xs : List AVal, xs.length ≤ maxLen ∧ as = [.lst xs false] ∧ ∀ x, x ∈ xs → HasT P n e x.flat ∧ (aggB P e = some true → ∃ cs, x = .agg cs) ∧ (aggB P e = some false → x.flat = [x])
    | some (.struct fs) => ∃ parts : List (List AVal), parts.length = fs.size ∧ as = parts.flatten ∧ ∀ (i : Nat) (f : Field) (p : List AVal), fs[i]? = some f → parts[i]? = some p → HasT P n f.type p
    | some (.array m e) => ∃ parts : List (List AVal), parts.length = m ∧ as = parts.flatten ∧ ∀ p, p ∈ parts → HasT P n e p
    | some (.pointer e) => as = [.nilp] ∨ ∃ cs, as = [.ro cs] ∧ HasT P n e cs
    | _ => False
def contig (P : Program) : Nat → List Field → Nat → Bool
  | off, [], tot => Nat.beq off tot
  | off, f :: fs, tot => Nat.beq f.offset off && contig P (off + P.cellsOf f.type) fs tot
def plainT (P : Program) (ts : List TypeId) (t : TypeId) : Bool :=
  match P.underlying t with
  | some .bool => true
  | some (.int _) => true
  | some .string => true
  | some (.slice e) => ts.contains e && Nat.ble 1 (P.cellsOf e)
  | some (.struct fs) => contig P 0 fs.toList (P.cellsOf t) && fs.toList.all fun f => ts.contains f.type
  | some (.array m e) => ts.contains e && Nat.beq (P.cellsOf t) (m * P.cellsOf e)
  | some (.pointer e) => ts.contains e && Nat.ble 1 (P.cellsOf e)
  | _ => false
def plainTs (P : Program) (ts : List TypeId) : Bool := ts.all (plainT P ts)
theorem build {α : Type} {Pr : Nat → α → Prop} : ∀ (n : Nat), (∀ i, i < n → ∃ y, Pr i y) → ∃ l : List α, l.length = n ∧ ∀ (i : Nat) (y : α), l[i]? = some y → Pr i y
  | 0, _ => ⟨[], rfl, by simp⟩
  | n + 1, h => by
    obtain ⟨l, h1, h2⟩ := build n (fun i hi => h i (by omega))
    obtain ⟨y, hy⟩ := h n (by omega)
    refine ⟨l ++ [y], by simp [h1], ?_⟩
    intro i z hz
    by_cases hi : i < l.length
    · rw [List.getElem?_append_left hi] at hz; exact h2 i z hz
    · rw [List.getElem?_append_right (by omega)] at hz
      have : i = n := by
        have := (List.getElem?_eq_some_iff.1 hz).1
        simp at this; omega
      subst this
      simp [h1] at hz; subst hz; exact hy
def scal : AVal → Bool
  | .agg _ => false
  | .tup _ => false
  | _ => true
def Flat1 (c : AVal) : Prop := rfree c ∧ scal c = true
theorem Flat1.flat {c : AVal} (h : Flat1 c) : c.flat = [c] := by
  have := h.2
  cases c <;> simp [scal] at this <;> rfl
theorem Flat1.one {Γ : Gh} {c : AVal} {d : Value} (h : Flat1 c) (hr : Rep Γ c d) : d.oneCell' = true := by
  have := h.2
  cases hr <;> first | rfl | (simp [scal] at this; done)
section
variable {H : Type} {enc : TypeId × Value → H} {P : Program} {w : World}
theorem reps_flatten_parts {Γ : Gh} : ∀ {parts : List (List AVal)} {cparts : List (List Value)}, parts.length = cparts.length → (∀ (i : Nat) (p : List AVal) (c : List Value), parts[i]? = some p → cparts[i]? = some c → Reps Γ p c) → Reps Γ parts.flatten cparts.flatten
  | [], [], _, _ => Reps.nil Γ
  | p :: ps, c :: cs, hl, h => by
    simp only [List.flatten_cons]
    exact (h 0 p c rfl rfl).append (reps_flatten_parts (by simpa using hl) fun i p c h1 h2 => h (i + 1) p c (by simpa using h1) (by simpa using h2))
  | [], _ :: _, hl, _ => by simp at hl
  | _ :: _, [], hl, _ => by simp at hl
theorem contig_parts : ∀ {fs : List Field} {off tot : Nat} {cs : List Value}, contig P off fs tot = true → cs.length = tot → (fs.map fun f => (cs.drop f.offset).take (P.cellsOf f.type)).flatten = cs.drop off
  | [], off, tot, cs, h, hl => by
    have := Nat.eq_of_beq_eq_true (by simpa [contig] using h)
    simp; omega
  | f :: fs, off, tot, cs, h, hl => by
    simp only [contig, Bool.and_eq_true] at h
    have h1 := Nat.eq_of_beq_eq_true h.1
    simp only [List.map_cons, List.flatten_cons]
    rw [contig_parts h.2 hl, h1, ← List.drop_drop, List.take_append_drop]
theorem array_parts {z : Nat} : ∀ {m : Nat} {cs : List Value}, cs.length = m * z → ((List.range m).map fun i => (cs.drop (i * z)).take z).flatten = cs
  | 0, cs, hl => by
    have : cs = [] := List.length_eq_zero_iff.1 (by omega)
    simp [this]
  | m + 1, cs, hl => by
    rw [List.range_succ_eq_map, List.map_cons, List.flatten_cons, List.map_map]
    have h := array_parts (z := z) (m := m) (cs := cs.drop z) (by simp [hl, Nat.add_mul])
    have e : ((fun i => (cs.drop (i * z)).take z) ∘ Nat.succ) = fun i => ((cs.drop z).drop (i * z)).take z := by
      funext i
      simp only [Function.comp, List.drop_drop, Nat.succ_eq_add_one, Nat.add_mul, Nat.one_mul]
      rw [Nat.add_comm]
    rw [e, h]
    simp
def mkEl (b : Option Bool) (p : List AVal) : AVal := match b with
  | some false => p.headD .nilp
  | _ => .agg p
theorem mkEl_rfree {b : Option Bool} {p : List AVal} (h : ∀ c, c ∈ p → rfree c) : rfree (mkEl b p) := by
  unfold mkEl
  split
  · cases p with
    | nil => rfl
    | cons c cs => exact h c (by simp)
  · exact lowL_iff.2 h
theorem HasT_single {ts : List TypeId} (hp : plainTs P ts = true) {n : Nat} {e : TypeId} {p : List AVal} (he : e ∈ ts) (ha : aggB P e = some false) (h : HasT P n e p) : ∃ c, p = [c] := by
  cases n with
  | zero => cases h
  | succ n =>
    unfold aggB at ha
    unfold HasT at h
    cases hu : P.underlying e with
    | none => rw [hu] at h; cases h
    | some u =>
      rw [hu] at h ha
      cases u <;> simp only [reduceCtorEq] at h ha <;> first | (cases ha; done) | (cases h; done) | skip
      · obtain ⟨b, rfl⟩ := h; exact ⟨_, rfl⟩
      · obtain ⟨i, _, rfl⟩ := h; exact ⟨_, rfl⟩
      · obtain ⟨b, _, rfl⟩ := h; exact ⟨_, rfl⟩
      · rcases h with rfl | ⟨cs, rfl, _⟩ <;> exact ⟨_, rfl⟩
      · obtain ⟨xs, _, rfl, _⟩ := h; exact ⟨_, rfl⟩
theorem mkEl_flat {ts : List TypeId} (hp : plainTs P ts = true) {n : Nat} {e : TypeId} {p : List AVal} (he : e ∈ ts) (h : HasT P n e p) (hf : ∀ c, c ∈ p → Flat1 c) : (mkEl (aggB P e) p).flat = p := by
  unfold mkEl
  split
  · rename_i ha
    obtain ⟨c, rfl⟩ := HasT_single hp he ha h
    exact (hf c (by simp)).flat
  · rfl
theorem flatL_mkEl {b : Option Bool} : ∀ {parts : List (List AVal)}, (∀ p, p ∈ parts → (mkEl b p).flat = p) → flatL (parts.map (mkEl b)) = parts.flatten
  | [], _ => rfl
  | p :: ps, h => by
    simp only [List.map_cons, flatL, List.flatten_cons, h p (by simp)]
    rw [flatL_mkEl fun q hq => h q (by simp [hq])]
theorem flatten_get {α : Type} {z : Nat} (hz : 0 < z) : ∀ {parts : List (List α)} {j : Nat} {c : α}, (∀ p, p ∈ parts → p.length = z) → parts.flatten[j]? = some c → ∃ p, parts[j / z]? = some p ∧ p[j % z]? = some c
  | [], j, c, _, h => by simp at h
  | p :: ps, j, c, hl, h => by
    have hp := hl p (by simp)
    rw [List.flatten_cons] at h
    by_cases hj : j < z
    · rw [List.getElem?_append_left (by omega)] at h
      rw [Nat.div_eq_of_lt hj, Nat.mod_eq_of_lt hj]
      exact ⟨p, rfl, h⟩
    · rw [List.getElem?_append_right (by omega), hp] at h
      obtain ⟨q, h1, h2⟩ := flatten_get hz (fun q hq => hl q (by simp [hq])) h
      have e1 : j / z = (j - z) / z + 1 := by
        rw [← Nat.add_div_right _ hz]; congr 1; omega
      have e2 : j % z = (j - z) % z := by
        rw [Nat.mod_eq_sub_mod (by omega)]
      exact ⟨q, by rw [e1]; exact h1, by rw [e2]; exact h2⟩
theorem trod_has {ts : List TypeId} (hp : plainTs P ts = true) : ∀ (n : Nat) (t : TypeId) (cs : List Value) (x : DataW H × List MemPlace), t ∈ ts → DataW.trod enc P w 0 (fun _ => true) true n t cs = some x →
    ∃ as : List AVal, Reps (Gh.all w) as cs ∧ HasT P n t as ∧ ∀ c, c ∈ as → Flat1 c := by
  intro n
  induction n with
  | zero => intro t cs x _ h; simp [DataW.trod] at h
  | succ n ih =>
    intro t cs x ht h
    have hpt := List.all_eq_true.1 hp t ht
    unfold plainT at hpt
    have hT : ∀ as, HasT P (n + 1) t as = HasT P (n + 1) t as := fun _ => rfl
    have single : ∀ (a : AVal) (v : Value), cs = [v] → Rep (Gh.all w) a v → Flat1 a → ∀ Q : List AVal → Prop, Q [a] → ∃ as : List AVal, Reps (Gh.all w) as cs ∧ Q as ∧ ∀ c, c ∈ as → Flat1 c := by
      rintro a v rfl hr hf Q hQ
      exact ⟨[a], Reps.cons hr (Reps.nil _), hQ, by simpa using hf⟩
    split at hpt
    · rename_i hu
      obtain ⟨b, hc, _⟩ := DataW.trod_bool hu h
      simp only [HasT, hu]
      exact single (.bool b) _ hc (.bool b) ⟨rfl, rfl⟩ _ ⟨b, rfl⟩
    · rename_i k hu
      obtain ⟨i, hc, _, hw⟩ := DataW.trod_int hu h
      simp only [HasT, hu]
      exact single (.int k i) _ hc (.int k i) ⟨rfl, rfl⟩ _ ⟨i, hw, rfl⟩
    · rename_i hu
      obtain ⟨s, hc, _, hl⟩ := DataW.trod_string hu h
      simp only [HasT, hu]
      refine single (.str s.data.toList) _ hc ?_ ⟨rfl, rfl⟩ _ ⟨s.data.toList, by rw [Array.length_toList]; exact hl, rfl⟩
      have := Rep.str (Γ := Gh.all w) s.data.toList
      simpa using this
    · rename_i e hu
      simp only [Bool.and_eq_true] at hpt
      have hz : 1 ≤ P.cellsOf e := Nat.le_of_ble_eq_true hpt.2
      have he : e ∈ ts := by simpa using hpt.1
      simp only [HasT, hu]
      rcases DataW.trod_slice hu h with ⟨hc, _⟩ | ⟨a, len, cap, elems, rest, m, hm, hc, _, _, hlc, hmax, hel, hget, _, _⟩
      · exact single (.lst [] false) _ hc (.lstN false) ⟨rfl, rfl⟩ _ ⟨[], by simp, rfl, by simp⟩
      · cases hm
        have each : ∀ i, i < len → ∃ p : List AVal, ∃ ds : List Value, p.length = P.cellsOf e ∧ Reps (Gh.all w) p ds ∧ HasT P n e p ∧ (∀ c, c ∈ p → Flat1 c) ∧ ∀ j, j < P.cellsOf e → w.cell? ((a.add (i * P.cellsOf e)).add j) = ds[j]? := by
          intro i hi
          have h1 := hget i hi
          have hx : elems[i]? = some elems[i] := List.getElem?_eq_getElem (by omega)
          rw [hx] at h1
          obtain ⟨cs', hc1, hc2⟩ := Option.bind_eq_some_iff.1 h1
          obtain ⟨p, h2, h3, h4⟩ := ih e cs' elems[i] he hc2
          obtain ⟨_, hl, hcell⟩ := World.cells?_some hc1
          exact ⟨p, cs', by rw [← h2.1, hl], h2, h3, h4, hcell⟩
        obtain ⟨parts, hpl, hpe⟩ := build len each
        rcases Nat.eq_zero_or_pos len with hl0 | hpos
        · subst hl0
          exact single (.lst [] false) _ hc (.lstE (by simp)) ⟨rfl, rfl⟩ _ ⟨[], by simp, rfl, by simp⟩
        · obtain ⟨blk, off, spot⟩ := a
          have hspot : spot = none := by
            obtain ⟨p, ds, q1, q2, _, _, q3⟩ := each 0 hpos
            have h0 := q3 0 hz
            rw [Nat.zero_mul, Addr.add_zero', Addr.add_zero'] at h0
            cases hx : ds[0]? with
            | none => have := (List.getElem?_eq_none_iff.1 hx); have := q2.1; omega
            | some v => rw [hx] at h0; exact World.cell?_spot h0
          subst hspot
          refine single (.lst (parts.map (mkEl (aggB P e))) false) _ hc ?_ ⟨?_, rfl⟩ _ ⟨parts.map (mkEl (aggB P e)), by simpa [hpl] using Nat.le_trans hlc hmax, rfl, ?_⟩
          · have hfl : ∀ p, p ∈ parts → (mkEl (aggB P e) p).flat = p := by
              intro p hp1
              obtain ⟨i, hi⟩ := List.getElem?_of_mem hp1
              obtain ⟨ds, q1, q2, q3, q4, q5⟩ := hpe i p hi
              exact mkEl_flat hp he q3 q4
            have hlens : ∀ p, p ∈ parts → p.length = P.cellsOf e := by
              intro p hp1
              obtain ⟨i, hi⟩ := List.getElem?_of_mem hp1
              obtain ⟨ds, q1, _⟩ := hpe i p hi
              exact q1
            have hall : ∀ (j : Nat) (c : AVal), parts.flatten[j]? = some c → ∃ d, w.cell? ⟨blk, off + j, none⟩ = some d ∧ Rep (Gh.all w) c d ∧ Flat1 c := by
              intro j c hj
              obtain ⟨p, hp1, hp2⟩ := flatten_get hz hlens hj
              obtain ⟨ds, q1, q2, q3, q4, q5⟩ := hpe _ p hp1
              obtain ⟨d, hd, hr⟩ := q2.get hp2
              refine ⟨d, ?_, hr, q4 c (List.mem_of_getElem? hp2)⟩
              have h6 := q5 (j % P.cellsOf e) (Nat.mod_lt _ hz)
              rw [Addr.add_lit, Addr.add_lit] at h6
              rw [← hd, ← h6]
              congr 2
              rw [Nat.add_assoc, Nat.mul_comm, Nat.div_add_mod]
            have hflat : flatL (parts.map (mkEl (aggB P e))) = parts.flatten := flatL_mkEl hfl
            have hlen2 : (parts.map (mkEl (aggB P e))).length = len := by simp [hpl]
            have key := Rep.lst (Γ := Gh.all w) (xs := parts.map (mkEl (aggB P e))) (e := false) (g := blk) (off := off) (cap := cap) (es := P.cellsOf e) (fun j => (w.cell? ⟨blk, off + j, none⟩).getD undef) (by omega) (by simp) ?_ ?_ ?_ ?_ ?_
            · rw [hlen2] at key; exact key
            · intro x hx
              obtain ⟨p, hp1, rfl⟩ := List.mem_map.1 hx
              simp only [AVal.width, hfl p hp1, hlens p hp1]
            · intro x hx
              obtain ⟨p, hp1, rfl⟩ := List.mem_map.1 hx
              obtain ⟨i, hi⟩ := List.getElem?_of_mem hp1
              obtain ⟨ds, q1, q2, q3, q4, q5⟩ := hpe i p hi
              exact mkEl_rfree (fun c hc => (q4 c hc).1)
            · intro j c hj
              rw [hflat] at hj
              obtain ⟨d, h1, h2, h3⟩ := hall j c hj
              simp only [Gh.all, h1, Option.getD_some]
            · intro j c hj
              rw [hflat] at hj
              obtain ⟨d, h1, h2, h3⟩ := hall j c hj
              simp only [h1, Option.getD_some]
              exact h3.one h2
            · intro j c hj
              rw [hflat] at hj
              obtain ⟨d, h1, h2, h3⟩ := hall j c hj
              simp only [h1, Option.getD_some]
              exact h2
          · rfl
          · intro x hx
            obtain ⟨p, hp1, rfl⟩ := List.mem_map.1 hx
            obtain ⟨i, hi⟩ := List.getElem?_of_mem hp1
            obtain ⟨ds, q1, q2, q3, q4, q5⟩ := hpe i p hi
            have hf := mkEl_flat hp he q3 q4
            refine ⟨by rw [hf]; exact q3, ?_, ?_⟩
            · intro h; exact ⟨p, by rw [h]; rfl⟩
            · intro h
              rw [hf]
              obtain ⟨c, hc1⟩ := HasT_single hp he h q3
              rw [hc1, h]; rfl
    · rename_i fs hu
      simp only [Bool.and_eq_true] at hpt
      simp only [HasT, hu]
      obtain ⟨xs, m, hm, _, hlen, hxl, hget⟩ := DataW.trod_struct hu h
      cases hm
      have each : ∀ i, i < fs.size → ∃ p : List AVal, ∀ f, fs[i]? = some f → Reps (Gh.all w) p ((cs.drop f.offset).take (P.cellsOf f.type)) ∧ HasT P n f.type p ∧ ∀ c, c ∈ p → Flat1 c := by
        intro i hi
        have hfi : fs[i]? = some fs[i] := Array.getElem?_eq_getElem hi
        have hx : xs[i]? = some xs[i] := List.getElem?_eq_getElem (by omega)
        have hmem : fs[i].type ∈ ts := by
          have := List.all_eq_true.1 hpt.2 fs[i] (by simp)
          simpa using this
        obtain ⟨p, h1, h2, h3⟩ := ih fs[i].type _ xs[i] hmem (by rw [hget i _ hfi, hx])
        exact ⟨p, fun f hf => by rw [hfi] at hf; cases hf; exact ⟨h1, h2, h3⟩⟩
      obtain ⟨parts, hpl, hpe⟩ := build fs.size each
      refine ⟨parts.flatten, ?_, ⟨parts, hpl, rfl, fun i f p hf hp => ((hpe i p hp) f hf).2.1⟩, ?_⟩
      · have := contig_parts (cs := cs) hpt.1 hlen
        rw [List.drop_zero] at this
        rw [← this]
        refine reps_flatten_parts (by simp [hpl]) ?_
        intro i p c h1 h2
        rw [List.getElem?_map, Option.map_eq_some_iff] at h2
        obtain ⟨f, hf, rfl⟩ := h2
        exact ((hpe i p h1) f (by simpa using hf)).1
      · intro c hc
        obtain ⟨p, hp1, hp2⟩ := List.mem_flatten.1 hc
        obtain ⟨i, hi⟩ := List.getElem?_of_mem hp1
        have hlt : i < fs.size := by rw [← hpl]; exact (List.getElem?_eq_some_iff.1 hi).1
        exact ((hpe i p hi) fs[i] (Array.getElem?_eq_getElem hlt)).2.2 c hp2
    · rename_i m e hu
      simp only [Bool.and_eq_true] at hpt
      simp only [HasT, hu]
      have he : e ∈ ts := by simpa using hpt.1
      have hsz := Nat.eq_of_beq_eq_true hpt.2
      obtain ⟨xs, k, hm, _, hlen, hxl, hget⟩ := DataW.trod_array hu h
      cases hm
      have each : ∀ i, i < m → ∃ p : List AVal, Reps (Gh.all w) p ((cs.drop (i * P.cellsOf e)).take (P.cellsOf e)) ∧ HasT P n e p ∧ ∀ c, c ∈ p → Flat1 c := by
        intro i hi
        have hx : xs[i]? = some xs[i] := List.getElem?_eq_getElem (by omega)
        exact ih e _ xs[i] he (by rw [hget i hi, hx])
      obtain ⟨parts, hpl, hpe⟩ := build m each
      refine ⟨parts.flatten, ?_, ⟨parts, hpl, rfl, ?_⟩, ?_⟩
      · have := array_parts (z := P.cellsOf e) (m := m) (cs := cs) (by omega)
        rw [← this]
        refine reps_flatten_parts (by simp [hpl]) ?_
        intro i p c h1 h2
        rw [List.getElem?_map, Option.map_eq_some_iff] at h2
        obtain ⟨j, hj, rfl⟩ := h2
        have hji : j = i := by
          have := List.getElem?_eq_some_iff.1 hj
          obtain ⟨hj1, hj2⟩ := this
          simp at hj2; omega
        subst hji
        exact (hpe j p h1).1
      · intro p hp1
        obtain ⟨i, hi⟩ := List.getElem?_of_mem hp1
        exact (hpe i p hi).2.1
      · intro c hc
        obtain ⟨p, hp1, hp2⟩ := List.mem_flatten.1 hc
        obtain ⟨i, hi⟩ := List.getElem?_of_mem hp1
        exact (hpe i p hi).2.2 c hp2
    · rename_i e hu
      simp only [Bool.and_eq_true] at hpt
      simp only [HasT, hu]
      have hz : 1 ≤ P.cellsOf e := Nat.le_of_ble_eq_true hpt.2
      have he : e ∈ ts := by simpa using hpt.1
      rcases DataW.trod_pointer hu h with ⟨hc, _⟩ | ⟨a, cs', y, m, hm, hc, _, hcells, hy⟩
      · exact single .nilp _ hc .nilp ⟨rfl, rfl⟩ _ (.inl rfl)
      · cases hm
        obtain ⟨p, h1, h2, h3⟩ := ih e cs' y he hy
        obtain ⟨hb, hl, hcell⟩ := World.cells?_some hcells
        have hspot : a.spot = none := by
          have h0 := hcell 0 (by omega)
          rw [Addr.add_zero'] at h0
          cases hx : cs'[0]? with
          | none => have := (List.getElem?_eq_none_iff.1 hx); omega
          | some v => rw [hx] at h0; exact World.cell?_spot h0
        obtain ⟨blk, off, spot⟩ := a
        simp only at hspot
        subst hspot
        refine single (.ro p) _ hc ?_ ⟨rfl, rfl⟩ _ (.inr ⟨p, rfl, h2⟩)
        have hd : ∀ (j : Nat) (c : AVal), p[j]? = some c → ∃ d, cs'[j]? = some d ∧ Rep (Gh.all w) c d ∧ w.cell? ⟨blk, off + j, none⟩ = some d := by
          intro j c hj
          obtain ⟨d, hd, hr⟩ := h1.get hj
          have hlt := (List.getElem?_eq_some_iff.1 hd).1
          refine ⟨d, hd, hr, ?_⟩
          have := hcell j (by omega)
          rw [Addr.add_lit] at this
          rw [this]; exact hd
        refine .ro (fun j => cs'.getD j undef) (fun c hc => (h3 c hc).1) ?_ ?_ ?_
        · intro j c hj
          obtain ⟨d, hd1, hr, hd2⟩ := hd j c hj
          simp only [Gh.all, hd2, List.getD, hd1, Option.getD_some]
        · intro j c hj
          obtain ⟨d, hd1, hr, hd2⟩ := hd j c hj
          simp only [List.getD, hd1, Option.getD_some]
          exact (h3 c (List.mem_of_getElem? hj)).one hr
        · intro j c hj
          obtain ⟨d, hd1, hr, hd2⟩ := hd j c hj
          simp only [List.getD, hd1, Option.getD_some]
          exact hr
    · cases hpt
end
section
variable {H : Type} {enc : TypeId × Value → H} {P : Program} {w : World}
theorem plain_cell {ts : List TypeId} (hp : plainTs P ts = true) {t : TypeId} {v : Value} {base : Nat} (ht : t ∈ ts) (ha : aggB P t = some false) (hok : Value.okWide P w .any base t v) : v.cells.toList = [v] := by
  have hpt := List.all_eq_true.1 hp t ht
  cases v <;> first | rfl | skip
  exfalso
  unfold aggB at ha
  unfold plainT at hpt
  unfold Value.okWide Cell.okWide Cell.ok at hok
  cases hu : P.underlying t with
  | none => rw [hu] at ha; cases ha
  | some u => rw [hu] at ha hpt hok; cases u <;> simp_all
theorem arg_has {ts : List TypeId} (hp : plainTs P ts = true) {t : TypeId} {v : Value} {d : DataW H} {ps : List MemPlace} {base : Nat} (ht : t ∈ ts) (hok : Value.okWide P w .any base t v)
    (h : DataW.Trod enc P w 0 (fun _ => true) true t v d ps) : ∃ (n : Nat) (as : List AVal), HasT P n t as ∧ (aggB P t = some true → Rep (Gh.all w) (.agg as) v) ∧ (aggB P t = some false → ∃ c, as = [c] ∧ Rep (Gh.all w) c v) := by
  obtain ⟨n, hf⟩ := h
  obtain ⟨as, h1, h2, h3⟩ := trod_has hp n t _ _ ht hf
  refine ⟨n, as, h2, ?_, ?_⟩
  · intro ha
    have hv : ∃ cs, v = .agg cs := by
      unfold Value.okWide at hok
      unfold aggB at ha
      cases hu : P.underlying t with
      | none => rw [hu] at ha; cases ha
      | some u =>
        rw [hu] at ha hok
        cases u <;> simp only [reduceCtorEq, Option.some.injEq, Bool.false_eq_true] at ha
        · obtain ⟨cs, hcs, _⟩ := hok; exact ⟨cs, hcs⟩
        · obtain ⟨cs, hcs, _⟩ := hok; exact ⟨cs, hcs⟩
    obtain ⟨cs, rfl⟩ := hv
    have e : (Value.agg cs).cells.toList = cs.toList := rfl
    rw [e] at h1
    have := Rep.agg (Γ := Gh.all w) h1.1 h1.2 (fun d hd => by
      obtain ⟨i, hi⟩ := List.getElem?_of_mem hd
      have hlt : i < as.length := by rw [← h1.1]; exact (List.getElem?_eq_some_iff.1 hi).1
      have ha' := List.getElem?_eq_getElem hlt
      exact (h3 _ (List.mem_of_getElem? ha')).one (h1.2 i _ _ ha' hi))
    simpa using this
  · intro ha
    have hc := plain_cell hp ht ha hok
    rw [hc] at h1
    obtain ⟨c, rfl⟩ := HasT_single hp ht ha h2
    exact ⟨c, rfl, h1.2 0 c v rfl rfl⟩
end
end Go.Ev
namespace Go.Ev
set_option linter.unusedVariables false
set_option linter.unusedSimpArgs false
open Go
theorem dec_list {α : Type} {enc : α → AVal} {Q : α → Prop} : ∀ {xs : List AVal}, (∀ x, x ∈ xs → ∃ y, x = enc y ∧ Q y) → ∃ ys : List α, xs = ys.map enc ∧ ∀ y, y ∈ ys → Q y
  | [], _ => ⟨[], rfl, by simp⟩
  | x :: xs, h => by
    obtain ⟨y, rfl, hy⟩ := h x (by simp)
    obtain ⟨ys, rfl, hys⟩ := dec_list (xs := xs) (fun z hz => h z (List.mem_cons_of_mem _ hz))
    exact ⟨y :: ys, rfl, by simpa using ⟨hy, hys⟩⟩
structure TyP (P : Program) (t s b i : TypeId) : Prop where
  fs : ∃ fs : Array Field, P.underlying t = some (.struct fs) ∧ fs.toList.map (·.type) = [b, i, i, s, i, s]
  sl : P.underlying s = some (.slice t)
  bo : P.underlying b = some .bool
  int : P.underlying i = some (.int .i64)
theorem HasT.bool_of {P : Program} {n : Nat} {t : TypeId} {as : List AVal} (hu : P.underlying t = some .bool) (h : HasT P n t as) : ∃ b, as = [.bool b] := by
  cases n with
  | zero => cases h
  | succ n => unfold HasT at h; rw [hu] at h; exact h
theorem HasT.int_of {P : Program} {n : Nat} {t : TypeId} {k : IntKind} {as : List AVal} (hu : P.underlying t = some (.int k)) (h : HasT P n t as) : ∃ i, (Lit.int k i).wf = true ∧ as = [.int k i] := by
  cases n with
  | zero => cases h
  | succ n => unfold HasT at h; rw [hu] at h; exact h
theorem HasT.slice_of {P : Program} {n : Nat} {t e : TypeId} {as : List AVal} (hu : P.underlying t = some (.slice e)) (h : HasT P (n + 1) t as) :
    ∃ xs : List AVal, xs.length ≤ maxLen ∧ as = [.lst xs false] ∧ ∀ x, x ∈ xs → HasT P n e x.flat ∧ (aggB P e = some true → ∃ cs, x = .agg cs) ∧ (aggB P e = some false → x.flat = [x]) := by
  unfold HasT at h; rw [hu] at h; exact h
theorem HasT.struct_of {P : Program} {n : Nat} {t : TypeId} {fs : Array Field} {l : List TypeId} {as : List AVal} (hu : P.underlying t = some (.struct fs)) (hl : fs.toList.map (·.type) = l) (h : HasT P (n + 1) t as) :
    ∃ parts : List (List AVal), parts.length = l.length ∧ as = parts.flatten ∧ ∀ (i : Nat) (u : TypeId) (p : List AVal), l[i]? = some u → parts[i]? = some p → HasT P n u p := by
  unfold HasT at h; rw [hu] at h
  obtain ⟨parts, h1, h2, h3⟩ := h
  refine ⟨parts, by rw [h1, ← hl]; simp, h2, ?_⟩
  intro i u p hu hp
  rw [← hl, List.getElem?_map, Option.map_eq_some_iff] at hu
  obtain ⟨f, hf, rfl⟩ := hu
  exact h3 i f p (by simpa using hf) hp
theorem i64_wf {i : Int} (h : (Lit.int .i64 i).wf = true) : -9223372036854775808 ≤ i ∧ i < 9223372036854775808 := by
  simp only [Lit.wf, Bool.and_eq_true, IntKind.min, IntKind.max, IntKind.signed, IntKind.bits] at h
  simp at h
  exact ⟨by omega, by omega⟩
theorem ty_dec {P : Program} {t s b i : TypeId} (hP : TyP P t s b i) : ∀ (n : Nat) (as : List AVal), HasT P n t as → ∃ x : Ty, as = cT x ∧ WfT x := by
  obtain ⟨fs, hu, hl⟩ := hP.fs
  have hagg : aggB P t = some true := by unfold aggB; rw [hu]
  intro n
  induction n using Nat.strongRecOn with
  | ind n ih =>
    intro as h
    cases n with
    | zero => cases h
    | succ n =>
      obtain ⟨parts, h1, rfl, h3⟩ := HasT.struct_of hu hl h
      obtain ⟨p0, p1, p2, p3, p4, p5, rfl⟩ := len6 h1
      obtain ⟨v0, rfl⟩ := HasT.bool_of hP.bo (h3 0 b p0 rfl rfl)
      obtain ⟨v1, w1, rfl⟩ := HasT.int_of hP.int (h3 1 i p1 rfl rfl)
      obtain ⟨v2, w2, rfl⟩ := HasT.int_of hP.int (h3 2 i p2 rfl rfl)
      obtain ⟨v4, w4, rfl⟩ := HasT.int_of hP.int (h3 4 i p4 rfl rfl)
      have hs3 := h3 3 s p3 rfl rfl
      have hs5 := h3 5 s p5 rfl rfl
      cases n with
      | zero => cases hs3
      | succ n =>
        have list : ∀ p, HasT P (n + 1) s p → ∃ ys : List Ty, p = [.lst (ys.map encT) false] ∧ ys.length < 9223372036854775808 ∧ ∀ y, y ∈ ys → WfT y := by
          intro p hp
          obtain ⟨xs, k1, rfl, k3⟩ := HasT.slice_of hP.sl hp
          obtain ⟨ys, rfl, hys⟩ := dec_list (enc := encT) (Q := WfT) (xs := xs) (by
            intro x hx
            obtain ⟨q1, q2, _⟩ := k3 x hx
            obtain ⟨cs, rfl⟩ := q2 hagg
            obtain ⟨y, hy, hw⟩ := ih n (by omega) _ q1
            refine ⟨y, ?_, hw⟩
            rw [encT_eq]
            have : cs = cT y := hy
            rw [this])
          refine ⟨ys, rfl, ?_, hys⟩
          rw [List.length_map] at k1
          have : maxLen = 9223372036854775807 := rfl
          omega
        obtain ⟨ys3, rfl, l3, q3⟩ := list p3 hs3
        obtain ⟨ys5, rfl, l5, q5⟩ := list p5 hs5
        exact ⟨⟨v0, v1, v2, ys3, v4, ys5⟩, rfl, .mk (i64_wf w1) (i64_wf w2) (i64_wf w4) l3 l5 q3 q5⟩
end Go.Ev
