/-
  Part 5 of a proof: NarrowAsks: for every input the law returns true, and what it was given reads behind the call as before. No conditions.
-/
import Derived.Test.YtoacjncdnnkbaaaP4
namespace Go.Ev.Seat
set_option linter.unusedVariables false
set_option linter.unusedSimpArgs false
open Go Go.Ev
theorem ins_l3 (A C : List Fct) (y : Fct) (K : List Fct → Int → Option (List Fct)) (c : Int) : ∀ (k : Nat) (S1 S2 : List Fct) (n : Nat), S1.length = k → k < n → Srt (S1 ++ S2) → (∀ s, s ∈ S2 → y.var ≤ s.var) → (A ++ S1 ++ y :: S2 ++ C).length < 100000000000 →
    ∃ S, S.Perm (y :: (S1 ++ S2)) ∧ Srt S ∧ y03 (A.length : Nat) c K n (A ++ S1 ++ y :: S2 ++ C) ((A.length + S1.length : Nat) : Int) = K (A ++ S ++ C) (IntKind.i64.wrap (c + 1)) := by
  intro k
  induction k with
  | zero =>
    intro S1 S2 n h1 h2 h3 h4 hb
    obtain rfl : S1 = [] := List.length_eq_zero_iff.1 h1
    obtain ⟨n, rfl⟩ : ∃ m, n = m + 1 := ⟨n - 1, by omega⟩
    refine ⟨y :: S2, List.Perm.refl _, List.pairwise_cons.2 ⟨h4, by simpa using h3⟩, ?_⟩
    rw [y03]
    have e1 : decide (((A.length : Nat) : Int) < ((A.length + ([] : List Fct).length : Nat) : Int)) = false := by simp
    rw [e1, cond_false, Option.bind_some, cond_false, y0m]; simp
  | succ k ih =>
    intro S1 S2 n h1 h2 h3 h4 hb
    obtain ⟨X, x, rfl⟩ : ∃ X' x, S1 = X' ++ [x] := ⟨S1.dropLast, S1.getLast (by intro h; simp [h] at h1), (List.dropLast_concat_getLast _).symm⟩
    obtain ⟨n, rfl⟩ : ∃ m, n = m + 1 := ⟨n - 1, by omega⟩
    simp only [List.length_append, List.length_cons, List.length_nil] at hb h1
    have e1 : decide (((A.length : Nat) : Int) < ((A.length + (X ++ [x]).length : Nat) : Int)) = true := by simp; omega
    have e2 : IntKind.i64.wrap (((A.length + (X ++ [x]).length : Nat) : Int) - 1) = ((A.length + X.length : Nat) : Int) := by rw [wI (by simp; omega) (by simp; omega)]; simp; omega
    have i1 : idx (A ++ (X ++ [x]) ++ y :: S2 ++ C) ((A.length + (X ++ [x]).length : Nat) : Int) = some y := idx_at (A := A ++ X ++ [x]) (B := S2 ++ C) (x := y) (by simp) (by simp)
    have i2 : idx (A ++ (X ++ [x]) ++ y :: S2 ++ C) ((A.length + X.length : Nat) : Int) = some x := idx_at (A := A ++ X) (B := y :: S2 ++ C) (x := x) (by simp) (by simp)
    by_cases hc : y.var < x.var
    · obtain ⟨S, p1, p2, p3⟩ := ih X (x :: S2) n (by omega) (by omega) (by simpa using h3) (by
        intro s hs
        rcases List.mem_cons.1 hs with rfl | hs
        · exact Int.le_of_lt hc
        · exact h4 s hs) (by simp; omega)
      refine ⟨S, p1.trans (by simp), p2, ?_⟩
      rw [y03, e1, cond_true, i1, Option.bind_some, e2, i2, Option.bind_some, cmp_eq, Option.bind_some, cmp_lt, decide_eq_true hc, Option.bind_some, cond_true, Option.bind_some, Option.bind_some, Option.bind_some]
      rw [setL_at (A := A ++ X ++ [x]) (B := S2 ++ C) (x := y) (y := x) (by simp) (by simp), Option.bind_some]
      rw [idx_at (A := A ++ X) (B := x :: S2 ++ C) (x := x) (by simp) (by simp), Option.bind_some]
      rw [setL_at (A := A ++ X) (B := x :: S2 ++ C) (x := x) (y := y) (by simp) (by simp), Option.bind_some]
      rw [← p3]; simp
    · refine ⟨X ++ [x] ++ y :: S2, List.perm_middle, ?_, ?_⟩
      · obtain ⟨a1, a2, a3⟩ := List.pairwise_append.1 h3
        refine List.pairwise_append.2 ⟨a1, List.pairwise_cons.2 ⟨h4, a2⟩, fun u hu v hv => ?_⟩
        rcases List.mem_cons.1 hv with rfl | hv
        · have : u.var ≤ x.var := by
            rcases List.mem_append.1 hu with h | h
            · exact srt_l a1 u h
            · rw [List.mem_singleton.1 h]; exact Int.le_refl _
          exact Int.le_trans this (Int.not_lt.1 hc)
        · exact a3 u hu v hv
      · rw [y03, e1, cond_true, i1, Option.bind_some, e2, i2, Option.bind_some, cmp_eq, Option.bind_some, cmp_lt, decide_eq_false hc, Option.bind_some, cond_false, y0m]; simp
theorem ins_l1 (K : Nat) (A C : List Fct) (N : Nat) : ∀ (R S : List Fct) (n : Nat), R.length < n → S.length + R.length < K → S.length + R.length = N → Srt S → (A ++ S ++ R ++ C).length < 100000000000 →
    ∃ S', S'.Perm (S ++ R) ∧ Srt S' ∧ y00 K (A.length : Nat) ((A.length + N : Nat) : Int) n (A ++ S ++ R ++ C) ((A.length + S.length : Nat) : Int) = some (A ++ S' ++ C)
  | [], S, n, h1, hK, hN, hs, hb => by
    obtain ⟨n, rfl⟩ : ∃ m, n = m + 1 := ⟨n - 1, by omega⟩
    simp only [List.length_nil, Nat.add_zero] at hN
    refine ⟨S, by simp, hs, ?_⟩
    rw [y00]
    have e1 : decide (((A.length + S.length : Nat) : Int) < ((A.length + N : Nat) : Int)) = false := by simp; omega
    rw [e1, cond_false]; simp
  | y :: R, S, n, h1, hK, hN, hs, hb => by
    obtain ⟨n, rfl⟩ : ∃ m, n = m + 1 := ⟨n - 1, by omega⟩
    simp only [List.length_append, List.length_cons] at hb h1 hN hK
    obtain ⟨S1, p1, p2, p3⟩ := ins_l3 A (R ++ C) y (y00 K (A.length : Nat) ((A.length + N : Nat) : Int) n) ((A.length + S.length : Nat) : Int) S.length S [] K rfl (by omega) (by simpa using hs) (fun s h => by simp at h) (by simp; omega)
    have hl : S1.length = S.length + 1 := by rw [p1.length_eq]; simp
    obtain ⟨S', q1, q2, q3⟩ := ins_l1 K A C N R S1 n (by omega) (by omega) (by omega) p2 (by simp; omega)
    refine ⟨S', q1.trans ?_, q2, ?_⟩
    · have : (S1 ++ R).Perm ((y :: (S ++ [])) ++ R) := p1.append_right R
      refine this.trans ?_
      simp only [List.append_nil, List.cons_append]
      exact List.perm_middle.symm
    · rw [y00]
      have e1 : decide (((A.length + S.length : Nat) : Int) < ((A.length + N : Nat) : Int)) = true := by simp; omega
      have e2 : IntKind.i64.wrap (((A.length + S.length : Nat) : Int) + 1) = ((A.length + S1.length : Nat) : Int) := by rw [wI (by omega) (by omega)]; omega
      rw [e2] at p3
      rw [e1, cond_true, ← q3]
      simpa using p3
theorem ins_ok (K : Nat) (A S C : List Fct) (hK : S.length + 1 < K) (hb : (A ++ S ++ C).length < 100000000000) {a b : Int} (ha : a = (A.length : Nat)) (hb2 : b = ((A.length + S.length : Nat) : Int)) :
    ∃ S', S'.Perm S ∧ Srt S' ∧ y0h K (A ++ S ++ C) a b = some (A ++ S' ++ C) := by
  subst ha hb2
  simp only [List.length_append] at hb
  have e1 : IntKind.i64.wrap (((A.length : Nat) : Int) + 1) = ((A.length + 1 : Nat) : Int) := by rw [wI (by omega) (by omega)]; omega
  cases S with
  | nil =>
    obtain ⟨K, rfl⟩ : ∃ m, K = m + 1 := ⟨K - 1, by omega⟩
    refine ⟨[], List.Perm.refl _, List.Pairwise.nil, ?_⟩
    rw [y0h, e1, y00]
    have e2 : decide (((A.length + 1 : Nat) : Int) < ((A.length + ([] : List Fct).length : Nat) : Int)) = false := by simp; omega
    rw [e2, cond_false]
  | cons y R =>
    simp only [List.length_cons] at hK hb
    obtain ⟨S', p1, p2, p3⟩ := ins_l1 K A C (R.length + 1) R [y] K (by omega) (by simp; omega) (by simp; omega) (List.pairwise_singleton _ _) (by simp; omega)
    refine ⟨S', by simpa using p1, p2, ?_⟩
    rw [y0h, e1]
    simpa using p3
def SB (k : Nat) (l : List Fct) : Prop := ∀ q, Srt ((l.drop (q * k)).take k)
theorem sb_srt {k : Nat} {l : List Fct} (h : Srt l) : SB k l := fun q => (h.sublist (List.drop_sublist _ _)).sublist (List.take_sublist _ _)
theorem sb_nil (k : Nat) : SB k [] := sb_srt List.Pairwise.nil
theorem sb_app {k : Nat} {D R : List Fct} (hk : 0 < k) (h1 : SB k D) (h2 : SB k R) {c : Nat} (hd : D.length = c * k) : SB k (D ++ R) := by
  intro q
  by_cases hq : q < c
  · have : q * k + k ≤ D.length := by rw [hd]; have := Nat.mul_le_mul_right k hq; rw [Nat.succ_mul] at this; exact this
    have h3 : ((D ++ R).drop (q * k)).take k = (D.drop (q * k)).take k := by
      rw [List.drop_append_of_le_length (by omega), List.take_append_of_le_length (by rw [List.length_drop]; omega)]
    rw [h3]; exact h1 q
  · have h3 : (D ++ R).drop (q * k) = R.drop ((q - c) * k) := by
      have : q * k = D.length + (q - c) * k := by rw [hd, ← Nat.add_mul]; congr 1; omega
      rw [this, List.drop_append]; simp
    rw [h3]; exact h2 (q - c)
theorem sb_drop {k c : Nat} {l : List Fct} (h : SB k l) : SB k (l.drop (c * k)) := by
  intro q
  rw [List.drop_drop, ← Nat.add_mul]
  exact h (c + q)
theorem sb_take {k : Nat} {l : List Fct} (h : SB k l) : Srt (l.take k) := by have := h 0; simpa using this
theorem sb_all {k : Nat} {l : List Fct} (h : SB k l) (hl : l.length ≤ k) : Srt l := by
  have := sb_take h
  rwa [List.take_of_length_le hl] at this
theorem st_l4 (K : Nat) (KK : List Fct → Int → Option (List Fct)) (k L : Nat) (hk : 0 < k) (hkL : k < L) (hL : L < 10000000000) (hK : L + 10 < K) : ∀ (d c : Nat) (D R : List Fct) (n : Nat), R.length ≤ d → d < n → D.length + R.length = L → D.length = c * (2 * k) → SB (2 * k) D → SB k R →
    ∃ R', R'.Perm R ∧ SB (2 * k) (D ++ R') ∧ y0e K (L : Nat) (k : Nat) KK n (D ++ R) (D.length : Nat) ((D.length + 2 * k : Nat) : Int) = KK (D ++ R') ((2 * k : Nat) : Int) := by
  intro d
  induction d with
  | zero =>
    intro c D R n h1 h2 h3 h4 h5 h6
    obtain rfl : R = [] := List.length_eq_zero_iff.1 (by omega)
    obtain ⟨n, rfl⟩ : ∃ m, n = m + 1 := ⟨n - 1, by omega⟩
    simp only [List.length_nil, Nat.add_zero] at h3
    refine ⟨[], List.Perm.refl _, by simpa using h5, ?_⟩
    rw [y0e]
    have e1 : decide (((D.length + 2 * k : Nat) : Int) ≤ ((L : Nat) : Int)) = false := by simp; omega
    have e2 : IntKind.i64.wrap (((D.length : Nat) : Int) + ((k : Nat) : Int)) = ((D.length + k : Nat) : Int) := by rw [wI (by omega) (by omega)]; omega
    have e3 : decide (((D.length + k : Nat) : Int) < ((L : Nat) : Int)) = false := by simp; omega
    have e4 : IntKind.i64.wrap (((k : Nat) : Int) * 2) = ((2 * k : Nat) : Int) := by rw [wI (by omega) (by omega)]; omega
    rw [e1, cond_false, y0p, e2, e3, cond_false, y0g, e4]
  | succ d ih =>
    intro c D R n h1 h2 h3 h4 h5 h6
    obtain ⟨n, rfl⟩ : ∃ m, n = m + 1 := ⟨n - 1, by omega⟩
    rw [y0e]
    have e2 : IntKind.i64.wrap (((D.length : Nat) : Int) + ((k : Nat) : Int)) = ((D.length + k : Nat) : Int) := by rw [wI (by omega) (by omega)]; omega
    have e4 : IntKind.i64.wrap (((k : Nat) : Int) * 2) = ((2 * k : Nat) : Int) := by rw [wI (by omega) (by omega)]; omega
    have e5 : IntKind.i64.wrap (2 * ((k : Nat) : Int)) = ((2 * k : Nat) : Int) := by rw [wI (by omega) (by omega)]; omega
    by_cases hc : D.length + 2 * k ≤ L
    · have e1 : decide (((D.length + 2 * k : Nat) : Int) ≤ ((L : Nat) : Int)) = true := by simp; omega
      have hR1 : R = R.take k ++ R.drop k := (List.take_append_drop k R).symm
      have hR2 : R.drop k = (R.drop k).take k ++ R.drop (2 * k) := by
        rw [show 2 * k = k + k by omega, ← List.drop_drop]; exact (List.take_append_drop k _).symm
      have sX : Srt (R.take k) := sb_take h6
      have sY : Srt ((R.drop k).take k) := by have := h6 1; rwa [Nat.one_mul] at this
      have lX : (R.take k).length = k := by rw [List.length_take]; omega
      have lY : ((R.drop k).take k).length = k := by rw [List.length_take, List.length_drop]; omega
      have lZ : (R.drop (2 * k)).length = R.length - 2 * k := List.length_drop
      have hll : D ++ R = D ++ R.take k ++ (R.drop k).take k ++ R.drop (2 * k) := by
        have h7 : R = R.take k ++ ((R.drop k).take k ++ R.drop (2 * k)) := by rw [← hR2]; exact hR1
        exact (congrArg (fun z => D ++ z) h7).trans (by simp only [List.append_assoc])
      obtain ⟨M, m1, m2, m3⟩ := sym_ok K D (R.take k) ((R.drop k).take k) (R.drop (2 * k)) (by omega) (by omega) (by omega) sX sY (by rw [← hll]; simp; omega)
      rw [← hll, lX, lY] at m3
      have lM : M.length = 2 * k := by rw [m1.length_eq, List.length_append]; omega
      have sb1 : SB (2 * k) (D ++ M) := sb_app (by omega) h5 (sb_srt m2) h4
      have sb2 : SB k (R.drop (2 * k)) := sb_drop h6
      obtain ⟨R', r1, r2, r3⟩ := ih (c + 1) (D ++ M) (R.drop (2 * k)) n (by omega) (by omega) (by simp; omega) (by rw [List.length_append, lM, h4, Nat.add_mul c 1, Nat.one_mul]) sb1 sb2
      refine ⟨M ++ R', ?_, by simpa using r2, ?_⟩
      · have : (M ++ R').Perm ((R.take k ++ (R.drop k).take k) ++ R.drop (2 * k)) := m1.append r1
        rw [List.append_assoc, ← hR2, ← hR1] at this
        exact this
      · have e6 : IntKind.i64.wrap (((D.length + 2 * k : Nat) : Int) + ((2 * k : Nat) : Int)) = (((D ++ M).length + 2 * k : Nat) : Int) := by rw [wI (by omega) (by omega)]; simp; omega
        have e7 : ((D.length + 2 * k : Nat) : Int) = (((D ++ M).length : Nat) : Int) := by simp; omega
        have m4 : y06 K (D ++ R) (D.length : Nat) ((D.length + k : Nat) : Int) ((D.length + 2 * k : Nat) : Int) = some (D ++ M ++ R.drop (2 * k)) := by
          rw [← m3]; congr 1; omega
        rw [e1, cond_true, e2, m4, callG_of rfl (by simp; omega), Option.bind_some, e5, e6, e7, r3]; simp
    · have e1 : decide (((D.length + 2 * k : Nat) : Int) ≤ ((L : Nat) : Int)) = false := by simp; omega
      rw [e1, cond_false, y0p, e2]
      by_cases hc2 : D.length + k < L
      · have e3 : decide (((D.length + k : Nat) : Int) < ((L : Nat) : Int)) = true := by simp; omega
        have hR1 : R = R.take k ++ R.drop k := (List.take_append_drop k R).symm
        have sX : Srt (R.take k) := sb_take h6
        have lX : (R.take k).length = k := by rw [List.length_take]; omega
        have lY : (R.drop k).length = R.length - k := List.length_drop
        have sY : Srt (R.drop k) := sb_all (k := k) (by have := sb_drop (c := 1) h6; rwa [Nat.one_mul] at this) (by omega)
        have hll : D ++ R = D ++ R.take k ++ R.drop k ++ [] := (congrArg (fun z => D ++ z) hR1).trans (by simp only [List.append_assoc, List.append_nil])
        obtain ⟨M, m1, m2, m3⟩ := sym_ok K D (R.take k) (R.drop k) [] (by omega) (by omega) (by omega) sX sY (by rw [← hll]; simp; omega)
        rw [← hll, lX] at m3
        have lM : M.length = R.length := by rw [m1.length_eq, ← hR1]
        have m4 : y06 K (D ++ R) (D.length : Nat) ((D.length + k : Nat) : Int) ((L : Nat) : Int) = some (D ++ M ++ []) := by
          rw [← m3]; congr 1; omega
        refine ⟨M, by rw [← hR1] at m1; exact m1, sb_app (by omega) h5 (sb_srt m2) h4, ?_⟩
        rw [e3, cond_true, m4, callG_of rfl (by simp; omega), Option.bind_some, y0g, e4]; simp
      · have e3 : decide (((D.length + k : Nat) : Int) < ((L : Nat) : Int)) = false := by simp; omega
        refine ⟨R, List.Perm.refl _, sb_app (by omega) h5 (sb_srt (sb_all h6 (by omega))) h4, ?_⟩
        rw [e3, cond_false, y0g, e4]
theorem st_l1 (K L : Nat) (hL : L < 10000000000) (hK : L + 10 < K) : ∀ (d k : Nat) (l : List Fct) (n : Nat), L ≤ k + d → d < n → 0 < k → l.length = L → SB k l →
    ∃ r, r.Perm l ∧ Srt r ∧ y01 K (L : Nat) n l (k : Nat) = some r := by
  intro d
  induction d with
  | zero =>
    intro k l n h1 h2 h3 h4 h5
    obtain ⟨n, rfl⟩ : ∃ m, n = m + 1 := ⟨n - 1, by omega⟩
    refine ⟨l, List.Perm.refl _, sb_all h5 (by omega), ?_⟩
    rw [y01]
    have e1 : decide (((k : Nat) : Int) < ((L : Nat) : Int)) = false := by simp; omega
    rw [e1, cond_false]
  | succ d ih =>
    intro k l n h1 h2 h3 h4 h5
    obtain ⟨n, rfl⟩ : ∃ m, n = m + 1 := ⟨n - 1, by omega⟩
    rw [y01]
    by_cases hc : k < L
    · have e1 : decide (((k : Nat) : Int) < ((L : Nat) : Int)) = true := by simp; omega
      have e2 : IntKind.i64.wrap (2 * ((k : Nat) : Int)) = ((2 * k : Nat) : Int) := by rw [wI (by omega) (by omega)]; omega
      obtain ⟨R', p1, p2, p3⟩ := st_l4 K (y01 K (L : Nat) n) k L h3 hc hL hK L 0 [] l K (by omega) (by omega) (by simp; omega) (by simp) (sb_nil _) h5
      have lR : R'.length = L := by rw [p1.length_eq, h4]
      obtain ⟨r, q1, q2, q3⟩ := ih (2 * k) ([] ++ R') n (by omega) (by omega) (by omega) (by simpa using lR) p2
      refine ⟨r, q1.trans p1, q2, ?_⟩
      rw [e1, cond_true, e2, ← q3, ← p3]; simp
    · have e1 : decide (((k : Nat) : Int) < ((L : Nat) : Int)) = false := by simp; omega
      rw [e1, cond_false]
      exact ⟨l, List.Perm.refl _, sb_all h5 (by omega), rfl⟩
theorem st_l6 (K L : Nat) (hL : L < 10000000000) (hK : L + 10 < K) : ∀ (d c : Nat) (D R : List Fct) (n : Nat), R.length ≤ d → d < n → D.length + R.length = L → D.length = c * 20 → SB 20 D →
    ∃ r, r.Perm (D ++ R) ∧ Srt r ∧ y0d K (L : Nat) n (D ++ R) (D.length : Nat) ((D.length + 20 : Nat) : Int) = some r := by
  intro d
  have last : ∀ (c : Nat) (D R : List Fct), D.length + R.length = L → D.length = c * 20 → SB 20 D → ∃ r, r.Perm (D ++ R) ∧ Srt r ∧ y0q K (L : Nat) (D ++ R) (D.length : Nat) = some r := by
    intro c D R h3 h4 h5
    obtain ⟨S, p1, p2, p3⟩ := ins_ok K D R [] (by omega) (by simp; omega) (a := (D.length : Nat)) (b := (L : Nat)) rfl (by omega)
    simp only [List.append_nil] at p3
    have lS : S.length = R.length := p1.length_eq
    obtain ⟨r, q1, q2, q3⟩ := st_l1 K L hL hK L 20 (D ++ S) K (by omega) (by omega) (by omega) (by simp; omega) (sb_app (by omega) h5 (sb_srt p2) h4)
    refine ⟨r, q1.trans (p1.append_left D), q2, ?_⟩
    rw [y0q, callG_of p3 (by simp; omega), Option.bind_some]
    exact q3
  induction d with
  | zero =>
    intro c D R n h1 h2 h3 h4 h5
    obtain ⟨n, rfl⟩ : ∃ m, n = m + 1 := ⟨n - 1, by omega⟩
    rw [y0d]
    have e1 : decide (((D.length + 20 : Nat) : Int) ≤ ((L : Nat) : Int)) = false := by simp; omega
    rw [e1, cond_false]
    exact last c D R h3 h4 h5
  | succ d ih =>
    intro c D R n h1 h2 h3 h4 h5
    obtain ⟨n, rfl⟩ : ∃ m, n = m + 1 := ⟨n - 1, by omega⟩
    rw [y0d]
    by_cases hc : D.length + 20 ≤ L
    · have e1 : decide (((D.length + 20 : Nat) : Int) ≤ ((L : Nat) : Int)) = true := by simp; omega
      have lX : (R.take 20).length = 20 := by rw [List.length_take]; omega
      have lY : (R.drop 20).length = R.length - 20 := List.length_drop
      have hR1 : R = R.take 20 ++ R.drop 20 := (List.take_append_drop 20 R).symm
      have hll : D ++ R = D ++ R.take 20 ++ R.drop 20 := (congrArg (fun z => D ++ z) hR1).trans (by simp only [List.append_assoc])
      obtain ⟨S, p1, p2, p3⟩ := ins_ok K D (R.take 20) (R.drop 20) (by omega) (by rw [← hll]; simp; omega) (a := (D.length : Nat)) (b := ((D.length + 20 : Nat) : Int)) rfl (by omega)
      rw [← hll] at p3
      have lS : S.length = 20 := by rw [p1.length_eq, lX]
      obtain ⟨r, q1, q2, q3⟩ := ih (c + 1) (D ++ S) (R.drop 20) n (by omega) (by omega) (by simp; omega) (by simp; omega) (sb_app (by omega) h5 (sb_srt p2) h4)
      refine ⟨r, q1.trans ?_, q2, ?_⟩
      · rw [hll]; exact (p1.append_left D).append_right _
      · have e2 : IntKind.i64.wrap (((D.length + 20 : Nat) : Int) + 20) = (((D ++ S).length + 20 : Nat) : Int) := by rw [wI (by omega) (by omega)]; simp; omega
        have e3 : ((D.length + 20 : Nat) : Int) = (((D ++ S).length : Nat) : Int) := by simp; omega
        rw [e1, cond_true, callG_of p3 (by simp; omega), Option.bind_some, e2, e3]
        exact q3
    · have e1 : decide (((D.length + 20 : Nat) : Int) ≤ ((L : Nat) : Int)) = false := by simp; omega
      rw [e1, cond_false]
      exact last c D R h3 h4 h5
theorem sort_ok (m : List Fct) (n : Nat) (hm : m.length < 10000000000) (hn : m.length + 10 < n) : ∃ r, y0b n m = some r ∧ r.Perm m ∧ Srt r := by
  obtain ⟨r, p1, p2, p3⟩ := st_l6 n m.length hm hn m.length 0 [] m n (by omega) (by omega) (by simp) (by simp) (sb_nil _)
  rw [List.nil_append] at p1
  refine ⟨r, ?_, p1, p2⟩
  have h : y13 n m ((m.length : Nat) : Int) = some r := by
    rw [y13, ← p3]; simp
  rw [y0b, callG_of h p1.length_eq, Option.bind_some]
end Go.Ev.Seat
namespace Go.Ev.Seat
set_option linter.unusedVariables false
set_option linter.unusedSimpArgs false
open Go Go.Ev
set_option maxRecDepth 20000
attribute [local irreducible] pcall callF
namespace FcS
theorem encFct_ws (l : List Fct) : (l.map encFct).all (fun y => decide (y.width = 2)) = true := by
  rw [List.all_eq_true]; intro y hy; obtain ⟨x, _, rfl⟩ := List.mem_map.1 hy; rfl
def encFL (l : List Fct) : AVal := .lst (l.map encFct) false
theorem encFL_get {ls : List (List Fct)} {i : Nat} {x : List Fct} (h : ls[i]? = some x) : (ls.map encFL)[((i : Nat) : Int).toNat]? = some (encFL x) := by rw [Int.toNat_natCast, List.getElem?_map, h]; rfl
theorem fgrow_c (n : Nat) (k : Nat) (H : Heap) (h0 : 0 < k) (hk : k ≤ 1000000) : callF (tabOf tabL) (n + 1) 74 [.lst [] true, .int .i64 (k : Nat)] H = some (.ok (.gl (H.length + 1) 0), H ++ [.dead, .grow 2 [] none]) := by
  have e1 : IntKind.i64.wrap (0 - 0) = 0 := by decide
  have e2 : IntKind.i64.wrap ((k : Int) - 0) = k := by rw [kw_i64_id (by omega) (by omega)]; omega
  refine callF_fin t74 ?_
  refine WL_seq ?_
  refine WL_reg ?_
  refine O_p rfl rfl rfl ?_
  refine WO_nil ?_
  refine WL_seq ?_
  apply WLp
  · (repeat (first | exact rzz | apply rcc rfl | apply rnn rfl))
  refine WL_seq ?_
  refine WL_seq ?_
  refine WL_reg ?_
  refine O_p rfl rfl rfl ?_
  refine O_p rfl rfl rfl ?_
  refine WO_nil ?_
  refine WL_seq ?_
  apply WLp
  · (repeat (first | exact rzz | apply rcc rfl | apply rnn rfl))
  refine WL_cond rfl (fun h6 => ?_) (fun h6 => ?_)
  · skip
    simp at h6; omega
  · skip
    refine WL_skip ?_
    refine WL_seq ?_
    apply WLp
    · (repeat (first | exact rzz | apply rcc rfl | apply rnn rfl))
    refine WL_seq ?_
    refine WL_seq ?_
    refine WL_reg ?_
    refine O_p rfl rfl rfl ?_
    refine O_p rfl rfl rfl ?_
    refine O_h rfl rfl rfl rfl ?_
    refine O_p rfl rfl rfl ?_
    refine O_h rfl rfl rfl rfl ?_
    refine O_p rfl rfl rfl ?_
    refine O_v (.int .i64 (k : Nat)) rfl rfl rfl (by show AVal.int _ (IntKind.i64.wrap (_ - IntKind.i64.wrap (0 - 0))) = _; rw [e1, e2]) ?_
    refine O_p rfl rfl rfl ?_
    refine WO_nil ?_
    refine WL_seq ?_
    apply WLp
    · (repeat (first | exact rzz | apply rcc rfl | apply rnn rfl))
    refine WL_seq ?_
    refine WL_reg ?_
    refine O_p rfl rfl rfl ?_
    refine O_p rfl rfl rfl ?_
    refine WO_nil ?_
    refine WL_seq ?_
    apply WLp
    · (repeat (first | exact rzz | apply rcc rfl | apply rnn rfl))
    refine WL_cond rfl (fun h16 => ?_) (fun h16 => ?_)
    · skip
      refine WL_reg ?_
      refine O_p rfl rfl rfl ?_
      refine O_p rfl rfl rfl ?_
      refine O_h rfl rfl rfl rfl ?_
      refine O_h (v := .lst [] true) rfl rfl rfl rfl ?_
      refine O_p rfl rfl rfl ?_
      refine O_h rfl rfl rfl (appz_ev rfl rfl h0 (by omega) rfl (by omega)) ?_
      refine O_p rfl rfl rfl ?_
      refine O_h rfl rfl rfl rfl ?_
      refine O_h rfl rfl rfl (cut_ev rfl rfl (by simp)) ?_
      refine O_p rfl rfl rfl ?_
      refine WO_nil ?_
      refine WL_seq ?_
      apply WLp
      · (repeat (first | exact rzz | apply rcc rfl | apply rnn rfl))
      refine WL_seq ?_
      refine WL_reg ?_
      refine O_p rfl rfl rfl ?_
      refine O_p rfl rfl rfl ?_
      refine WO_nil ?_
      refine WL_ret ?_
      exact ⟨_, rfl, rfl, rfl⟩
    · skip
      simp at h16; omega
theorem fconcat_c (n : Nat) (ls : List (List Fct)) (h0 : 0 < ls.flatten.length) (hk : ls.flatten.length ≤ 1000000) (hn : ls.length < n) (hm : ls.length ≤ 1000000) :
    pcall (tabOf tabL) (n + 2) 39 [.lst (ls.map encFL) false] = some (.ok (.lst (ls.flatten.map encFct) false)) := by
  refine pcall_fin t39 ?_
  refine WL_seq ?_
  refine WL_reg ?_
  refine O_p rfl rfl rfl ?_
  refine WO_nil ?_
  refine WL_seq ?_
  apply WLp
  · (repeat (first | exact rzz | apply rcc rfl | apply rnn rfl))
  refine WL_seq ?_
  refine WL_reg ?_
  refine O_p rfl rfl rfl ?_
  refine WO_nil ?_
  refine WL_seq ?_
  apply WLp
  · (repeat (first | exact rzz | apply rcc rfl | apply rnn rfl))
  refine WL_seq ?_
  refine WL_seq ?_
  refine WL_reg ?_
  refine O_p rfl rfl rfl ?_
  refine O_h rfl rfl rfl rfl ?_
  refine O_p rfl rfl rfl ?_
  refine WO_nil ?_
  refine WL_seq ?_
  apply WLp
  · (repeat (first | exact rzz | apply rcc rfl | apply rnn rfl))
  refine WL_block ?_
  apply WL_forc (α := Nat × Nat) (fun s => [(3, .int .i64 (s.1 : Nat)), (11, .int .i64 (s.2 : Nat))]) (fun s => s.2 ≤ ls.length ∧ s.1 + (ls.drop s.2).flatten.length = ls.flatten.length) (fun s => ls.length - s.2) ((0, 0)) (he := ?he) (hP := ?hP) (hk := ?hk) (round := ?round)
  case he =>
    (repeat (first | exact rzz | apply rcc rfl | apply rnn rfl))
  case hP =>
    exact ⟨by simp, by simp⟩
  case hk =>
    show ls.length - 0 < n + 1; omega
  case round =>
    rintro ⟨c, i⟩ ⟨hi, hs⟩
    simp only at hi hs
    dsimp only [List.cons_append, List.nil_append] at *
    refine WL_seq ?_
    refine WL_reg ?_
    refine O_p rfl rfl rfl ?_
    refine WO_nil ?_
    refine WL_seq ?_
    apply WLp
    · (repeat (first | exact rzz | apply rcc rfl | apply rnn rfl))
    refine WL_seq ?_
    refine WL_cond rfl (fun h12 => ?_) (fun h12 => ?_)
    · skip
      simp at h12
      obtain ⟨x, hx⟩ : ∃ x, (ls)[i]? = some x := ⟨_, List.getElem?_eq_getElem (by omega)⟩
      have hmx := List.mem_of_getElem? hx
      have hg := drop_of hx
      refine WL_skip ?_
      refine WL_seq ?_
      apply WLp
      · (repeat (first | exact rzz | apply rcc rfl | apply rnn rfl))
      refine WL_seq ?_
      refine WL_block ?_
      refine WL_seq ?_
      refine WL_reg ?_
      refine O_ia rfl rfl (Int.natCast_nonneg _) (encFL_get hx) rfl rfl ?_
      refine O_h rfl rfl rfl rfl ?_
      refine O_p rfl rfl rfl ?_
      refine WO_nil ?_
      refine WL_seq ?_
      apply WLp
      · (repeat (first | exact rzz | apply rcc rfl | apply rnn rfl))
      refine WL_seq ?_
      refine WL_reg ?_
      refine O_p rfl rfl rfl ?_
      refine O_p rfl rfl rfl ?_
      refine O_h rfl rfl rfl rfl ?_
      refine O_p rfl rfl rfl ?_
      refine O_p rfl rfl rfl ?_
      refine WO_nil ?_
      refine WL_seq ?_
      apply WLp
      · (repeat (first | exact rzz | apply rcc rfl | apply rnn rfl))
      refine WL_seq ?_
      refine WL_reg ?_
      refine O_p rfl rfl rfl ?_
      refine O_p rfl rfl rfl ?_
      refine WO_nil ?_
      refine WL_seq ?_
      apply WLp
      · (repeat (first | exact rzz | apply rcc rfl | apply rnn rfl))
      refine WL_cond rfl (fun h20 => ?_) (fun h20 => ?_)
      · skip
        rw [hg] at hs
        simp only [List.flatten_cons, List.length_append] at hs
        have := wrap_add (i := c) (j := x.length) (by omega)
        simp at h20; omega
      · skip
        refine WL_skip ?_
        refine WL_nil ?_
        refine Blk_norm (?_ : WL _ _ _ _ _)
        refine WL_seq ?_
        apply WLp
        · (repeat (first | exact rzz | apply rcc rfl | apply rnn rfl))
        refine WL_reg ?_
        refine O_p rfl rfl rfl ?_
        refine O_p rfl rfl rfl ?_
        refine WO_nil ?_
        refine WL_nil ?_
        rw [hg] at hs
        simp only [List.flatten_cons, List.length_append] at hs
        refine RndC_norm ((c + x.length, i + 1)) (by refine ⟨?_, ?_⟩ <;> simp only <;> omega) (by show _ < _; omega) ?_ rfl
        · rw [show IntKind.i64.wrap ((c : Int) + (((x.map encFct).length : Nat) : Int)) = ((c + x.length : Nat) : Int) by rw [List.length_map]; exact wrap_add (by omega), wrap_succ (by omega)]; (repeat (first | exact rzz | apply rcc rfl | apply rnn rfl))
    · skip
      have hq : c = ls.flatten.length := by
        simp at h12
        rw [List.drop_eq_nil_of_le (by omega)] at hs; simpa using hs
      refine WL_exit ?_
      refine RndC_exit ?_
      refine Blk_exit (?_ : WL _ _ _ _ _)
      refine WL_seq ?_
      apply WLp
      · (repeat (first | exact rzz | apply rcc rfl | apply rnn rfl))
      refine WL_seq ?_
      refine WL_reg ?_
      refine O_p rfl rfl rfl ?_
      refine O_c 74 rfl rfl (callA_raw (by rw [hq]; exact fgrow_c n _ _ h0 hk) rfl) ?_
      refine O_p rfl rfl rfl ?_
      refine WO_nil ?_
      refine WL_seq ?_
      apply WLp
      · (repeat (first | exact rzz | apply rcc rfl | apply rnn rfl))
      refine WL_seq ?_
      refine WL_seq ?_
      refine WL_reg ?_
      refine O_p rfl rfl rfl ?_
      refine O_h rfl rfl rfl rfl ?_
      refine O_p rfl rfl rfl ?_
      refine WO_nil ?_
      refine WL_seq ?_
      apply WLp
      · (repeat (first | exact rzz | apply rcc rfl | apply rnn rfl))
      refine WL_block ?_
      refine WL_seq ?_
      refine WL_own rfl ?_
      apply WL_forv (hc := [.dead]) (α := Nat × List Fct) (fun s => [(6, .gl 1 s.2.length), (27, .int .i64 (s.1 : Nat))]) (fun s => [.grow 2 (s.2.map encFct) none]) (fun s => s.1 ≤ ls.length ∧ s.2 ++ (ls.drop s.1).flatten = ls.flatten) (fun s => ls.length - s.1) ((0, [])) (he := ?he) (hh := ?hh) (hP := ?hP) (hk := ?hk) (round := ?round)
      case he =>
        (repeat (first | exact rzz | apply rcc rfl | apply rnn rfl))
      case hh =>
        rfl
      case hP =>
        exact ⟨by simp, by simp⟩
      case hk =>
        show ls.length - 0 < n + 1; omega
      case round =>
        rintro ⟨i, xs⟩ ⟨hi, hs⟩
        simp only at hi hs
        dsimp only [List.cons_append, List.nil_append] at *
        refine WL_seq ?_
        refine WL_reg ?_
        refine O_p rfl rfl rfl ?_
        refine WO_nil ?_
        refine WL_seq ?_
        apply WLp
        · (repeat (first | exact rzz | apply rcc rfl | apply rnn rfl))
        refine WL_seq ?_
        refine WL_cond rfl (fun h28 => ?_) (fun h28 => ?_)
        · skip
          simp at h28
          obtain ⟨x, hx⟩ : ∃ x, (ls)[i]? = some x := ⟨_, List.getElem?_eq_getElem (by omega)⟩
          have hmx := List.mem_of_getElem? hx
          have hg := drop_of hx
          refine WL_skip ?_
          refine WL_seq ?_
          apply WLp
          · (repeat (first | exact rzz | apply rcc rfl | apply rnn rfl))
          refine WL_seq ?_
          refine WL_block ?_
          refine WL_seq ?_
          refine WL_reg ?_
          refine O_ia rfl rfl (Int.natCast_nonneg _) (encFL_get hx) rfl rfl ?_
          refine O_h rfl rfl rfl rfl ?_
          refine O_p rfl rfl rfl ?_
          refine WO_nil ?_
          refine WL_seq ?_
          apply WLp
          · (repeat (first | exact rzz | apply rcc rfl | apply rnn rfl))
          refine WL_reg ?_
          refine O_p rfl rfl rfl ?_
          refine O_p rfl rfl rfl ?_
          rw [hg] at hs
          have hlen : xs.length + x.length ≤ 1000000 := by have := congrArg List.length hs; simp at this hk; omega
          refine O_appL rfl rfl rfl (by simp) (encFct_ws _) (encFct_ws _) (by simp; omega) rfl ?_
          refine O_p rfl rfl rfl ?_
          refine WO_nil ?_
          refine WL_nil ?_
          refine Blk_norm (?_ : WL _ _ _ _ _)
          refine WL_seq ?_
          apply WLp
          · (repeat (first | exact rzz | apply rcc rfl | apply rnn rfl))
          refine WL_reg ?_
          refine O_p rfl rfl rfl ?_
          refine O_p rfl rfl rfl ?_
          refine WO_nil ?_
          refine WL_nil ?_
          refine RndV_norm ((i + 1, xs ++ x)) (by refine ⟨by simp only; omega, ?_⟩; simp only; rw [← hs]; simp) (by show _ < _; omega) ?_ ?_
          · rw [wrap_succ (by omega), show (xs.map encFct).length + (x.map encFct).length = (xs ++ x).length by simp]; (repeat (first | exact rzz | apply rcc rfl | apply rnn rfl))
          · show trunc _ _ [ABlock.dead, ABlock.grow 2 (xs.map encFct ++ x.map encFct) none] = _; rw [← List.map_append]; rfl
        · skip
          have hr : ls.flatten = xs := by
            simp at h28
            rw [List.drop_eq_nil_of_le (by omega)] at hs; simpa using hs.symm
          refine WL_exit ?_
          refine RndV_exit ?_
          refine Blk_exit (?_ : WL _ _ _ _ _)
          refine WL_seq ?_
          apply WLp
          · (repeat (first | exact rzz | apply rcc rfl | apply rnn rfl))
          refine WL_seq ?_
          refine WL_reg ?_
          refine O_p rfl rfl rfl ?_
          refine O_p rfl rfl rfl ?_
          refine WO_nil ?_
          refine WL_ret ?_
          exact ⟨_, rfl, .lst (xs.map encFct) false, by simp [oneOr, shutR, growAt], by rw [hr]⟩
theorem y8n (n : Nat) : pcall (tabOf tabL) (n + 20) 39 [.lst [.lst [] false, .lst [] false] false] = some (.ok (.lst [] false)) := by kernel_rfl
theorem fconcat2_c (n : Nat) (a b : List Fct) (h : a.length + b.length ≤ 1000000) : pcall (tabOf tabL) (n + 20) 39 [.lst [.lst (a.map encFct) false, .lst (b.map encFct) false] false] = some (.ok (.lst ((a ++ b).map encFct) false)) := by
  rcases Nat.eq_zero_or_pos (a.length + b.length) with h0 | h0
  · obtain rfl : a = [] := List.length_eq_zero_iff.1 (by omega)
    obtain rfl : b = [] := List.length_eq_zero_iff.1 (by omega)
    exact y8n n
  · have := fconcat_c (n + 18) [a, b] (by simpa using h0) (by simpa using h) (by simp) (by simp)
    simpa [encFL] using this
end FcS
def oConcat (l : List (List Fct)) : Option (List Fct) := match l with
  | [a, b] => if a.length + b.length ≤ 1000000 then some (a ++ b) else none
  | _ => none
theorem y8o {l : List (List Fct)} {r : List Fct} (h : oConcat l = some r) : PRes (tabOf tabL) 39 [.lst (l.map (encS encFct)) false] (.lst (r.map encFct) false) := by
  unfold oConcat at h
  split at h
  · split at h
    · cases h
      exact .of_le 20 fun n => FcS.fconcat2_c n _ _ (by assumption)
    · cases h
  · cases h
end Go.Ev.Seat
