/-
  Part 7 of a proof: NarrowHolds: for every input the law returns true, and what it was given reads behind the call as before. No conditions.
-/
import Derived.Test.YtoacjncdnnkbaaaP6
import Derived.OpenShut
namespace Go.Ev.Seat
set_option linter.unusedVariables false
set_option linter.unusedSimpArgs false
open Go Go.Ev
set_option maxRecDepth 20000
attribute [local irreducible] pcall callF
noncomputable def y5g (a23 : Int) : Option Int :=
  some a23
noncomputable def y2d (v2 : Int) : List Fct → Nat → Int → Option Int
  | [], _, a30 => y5g a30
  | y39 :: rest41, i40, a30 => (cond (decide (y39.var = v2)) ((g_r06_low y39.tags).bind fun r44 => (y2d v2 rest41 (i40 + 1)) (andB .i64 a30 r44)) ((y2d v2 rest41 (i40 + 1)) a30))
noncomputable def y3l (f1 : Fts) (v2 : Int) : Option Int :=
  (cond (okLen f1.l) (y2d v2 f1.l 0 255) none)
noncomputable def y5r : Option Bool :=
  some false
noncomputable def y3e (v2 : Int) : List Fct → Nat → Option Bool
  | [], _ => y5r
  | y22 :: rest24, i23 => (cond (decide (y22.var = v2)) (some true) ((y3e v2 rest24 (i23 + 1))))
noncomputable def g_r06_has (f1 : Fts) (v2 : Int) : Option Bool :=
  (cond (okLen f1.l) (y3e v2 f1.l 0) none)
noncomputable def y5j (l106 : List Int) : Option (List Int) :=
  some l106
noncomputable def y36 (K11 : (List Int) → Option (List Int)) (l205 : List Int) : Option (List Int) :=
  K11 l205
noncomputable def y3t (l120 : List Int) (y170 : Fct) (K11 : (List Int) → Option (List Int)) (a227 : Int) : Option (List Int) :=
  ((cond (decide (a227 = ((List.length l120 : Nat) : Int))) (some true) (((idx l120 a227).bind fun e228 => some (!decide (e228 = y170.var))))).bind fun v229 => (cond v229 ((subL l120 0 a227).bind fun l230 => (cond (okLen l230) (((catL l230 [y170.var]).bind fun l232 => ((subL l120 a227 (List.length l120 : Nat)).bind fun l233 => ((catL l232 l233).bind fun l234 => y36 K11 l234)))) none)) (y36 K11 l120)))
noncomputable def y38 (l120 : List Int) (y170 : Fct) (K11 : (List Int) → Option (List Int)) : List Int → Nat → Option (List Int)
  | [], _ => y3t l120 y170 K11 ((List.length l120 : Nat) : Int)
  | y256 :: rest258, i257 => (cond (decide (y256 < y170.var)) ((y38 l120 y170 K11 rest258 (i257 + 1))) (y3t l120 y170 K11 ((i257 : Nat) : Int)))
noncomputable def y2e : List Fct → Nat → (List Int) → Option (List Int)
  | [], _, l120 => y5j l120
  | y170 :: rest172, i171, l120 => (cond (okLen l120) (y38 l120 y170 (y2e rest172 (i171 + 1)) l120 0) none)
noncomputable def y5i (l6 : List Fct) : Option (List Int) :=
  (cond (okLen l6) (y2e l6 0 []) none)
noncomputable def y4r (n : Nat) (a1 : Fts) (b2 : Fts) : Option (List Int) :=
  (cond (okLen a1.l) (((catL a1.l b2.l).bind fun l260 => y5i l260)) none)
noncomputable def y61 (l32 : List Fct) : Option Fts :=
  some (Fts.mk false l32)
noncomputable def y45 (K16 : (List Fct) → Option Fts) (l60 : List Fct) : Option Fts :=
  K16 l60
noncomputable def y2x (a1 : Fts) (b2 : Fts) : List Int → Nat → (List Fct) → Option Fts
  | [], _, l42 => y61 l42
  | y54 :: rest56, i55, l42 => ((y3l a1 y54).bind fun r61 => ((y3l b2 y54).bind fun r62 => (cond (!decide ((andB .i64 r61 r62) = 255)) ((catL l42 [(Fct.mk y54 (andB .i64 r61 r62))]).bind fun l63 => y45 (y2x a1 b2 rest56 (i55 + 1)) l63) (y45 (y2x a1 b2 rest56 (i55 + 1)) l42))))
noncomputable def g_r06_And (n : Nat) (a1 : Fts) (b2 : Fts) : Option Fts :=
  (cond (a1.never || b2.never) (some (Fts.mk true [])) ((y4r n a1 b2).bind fun r3 => (cond (okLen r3) (y2x a1 b2 r3 0 []) none)))
noncomputable def y6e (l49 : List Fct) : Option Fts :=
  some (Fts.mk false l49)
noncomputable def y3p (K18 : (List Fct) → Option Fts) (l90 : List Fct) : Option Fts :=
  K18 l90
noncomputable def y3a (a1 : Fts) (b2 : Fts) : List Int → Nat → (List Fct) → Option Fts
  | [], _, l64 => y6e l64
  | y81 :: rest83, i82, l64 => ((y3l a1 y81).bind fun r91 => ((y3l b2 y81).bind fun r92 => ((g_r06_has a1 y81).bind fun r93 => ((cond r93 (((g_r06_has b2 y81).bind fun r94 => some r94)) (some false)).bind fun v95 => (cond (v95 && (!decide ((orB .i64 r91 r92) = 255))) ((catL l64 [(Fct.mk y81 (orB .i64 r91 r92))]).bind fun l96 => y3p (y3a a1 b2 rest83 (i82 + 1)) l96) (y3p (y3a a1 b2 rest83 (i82 + 1)) l64))))))
noncomputable def g_r06_Or (n : Nat) (a1 : Fts) (b2 : Fts) : Option Fts :=
  (cond a1.never ((g_r06_And n b2 (Fts.mk false [])).bind fun r4 => some r4) (cond b2.never ((g_r06_And n a1 (Fts.mk false [])).bind fun r6 => some r6) ((y4r n a1 b2).bind fun r7 => (cond (okLen r7) (y3a a1 b2 r7 0 []) none))))
noncomputable def g_r06_Is (n : Nat) (v1 : Int) (g2 : Int) : Option Prp :=
  ((g_r06_low g2).bind fun r3 => ((g_r06_And n (Fts.mk false [(Fct.mk v1 r3)]) (Fts.mk false [])).bind fun r4 => ((g_r06_low g2).bind fun r5 => ((g_r06_And n (Fts.mk false [(Fct.mk v1 (IntKind.wrap .i64 (255 - r5)))]) (Fts.mk false [])).bind fun r6 => some (Prp.mk r4 r6)))))
noncomputable def y6d (v1 : Int) : Option Prp :=
  some (Prp.mk (Fts.mk false []) (Fts.mk false [(Fct.mk v1 2)]))
noncomputable def y6n (is1 : Bool) : Option Prp :=
  some (Prp.mk (Fts.mk (!is1) []) (Fts.mk is1 []))
noncomputable def g_r06_Not (p1 : Prp) : Option Prp :=
  some (Prp.mk p1.els p1.thn)
noncomputable def g_r06_If (n : Nat) (a1 : Prp) (b2 : Prp) (c3 : Prp) : Option Prp :=
  ((g_r06_And n a1.thn b2.thn).bind fun r4 => ((g_r06_And n a1.els c3.thn).bind fun r5 => ((g_r06_Or n r4 r5).bind fun r6 => ((g_r06_And n a1.thn b2.els).bind fun r7 => ((g_r06_And n a1.els c3.els).bind fun r8 => ((g_r06_Or n r7 r8).bind fun r9 => some (Prp.mk r6 r9)))))))
noncomputable def y2w : Option Bool :=
  some true
noncomputable def y1i (rec : Tst → Int → Option Bool) (left2 : Int) : List Tst → Nat → Option Bool
  | [], _ => y2w
  | y32 :: rest34, i33 => ((rec y32 (IntKind.wrap .i64 (left2 - 1))).bind fun r36 => (cond (!r36) (some false) ((y1i rec left2 rest34 (i33 + 1)))))
noncomputable def y37 (rec : Tst → Int → Option Bool) (t1 : Tst) (left2 : Int) : Option Bool :=
  (cond ((decide (left2 = 0)) || (decide (5 < ((List.length t1.of : Nat) : Int)))) (some false) (cond (okLen t1.of) (y1i rec left2 t1.of 0) none))
abbrev kg310 (t1 : Tst) : ABlock := .cells [.int .i64 t1.op, .int .i64 t1.var, .int .i64 t1.tags, .bool t1.yes, .lst (List.map encTst t1.of) false]
theorem y6t {rec : Tst → Int → Option Bool} {t1 : Tst} {left2 : Int} {r : Bool} (hrec : ∀ (a0 : Tst) (a1 : Int) (r : Bool), rec a0 a1 = some r → PRes (tabOf tabL) 24 [.agg (cTst a0), .int .i64 a1] (.bool r)) (hr : y37 rec t1 left2 = some r) : PRes (tabOf tabL) 24 [.agg (cTst t1), .int .i64 left2] (.bool r) := by
  refine pres_fin t24 ?_
  unfold y37 at hr
  refine L_seq ?_
  refine L_stmt ?_
  refine L_reg ?_
  refine G_n (B := (kg310 t1)) rfl rfl rfl ?_
  refine G_p rfl rfl rfl ?_
  refine G_nil ?_
  refine L_nil ?_
  refine Sm_norm (e2 := [(1, .int .i64 left2), (2, .ptr 0 0)]) (H1 := [(kg310 t1)]) (H2 := [(kg310 t1)]) rfl (by repeat (first | exact rzz | apply rcc rfl | apply rnn rfl)) rfl (?_ : GL _ _ _ _ _)
  refine L_seq ?_
  refine L_stmt ?_
  refine L_seq ?_
  refine L_stmt ?_
  refine L_reg ?_
  refine G_p rfl rfl rfl ?_
  refine G_p rfl rfl rfl ?_
  refine G_p rfl rfl rfl ?_
  refine G_or (f := (decide (5 < ((List.length t1.of : Nat) : Int)))) [_, _, _, _] rfl rfl ?_ ?_
  · intro hb8
    refine G_p rfl rfl rfl ?_
    refine G_h (v := .lst (List.map encTst t1.of) false) rfl rfl rfl (fun _ => rfl) ?_
    refine G_h rfl rfl rfl (lenL_ev rfl (List.length_map _)) ?_
    refine G_p rfl rfl rfl ?_
    exact G_nil (L_nil ⟨rfl, rfl, rfl⟩)
  · intro vs hvs
    obtain ⟨u9, u10, u11, u12, rfl⟩ := len4 hvs
    dsimp only [junk]
    refine G_nil ?_
    refine L_nil ?_
    refine Sm_norm (e2 := [(1, .int .i64 left2), (2, .ptr 0 0), (13, .bool ((decide (left2 = 0)) || (decide (5 < ((List.length t1.of : Nat) : Int)))))]) (H1 := [(kg310 t1)]) (H2 := [(kg310 t1)]) rfl (by repeat (first | exact rzz | apply rcc rfl | apply rnn rfl)) rfl (?_ : GL _ _ _ _ _)
    rcases cond_s hr with ⟨hc13, hr⟩ | ⟨hc13, hr⟩
    · refine L_T rfl hc13 ?_
      refine L_seq ?_
      refine L_reg ?_
      refine G_p rfl rfl rfl ?_
      refine G_nil ?_
      refine L_ret ?_
      refine Sm_ret ?_
      have hr := some_s hr
      subst hr
      exact ⟨_, rfl, _, rfl, rfl⟩
    · refine L_F rfl hc13 ?_
      refine L_skip ?_
      refine L_nil ?_
      refine Sm_norm (e2 := [(1, .int .i64 left2), (2, .ptr 0 0)]) (H1 := [(kg310 t1)]) (H2 := [(kg310 t1)]) rfl (by repeat (first | exact rzz | apply rcc rfl | apply rnn rfl)) rfl (?_ : GL _ _ _ _ _)
      refine L_seq ?_
      refine L_stmtJ (S := Unit) (fun s => []) (fun s => [(kg310 t1)]) (fun s => y2w = some r) ?_ ?_
      · skip
        refine L_seq ?_
        refine L_stmt ?_
        refine L_reg ?_
        refine G_p rfl rfl rfl ?_
        refine G_nil ?_
        refine L_nil ?_
        refine Sm_norm (e2 := [(1, .int .i64 left2), (2, .ptr 0 0), (5, .int .i64 0)]) (H1 := [(kg310 t1)]) (H2 := [(kg310 t1)]) rfl (by repeat (first | exact rzz | apply rcc rfl | apply rnn rfl)) rfl (?_ : GL _ _ _ _ _)
        refine L_block ?_
        obtain ⟨hLq31, hr⟩ := guard_s hr
        replace hLq31 := okLen_s hLq31
        refine L_range (X := Tst) (S := Unit) t1.of (fun i33 s => [(5, .int .i64 ((i33 : Nat) : Int)), (1, .int .i64 left2), (2, .ptr 0 0)]) (fun i33 s => [(kg310 t1)]) (fun rest i33 s => y1i rec left2 rest i33 = some r) (()) ?_ rfl hr ?_ ?_
        · show restr _ _ = [(5, .int .i64 ((0 : Nat) : Int)), (1, .int .i64 left2), (2, .ptr 0 0)]
          (repeat (first | exact rzz | apply rcc rfl | apply rnn rfl))
        · rintro ⟨⟩ hr
          show GL _ _ [(5, .int .i64 (((List.length t1.of) : Nat) : Int)), (1, .int .i64 left2), (2, .ptr 0 0)] [(kg310 t1)] _
          replace hr : y1i rec left2 [] (List.length t1.of) = some r := hr
          rw [y1i] at hr
          refine L_seq ?_
          refine L_stmt ?_
          refine L_seq ?_
          refine L_stmt ?_
          refine L_reg ?_
          refine G_p rfl rfl rfl ?_
          refine G_p rfl rfl rfl ?_
          refine G_h (v := .lst (List.map encTst t1.of) false) rfl rfl rfl (fun _ => rfl) ?_
          refine G_h rfl rfl rfl (lenL_ev rfl (List.length_map _)) ?_
          refine G_v (.bool false) rfl rfl rfl (congrArg AVal.bool (decide_eq_false (by omega))) ?_
          refine G_nil ?_
          refine L_nil ?_
          refine Sm_norm (e2 := [(1, .int .i64 left2), (2, .ptr 0 0), (5, .int .i64 ((List.length t1.of : Nat) : Int)), (18, .bool false)]) (H1 := [(kg310 t1)]) (H2 := [(kg310 t1)]) rfl (by repeat (first | exact rzz | apply rcc rfl | apply rnn rfl)) rfl (?_ : GL _ _ _ _ _)
          refine L_F rfl rfl ?_
          refine L_exit ?_
          refine Sm_exit ?_
          refine Rd_exit ?_
          refine Blk_exit (?_ : GL _ _ _ _ _)
          refine L_nil ?_
          exact Sm_norm (e2 := []) (H1 := [(kg310 t1)]) (H2 := [(kg310 t1)]) rfl (by repeat (first | exact rzz | apply rcc rfl | apply rnn rfl)) rfl ⟨(), rfl, rfl, hr⟩
        · rintro y32 rest34 i33 ⟨⟩ hy32 hlti33 hr
          show GL _ _ [(5, .int .i64 ((i33 : Nat) : Int)), (1, .int .i64 left2), (2, .ptr 0 0)] [(kg310 t1)] _
          replace hr : y1i rec left2 (y32 :: rest34) i33 = some r := hr
          rw [y1i] at hr
          refine L_seq ?_
          refine L_stmt ?_
          refine L_seq ?_
          refine L_stmt ?_
          refine L_reg ?_
          refine G_p rfl rfl rfl ?_
          refine G_p rfl rfl rfl ?_
          refine G_h (v := .lst (List.map encTst t1.of) false) rfl rfl rfl (fun _ => rfl) ?_
          refine G_h rfl rfl rfl (lenL_ev rfl (List.length_map _)) ?_
          refine G_v (.bool true) rfl rfl rfl (congrArg AVal.bool (decide_eq_true (by omega))) ?_
          refine G_nil ?_
          refine L_nil ?_
          refine Sm_norm (e2 := [(1, .int .i64 left2), (2, .ptr 0 0), (5, .int .i64 ((i33 : Nat) : Int)), (18, .bool true)]) (H1 := [(kg310 t1)]) (H2 := [(kg310 t1)]) rfl (by repeat (first | exact rzz | apply rcc rfl | apply rnn rfl)) rfl (?_ : GL _ _ _ _ _)
          refine L_T rfl rfl ?_
          refine L_skip ?_
          refine L_nil ?_
          refine Sm_norm (e2 := [(1, .int .i64 left2), (2, .ptr 0 0), (5, .int .i64 ((i33 : Nat) : Int))]) (H1 := [(kg310 t1)]) (H2 := [(kg310 t1)]) rfl (by repeat (first | exact rzz | apply rcc rfl | apply rnn rfl)) rfl (?_ : GL _ _ _ _ _)
          refine L_seq ?_
          refine L_stmt ?_
          refine L_block ?_
          refine L_seq ?_
          refine L_stmt ?_
          refine L_reg ?_
          refine G_p rfl rfl rfl ?_
          refine G_h (v := .lst (List.map encTst t1.of) false) rfl rfl rfl (fun _ => rfl) ?_
          refine G_p rfl rfl rfl ?_
          refine G_h (v := .ro [.int .i64 y32.op, .int .i64 y32.var, .int .i64 y32.tags, .bool y32.yes, .lst (List.map encTst y32.of) false]) rfl rfl rfl (ia_ev (cells := [.int .i64 y32.op, .int .i64 y32.var, .int .i64 y32.tags, .bool y32.yes, .lst (List.map encTst y32.of) false]) rfl rfl (Int.natCast_nonneg _) (map_get (x := y32) (by rw [Int.toNat_natCast]; exact hy32)) (y1m _) rfl) ?_
          refine G_h (v := .agg (cTst y32)) rfl rfl rfl (fun _ => rfl) ?_
          refine G_p rfl rfl rfl ?_
          refine G_p rfl rfl rfl ?_
          obtain ⟨r36, hr36, hr⟩ := bind_s hr
          refine G_c 24 rfl rfl (CA_of (as := [.agg (cTst y32), .int .i64 (IntKind.wrap .i64 (left2 - 1))]) rfl (hrec _ _ _ hr36)) ?_
          refine G_p rfl rfl rfl ?_
          refine G_nil ?_
          refine L_nil ?_
          refine Sm_norm (e2 := [(1, .int .i64 left2), (2, .ptr 0 0), (5, .int .i64 ((i33 : Nat) : Int)), (29, .bool (!r36))]) (H1 := [(kg310 t1)]) (H2 := [(kg310 t1)]) rfl (by repeat (first | exact rzz | apply rcc rfl | apply rnn rfl)) rfl (?_ : GL _ _ _ _ _)
          rcases cond_s hr with ⟨hc29, hr⟩ | ⟨hc29, hr⟩
          · refine L_T rfl hc29 ?_
            refine L_seq ?_
            refine L_reg ?_
            refine G_p rfl rfl rfl ?_
            refine G_nil ?_
            refine L_ret ?_
            refine Blk_ret ?_
            refine Sm_ret ?_
            refine Rd_ret ?_
            refine Blk_ret ?_
            refine Sm_ret ?_
            have hr := some_s hr
            subst hr
            exact ⟨_, rfl, _, rfl, rfl⟩
          · refine L_F rfl hc29 ?_
            refine L_skip ?_
            refine L_nil ?_
            refine Blk_norm (?_ : GL _ _ _ _ _)
            refine L_nil ?_
            refine Sm_norm (e2 := [(1, .int .i64 left2), (2, .ptr 0 0), (5, .int .i64 ((i33 : Nat) : Int))]) (H1 := [(kg310 t1)]) (H2 := [(kg310 t1)]) rfl (by repeat (first | exact rzz | apply rcc rfl | apply rnn rfl)) rfl (?_ : GL _ _ _ _ _)
            refine L_reg ?_
            refine G_p rfl rfl rfl ?_
            refine G_v (.int .i64 ((i33 + 1 : Nat) : Int)) rfl rfl rfl (congrArg _ (wrap_next hLq31 hlti33)) ?_
            refine G_p rfl rfl rfl ?_
            refine G_nil ?_
            refine L_nil ?_
            refine Rd_norm ⟨(), ?_, rfl, hr⟩
            show restr _ _ = [(5, .int .i64 (((i33 + 1) : Nat) : Int)), (1, .int .i64 left2), (2, .ptr 0 0)]
            (repeat (first | exact rzz | apply rcc rfl | apply rnn rfl))
      · rintro ⟨⟩ hr
        show GL _ _ [] [(kg310 t1)] _
        replace hr : y2w = some r := hr
        unfold y2w at hr
        refine L_seq ?_
        refine L_reg ?_
        refine G_p rfl rfl rfl ?_
        refine G_nil ?_
        refine L_ret ?_
        have hr := some_s hr
        subst hr
        exact ⟨_, rfl, _, rfl, rfl⟩
noncomputable def y25 : Nat → Tst → Int → Option Bool
  | 0, _, _ => none
  | n + 1, t1, left2 => y37 (y25 n) t1 left2
theorem y57 : ∀ (n : Nat) {t1 : Tst} {left2 : Int} {r : Bool} (hr : y25 n t1 left2 = some r), PRes (tabOf tabL) 24 [.agg (cTst t1), .int .i64 left2] (.bool r)
  | 0, _, _, _, hr => by cases hr
  | n + 1, _, _, _, hr => y6t (fun _ _ _ h => y57 n h) hr
noncomputable def y2h : Option Bool :=
  some true
noncomputable def y16 (rec : Tst → Int → Option Bool) (many2 : Int) : List Tst → Nat → Option Bool
  | [], _ => y2h
  | y32 :: rest34, i33 => ((rec y32 many2).bind fun r36 => (cond (!r36) (some false) ((y16 rec many2 rest34 (i33 + 1)))))
noncomputable def y31 (rec : Tst → Int → Option Bool) (t1 : Tst) (many2 : Int) : Option Bool :=
  (cond (((decide (t1.op = 0)) || (decide (t1.op = 1))) && ((decide (t1.var < 0)) || (decide (many2 ≤ t1.var)))) (some false) (cond (okLen t1.of) (y16 rec many2 t1.of 0) none))
abbrev kg311 (t1 : Tst) : ABlock := .cells [.int .i64 t1.op, .int .i64 t1.var, .int .i64 t1.tags, .bool t1.yes, .lst (List.map encTst t1.of) false]
theorem y64 {rec : Tst → Int → Option Bool} {t1 : Tst} {many2 : Int} {r : Bool} (hrec : ∀ (a0 : Tst) (a1 : Int) (r : Bool), rec a0 a1 = some r → PRes (tabOf tabL) 28 [.agg (cTst a0), .int .i64 a1] (.bool r)) (hr : y31 rec t1 many2 = some r) : PRes (tabOf tabL) 28 [.agg (cTst t1), .int .i64 many2] (.bool r) := by
  refine pres_fin t28 ?_
  unfold y31 at hr
  refine L_seq ?_
  refine L_stmt ?_
  refine L_reg ?_
  refine G_n (B := (kg311 t1)) rfl rfl rfl ?_
  refine G_p rfl rfl rfl ?_
  refine G_nil ?_
  refine L_nil ?_
  refine Sm_norm (e2 := [(1, .int .i64 many2), (2, .ptr 0 0)]) (H1 := [(kg311 t1)]) (H2 := [(kg311 t1)]) rfl (by repeat (first | exact rzz | apply rcc rfl | apply rnn rfl)) rfl (?_ : GL _ _ _ _ _)
  refine L_seq ?_
  refine L_stmt ?_
  refine L_seq ?_
  refine L_stmt ?_
  refine L_reg ?_
  refine G_p rfl rfl rfl ?_
  refine G_h rfl rfl rfl (fun _ => rfl) ?_
  refine G_p rfl rfl rfl ?_
  refine G_p rfl rfl rfl ?_
  refine G_or (f := (decide (t1.op = 1))) [_, _, _] rfl rfl ?_ ?_
  · intro hb9
    refine G_p rfl rfl rfl ?_
    refine G_h rfl rfl rfl (fun _ => rfl) ?_
    refine G_p rfl rfl rfl ?_
    exact G_nil (L_nil ⟨rfl, rfl, rfl⟩)
  · intro vs hvs
    obtain ⟨u10, u11, u12, rfl⟩ := len3 hvs
    dsimp only [junk]
    refine G_p rfl rfl rfl ?_
    refine G_and (f := ((decide (t1.var < 0)) || (decide (many2 ≤ t1.var)))) [_, _, _, _, _, _, _, _, _] rfl rfl ?_ ?_
    · intro hb14
      refine G_p rfl rfl rfl ?_
      refine G_h rfl rfl rfl (fun _ => rfl) ?_
      refine G_p rfl rfl rfl ?_
      refine G_p rfl rfl rfl ?_
      refine G_or (f := (decide (many2 ≤ t1.var))) [_, _, _, _] rfl rfl ?_ ?_
      · intro hb18
        refine G_p rfl rfl rfl ?_
        refine G_h rfl rfl rfl (fun _ => rfl) ?_
        refine G_p rfl rfl rfl ?_
        refine G_p rfl rfl rfl ?_
        exact G_nil (L_nil ⟨rfl, rfl, rfl⟩)
      · intro vs hvs
        obtain ⟨u19, u20, u21, u22, rfl⟩ := len4 hvs
        dsimp only [junk]
        exact G_nil (L_nil ⟨rfl, rfl, rfl⟩)
    · intro vs hvs
      obtain ⟨u15, u16, u17, u18, u19, u20, u21, u22, u23, rfl⟩ := len9 hvs
      dsimp only [junk]
      refine G_nil ?_
      refine L_nil ?_
      refine Sm_norm (e2 := [(1, .int .i64 many2), (2, .ptr 0 0), (24, .bool (((decide (t1.op = 0)) || (decide (t1.op = 1))) && ((decide (t1.var < 0)) || (decide (many2 ≤ t1.var)))))]) (H1 := [(kg311 t1)]) (H2 := [(kg311 t1)]) rfl (by repeat (first | exact rzz | apply rcc rfl | apply rnn rfl)) rfl (?_ : GL _ _ _ _ _)
      rcases cond_s hr with ⟨hc24, hr⟩ | ⟨hc24, hr⟩
      · refine L_T rfl hc24 ?_
        refine L_seq ?_
        refine L_reg ?_
        refine G_p rfl rfl rfl ?_
        refine G_nil ?_
        refine L_ret ?_
        refine Sm_ret ?_
        have hr := some_s hr
        subst hr
        exact ⟨_, rfl, _, rfl, rfl⟩
      · refine L_F rfl hc24 ?_
        refine L_skip ?_
        refine L_nil ?_
        refine Sm_norm (e2 := [(1, .int .i64 many2), (2, .ptr 0 0)]) (H1 := [(kg311 t1)]) (H2 := [(kg311 t1)]) rfl (by repeat (first | exact rzz | apply rcc rfl | apply rnn rfl)) rfl (?_ : GL _ _ _ _ _)
        refine L_seq ?_
        refine L_stmtJ (S := Unit) (fun s => []) (fun s => [(kg311 t1)]) (fun s => y2h = some r) ?_ ?_
        · skip
          refine L_seq ?_
          refine L_stmt ?_
          refine L_reg ?_
          refine G_p rfl rfl rfl ?_
          refine G_nil ?_
          refine L_nil ?_
          refine Sm_norm (e2 := [(1, .int .i64 many2), (2, .ptr 0 0), (5, .int .i64 0)]) (H1 := [(kg311 t1)]) (H2 := [(kg311 t1)]) rfl (by repeat (first | exact rzz | apply rcc rfl | apply rnn rfl)) rfl (?_ : GL _ _ _ _ _)
          refine L_block ?_
          obtain ⟨hLq31, hr⟩ := guard_s hr
          replace hLq31 := okLen_s hLq31
          refine L_range (X := Tst) (S := Unit) t1.of (fun i33 s => [(5, .int .i64 ((i33 : Nat) : Int)), (1, .int .i64 many2), (2, .ptr 0 0)]) (fun i33 s => [(kg311 t1)]) (fun rest i33 s => y16 rec many2 rest i33 = some r) (()) ?_ rfl hr ?_ ?_
          · show restr _ _ = [(5, .int .i64 ((0 : Nat) : Int)), (1, .int .i64 many2), (2, .ptr 0 0)]
            (repeat (first | exact rzz | apply rcc rfl | apply rnn rfl))
          · rintro ⟨⟩ hr
            show GL _ _ [(5, .int .i64 (((List.length t1.of) : Nat) : Int)), (1, .int .i64 many2), (2, .ptr 0 0)] [(kg311 t1)] _
            replace hr : y16 rec many2 [] (List.length t1.of) = some r := hr
            rw [y16] at hr
            refine L_seq ?_
            refine L_stmt ?_
            refine L_seq ?_
            refine L_stmt ?_
            refine L_reg ?_
            refine G_p rfl rfl rfl ?_
            refine G_p rfl rfl rfl ?_
            refine G_h (v := .lst (List.map encTst t1.of) false) rfl rfl rfl (fun _ => rfl) ?_
            refine G_h rfl rfl rfl (lenL_ev rfl (List.length_map _)) ?_
            refine G_v (.bool false) rfl rfl rfl (congrArg AVal.bool (decide_eq_false (by omega))) ?_
            refine G_nil ?_
            refine L_nil ?_
            refine Sm_norm (e2 := [(1, .int .i64 many2), (2, .ptr 0 0), (5, .int .i64 ((List.length t1.of : Nat) : Int)), (29, .bool false)]) (H1 := [(kg311 t1)]) (H2 := [(kg311 t1)]) rfl (by repeat (first | exact rzz | apply rcc rfl | apply rnn rfl)) rfl (?_ : GL _ _ _ _ _)
            refine L_F rfl rfl ?_
            refine L_exit ?_
            refine Sm_exit ?_
            refine Rd_exit ?_
            refine Blk_exit (?_ : GL _ _ _ _ _)
            refine L_nil ?_
            exact Sm_norm (e2 := []) (H1 := [(kg311 t1)]) (H2 := [(kg311 t1)]) rfl (by repeat (first | exact rzz | apply rcc rfl | apply rnn rfl)) rfl ⟨(), rfl, rfl, hr⟩
          · rintro y32 rest34 i33 ⟨⟩ hy32 hlti33 hr
            show GL _ _ [(5, .int .i64 ((i33 : Nat) : Int)), (1, .int .i64 many2), (2, .ptr 0 0)] [(kg311 t1)] _
            replace hr : y16 rec many2 (y32 :: rest34) i33 = some r := hr
            rw [y16] at hr
            refine L_seq ?_
            refine L_stmt ?_
            refine L_seq ?_
            refine L_stmt ?_
            refine L_reg ?_
            refine G_p rfl rfl rfl ?_
            refine G_p rfl rfl rfl ?_
            refine G_h (v := .lst (List.map encTst t1.of) false) rfl rfl rfl (fun _ => rfl) ?_
            refine G_h rfl rfl rfl (lenL_ev rfl (List.length_map _)) ?_
            refine G_v (.bool true) rfl rfl rfl (congrArg AVal.bool (decide_eq_true (by omega))) ?_
            refine G_nil ?_
            refine L_nil ?_
            refine Sm_norm (e2 := [(1, .int .i64 many2), (2, .ptr 0 0), (5, .int .i64 ((i33 : Nat) : Int)), (29, .bool true)]) (H1 := [(kg311 t1)]) (H2 := [(kg311 t1)]) rfl (by repeat (first | exact rzz | apply rcc rfl | apply rnn rfl)) rfl (?_ : GL _ _ _ _ _)
            refine L_T rfl rfl ?_
            refine L_skip ?_
            refine L_nil ?_
            refine Sm_norm (e2 := [(1, .int .i64 many2), (2, .ptr 0 0), (5, .int .i64 ((i33 : Nat) : Int))]) (H1 := [(kg311 t1)]) (H2 := [(kg311 t1)]) rfl (by repeat (first | exact rzz | apply rcc rfl | apply rnn rfl)) rfl (?_ : GL _ _ _ _ _)
            refine L_seq ?_
            refine L_stmt ?_
            refine L_block ?_
            refine L_seq ?_
            refine L_stmt ?_
            refine L_reg ?_
            refine G_p rfl rfl rfl ?_
            refine G_h (v := .lst (List.map encTst t1.of) false) rfl rfl rfl (fun _ => rfl) ?_
            refine G_p rfl rfl rfl ?_
            refine G_h (v := .ro [.int .i64 y32.op, .int .i64 y32.var, .int .i64 y32.tags, .bool y32.yes, .lst (List.map encTst y32.of) false]) rfl rfl rfl (ia_ev (cells := [.int .i64 y32.op, .int .i64 y32.var, .int .i64 y32.tags, .bool y32.yes, .lst (List.map encTst y32.of) false]) rfl rfl (Int.natCast_nonneg _) (map_get (x := y32) (by rw [Int.toNat_natCast]; exact hy32)) (y1m _) rfl) ?_
            refine G_h (v := .agg (cTst y32)) rfl rfl rfl (fun _ => rfl) ?_
            refine G_p rfl rfl rfl ?_
            obtain ⟨r36, hr36, hr⟩ := bind_s hr
            refine G_c 28 rfl rfl (CA_of (as := [.agg (cTst y32), .int .i64 many2]) rfl (hrec _ _ _ hr36)) ?_
            refine G_p rfl rfl rfl ?_
            refine G_nil ?_
            refine L_nil ?_
            refine Sm_norm (e2 := [(1, .int .i64 many2), (2, .ptr 0 0), (5, .int .i64 ((i33 : Nat) : Int)), (39, .bool (!r36))]) (H1 := [(kg311 t1)]) (H2 := [(kg311 t1)]) rfl (by repeat (first | exact rzz | apply rcc rfl | apply rnn rfl)) rfl (?_ : GL _ _ _ _ _)
            rcases cond_s hr with ⟨hc39, hr⟩ | ⟨hc39, hr⟩
            · refine L_T rfl hc39 ?_
              refine L_seq ?_
              refine L_reg ?_
              refine G_p rfl rfl rfl ?_
              refine G_nil ?_
              refine L_ret ?_
              refine Blk_ret ?_
              refine Sm_ret ?_
              refine Rd_ret ?_
              refine Blk_ret ?_
              refine Sm_ret ?_
              have hr := some_s hr
              subst hr
              exact ⟨_, rfl, _, rfl, rfl⟩
            · refine L_F rfl hc39 ?_
              refine L_skip ?_
              refine L_nil ?_
              refine Blk_norm (?_ : GL _ _ _ _ _)
              refine L_nil ?_
              refine Sm_norm (e2 := [(1, .int .i64 many2), (2, .ptr 0 0), (5, .int .i64 ((i33 : Nat) : Int))]) (H1 := [(kg311 t1)]) (H2 := [(kg311 t1)]) rfl (by repeat (first | exact rzz | apply rcc rfl | apply rnn rfl)) rfl (?_ : GL _ _ _ _ _)
              refine L_reg ?_
              refine G_p rfl rfl rfl ?_
              refine G_v (.int .i64 ((i33 + 1 : Nat) : Int)) rfl rfl rfl (congrArg _ (wrap_next hLq31 hlti33)) ?_
              refine G_p rfl rfl rfl ?_
              refine G_nil ?_
              refine L_nil ?_
              refine Rd_norm ⟨(), ?_, rfl, hr⟩
              show restr _ _ = [(5, .int .i64 (((i33 + 1) : Nat) : Int)), (1, .int .i64 many2), (2, .ptr 0 0)]
              (repeat (first | exact rzz | apply rcc rfl | apply rnn rfl))
        · rintro ⟨⟩ hr
          show GL _ _ [] [(kg311 t1)] _
          replace hr : y2h = some r := hr
          unfold y2h at hr
          refine L_seq ?_
          refine L_reg ?_
          refine G_p rfl rfl rfl ?_
          refine G_nil ?_
          refine L_ret ?_
          have hr := some_s hr
          subst hr
          exact ⟨_, rfl, _, rfl, rfl⟩
noncomputable def y1e : Nat → Tst → Int → Option Bool
  | 0, _, _ => none
  | n + 1, t1, many2 => y31 (y1e n) t1 many2
theorem y4y : ∀ (n : Nat) {t1 : Tst} {many2 : Int} {r : Bool} (hr : y1e n t1 many2 = some r), PRes (tabOf tabL) 28 [.agg (cTst t1), .int .i64 many2] (.bool r)
  | 0, _, _, _, hr => by cases hr
  | n + 1, _, _, _, hr => y64 (fun _ _ _ h => y4y n h) hr
noncomputable def y4j (rec : Tst → (List TVl) → Option Bool) (t1 : Tst) (l2 : List TVl) : Option Bool :=
  (cond (decide (t1.op = 0)) ((cond ((decide (0 ≤ t1.var)) && (decide (t1.var < ((List.length l2 : Nat) : Int)))) (((idx l2 t1.var).bind fun e25 => some (!decide ((andB .i64 e25.tag t1.tags) = 0)))) (some false)).bind fun v26 => some v26) (cond (decide (t1.op = 1)) ((cond ((decide (t1.var < 0)) || (decide (((List.length l2 : Nat) : Int) ≤ t1.var))) (some true) (((idx l2 t1.var).bind fun e27 => some (!decide (e27.tag = 2))))).bind fun v28 => ((cond v28 (some true) (((idx l2 t1.var).bind fun e29 => some e29.yes))).bind fun v30 => some v30)) (cond (decide (t1.op = 2)) (some t1.yes) (cond (decide (t1.op = 3)) ((cond (decide (((List.length t1.of : Nat) : Int) = 0)) (some true) (((idx t1.of 0).bind fun e31 => ((rec e31 l2).bind fun r32 => some (!r32))))).bind fun v33 => some v33) (cond (decide (t1.op = 4)) ((cond (decide (2 < ((List.length t1.of : Nat) : Int))) (((idx t1.of 0).bind fun e39 => ((rec e39 l2).bind fun r40 => some r40))) (some false)).bind fun v41 => (cond v41 ((idx t1.of 1).bind fun e42 => ((rec e42 l2).bind fun r43 => some r43)) ((cond (decide (((List.length t1.of : Nat) : Int) < 3)) (some true) (((idx t1.of 2).bind fun e44 => ((rec e44 l2).bind fun r45 => some r45)))).bind fun v46 => some v46))) (some true))))))
abbrev kg312 (t1 : Tst) : ABlock := .cells [.int .i64 t1.op, .int .i64 t1.var, .int .i64 t1.tags, .bool t1.yes, .lst (List.map encTst t1.of) false]
theorem y7p {rec : Tst → (List TVl) → Option Bool} {t1 : Tst} {l2 : List TVl} {r : Bool} (hrec : ∀ (a0 : Tst) (a1 : List TVl) (r : Bool), rec a0 a1 = some r → PRes (tabOf tabL) 29 [.agg (cTst a0), .lst (List.map encTVl a1) false] (.bool r)) (hr : y4j rec t1 l2 = some r) : PRes (tabOf tabL) 29 [.agg (cTst t1), .lst (List.map encTVl l2) false] (.bool r) := by
  refine pres_fin t29 ?_
  unfold y4j at hr
  refine L_seq ?_
  refine L_stmt ?_
  refine L_reg ?_
  refine G_n (B := (kg312 t1)) rfl rfl rfl ?_
  refine G_p rfl rfl rfl ?_
  refine G_nil ?_
  refine L_nil ?_
  refine Sm_norm (e2 := [(1, .lst (List.map encTVl l2) false), (2, .ptr 0 0)]) (H1 := [(kg312 t1)]) (H2 := [(kg312 t1)]) rfl (by repeat (first | exact rzz | apply rcc rfl | apply rnn rfl)) rfl (?_ : GL _ _ _ _ _)
  refine L_seq ?_
  refine L_stmt ?_
  refine L_seq ?_
  refine L_stmt ?_
  refine L_reg ?_
  refine G_p rfl rfl rfl ?_
  refine G_h rfl rfl rfl (fun _ => rfl) ?_
  refine G_nil ?_
  refine L_nil ?_
  refine Sm_norm (e2 := [(1, .lst (List.map encTVl l2) false), (2, .ptr 0 0), (6, .int .i64 t1.op)]) (H1 := [(kg312 t1)]) (H2 := [(kg312 t1)]) rfl (by repeat (first | exact rzz | apply rcc rfl | apply rnn rfl)) rfl (?_ : GL _ _ _ _ _)
  refine L_block ?_
  refine L_seq ?_
  refine L_stmt ?_
  refine L_reg ?_
  refine G_p rfl rfl rfl ?_
  refine G_p rfl rfl rfl ?_
  refine G_nil ?_
  refine L_nil ?_
  refine Sm_norm (e2 := [(1, .lst (List.map encTVl l2) false), (2, .ptr 0 0), (6, .int .i64 t1.op), (7, .bool (decide (t1.op = 0)))]) (H1 := [(kg312 t1)]) (H2 := [(kg312 t1)]) rfl (by repeat (first | exact rzz | apply rcc rfl | apply rnn rfl)) rfl (?_ : GL _ _ _ _ _)
  rcases cond_s hr with ⟨hc7, hr⟩ | ⟨hc7, hr⟩
  · refine L_T rfl hc7 ?_
    refine L_seq ?_
    refine L_drawS (ops := [_, _, _, _, _, _, _, _, _, _, _, _, _, _, _, _, _, _, _, _, _, _, _]) rfl rfl ?_
    refine G_p rfl rfl rfl ?_
    refine G_h rfl rfl rfl (fun _ => rfl) ?_
    refine G_p rfl rfl rfl ?_
    refine G_p rfl rfl rfl ?_
    refine G_and (f := (decide (t1.var < ((List.length l2 : Nat) : Int)))) [_, _, _, _, _] rfl rfl ?_ ?_
    · intro hb12
      refine G_p rfl rfl rfl ?_
      refine G_h rfl rfl rfl (fun _ => rfl) ?_
      refine G_p (v := .lst (List.map encTVl l2) false) rfl rfl rfl ?_
      refine G_h rfl rfl rfl (lenL_ev rfl (List.length_map _)) ?_
      refine G_p rfl rfl rfl ?_
      exact G_nil (L_nil ⟨rfl, rfl, rfl⟩)
    · intro vs hvs
      obtain ⟨u13, u14, u15, u16, u17, rfl⟩ := len5 hvs
      dsimp only [junk]
      refine G_p rfl rfl rfl ?_
      obtain ⟨v26, hvv26, hr⟩ := bind_s hr
      refine G_pick true [_, _, _, _, _, _, _, _, _, _] (v := .bool v26) (vo := .bool false) rfl rfl ?_ ?_ rfl ?_
      · intro hb19
        have hr := condT hb19 hvv26
        refine G_p (v := .lst (List.map encTVl l2) false) rfl rfl rfl ?_
        refine G_p rfl rfl rfl ?_
        refine G_h rfl rfl rfl (fun _ => rfl) ?_
        obtain ⟨e25, he25, hr⟩ := bind_s hr
        refine G_h (v := .ro [.int .i64 e25.tag, .bool e25.yes]) rfl rfl rfl (ia_ev (cells := [.int .i64 e25.tag, .bool e25.yes]) rfl rfl (idx_s he25).1 (map_get (x := e25) (idx_s he25).2) (y1j _) rfl) ?_
        refine G_p (v := .ro [.int .i64 e25.tag, .bool e25.yes]) rfl rfl rfl ?_
        refine G_h rfl rfl rfl (fun _ => rfl) ?_
        refine G_p rfl rfl rfl ?_
        refine G_h rfl rfl rfl (fun _ => rfl) ?_
        refine G_p rfl rfl rfl ?_
        refine G_p rfl rfl rfl ?_
        cases hr; exact G_nil (L_nil ⟨rfl, rfl, rfl⟩)
      · intro hb19; exact pickT hvv26 hb19
      · intro vs hvs
        obtain ⟨u20, u21, u22, u23, u24, u25, u26, u27, u28, u29, rfl⟩ := len10 hvs
        dsimp only [junk]
        refine G_p rfl rfl rfl ?_
        refine G_nil (L_nil ⟨rfl, ?_⟩)
        refine L_ret ?_
        refine Blk_ret ?_
        refine Sm_ret ?_
        have hr := some_s hr
        subst hr
        exact ⟨_, rfl, _, rfl, rfl⟩
  · refine L_F rfl hc7 ?_
    refine L_seq ?_
    refine L_stmt ?_
    refine L_reg ?_
    refine G_p rfl rfl rfl ?_
    refine G_p rfl rfl rfl ?_
    refine G_nil ?_
    refine L_nil ?_
    refine Sm_norm (e2 := [(1, .lst (List.map encTVl l2) false), (2, .ptr 0 0), (6, .int .i64 t1.op), (31, .bool (decide (t1.op = 1)))]) (H1 := [(kg312 t1)]) (H2 := [(kg312 t1)]) rfl (by repeat (first | exact rzz | apply rcc rfl | apply rnn rfl)) rfl (?_ : GL _ _ _ _ _)
    rcases cond_s hr with ⟨hc31, hr⟩ | ⟨hc31, hr⟩
    · refine L_T rfl hc31 ?_
      refine L_seq ?_
      refine L_reg ?_
      refine G_p rfl rfl rfl ?_
      refine G_h rfl rfl rfl (fun _ => rfl) ?_
      refine G_p rfl rfl rfl ?_
      refine G_p rfl rfl rfl ?_
      refine G_or (f := (decide (((List.length l2 : Nat) : Int) ≤ t1.var))) [_, _, _, _, _] rfl rfl ?_ ?_
      · intro hb36
        refine G_p rfl rfl rfl ?_
        refine G_h rfl rfl rfl (fun _ => rfl) ?_
        refine G_p (v := .lst (List.map encTVl l2) false) rfl rfl rfl ?_
        refine G_h rfl rfl rfl (lenL_ev rfl (List.length_map _)) ?_
        refine G_p rfl rfl rfl ?_
        exact G_nil (L_nil ⟨rfl, rfl, rfl⟩)
      · intro vs hvs
        obtain ⟨u37, u38, u39, u40, u41, rfl⟩ := len5 hvs
        dsimp only [junk]
        refine G_p rfl rfl rfl ?_
        obtain ⟨v28, hvv28, hr⟩ := bind_s hr
        refine G_pick false [_, _, _, _, _, _, _] (v := .bool v28) (vo := .bool true) rfl rfl ?_ ?_ rfl ?_
        · intro hb43
          have hr := condF hb43 hvv28
          refine G_p (v := .lst (List.map encTVl l2) false) rfl rfl rfl ?_
          refine G_p rfl rfl rfl ?_
          refine G_h rfl rfl rfl (fun _ => rfl) ?_
          obtain ⟨e27, he27, hr⟩ := bind_s hr
          refine G_h (v := .ro [.int .i64 e27.tag, .bool e27.yes]) rfl rfl rfl (ia_ev (cells := [.int .i64 e27.tag, .bool e27.yes]) rfl rfl (idx_s he27).1 (map_get (x := e27) (idx_s he27).2) (y1j _) rfl) ?_
          refine G_p (v := .ro [.int .i64 e27.tag, .bool e27.yes]) rfl rfl rfl ?_
          refine G_h rfl rfl rfl (fun _ => rfl) ?_
          refine G_p rfl rfl rfl ?_
          cases hr; exact G_nil (L_nil ⟨rfl, rfl, rfl⟩)
        · intro hb43; exact pickF hvv28 hb43
        · intro vs hvs
          obtain ⟨u44, u45, u46, u47, u48, u49, u50, rfl⟩ := len7 hvs
          dsimp only [junk]
          refine G_p rfl rfl rfl ?_
          obtain ⟨v30, hvv30, hr⟩ := bind_s hr
          refine G_pick false [_, _, _, _, _, _] (v := .bool v30) (vo := .bool true) rfl rfl ?_ ?_ rfl ?_
          · intro hb52
            have hr := condF hb52 hvv30
            refine G_p (v := .lst (List.map encTVl l2) false) rfl rfl rfl ?_
            refine G_p rfl rfl rfl ?_
            refine G_h rfl rfl rfl (fun _ => rfl) ?_
            obtain ⟨e29, he29, hr⟩ := bind_s hr
            refine G_h (v := .ro [.int .i64 e29.tag, .bool e29.yes]) rfl rfl rfl (ia_ev (cells := [.int .i64 e29.tag, .bool e29.yes]) rfl rfl (idx_s he29).1 (map_get (x := e29) (idx_s he29).2) (y1j _) rfl) ?_
            refine G_p (v := .ro [.bool e29.yes]) rfl rfl rfl ?_
            refine G_h rfl rfl rfl (fun _ => rfl) ?_
            cases hr; exact G_nil (L_nil ⟨rfl, rfl, rfl⟩)
          · intro hb52; exact pickF hvv30 hb52
          · intro vs hvs
            obtain ⟨u53, u54, u55, u56, u57, u58, rfl⟩ := len6 hvs
            dsimp only [junk]
            refine G_p rfl rfl rfl ?_
            refine G_nil ?_
            refine L_ret ?_
            refine Blk_ret ?_
            refine Sm_ret ?_
            have hr := some_s hr
            subst hr
            exact ⟨_, rfl, _, rfl, rfl⟩
    · refine L_F rfl hc31 ?_
      refine L_seq ?_
      refine L_stmt ?_
      refine L_reg ?_
      refine G_p rfl rfl rfl ?_
      refine G_p rfl rfl rfl ?_
      refine G_nil ?_
      refine L_nil ?_
      refine Sm_norm (e2 := [(1, .lst (List.map encTVl l2) false), (2, .ptr 0 0), (6, .int .i64 t1.op), (60, .bool (decide (t1.op = 2)))]) (H1 := [(kg312 t1)]) (H2 := [(kg312 t1)]) rfl (by repeat (first | exact rzz | apply rcc rfl | apply rnn rfl)) rfl (?_ : GL _ _ _ _ _)
      rcases cond_s hr with ⟨hc60, hr⟩ | ⟨hc60, hr⟩
      · refine L_T rfl hc60 ?_
        refine L_seq ?_
        refine L_reg ?_
        refine G_p rfl rfl rfl ?_
        refine G_h rfl rfl rfl (fun _ => rfl) ?_
        refine G_p rfl rfl rfl ?_
        refine G_nil ?_
        refine L_ret ?_
        refine Blk_ret ?_
        refine Sm_ret ?_
        have hr := some_s hr
        subst hr
        exact ⟨_, rfl, _, rfl, rfl⟩
      · refine L_F rfl hc60 ?_
        refine L_seq ?_
        refine L_stmt ?_
        refine L_reg ?_
        refine G_p rfl rfl rfl ?_
        refine G_p rfl rfl rfl ?_
        refine G_nil ?_
        refine L_nil ?_
        refine Sm_norm (e2 := [(1, .lst (List.map encTVl l2) false), (2, .ptr 0 0), (6, .int .i64 t1.op), (64, .bool (decide (t1.op = 3)))]) (H1 := [(kg312 t1)]) (H2 := [(kg312 t1)]) rfl (by repeat (first | exact rzz | apply rcc rfl | apply rnn rfl)) rfl (?_ : GL _ _ _ _ _)
        rcases cond_s hr with ⟨hc64, hr⟩ | ⟨hc64, hr⟩
        · refine L_T rfl hc64 ?_
          refine L_seq ?_
          refine L_reg ?_
          refine G_p rfl rfl rfl ?_
          refine G_h (v := .lst (List.map encTst t1.of) false) rfl rfl rfl (fun _ => rfl) ?_
          refine G_h rfl rfl rfl (lenL_ev rfl (List.length_map _)) ?_
          refine G_p rfl rfl rfl ?_
          refine G_p rfl rfl rfl ?_
          obtain ⟨v33, hvv33, hr⟩ := bind_s hr
          refine G_pick false [_, _, _, _, _, _, _] (v := .bool v33) (vo := .bool true) rfl rfl ?_ ?_ rfl ?_
          · intro hb70
            have hr := condF hb70 hvv33
            refine G_p rfl rfl rfl ?_
            refine G_h (v := .lst (List.map encTst t1.of) false) rfl rfl rfl (fun _ => rfl) ?_
            obtain ⟨e31, he31, hr⟩ := bind_s hr
            refine G_h (v := .ro [.int .i64 e31.op, .int .i64 e31.var, .int .i64 e31.tags, .bool e31.yes, .lst (List.map encTst e31.of) false]) rfl rfl rfl (ia_ev (cells := [.int .i64 e31.op, .int .i64 e31.var, .int .i64 e31.tags, .bool e31.yes, .lst (List.map encTst e31.of) false]) rfl rfl (idx_s he31).1 (map_get (x := e31) (idx_s he31).2) (y1m _) rfl) ?_
            refine G_h (v := .agg (cTst e31)) rfl rfl rfl (fun _ => rfl) ?_
            refine G_p (v := .lst (List.map encTVl l2) false) rfl rfl rfl ?_
            obtain ⟨r32, hr32, hr⟩ := bind_s hr
            refine G_c 29 rfl rfl (CA_of (as := [.agg (cTst e31), .lst (List.map encTVl l2) false]) rfl (hrec _ _ _ hr32)) ?_
            refine G_p rfl rfl rfl ?_
            cases hr; exact G_nil (L_nil ⟨rfl, rfl, rfl⟩)
          · intro hb70; exact pickF hvv33 hb70
          · intro vs hvs
            obtain ⟨u71, u72, u73, u74, u75, u76, u77, rfl⟩ := len7 hvs
            dsimp only [junk]
            refine G_p rfl rfl rfl ?_
            refine G_nil ?_
            refine L_ret ?_
            refine Blk_ret ?_
            refine Sm_ret ?_
            have hr := some_s hr
            subst hr
            exact ⟨_, rfl, _, rfl, rfl⟩
        · refine L_F rfl hc64 ?_
          refine L_seq ?_
          refine L_stmt ?_
          refine L_reg ?_
          refine G_p rfl rfl rfl ?_
          refine G_p rfl rfl rfl ?_
          refine G_nil ?_
          refine L_nil ?_
          refine Sm_norm (e2 := [(1, .lst (List.map encTVl l2) false), (2, .ptr 0 0), (79, .bool (decide (t1.op = 4)))]) (H1 := [(kg312 t1)]) (H2 := [(kg312 t1)]) rfl (by repeat (first | exact rzz | apply rcc rfl | apply rnn rfl)) rfl (?_ : GL _ _ _ _ _)
          rcases cond_s hr with ⟨hc79, hr⟩ | ⟨hc79, hr⟩
          · refine L_T rfl hc79 ?_
            refine L_seq ?_
            refine L_stmt ?_
            refine L_seq ?_
            refine L_stmt ?_
            refine L_reg ?_
            refine G_p rfl rfl rfl ?_
            refine G_h (v := .lst (List.map encTst t1.of) false) rfl rfl rfl (fun _ => rfl) ?_
            refine G_h rfl rfl rfl (lenL_ev rfl (List.length_map _)) ?_
            refine G_p rfl rfl rfl ?_
            refine G_p rfl rfl rfl ?_
            obtain ⟨v41, hvv41, hr⟩ := bind_s hr
            refine G_pick true [_, _, _, _, _, _] (v := .bool v41) (vo := .bool false) rfl rfl ?_ ?_ rfl ?_
            · intro hb85
              have hr := condT hb85 hvv41
              refine G_p rfl rfl rfl ?_
              refine G_h (v := .lst (List.map encTst t1.of) false) rfl rfl rfl (fun _ => rfl) ?_
              obtain ⟨e39, he39, hr⟩ := bind_s hr
              refine G_h (v := .ro [.int .i64 e39.op, .int .i64 e39.var, .int .i64 e39.tags, .bool e39.yes, .lst (List.map encTst e39.of) false]) rfl rfl rfl (ia_ev (cells := [.int .i64 e39.op, .int .i64 e39.var, .int .i64 e39.tags, .bool e39.yes, .lst (List.map encTst e39.of) false]) rfl rfl (idx_s he39).1 (map_get (x := e39) (idx_s he39).2) (y1m _) rfl) ?_
              refine G_h (v := .agg (cTst e39)) rfl rfl rfl (fun _ => rfl) ?_
              refine G_p (v := .lst (List.map encTVl l2) false) rfl rfl rfl ?_
              obtain ⟨r40, hr40, hr⟩ := bind_s hr
              refine G_c 29 rfl rfl (CA_of (as := [.agg (cTst e39), .lst (List.map encTVl l2) false]) rfl (hrec _ _ _ hr40)) ?_
              cases hr; exact G_nil (L_nil ⟨rfl, rfl, rfl⟩)
            · intro hb85; exact pickT hvv41 hb85
            · intro vs hvs
              obtain ⟨u86, u87, u88, u89, u90, u91, rfl⟩ := len6 hvs
              dsimp only [junk]
              refine G_nil ?_
              refine L_nil ?_
              refine Sm_norm (e2 := [(1, .lst (List.map encTVl l2) false), (2, .ptr 0 0), (92, .bool v41)]) (H1 := [(kg312 t1)]) (H2 := [(kg312 t1)]) rfl (by repeat (first | exact rzz | apply rcc rfl | apply rnn rfl)) rfl (?_ : GL _ _ _ _ _)
              rcases cond_s hr with ⟨hc92, hr⟩ | ⟨hc92, hr⟩
              · refine L_T rfl hc92 ?_
                refine L_seq ?_
                refine L_reg ?_
                refine G_p rfl rfl rfl ?_
                refine G_h (v := .lst (List.map encTst t1.of) false) rfl rfl rfl (fun _ => rfl) ?_
                obtain ⟨e42, he42, hr⟩ := bind_s hr
                refine G_h (v := .ro [.int .i64 e42.op, .int .i64 e42.var, .int .i64 e42.tags, .bool e42.yes, .lst (List.map encTst e42.of) false]) rfl rfl rfl (ia_ev (cells := [.int .i64 e42.op, .int .i64 e42.var, .int .i64 e42.tags, .bool e42.yes, .lst (List.map encTst e42.of) false]) rfl rfl (idx_s he42).1 (map_get (x := e42) (idx_s he42).2) (y1m _) rfl) ?_
                refine G_h (v := .agg (cTst e42)) rfl rfl rfl (fun _ => rfl) ?_
                refine G_p (v := .lst (List.map encTVl l2) false) rfl rfl rfl ?_
                obtain ⟨r43, hr43, hr⟩ := bind_s hr
                refine G_c 29 rfl rfl (CA_of (as := [.agg (cTst e42), .lst (List.map encTVl l2) false]) rfl (hrec _ _ _ hr43)) ?_
                refine G_p rfl rfl rfl ?_
                refine G_nil ?_
                refine L_ret ?_
                refine Sm_ret ?_
                refine Blk_ret ?_
                refine Sm_ret ?_
                have hr := some_s hr
                subst hr
                exact ⟨_, rfl, _, rfl, rfl⟩
              · refine L_F rfl hc92 ?_
                refine L_skip ?_
                refine L_nil ?_
                refine Sm_norm (e2 := [(1, .lst (List.map encTVl l2) false), (2, .ptr 0 0)]) (H1 := [(kg312 t1)]) (H2 := [(kg312 t1)]) rfl (by repeat (first | exact rzz | apply rcc rfl | apply rnn rfl)) rfl (?_ : GL _ _ _ _ _)
                refine L_seq ?_
                refine L_reg ?_
                refine G_p rfl rfl rfl ?_
                refine G_h (v := .lst (List.map encTst t1.of) false) rfl rfl rfl (fun _ => rfl) ?_
                refine G_h rfl rfl rfl (lenL_ev rfl (List.length_map _)) ?_
                refine G_p rfl rfl rfl ?_
                refine G_p rfl rfl rfl ?_
                obtain ⟨v46, hvv46, hr⟩ := bind_s hr
                refine G_pick false [_, _, _, _, _, _] (v := .bool v46) (vo := .bool true) rfl rfl ?_ ?_ rfl ?_
                · intro hb103
                  have hr := condF hb103 hvv46
                  refine G_p rfl rfl rfl ?_
                  refine G_h (v := .lst (List.map encTst t1.of) false) rfl rfl rfl (fun _ => rfl) ?_
                  obtain ⟨e44, he44, hr⟩ := bind_s hr
                  refine G_h (v := .ro [.int .i64 e44.op, .int .i64 e44.var, .int .i64 e44.tags, .bool e44.yes, .lst (List.map encTst e44.of) false]) rfl rfl rfl (ia_ev (cells := [.int .i64 e44.op, .int .i64 e44.var, .int .i64 e44.tags, .bool e44.yes, .lst (List.map encTst e44.of) false]) rfl rfl (idx_s he44).1 (map_get (x := e44) (idx_s he44).2) (y1m _) rfl) ?_
                  refine G_h (v := .agg (cTst e44)) rfl rfl rfl (fun _ => rfl) ?_
                  refine G_p (v := .lst (List.map encTVl l2) false) rfl rfl rfl ?_
                  obtain ⟨r45, hr45, hr⟩ := bind_s hr
                  refine G_c 29 rfl rfl (CA_of (as := [.agg (cTst e44), .lst (List.map encTVl l2) false]) rfl (hrec _ _ _ hr45)) ?_
                  cases hr; exact G_nil (L_nil ⟨rfl, rfl, rfl⟩)
                · intro hb103; exact pickF hvv46 hb103
                · intro vs hvs
                  obtain ⟨u104, u105, u106, u107, u108, u109, rfl⟩ := len6 hvs
                  dsimp only [junk]
                  refine G_p rfl rfl rfl ?_
                  refine G_nil ?_
                  refine L_ret ?_
                  refine Blk_ret ?_
                  refine Sm_ret ?_
                  have hr := some_s hr
                  subst hr
                  exact ⟨_, rfl, _, rfl, rfl⟩
          · refine L_F rfl hc79 ?_
            refine L_skip ?_
            refine L_nil ?_
            refine Blk_norm (?_ : GL _ _ _ _ _)
            refine L_nil ?_
            refine Sm_norm (e2 := []) (H1 := [(kg312 t1)]) (H2 := [(kg312 t1)]) rfl (by repeat (first | exact rzz | apply rcc rfl | apply rnn rfl)) rfl (?_ : GL _ _ _ _ _)
            refine L_seq ?_
            refine L_reg ?_
            refine G_p rfl rfl rfl ?_
            refine G_nil ?_
            refine L_ret ?_
            have hr := some_s hr
            subst hr
            exact ⟨_, rfl, _, rfl, rfl⟩
noncomputable def g_w06_yes : Nat → Tst → (List TVl) → Option Bool
  | 0, _, _ => none
  | n + 1, t1, l2 => y4j (g_w06_yes n) t1 l2
theorem y5y : ∀ (n : Nat) {t1 : Tst} {l2 : List TVl} {r : Bool} (hr : g_w06_yes n t1 l2 = some r), PRes (tabOf tabL) 29 [.agg (cTst t1), .lst (List.map encTVl l2) false] (.bool r)
  | 0, _, _, _, hr => by cases hr
  | n + 1, _, _, _, hr => y7p (fun _ _ _ h => y5y n h) hr
noncomputable def y6p (rec : Tst → Option Prp) (n : Nat) (t1 : Tst) : Option Prp :=
  (cond (decide (t1.op = 0)) ((g_r06_Is n t1.var t1.tags).bind fun r15 => some r15) (cond (decide (t1.op = 1)) ((y6d t1.var).bind fun r16 => some r16) (cond (decide (t1.op = 2)) ((y6n t1.yes).bind fun r17 => some r17) (cond (decide (t1.op = 3)) (cond (decide (0 < ((List.length t1.of : Nat) : Int))) ((idx t1.of 0).bind fun e18 => ((rec e18).bind fun r19 => ((g_r06_Not r19).bind fun r20 => some r20))) (some (Prp.mk (Fts.mk false []) (Fts.mk false [])))) (cond (decide (t1.op = 4)) (cond (decide (2 < ((List.length t1.of : Nat) : Int))) ((idx t1.of 0).bind fun e21 => ((rec e21).bind fun r22 => ((idx t1.of 1).bind fun e23 => ((rec e23).bind fun r24 => ((idx t1.of 2).bind fun e25 => ((rec e25).bind fun r26 => ((g_r06_If n r22 r24 r26).bind fun r27 => some r27))))))) (some (Prp.mk (Fts.mk false []) (Fts.mk false [])))) (some (Prp.mk (Fts.mk false []) (Fts.mk false []))))))))
noncomputable def g_w06_own : Nat → Tst → Option Prp
  | 0, _ => none
  | n + 1, t1 => y6p (g_w06_own n) n t1
noncomputable def y27 (v1 : Int) (tags2 : Int) : Option Fts :=
  (cond (decide (v1 = v1) && (decide ((andB .i64 tags2 255) = 255) && true)) (some (Fts.mk false [])) (some (Fts.mk false [(Fct.mk v1 (andB .i64 tags2 255))])))
theorem y49 {v1 : Int} {tags2 : Int} {r : Fts} (hr : y27 v1 tags2 = some r) : PRes (tabOf tabL) 67 [.int .i64 v1, .int .i64 tags2] (.agg (cFts r)) := by
  refine pres_fin t67 ?_
  unfold y27 at hr
  refine L_seq ?_
  refine L_stmt ?_
  refine L_reg ?_
  refine G_n (B := .cells [.bool false, .lst [] true]) rfl rfl rfl ?_
  refine G_nil ?_
  refine L_nil ?_
  refine Sm_norm (e2 := [(0, .int .i64 v1), (1, .int .i64 tags2), (4, .ptr 0 0)]) (H1 := [.cells [.bool false, .lst [] true]]) (H2 := [.cells [.bool false, .lst [] true]]) rfl (by repeat (first | exact rzz | apply rcc rfl | apply rnn rfl)) rfl (?_ : GL _ _ _ _ _)
  refine L_seq ?_
  refine L_stmt ?_
  refine L_reg ?_
  refine G_p rfl rfl rfl ?_
  refine G_p rfl rfl rfl ?_
  refine G_p rfl rfl rfl ?_
  refine G_p (v := .agg [.int .i64 v1, .int .i64 (andB .i64 tags2 255)]) rfl rfl rfl ?_
  refine G_n (B := .cells [.int .i64 0, .int .i64 0]) rfl rfl rfl ?_
  refine G_hn (H' := [.cells [.bool false, .lst [] true], .cells [.int .i64 v1, .int .i64 (andB .i64 tags2 255)]]) rfl rfl rfl (fun _ => rfl) ?_
  refine G_nil ?_
  refine L_nil ?_
  refine Sm_norm (e2 := [(0, .int .i64 v1), (4, .ptr 0 0), (5, .ptr 1 0)]) (H1 := [.cells [.bool false, .lst [] true], .cells [.int .i64 v1, .int .i64 (andB .i64 tags2 255)]]) (H2 := [.cells [.bool false, .lst [] true], .cells [.int .i64 v1, .int .i64 (andB .i64 tags2 255)]]) rfl (by repeat (first | exact rzz | apply rcc rfl | apply rnn rfl)) rfl (?_ : GL _ _ _ _ _)
  refine L_seq ?_
  refine L_stmt ?_
  refine L_seq ?_
  refine L_stmt ?_
  refine L_reg ?_
  refine G_h (v := .agg [.int .i64 v1, .int .i64 (andB .i64 tags2 255)]) rfl rfl rfl (fun _ => rfl) ?_
  refine G_p rfl rfl rfl ?_
  refine G_p (v := .agg [.int .i64 v1, .int .i64 255]) rfl rfl rfl ?_
  refine G_p rfl rfl rfl ?_
  refine G_nil ?_
  refine L_nil ?_
  refine Sm_norm (e2 := [(4, .ptr 0 0), (5, .ptr 1 0), (13, .bool (decide (v1 = v1) && (decide ((andB .i64 tags2 255) = 255) && true)))]) (H1 := [.cells [.bool false, .lst [] true], .cells [.int .i64 v1, .int .i64 (andB .i64 tags2 255)]]) (H2 := [.cells [.bool false, .lst [] true], .cells [.int .i64 v1, .int .i64 (andB .i64 tags2 255)]]) rfl (by repeat (first | exact rzz | apply rcc rfl | apply rnn rfl)) rfl (?_ : GL _ _ _ _ _)
  rcases cond_s hr with ⟨hc13, hr⟩ | ⟨hc13, hr⟩
  · refine L_T rfl hc13 ?_
    refine L_seq ?_
    refine L_reg ?_
    refine G_p (v := .agg [.bool false, .lst [] true]) rfl rfl rfl ?_
    refine G_hn (H' := [.cells [.bool false, .lst [] true], .cells [.int .i64 v1, .int .i64 (andB .i64 tags2 255)]]) rfl rfl rfl (fun _ => rfl) ?_
    refine G_nil ?_
    refine L_ret ?_
    refine Sm_ret ?_
    have hr := some_s hr
    subst hr
    exact ⟨_, rfl, _, rfl, rfl⟩
  · refine L_F rfl hc13 ?_
    refine L_skip ?_
    refine L_nil ?_
    refine Sm_norm (e2 := [(4, .ptr 0 0), (5, .ptr 1 0)]) (H1 := [.cells [.bool false, .lst [] true], .cells [.int .i64 v1, .int .i64 (andB .i64 tags2 255)]]) (H2 := [.cells [.bool false, .lst [] true], .cells [.int .i64 v1, .int .i64 (andB .i64 tags2 255)]]) rfl (by repeat (first | exact rzz | apply rcc rfl | apply rnn rfl)) rfl (?_ : GL _ _ _ _ _)
    refine L_seq ?_
    refine L_reg ?_
    refine G_h (v := .agg [.int .i64 v1, .int .i64 (andB .i64 tags2 255)]) rfl rfl rfl (fun _ => rfl) ?_
    refine G_h (v := .lst (List.map encFct [(Fct.mk v1 (andB .i64 tags2 255))]) true) rfl rfl rfl (fun _ => Eq.trans (b := some (Ex.ok (AVal.lst [.agg [.int .i64 v1, .int .i64 (andB .i64 tags2 255)]] true), _)) rfl (congrArg (fun z => some (Ex.ok (AVal.lst z true), _)) (by first | rfl | (simp only [List.map_cons, List.map_nil, encFct_eq] <;> rfl)))) ?_
    refine G_p (v := .agg [.bool false, .lst (List.map encFct [(Fct.mk v1 (andB .i64 tags2 255))]) true]) rfl rfl rfl ?_
    refine G_hn (H' := [.cells [.bool false, .lst (List.map encFct [(Fct.mk v1 (andB .i64 tags2 255))]) true], .cells [.int .i64 v1, .int .i64 (andB .i64 tags2 255)]]) rfl rfl rfl (fun _ => rfl) ?_
    refine G_nil ?_
    refine L_ret ?_
    have hr := some_s hr
    subst hr
    exact ⟨_, rfl, _, rfl, rfl⟩
noncomputable def y3r (v1 : Int) (tags2 : Int) : Option Prp :=
  ((y27 v1 tags2).bind fun r3 => ((y27 v1 (notB .i64 tags2)).bind fun r4 => some (Prp.mk r3 r4)))
abbrev kg315 : ABlock := .cells [.bool false, .lst [] true, .bool false, .lst [] true]
theorem y7m {v1 : Int} {tags2 : Int} {r : Prp} (hr : y3r v1 tags2 = some r) : PRes (tabOf tabL) 34 [.int .i64 v1, .int .i64 tags2] (.agg (cPrp r)) := by
  refine pres_fin t34 ?_
  unfold y3r at hr
  refine L_seq ?_
  refine L_stmt ?_
  refine L_reg ?_
  refine G_n (B := kg315) rfl rfl rfl ?_
  refine G_nil ?_
  refine L_nil ?_
  refine Sm_norm (e2 := [(0, .int .i64 v1), (1, .int .i64 tags2), (4, .ptr 0 0)]) (H1 := [kg315]) (H2 := [kg315]) rfl (by repeat (first | exact rzz | apply rcc rfl | apply rnn rfl)) rfl (?_ : GL _ _ _ _ _)
  refine L_seq ?_
  refine L_reg ?_
  refine G_p rfl rfl rfl ?_
  refine G_p rfl rfl rfl ?_
  obtain ⟨r3, hr3, hr⟩ := bind_s hr
  refine G_c 67 rfl rfl (CA_of (as := [.int .i64 v1, .int .i64 tags2]) rfl (y49 hr3)) ?_
  refine G_p rfl rfl rfl ?_
  refine G_p rfl rfl rfl ?_
  refine G_p rfl rfl rfl ?_
  obtain ⟨r4, hr4, hr⟩ := bind_s hr
  refine G_c 67 rfl rfl (CA_of (as := [.int .i64 v1, .int .i64 (notB .i64 tags2)]) rfl (y49 hr4)) ?_
  refine G_p (v := .agg [.bool r3.never, .lst (List.map encFct r3.l) false, .bool r4.never, .lst (List.map encFct r4.l) false]) rfl rfl rfl ?_
  refine G_hn (H' := [.cells [.bool r3.never, .lst (List.map encFct r3.l) false, .bool r4.never, .lst (List.map encFct r4.l) false]]) rfl rfl rfl (fun _ => rfl) ?_
  refine G_nil ?_
  refine L_ret ?_
  have hr := some_s hr
  subst hr
  exact ⟨_, rfl, _, rfl, rfl⟩
noncomputable def y2t (v1 : Int) : Option Prp :=
  ((y27 v1 2).bind fun r2 => some (Prp.mk (Fts.mk false []) r2))
abbrev kg316 : ABlock := .cells [.bool false, .lst [] true, .bool false, .lst [] true]
theorem y63 {v1 : Int} {r : Prp} (hr : y2t v1 = some r) : PRes (tabOf tabL) 51 [.int .i64 v1] (.agg (cPrp r)) := by
  refine pres_fin t51 ?_
  unfold y2t at hr
  refine L_seq ?_
  refine L_stmt ?_
  refine L_reg ?_
  refine G_n (B := kg316) rfl rfl rfl ?_
  refine G_nil ?_
  refine L_nil ?_
  refine Sm_norm (e2 := [(0, .int .i64 v1), (2, .ptr 0 0)]) (H1 := [kg316]) (H2 := [kg316]) rfl (by repeat (first | exact rzz | apply rcc rfl | apply rnn rfl)) rfl (?_ : GL _ _ _ _ _)
  refine L_seq ?_
  refine L_reg ?_
  refine G_p rfl rfl rfl ?_
  obtain ⟨r2, hr2, hr⟩ := bind_s hr
  refine G_c 67 rfl rfl (CA_of (as := [.int .i64 v1, .int .i64 2]) rfl (y49 hr2)) ?_
  refine G_p (v := .agg [.bool false, .lst [] true, .bool r2.never, .lst (List.map encFct r2.l) false]) rfl rfl rfl ?_
  refine G_hn (H' := [.cells [.bool false, .lst [] true, .bool r2.never, .lst (List.map encFct r2.l) false]]) rfl rfl rfl (fun _ => rfl) ?_
  refine G_nil ?_
  refine L_ret ?_
  have hr := some_s hr
  subst hr
  exact ⟨_, rfl, _, rfl, rfl⟩
noncomputable def y2z (is1 : Bool) : Option Prp :=
  some (Prp.mk (Fts.mk (!is1) []) (Fts.mk is1 []))
abbrev kg317 : ABlock := .cells [.bool false, .lst [] true, .bool false, .lst [] true]
theorem y65 {is1 : Bool} {r : Prp} (hr : y2z is1 = some r) : PRes (tabOf tabL) 35 [.bool is1] (.agg (cPrp r)) := by
  refine pres_fin t35 ?_
  unfold y2z at hr
  refine L_seq ?_
  refine L_stmt ?_
  refine L_reg ?_
  refine G_n (B := kg317) rfl rfl rfl ?_
  refine G_nil ?_
  refine L_nil ?_
  refine Sm_norm (e2 := [(0, .bool is1), (2, .ptr 0 0)]) (H1 := [kg317]) (H2 := [kg317]) rfl (by repeat (first | exact rzz | apply rcc rfl | apply rnn rfl)) rfl (?_ : GL _ _ _ _ _)
  refine L_seq ?_
  refine L_reg ?_
  refine G_p rfl rfl rfl ?_
  refine G_p rfl rfl rfl ?_
  refine G_p (v := .agg [.bool (!is1), .lst [] true]) rfl rfl rfl ?_
  refine G_p rfl rfl rfl ?_
  refine G_p (v := .agg [.bool is1, .lst [] true]) rfl rfl rfl ?_
  refine G_p (v := .agg [.bool (!is1), .lst [] true, .bool is1, .lst [] true]) rfl rfl rfl ?_
  refine G_hn (H' := [.cells [.bool (!is1), .lst [] true, .bool is1, .lst [] true]]) rfl rfl rfl (fun _ => rfl) ?_
  refine G_nil ?_
  refine L_ret ?_
  have hr := some_s hr
  subst hr
  exact ⟨_, rfl, _, rfl, rfl⟩
noncomputable def y1f : Option Prp :=
  some (Prp.mk (Fts.mk false []) (Fts.mk false []))
abbrev kg318 : ABlock := .cells [.bool false, .lst [] true, .bool false, .lst [] true]
theorem y3x {r : Prp} (hr : y1f = some r) : PRes (tabOf tabL) 53 [] (.agg (cPrp r)) := by
  refine pres_fin t53 ?_
  unfold y1f at hr
  refine L_seq ?_
  refine L_stmt ?_
  refine L_reg ?_
  refine G_n (B := kg318) rfl rfl rfl ?_
  refine G_nil ?_
  refine L_nil ?_
  refine Sm_norm (e2 := [(0, .ptr 0 0)]) (H1 := [kg318]) (H2 := [kg318]) rfl (by repeat (first | exact rzz | apply rcc rfl | apply rnn rfl)) rfl (?_ : GL _ _ _ _ _)
  refine L_seq ?_
  refine L_reg ?_
  refine G_p (v := .agg [.bool false, .lst [] true, .bool false, .lst [] true]) rfl rfl rfl ?_
  refine G_hn (H' := [kg318]) rfl rfl rfl (fun _ => rfl) ?_
  refine G_nil ?_
  refine L_ret ?_
  have hr := some_s hr
  subst hr
  exact ⟨_, rfl, _, rfl, rfl⟩
noncomputable def y3d (p1 : Prp) : Option Prp :=
  some (Prp.mk p1.els p1.thn)
abbrev kg319 (p1 : Prp) : ABlock := .cells [.bool p1.thn.never, .lst (List.map encFct p1.thn.l) false, .bool p1.els.never, .lst (List.map encFct p1.els.l) false]
abbrev kg320 : ABlock := .cells [.bool false, .lst [] true, .bool false, .lst [] true]
theorem y7i {p1 : Prp} {r : Prp} (hr : y3d p1 = some r) : PRes (tabOf tabL) 52 [.agg (cPrp p1)] (.agg (cPrp r)) := by
  refine pres_fin t52 ?_
  unfold y3d at hr
  refine L_seq ?_
  refine L_stmt ?_
  refine L_reg ?_
  refine G_n (B := (kg319 p1)) rfl rfl rfl ?_
  refine G_n (B := kg320) rfl rfl rfl ?_
  refine G_nil ?_
  refine L_nil ?_
  refine Sm_norm (e2 := [(1, .ptr 0 0), (2, .ptr 1 0)]) (H1 := [(kg319 p1), kg320]) (H2 := [(kg319 p1), kg320]) rfl (by repeat (first | exact rzz | apply rcc rfl | apply rnn rfl)) rfl (?_ : GL _ _ _ _ _)
  refine L_seq ?_
  refine L_reg ?_
  refine G_p rfl rfl rfl ?_
  refine G_h (v := .agg (cFts p1.els)) rfl rfl rfl (fun _ => rfl) ?_
  refine G_p rfl rfl rfl ?_
  refine G_h (v := .agg (cFts p1.thn)) rfl rfl rfl (fun _ => rfl) ?_
  refine G_p (v := .agg [.bool p1.els.never, .lst (List.map encFct p1.els.l) false, .bool p1.thn.never, .lst (List.map encFct p1.thn.l) false]) rfl rfl rfl ?_
  refine G_hn (H' := [(kg319 p1), .cells [.bool p1.els.never, .lst (List.map encFct p1.els.l) false, .bool p1.thn.never, .lst (List.map encFct p1.thn.l) false]]) rfl rfl rfl (fun _ => rfl) ?_
  refine G_nil ?_
  refine L_ret ?_
  have hr := some_s hr
  subst hr
  exact ⟨_, rfl, _, rfl, rfl⟩
end Go.Ev.Seat
namespace Go.Ev.Seat
set_option linter.unusedVariables false
set_option linter.unusedSimpArgs false
open Go Go.Ev
theorem tags_l2 (v : Int) : ∀ (l : List Fct) (i : Nat) (a : Nat), a < 256 → y2d v l i (a : Nat) = some (((a &&& tgN l v : Nat) : Nat) : Int)
  | [], i, a, h => by rw [y2d, y5g]; simp only [tgN, and255 h]
  | f :: l, i, a, h => by
    rw [y2d]
    by_cases hc : f.var = v
    · have h2 : a &&& lowN f.tags < 256 := Nat.lt_of_le_of_lt Nat.and_le_left h
      rw [decide_eq_true hc, cond_true, g_r06_low, Option.bind_some, low_eq, and_nat h (lowN_lt _), tags_l2 v l (i + 1) _ h2]
      simp only [tgN, if_pos hc, Nat.and_assoc]
    · rw [decide_eq_false hc, cond_false, tags_l2 v l (i + 1) a h]
      simp only [tgN, if_neg hc]
theorem tags_r (f : Fts) (v : Int) (h : f.l.length < 10000000000) : y3l f v = some ((tgN f.l v : Nat) : Int) := by
  unfold y3l
  rw [okLen_of (by omega), cond_true]
  have := tags_l2 v f.l 0 255 (by decide)
  rw [Nat.and_comm, and255 (tgN_lt _ _)] at this
  exact this
theorem has_l2 (v : Int) : ∀ (l : List Fct) (i : Nat), y3e v l i = some (decide (v ∈ l.map (·.var)))
  | [], i => by rw [y3e, y5r]; simp
  | f :: l, i => by
    rw [y3e]
    by_cases hc : f.var = v
    · rw [decide_eq_true hc, cond_true]; simp [hc]
    · rw [decide_eq_false hc, cond_false, has_l2 v l (i + 1)]
      congr 1
      apply decide_eq_decide.2
      rw [List.map_cons, List.mem_cons]
      constructor
      · exact .inr
      · rintro (h | h)
        · exact absurd h.symm hc
        · exact h
theorem has_r (f : Fts) (v : Int) (h : f.l.length < 10000000000) : g_r06_has f v = some (decide (v ∈ f.l.map (·.var))) := by
  unfold g_r06_has
  rw [okLen_of (by omega), cond_true]; exact has_l2 v f.l 0
theorem subL_of {α : Type} (A B : List α) : subL (A ++ B) 0 ((A.length : Nat) : Int) = some A ∧ subL (A ++ B) ((A.length : Nat) : Int) ((List.length (A ++ B) : Nat) : Int) = some B := by
  constructor
  · unfold subL; rw [if_pos ⟨by omega, by omega, by simp; omega⟩]; simp
  · unfold subL; rw [if_pos ⟨by omega, by simp; omega, by omega⟩, Int.toNat_natCast, Int.toNat_natCast, List.take_length, List.drop_left]
theorem ins_l5 (y : Fct) (K : List Int → Option (List Int)) (l : List Int) (hl : l.length < 10000000000) : ∀ (rest P : List Int), l = P ++ rest → y38 l y K rest P.length = K (P ++ insV y.var rest)
  | [], P, h => by
    simp only [List.append_nil] at h
    subst h
    have h1 := (subL_of l []).1
    have h2 := (subL_of l []).2
    simp only [List.append_nil] at h1 h2
    rw [y38, y3t, decide_eq_true rfl, cond_true, Option.bind_some, cond_true, h1, Option.bind_some, okLen_of (by omega), cond_true, catL_of (by simp; omega), Option.bind_some, h2, Option.bind_some, catL_of (by simp; omega), Option.bind_some, y36]
    simp [insV]
  | w :: rest, P, h => by
    subst h
    rw [y38]
    simp only [List.length_append, List.length_cons] at hl
    by_cases hw : w < y.var
    · rw [decide_eq_true hw, cond_true]
      have := ins_l5 y K (P ++ w :: rest) (by simp; omega) rest (P ++ [w]) (by simp)
      have e4 : ((P ++ [w]).length : Nat) = P.length + 1 := by simp
      rw [e4] at this
      rw [this]
      congr 1
      have h1 : ¬ y.var < w := by omega
      have h2 : ¬ y.var = w := by omega
      simp [insV, h1, h2]
    · have e1 : decide (((P.length : Nat) : Int) = ((List.length (P ++ w :: rest) : Nat) : Int)) = false := by simp; omega
      rw [decide_eq_false hw, cond_false, y3t, e1, cond_false, idx_at (A := P) (B := rest) rfl rfl, Option.bind_some, Option.bind_some]
      by_cases he : w = y.var
      · subst he
        rw [decide_eq_true rfl, Bool.not_true, cond_false, y36]
        simp [insV]
      · have h1 := (subL_of P (w :: rest)).1
        have h2 := (subL_of P (w :: rest)).2
        rw [decide_eq_false he, Bool.not_false, cond_true, h1, Option.bind_some, okLen_of (by omega), cond_true, catL_of (by simp; omega), Option.bind_some, h2, Option.bind_some, catL_of (by simp; omega), Option.bind_some, y36]
        have h3 : y.var < w := by omega
        simp [insV, h3]
theorem vars_l2 : ∀ (l : List Fct) (i : Nat) (acc : List Int), acc.length + l.length < 10000000000 → y2e l i acc = some (l.foldl (fun a f => insV f.var a) acc)
  | [], i, acc, h => by rw [y2e, y5j]; rfl
  | f :: l, i, acc, h => by
    simp only [List.length_cons] at h
    have := insV_len f.var acc
    have h5 := ins_l5 f (y2e l (i + 1)) acc (by omega) acc [] rfl
    rw [List.length_nil, List.nil_append] at h5
    rw [y2e, okLen_of (by omega), cond_true, h5, vars_l2 l (i + 1) _ (by omega)]; rfl
theorem foldV_mem : ∀ (l : List Fct) (acc : List Int) (x : Int), x ∈ l.foldl (fun a f => insV f.var a) acc ↔ x ∈ acc ∨ x ∈ l.map (·.var)
  | [], acc, x => by simp
  | f :: l, acc, x => by
    rw [List.foldl_cons, foldV_mem l _ x, insV_mem, List.map_cons, List.mem_cons]
    constructor
    · rintro ((h | h) | h) <;> simp [h]
    · rintro (h | h | h) <;> simp [h]
theorem foldV_ris : ∀ (l : List Fct) (acc : List Int), Ris acc → Ris (l.foldl (fun a f => insV f.var a) acc)
  | [], acc, h => h
  | f :: l, acc, h => foldV_ris l _ (insV_ris _ h)
theorem vars_r (a b : Fts) (n : Nat) (h : a.l.length + b.l.length ≤ 1000000) : y4r n a b = some (vsF (a.l ++ b.l)) := by
  unfold y4r
  rw [okLen_of (by omega), cond_true, catL_of (by omega), Option.bind_some, y5i, okLen_of (by simp; omega), cond_true, vars_l2 _ 0 [] (by simp; omega)]
  congr 1
  exact ris_eq (foldV_ris _ _ List.Pairwise.nil) (vsF_ris _) fun v => by rw [foldV_mem, vsF_mem]; simp
theorem and_l2 (a b : Fts) (ha : a.l.length < 10000000000) (hb : b.l.length < 10000000000) : ∀ (vs : List Int) (i : Nat) (acc : List Fct), acc.length + vs.length < 10000000000 →
    y2x a b vs i acc = some ⟨false, acc ++ sayF (vs.map fun v => ⟨v, ((tgN (a.l ++ b.l) v : Nat) : Int)⟩)⟩
  | [], i, acc, h => by rw [y2x, y61]; simp [sayF]
  | v :: vs, i, acc, h => by
    simp only [List.length_cons] at h
    rw [y2x, tags_r a v ha, Option.bind_some, tags_r b v hb, Option.bind_some, and_nat (tgN_lt _ _) (tgN_lt _ _), ← tgN_app]
    by_cases hc : ((tgN (a.l ++ b.l) v : Nat) : Int) = 255
    · rw [decide_eq_true hc, Bool.not_true, cond_false, y45, and_l2 a b ha hb vs (i + 1) acc (by omega)]
      congr 3
      simp [sayF, hc]
    · rw [decide_eq_false hc, Bool.not_false, cond_true, catL_of (by simp; omega), Option.bind_some, y45, and_l2 a b ha hb vs (i + 1) _ (by simp; omega)]
      congr 2
      simp [sayF, hc]
theorem and_r (a b : Fts) (n : Nat) (h : a.l.length + b.l.length ≤ 1000000) : g_r06_And n a b = some (andF a b) := by
  unfold g_r06_And andF
  cases hv : (a.never || b.never) with
  | true => simp
  | false =>
    have hl := vsF_len (a.l ++ b.l)
    rw [List.length_append] at hl
    rw [cond_false, if_neg (by simp), vars_r a b n h, Option.bind_some, okLen_of (by omega), cond_true, and_l2 a b (by omega) (by omega) _ 0 [] (by simp; omega)]
    rfl
theorem or_l2 (a b : Fts) (ha : a.l.length < 10000000000) (hb : b.l.length < 10000000000) : ∀ (vs : List Int) (i : Nat) (acc : List Fct), acc.length + vs.length < 10000000000 →
    y3a a b vs i acc = some ⟨false, acc ++ sayF ((vs.filter fun v => decide (v ∈ a.l.map (·.var)) && decide (v ∈ b.l.map (·.var))).map fun v => ⟨v, ((tgN a.l v ||| tgN b.l v : Nat) : Int)⟩)⟩
  | [], i, acc, h => by rw [y3a, y6e]; simp [sayF]
  | v :: vs, i, acc, h => by
    simp only [List.length_cons] at h
    rw [y3a, tags_r a v ha, Option.bind_some, tags_r b v hb, Option.bind_some, has_r a v ha, Option.bind_some, has_r b v hb, Option.bind_some, or_nat (tgN_lt _ _) (tgN_lt _ _)]
    have hcd : (cond (decide (v ∈ a.l.map (·.var))) (some (decide (v ∈ b.l.map (·.var)))) (some false)) = some (decide (v ∈ a.l.map (·.var)) && decide (v ∈ b.l.map (·.var))) := by
      cases decide (v ∈ a.l.map (·.var)) <;> rfl
    rw [hcd, Option.bind_some]
    cases hh : (decide (v ∈ a.l.map (·.var)) && decide (v ∈ b.l.map (·.var))) with
    | false =>
      rw [Bool.false_and, cond_false, y3p, or_l2 a b ha hb vs (i + 1) acc (by omega), List.filter_cons, hh]; rfl
    | true =>
      rw [Bool.true_and, List.filter_cons, hh, if_pos rfl, List.map_cons]
      by_cases hc : ((tgN a.l v ||| tgN b.l v : Nat) : Int) = 255
      · rw [decide_eq_true hc, Bool.not_true, cond_false, y3p, or_l2 a b ha hb vs (i + 1) acc (by omega)]
        congr 3
        rw [sayF, sayF, List.filter_cons, decide_eq_true hc]; rfl
      · rw [decide_eq_false hc, Bool.not_false, cond_true, catL_of (by simp; omega), Option.bind_some, y3p, or_l2 a b ha hb vs (i + 1) _ (by simp; omega)]
        congr 2
        rw [sayF, sayF, List.filter_cons, decide_eq_false hc]; simp
theorem or_r (a b : Fts) (n : Nat) (h : a.l.length + b.l.length ≤ 1000000) : g_r06_Or n a b = some (orF a b) := by
  unfold g_r06_Or orF
  cases ha : a.never with
  | true => rw [cond_true, and_r b ⟨false, []⟩ n (by simp; omega)]; simp
  | false =>
    rw [cond_false, if_neg (by simp)]
    cases hb : b.never with
    | true => rw [cond_true, and_r a ⟨false, []⟩ n (by simp; omega)]; simp
    | false =>
      have hl := vsF_len (a.l ++ b.l)
      rw [List.length_append] at hl
      rw [cond_false, if_neg (by simp), vars_r a b n h, Option.bind_some, okLen_of (by omega), cond_true, or_l2 a b (by omega) (by omega) _ 0 [] (by simp; omega)]
      congr 4
      rw [show ([] : List Fct) ++ sayF ((List.filter (fun v => decide (v ∈ a.l.map (·.var)) && decide (v ∈ b.l.map (·.var))) (vsF (a.l ++ b.l))).map fun v => ⟨v, ((tgN a.l v ||| tgN b.l v : Nat) : Int)⟩) = sayF ((List.filter (fun v => decide (v ∈ a.l.map (·.var)) && decide (v ∈ b.l.map (·.var))) (vsF (a.l ++ b.l))).map fun v => ⟨v, ((tgN a.l v ||| tgN b.l v : Nat) : Int)⟩) from List.nil_append _]
      congr 2
      refine ris_eq ((vsF_ris _).sublist List.filter_sublist) ((vsF_ris _).sublist List.filter_sublist) fun v => ?_
      simp only [List.mem_filter, vsF_mem, List.map_append, List.mem_append, Bool.and_eq_true, decide_eq_true_eq]
      constructor
      · rintro ⟨_, h1, h2⟩; exact ⟨h1, h2⟩
      · rintro ⟨h1, h2⟩; exact ⟨.inl h1, h1, h2⟩
def okTwo (a b : Fts) : Bool := decide (a.l.length + b.l.length ≤ 1000000)
def oAnd (a b : Fts) : Option Fts := if okTwo a b then some (andF a b) else none
def oOr (a b : Fts) : Option Fts := if okTwo a b then some (orF a b) else none
theorem oTwo {a b r F : Fts} (h : (if okTwo a b then some F else none) = some r) : a.l.length + b.l.length ≤ 1000000 ∧ F = r := by
  split at h
  · rename_i hc; cases h; exact ⟨of_decide_eq_true hc, rfl⟩
  · cases h
theorem oAnd_ok {a b r : Fts} (h : oAnd a b = some r) : PRes (tabOf tabL) 11 [.agg (cFts a), .agg (cFts b)] (.agg (cFts r)) := by
  obtain ⟨h1, rfl⟩ := oTwo h
  exact y46 (and_p a b (a.l.length + b.l.length + 11) h1 (by omega))
theorem oOr_ok {a b r : Fts} (h : oOr a b = some r) : PRes (tabOf tabL) 13 [.agg (cFts a), .agg (cFts b)] (.agg (cFts r)) := by
  obtain ⟨h1, rfl⟩ := oTwo h
  exact y7n (or_p a b (a.l.length + b.l.length + 11) h1 (by omega))
theorem andF_len (a b : Fts) : (andF a b).l.length ≤ a.l.length + b.l.length := by
  unfold andF; split
  · simp
  · have := canF_len (a.l ++ b.l)
    rw [List.length_append] at this
    exact Nat.le_trans (List.length_filter_le _ _) this
theorem orF_len (a b : Fts) : (orF a b).l.length ≤ max a.l.length b.l.length := by
  unfold orF; split
  · have := andF_len b ⟨false, []⟩; simp at this; omega
  · split
    · have := andF_len a ⟨false, []⟩; simp at this; omega
    · refine Nat.le_trans (List.length_filter_le _ _) ?_
      rw [List.length_map]
      have := List.length_filter_le (fun v => decide (v ∈ vsF b.l)) (vsF a.l)
      have := vsF_len a.l
      omega
end Go.Ev.Seat
namespace Go.Ev.Seat
set_option linter.unusedVariables false
set_option linter.unusedSimpArgs false
open Go Go.Ev
set_option maxRecDepth 20000
attribute [local irreducible] pcall callF
noncomputable def y1s (a1 : Prp) (b2 : Prp) (c3 : Prp) (x4 : Fts) (y5 : Fts) : Option Fts :=
  ((oAnd a1.thn x4).bind fun r9 => ((oAnd a1.els y5).bind fun r10 => ((oOr r9 r10).bind fun r11 => some r11)))
abbrev kg41 (a1 : Prp) : ABlock := .cells [.bool a1.thn.never, .lst (List.map encFct a1.thn.l) false, .bool a1.els.never, .lst (List.map encFct a1.els.l) false]
abbrev kg42 (b2 : Prp) : ABlock := .cells [.bool b2.thn.never, .lst (List.map encFct b2.thn.l) false, .bool b2.els.never, .lst (List.map encFct b2.els.l) false]
abbrev kg43 (c3 : Prp) : ABlock := .cells [.bool c3.thn.never, .lst (List.map encFct c3.thn.l) false, .bool c3.els.never, .lst (List.map encFct c3.els.l) false]
abbrev kg44 : ABlock := .cells [.bool false, .lst [] true, .bool false, .lst [] true]
theorem y3o {a1 : Prp} {b2 : Prp} {c3 : Prp} {x4 : Fts} {y5 : Fts} {r : Fts} (hr : y1s a1 b2 c3 x4 y5 = some r) : CA (tabOf tabL) false 66 [.agg (cFts x4), .agg (cFts y5), .ptr 0 0] [(kg41 a1), (kg42 b2), (kg43 c3), kg44] (.agg (cFts r)) [(kg41 a1), (kg42 b2), (kg43 c3), kg44] := by
  refine ca_fin t66 (Or.inr rfl) ?_
  unfold y1s at hr
  refine L_seq ?_
  refine L_stmt ?_
  refine L_reg ?_
  refine G_n (B := .cells [.bool x4.never, .lst (List.map encFct x4.l) false]) rfl rfl rfl ?_
  refine G_n (B := .cells [.bool y5.never, .lst (List.map encFct y5.l) false]) rfl rfl rfl ?_
  refine G_n (B := .cells [.bool false, .lst [] true]) rfl rfl rfl ?_
  refine G_nil ?_
  refine L_nil ?_
  refine Sm_norm (e2 := [(2, .ptr 0 0), (3, .ptr 4 0), (4, .ptr 5 0), (5, .ptr 6 0)]) (H1 := [(kg41 a1), (kg42 b2), (kg43 c3), kg44, .cells [.bool x4.never, .lst (List.map encFct x4.l) false], .cells [.bool y5.never, .lst (List.map encFct y5.l) false], .cells [.bool false, .lst [] true]]) (H2 := [(kg41 a1), (kg42 b2), (kg43 c3), kg44, .cells [.bool x4.never, .lst (List.map encFct x4.l) false], .cells [.bool y5.never, .lst (List.map encFct y5.l) false], .cells [.bool false, .lst [] true]]) rfl (by repeat (first | exact rzz | apply rcc rfl | apply rnn rfl)) rfl (?_ : GL _ _ _ _ _)
  refine L_seq ?_
  refine L_drawT [] rfl ?_
  refine GS_p rfl rfl rfl ?_
  refine GS_h (d := some 7) (v := .agg (cFts a1.thn)) rfl rfl rfl rfl (fun _ => rfl) ?_
  refine GS_h (d := some 8) (v := .agg (cFts x4)) rfl rfl rfl rfl (fun _ => rfl) ?_
  obtain ⟨r9, hr9, hr⟩ := bind_s hr
  refine GS_c 11 rfl rfl rfl (CA_of (as := [.agg (cFts a1.thn), .agg (cFts x4)]) rfl (oAnd_ok hr9)) ?_
  refine GS_p rfl rfl rfl ?_
  refine GS_h (d := some 11) (v := .agg (cFts a1.els)) rfl rfl rfl rfl (fun _ => rfl) ?_
  refine GS_h (d := some 12) (v := .agg (cFts y5)) rfl rfl rfl rfl (fun _ => rfl) ?_
  obtain ⟨r10, hr10, hr⟩ := bind_s hr
  refine GS_c 11 rfl rfl rfl (CA_of (as := [.agg (cFts a1.els), .agg (cFts y5)]) rfl (oAnd_ok hr10)) ?_
  obtain ⟨r11, hr11, hr⟩ := bind_s hr
  refine GS_c 13 rfl rfl rfl (CA_of (as := [.agg (cFts r9), .agg (cFts r10)]) rfl (oOr_ok hr11)) ?_
  refine GS_h (d := none) (H' := [(kg41 a1), (kg42 b2), (kg43 c3), kg44, .cells [.bool x4.never, .lst (List.map encFct x4.l) false], .cells [.bool y5.never, .lst (List.map encFct y5.l) false], .cells [.bool r11.never, .lst (List.map encFct r11.l) false]]) rfl rfl rfl rfl (fun _ => rfl) ?_
  refine GS_nil ?_
  refine L_ret ?_
  have hr := some_s hr
  subst hr
  exact ⟨_, rfl, rfl, rfl⟩
noncomputable def y3n (a1 : Prp) (b2 : Prp) (c3 : Prp) : Option Prp :=
  ((y1s a1 b2 c3 b2.thn c3.thn).bind fun r4 => ((y1s a1 b2 c3 b2.els c3.els).bind fun r5 => some (Prp.mk r4 r5)))
abbrev kg45 (a1 : Prp) : ABlock := .cells [.bool a1.thn.never, .lst (List.map encFct a1.thn.l) false, .bool a1.els.never, .lst (List.map encFct a1.els.l) false]
abbrev kg46 (b2 : Prp) : ABlock := .cells [.bool b2.thn.never, .lst (List.map encFct b2.thn.l) false, .bool b2.els.never, .lst (List.map encFct b2.els.l) false]
abbrev kg47 (c3 : Prp) : ABlock := .cells [.bool c3.thn.never, .lst (List.map encFct c3.thn.l) false, .bool c3.els.never, .lst (List.map encFct c3.els.l) false]
abbrev kg48 : ABlock := .cells [.bool false, .lst [] true, .bool false, .lst [] true]
theorem y7o {a1 : Prp} {b2 : Prp} {c3 : Prp} {r : Prp} (hr : y3n a1 b2 c3 = some r) : PRes (tabOf tabL) 33 [.agg (cPrp a1), .agg (cPrp b2), .agg (cPrp c3)] (.agg (cPrp r)) := by
  refine pres_fin t33 ?_
  unfold y3n at hr
  refine L_seq ?_
  refine L_stmt ?_
  refine L_reg ?_
  refine G_n (B := (kg45 a1)) rfl rfl rfl ?_
  refine G_n (B := (kg46 b2)) rfl rfl rfl ?_
  refine G_n (B := (kg47 c3)) rfl rfl rfl ?_
  refine G_n (B := kg48) rfl rfl rfl ?_
  refine G_nil ?_
  refine L_nil ?_
  refine Sm_norm (e2 := [(3, .ptr 0 0), (4, .ptr 1 0), (5, .ptr 2 0), (6, .ptr 3 0)]) (H1 := [(kg45 a1), (kg46 b2), (kg47 c3), kg48]) (H2 := [(kg45 a1), (kg46 b2), (kg47 c3), kg48]) rfl (by repeat (first | exact rzz | apply rcc rfl | apply rnn rfl)) rfl (?_ : GL _ _ _ _ _)
  refine L_seq ?_
  refine L_stmt ?_
  refine L_reg ?_
  refine G_p rfl rfl rfl ?_
  refine G_p rfl rfl rfl ?_
  refine G_nil ?_
  refine L_nil ?_
  refine Sm_norm (e2 := [(4, .ptr 1 0), (5, .ptr 2 0), (6, .ptr 3 0), (7, .fn 66 [.ptr 0 0])]) (H1 := [(kg45 a1), (kg46 b2), (kg47 c3), kg48]) (H2 := [(kg45 a1), (kg46 b2), (kg47 c3), kg48]) rfl (by repeat (first | exact rzz | apply rcc rfl | apply rnn rfl)) rfl (?_ : GL _ _ _ _ _)
  refine L_seq ?_
  refine L_draw0 ?_
  refine GD_p rfl rfl rfl ?_
  refine GD_p rfl rfl rfl ?_
  refine GD_h (d := some 11) (v := .agg (cFts b2.thn)) rfl rfl rfl rfl (fun _ => rfl) ?_
  refine GD_p rfl rfl rfl ?_
  refine GD_h (d := some 13) (v := .agg (cFts c3.thn)) rfl rfl rfl rfl (fun _ => rfl) ?_
  obtain ⟨r4, hr4, hr⟩ := bind_s hr
  refine GD_cvr rfl rfl rfl (Or.inr rfl) (y3o hr4) ?_
  refine GD_p rfl rfl rfl ?_
  refine GD_p rfl rfl rfl ?_
  refine GD_h (d := some 17) (v := .agg (cFts b2.els)) rfl rfl rfl rfl (fun _ => rfl) ?_
  refine GD_p rfl rfl rfl ?_
  refine GD_h (d := some 19) (v := .agg (cFts c3.els)) rfl rfl rfl rfl (fun _ => rfl) ?_
  obtain ⟨r5, hr5, hr⟩ := bind_s hr
  refine GD_cvr rfl rfl rfl (Or.inr rfl) (y3o hr5) ?_
  refine GD_p (v := .agg [.bool r4.never, .lst (List.map encFct r4.l) false, .bool r5.never, .lst (List.map encFct r5.l) false]) rfl rfl rfl ?_
  refine GD_h (d := none) (H' := [(kg45 a1), (kg46 b2), (kg47 c3), .cells [.bool r4.never, .lst (List.map encFct r4.l) false, .bool r5.never, .lst (List.map encFct r5.l) false]]) rfl rfl rfl rfl (fun _ => rfl) ?_
  refine GD_nil2 (by first | (simp [okFs2, y1x, disj, noneIn, notIn, y2r, sameOn, partsGls, y2k, AOpd.ev, Env.get, Env.put, glsV, glsL]; done) | rfl) ?_
  refine L_ret ?_
  have hr := some_s hr
  subst hr
  exact ⟨_, rfl, _, rfl, rfl⟩
noncomputable def y3i (rec : Tst → Option Prp) (t1 : Tst) : Option Prp :=
  (cond (decide (t1.op = 0)) ((y3r t1.var t1.tags).bind fun r16 => some r16) (cond (decide (t1.op = 1)) ((y2t t1.var).bind fun r17 => some r17) (cond (decide (t1.op = 2)) ((y2z t1.yes).bind fun r18 => some r18) (cond (decide (t1.op = 3)) (cond (decide (0 < ((List.length t1.of : Nat) : Int))) ((idx t1.of 0).bind fun e19 => ((rec e19).bind fun r20 => ((y3d r20).bind fun r21 => some r21))) ((y1f).bind fun r22 => some r22)) (cond (decide (t1.op = 4)) (cond (decide (2 < ((List.length t1.of : Nat) : Int))) ((idx t1.of 0).bind fun e23 => ((rec e23).bind fun r24 => ((idx t1.of 1).bind fun e25 => ((rec e25).bind fun r26 => ((idx t1.of 2).bind fun e27 => ((rec e27).bind fun r28 => ((y3n r24 r26 r28).bind fun r29 => some r29))))))) ((y1f).bind fun r30 => some r30)) ((y1f).bind fun r31 => some r31))))))
abbrev kg49 (t1 : Tst) : ABlock := .cells [.int .i64 t1.op, .int .i64 t1.var, .int .i64 t1.tags, .bool t1.yes, .lst (List.map encTst t1.of) false]
abbrev kg410 : ABlock := .cells [.bool false, .lst [] true, .bool false, .lst [] true]
theorem y75 {rec : Tst → Option Prp} {t1 : Tst} {r : Prp} (hrec : ∀ (a0 : Tst) (r : Prp), rec a0 = some r → PRes (tabOf tabL) 26 [.agg (cTst a0)] (.agg (cPrp r))) (hr : y3i rec t1 = some r) : PRes (tabOf tabL) 26 [.agg (cTst t1)] (.agg (cPrp r)) := by
  refine pres_fin t26 ?_
  unfold y3i at hr
  refine L_seq ?_
  refine L_stmt ?_
  refine L_reg ?_
  refine G_n (B := (kg49 t1)) rfl rfl rfl ?_
  refine G_n (B := kg410) rfl rfl rfl ?_
  refine G_nil ?_
  refine L_nil ?_
  refine Sm_norm (e2 := [(1, .ptr 0 0), (2, .ptr 1 0)]) (H1 := [(kg49 t1), kg410]) (H2 := [(kg49 t1), kg410]) rfl (by repeat (first | exact rzz | apply rcc rfl | apply rnn rfl)) rfl (?_ : GL _ _ _ _ _)
  refine L_seq ?_
  refine L_stmt ?_
  refine L_seq ?_
  refine L_stmt ?_
  refine L_reg ?_
  refine G_p rfl rfl rfl ?_
  refine G_h rfl rfl rfl (fun _ => rfl) ?_
  refine G_nil ?_
  refine L_nil ?_
  refine Sm_norm (e2 := [(1, .ptr 0 0), (2, .ptr 1 0), (4, .int .i64 t1.op)]) (H1 := [(kg49 t1), kg410]) (H2 := [(kg49 t1), kg410]) rfl (by repeat (first | exact rzz | apply rcc rfl | apply rnn rfl)) rfl (?_ : GL _ _ _ _ _)
  refine L_block ?_
  refine L_seq ?_
  refine L_stmt ?_
  refine L_reg ?_
  refine G_p rfl rfl rfl ?_
  refine G_p rfl rfl rfl ?_
  refine G_nil ?_
  refine L_nil ?_
  refine Sm_norm (e2 := [(1, .ptr 0 0), (2, .ptr 1 0), (4, .int .i64 t1.op), (5, .bool (decide (t1.op = 0)))]) (H1 := [(kg49 t1), kg410]) (H2 := [(kg49 t1), kg410]) rfl (by repeat (first | exact rzz | apply rcc rfl | apply rnn rfl)) rfl (?_ : GL _ _ _ _ _)
  rcases cond_s hr with ⟨hc5, hr⟩ | ⟨hc5, hr⟩
  · refine L_T rfl hc5 ?_
    refine L_seq ?_
    refine L_reg ?_
    refine G_p rfl rfl rfl ?_
    refine G_h rfl rfl rfl (fun _ => rfl) ?_
    refine G_p rfl rfl rfl ?_
    refine G_h rfl rfl rfl (fun _ => rfl) ?_
    obtain ⟨r16, hr16, hr⟩ := bind_s hr
    refine G_c 34 rfl rfl (CA_of (as := [.int .i64 t1.var, .int .i64 t1.tags]) rfl (y7m hr16)) ?_
    refine G_hn (H' := [(kg49 t1), .cells [.bool r16.thn.never, .lst (List.map encFct r16.thn.l) false, .bool r16.els.never, .lst (List.map encFct r16.els.l) false]]) rfl rfl rfl (fun _ => rfl) ?_
    refine G_nil ?_
    refine L_ret ?_
    refine Blk_ret ?_
    refine Sm_ret ?_
    have hr := some_s hr
    subst hr
    exact ⟨_, rfl, _, rfl, rfl⟩
  · refine L_F rfl hc5 ?_
    refine L_seq ?_
    refine L_stmt ?_
    refine L_reg ?_
    refine G_p rfl rfl rfl ?_
    refine G_p rfl rfl rfl ?_
    refine G_nil ?_
    refine L_nil ?_
    refine Sm_norm (e2 := [(1, .ptr 0 0), (2, .ptr 1 0), (4, .int .i64 t1.op), (12, .bool (decide (t1.op = 1)))]) (H1 := [(kg49 t1), kg410]) (H2 := [(kg49 t1), kg410]) rfl (by repeat (first | exact rzz | apply rcc rfl | apply rnn rfl)) rfl (?_ : GL _ _ _ _ _)
    rcases cond_s hr with ⟨hc12, hr⟩ | ⟨hc12, hr⟩
    · refine L_T rfl hc12 ?_
      refine L_seq ?_
      refine L_reg ?_
      refine G_p rfl rfl rfl ?_
      refine G_h rfl rfl rfl (fun _ => rfl) ?_
      obtain ⟨r17, hr17, hr⟩ := bind_s hr
      refine G_c 51 rfl rfl (CA_of (as := [.int .i64 t1.var]) rfl (y63 hr17)) ?_
      refine G_hn (H' := [(kg49 t1), .cells [.bool r17.thn.never, .lst (List.map encFct r17.thn.l) false, .bool r17.els.never, .lst (List.map encFct r17.els.l) false]]) rfl rfl rfl (fun _ => rfl) ?_
      refine G_nil ?_
      refine L_ret ?_
      refine Blk_ret ?_
      refine Sm_ret ?_
      have hr := some_s hr
      subst hr
      exact ⟨_, rfl, _, rfl, rfl⟩
    · refine L_F rfl hc12 ?_
      refine L_seq ?_
      refine L_stmt ?_
      refine L_reg ?_
      refine G_p rfl rfl rfl ?_
      refine G_p rfl rfl rfl ?_
      refine G_nil ?_
      refine L_nil ?_
      refine Sm_norm (e2 := [(1, .ptr 0 0), (2, .ptr 1 0), (4, .int .i64 t1.op), (17, .bool (decide (t1.op = 2)))]) (H1 := [(kg49 t1), kg410]) (H2 := [(kg49 t1), kg410]) rfl (by repeat (first | exact rzz | apply rcc rfl | apply rnn rfl)) rfl (?_ : GL _ _ _ _ _)
      rcases cond_s hr with ⟨hc17, hr⟩ | ⟨hc17, hr⟩
      · refine L_T rfl hc17 ?_
        refine L_seq ?_
        refine L_reg ?_
        refine G_p rfl rfl rfl ?_
        refine G_h rfl rfl rfl (fun _ => rfl) ?_
        obtain ⟨r18, hr18, hr⟩ := bind_s hr
        refine G_c 35 rfl rfl (CA_of (as := [.bool t1.yes]) rfl (y65 hr18)) ?_
        refine G_hn (H' := [(kg49 t1), .cells [.bool r18.thn.never, .lst (List.map encFct r18.thn.l) false, .bool r18.els.never, .lst (List.map encFct r18.els.l) false]]) rfl rfl rfl (fun _ => rfl) ?_
        refine G_nil ?_
        refine L_ret ?_
        refine Blk_ret ?_
        refine Sm_ret ?_
        have hr := some_s hr
        subst hr
        exact ⟨_, rfl, _, rfl, rfl⟩
      · refine L_F rfl hc17 ?_
        refine L_seq ?_
        refine L_stmt ?_
        refine L_reg ?_
        refine G_p rfl rfl rfl ?_
        refine G_p rfl rfl rfl ?_
        refine G_nil ?_
        refine L_nil ?_
        refine Sm_norm (e2 := [(1, .ptr 0 0), (2, .ptr 1 0), (4, .int .i64 t1.op), (22, .bool (decide (t1.op = 3)))]) (H1 := [(kg49 t1), kg410]) (H2 := [(kg49 t1), kg410]) rfl (by repeat (first | exact rzz | apply rcc rfl | apply rnn rfl)) rfl (?_ : GL _ _ _ _ _)
        rcases cond_s hr with ⟨hc22, hr⟩ | ⟨hc22, hr⟩
        · refine L_T rfl hc22 ?_
          refine L_seq ?_
          refine L_stmt ?_
          refine L_reg ?_
          refine G_p rfl rfl rfl ?_
          refine G_h (v := .lst (List.map encTst t1.of) false) rfl rfl rfl (fun _ => rfl) ?_
          refine G_h rfl rfl rfl (lenL_ev rfl (List.length_map _)) ?_
          refine G_p rfl rfl rfl ?_
          refine G_nil ?_
          refine L_nil ?_
          refine Sm_norm (e2 := [(1, .ptr 0 0), (2, .ptr 1 0), (27, .bool (decide (0 < ((List.length t1.of : Nat) : Int))))]) (H1 := [(kg49 t1), kg410]) (H2 := [(kg49 t1), kg410]) rfl (by repeat (first | exact rzz | apply rcc rfl | apply rnn rfl)) rfl (?_ : GL _ _ _ _ _)
          rcases cond_s hr with ⟨hc27, hr⟩ | ⟨hc27, hr⟩
          · refine L_T rfl hc27 ?_
            refine L_seq ?_
            refine L_reg ?_
            refine G_p rfl rfl rfl ?_
            refine G_h (v := .lst (List.map encTst t1.of) false) rfl rfl rfl (fun _ => rfl) ?_
            obtain ⟨e19, he19, hr⟩ := bind_s hr
            refine G_h (v := .ro [.int .i64 e19.op, .int .i64 e19.var, .int .i64 e19.tags, .bool e19.yes, .lst (List.map encTst e19.of) false]) rfl rfl rfl (ia_ev (cells := [.int .i64 e19.op, .int .i64 e19.var, .int .i64 e19.tags, .bool e19.yes, .lst (List.map encTst e19.of) false]) rfl rfl (idx_s he19).1 (map_get (x := e19) (idx_s he19).2) (y1m _) rfl) ?_
            refine G_h (v := .agg (cTst e19)) rfl rfl rfl (fun _ => rfl) ?_
            obtain ⟨r20, hr20, hr⟩ := bind_s hr
            refine G_c 26 rfl rfl (CA_of (as := [.agg (cTst e19)]) rfl (hrec _ _ hr20)) ?_
            obtain ⟨r21, hr21, hr⟩ := bind_s hr
            refine G_c 52 rfl rfl (CA_of (as := [.agg (cPrp r20)]) rfl (y7i hr21)) ?_
            refine G_hn (H' := [(kg49 t1), .cells [.bool r21.thn.never, .lst (List.map encFct r21.thn.l) false, .bool r21.els.never, .lst (List.map encFct r21.els.l) false]]) rfl rfl rfl (fun _ => rfl) ?_
            refine G_nil ?_
            refine L_ret ?_
            refine Blk_ret ?_
            refine Sm_ret ?_
            have hr := some_s hr
            subst hr
            exact ⟨_, rfl, _, rfl, rfl⟩
          · refine L_F rfl hc27 ?_
            refine L_skip ?_
            refine L_nil ?_
            refine Blk_norm (?_ : GL _ _ _ _ _)
            refine L_nil ?_
            refine Sm_norm (e2 := [(2, .ptr 1 0)]) (H1 := [(kg49 t1), kg410]) (H2 := [(kg49 t1), kg410]) rfl (by repeat (first | exact rzz | apply rcc rfl | apply rnn rfl)) rfl (?_ : GL _ _ _ _ _)
            refine L_seq ?_
            refine L_reg ?_
            obtain ⟨r22, hr22, hr⟩ := bind_s hr
            refine G_c 53 rfl rfl (CA_of (as := []) rfl (y3x hr22)) ?_
            refine G_hn (H' := [(kg49 t1), .cells [.bool r22.thn.never, .lst (List.map encFct r22.thn.l) false, .bool r22.els.never, .lst (List.map encFct r22.els.l) false]]) rfl rfl rfl (fun _ => rfl) ?_
            refine G_nil ?_
            refine L_ret ?_
            have hr := some_s hr
            subst hr
            exact ⟨_, rfl, _, rfl, rfl⟩
        · refine L_F rfl hc22 ?_
          refine L_seq ?_
          refine L_stmt ?_
          refine L_reg ?_
          refine G_p rfl rfl rfl ?_
          refine G_p rfl rfl rfl ?_
          refine G_nil ?_
          refine L_nil ?_
          refine Sm_norm (e2 := [(1, .ptr 0 0), (2, .ptr 1 0), (34, .bool (decide (t1.op = 4)))]) (H1 := [(kg49 t1), kg410]) (H2 := [(kg49 t1), kg410]) rfl (by repeat (first | exact rzz | apply rcc rfl | apply rnn rfl)) rfl (?_ : GL _ _ _ _ _)
          rcases cond_s hr with ⟨hc34, hr⟩ | ⟨hc34, hr⟩
          · refine L_T rfl hc34 ?_
            refine L_seq ?_
            refine L_stmt ?_
            refine L_reg ?_
            refine G_p rfl rfl rfl ?_
            refine G_h (v := .lst (List.map encTst t1.of) false) rfl rfl rfl (fun _ => rfl) ?_
            refine G_h rfl rfl rfl (lenL_ev rfl (List.length_map _)) ?_
            refine G_p rfl rfl rfl ?_
            refine G_nil ?_
            refine L_nil ?_
            refine Sm_norm (e2 := [(1, .ptr 0 0), (2, .ptr 1 0), (39, .bool (decide (2 < ((List.length t1.of : Nat) : Int))))]) (H1 := [(kg49 t1), kg410]) (H2 := [(kg49 t1), kg410]) rfl (by repeat (first | exact rzz | apply rcc rfl | apply rnn rfl)) rfl (?_ : GL _ _ _ _ _)
            rcases cond_s hr with ⟨hc39, hr⟩ | ⟨hc39, hr⟩
            · refine L_T rfl hc39 ?_
              refine L_seq ?_
              refine L_drawT [] rfl ?_
              refine GS_p rfl rfl rfl ?_
              refine GS_h (d := some 41) (v := .lst (List.map encTst t1.of) false) rfl rfl rfl rfl (fun _ => rfl) ?_
              obtain ⟨e23, he23, hr⟩ := bind_s hr
              refine GS_h (d := some 42) (v := .ro [.int .i64 e23.op, .int .i64 e23.var, .int .i64 e23.tags, .bool e23.yes, .lst (List.map encTst e23.of) false]) rfl rfl rfl rfl (ia_ev (cells := [.int .i64 e23.op, .int .i64 e23.var, .int .i64 e23.tags, .bool e23.yes, .lst (List.map encTst e23.of) false]) rfl rfl (idx_s he23).1 (map_get (x := e23) (idx_s he23).2) (y1m _) rfl) ?_
              refine GS_h (d := some 43) (v := .agg (cTst e23)) rfl rfl rfl rfl (fun _ => rfl) ?_
              obtain ⟨r24, hr24, hr⟩ := bind_s hr
              refine GS_c 26 rfl rfl rfl (CA_of (as := [.agg (cTst e23)]) rfl (hrec _ _ hr24)) ?_
              refine GS_p rfl rfl rfl ?_
              refine GS_h (d := some 46) (v := .lst (List.map encTst t1.of) false) rfl rfl rfl rfl (fun _ => rfl) ?_
              obtain ⟨e25, he25, hr⟩ := bind_s hr
              refine GS_h (d := some 47) (v := .ro [.int .i64 e25.op, .int .i64 e25.var, .int .i64 e25.tags, .bool e25.yes, .lst (List.map encTst e25.of) false]) rfl rfl rfl rfl (ia_ev (cells := [.int .i64 e25.op, .int .i64 e25.var, .int .i64 e25.tags, .bool e25.yes, .lst (List.map encTst e25.of) false]) rfl rfl (idx_s he25).1 (map_get (x := e25) (idx_s he25).2) (y1m _) rfl) ?_
              refine GS_h (d := some 48) (v := .agg (cTst e25)) rfl rfl rfl rfl (fun _ => rfl) ?_
              obtain ⟨r26, hr26, hr⟩ := bind_s hr
              refine GS_c 26 rfl rfl rfl (CA_of (as := [.agg (cTst e25)]) rfl (hrec _ _ hr26)) ?_
              refine GS_p rfl rfl rfl ?_
              refine GS_h (d := some 51) (v := .lst (List.map encTst t1.of) false) rfl rfl rfl rfl (fun _ => rfl) ?_
              obtain ⟨e27, he27, hr⟩ := bind_s hr
              refine GS_h (d := some 52) (v := .ro [.int .i64 e27.op, .int .i64 e27.var, .int .i64 e27.tags, .bool e27.yes, .lst (List.map encTst e27.of) false]) rfl rfl rfl rfl (ia_ev (cells := [.int .i64 e27.op, .int .i64 e27.var, .int .i64 e27.tags, .bool e27.yes, .lst (List.map encTst e27.of) false]) rfl rfl (idx_s he27).1 (map_get (x := e27) (idx_s he27).2) (y1m _) rfl) ?_
              refine GS_h (d := some 53) (v := .agg (cTst e27)) rfl rfl rfl rfl (fun _ => rfl) ?_
              obtain ⟨r28, hr28, hr⟩ := bind_s hr
              refine GS_c 26 rfl rfl rfl (CA_of (as := [.agg (cTst e27)]) rfl (hrec _ _ hr28)) ?_
              obtain ⟨r29, hr29, hr⟩ := bind_s hr
              refine GS_c 33 rfl rfl rfl (CA_of (as := [.agg (cPrp r24), .agg (cPrp r26), .agg (cPrp r28)]) rfl (y7o hr29)) ?_
              refine GS_h (d := none) (H' := [(kg49 t1), .cells [.bool r29.thn.never, .lst (List.map encFct r29.thn.l) false, .bool r29.els.never, .lst (List.map encFct r29.els.l) false]]) rfl rfl rfl rfl (fun _ => rfl) ?_
              refine GS_nil ?_
              refine L_ret ?_
              refine Blk_ret ?_
              refine Sm_ret ?_
              have hr := some_s hr
              subst hr
              exact ⟨_, rfl, _, rfl, rfl⟩
            · refine L_F rfl hc39 ?_
              refine L_skip ?_
              refine L_nil ?_
              refine Blk_norm (?_ : GL _ _ _ _ _)
              refine L_nil ?_
              refine Sm_norm (e2 := [(2, .ptr 1 0)]) (H1 := [(kg49 t1), kg410]) (H2 := [(kg49 t1), kg410]) rfl (by repeat (first | exact rzz | apply rcc rfl | apply rnn rfl)) rfl (?_ : GL _ _ _ _ _)
              refine L_seq ?_
              refine L_reg ?_
              obtain ⟨r30, hr30, hr⟩ := bind_s hr
              refine G_c 53 rfl rfl (CA_of (as := []) rfl (y3x hr30)) ?_
              refine G_hn (H' := [(kg49 t1), .cells [.bool r30.thn.never, .lst (List.map encFct r30.thn.l) false, .bool r30.els.never, .lst (List.map encFct r30.els.l) false]]) rfl rfl rfl (fun _ => rfl) ?_
              refine G_nil ?_
              refine L_ret ?_
              have hr := some_s hr
              subst hr
              exact ⟨_, rfl, _, rfl, rfl⟩
          · refine L_F rfl hc34 ?_
            refine L_skip ?_
            refine L_nil ?_
            refine Blk_norm (?_ : GL _ _ _ _ _)
            refine L_nil ?_
            refine Sm_norm (e2 := [(2, .ptr 1 0)]) (H1 := [(kg49 t1), kg410]) (H2 := [(kg49 t1), kg410]) rfl (by repeat (first | exact rzz | apply rcc rfl | apply rnn rfl)) rfl (?_ : GL _ _ _ _ _)
            refine L_seq ?_
            refine L_reg ?_
            obtain ⟨r31, hr31, hr⟩ := bind_s hr
            refine G_c 53 rfl rfl (CA_of (as := []) rfl (y3x hr31)) ?_
            refine G_hn (H' := [(kg49 t1), .cells [.bool r31.thn.never, .lst (List.map encFct r31.thn.l) false, .bool r31.els.never, .lst (List.map encFct r31.els.l) false]]) rfl rfl rfl (fun _ => rfl) ?_
            refine G_nil ?_
            refine L_ret ?_
            have hr := some_s hr
            subst hr
            exact ⟨_, rfl, _, rfl, rfl⟩
noncomputable def y34 : Nat → Tst → Option Prp
  | 0, _ => none
  | n + 1, t1 => y3i (y34 n) t1
theorem y5l : ∀ (n : Nat) {t1 : Tst} {r : Prp} (hr : y34 n t1 = some r), PRes (tabOf tabL) 26 [.agg (cTst t1)] (.agg (cPrp r))
  | 0, _, _, hr => by cases hr
  | n + 1, _, _, hr => y75 (fun _ _ h => y5l n h) hr
noncomputable def y1p (r3 : Bool) (b75 : Bool) : Option Bool :=
  some (r3 && (!b75))
noncomputable def y12 (l2 : List TVl) (r3 : Bool) (b75 : Bool) : List Fct → Nat → Option Bool
  | [], _ => y1p r3 b75
  | y124 :: rest126, i125 => ((cond ((decide (y124.var < 0)) || (decide (((List.length l2 : Nat) : Int) ≤ y124.var))) (some true) (((idx l2 y124.var).bind fun e129 => some (decide ((andB .i64 e129.tag y124.tags) = 0))))).bind fun v130 => (cond v130 (some false) ((y12 l2 r3 b75 rest126 (i125 + 1)))))
noncomputable def y1d (l2 : List TVl) (r3 : Bool) (b75 : Bool) (l76 : List Fct) : Option Bool :=
  (cond (okLen l76) (y12 l2 r3 b75 l76 0) none)
noncomputable def y1n (n : Nat) (t1 : Tst) (l2 : List TVl) (r3 : Bool) : Option Bool :=
  ((y1e n t1 ((List.length l2 : Nat) : Int)).bind fun r72 => (cond (!r72) (some r3) ((y34 n t1).bind fun r73 => ((g_w06_yes n t1 l2).bind fun r131 => (cond r131 (y1d l2 r3 r73.thn.never r73.thn.l) (y1d l2 r3 r73.els.never r73.els.l))))))
noncomputable def y11 (n : Nat) (t1 : Tst) (l2 : List TVl) (r3 : Bool) : List TVl → Nat → Option Bool
  | [], _ => y1n n t1 l2 r3
  | y196 :: rest198, i197 => (cond ((((((((!decide (y196.tag = 1)) && (!decide (y196.tag = 2))) && (!decide (y196.tag = 4))) && (!decide (y196.tag = 8))) && (!decide (y196.tag = 16))) && (!decide (y196.tag = 32))) && (!decide (y196.tag = 64))) && (!decide (y196.tag = 128))) (some r3) ((y11 n t1 l2 r3 rest198 (i197 + 1))))
noncomputable def y2s (n : Nat) (t1 : Tst) (l2 : List TVl) : Option Bool :=
  ((oAwake).bind fun r3 => ((y25 n t1 6).bind fun r4 => (cond ((!r4) || (decide (8 < ((List.length l2 : Nat) : Int)))) (some r3) (cond (okLen l2) (y11 n t1 l2 r3 l2 0) none))))
abbrev kg414 (t1 : Tst) : ABlock := .cells [.int .i64 t1.op, .int .i64 t1.var, .int .i64 t1.tags, .bool t1.yes, .lst (List.map encTst t1.of) false]
theorem y5b {n : Nat} {t1 : Tst} {l2 : List TVl} {r : Bool} (hr : y2s n t1 l2 = some r) : PRes (tabOf tabL) 6 [.agg (cTst t1), .lst (List.map encTVl l2) false] (.bool r) := by
  refine pres_fin t6 ?_
  unfold y2s at hr
  refine L_seq ?_
  refine L_stmt ?_
  refine L_reg ?_
  refine G_n (B := (kg414 t1)) rfl rfl rfl ?_
  refine G_p rfl rfl rfl ?_
  refine G_nil ?_
  refine L_nil ?_
  refine Sm_norm (e2 := [(1, .lst (List.map encTVl l2) false), (2, .ptr 0 0)]) (H1 := [(kg414 t1)]) (H2 := [(kg414 t1)]) rfl (by repeat (first | exact rzz | apply rcc rfl | apply rnn rfl)) rfl (?_ : GL _ _ _ _ _)
  refine L_seq ?_
  refine L_stmt ?_
  refine L_reg ?_
  obtain ⟨r3, hr3, hr⟩ := bind_s hr
  refine G_c 8 rfl rfl (CA_of (as := []) rfl (oAwake_ok hr3)) ?_
  refine G_p rfl rfl rfl ?_
  refine G_nil ?_
  refine L_nil ?_
  refine Sm_norm (e2 := [(1, .lst (List.map encTVl l2) false), (2, .ptr 0 0), (5, .bool r3)]) (H1 := [(kg414 t1)]) (H2 := [(kg414 t1)]) rfl (by repeat (first | exact rzz | apply rcc rfl | apply rnn rfl)) rfl (?_ : GL _ _ _ _ _)
  refine L_seq ?_
  refine L_stmt ?_
  refine L_reg ?_
  refine G_h (v := .agg (cTst t1)) rfl rfl rfl (fun _ => rfl) ?_
  obtain ⟨r4, hr4, hr⟩ := bind_s hr
  refine G_c 24 rfl rfl (CA_of (as := [.agg (cTst t1), .int .i64 6]) rfl (y57 n hr4)) ?_
  refine G_p rfl rfl rfl ?_
  refine G_nil ?_
  refine L_nil ?_
  refine Sm_norm (e2 := [(1, .lst (List.map encTVl l2) false), (2, .ptr 0 0), (5, .bool r3), (6, .bool r4)]) (H1 := [(kg414 t1)]) (H2 := [(kg414 t1)]) rfl (by repeat (first | exact rzz | apply rcc rfl | apply rnn rfl)) rfl (?_ : GL _ _ _ _ _)
  refine L_seq ?_
  refine L_stmt ?_
  refine L_seq ?_
  refine L_stmt ?_
  refine L_reg ?_
  refine G_p rfl rfl rfl ?_
  refine G_p rfl rfl rfl ?_
  refine G_p rfl rfl rfl ?_
  refine G_or (f := (decide (8 < ((List.length l2 : Nat) : Int)))) [_, _, _] rfl rfl ?_ ?_
  · intro hb18
    refine G_p (v := .lst (List.map encTVl l2) false) rfl rfl rfl ?_
    refine G_h rfl rfl rfl (lenL_ev rfl (List.length_map _)) ?_
    refine G_p rfl rfl rfl ?_
    exact G_nil (L_nil ⟨rfl, rfl, rfl⟩)
  · intro vs hvs
    obtain ⟨u19, u20, u21, rfl⟩ := len3 hvs
    dsimp only [junk]
    refine G_nil ?_
    refine L_nil ?_
    refine Sm_norm (e2 := [(1, .lst (List.map encTVl l2) false), (2, .ptr 0 0), (5, .bool r3), (22, .bool ((!r4) || (decide (8 < ((List.length l2 : Nat) : Int)))))]) (H1 := [(kg414 t1)]) (H2 := [(kg414 t1)]) rfl (by repeat (first | exact rzz | apply rcc rfl | apply rnn rfl)) rfl (?_ : GL _ _ _ _ _)
    rcases cond_s hr with ⟨hc22, hr⟩ | ⟨hc22, hr⟩
    · refine L_T rfl hc22 ?_
      refine L_seq ?_
      refine L_reg ?_
      refine G_p rfl rfl rfl ?_
      refine G_p rfl rfl rfl ?_
      refine G_nil ?_
      refine L_ret ?_
      refine Sm_ret ?_
      have hr := some_s hr
      subst hr
      exact ⟨_, rfl, _, rfl, rfl⟩
    · refine L_F rfl hc22 ?_
      refine L_skip ?_
      refine L_nil ?_
      refine Sm_norm (e2 := [(1, .lst (List.map encTVl l2) false), (2, .ptr 0 0), (5, .bool r3)]) (H1 := [(kg414 t1)]) (H2 := [(kg414 t1)]) rfl (by repeat (first | exact rzz | apply rcc rfl | apply rnn rfl)) rfl (?_ : GL _ _ _ _ _)
      refine L_seq ?_
      refine L_stmtJ (S := Unit) (fun s => [(1, .lst (List.map encTVl l2) false), (2, .ptr 0 0), (5, .bool r3)]) (fun s => [(kg414 t1)]) (fun s => y1n n t1 l2 r3 = some r) ?_ ?_
      · skip
        refine L_seq ?_
        refine L_stmt ?_
        refine L_reg ?_
        refine G_p rfl rfl rfl ?_
        refine G_nil ?_
        refine L_nil ?_
        refine Sm_norm (e2 := [(1, .lst (List.map encTVl l2) false), (2, .ptr 0 0), (5, .bool r3), (7, .int .i64 0)]) (H1 := [(kg414 t1)]) (H2 := [(kg414 t1)]) rfl (by repeat (first | exact rzz | apply rcc rfl | apply rnn rfl)) rfl (?_ : GL _ _ _ _ _)
        refine L_block ?_
        obtain ⟨hLq195, hr⟩ := guard_s hr
        replace hLq195 := okLen_s hLq195
        refine L_range (X := TVl) (S := Unit) l2 (fun i197 s => [(7, .int .i64 ((i197 : Nat) : Int)), (1, .lst (List.map encTVl l2) false), (2, .ptr 0 0), (5, .bool r3)]) (fun i197 s => [(kg414 t1)]) (fun rest i197 s => y11 n t1 l2 r3 rest i197 = some r) (()) ?_ rfl hr ?_ ?_
        · show restr _ _ = [(7, .int .i64 ((0 : Nat) : Int)), (1, .lst (List.map encTVl l2) false), (2, .ptr 0 0), (5, .bool r3)]
          (repeat (first | exact rzz | apply rcc rfl | apply rnn rfl))
        · rintro ⟨⟩ hr
          show GL _ _ [(7, .int .i64 (((List.length l2) : Nat) : Int)), (1, .lst (List.map encTVl l2) false), (2, .ptr 0 0), (5, .bool r3)] [(kg414 t1)] _
          replace hr : y11 n t1 l2 r3 [] (List.length l2) = some r := hr
          rw [y11] at hr
          refine L_seq ?_
          refine L_stmt ?_
          refine L_seq ?_
          refine L_stmt ?_
          refine L_reg ?_
          refine G_p rfl rfl rfl ?_
          refine G_p (v := .lst (List.map encTVl l2) false) rfl rfl rfl ?_
          refine G_h rfl rfl rfl (lenL_ev rfl (List.length_map _)) ?_
          refine G_v (.bool false) rfl rfl rfl (congrArg AVal.bool (decide_eq_false (by omega))) ?_
          refine G_nil ?_
          refine L_nil ?_
          refine Sm_norm (e2 := [(1, .lst (List.map encTVl l2) false), (2, .ptr 0 0), (5, .bool r3), (7, .int .i64 ((List.length l2 : Nat) : Int)), (27, .bool false)]) (H1 := [(kg414 t1)]) (H2 := [(kg414 t1)]) rfl (by repeat (first | exact rzz | apply rcc rfl | apply rnn rfl)) rfl (?_ : GL _ _ _ _ _)
          refine L_F rfl rfl ?_
          refine L_exit ?_
          refine Sm_exit ?_
          refine Rd_exit ?_
          refine Blk_exit (?_ : GL _ _ _ _ _)
          refine L_nil ?_
          exact Sm_norm (e2 := [(1, .lst (List.map encTVl l2) false), (2, .ptr 0 0), (5, .bool r3)]) (H1 := [(kg414 t1)]) (H2 := [(kg414 t1)]) rfl (by repeat (first | exact rzz | apply rcc rfl | apply rnn rfl)) rfl ⟨(), rfl, rfl, hr⟩
        · rintro y196 rest198 i197 ⟨⟩ hy196 hlti197 hr
          show GL _ _ [(7, .int .i64 ((i197 : Nat) : Int)), (1, .lst (List.map encTVl l2) false), (2, .ptr 0 0), (5, .bool r3)] [(kg414 t1)] _
          replace hr : y11 n t1 l2 r3 (y196 :: rest198) i197 = some r := hr
          rw [y11] at hr
          refine L_seq ?_
          refine L_stmt ?_
          refine L_seq ?_
          refine L_stmt ?_
          refine L_reg ?_
          refine G_p rfl rfl rfl ?_
          refine G_p (v := .lst (List.map encTVl l2) false) rfl rfl rfl ?_
          refine G_h rfl rfl rfl (lenL_ev rfl (List.length_map _)) ?_
          refine G_v (.bool true) rfl rfl rfl (congrArg AVal.bool (decide_eq_true (by omega))) ?_
          refine G_nil ?_
          refine L_nil ?_
          refine Sm_norm (e2 := [(1, .lst (List.map encTVl l2) false), (2, .ptr 0 0), (5, .bool r3), (7, .int .i64 ((i197 : Nat) : Int)), (27, .bool true)]) (H1 := [(kg414 t1)]) (H2 := [(kg414 t1)]) rfl (by repeat (first | exact rzz | apply rcc rfl | apply rnn rfl)) rfl (?_ : GL _ _ _ _ _)
          refine L_T rfl rfl ?_
          refine L_skip ?_
          refine L_nil ?_
          refine Sm_norm (e2 := [(1, .lst (List.map encTVl l2) false), (2, .ptr 0 0), (5, .bool r3), (7, .int .i64 ((i197 : Nat) : Int))]) (H1 := [(kg414 t1)]) (H2 := [(kg414 t1)]) rfl (by repeat (first | exact rzz | apply rcc rfl | apply rnn rfl)) rfl (?_ : GL _ _ _ _ _)
          refine L_seq ?_
          refine L_stmt ?_
          refine L_block ?_
          refine L_seq ?_
          refine L_stmt ?_
          refine L_reg ?_
          refine G_p (v := .lst (List.map encTVl l2) false) rfl rfl rfl ?_
          refine G_p rfl rfl rfl ?_
          refine G_h (v := .ro [.int .i64 y196.tag, .bool y196.yes]) rfl rfl rfl (ia_ev (cells := [.int .i64 y196.tag, .bool y196.yes]) rfl rfl (Int.natCast_nonneg _) (map_get (x := y196) (by rw [Int.toNat_natCast]; exact hy196)) (y1j _) rfl) ?_
          refine G_p (v := .ro [.int .i64 y196.tag, .bool y196.yes]) rfl rfl rfl ?_
          refine G_h rfl rfl rfl (fun _ => rfl) ?_
          refine G_p rfl rfl rfl ?_
          refine G_p rfl rfl rfl ?_
          refine G_and (f := (!decide (y196.tag = 2))) [_, _, _, _, _, _] rfl rfl ?_ ?_
          · intro hb36
            refine G_p (v := .lst (List.map encTVl l2) false) rfl rfl rfl ?_
            refine G_p rfl rfl rfl ?_
            refine G_h (v := .ro [.int .i64 y196.tag, .bool y196.yes]) rfl rfl rfl (ia_ev (cells := [.int .i64 y196.tag, .bool y196.yes]) rfl rfl (Int.natCast_nonneg _) (map_get (x := y196) (by rw [Int.toNat_natCast]; exact hy196)) (y1j _) rfl) ?_
            refine G_p (v := .ro [.int .i64 y196.tag, .bool y196.yes]) rfl rfl rfl ?_
            refine G_h rfl rfl rfl (fun _ => rfl) ?_
            refine G_p rfl rfl rfl ?_
            exact G_nil (L_nil ⟨rfl, rfl, rfl⟩)
          · intro vs hvs
            obtain ⟨u37, u38, u39, u40, u41, u42, rfl⟩ := len6 hvs
            dsimp only [junk]
            refine G_p rfl rfl rfl ?_
            refine G_and (f := (!decide (y196.tag = 4))) [_, _, _, _, _, _] rfl rfl ?_ ?_
            · intro hb44
              refine G_p (v := .lst (List.map encTVl l2) false) rfl rfl rfl ?_
              refine G_p rfl rfl rfl ?_
              refine G_h (v := .ro [.int .i64 y196.tag, .bool y196.yes]) rfl rfl rfl (ia_ev (cells := [.int .i64 y196.tag, .bool y196.yes]) rfl rfl (Int.natCast_nonneg _) (map_get (x := y196) (by rw [Int.toNat_natCast]; exact hy196)) (y1j _) rfl) ?_
              refine G_p (v := .ro [.int .i64 y196.tag, .bool y196.yes]) rfl rfl rfl ?_
              refine G_h rfl rfl rfl (fun _ => rfl) ?_
              refine G_p rfl rfl rfl ?_
              exact G_nil (L_nil ⟨rfl, rfl, rfl⟩)
            · intro vs hvs
              obtain ⟨u45, u46, u47, u48, u49, u50, rfl⟩ := len6 hvs
              dsimp only [junk]
              refine G_p rfl rfl rfl ?_
              refine G_and (f := (!decide (y196.tag = 8))) [_, _, _, _, _, _] rfl rfl ?_ ?_
              · intro hb52
                refine G_p (v := .lst (List.map encTVl l2) false) rfl rfl rfl ?_
                refine G_p rfl rfl rfl ?_
                refine G_h (v := .ro [.int .i64 y196.tag, .bool y196.yes]) rfl rfl rfl (ia_ev (cells := [.int .i64 y196.tag, .bool y196.yes]) rfl rfl (Int.natCast_nonneg _) (map_get (x := y196) (by rw [Int.toNat_natCast]; exact hy196)) (y1j _) rfl) ?_
                refine G_p (v := .ro [.int .i64 y196.tag, .bool y196.yes]) rfl rfl rfl ?_
                refine G_h rfl rfl rfl (fun _ => rfl) ?_
                refine G_p rfl rfl rfl ?_
                exact G_nil (L_nil ⟨rfl, rfl, rfl⟩)
              · intro vs hvs
                obtain ⟨u53, u54, u55, u56, u57, u58, rfl⟩ := len6 hvs
                dsimp only [junk]
                refine G_p rfl rfl rfl ?_
                refine G_and (f := (!decide (y196.tag = 16))) [_, _, _, _, _, _] rfl rfl ?_ ?_
                · intro hb60
                  refine G_p (v := .lst (List.map encTVl l2) false) rfl rfl rfl ?_
                  refine G_p rfl rfl rfl ?_
                  refine G_h (v := .ro [.int .i64 y196.tag, .bool y196.yes]) rfl rfl rfl (ia_ev (cells := [.int .i64 y196.tag, .bool y196.yes]) rfl rfl (Int.natCast_nonneg _) (map_get (x := y196) (by rw [Int.toNat_natCast]; exact hy196)) (y1j _) rfl) ?_
                  refine G_p (v := .ro [.int .i64 y196.tag, .bool y196.yes]) rfl rfl rfl ?_
                  refine G_h rfl rfl rfl (fun _ => rfl) ?_
                  refine G_p rfl rfl rfl ?_
                  exact G_nil (L_nil ⟨rfl, rfl, rfl⟩)
                · intro vs hvs
                  obtain ⟨u61, u62, u63, u64, u65, u66, rfl⟩ := len6 hvs
                  dsimp only [junk]
                  refine G_p rfl rfl rfl ?_
                  refine G_and (f := (!decide (y196.tag = 32))) [_, _, _, _, _, _] rfl rfl ?_ ?_
                  · intro hb68
                    refine G_p (v := .lst (List.map encTVl l2) false) rfl rfl rfl ?_
                    refine G_p rfl rfl rfl ?_
                    refine G_h (v := .ro [.int .i64 y196.tag, .bool y196.yes]) rfl rfl rfl (ia_ev (cells := [.int .i64 y196.tag, .bool y196.yes]) rfl rfl (Int.natCast_nonneg _) (map_get (x := y196) (by rw [Int.toNat_natCast]; exact hy196)) (y1j _) rfl) ?_
                    refine G_p (v := .ro [.int .i64 y196.tag, .bool y196.yes]) rfl rfl rfl ?_
                    refine G_h rfl rfl rfl (fun _ => rfl) ?_
                    refine G_p rfl rfl rfl ?_
                    exact G_nil (L_nil ⟨rfl, rfl, rfl⟩)
                  · intro vs hvs
                    obtain ⟨u69, u70, u71, u72, u73, u74, rfl⟩ := len6 hvs
                    dsimp only [junk]
                    refine G_p rfl rfl rfl ?_
                    refine G_and (f := (!decide (y196.tag = 64))) [_, _, _, _, _, _] rfl rfl ?_ ?_
                    · intro hb76
                      refine G_p (v := .lst (List.map encTVl l2) false) rfl rfl rfl ?_
                      refine G_p rfl rfl rfl ?_
                      refine G_h (v := .ro [.int .i64 y196.tag, .bool y196.yes]) rfl rfl rfl (ia_ev (cells := [.int .i64 y196.tag, .bool y196.yes]) rfl rfl (Int.natCast_nonneg _) (map_get (x := y196) (by rw [Int.toNat_natCast]; exact hy196)) (y1j _) rfl) ?_
                      refine G_p (v := .ro [.int .i64 y196.tag, .bool y196.yes]) rfl rfl rfl ?_
                      refine G_h rfl rfl rfl (fun _ => rfl) ?_
                      refine G_p rfl rfl rfl ?_
                      exact G_nil (L_nil ⟨rfl, rfl, rfl⟩)
                    · intro vs hvs
                      obtain ⟨u77, u78, u79, u80, u81, u82, rfl⟩ := len6 hvs
                      dsimp only [junk]
                      refine G_p rfl rfl rfl ?_
                      refine G_and (f := (!decide (y196.tag = 128))) [_, _, _, _, _, _] rfl rfl ?_ ?_
                      · intro hb84
                        refine G_p (v := .lst (List.map encTVl l2) false) rfl rfl rfl ?_
                        refine G_p rfl rfl rfl ?_
                        refine G_h (v := .ro [.int .i64 y196.tag, .bool y196.yes]) rfl rfl rfl (ia_ev (cells := [.int .i64 y196.tag, .bool y196.yes]) rfl rfl (Int.natCast_nonneg _) (map_get (x := y196) (by rw [Int.toNat_natCast]; exact hy196)) (y1j _) rfl) ?_
                        refine G_p (v := .ro [.int .i64 y196.tag, .bool y196.yes]) rfl rfl rfl ?_
                        refine G_h rfl rfl rfl (fun _ => rfl) ?_
                        refine G_p rfl rfl rfl ?_
                        exact G_nil (L_nil ⟨rfl, rfl, rfl⟩)
                      · intro vs hvs
                        obtain ⟨u85, u86, u87, u88, u89, u90, rfl⟩ := len6 hvs
                        dsimp only [junk]
                        refine G_nil ?_
                        refine L_nil ?_
                        refine Sm_norm (e2 := [(1, .lst (List.map encTVl l2) false), (2, .ptr 0 0), (5, .bool r3), (7, .int .i64 ((i197 : Nat) : Int)), (91, .bool ((((((((!decide (y196.tag = 1)) && (!decide (y196.tag = 2))) && (!decide (y196.tag = 4))) && (!decide (y196.tag = 8))) && (!decide (y196.tag = 16))) && (!decide (y196.tag = 32))) && (!decide (y196.tag = 64))) && (!decide (y196.tag = 128))))]) (H1 := [(kg414 t1)]) (H2 := [(kg414 t1)]) rfl (by repeat (first | exact rzz | apply rcc rfl | apply rnn rfl)) rfl (?_ : GL _ _ _ _ _)
                        rcases cond_s hr with ⟨hc91, hr⟩ | ⟨hc91, hr⟩
                        · refine L_T rfl hc91 ?_
                          refine L_seq ?_
                          refine L_reg ?_
                          refine G_p rfl rfl rfl ?_
                          refine G_p rfl rfl rfl ?_
                          refine G_nil ?_
                          refine L_ret ?_
                          refine Blk_ret ?_
                          refine Sm_ret ?_
                          refine Rd_ret ?_
                          refine Blk_ret ?_
                          refine Sm_ret ?_
                          have hr := some_s hr
                          subst hr
                          exact ⟨_, rfl, _, rfl, rfl⟩
                        · refine L_F rfl hc91 ?_
                          refine L_skip ?_
                          refine L_nil ?_
                          refine Blk_norm (?_ : GL _ _ _ _ _)
                          refine L_nil ?_
                          refine Sm_norm (e2 := [(1, .lst (List.map encTVl l2) false), (2, .ptr 0 0), (5, .bool r3), (7, .int .i64 ((i197 : Nat) : Int))]) (H1 := [(kg414 t1)]) (H2 := [(kg414 t1)]) rfl (by repeat (first | exact rzz | apply rcc rfl | apply rnn rfl)) rfl (?_ : GL _ _ _ _ _)
                          refine L_reg ?_
                          refine G_p rfl rfl rfl ?_
                          refine G_v (.int .i64 ((i197 + 1 : Nat) : Int)) rfl rfl rfl (congrArg _ (wrap_next hLq195 hlti197)) ?_
                          refine G_p rfl rfl rfl ?_
                          refine G_nil ?_
                          refine L_nil ?_
                          refine Rd_norm ⟨(), ?_, rfl, hr⟩
                          show restr _ _ = [(7, .int .i64 (((i197 + 1) : Nat) : Int)), (1, .lst (List.map encTVl l2) false), (2, .ptr 0 0), (5, .bool r3)]
                          (repeat (first | exact rzz | apply rcc rfl | apply rnn rfl))
      · rintro ⟨⟩ hr
        show GL _ _ [(1, .lst (List.map encTVl l2) false), (2, .ptr 0 0), (5, .bool r3)] [(kg414 t1)] _
        replace hr : y1n n t1 l2 r3 = some r := hr
        unfold y1n at hr
        refine L_seq ?_
        refine L_stmt ?_
        refine L_reg ?_
        refine G_h (v := .agg (cTst t1)) rfl rfl rfl (fun _ => rfl) ?_
        refine G_p (v := .lst (List.map encTVl l2) false) rfl rfl rfl ?_
        refine G_h rfl rfl rfl (lenL_ev rfl (List.length_map _)) ?_
        obtain ⟨r72, hr72, hr⟩ := bind_s hr
        refine G_c 28 rfl rfl (CA_of (as := [.agg (cTst t1), .int .i64 ((List.length l2 : Nat) : Int)]) rfl (y4y n hr72)) ?_
        refine G_p rfl rfl rfl ?_
        refine G_nil ?_
        refine L_nil ?_
        refine Sm_norm (e2 := [(1, .lst (List.map encTVl l2) false), (2, .ptr 0 0), (5, .bool r3), (8, .bool r72)]) (H1 := [(kg414 t1)]) (H2 := [(kg414 t1)]) rfl (by repeat (first | exact rzz | apply rcc rfl | apply rnn rfl)) rfl (?_ : GL _ _ _ _ _)
        refine L_seq ?_
        refine L_stmt ?_
        refine L_seq ?_
        refine L_stmt ?_
        refine L_reg ?_
        refine G_p rfl rfl rfl ?_
        refine G_p rfl rfl rfl ?_
        refine G_nil ?_
        refine L_nil ?_
        refine Sm_norm (e2 := [(1, .lst (List.map encTVl l2) false), (2, .ptr 0 0), (5, .bool r3), (98, .bool (!r72))]) (H1 := [(kg414 t1)]) (H2 := [(kg414 t1)]) rfl (by repeat (first | exact rzz | apply rcc rfl | apply rnn rfl)) rfl (?_ : GL _ _ _ _ _)
        rcases cond_s hr with ⟨hc98, hr⟩ | ⟨hc98, hr⟩
        · refine L_T rfl hc98 ?_
          refine L_seq ?_
          refine L_reg ?_
          refine G_p rfl rfl rfl ?_
          refine G_p rfl rfl rfl ?_
          refine G_nil ?_
          refine L_ret ?_
          refine Sm_ret ?_
          have hr := some_s hr
          subst hr
          exact ⟨_, rfl, _, rfl, rfl⟩
        · refine L_F rfl hc98 ?_
          refine L_skip ?_
          refine L_nil ?_
          refine Sm_norm (e2 := [(1, .lst (List.map encTVl l2) false), (2, .ptr 0 0), (5, .bool r3)]) (H1 := [(kg414 t1)]) (H2 := [(kg414 t1)]) rfl (by repeat (first | exact rzz | apply rcc rfl | apply rnn rfl)) rfl (?_ : GL _ _ _ _ _)
          refine L_seq ?_
          refine L_stmt ?_
          refine L_reg ?_
          refine G_h (v := .agg (cTst t1)) rfl rfl rfl (fun _ => rfl) ?_
          obtain ⟨r73, hr73, hr⟩ := bind_s hr
          refine G_c 26 rfl rfl (CA_of (as := [.agg (cTst t1)]) rfl (y5l n hr73)) ?_
          refine G_n (B := .cells [.bool false, .lst [] true, .bool false, .lst [] true]) rfl rfl rfl ?_
          refine G_hn (H' := [(kg414 t1), .cells [.bool r73.thn.never, .lst (List.map encFct r73.thn.l) false, .bool r73.els.never, .lst (List.map encFct r73.els.l) false]]) rfl rfl rfl (fun _ => rfl) ?_
          refine G_nil ?_
          refine L_nil ?_
          refine Sm_norm (e2 := [(1, .lst (List.map encTVl l2) false), (2, .ptr 0 0), (5, .bool r3), (9, .ptr 1 0)]) (H1 := [(kg414 t1), .cells [.bool r73.thn.never, .lst (List.map encFct r73.thn.l) false, .bool r73.els.never, .lst (List.map encFct r73.els.l) false]]) (H2 := [(kg414 t1), .cells [.bool r73.thn.never, .lst (List.map encFct r73.thn.l) false, .bool r73.els.never, .lst (List.map encFct r73.els.l) false]]) rfl (by repeat (first | exact rzz | apply rcc rfl | apply rnn rfl)) rfl (?_ : GL _ _ _ _ _)
          refine L_seq ?_
          refine L_stmt ?_
          refine L_reg ?_
          refine G_p rfl rfl rfl ?_
          refine G_h (v := .agg (cFts r73.els)) rfl rfl rfl (fun _ => rfl) ?_
          refine G_n (B := .cells [.bool false, .lst [] true]) rfl rfl rfl ?_
          refine G_hn (H' := [(kg414 t1), .cells [.bool r73.thn.never, .lst (List.map encFct r73.thn.l) false, .bool r73.els.never, .lst (List.map encFct r73.els.l) false], .cells [.bool r73.els.never, .lst (List.map encFct r73.els.l) false]]) rfl rfl rfl (fun _ => rfl) ?_
          refine G_nil ?_
          refine L_nil ?_
          refine Sm_norm (e2 := [(1, .lst (List.map encTVl l2) false), (2, .ptr 0 0), (5, .bool r3), (9, .ptr 1 0), (10, .ptr 2 0)]) (H1 := [(kg414 t1), .cells [.bool r73.thn.never, .lst (List.map encFct r73.thn.l) false, .bool r73.els.never, .lst (List.map encFct r73.els.l) false], .cells [.bool r73.els.never, .lst (List.map encFct r73.els.l) false]]) (H2 := [(kg414 t1), .cells [.bool r73.thn.never, .lst (List.map encFct r73.thn.l) false, .bool r73.els.never, .lst (List.map encFct r73.els.l) false], .cells [.bool r73.els.never, .lst (List.map encFct r73.els.l) false]]) rfl (by repeat (first | exact rzz | apply rcc rfl | apply rnn rfl)) rfl (?_ : GL _ _ _ _ _)
          refine L_seq ?_
          refine L_stmtJ (S := Bool × List Fct) (fun s => [(1, .lst (List.map encTVl l2) false), (5, .bool r3), (10, .ptr 2 0)]) (fun s => [(kg414 t1), .cells [.bool r73.thn.never, .lst (List.map encFct r73.thn.l) false, .bool r73.els.never, .lst (List.map encFct r73.els.l) false], .cells [.bool s.1, .lst (List.map encFct s.2) false]]) (fun s => y1d l2 r3 s.1 s.2 = some r) ?_ ?_
          · skip
            refine L_seq ?_
            refine L_stmt ?_
            refine L_reg ?_
            refine G_h (v := .agg (cTst t1)) rfl rfl rfl (fun _ => rfl) ?_
            refine G_p (v := .lst (List.map encTVl l2) false) rfl rfl rfl ?_
            obtain ⟨r131, hr131, hr⟩ := bind_s hr
            refine G_c 29 rfl rfl (CA_of (as := [.agg (cTst t1), .lst (List.map encTVl l2) false]) rfl (y5y n hr131)) ?_
            refine G_nil ?_
            refine L_nil ?_
            refine Sm_norm (e2 := [(1, .lst (List.map encTVl l2) false), (5, .bool r3), (9, .ptr 1 0), (10, .ptr 2 0), (106, .bool r131)]) (H1 := [(kg414 t1), .cells [.bool r73.thn.never, .lst (List.map encFct r73.thn.l) false, .bool r73.els.never, .lst (List.map encFct r73.els.l) false], .cells [.bool r73.els.never, .lst (List.map encFct r73.els.l) false]]) (H2 := [(kg414 t1), .cells [.bool r73.thn.never, .lst (List.map encFct r73.thn.l) false, .bool r73.els.never, .lst (List.map encFct r73.els.l) false], .cells [.bool r73.els.never, .lst (List.map encFct r73.els.l) false]]) rfl (by repeat (first | exact rzz | apply rcc rfl | apply rnn rfl)) rfl (?_ : GL _ _ _ _ _)
            rcases cond_s hr with ⟨hc106, hr⟩ | ⟨hc106, hr⟩
            · refine L_T rfl hc106 ?_
              refine L_reg ?_
              refine G_p rfl rfl rfl ?_
              refine G_h (v := .agg (cFts r73.thn)) rfl rfl rfl (fun _ => rfl) ?_
              refine G_hn (H' := [(kg414 t1), .cells [.bool r73.thn.never, .lst (List.map encFct r73.thn.l) false, .bool r73.els.never, .lst (List.map encFct r73.els.l) false], .cells [.bool r73.thn.never, .lst (List.map encFct r73.thn.l) false]]) rfl rfl rfl (fun _ => rfl) ?_
              refine G_nil ?_
              refine L_nil ?_
              exact Sm_norm (e2 := [(1, .lst (List.map encTVl l2) false), (5, .bool r3), (10, .ptr 2 0)]) (H1 := [(kg414 t1), .cells [.bool r73.thn.never, .lst (List.map encFct r73.thn.l) false, .bool r73.els.never, .lst (List.map encFct r73.els.l) false], .cells [.bool r73.thn.never, .lst (List.map encFct r73.thn.l) false]]) (H2 := [(kg414 t1), .cells [.bool r73.thn.never, .lst (List.map encFct r73.thn.l) false, .bool r73.els.never, .lst (List.map encFct r73.els.l) false], .cells [.bool r73.thn.never, .lst (List.map encFct r73.thn.l) false]]) rfl (by repeat (first | exact rzz | apply rcc rfl | apply rnn rfl)) rfl ⟨(r73.thn.never, r73.thn.l), rfl, rfl, hr⟩
            · refine L_F rfl hc106 ?_
              refine L_skip ?_
              refine L_nil ?_
              exact Sm_norm (e2 := [(1, .lst (List.map encTVl l2) false), (5, .bool r3), (10, .ptr 2 0)]) (H1 := [(kg414 t1), .cells [.bool r73.thn.never, .lst (List.map encFct r73.thn.l) false, .bool r73.els.never, .lst (List.map encFct r73.els.l) false], .cells [.bool r73.els.never, .lst (List.map encFct r73.els.l) false]]) (H2 := [(kg414 t1), .cells [.bool r73.thn.never, .lst (List.map encFct r73.thn.l) false, .bool r73.els.never, .lst (List.map encFct r73.els.l) false], .cells [.bool r73.els.never, .lst (List.map encFct r73.els.l) false]]) rfl (by repeat (first | exact rzz | apply rcc rfl | apply rnn rfl)) rfl ⟨(r73.els.never, r73.els.l), rfl, rfl, hr⟩
          · rintro ⟨b75, l76⟩ hr
            show GL _ _ [(1, .lst (List.map encTVl l2) false), (5, .bool r3), (10, .ptr 2 0)] [(kg414 t1), .cells [.bool r73.thn.never, .lst (List.map encFct r73.thn.l) false, .bool r73.els.never, .lst (List.map encFct r73.els.l) false], .cells [.bool b75, .lst (List.map encFct l76) false]] _
            replace hr : y1d l2 r3 b75 l76 = some r := hr
            unfold y1d at hr
            refine L_seq ?_
            refine L_stmtJ (S := Unit) (fun s => [(5, .bool r3), (10, .ptr 2 0)]) (fun s => [(kg414 t1), .cells [.bool r73.thn.never, .lst (List.map encFct r73.thn.l) false, .bool r73.els.never, .lst (List.map encFct r73.els.l) false], .cells [.bool b75, .lst (List.map encFct l76) false]]) (fun s => y1p r3 b75 = some r) ?_ ?_
            · skip
              refine L_seq ?_
              refine L_stmt ?_
              refine L_reg ?_
              refine G_p rfl rfl rfl ?_
              refine G_nil ?_
              refine L_nil ?_
              refine Sm_norm (e2 := [(1, .lst (List.map encTVl l2) false), (5, .bool r3), (10, .ptr 2 0), (11, .int .i64 0)]) (H1 := [(kg414 t1), .cells [.bool r73.thn.never, .lst (List.map encFct r73.thn.l) false, .bool r73.els.never, .lst (List.map encFct r73.els.l) false], .cells [.bool b75, .lst (List.map encFct l76) false]]) (H2 := [(kg414 t1), .cells [.bool r73.thn.never, .lst (List.map encFct r73.thn.l) false, .bool r73.els.never, .lst (List.map encFct r73.els.l) false], .cells [.bool b75, .lst (List.map encFct l76) false]]) rfl (by repeat (first | exact rzz | apply rcc rfl | apply rnn rfl)) rfl (?_ : GL _ _ _ _ _)
              refine L_block ?_
              obtain ⟨hLq123, hr⟩ := guard_s hr
              replace hLq123 := okLen_s hLq123
              refine L_range (X := Fct) (S := Unit) l76 (fun i125 s => [(11, .int .i64 ((i125 : Nat) : Int)), (1, .lst (List.map encTVl l2) false), (5, .bool r3), (10, .ptr 2 0)]) (fun i125 s => [(kg414 t1), .cells [.bool r73.thn.never, .lst (List.map encFct r73.thn.l) false, .bool r73.els.never, .lst (List.map encFct r73.els.l) false], .cells [.bool b75, .lst (List.map encFct l76) false]]) (fun rest i125 s => y12 l2 r3 b75 rest i125 = some r) (()) ?_ rfl hr ?_ ?_
              · show restr _ _ = [(11, .int .i64 ((0 : Nat) : Int)), (1, .lst (List.map encTVl l2) false), (5, .bool r3), (10, .ptr 2 0)]
                (repeat (first | exact rzz | apply rcc rfl | apply rnn rfl))
              · rintro ⟨⟩ hr
                show GL _ _ [(11, .int .i64 (((List.length l76) : Nat) : Int)), (1, .lst (List.map encTVl l2) false), (5, .bool r3), (10, .ptr 2 0)] [(kg414 t1), .cells [.bool r73.thn.never, .lst (List.map encFct r73.thn.l) false, .bool r73.els.never, .lst (List.map encFct r73.els.l) false], .cells [.bool b75, .lst (List.map encFct l76) false]] _
                replace hr : y12 l2 r3 b75 [] (List.length l76) = some r := hr
                rw [y12] at hr
                refine L_seq ?_
                refine L_stmt ?_
                refine L_seq ?_
                refine L_stmt ?_
                refine L_reg ?_
                refine G_p rfl rfl rfl ?_
                refine G_p rfl rfl rfl ?_
                refine G_h (v := .lst (List.map encFct l76) false) rfl rfl rfl (fun _ => rfl) ?_
                refine G_h rfl rfl rfl (lenL_ev rfl (List.length_map _)) ?_
                refine G_v (.bool false) rfl rfl rfl (congrArg AVal.bool (decide_eq_false (by omega))) ?_
                refine G_nil ?_
                refine L_nil ?_
                refine Sm_norm (e2 := [(1, .lst (List.map encTVl l2) false), (5, .bool r3), (10, .ptr 2 0), (11, .int .i64 ((List.length l76 : Nat) : Int)), (113, .bool false)]) (H1 := [(kg414 t1), .cells [.bool r73.thn.never, .lst (List.map encFct r73.thn.l) false, .bool r73.els.never, .lst (List.map encFct r73.els.l) false], .cells [.bool b75, .lst (List.map encFct l76) false]]) (H2 := [(kg414 t1), .cells [.bool r73.thn.never, .lst (List.map encFct r73.thn.l) false, .bool r73.els.never, .lst (List.map encFct r73.els.l) false], .cells [.bool b75, .lst (List.map encFct l76) false]]) rfl (by repeat (first | exact rzz | apply rcc rfl | apply rnn rfl)) rfl (?_ : GL _ _ _ _ _)
                refine L_F rfl rfl ?_
                refine L_exit ?_
                refine Sm_exit ?_
                refine Rd_exit ?_
                refine Blk_exit (?_ : GL _ _ _ _ _)
                refine L_nil ?_
                exact Sm_norm (e2 := [(5, .bool r3), (10, .ptr 2 0)]) (H1 := [(kg414 t1), .cells [.bool r73.thn.never, .lst (List.map encFct r73.thn.l) false, .bool r73.els.never, .lst (List.map encFct r73.els.l) false], .cells [.bool b75, .lst (List.map encFct l76) false]]) (H2 := [(kg414 t1), .cells [.bool r73.thn.never, .lst (List.map encFct r73.thn.l) false, .bool r73.els.never, .lst (List.map encFct r73.els.l) false], .cells [.bool b75, .lst (List.map encFct l76) false]]) rfl (by repeat (first | exact rzz | apply rcc rfl | apply rnn rfl)) rfl ⟨(), rfl, rfl, hr⟩
              · rintro y124 rest126 i125 ⟨⟩ hy124 hlti125 hr
                show GL _ _ [(11, .int .i64 ((i125 : Nat) : Int)), (1, .lst (List.map encTVl l2) false), (5, .bool r3), (10, .ptr 2 0)] [(kg414 t1), .cells [.bool r73.thn.never, .lst (List.map encFct r73.thn.l) false, .bool r73.els.never, .lst (List.map encFct r73.els.l) false], .cells [.bool b75, .lst (List.map encFct l76) false]] _
                replace hr : y12 l2 r3 b75 (y124 :: rest126) i125 = some r := hr
                rw [y12] at hr
                refine L_seq ?_
                refine L_stmt ?_
                refine L_seq ?_
                refine L_stmt ?_
                refine L_reg ?_
                refine G_p rfl rfl rfl ?_
                refine G_p rfl rfl rfl ?_
                refine G_h (v := .lst (List.map encFct l76) false) rfl rfl rfl (fun _ => rfl) ?_
                refine G_h rfl rfl rfl (lenL_ev rfl (List.length_map _)) ?_
                refine G_v (.bool true) rfl rfl rfl (congrArg AVal.bool (decide_eq_true (by omega))) ?_
                refine G_nil ?_
                refine L_nil ?_
                refine Sm_norm (e2 := [(1, .lst (List.map encTVl l2) false), (5, .bool r3), (10, .ptr 2 0), (11, .int .i64 ((i125 : Nat) : Int)), (113, .bool true)]) (H1 := [(kg414 t1), .cells [.bool r73.thn.never, .lst (List.map encFct r73.thn.l) false, .bool r73.els.never, .lst (List.map encFct r73.els.l) false], .cells [.bool b75, .lst (List.map encFct l76) false]]) (H2 := [(kg414 t1), .cells [.bool r73.thn.never, .lst (List.map encFct r73.thn.l) false, .bool r73.els.never, .lst (List.map encFct r73.els.l) false], .cells [.bool b75, .lst (List.map encFct l76) false]]) rfl (by repeat (first | exact rzz | apply rcc rfl | apply rnn rfl)) rfl (?_ : GL _ _ _ _ _)
                refine L_T rfl rfl ?_
                refine L_skip ?_
                refine L_nil ?_
                refine Sm_norm (e2 := [(1, .lst (List.map encTVl l2) false), (5, .bool r3), (10, .ptr 2 0), (11, .int .i64 ((i125 : Nat) : Int))]) (H1 := [(kg414 t1), .cells [.bool r73.thn.never, .lst (List.map encFct r73.thn.l) false, .bool r73.els.never, .lst (List.map encFct r73.els.l) false], .cells [.bool b75, .lst (List.map encFct l76) false]]) (H2 := [(kg414 t1), .cells [.bool r73.thn.never, .lst (List.map encFct r73.thn.l) false, .bool r73.els.never, .lst (List.map encFct r73.els.l) false], .cells [.bool b75, .lst (List.map encFct l76) false]]) rfl (by repeat (first | exact rzz | apply rcc rfl | apply rnn rfl)) rfl (?_ : GL _ _ _ _ _)
                refine L_seq ?_
                refine L_stmt ?_
                refine L_block ?_
                refine L_seq ?_
                refine L_stmt ?_
                refine L_reg ?_
                refine G_p rfl rfl rfl ?_
                refine G_h (v := .lst (List.map encFct l76) false) rfl rfl rfl (fun _ => rfl) ?_
                refine G_p rfl rfl rfl ?_
                refine G_h (v := .ro [.int .i64 y124.var, .int .i64 y124.tags]) rfl rfl rfl (ia_ev (cells := [.int .i64 y124.var, .int .i64 y124.tags]) rfl rfl (Int.natCast_nonneg _) (map_get (x := y124) (by rw [Int.toNat_natCast]; exact hy124)) (y0c _) rfl) ?_
                refine G_p (v := .ro [.int .i64 y124.var, .int .i64 y124.tags]) rfl rfl rfl ?_
                refine G_h rfl rfl rfl (fun _ => rfl) ?_
                refine G_p rfl rfl rfl ?_
                refine G_nil ?_
                refine L_nil ?_
                refine Sm_norm (e2 := [(1, .lst (List.map encTVl l2) false), (5, .bool r3), (10, .ptr 2 0), (11, .int .i64 ((i125 : Nat) : Int)), (12, .int .i64 y124.var)]) (H1 := [(kg414 t1), .cells [.bool r73.thn.never, .lst (List.map encFct r73.thn.l) false, .bool r73.els.never, .lst (List.map encFct r73.els.l) false], .cells [.bool b75, .lst (List.map encFct l76) false]]) (H2 := [(kg414 t1), .cells [.bool r73.thn.never, .lst (List.map encFct r73.thn.l) false, .bool r73.els.never, .lst (List.map encFct r73.els.l) false], .cells [.bool b75, .lst (List.map encFct l76) false]]) rfl (by repeat (first | exact rzz | apply rcc rfl | apply rnn rfl)) rfl (?_ : GL _ _ _ _ _)
                refine L_seq ?_
                refine L_stmt ?_
                refine L_drawS (ops := [_, _, _, _, _, _, _, _, _, _, _, _, _, _, _, _, _, _, _, _, _, _, _]) rfl rfl ?_
                refine G_p rfl rfl rfl ?_
                refine G_p rfl rfl rfl ?_
                refine G_p rfl rfl rfl ?_
                refine G_or (f := (decide (((List.length l2 : Nat) : Int) ≤ y124.var))) [_, _, _, _] rfl rfl ?_ ?_
                · intro hb124
                  refine G_p rfl rfl rfl ?_
                  refine G_p (v := .lst (List.map encTVl l2) false) rfl rfl rfl ?_
                  refine G_h rfl rfl rfl (lenL_ev rfl (List.length_map _)) ?_
                  refine G_p rfl rfl rfl ?_
                  exact G_nil (L_nil ⟨rfl, rfl, rfl⟩)
                · intro vs hvs
                  obtain ⟨u125, u126, u127, u128, rfl⟩ := len4 hvs
                  dsimp only [junk]
                  refine G_p rfl rfl rfl ?_
                  obtain ⟨v130, hvv130, hr⟩ := bind_s hr
                  refine G_pick false [_, _, _, _, _, _, _, _, _, _, _, _, _] (v := .bool v130) (vo := .bool true) rfl rfl ?_ ?_ rfl ?_
                  · intro hb130
                    have hr := condF hb130 hvv130
                    refine G_p (v := .lst (List.map encTVl l2) false) rfl rfl rfl ?_
                    refine G_p rfl rfl rfl ?_
                    obtain ⟨e129, he129, hr⟩ := bind_s hr
                    refine G_h (v := .ro [.int .i64 e129.tag, .bool e129.yes]) rfl rfl rfl (ia_ev (cells := [.int .i64 e129.tag, .bool e129.yes]) rfl rfl (idx_s he129).1 (map_get (x := e129) (idx_s he129).2) (y1j _) rfl) ?_
                    refine G_p (v := .ro [.int .i64 e129.tag, .bool e129.yes]) rfl rfl rfl ?_
                    refine G_h rfl rfl rfl (fun _ => rfl) ?_
                    refine G_p rfl rfl rfl ?_
                    refine G_h (v := .lst (List.map encFct l76) false) rfl rfl rfl (fun _ => rfl) ?_
                    refine G_p rfl rfl rfl ?_
                    refine G_h (v := .ro [.int .i64 y124.var, .int .i64 y124.tags]) rfl rfl rfl (ia_ev (cells := [.int .i64 y124.var, .int .i64 y124.tags]) rfl rfl (Int.natCast_nonneg _) (map_get (x := y124) (by rw [Int.toNat_natCast]; exact hy124)) (y0c _) rfl) ?_
                    refine G_p (v := .ro [.int .i64 y124.tags]) rfl rfl rfl ?_
                    refine G_h rfl rfl rfl (fun _ => rfl) ?_
                    refine G_p rfl rfl rfl ?_
                    refine G_p rfl rfl rfl ?_
                    cases hr; exact G_nil (L_nil ⟨rfl, rfl, rfl⟩)
                  · intro hb130; exact pickF hvv130 hb130
                  · intro vs hvs
                    obtain ⟨u131, u132, u133, u134, u135, u136, u137, u138, u139, u140, u141, u142, u143, rfl⟩ := len13 hvs
                    dsimp only [junk]
                    refine G_nil (L_nil ⟨rfl, ?_⟩)
                    refine L_nil ?_
                    refine Sm_norm (e2 := [(1, .lst (List.map encTVl l2) false), (5, .bool r3), (10, .ptr 2 0), (11, .int .i64 ((i125 : Nat) : Int)), (144, .bool v130)]) (H1 := [(kg414 t1), .cells [.bool r73.thn.never, .lst (List.map encFct r73.thn.l) false, .bool r73.els.never, .lst (List.map encFct r73.els.l) false], .cells [.bool b75, .lst (List.map encFct l76) false]]) (H2 := [(kg414 t1), .cells [.bool r73.thn.never, .lst (List.map encFct r73.thn.l) false, .bool r73.els.never, .lst (List.map encFct r73.els.l) false], .cells [.bool b75, .lst (List.map encFct l76) false]]) rfl (by repeat (first | exact rzz | apply rcc rfl | apply rnn rfl)) rfl (?_ : GL _ _ _ _ _)
                    rcases cond_s hr with ⟨hc144, hr⟩ | ⟨hc144, hr⟩
                    · refine L_T rfl hc144 ?_
                      refine L_seq ?_
                      refine L_reg ?_
                      refine G_p rfl rfl rfl ?_
                      refine G_nil ?_
                      refine L_ret ?_
                      refine Blk_ret ?_
                      refine Sm_ret ?_
                      refine Rd_ret ?_
                      refine Blk_ret ?_
                      refine Sm_ret ?_
                      have hr := some_s hr
                      subst hr
                      exact ⟨_, rfl, _, rfl, rfl⟩
                    · refine L_F rfl hc144 ?_
                      refine L_skip ?_
                      refine L_nil ?_
                      refine Blk_norm (?_ : GL _ _ _ _ _)
                      refine L_nil ?_
                      refine Sm_norm (e2 := [(1, .lst (List.map encTVl l2) false), (5, .bool r3), (10, .ptr 2 0), (11, .int .i64 ((i125 : Nat) : Int))]) (H1 := [(kg414 t1), .cells [.bool r73.thn.never, .lst (List.map encFct r73.thn.l) false, .bool r73.els.never, .lst (List.map encFct r73.els.l) false], .cells [.bool b75, .lst (List.map encFct l76) false]]) (H2 := [(kg414 t1), .cells [.bool r73.thn.never, .lst (List.map encFct r73.thn.l) false, .bool r73.els.never, .lst (List.map encFct r73.els.l) false], .cells [.bool b75, .lst (List.map encFct l76) false]]) rfl (by repeat (first | exact rzz | apply rcc rfl | apply rnn rfl)) rfl (?_ : GL _ _ _ _ _)
                      refine L_reg ?_
                      refine G_p rfl rfl rfl ?_
                      refine G_v (.int .i64 ((i125 + 1 : Nat) : Int)) rfl rfl rfl (congrArg _ (wrap_next hLq123 hlti125)) ?_
                      refine G_p rfl rfl rfl ?_
                      refine G_nil ?_
                      refine L_nil ?_
                      refine Rd_norm ⟨(), ?_, rfl, hr⟩
                      show restr _ _ = [(11, .int .i64 (((i125 + 1) : Nat) : Int)), (1, .lst (List.map encTVl l2) false), (5, .bool r3), (10, .ptr 2 0)]
                      (repeat (first | exact rzz | apply rcc rfl | apply rnn rfl))
            · rintro ⟨⟩ hr
              show GL _ _ [(5, .bool r3), (10, .ptr 2 0)] [(kg414 t1), .cells [.bool r73.thn.never, .lst (List.map encFct r73.thn.l) false, .bool r73.els.never, .lst (List.map encFct r73.els.l) false], .cells [.bool b75, .lst (List.map encFct l76) false]] _
              replace hr : y1p r3 b75 = some r := hr
              unfold y1p at hr
              refine L_seq ?_
              refine L_reg ?_
              refine G_p rfl rfl rfl ?_
              refine G_p rfl rfl rfl ?_
              refine G_and (f := (!b75)) [_, _, _] rfl rfl ?_ ?_
              · intro hb146
                refine G_p rfl rfl rfl ?_
                refine G_h rfl rfl rfl (fun _ => rfl) ?_
                refine G_p rfl rfl rfl ?_
                exact G_nil (L_nil ⟨rfl, rfl, rfl⟩)
              · intro vs hvs
                obtain ⟨u147, u148, u149, rfl⟩ := len3 hvs
                dsimp only [junk]
                refine G_p rfl rfl rfl ?_
                refine G_nil ?_
                refine L_ret ?_
                have hr := some_s hr
                subst hr
                exact ⟨_, rfl, _, rfl, rfl⟩
end Go.Ev.Seat
namespace Go.Ev.Seat
set_option linter.unusedVariables false
set_option linter.unusedSimpArgs false
open Go Go.Ev
def LightP : Nat → Tst → Prop
  | 0, _ => False
  | k + 1, t => t.of.length ≤ 5 ∧ ∀ x, x ∈ t.of → LightP k x
theorem light_p : ∀ (k n : Nat) (t : Tst), k < n → k < 100 → ∃ b, y25 n t (k : Nat) = some b ∧ (b = true → LightP k t) := by
  intro k
  induction k with
  | zero =>
    intro n t hn _
    obtain ⟨n, rfl⟩ : ∃ m, n = m + 1 := ⟨n - 1, by omega⟩
    refine ⟨false, ?_, by simp⟩
    rw [y25, y37]; simp
  | succ k ih =>
    intro n t hn hk
    obtain ⟨n, rfl⟩ : ∃ m, n = m + 1 := ⟨n - 1, by omega⟩
    rw [y25, y37]
    have e0 : decide (((k + 1 : Nat) : Int) = 0) = false := by simp; omega
    by_cases hl : 5 < t.of.length
    · have e1 : decide (5 < ((List.length t.of : Nat) : Int)) = true := by simp; omega
      exact ⟨false, by rw [e0, e1]; rfl, by simp⟩
    · have e1 : decide (5 < ((List.length t.of : Nat) : Int)) = false := by simp; omega
      have ew : IntKind.i64.wrap (((k + 1 : Nat) : Int) - 1) = ((k : Nat) : Int) := by rw [wI (by omega) (by omega)]; omega
      have loop : ∀ (l : List Tst) (i : Nat), ∃ b, y1i (y25 n) ((k + 1 : Nat) : Int) l i = some b ∧ (b = true → ∀ x, x ∈ l → LightP k x) := by
        intro l
        induction l with
        | nil => intro i; exact ⟨true, by rw [y1i, y2w], fun _ x hx => by simp at hx⟩
        | cons x l ihl =>
          intro i
          obtain ⟨b, b1, b2⟩ := ih n x (by omega) (by omega)
          rw [y1i, ew, b1, Option.bind_some]
          cases b with
          | false => exact ⟨false, rfl, by simp⟩
          | true =>
            obtain ⟨c, c1, c2⟩ := ihl (i + 1)
            refine ⟨c, c1, fun hc y hy => ?_⟩
            rcases List.mem_cons.1 hy with rfl | hy
            · exact b2 rfl
            · exact c2 hc y hy
      obtain ⟨b, b1, b2⟩ := loop t.of 0
      refine ⟨b, ?_, fun hb => ⟨by omega, b2 hb⟩⟩
      rw [e0, e1, okLen_of (by omega)]; exact b1
def oneF (v : Int) (x : Nat) : Fts := if x = 255 then ⟨false, []⟩ else ⟨false, [⟨v, ((x : Nat) : Int)⟩]⟩
theorem one_p (v g : Int) : y27 v g = some (oneF v (lowN g)) := by
  unfold y27 oneF
  rw [low_eq]
  by_cases h : lowN g = 255
  · simp [h]
  · have : ¬ ((lowN g : Nat) : Int) = 255 := by omega
    simp [h, this]
theorem and_one (v : Int) (x : Int) : andF ⟨false, [⟨v, x⟩]⟩ ⟨false, []⟩ = oneF v (lowN x) := by
  have e1 : tgN [⟨v, x⟩] v = lowN x := by simp only [tgN, if_true]; exact and255 (lowN_lt x)
  unfold andF oneF
  simp only [Bool.or_false, Bool.false_eq_true, if_false, List.append_nil, canF, vsF, insV, List.map_cons, List.map_nil, e1]
  by_cases h : lowN x = 255
  · simp [sayF, h]
  · have : ¬ ((lowN x : Nat) : Int) = 255 := by omega
    simp [sayF, h, this]
theorem y7k (x : BitVec 64) : BitVec.ofInt 64 (IntKind.i64.wrap (x.toNat : Int)) = x := by
  have h := x.isLt
  apply BitVec.eq_of_toNat_eq
  rw [kw_i64, BitVec.toNat_ofInt]
  omega
theorem and_mod (X : BitVec 64) : (X &&& 255#64).toNat = X.toNat % 256 := by
  rw [BitVec.toNat_and]
  exact Nat.and_two_pow_sub_one_eq_mod X.toNat 8
theorem low_mod (g : Int) : lowN g = (BitVec.ofInt 64 g).toNat % 256 := and_mod _
theorem low_not (g : Int) : lowN (notB .i64 g) = 255 - lowN g := by
  have h1 : BitVec.ofInt 64 (notB .i64 g) = ~~~ BitVec.ofInt 64 g := by
    show BitVec.ofInt 64 (IntKind.i64.wrap ((BitVec.ofInt 64 (-1) ^^^ BitVec.ofInt 64 g).toNat : Int)) = _
    rw [y7k]
    rw [show BitVec.ofInt 64 (-1) = BitVec.allOnes 64 by decide, BitVec.allOnes_xor]
  rw [low_mod, low_mod, h1, BitVec.toNat_not]
  have := (BitVec.ofInt 64 g).isLt
  omega
theorem low_nat {x : Nat} (h : x < 256) : lowN (x : Int) = x := by
  rw [low_mod, ofInt_nat h]; exact Nat.mod_eq_of_lt h
theorem is_eq (v g : Int) (n : Nat) : y3r v g = some ⟨oneF v (lowN g), oneF v (255 - lowN g)⟩ ∧ g_r06_Is n v g = some ⟨oneF v (lowN g), oneF v (255 - lowN g)⟩ := by
  have h := lowN_lt g
  constructor
  · unfold y3r
    rw [one_p, Option.bind_some, one_p, Option.bind_some, low_not]
  · unfold g_r06_Is g_r06_low
    simp only [Option.bind_some, low_eq]
    have ew : IntKind.i64.wrap (255 - ((lowN g : Nat) : Int)) = ((255 - lowN g : Nat) : Int) := by rw [wI (by omega) (by omega)]; omega
    rw [ew, and_r _ _ _ (by simp), Option.bind_some, and_r _ _ _ (by simp), Option.bind_some, and_one, and_one, low_nat h, low_nat (by omega)]
theorem truth_eq (v : Int) : y2t v = some ⟨⟨false, []⟩, ⟨false, [⟨v, 2⟩]⟩⟩ := by
  unfold y2t
  rw [one_p, Option.bind_some]; rfl
def ifF (a b c : Prp) : Prp := ⟨orF (andF a.thn b.thn) (andF a.els c.thn), orF (andF a.thn b.els) (andF a.els c.els)⟩
def Few (k : Nat) (p : Prp) : Prop := p.thn.l.length ≤ k ∧ p.els.l.length ≤ k
theorem if_few {k : Nat} {a b c : Prp} (ha : Few k a) (hb : Few k b) (hc : Few k c) : Few (2 * k) (ifF a b c) := by
  obtain ⟨a1, a2⟩ := ha
  obtain ⟨b1, b2⟩ := hb
  obtain ⟨c1, c2⟩ := hc
  have h1 := andF_len a.thn b.thn
  have h2 := andF_len a.els c.thn
  have h3 := andF_len a.thn b.els
  have h4 := andF_len a.els c.els
  have h5 := orF_len (andF a.thn b.thn) (andF a.els c.thn)
  have h6 := orF_len (andF a.thn b.els) (andF a.els c.els)
  constructor
  · show (orF (andF a.thn b.thn) (andF a.els c.thn)).l.length ≤ _
    omega
  · show (orF (andF a.thn b.els) (andF a.els c.els)).l.length ≤ _
    omega
theorem if_eq {a b c : Prp} (ha : Few 1000 a) (hb : Few 1000 b) (hc : Few 1000 c) (n : Nat) : y3n a b c = some (ifF a b c) ∧ g_r06_If n a b c = some (ifF a b c) := by
  obtain ⟨a1, a2⟩ := ha
  obtain ⟨b1, b2⟩ := hb
  obtain ⟨c1, c2⟩ := hc
  have h1 := andF_len a.thn b.thn
  have h2 := andF_len a.els c.thn
  have h3 := andF_len a.thn b.els
  have h4 := andF_len a.els c.els
  constructor
  · have tt1 : okTwo a.thn b.thn = true := decide_eq_true (by omega)
    have tt2 : okTwo a.els c.thn = true := decide_eq_true (by omega)
    have tt3 : okTwo a.thn b.els = true := decide_eq_true (by omega)
    have tt4 : okTwo a.els c.els = true := decide_eq_true (by omega)
    have tt5 : okTwo (andF a.thn b.thn) (andF a.els c.thn) = true := decide_eq_true (by omega)
    have tt6 : okTwo (andF a.thn b.els) (andF a.els c.els) = true := decide_eq_true (by omega)
    simp only [y3n, y1s, oAnd, oOr, tt1, tt2, tt3, tt4, tt5, tt6, if_true, Option.bind_some]
    rfl
  · simp only [g_r06_If, and_r a.thn b.thn n (by omega), and_r a.els c.thn n (by omega), and_r a.thn b.els n (by omega), and_r a.els c.els n (by omega), or_r (andF a.thn b.thn) (andF a.els c.thn) n (by omega), or_r (andF a.thn b.els) (andF a.els c.els) n (by omega), Option.bind_some]
    rfl
theorem few_le {j k : Nat} {p : Prp} (h : Few j p) (hjk : j ≤ k) : Few k p := ⟨Nat.le_trans h.1 hjk, Nat.le_trans h.2 hjk⟩
theorem oneF_len (v : Int) (x : Nat) : (oneF v x).l.length ≤ 1 := by unfold oneF; split <;> simp
theorem idx_ok {l : List Tst} {i : Nat} (h : i < l.length) : idx l ((i : Nat) : Int) = some l[i] := by rw [idx_nat, List.getElem?_eq_getElem h]
theorem prop_own : ∀ (k : Nat) (t : Tst), LightP k t → k ≤ 8 → ∀ (n : Nat), k ≤ n → ∃ p, y34 n t = some p ∧ g_w06_own n t = some p ∧ Few (2 ^ k) p := by
  intro k
  induction k with
  | zero => intro t h; exact h.elim
  | succ k ih =>
    intro t h hk n hn
    obtain ⟨n, rfl⟩ : ∃ m, n = m + 1 := ⟨n - 1, by omega⟩
    obtain ⟨hl, hs⟩ := h
    have h2 : 1 ≤ 2 ^ (k + 1) := Nat.one_le_two_pow
    have hnone : Few (2 ^ (k + 1)) ⟨⟨false, []⟩, ⟨false, []⟩⟩ := ⟨Nat.zero_le _, Nat.zero_le _⟩
    simp only [y34, y3i, g_w06_own, y6p]
    by_cases o0 : t.op = 0
    · obtain ⟨e1, e2⟩ := is_eq t.var t.tags n
      refine ⟨⟨oneF t.var (lowN t.tags), oneF t.var (255 - lowN t.tags)⟩, ?_, ?_, few_le (j := 1) ⟨oneF_len _ _, oneF_len _ _⟩ h2⟩
      · rw [decide_eq_true o0, cond_true, e1, Option.bind_some]
      · rw [decide_eq_true o0, cond_true, e2, Option.bind_some]
    rw [decide_eq_false o0, cond_false, cond_false]
    by_cases o1 : t.op = 1
    · refine ⟨⟨⟨false, []⟩, ⟨false, [⟨t.var, 2⟩]⟩⟩, ?_, ?_, few_le (j := 1) ⟨by simp, by simp⟩ h2⟩
      · rw [decide_eq_true o1, cond_true, truth_eq, Option.bind_some]
      · rw [decide_eq_true o1, cond_true, y6d, Option.bind_some]
    rw [decide_eq_false o1, cond_false, cond_false]
    by_cases o2 : t.op = 2
    · refine ⟨⟨⟨!t.yes, []⟩, ⟨t.yes, []⟩⟩, ?_, ?_, few_le (j := 1) ⟨by simp, by simp⟩ h2⟩
      · rw [decide_eq_true o2, cond_true, y2z, Option.bind_some]
      · rw [decide_eq_true o2, cond_true, y6n, Option.bind_some]
    rw [decide_eq_false o2, cond_false, cond_false]
    by_cases o3 : t.op = 3
    · rw [decide_eq_true o3, cond_true, cond_true]
      by_cases hz : 0 < t.of.length
      · have e0 : decide (0 < ((List.length t.of : Nat) : Int)) = true := by simp; omega
        obtain ⟨p, p1, p2, p3⟩ := ih t.of[0] (hs _ (List.getElem_mem _)) (by omega) n (by omega)
        refine ⟨⟨p.els, p.thn⟩, ?_, ?_, few_le (j := 2 ^ k) ⟨p3.2, p3.1⟩ (Nat.pow_le_pow_right (by decide) (Nat.le_succ k))⟩
        · have i0 : idx t.of 0 = some t.of[0] := idx_ok (i := 0) hz
          rw [e0, cond_true, i0, Option.bind_some, p1, Option.bind_some, y3d, Option.bind_some]
        · have i0 : idx t.of 0 = some t.of[0] := idx_ok (i := 0) hz
          rw [e0, cond_true, i0, Option.bind_some, p2, Option.bind_some, g_r06_Not, Option.bind_some]
      · have e0 : decide (0 < ((List.length t.of : Nat) : Int)) = false := decide_eq_false (by omega)
        exact ⟨_, by rw [e0, cond_false, y1f, Option.bind_some], by rw [e0, cond_false], hnone⟩
    rw [decide_eq_false o3, cond_false, cond_false]
    by_cases o4 : t.op = 4
    · rw [decide_eq_true o4, cond_true, cond_true]
      by_cases hz : 2 < t.of.length
      · have e0 : decide (2 < ((List.length t.of : Nat) : Int)) = true := by simp; omega
        obtain ⟨p, p1, p2, p3⟩ := ih t.of[0] (hs _ (List.getElem_mem _)) (by omega) n (by omega)
        obtain ⟨q, q1, q2, q3⟩ := ih t.of[1] (hs _ (List.getElem_mem _)) (by omega) n (by omega)
        obtain ⟨r, r1, r2, r3⟩ := ih t.of[2] (hs _ (List.getElem_mem _)) (by omega) n (by omega)
        have hk2 : 2 ^ k ≤ 1000 := Nat.le_trans (Nat.pow_le_pow_right (by decide) (show k ≤ 8 by omega)) (by decide)
        obtain ⟨f1, f2⟩ := if_eq (few_le p3 hk2) (few_le q3 hk2) (few_le r3 hk2) n
        have i0 : idx t.of 0 = some t.of[0] := idx_ok (i := 0) (by omega)
        have i1 : idx t.of 1 = some t.of[1] := idx_ok (i := 1) (by omega)
        have i2 : idx t.of 2 = some t.of[2] := idx_ok (i := 2) (by omega)
        refine ⟨ifF p q r, ?_, ?_, ?_⟩
        · rw [e0, cond_true, i0, Option.bind_some, p1, Option.bind_some, i1, Option.bind_some, q1, Option.bind_some, i2, Option.bind_some, r1, Option.bind_some, f1, Option.bind_some]
        · rw [e0, cond_true, i0, Option.bind_some, p2, Option.bind_some, i1, Option.bind_some, q2, Option.bind_some, i2, Option.bind_some, r2, Option.bind_some, f2, Option.bind_some]
        · have := if_few p3 q3 r3
          rwa [Nat.pow_succ, Nat.mul_comm]
      · have e0 : decide (2 < ((List.length t.of : Nat) : Int)) = false := by simp; omega
        exact ⟨_, by rw [e0, cond_false, y1f, Option.bind_some], by rw [e0, cond_false], hnone⟩
    rw [decide_eq_false o4, cond_false, cond_false]
    exact ⟨_, by rw [y1f, Option.bind_some], rfl, hnone⟩
def OkF (l : List TVl) (f : Fct) : Prop := ∃ e k, 0 ≤ f.var ∧ l[f.var.toNat]? = some e ∧ e.tag = ((2 ^ k : Nat) : Int) ∧ k < 8 ∧ (lowN f.tags).testBit k = true
def Hold (l : List TVl) (F : Fts) : Prop := F.never = false ∧ ∀ f, f ∈ F.l → OkF l f
theorem tgN_bit {l : List Fct} {v : Int} {k : Nat} (hk : k < 8) : (∀ g, g ∈ l → g.var = v → (lowN g.tags).testBit k = true) → (tgN l v).testBit k = true := by
  induction l with
  | nil =>
    intro _
    have : ∀ j : Fin 8, (255 : Nat).testBit j.1 = true := by decide
    exact this ⟨k, hk⟩
  | cons f l ih =>
    intro h
    have h2 := ih fun g hg => h g (by simp [hg])
    unfold tgN
    split
    · rename_i hv; rw [Nat.testBit_and, h f (by simp) hv, h2]; rfl
    · exact h2
theorem idx_get {α : Type} {l : List α} {i : Int} {x : α} (h0 : 0 ≤ i) (h : l[i.toNat]? = some x) : idx l i = some x := by unfold idx; rw [if_pos h0, h]
theorem hold_nil (l : List TVl) : Hold l ⟨false, []⟩ := ⟨rfl, fun f hf => by simp at hf⟩
theorem ok_tg {l : List TVl} {m : List Fct} {v : Int} (hv : v ∈ m.map (·.var)) (h : ∀ f, f ∈ m → OkF l f) : ∃ e k, 0 ≤ v ∧ l[v.toNat]? = some e ∧ e.tag = ((2 ^ k : Nat) : Int) ∧ k < 8 ∧ (tgN m v).testBit k = true := by
  obtain ⟨f, hf, rfl⟩ := List.mem_map.1 hv
  obtain ⟨e, k, h1, h2, h3, h4, h5⟩ := h f hf
  refine ⟨e, k, h1, h2, h3, h4, tgN_bit h4 fun g hg hgv => ?_⟩
  obtain ⟨e', k', g1, g2, g3, g4, g5⟩ := h g hg
  rw [hgv, h2] at g2
  cases g2
  rw [h3] at g3
  have : 2 ^ k = 2 ^ k' := by omega
  have hinj : ∀ a b : Fin 8, 2 ^ a.1 = 2 ^ b.1 → a = b := by decide
  have : k = k' := congrArg Fin.val (hinj ⟨k, h4⟩ ⟨k', g4⟩ this)
  subst this
  exact g5
theorem hold_and {l : List TVl} {a b : Fts} (ha : Hold l a) (hb : Hold l b) : Hold l (andF a b) := by
  unfold andF
  rw [ha.1, hb.1]
  refine ⟨rfl, fun f hf => ?_⟩
  have hf : f ∈ sayF (canF (a.l ++ b.l)) := hf
  obtain ⟨hf1, _⟩ := List.mem_filter.1 hf
  obtain ⟨v, hv, rfl⟩ := List.mem_map.1 hf1
  obtain ⟨e, k, h1, h2, h3, h4, h5⟩ := ok_tg ((vsF_mem _ _).1 hv) (l := l) fun f hf => by
    rcases List.mem_append.1 hf with h | h
    · exact ha.2 f h
    · exact hb.2 f h
  exact ⟨e, k, h1, h2, h3, h4, by rw [low_nat (tgN_lt _ _)]; exact h5⟩
theorem hold_or {l : List TVl} {a b : Fts} (h : Hold l a ∨ Hold l b) : Hold l (orF a b) := by
  unfold orF
  split
  · rename_i hn
    rcases h with h | h
    · rw [h.1] at hn; simp at hn
    · exact hold_and h (hold_nil l)
  · split
    · rename_i hn
      rcases h with h | h
      · exact hold_and h (hold_nil l)
      · rw [h.1] at hn; simp at hn
    · refine ⟨rfl, fun f hf => ?_⟩
      obtain ⟨hf1, _⟩ := List.mem_filter.1 hf
      obtain ⟨v, hv, rfl⟩ := List.mem_map.1 hf1
      obtain ⟨hv1, hv2⟩ := List.mem_filter.1 hv
      have hv2 : v ∈ vsF b.l := of_decide_eq_true hv2
      have hlt : tgN a.l v ||| tgN b.l v < 256 := Nat.or_lt_two_pow (n := 8) (tgN_lt _ _) (tgN_lt _ _)
      rcases h with h | h
      · obtain ⟨e, k, h1, h2, h3, h4, h5⟩ := ok_tg ((vsF_mem _ _).1 hv1) h.2
        exact ⟨e, k, h1, h2, h3, h4, by rw [low_nat hlt, Nat.testBit_or, h5]; rfl⟩
      · obtain ⟨e, k, h1, h2, h3, h4, h5⟩ := ok_tg ((vsF_mem _ _).1 hv2) h.2
        exact ⟨e, k, h1, h2, h3, h4, by rw [low_nat hlt, Nat.testBit_or, h5, Bool.or_true]⟩
theorem bit_iff (g : Int) {k : Nat} (hk : k < 8) : andB .i64 ((2 ^ k : Nat) : Int) g = 0 ↔ (lowN g).testBit k = false := by
  have hp : 2 ^ k < 256 := Nat.pow_lt_pow_right (by decide) hk
  have hle : 2 ^ k &&& (BitVec.ofInt 64 g).toNat ≤ 2 ^ k := Nat.and_le_left
  have e1 : andB .i64 ((2 ^ k : Nat) : Int) g = ((2 ^ k &&& (BitVec.ofInt 64 g).toNat : Nat) : Int) := by
    show IntKind.i64.wrap (((BitVec.ofInt 64 ((2 ^ k : Nat) : Int) &&& BitVec.ofInt 64 g).toNat : Nat) : Int) = _
    rw [BitVec.toNat_and, ofInt_nat hp, wI (by omega) (by omega)]
  have e2 : (lowN g).testBit k = (BitVec.ofInt 64 g).toNat.testBit k := by
    rw [low_mod, show 256 = 2 ^ 8 by decide, Nat.testBit_mod_two_pow]; simp [hk]
  rw [e1, e2]
  constructor
  · intro h
    have h0 : 2 ^ k &&& (BitVec.ofInt 64 g).toNat = 0 := by omega
    have := congrArg (fun x => Nat.testBit x k) h0
    simpa [Nat.testBit_and, Nat.testBit_two_pow_self] using this
  · intro h
    have h0 : 2 ^ k &&& (BitVec.ofInt 64 g).toNat = 0 := by
      apply Nat.eq_of_testBit_eq
      intro i
      rw [Nat.testBit_and, Nat.zero_testBit, Nat.testBit_two_pow]
      by_cases hi : k = i
      · subst hi; rw [h, Bool.and_false]
      · simp [hi]
    rw [h0]; rfl
theorem bit_not {x k : Nat} (hx : x < 256) (hk : k < 8) : (255 - x).testBit k = !x.testBit k := by
  have : ∀ (x : Fin 256) (k : Fin 8), (255 - x.1).testBit k.1 = !x.1.testBit k.1 := by decide +kernel
  exact this ⟨x, hx⟩ ⟨k, hk⟩
theorem hold_one {l : List TVl} {v : Int} {x : Nat} (hx : x < 256) {e : TVl} {k : Nat} (h1 : 0 ≤ v) (h2 : l[v.toNat]? = some e) (h3 : e.tag = ((2 ^ k : Nat) : Int)) (h4 : k < 8) (h5 : x.testBit k = true) : Hold l (oneF v x) := by
  unfold oneF
  split
  · exact hold_nil l
  · refine ⟨rfl, fun f hf => ?_⟩
    obtain rfl := List.mem_singleton.1 hf
    exact ⟨e, k, h1, h2, h3, h4, by rw [low_nat hx]; exact h5⟩
theorem within_b (n : Nat) (m : Nat) : ∀ (k : Nat) (t : Tst), LightP k t → k ≤ n → ∃ b, y1e n t (m : Nat) = some b ∧ (b = true → ((t.op = 0 ∨ t.op = 1) → 0 ≤ t.var ∧ t.var < m) ∧ ∀ x, x ∈ t.of → ∃ n', y1e n' x (m : Nat) = some true ∧ k ≤ n' + 1) := by
  intro k
  cases k with
  | zero => intro t h; exact h.elim
  | succ k =>
    intro t h hn
    have aux : ∀ (k : Nat) (t : Tst), LightP k t → ∀ n, k ≤ n → ∃ b, y1e n t (m : Nat) = some b := by
      intro k
      induction k with
      | zero => intro t h; exact h.elim
      | succ k ih =>
        intro t h n hn
        obtain ⟨n, rfl⟩ : ∃ m, n = m + 1 := ⟨n - 1, by omega⟩
        rw [y1e, y31]
        cases (((decide (t.op = 0)) || (decide (t.op = 1))) && ((decide (t.var < 0)) || (decide (((m : Nat) : Int) ≤ t.var)))) with
        | true => exact ⟨false, rfl⟩
        | false =>
          have loop : ∀ (l : List Tst) (i : Nat), (∀ x, x ∈ l → LightP k x) → ∃ b, y16 (y1e n) ((m : Nat) : Int) l i = some b := by
            intro l
            induction l with
            | nil => intro i _; exact ⟨true, by rw [y16, y2h]⟩
            | cons x l ihl =>
              intro i hx
              obtain ⟨b, hb⟩ := ih x (hx x (by simp)) n (by omega)
              rw [y16, hb, Option.bind_some]
              cases b with
              | false => exact ⟨false, rfl⟩
              | true => exact ihl (i + 1) fun y hy => hx y (by simp [hy])
          obtain ⟨b, hb⟩ := loop t.of 0 h.2
          have hl : t.of.length < 100000000000 := Nat.lt_of_le_of_lt h.1 (by decide)
          exact ⟨b, by rw [cond_false, okLen_of hl]; exact hb⟩
    obtain ⟨n, rfl⟩ : ∃ m, n = m + 1 := ⟨n - 1, by omega⟩
    obtain ⟨b, hb⟩ := aux (k + 1) t h (n + 1) hn
    refine ⟨b, hb, fun hbt => ?_⟩
    subst hbt
    rw [y1e, y31] at hb
    cases hc : (((decide (t.op = 0)) || (decide (t.op = 1))) && ((decide (t.var < 0)) || (decide (((m : Nat) : Int) ≤ t.var)))) with
    | true => rw [hc] at hb; simp at hb
    | false =>
      have hl : t.of.length < 100000000000 := Nat.lt_of_le_of_lt h.1 (by decide)
      rw [hc, cond_false, okLen_of hl, cond_true] at hb
      refine ⟨fun ho => ?_, fun x hx => ⟨n, ?_, by omega⟩⟩
      · have h1 : (decide (t.op = 0) || decide (t.op = 1)) = true := by simpa using ho
        rw [h1, Bool.true_and, Bool.or_eq_false_iff] at hc
        have := of_decide_eq_false hc.1
        have := of_decide_eq_false hc.2
        omega
      · have loop : ∀ (l : List Tst) (i : Nat), y16 (y1e n) ((m : Nat) : Int) l i = some true → ∀ x, x ∈ l → y1e n x (m : Nat) = some true := by
          intro l
          induction l with
          | nil => intro i _ x hx; simp at hx
          | cons y l ihl =>
            intro i hi x hx
            rw [y16] at hi
            obtain ⟨b, h1, h2⟩ := bind_s hi
            cases b with
            | false => simp at h2
            | true =>
              rcases List.mem_cons.1 hx with rfl | hx
              · exact h1
              · exact ihl (i + 1) h2 x hx
        exact loop t.of 0 hb x hx
def Tags (l : List TVl) : Prop := ∀ e, e ∈ l → ∃ k, k < 8 ∧ e.tag = ((2 ^ k : Nat) : Int)
theorem holds_p (l : List TVl) (hl : Tags l) : ∀ (k : Nat) (t : Tst), LightP k t → k ≤ 8 → ∀ (n w : Nat), k ≤ n → k ≤ w → y1e w t (l.length : Nat) = some true → ∀ p, y34 n t = some p → ∃ b, g_w06_yes n t l = some b ∧ Hold l (if b then p.thn else p.els) := by
  intro k
  induction k with
  | zero => intro t h; exact h.elim
  | succ k ih =>
    intro t h hk n w hn hw hwi p hp
    obtain ⟨n, rfl⟩ : ∃ m, n = m + 1 := ⟨n - 1, by omega⟩
    obtain ⟨b0, w1, w2⟩ := within_b w l.length (k + 1) t h hw
    rw [hwi] at w1
    cases w1
    obtain ⟨win, wsub⟩ := w2 rfl
    obtain ⟨hl5, hs⟩ := h
    simp only [y34, y3i] at hp
    simp only [g_w06_yes, y4j]
    by_cases o0 : t.op = 0
    · obtain ⟨v0, v1⟩ := win (.inl o0)
      obtain ⟨e1, _⟩ := is_eq t.var t.tags n
      rw [decide_eq_true o0, cond_true, e1, Option.bind_some] at hp
      cases hp
      have hin : t.var.toNat < l.length := by omega
      obtain ⟨kk, k1, k2⟩ := hl l[t.var.toNat] (List.getElem_mem _)
      have hg : l[t.var.toNat]? = some l[t.var.toNat] := List.getElem?_eq_getElem hin
      have hx : idx l t.var = some l[t.var.toNat] := idx_get v0 hg
      have hc : (decide (0 ≤ t.var) && decide (t.var < ((List.length l : Nat) : Int))) = true := by simp; omega
      rw [decide_eq_true o0, cond_true, hc, cond_true, hx, Option.bind_some, Option.bind_some, k2]
      refine ⟨_, rfl, ?_⟩
      by_cases hb : andB .i64 ((2 ^ kk : Nat) : Int) t.tags = 0
      · have := (bit_iff t.tags k1).1 hb
        rw [decide_eq_true hb]
        exact hold_one (by have := lowN_lt t.tags; omega) v0 hg k2 k1 (by rw [bit_not (lowN_lt _) k1, this]; rfl)
      · have : (lowN t.tags).testBit kk = true := by
          cases hq : (lowN t.tags).testBit kk with
          | true => rfl
          | false => exact absurd ((bit_iff t.tags k1).2 hq) hb
        rw [decide_eq_false hb]
        exact hold_one (lowN_lt _) v0 hg k2 k1 this
    rw [decide_eq_false o0, cond_false] at hp ⊢
    by_cases o1 : t.op = 1
    · obtain ⟨v0, v1⟩ := win (.inr o1)
      rw [decide_eq_true o1, cond_true, truth_eq, Option.bind_some] at hp
      cases hp
      have hin : t.var.toNat < l.length := by omega
      obtain ⟨kk, k1, k2⟩ := hl l[t.var.toNat] (List.getElem_mem _)
      have hg : l[t.var.toNat]? = some l[t.var.toNat] := List.getElem?_eq_getElem hin
      have hx : idx l t.var = some l[t.var.toNat] := idx_get v0 hg
      have hc : (decide (t.var < 0) || decide (((List.length l : Nat) : Int) ≤ t.var)) = false := by simp; omega
      rw [decide_eq_true o1, cond_true, hc, cond_false, hx, Option.bind_some, Option.bind_some]
      by_cases h2 : (l[t.var.toNat]).tag = 2
      · rw [decide_eq_true h2, Bool.not_true, cond_false, Option.bind_some, Option.bind_some]
        refine ⟨_, rfl, ?_⟩
        cases (l[t.var.toNat]).yes with
        | true => exact hold_nil l
        | false =>
          refine ⟨rfl, fun f hf => ?_⟩
          have hf : f ∈ [(⟨t.var, 2⟩ : Fct)] := hf
          obtain rfl := List.mem_singleton.1 hf
          exact ⟨_, 1, v0, hg, h2, by decide, (show (lowN (2 : Int)).testBit 1 = true from by decide)⟩
      · rw [decide_eq_false h2, Bool.not_false, cond_true, Option.bind_some]
        exact ⟨_, rfl, hold_nil l⟩
    rw [decide_eq_false o1, cond_false] at hp ⊢
    by_cases o2 : t.op = 2
    · rw [decide_eq_true o2, cond_true, y2z, Option.bind_some] at hp
      cases hp
      rw [decide_eq_true o2, cond_true]
      refine ⟨_, rfl, ?_⟩
      cases t.yes with
      | true => exact hold_nil l
      | false => exact hold_nil l
    rw [decide_eq_false o2, cond_false] at hp ⊢
    by_cases o3 : t.op = 3
    · rw [decide_eq_true o3, cond_true] at hp ⊢
      by_cases hz : 0 < t.of.length
      · have e0 : decide (0 < ((List.length t.of : Nat) : Int)) = true := decide_eq_true (by omega)
        have e1 : decide (((List.length t.of : Nat) : Int) = 0) = false := decide_eq_false (by omega)
        have i0 : idx t.of 0 = some t.of[0] := idx_ok (i := 0) hz
        rw [e0, cond_true, i0, Option.bind_some] at hp
        obtain ⟨q, q1, q2⟩ := bind_s hp
        rw [y3d, Option.bind_some] at q2
        cases q2
        obtain ⟨w', w3, w4⟩ := wsub t.of[0] (List.getElem_mem _)
        obtain ⟨b, b1, b2⟩ := ih t.of[0] (hs _ (List.getElem_mem _)) (by omega) n w' (by omega) (by omega) w3 q q1
        rw [e1, cond_false, i0, Option.bind_some, b1, Option.bind_some, Option.bind_some]
        refine ⟨_, rfl, ?_⟩
        cases b with
        | true => exact b2
        | false => exact b2
      · have e0 : decide (0 < ((List.length t.of : Nat) : Int)) = false := decide_eq_false (by omega)
        have e1 : decide (((List.length t.of : Nat) : Int) = 0) = true := decide_eq_true (by omega)
        rw [e0, cond_false, y1f, Option.bind_some] at hp
        cases hp
        rw [e1, cond_true, Option.bind_some]
        exact ⟨_, rfl, hold_nil l⟩
    rw [decide_eq_false o3, cond_false] at hp ⊢
    by_cases o4 : t.op = 4
    · rw [decide_eq_true o4, cond_true] at hp ⊢
      by_cases hz : 2 < t.of.length
      · have e0 : decide (2 < ((List.length t.of : Nat) : Int)) = true := decide_eq_true (by omega)
        have e1 : decide (((List.length t.of : Nat) : Int) < 3) = false := decide_eq_false (by omega)
        have i0 : idx t.of 0 = some t.of[0] := idx_ok (i := 0) (by omega)
        have i1 : idx t.of 1 = some t.of[1] := idx_ok (i := 1) (by omega)
        have i2 : idx t.of 2 = some t.of[2] := idx_ok (i := 2) (by omega)
        have hk2 : 2 ^ k ≤ 1000 := Nat.le_trans (Nat.pow_le_pow_right (by decide) (show k ≤ 8 by omega)) (by decide)
        obtain ⟨p0, p1, _, p3⟩ := prop_own k t.of[0] (hs _ (List.getElem_mem _)) (by omega) n (by omega)
        obtain ⟨q0, q1, _, q3⟩ := prop_own k t.of[1] (hs _ (List.getElem_mem _)) (by omega) n (by omega)
        obtain ⟨r0, r1, _, r3⟩ := prop_own k t.of[2] (hs _ (List.getElem_mem _)) (by omega) n (by omega)
        obtain ⟨f1, _⟩ := if_eq (few_le p3 hk2) (few_le q3 hk2) (few_le r3 hk2) n
        rw [e0, cond_true, i0, Option.bind_some, p1, Option.bind_some, i1, Option.bind_some, q1, Option.bind_some, i2, Option.bind_some, r1, Option.bind_some, f1, Option.bind_some] at hp
        cases hp
        obtain ⟨w', w3, w4⟩ := wsub t.of[0] (List.getElem_mem _)
        obtain ⟨b, b1, b2⟩ := ih t.of[0] (hs _ (List.getElem_mem _)) (by omega) n w' (by omega) (by omega) w3 p0 p1
        obtain ⟨w', w3, w4⟩ := wsub t.of[1] (List.getElem_mem _)
        obtain ⟨c, c1, c2⟩ := ih t.of[1] (hs _ (List.getElem_mem _)) (by omega) n w' (by omega) (by omega) w3 q0 q1
        obtain ⟨w', w3, w4⟩ := wsub t.of[2] (List.getElem_mem _)
        obtain ⟨d, d1, d2⟩ := ih t.of[2] (hs _ (List.getElem_mem _)) (by omega) n w' (by omega) (by omega) w3 r0 r1
        rw [e0, cond_true, i0, Option.bind_some, b1, Option.bind_some, Option.bind_some]
        cases b with
        | true =>
          rw [cond_true, i1, Option.bind_some, c1, Option.bind_some]
          refine ⟨_, rfl, ?_⟩
          cases c with
          | true => exact hold_or (.inl (hold_and b2 c2))
          | false => exact hold_or (.inl (hold_and b2 c2))
        | false =>
          rw [cond_false, e1, cond_false, i2, Option.bind_some, d1, Option.bind_some, Option.bind_some]
          refine ⟨_, rfl, ?_⟩
          cases d with
          | true => exact hold_or (.inr (hold_and b2 d2))
          | false => exact hold_or (.inr (hold_and b2 d2))
      · have e0 : decide (2 < ((List.length t.of : Nat) : Int)) = false := decide_eq_false (by omega)
        have e1 : decide (((List.length t.of : Nat) : Int) < 3) = true := decide_eq_true (by omega)
        rw [e0, cond_false, y1f, Option.bind_some] at hp
        cases hp
        rw [e0, cond_false, Option.bind_some, cond_false, e1, cond_true, Option.bind_some]
        exact ⟨_, rfl, hold_nil l⟩
    rw [decide_eq_false o4, cond_false] at hp ⊢
    rw [y1f, Option.bind_some] at hp
    cases hp
    exact ⟨_, rfl, hold_nil l⟩
theorem hold_l2 (l : List TVl) (F : Fts) (h : Hold l F) : ∀ (fs : List Fct) (i : Nat), (∀ f, f ∈ fs → OkF l f) → y12 l true F.never fs i = some true
  | [], i, _ => by rw [y12, y1p, h.1]; rfl
  | f :: fs, i, hf => by
    obtain ⟨e, k, h1, h2, h3, h4, h5⟩ := hf f (by simp)
    have hin := (List.getElem?_eq_some_iff.1 h2).1
    have hc : (decide (f.var < 0) || decide (((List.length l : Nat) : Int) ≤ f.var)) = false := by simp; omega
    have hx : idx l f.var = some e := idx_get h1 h2
    have hb : ¬ andB .i64 ((2 ^ k : Nat) : Int) f.tags = 0 := fun hq => by rw [(bit_iff f.tags h4).1 hq] at h5; simp at h5
    rw [y12, hc, cond_false, hx, Option.bind_some, Option.bind_some, h3, decide_eq_false hb, cond_false, hold_l2 l F h fs (i + 1) fun g hg => hf g (by simp [hg])]
theorem holds_t (t : Tst) (l : List TVl) : y2s 100 t l = some true := by
  unfold y2s oAwake
  rw [Option.bind_some]
  obtain ⟨b, b1, b2⟩ := light_p 6 100 t (by decide) (by decide)
  have b1 : y25 100 t 6 = some b := b1
  rw [b1, Option.bind_some]
  cases b with
  | false => rfl
  | true =>
    by_cases hlen : 8 < l.length
    · have : (!true || decide (8 < ((List.length l : Nat) : Int))) = true := by simp; omega
      rw [this, cond_true]
    · have h0 : (!true || decide (8 < ((List.length l : Nat) : Int))) = false := by simp; omega
      rw [h0, cond_false, okLen_of (by omega), cond_true]
      have loop : ∀ (rest P : List TVl), l = P ++ rest → Tags P → y11 100 t l true rest P.length = some true := by
        intro rest
        induction rest with
        | nil =>
          intro P hP hT
          obtain rfl : l = P := by simpa using hP
          rw [y11, y1n]
          obtain ⟨c, c1, c2⟩ := within_b 100 l.length 6 t (b2 rfl) (by decide)
          rw [c1, Option.bind_some]
          cases c with
          | false => rfl
          | true =>
            obtain ⟨p, p1, _, p3⟩ := prop_own 6 t (b2 rfl) (by decide) 100 (by decide)
            obtain ⟨d, d1, d2⟩ := holds_p l hT 6 t (b2 rfl) (by decide) 100 100 (by decide) (by decide) c1 p p1
            have h1 : p.thn.l.length < 100000000000 := Nat.lt_of_le_of_lt p3.1 (by decide)
            have h2 : p.els.l.length < 100000000000 := Nat.lt_of_le_of_lt p3.2 (by decide)
            rw [Bool.not_true, cond_false, p1, Option.bind_some, d1, Option.bind_some]
            cases d with
            | true => rw [cond_true, y1d, okLen_of h1, cond_true]; exact hold_l2 l p.thn d2 _ 0 d2.2
            | false => rw [cond_false, y1d, okLen_of h2, cond_true]; exact hold_l2 l p.els d2 _ 0 d2.2
        | cons e rest ih =>
          intro P hP hT
          rw [y11]
          by_cases hc : ((((((((!decide (e.tag = 1)) && (!decide (e.tag = 2))) && (!decide (e.tag = 4))) && (!decide (e.tag = 8))) && (!decide (e.tag = 16))) && (!decide (e.tag = 32))) && (!decide (e.tag = 64))) && (!decide (e.tag = 128))) = true
          · rw [hc, cond_true]
          · have hc' : ((((((((!decide (e.tag = 1)) && (!decide (e.tag = 2))) && (!decide (e.tag = 4))) && (!decide (e.tag = 8))) && (!decide (e.tag = 16))) && (!decide (e.tag = 32))) && (!decide (e.tag = 64))) && (!decide (e.tag = 128))) = false := by
              cases hq : ((((((((!decide (e.tag = 1)) && (!decide (e.tag = 2))) && (!decide (e.tag = 4))) && (!decide (e.tag = 8))) && (!decide (e.tag = 16))) && (!decide (e.tag = 32))) && (!decide (e.tag = 64))) && (!decide (e.tag = 128))) with
              | true => exact absurd hq hc
              | false => rfl
            rw [hc', cond_false]
            have := ih (P ++ [e]) (by simpa using hP) (by
              intro x hx
              rcases List.mem_append.1 hx with hx | hx
              · exact hT x hx
              · rw [List.mem_singleton.1 hx]
                simp only [Bool.and_eq_true, Bool.not_eq_true', decide_eq_false_iff_not, not_and, Classical.not_not] at hc
                by_cases h1 : e.tag = 1
                · exact ⟨0, by decide, h1⟩
                by_cases h2 : e.tag = 2
                · exact ⟨1, by decide, h2⟩
                by_cases h3 : e.tag = 4
                · exact ⟨2, by decide, h3⟩
                by_cases h4 : e.tag = 8
                · exact ⟨3, by decide, h4⟩
                by_cases h5 : e.tag = 16
                · exact ⟨4, by decide, h5⟩
                by_cases h6 : e.tag = 32
                · exact ⟨5, by decide, h6⟩
                by_cases h7 : e.tag = 64
                · exact ⟨6, by decide, h7⟩
                · exact ⟨7, by decide, by simpa [h1, h2, h3, h4, h5, h6, h7] using hc⟩)
            have e4 : ((P ++ [e]).length : Nat) = P.length + 1 := by simp
            rw [e4] at this
            exact this
      exact loop l [] rfl (fun e he => by simp at he)
theorem nholds (t : Tst) (l : List TVl) : ∃ n, pcall (tabOf tabL) n 6 [vTst t, .lst (l.map encTVl) false] = some (.ok (.bool true)) := (y5b (holds_t t l)).get
end Go.Ev.Seat
namespace Go.Ev
set_option linter.unusedVariables false
set_option linter.unusedSimpArgs false
open Go
def HasT (P : Program) : Nat → TypeId → List AVal → Prop
  | 0, _, _ => False
  | n + 1, t, as => match P.underlying t with
    | some .bool => ∃ b, as = [.bool b]
    | some (.int k) => ∃ i, (Lit.int k i).wf = true ∧ as = [.int k i]
    | some .string => ∃ s : List UInt8, s.length ≤ maxLen ∧ as = [.str s]
    | some (.slice e) => ∃ xs : List AVal, xs.length ≤ maxLen ∧ as = [.lst xs false] ∧ ∀ x, x ∈ xs → HasT P n e x.flat ∧ (aggB P e = some true → ∃ cs, x = .agg cs) ∧ (aggB P e = some false → x.flat = [x])
    | some (.struct fs) => ∃ parts : List (List AVal), parts.length = fs.size ∧ as = parts.flatten ∧ ∀ (i : Nat) (f : Field) (p : List AVal), fs[i]? = some f → parts[i]? = some p → HasT P n f.type p
    | some (.array m e) => ∃ parts : List (List AVal), parts.length = m ∧ as = parts.flatten ∧ ∀ p, p ∈ parts → HasT P n e p
    | some (.pointer e) => as = [.nilp] ∨ ∃ cs, as = [.ro cs] ∧ HasT P n e cs
    | _ => False
def contig (P : Program) : Nat → List Field → Nat → Bool
  | off, [], tot => Nat.beq off tot
  | off, f :: fs, tot => Nat.beq f.offset off && contig P (off + P.cellsOf f.type) fs tot
def plainT (P : Program) (ts : List TypeId) (t : TypeId) : Bool :=
  match P.underlying t with
  | some .bool => true
  | some (.int _) => true
  | some .string => true
  | some (.slice e) => ts.contains e && Nat.ble 1 (P.cellsOf e)
  | some (.struct fs) => contig P 0 fs.toList (P.cellsOf t) && fs.toList.all fun f => ts.contains f.type
  | some (.array m e) => ts.contains e && Nat.beq (P.cellsOf t) (m * P.cellsOf e)
  | some (.pointer e) => ts.contains e && Nat.ble 1 (P.cellsOf e)
  | _ => false
def plainTs (P : Program) (ts : List TypeId) : Bool := ts.all (plainT P ts)
theorem build {α : Type} {Pr : Nat → α → Prop} : ∀ (n : Nat), (∀ i, i < n → ∃ y, Pr i y) → ∃ l : List α, l.length = n ∧ ∀ (i : Nat) (y : α), l[i]? = some y → Pr i y
  | 0, _ => ⟨[], rfl, by simp⟩
  | n + 1, h => by
    obtain ⟨l, h1, h2⟩ := build n (fun i hi => h i (by omega))
    obtain ⟨y, hy⟩ := h n (by omega)
    refine ⟨l ++ [y], by simp [h1], ?_⟩
    intro i z hz
    by_cases hi : i < l.length
    · rw [List.getElem?_append_left hi] at hz; exact h2 i z hz
    · rw [List.getElem?_append_right (by omega)] at hz
      have : i = n := by
        have := (List.getElem?_eq_some_iff.1 hz).1
        simp at this; omega
      subst this
      simp [h1] at hz; subst hz; exact hy
def scal : AVal → Bool
  | .agg _ => false
  | .tup _ => false
  | _ => true
def Flat1 (c : AVal) : Prop := rfree c ∧ scal c = true
theorem Flat1.flat {c : AVal} (h : Flat1 c) : c.flat = [c] := by
  have := h.2
  cases c <;> simp [scal] at this <;> rfl
theorem Flat1.one {Γ : Gh} {c : AVal} {d : Value} (h : Flat1 c) (hr : Rep Γ c d) : d.oneCell' = true := by
  have := h.2
  cases hr <;> first | rfl | (simp [scal] at this; done)
section
variable {H : Type} {enc : TypeId × Value → H} {P : Program} {w : World}
theorem y3g {Γ : Gh} : ∀ {parts : List (List AVal)} {cparts : List (List Value)}, parts.length = cparts.length → (∀ (i : Nat) (p : List AVal) (c : List Value), parts[i]? = some p → cparts[i]? = some c → Reps Γ p c) → Reps Γ parts.flatten cparts.flatten
  | [], [], _, _ => Reps.nil Γ
  | p :: ps, c :: cs, hl, h => by
    simp only [List.flatten_cons]
    exact (h 0 p c rfl rfl).append (y3g (by simpa using hl) fun i p c h1 h2 => h (i + 1) p c (by simpa using h1) (by simpa using h2))
  | [], _ :: _, hl, _ => by simp at hl
  | _ :: _, [], hl, _ => by simp at hl
theorem y5p : ∀ {fs : List Field} {off tot : Nat} {cs : List Value}, contig P off fs tot = true → cs.length = tot → (fs.map fun f => (cs.drop f.offset).take (P.cellsOf f.type)).flatten = cs.drop off
  | [], off, tot, cs, h, hl => by
    have := Nat.eq_of_beq_eq_true (by simpa [contig] using h)
    simp; omega
  | f :: fs, off, tot, cs, h, hl => by
    simp only [contig, Bool.and_eq_true] at h
    have h1 := Nat.eq_of_beq_eq_true h.1
    simp only [List.map_cons, List.flatten_cons]
    rw [y5p h.2 hl, h1, ← List.drop_drop, List.take_append_drop]
theorem y6b {z : Nat} : ∀ {m : Nat} {cs : List Value}, cs.length = m * z → ((List.range m).map fun i => (cs.drop (i * z)).take z).flatten = cs
  | 0, cs, hl => by
    have : cs = [] := List.length_eq_zero_iff.1 (by omega)
    simp [this]
  | m + 1, cs, hl => by
    rw [List.range_succ_eq_map, List.map_cons, List.flatten_cons, List.map_map]
    have h := y6b (z := z) (m := m) (cs := cs.drop z) (by simp [hl, Nat.add_mul])
    have e : ((fun i => (cs.drop (i * z)).take z) ∘ Nat.succ) = fun i => ((cs.drop z).drop (i * z)).take z := by
      funext i
      simp only [Function.comp, List.drop_drop, Nat.succ_eq_add_one, Nat.add_mul, Nat.one_mul]
      rw [Nat.add_comm]
    rw [e, h]
    simp
def mkEl (b : Option Bool) (p : List AVal) : AVal := match b with
  | some false => p.headD .nilp
  | _ => .agg p
theorem y8m {b : Option Bool} {p : List AVal} (h : ∀ c, c ∈ p → rfree c) : rfree (mkEl b p) := by
  unfold mkEl
  split
  · cases p with
    | nil => rfl
    | cons c cs => exact h c (by simp)
  · exact lowL_iff.2 h
theorem y4z {ts : List TypeId} (hp : plainTs P ts = true) {n : Nat} {e : TypeId} {p : List AVal} (he : e ∈ ts) (ha : aggB P e = some false) (h : HasT P n e p) : ∃ c, p = [c] := by
  cases n with
  | zero => cases h
  | succ n =>
    unfold aggB at ha
    unfold HasT at h
    cases hu : P.underlying e with
    | none => rw [hu] at h; cases h
    | some u =>
      rw [hu] at h ha
      cases u <;> simp only [reduceCtorEq] at h ha <;> first | (cases ha; done) | (cases h; done) | skip
      · obtain ⟨b, rfl⟩ := h; exact ⟨_, rfl⟩
      · obtain ⟨i, _, rfl⟩ := h; exact ⟨_, rfl⟩
      · obtain ⟨b, _, rfl⟩ := h; exact ⟨_, rfl⟩
      · rcases h with rfl | ⟨cs, rfl, _⟩ <;> exact ⟨_, rfl⟩
      · obtain ⟨xs, _, rfl, _⟩ := h; exact ⟨_, rfl⟩
theorem mkEl_flat {ts : List TypeId} (hp : plainTs P ts = true) {n : Nat} {e : TypeId} {p : List AVal} (he : e ∈ ts) (h : HasT P n e p) (hf : ∀ c, c ∈ p → Flat1 c) : (mkEl (aggB P e) p).flat = p := by
  unfold mkEl
  split
  · rename_i ha
    obtain ⟨c, rfl⟩ := y4z hp he ha h
    exact (hf c (by simp)).flat
  · rfl
theorem y72 {b : Option Bool} : ∀ {parts : List (List AVal)}, (∀ p, p ∈ parts → (mkEl b p).flat = p) → flatL (parts.map (mkEl b)) = parts.flatten
  | [], _ => rfl
  | p :: ps, h => by
    simp only [List.map_cons, flatL, List.flatten_cons, h p (by simp)]
    rw [y72 fun q hq => h q (by simp [hq])]
theorem y6a {α : Type} {z : Nat} (hz : 0 < z) : ∀ {parts : List (List α)} {j : Nat} {c : α}, (∀ p, p ∈ parts → p.length = z) → parts.flatten[j]? = some c → ∃ p, parts[j / z]? = some p ∧ p[j % z]? = some c
  | [], j, c, _, h => by simp at h
  | p :: ps, j, c, hl, h => by
    have hp := hl p (by simp)
    rw [List.flatten_cons] at h
    by_cases hj : j < z
    · rw [List.getElem?_append_left (by omega)] at h
      rw [Nat.div_eq_of_lt hj, Nat.mod_eq_of_lt hj]
      exact ⟨p, rfl, h⟩
    · rw [List.getElem?_append_right (by omega), hp] at h
      obtain ⟨q, h1, h2⟩ := y6a hz (fun q hq => hl q (by simp [hq])) h
      have e1 : j / z = (j - z) / z + 1 := by
        rw [← Nat.add_div_right _ hz]; congr 1; omega
      have e2 : j % z = (j - z) % z := by
        rw [Nat.mod_eq_sub_mod (by omega)]
      exact ⟨q, by rw [e1]; exact h1, by rw [e2]; exact h2⟩
theorem trod_has {ts : List TypeId} (hp : plainTs P ts = true) : ∀ (n : Nat) (t : TypeId) (cs : List Value) (x : DataW H × List MemPlace), t ∈ ts → DataW.trod enc P w 0 (fun _ => true) true n t cs = some x →
    ∃ as : List AVal, Reps (Gh.all w) as cs ∧ HasT P n t as ∧ ∀ c, c ∈ as → Flat1 c := by
  intro n
  induction n with
  | zero => intro t cs x _ h; simp [DataW.trod] at h
  | succ n ih =>
    intro t cs x ht h
    have hpt := List.all_eq_true.1 hp t ht
    unfold plainT at hpt
    have hT : ∀ as, HasT P (n + 1) t as = HasT P (n + 1) t as := fun _ => rfl
    have single : ∀ (a : AVal) (v : Value), cs = [v] → Rep (Gh.all w) a v → Flat1 a → ∀ Q : List AVal → Prop, Q [a] → ∃ as : List AVal, Reps (Gh.all w) as cs ∧ Q as ∧ ∀ c, c ∈ as → Flat1 c := by
      rintro a v rfl hr hf Q hQ
      exact ⟨[a], Reps.cons hr (Reps.nil _), hQ, by simpa using hf⟩
    split at hpt
    · rename_i hu
      obtain ⟨b, hc, _⟩ := DataW.trod_bool hu h
      simp only [HasT, hu]
      exact single (.bool b) _ hc (.bool b) ⟨rfl, rfl⟩ _ ⟨b, rfl⟩
    · rename_i k hu
      obtain ⟨i, hc, _, hw⟩ := DataW.trod_int hu h
      simp only [HasT, hu]
      exact single (.int k i) _ hc (.int k i) ⟨rfl, rfl⟩ _ ⟨i, hw, rfl⟩
    · rename_i hu
      obtain ⟨s, hc, _, hl⟩ := DataW.trod_string hu h
      simp only [HasT, hu]
      refine single (.str s.data.toList) _ hc ?_ ⟨rfl, rfl⟩ _ ⟨s.data.toList, by rw [Array.length_toList]; exact hl, rfl⟩
      have := Rep.str (Γ := Gh.all w) s.data.toList
      simpa using this
    · rename_i e hu
      simp only [Bool.and_eq_true] at hpt
      have hz : 1 ≤ P.cellsOf e := Nat.le_of_ble_eq_true hpt.2
      have he : e ∈ ts := by simpa using hpt.1
      simp only [HasT, hu]
      rcases DataW.trod_slice hu h with ⟨hc, _⟩ | ⟨a, len, cap, elems, rest, m, hm, hc, _, _, hlc, hmax, hel, hget, _, _⟩
      · exact single (.lst [] false) _ hc (.lstN false) ⟨rfl, rfl⟩ _ ⟨[], by simp, rfl, by simp⟩
      · cases hm
        have each : ∀ i, i < len → ∃ p : List AVal, ∃ ds : List Value, p.length = P.cellsOf e ∧ Reps (Gh.all w) p ds ∧ HasT P n e p ∧ (∀ c, c ∈ p → Flat1 c) ∧ ∀ j, j < P.cellsOf e → w.cell? ((a.add (i * P.cellsOf e)).add j) = ds[j]? := by
          intro i hi
          have h1 := hget i hi
          have hx : elems[i]? = some elems[i] := List.getElem?_eq_getElem (by omega)
          rw [hx] at h1
          obtain ⟨cs', hc1, hc2⟩ := Option.bind_eq_some_iff.1 h1
          obtain ⟨p, h2, h3, h4⟩ := ih e cs' elems[i] he hc2
          obtain ⟨_, hl, hcell⟩ := World.cells?_some hc1
          exact ⟨p, cs', by rw [← h2.1, hl], h2, h3, h4, hcell⟩
        obtain ⟨parts, hpl, hpe⟩ := build len each
        rcases Nat.eq_zero_or_pos len with hl0 | hpos
        · subst hl0
          exact single (.lst [] false) _ hc (.lstE (by simp)) ⟨rfl, rfl⟩ _ ⟨[], by simp, rfl, by simp⟩
        · obtain ⟨blk, off, spot⟩ := a
          have hspot : spot = none := by
            obtain ⟨p, ds, q1, q2, _, _, q3⟩ := each 0 hpos
            have h0 := q3 0 hz
            rw [Nat.zero_mul, Addr.add_zero', Addr.add_zero'] at h0
            cases hx : ds[0]? with
            | none => have := (List.getElem?_eq_none_iff.1 hx); have := q2.1; omega
            | some v => rw [hx] at h0; exact World.cell?_spot h0
          subst hspot
          refine single (.lst (parts.map (mkEl (aggB P e))) false) _ hc ?_ ⟨?_, rfl⟩ _ ⟨parts.map (mkEl (aggB P e)), by simpa [hpl] using Nat.le_trans hlc hmax, rfl, ?_⟩
          · have hfl : ∀ p, p ∈ parts → (mkEl (aggB P e) p).flat = p := by
              intro p hp1
              obtain ⟨i, hi⟩ := List.getElem?_of_mem hp1
              obtain ⟨ds, q1, q2, q3, q4, q5⟩ := hpe i p hi
              exact mkEl_flat hp he q3 q4
            have hlens : ∀ p, p ∈ parts → p.length = P.cellsOf e := by
              intro p hp1
              obtain ⟨i, hi⟩ := List.getElem?_of_mem hp1
              obtain ⟨ds, q1, _⟩ := hpe i p hi
              exact q1
            have hall : ∀ (j : Nat) (c : AVal), parts.flatten[j]? = some c → ∃ d, w.cell? ⟨blk, off + j, none⟩ = some d ∧ Rep (Gh.all w) c d ∧ Flat1 c := by
              intro j c hj
              obtain ⟨p, hp1, hp2⟩ := y6a hz hlens hj
              obtain ⟨ds, q1, q2, q3, q4, q5⟩ := hpe _ p hp1
              obtain ⟨d, hd, hr⟩ := q2.get hp2
              refine ⟨d, ?_, hr, q4 c (List.mem_of_getElem? hp2)⟩
              have h6 := q5 (j % P.cellsOf e) (Nat.mod_lt _ hz)
              rw [Addr.add_lit, Addr.add_lit] at h6
              rw [← hd, ← h6]
              congr 2
              rw [Nat.add_assoc, Nat.mul_comm, Nat.div_add_mod]
            have hflat : flatL (parts.map (mkEl (aggB P e))) = parts.flatten := y72 hfl
            have hlen2 : (parts.map (mkEl (aggB P e))).length = len := by simp [hpl]
            have key := Rep.lst (Γ := Gh.all w) (xs := parts.map (mkEl (aggB P e))) (e := false) (g := blk) (off := off) (cap := cap) (es := P.cellsOf e) (fun j => (w.cell? ⟨blk, off + j, none⟩).getD undef) (by omega) (by simp) ?_ ?_ ?_ ?_ ?_
            · rw [hlen2] at key; exact key
            · intro x hx
              obtain ⟨p, hp1, rfl⟩ := List.mem_map.1 hx
              simp only [AVal.width, hfl p hp1, hlens p hp1]
            · intro x hx
              obtain ⟨p, hp1, rfl⟩ := List.mem_map.1 hx
              obtain ⟨i, hi⟩ := List.getElem?_of_mem hp1
              obtain ⟨ds, q1, q2, q3, q4, q5⟩ := hpe i p hi
              exact y8m (fun c hc => (q4 c hc).1)
            · intro j c hj
              rw [hflat] at hj
              obtain ⟨d, h1, h2, h3⟩ := hall j c hj
              simp only [Gh.all, h1, Option.getD_some]
            · intro j c hj
              rw [hflat] at hj
              obtain ⟨d, h1, h2, h3⟩ := hall j c hj
              simp only [h1, Option.getD_some]
              exact h3.one h2
            · intro j c hj
              rw [hflat] at hj
              obtain ⟨d, h1, h2, h3⟩ := hall j c hj
              simp only [h1, Option.getD_some]
              exact h2
          · rfl
          · intro x hx
            obtain ⟨p, hp1, rfl⟩ := List.mem_map.1 hx
            obtain ⟨i, hi⟩ := List.getElem?_of_mem hp1
            obtain ⟨ds, q1, q2, q3, q4, q5⟩ := hpe i p hi
            have hf := mkEl_flat hp he q3 q4
            refine ⟨by rw [hf]; exact q3, ?_, ?_⟩
            · intro h; exact ⟨p, by rw [h]; rfl⟩
            · intro h
              rw [hf]
              obtain ⟨c, hc1⟩ := y4z hp he h q3
              rw [hc1, h]; rfl
    · rename_i fs hu
      simp only [Bool.and_eq_true] at hpt
      simp only [HasT, hu]
      obtain ⟨xs, m, hm, _, hlen, hxl, hget⟩ := DataW.trod_struct hu h
      cases hm
      have each : ∀ i, i < fs.size → ∃ p : List AVal, ∀ f, fs[i]? = some f → Reps (Gh.all w) p ((cs.drop f.offset).take (P.cellsOf f.type)) ∧ HasT P n f.type p ∧ ∀ c, c ∈ p → Flat1 c := by
        intro i hi
        have hfi : fs[i]? = some fs[i] := Array.getElem?_eq_getElem hi
        have hx : xs[i]? = some xs[i] := List.getElem?_eq_getElem (by omega)
        have hmem : fs[i].type ∈ ts := by
          have := List.all_eq_true.1 hpt.2 fs[i] (by simp)
          simpa using this
        obtain ⟨p, h1, h2, h3⟩ := ih fs[i].type _ xs[i] hmem (by rw [hget i _ hfi, hx])
        exact ⟨p, fun f hf => by rw [hfi] at hf; cases hf; exact ⟨h1, h2, h3⟩⟩
      obtain ⟨parts, hpl, hpe⟩ := build fs.size each
      refine ⟨parts.flatten, ?_, ⟨parts, hpl, rfl, fun i f p hf hp => ((hpe i p hp) f hf).2.1⟩, ?_⟩
      · have := y5p (cs := cs) hpt.1 hlen
        rw [List.drop_zero] at this
        rw [← this]
        refine y3g (by simp [hpl]) ?_
        intro i p c h1 h2
        rw [List.getElem?_map, Option.map_eq_some_iff] at h2
        obtain ⟨f, hf, rfl⟩ := h2
        exact ((hpe i p h1) f (by simpa using hf)).1
      · intro c hc
        obtain ⟨p, hp1, hp2⟩ := List.mem_flatten.1 hc
        obtain ⟨i, hi⟩ := List.getElem?_of_mem hp1
        have hlt : i < fs.size := by rw [← hpl]; exact (List.getElem?_eq_some_iff.1 hi).1
        exact ((hpe i p hi) fs[i] (Array.getElem?_eq_getElem hlt)).2.2 c hp2
    · rename_i m e hu
      simp only [Bool.and_eq_true] at hpt
      simp only [HasT, hu]
      have he : e ∈ ts := by simpa using hpt.1
      have hsz := Nat.eq_of_beq_eq_true hpt.2
      obtain ⟨xs, k, hm, _, hlen, hxl, hget⟩ := DataW.trod_array hu h
      cases hm
      have each : ∀ i, i < m → ∃ p : List AVal, Reps (Gh.all w) p ((cs.drop (i * P.cellsOf e)).take (P.cellsOf e)) ∧ HasT P n e p ∧ ∀ c, c ∈ p → Flat1 c := by
        intro i hi
        have hx : xs[i]? = some xs[i] := List.getElem?_eq_getElem (by omega)
        exact ih e _ xs[i] he (by rw [hget i hi, hx])
      obtain ⟨parts, hpl, hpe⟩ := build m each
      refine ⟨parts.flatten, ?_, ⟨parts, hpl, rfl, ?_⟩, ?_⟩
      · have := y6b (z := P.cellsOf e) (m := m) (cs := cs) (by omega)
        rw [← this]
        refine y3g (by simp [hpl]) ?_
        intro i p c h1 h2
        rw [List.getElem?_map, Option.map_eq_some_iff] at h2
        obtain ⟨j, hj, rfl⟩ := h2
        have hji : j = i := by
          have := List.getElem?_eq_some_iff.1 hj
          obtain ⟨hj1, hj2⟩ := this
          simp at hj2; omega
        subst hji
        exact (hpe j p h1).1
      · intro p hp1
        obtain ⟨i, hi⟩ := List.getElem?_of_mem hp1
        exact (hpe i p hi).2.1
      · intro c hc
        obtain ⟨p, hp1, hp2⟩ := List.mem_flatten.1 hc
        obtain ⟨i, hi⟩ := List.getElem?_of_mem hp1
        exact (hpe i p hi).2.2 c hp2
    · rename_i e hu
      simp only [Bool.and_eq_true] at hpt
      simp only [HasT, hu]
      have hz : 1 ≤ P.cellsOf e := Nat.le_of_ble_eq_true hpt.2
      have he : e ∈ ts := by simpa using hpt.1
      rcases DataW.trod_pointer hu h with ⟨hc, _⟩ | ⟨a, cs', y, m, hm, hc, _, hcells, hy⟩
      · exact single .nilp _ hc .nilp ⟨rfl, rfl⟩ _ (.inl rfl)
      · cases hm
        obtain ⟨p, h1, h2, h3⟩ := ih e cs' y he hy
        obtain ⟨hb, hl, hcell⟩ := World.cells?_some hcells
        have hspot : a.spot = none := by
          have h0 := hcell 0 (by omega)
          rw [Addr.add_zero'] at h0
          cases hx : cs'[0]? with
          | none => have := (List.getElem?_eq_none_iff.1 hx); omega
          | some v => rw [hx] at h0; exact World.cell?_spot h0
        obtain ⟨blk, off, spot⟩ := a
        simp only at hspot
        subst hspot
        refine single (.ro p) _ hc ?_ ⟨rfl, rfl⟩ _ (.inr ⟨p, rfl, h2⟩)
        have hd : ∀ (j : Nat) (c : AVal), p[j]? = some c → ∃ d, cs'[j]? = some d ∧ Rep (Gh.all w) c d ∧ w.cell? ⟨blk, off + j, none⟩ = some d := by
          intro j c hj
          obtain ⟨d, hd, hr⟩ := h1.get hj
          have hlt := (List.getElem?_eq_some_iff.1 hd).1
          refine ⟨d, hd, hr, ?_⟩
          have := hcell j (by omega)
          rw [Addr.add_lit] at this
          rw [this]; exact hd
        refine .ro (fun j => cs'.getD j undef) (fun c hc => (h3 c hc).1) ?_ ?_ ?_
        · intro j c hj
          obtain ⟨d, hd1, hr, hd2⟩ := hd j c hj
          simp only [Gh.all, hd2, List.getD, hd1, Option.getD_some]
        · intro j c hj
          obtain ⟨d, hd1, hr, hd2⟩ := hd j c hj
          simp only [List.getD, hd1, Option.getD_some]
          exact (h3 c (List.mem_of_getElem? hj)).one hr
        · intro j c hj
          obtain ⟨d, hd1, hr, hd2⟩ := hd j c hj
          simp only [List.getD, hd1, Option.getD_some]
          exact hr
    · cases hpt
end
section
variable {H : Type} {enc : TypeId × Value → H} {P : Program} {w : World}
theorem y8h {ts : List TypeId} (hp : plainTs P ts = true) {t : TypeId} {v : Value} {base : Nat} (ht : t ∈ ts) (ha : aggB P t = some false) (hok : Value.okWide P w .any base t v) : v.cells.toList = [v] := by
  have hpt := List.all_eq_true.1 hp t ht
  cases v <;> first | rfl | skip
  exfalso
  unfold aggB at ha
  unfold plainT at hpt
  unfold Value.okWide Cell.okWide Cell.ok at hok
  cases hu : P.underlying t with
  | none => rw [hu] at ha; cases ha
  | some u => rw [hu] at ha hpt hok; cases u <;> simp_all
theorem arg_has {ts : List TypeId} (hp : plainTs P ts = true) {t : TypeId} {v : Value} {d : DataW H} {ps : List MemPlace} {base : Nat} (ht : t ∈ ts) (hok : Value.okWide P w .any base t v)
    (h : DataW.Trod enc P w 0 (fun _ => true) true t v d ps) : ∃ (n : Nat) (as : List AVal), HasT P n t as ∧ (aggB P t = some true → Rep (Gh.all w) (.agg as) v) ∧ (aggB P t = some false → ∃ c, as = [c] ∧ Rep (Gh.all w) c v) := by
  obtain ⟨n, hf⟩ := h
  obtain ⟨as, h1, h2, h3⟩ := trod_has hp n t _ _ ht hf
  refine ⟨n, as, h2, ?_, ?_⟩
  · intro ha
    have hv : ∃ cs, v = .agg cs := by
      unfold Value.okWide at hok
      unfold aggB at ha
      cases hu : P.underlying t with
      | none => rw [hu] at ha; cases ha
      | some u =>
        rw [hu] at ha hok
        cases u <;> simp only [reduceCtorEq, Option.some.injEq, Bool.false_eq_true] at ha
        · obtain ⟨cs, hcs, _⟩ := hok; exact ⟨cs, hcs⟩
        · obtain ⟨cs, hcs, _⟩ := hok; exact ⟨cs, hcs⟩
    obtain ⟨cs, rfl⟩ := hv
    have e : (Value.agg cs).cells.toList = cs.toList := rfl
    rw [e] at h1
    have := Rep.agg (Γ := Gh.all w) h1.1 h1.2 (fun d hd => by
      obtain ⟨i, hi⟩ := List.getElem?_of_mem hd
      have hlt : i < as.length := by rw [← h1.1]; exact (List.getElem?_eq_some_iff.1 hi).1
      have ha' := List.getElem?_eq_getElem hlt
      exact (h3 _ (List.mem_of_getElem? ha')).one (h1.2 i _ _ ha' hi))
    simpa using this
  · intro ha
    have hc := y8h hp ht ha hok
    rw [hc] at h1
    obtain ⟨c, rfl⟩ := y4z hp ht ha h2
    exact ⟨c, rfl, h1.2 0 c v rfl rfl⟩
end
end Go.Ev
namespace Go.Ev
set_option linter.unusedVariables false
set_option linter.unusedSimpArgs false
open Go
theorem dec_list {α : Type} {enc : α → AVal} {Q : α → Prop} : ∀ {xs : List AVal}, (∀ x, x ∈ xs → ∃ y, x = enc y ∧ Q y) → ∃ ys : List α, xs = ys.map enc ∧ ∀ y, y ∈ ys → Q y
  | [], _ => ⟨[], rfl, by simp⟩
  | x :: xs, h => by
    obtain ⟨y, rfl, hy⟩ := h x (by simp)
    obtain ⟨ys, rfl, hys⟩ := dec_list (xs := xs) (fun z hz => h z (List.mem_cons_of_mem _ hz))
    exact ⟨y :: ys, rfl, by simpa using ⟨hy, hys⟩⟩
theorem HasT.bool_of {P : Program} {n : Nat} {t : TypeId} {as : List AVal} (hu : P.underlying t = some .bool) (h : HasT P n t as) : ∃ b, as = [.bool b] := by
  cases n with
  | zero => cases h
  | succ n => unfold HasT at h; rw [hu] at h; exact h
theorem HasT.int_of {P : Program} {n : Nat} {t : TypeId} {k : IntKind} {as : List AVal} (hu : P.underlying t = some (.int k)) (h : HasT P n t as) : ∃ i, (Lit.int k i).wf = true ∧ as = [.int k i] := by
  cases n with
  | zero => cases h
  | succ n => unfold HasT at h; rw [hu] at h; exact h
theorem HasT.slice_of {P : Program} {n : Nat} {t e : TypeId} {as : List AVal} (hu : P.underlying t = some (.slice e)) (h : HasT P (n + 1) t as) :
    ∃ xs : List AVal, xs.length ≤ maxLen ∧ as = [.lst xs false] ∧ ∀ x, x ∈ xs → HasT P n e x.flat ∧ (aggB P e = some true → ∃ cs, x = .agg cs) ∧ (aggB P e = some false → x.flat = [x]) := by
  unfold HasT at h; rw [hu] at h; exact h
theorem HasT.struct_of {P : Program} {n : Nat} {t : TypeId} {fs : Array Field} {l : List TypeId} {as : List AVal} (hu : P.underlying t = some (.struct fs)) (hl : fs.toList.map (·.type) = l) (h : HasT P (n + 1) t as) :
    ∃ parts : List (List AVal), parts.length = l.length ∧ as = parts.flatten ∧ ∀ (i : Nat) (u : TypeId) (p : List AVal), l[i]? = some u → parts[i]? = some p → HasT P n u p := by
  unfold HasT at h; rw [hu] at h
  obtain ⟨parts, h1, h2, h3⟩ := h
  refine ⟨parts, by rw [h1, ← hl]; simp, h2, ?_⟩
  intro i u p hu hp
  rw [← hl, List.getElem?_map, Option.map_eq_some_iff] at hu
  obtain ⟨f, hf, rfl⟩ := hu
  exact h3 i f p (by simpa using hf) hp
end Go.Ev
