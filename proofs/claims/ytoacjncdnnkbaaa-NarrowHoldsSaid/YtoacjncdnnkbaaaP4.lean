/-
  Part 4 of a proof: NarrowHolds: for every input the law returns true, and what it was given reads behind the call as before. No conditions.
-/
import Derived.Test.YtoacjncdnnkbaaaP3
namespace Go.Ev.Seat
set_option linter.unusedVariables false
set_option linter.unusedSimpArgs false
open Go Go.Ev
set_option maxRecDepth 20000
attribute [local irreducible] pcall callF
noncomputable def y28 (x1 : Int) : Option Bool :=
  some (!decide (x1 = x1))
theorem y4a {x1 : Int} {r : Bool} (hr : y28 x1 = some r) : PRes (tabOf tabL) 81 [.int .i64 x1] (.bool r) := by
  refine pres_fin t81 ?_
  unfold y28 at hr
  refine L_seq ?_
  refine L_stmt ?_
  refine L_reg ?_
  refine G_p rfl rfl rfl ?_
  refine G_nil ?_
  refine L_nil ?_
  refine Sm_norm (e2 := [(0, .int .i64 x1)]) (H1 := []) (H2 := []) rfl (by repeat (first | exact rzz | apply rcc rfl | apply rnn rfl)) rfl (?_ : GL _ _ _ _ _)
  refine L_seq ?_
  refine L_reg ?_
  refine G_p rfl rfl rfl ?_
  refine G_p rfl rfl rfl ?_
  refine G_p rfl rfl rfl ?_
  refine G_p rfl rfl rfl ?_
  refine G_nil ?_
  refine L_ret ?_
  have hr := some_s hr
  subst hr
  exact ⟨_, rfl, _, rfl, rfl⟩
noncomputable def y2o (x1 : Int) (y2 : Int) : Option Int :=
  ((y28 x1).bind fun r3 => ((y28 y2).bind fun r4 => (cond r3 (cond r4 (some 0) (some (-1))) (cond r4 (some 1) (cond (decide (x1 < y2)) (some (-1)) (cond (decide (y2 < x1)) (some 1) (some 0)))))))
theorem y58 {x1 : Int} {y2 : Int} {r : Int} (hr : y2o x1 y2 = some r) : PRes (tabOf tabL) 73 [.int .i64 x1, .int .i64 y2] (.int .i64 r) := by
  refine pres_fin t73 ?_
  unfold y2o at hr
  refine L_seq ?_
  refine L_stmt ?_
  refine L_reg ?_
  refine G_p rfl rfl rfl ?_
  refine G_nil ?_
  refine L_nil ?_
  refine Sm_norm (e2 := [(0, .int .i64 x1), (1, .int .i64 y2)]) (H1 := []) (H2 := []) rfl (by repeat (first | exact rzz | apply rcc rfl | apply rnn rfl)) rfl (?_ : GL _ _ _ _ _)
  refine L_seq ?_
  refine L_stmt ?_
  refine L_reg ?_
  refine G_p rfl rfl rfl ?_
  obtain ⟨r3, hr3, hr⟩ := bind_s hr
  refine G_c 81 rfl rfl (CA_of (as := [.int .i64 x1]) rfl (y4a hr3)) ?_
  refine G_p rfl rfl rfl ?_
  refine G_nil ?_
  refine L_nil ?_
  refine Sm_norm (e2 := [(0, .int .i64 x1), (1, .int .i64 y2), (5, .bool r3)]) (H1 := []) (H2 := []) rfl (by repeat (first | exact rzz | apply rcc rfl | apply rnn rfl)) rfl (?_ : GL _ _ _ _ _)
  refine L_seq ?_
  refine L_stmt ?_
  refine L_reg ?_
  refine G_p rfl rfl rfl ?_
  obtain ⟨r4, hr4, hr⟩ := bind_s hr
  refine G_c 81 rfl rfl (CA_of (as := [.int .i64 y2]) rfl (y4a hr4)) ?_
  refine G_p rfl rfl rfl ?_
  refine G_nil ?_
  refine L_nil ?_
  refine Sm_norm (e2 := [(0, .int .i64 x1), (1, .int .i64 y2), (5, .bool r3), (6, .bool r4)]) (H1 := []) (H2 := []) rfl (by repeat (first | exact rzz | apply rcc rfl | apply rnn rfl)) rfl (?_ : GL _ _ _ _ _)
  refine L_seq ?_
  refine L_stmt ?_
  refine L_seq ?_
  refine L_stmt ?_
  refine L_reg ?_
  refine G_p rfl rfl rfl ?_
  refine G_nil ?_
  refine L_nil ?_
  refine Sm_norm (e2 := [(0, .int .i64 x1), (1, .int .i64 y2), (6, .bool r4), (11, .bool r3)]) (H1 := []) (H2 := []) rfl (by repeat (first | exact rzz | apply rcc rfl | apply rnn rfl)) rfl (?_ : GL _ _ _ _ _)
  rcases cond_s hr with ⟨hc11, hr⟩ | ⟨hc11, hr⟩
  · refine L_T rfl hc11 ?_
    refine L_seq ?_
    refine L_stmt ?_
    refine L_seq ?_
    refine L_stmt ?_
    refine L_reg ?_
    refine G_p rfl rfl rfl ?_
    refine G_nil ?_
    refine L_nil ?_
    refine Sm_norm (e2 := [(12, .bool r4)]) (H1 := []) (H2 := []) rfl (by repeat (first | exact rzz | apply rcc rfl | apply rnn rfl)) rfl (?_ : GL _ _ _ _ _)
    rcases cond_s hr with ⟨hc12, hr⟩ | ⟨hc12, hr⟩
    · refine L_T rfl hc12 ?_
      refine L_seq ?_
      refine L_reg ?_
      refine G_p rfl rfl rfl ?_
      refine G_nil ?_
      refine L_ret ?_
      refine Sm_ret ?_
      refine Sm_ret ?_
      have hr := some_s hr
      subst hr
      exact ⟨_, rfl, _, rfl, rfl⟩
    · refine L_F rfl hc12 ?_
      refine L_skip ?_
      refine L_nil ?_
      refine Sm_norm (e2 := []) (H1 := []) (H2 := []) rfl (by repeat (first | exact rzz | apply rcc rfl | apply rnn rfl)) rfl (?_ : GL _ _ _ _ _)
      refine L_seq ?_
      refine L_reg ?_
      refine G_p rfl rfl rfl ?_
      refine G_nil ?_
      refine L_ret ?_
      refine Sm_ret ?_
      have hr := some_s hr
      subst hr
      exact ⟨_, rfl, _, rfl, rfl⟩
  · refine L_F rfl hc11 ?_
    refine L_skip ?_
    refine L_nil ?_
    refine Sm_norm (e2 := [(0, .int .i64 x1), (1, .int .i64 y2), (6, .bool r4)]) (H1 := []) (H2 := []) rfl (by repeat (first | exact rzz | apply rcc rfl | apply rnn rfl)) rfl (?_ : GL _ _ _ _ _)
    refine L_seq ?_
    refine L_stmt ?_
    refine L_seq ?_
    refine L_stmt ?_
    refine L_reg ?_
    refine G_p rfl rfl rfl ?_
    refine G_nil ?_
    refine L_nil ?_
    refine Sm_norm (e2 := [(0, .int .i64 x1), (1, .int .i64 y2), (13, .bool r4)]) (H1 := []) (H2 := []) rfl (by repeat (first | exact rzz | apply rcc rfl | apply rnn rfl)) rfl (?_ : GL _ _ _ _ _)
    rcases cond_s hr with ⟨hc13, hr⟩ | ⟨hc13, hr⟩
    · refine L_T rfl hc13 ?_
      refine L_seq ?_
      refine L_reg ?_
      refine G_p rfl rfl rfl ?_
      refine G_nil ?_
      refine L_ret ?_
      refine Sm_ret ?_
      have hr := some_s hr
      subst hr
      exact ⟨_, rfl, _, rfl, rfl⟩
    · refine L_F rfl hc13 ?_
      refine L_skip ?_
      refine L_nil ?_
      refine Sm_norm (e2 := [(0, .int .i64 x1), (1, .int .i64 y2)]) (H1 := []) (H2 := []) rfl (by repeat (first | exact rzz | apply rcc rfl | apply rnn rfl)) rfl (?_ : GL _ _ _ _ _)
      refine L_seq ?_
      refine L_stmt ?_
      refine L_seq ?_
      refine L_stmt ?_
      refine L_reg ?_
      refine G_p rfl rfl rfl ?_
      refine G_p rfl rfl rfl ?_
      refine G_p rfl rfl rfl ?_
      refine G_nil ?_
      refine L_nil ?_
      refine Sm_norm (e2 := [(0, .int .i64 x1), (1, .int .i64 y2), (16, .bool (decide (x1 < y2)))]) (H1 := []) (H2 := []) rfl (by repeat (first | exact rzz | apply rcc rfl | apply rnn rfl)) rfl (?_ : GL _ _ _ _ _)
      rcases cond_s hr with ⟨hc16, hr⟩ | ⟨hc16, hr⟩
      · refine L_T rfl hc16 ?_
        refine L_seq ?_
        refine L_reg ?_
        refine G_p rfl rfl rfl ?_
        refine G_nil ?_
        refine L_ret ?_
        refine Sm_ret ?_
        have hr := some_s hr
        subst hr
        exact ⟨_, rfl, _, rfl, rfl⟩
      · refine L_F rfl hc16 ?_
        refine L_skip ?_
        refine L_nil ?_
        refine Sm_norm (e2 := [(0, .int .i64 x1), (1, .int .i64 y2)]) (H1 := []) (H2 := []) rfl (by repeat (first | exact rzz | apply rcc rfl | apply rnn rfl)) rfl (?_ : GL _ _ _ _ _)
        refine L_seq ?_
        refine L_stmt ?_
        refine L_seq ?_
        refine L_stmt ?_
        refine L_reg ?_
        refine G_p rfl rfl rfl ?_
        refine G_p rfl rfl rfl ?_
        refine G_p rfl rfl rfl ?_
        refine G_nil ?_
        refine L_nil ?_
        refine Sm_norm (e2 := [(19, .bool (decide (y2 < x1)))]) (H1 := []) (H2 := []) rfl (by repeat (first | exact rzz | apply rcc rfl | apply rnn rfl)) rfl (?_ : GL _ _ _ _ _)
        rcases cond_s hr with ⟨hc19, hr⟩ | ⟨hc19, hr⟩
        · refine L_T rfl hc19 ?_
          refine L_seq ?_
          refine L_reg ?_
          refine G_p rfl rfl rfl ?_
          refine G_nil ?_
          refine L_ret ?_
          refine Sm_ret ?_
          have hr := some_s hr
          subst hr
          exact ⟨_, rfl, _, rfl, rfl⟩
        · refine L_F rfl hc19 ?_
          refine L_skip ?_
          refine L_nil ?_
          refine Sm_norm (e2 := []) (H1 := []) (H2 := []) rfl (by repeat (first | exact rzz | apply rcc rfl | apply rnn rfl)) rfl (?_ : GL _ _ _ _ _)
          refine L_seq ?_
          refine L_reg ?_
          refine G_p rfl rfl rfl ?_
          refine G_nil ?_
          refine L_ret ?_
          have hr := some_s hr
          subst hr
          exact ⟨_, rfl, _, rfl, rfl⟩
noncomputable def y1l (a1 : Fct) (b2 : Fct) : Option Int :=
  ((y2o a1.var b2.var).bind fun r3 => some r3)
theorem y2j {a1 : Fct} {b2 : Fct} {r : Int} (hr : y1l a1 b2 = some r) : PRes (tabOf tabL) 72 [.agg (cFct a1), .agg (cFct b2)] (.int .i64 r) := by
  refine pres_fin t72 ?_
  unfold y1l at hr
  refine L_seq ?_
  refine L_stmt ?_
  refine L_reg ?_
  refine G_n (B := .cells [.int .i64 a1.var, .int .i64 a1.tags]) rfl rfl rfl ?_
  refine G_n (B := .cells [.int .i64 b2.var, .int .i64 b2.tags]) rfl rfl rfl ?_
  refine G_p rfl rfl rfl ?_
  refine G_nil ?_
  refine L_nil ?_
  refine Sm_norm (e2 := [(2, .ptr 0 0), (3, .ptr 1 0)]) (H1 := [.cells [.int .i64 a1.var, .int .i64 a1.tags], .cells [.int .i64 b2.var, .int .i64 b2.tags]]) (H2 := [.cells [.int .i64 a1.var, .int .i64 a1.tags], .cells [.int .i64 b2.var, .int .i64 b2.tags]]) rfl (by repeat (first | exact rzz | apply rcc rfl | apply rnn rfl)) rfl (?_ : GL _ _ _ _ _)
  refine L_seq ?_
  refine L_reg ?_
  refine G_p rfl rfl rfl ?_
  refine G_h rfl rfl rfl (fun _ => rfl) ?_
  refine G_p rfl rfl rfl ?_
  refine G_h rfl rfl rfl (fun _ => rfl) ?_
  obtain ⟨r3, hr3, hr⟩ := bind_s hr
  refine G_c 73 rfl rfl (CA_of (as := [.int .i64 a1.var, .int .i64 b2.var]) rfl (y58 hr3)) ?_
  refine G_p rfl rfl rfl ?_
  refine G_nil ?_
  refine L_ret ?_
  have hr := some_s hr
  subst hr
  exact ⟨_, rfl, _, rfl, rfl⟩
noncomputable def y1a (f1 : Fct) : Option Bool :=
  some (decide (f1.tags = 255))
theorem y2g {f1 : Fct} {r : Bool} (hr : y1a f1 = some r) : PRes (tabOf tabL) 69 [.agg (cFct f1)] (.bool r) := by
  refine pres_fin t69 ?_
  unfold y1a at hr
  refine L_seq ?_
  refine L_stmt ?_
  refine L_reg ?_
  refine G_n (B := .cells [.int .i64 f1.var, .int .i64 f1.tags]) rfl rfl rfl ?_
  refine G_p rfl rfl rfl ?_
  refine G_nil ?_
  refine L_nil ?_
  refine Sm_norm (e2 := [(1, .ptr 0 0)]) (H1 := [.cells [.int .i64 f1.var, .int .i64 f1.tags]]) (H2 := [.cells [.int .i64 f1.var, .int .i64 f1.tags]]) rfl (by repeat (first | exact rzz | apply rcc rfl | apply rnn rfl)) rfl (?_ : GL _ _ _ _ _)
  refine L_seq ?_
  refine L_reg ?_
  refine G_p rfl rfl rfl ?_
  refine G_h rfl rfl rfl (fun _ => rfl) ?_
  refine G_p rfl rfl rfl ?_
  refine G_p rfl rfl rfl ?_
  refine G_nil ?_
  refine L_ret ?_
  have hr := some_s hr
  subst hr
  exact ⟨_, rfl, _, rfl, rfl⟩
noncomputable def y07 (a1 : Int) (b2 : Int) : List Nat → Nat → (List Fct) → Option (List Fct)
  | [], _, l18 => some l18
  | y35 :: rest37, i36, l18 => ((idx l18 (IntKind.wrap .i64 (b2 + ((i36 : Nat) : Int)))).bind fun e44 => ((idx l18 (IntKind.wrap .i64 (a1 + ((i36 : Nat) : Int)))).bind fun e45 => ((idx l18 (IntKind.wrap .i64 (a1 + ((i36 : Nat) : Int)))).bind fun e46 => ((setL l18 (IntKind.wrap .i64 (a1 + ((i36 : Nat) : Int))) e44).bind fun l47 => ((idx l47 (IntKind.wrap .i64 (b2 + ((i36 : Nat) : Int)))).bind fun e48 => ((setL l47 (IntKind.wrap .i64 (b2 + ((i36 : Nat) : Int))) e45).bind fun l49 => (y07 a1 b2 rest37 (i36 + 1)) l49))))))
noncomputable def y0e (m0 : List Fct) (a1 : Int) (b2 : Int) (n3 : Int) : Option (List Fct) :=
  (cond (okLen (List.range (Int.toNat n3))) (y07 a1 b2 (List.range (Int.toNat n3)) 0 m0) none)
theorem y1b {m0 : List Fct} {a1 : Int} {b2 : Int} {n3 : Int} {r : List Fct} (hr : y0e m0 a1 b2 n3 = some r) : LC (tabOf tabL) 2 encFct 88 [.int .i64 a1, .int .i64 b2, .int .i64 n3, .fn 72 []] m0 r := by
  intro H o n0 ho hn0
  subst hn0
  refine ca_fin t88 (Or.inl rfl) ?_
  unfold y0e at hr
  refine L_seq ?_
  refine L_stmt ?_
  refine L_reg ?_
  refine G_p rfl rfl rfl ?_
  refine G_nil ?_
  refine L_nil ?_
  refine Sm_norm (e2 := [(0, .gl o (List.length m0)), (1, .int .i64 a1), (2, .int .i64 b2), (3, .int .i64 n3), (10, .int .i64 0)]) (H1 := (List.set H o (openM 2 encFct m0))) (H2 := (List.set H o (openM 2 encFct m0))) rfl (by repeat (first | exact rzz | apply rcc rfl | apply rnn rfl)) htrS (?_ : GL _ _ _ _ _)
  refine L_block ?_
  obtain ⟨hLq34, hr⟩ := guard_s hr
  replace hLq34 := okLen_s hLq34
  refine L_range (X := Nat) (S := List Fct) (List.range (Int.toNat n3)) (fun i36 s => [(10, .int .i64 ((i36 : Nat) : Int)), (0, .gl o (List.length s)), (1, .int .i64 a1), (2, .int .i64 b2), (3, .int .i64 n3)]) (fun i36 s => (List.set H o (openM 2 encFct s))) (fun rest i36 s => y07 a1 b2 rest i36 s = some r) (m0) ?_ htrS hr ?_ ?_
  · show restr _ _ = [(10, .int .i64 ((0 : Nat) : Int)), (0, .gl o (List.length m0)), (1, .int .i64 a1), (2, .int .i64 b2), (3, .int .i64 n3)]
    (repeat (first | exact rzz | apply rcc rfl | apply rnn rfl))
  · rintro l18 hr
    show GL _ _ [(10, .int .i64 (((List.length (List.range (Int.toNat n3))) : Nat) : Int)), (0, .gl o (List.length l18)), (1, .int .i64 a1), (2, .int .i64 b2), (3, .int .i64 n3)] (List.set H o (openM 2 encFct l18)) _
    replace hr : y07 a1 b2 [] (List.length (List.range (Int.toNat n3))) l18 = some r := hr
    rw [y07] at hr
    refine L_seq ?_
    refine L_stmt ?_
    refine L_seq ?_
    refine L_stmt ?_
    refine L_reg ?_
    refine G_p rfl rfl rfl ?_
    refine G_p rfl rfl rfl ?_
    refine G_v (.bool false) rfl rfl rfl (congrArg AVal.bool (decide_eq_false (by simp only [List.length_range]; omega))) ?_
    refine G_nil ?_
    refine L_nil ?_
    refine Sm_norm (e2 := [(0, .gl o (List.length l18)), (1, .int .i64 a1), (2, .int .i64 b2), (3, .int .i64 n3), (10, .int .i64 ((List.length (List.range (Int.toNat n3)) : Nat) : Int)), (13, .bool false)]) (H1 := (List.set H o (openM 2 encFct l18))) (H2 := (List.set H o (openM 2 encFct l18))) rfl (by repeat (first | exact rzz | apply rcc rfl | apply rnn rfl)) htrS (?_ : GL _ _ _ _ _)
    refine L_F rfl rfl ?_
    refine L_exit ?_
    refine Sm_exit ?_
    refine Rd_exit ?_
    refine Blk_exit (?_ : GL _ _ _ _ _)
    refine L_nil ?_
    have hr := some_s hr
    subst hr
    exact ⟨_, rfl, rfl, hcutS⟩
  · rintro y35 rest37 i36 l18 hy35 hlti36 hr
    show GL _ _ [(10, .int .i64 ((i36 : Nat) : Int)), (0, .gl o (List.length l18)), (1, .int .i64 a1), (2, .int .i64 b2), (3, .int .i64 n3)] (List.set H o (openM 2 encFct l18)) _
    replace hr : y07 a1 b2 (y35 :: rest37) i36 l18 = some r := hr
    rw [y07] at hr
    refine L_seq ?_
    refine L_stmt ?_
    refine L_seq ?_
    refine L_stmt ?_
    refine L_reg ?_
    refine G_p rfl rfl rfl ?_
    refine G_p rfl rfl rfl ?_
    refine G_v (.bool true) rfl rfl rfl (congrArg AVal.bool (decide_eq_true (by have h0 := hlti36; simp only [List.length_range] at h0; omega))) ?_
    refine G_nil ?_
    refine L_nil ?_
    refine Sm_norm (e2 := [(0, .gl o (List.length l18)), (1, .int .i64 a1), (2, .int .i64 b2), (3, .int .i64 n3), (10, .int .i64 ((i36 : Nat) : Int)), (13, .bool true)]) (H1 := (List.set H o (openM 2 encFct l18))) (H2 := (List.set H o (openM 2 encFct l18))) rfl (by repeat (first | exact rzz | apply rcc rfl | apply rnn rfl)) htrS (?_ : GL _ _ _ _ _)
    refine L_T rfl rfl ?_
    refine L_skip ?_
    refine L_nil ?_
    refine Sm_norm (e2 := [(0, .gl o (List.length l18)), (1, .int .i64 a1), (2, .int .i64 b2), (3, .int .i64 n3), (10, .int .i64 ((i36 : Nat) : Int))]) (H1 := (List.set H o (openM 2 encFct l18))) (H2 := (List.set H o (openM 2 encFct l18))) rfl (by repeat (first | exact rzz | apply rcc rfl | apply rnn rfl)) htrS (?_ : GL _ _ _ _ _)
    refine L_seq ?_
    refine L_stmt ?_
    refine L_block ?_
    refine L_draw0 ?_
    refine GD_p rfl rfl rfl ?_
    refine GD_p rfl rfl rfl ?_
    refine GD_p rfl rfl rfl ?_
    refine GD_p rfl rfl rfl ?_
    refine GD_p rfl rfl rfl ?_
    refine GD_p rfl rfl rfl ?_
    refine GD_p rfl rfl rfl ?_
    refine GD_p rfl rfl rfl ?_
    refine GD_p rfl rfl rfl ?_
    refine GD_p rfl rfl rfl ?_
    refine GD_p rfl rfl rfl ?_
    refine GD_p rfl rfl rfl ?_
    obtain ⟨e44, he44, hr⟩ := bind_s hr
    refine GD_h (d := some 28) rfl rfl rfl rfl (iao_ev encFct_w1 rfl rfl rfl (hgetS ho) (idx_s he44).1 (map_get (x := e44) (idx_s he44).2)) ?_
    refine GD_h (d := some 29) (v := .agg (cFct e44)) rfl rfl rfl rfl (ldao_ev (off := 0) rfl rfl rfl (hgetS ho) (idx_s he44).2 (by decide) (by decide) (y0c _) rfl) ?_
    refine GD_p rfl rfl rfl ?_
    refine GD_p rfl rfl rfl ?_
    refine GD_p rfl rfl rfl ?_
    refine GD_p rfl rfl rfl ?_
    obtain ⟨e45, he45, hr⟩ := bind_s hr
    refine GD_h (d := some 34) rfl rfl rfl rfl (iao_ev encFct_w1 rfl rfl rfl (hgetS ho) (idx_s he45).1 (map_get (x := e45) (idx_s he45).2)) ?_
    refine GD_h (d := some 35) (v := .agg (cFct e45)) rfl rfl rfl rfl (ldao_ev (off := 0) rfl rfl rfl (hgetS ho) (idx_s he45).2 (by decide) (by decide) (y0c _) rfl) ?_
    obtain ⟨e46, he46, hr⟩ := bind_s hr
    refine GD_h (d := some 36) rfl rfl rfl rfl (iao_ev encFct_w1 rfl rfl rfl (hgetS ho) (idx_s he46).1 (map_get (x := e46) (idx_s he46).2)) ?_
    obtain ⟨l47, hl47, hr⟩ := bind_s hr
    refine GD_o (d := none) (H' := (List.set H o (openM 2 encFct l47))) rfl rfl rfl rfl (stko_ev (off := 0) rfl rfl rfl rfl (hgetS ho) (idx_s he46).2 (by decide) (by decide) ⟨rfl, rfl⟩ rfl (by (try simp only [encFct_eq]); rfl) (setL_s hl47) hsetS) ?_
    obtain ⟨e48, he48, hr⟩ := bind_s hr
    refine GD_h (d := some 37) rfl rfl rfl rfl (iao_ev encFct_w1 (setL_len hl47) rfl rfl (hgetS ho) (idx_s he48).1 (map_get (x := e48) (idx_s he48).2)) ?_
    obtain ⟨l49, hl49, hr⟩ := bind_s hr
    refine GD_o (d := none) (H' := (List.set H o (openM 2 encFct l49))) rfl rfl rfl rfl (stko_ev (off := 0) (setL_len hl47) rfl rfl rfl (hgetS ho) (idx_s he48).2 (by decide) (by decide) ⟨rfl, rfl⟩ rfl (by (try simp only [encFct_eq]); rfl) (setL_s hl49) hsetS) ?_
    refine GD_nil2 (by first | (simp [okFs2, y1x, disj, noneIn, notIn, y2r, sameOn, partsGls, y2k, AOpd.ev, Env.get, Env.put, glsV, glsL]; done) | rfl) ?_
    refine L_nil ?_
    refine Blk_norm (?_ : GL _ _ _ _ _)
    refine L_nil ?_
    refine Sm_norm (e2 := [(0, .gl o (List.length l18)), (1, .int .i64 a1), (2, .int .i64 b2), (3, .int .i64 n3), (10, .int .i64 ((i36 : Nat) : Int))]) (H1 := (List.set H o (openM 2 encFct l49))) (H2 := (List.set H o (openM 2 encFct l49))) rfl (by repeat (first | exact rzz | apply rcc rfl | apply rnn rfl)) htrS (?_ : GL _ _ _ _ _)
    refine L_reg ?_
    refine G_p rfl rfl rfl ?_
    refine G_v (.int .i64 ((i36 + 1 : Nat) : Int)) rfl rfl rfl (congrArg _ (wrap_next hLq34 hlti36)) ?_
    refine G_p rfl rfl rfl ?_
    refine G_nil ?_
    refine L_nil ?_
    refine Rd_norm ⟨l49, ?_, htrS, hr⟩
    show restr _ _ = [(10, .int .i64 (((i36 + 1) : Nat) : Int)), (0, .gl o (List.length l49)), (1, .int .i64 a1), (2, .int .i64 b2), (3, .int .i64 n3)]
    (try rw [show List.length l49 = List.length l18 from (Eq.trans (setL_len hl49) (setL_len hl47))])
    (repeat (first | exact rzz | apply rcc rfl | apply rnn rfl))
noncomputable def y0w (m2 : Int) (l25 : List Fct) (a26 : Int) : Option (List Fct) :=
  ((callG (y0e l25 (IntKind.wrap .i64 (m2 - a26)) m2 a26) l25).bind fun l27 => some l27)
noncomputable def y08 (m2 : Int) : Nat → (List Fct) → Int → Int → Option (List Fct)
  | 0, _, _, _ => none
  | m3 + 1, l35, a36, a37 => (cond (!decide (a36 = a37)) (cond (decide (a37 < a36)) ((callG (y0e l35 (IntKind.wrap .i64 (m2 - a36)) m2 a37) l35).bind fun l46 => (y08 m2 m3) l46 (IntKind.wrap .i64 (a36 - a37)) a37) ((callG (y0e l35 (IntKind.wrap .i64 (m2 - a36)) (IntKind.wrap .i64 ((IntKind.wrap .i64 (m2 + a37)) - a36)) a36) l35).bind fun l48 => (y08 m2 m3) l48 a36 (IntKind.wrap .i64 (a37 - a36)))) (y0w m2 l35 a36))
noncomputable def y0t (n : Nat) (m0 : List Fct) (a1 : Int) (m2 : Int) (b3 : Int) : Option (List Fct) :=
  y08 m2 n m0 (IntKind.wrap .i64 (m2 - a1)) (IntKind.wrap .i64 (b3 - m2))
theorem y3c {n : Nat} {m0 : List Fct} {a1 : Int} {m2 : Int} {b3 : Int} {r : List Fct} (hr : y0t n m0 a1 m2 b3 = some r) : LC (tabOf tabL) 2 encFct 87 [.int .i64 a1, .int .i64 m2, .int .i64 b3, .fn 72 []] m0 r := by
  intro H o n0 ho hn0
  subst hn0
  refine ca_fin t87 (Or.inl rfl) ?_
  unfold y0t at hr
  refine L_seq ?_
  refine L_stmt ?_
  refine L_reg ?_
  refine G_p rfl rfl rfl ?_
  refine G_p rfl rfl rfl ?_
  refine G_p rfl rfl rfl ?_
  refine G_p rfl rfl rfl ?_
  refine G_nil ?_
  refine L_nil ?_
  refine Sm_norm (e2 := [(0, .gl o (List.length m0)), (2, .int .i64 m2), (3, .int .i64 b3), (4, .fn 72 []), (10, .int .i64 (IntKind.wrap .i64 (m2 - a1)))]) (H1 := (List.set H o (openM 2 encFct m0))) (H2 := (List.set H o (openM 2 encFct m0))) rfl (by repeat (first | exact rzz | apply rcc rfl | apply rnn rfl)) htrS (?_ : GL _ _ _ _ _)
  refine L_seq ?_
  refine L_stmt ?_
  refine L_reg ?_
  refine G_p rfl rfl rfl ?_
  refine G_p rfl rfl rfl ?_
  refine G_p rfl rfl rfl ?_
  refine G_p rfl rfl rfl ?_
  refine G_nil ?_
  refine L_nil ?_
  refine Sm_norm (e2 := [(0, .gl o (List.length m0)), (2, .int .i64 m2), (4, .fn 72 []), (10, .int .i64 (IntKind.wrap .i64 (m2 - a1))), (11, .int .i64 (IntKind.wrap .i64 (b3 - m2)))]) (H1 := (List.set H o (openM 2 encFct m0))) (H2 := (List.set H o (openM 2 encFct m0))) rfl (by repeat (first | exact rzz | apply rcc rfl | apply rnn rfl)) htrS (?_ : GL _ _ _ _ _)
  refine L_seq ?_
  refine L_stmtJ (S := List Fct × Int) (fun s => [(0, .gl o (List.length s.1)), (2, .int .i64 m2), (4, .fn 72 []), (10, .int .i64 s.2)]) (fun s => (List.set H o (openM 2 encFct s.1))) (fun s => y0w m2 s.1 s.2 = some r) ?_ ?_
  · skip
    refine L_block ?_
    refine L_while (S := List Fct × Int × Int) n (fun s => [(10, .int .i64 s.2.1), (11, .int .i64 s.2.2), (0, .gl o (List.length s.1)), (2, .int .i64 m2), (4, .fn 72 [])]) (fun s => (List.set H o (openM 2 encFct s.1))) (fun k s => y08 m2 k s.1 s.2.1 s.2.2 = some r) ((m0, (IntKind.wrap .i64 (m2 - a1)), (IntKind.wrap .i64 (b3 - m2)))) ?_ htrS hr ?_ ?_
    · show restr _ _ = [(10, .int .i64 (IntKind.wrap .i64 (m2 - a1))), (11, .int .i64 (IntKind.wrap .i64 (b3 - m2))), (0, .gl o (List.length m0)), (2, .int .i64 m2), (4, .fn 72 [])]
      (repeat (first | exact rzz | apply rcc rfl | apply rnn rfl))
    · rintro ⟨l35, a36, a37⟩ hr; exact absurd hr (by simp [y08])
    · rintro m3 ⟨l35, a36, a37⟩ hr
      show GL _ _ [(10, .int .i64 a36), (11, .int .i64 a37), (0, .gl o (List.length l35)), (2, .int .i64 m2), (4, .fn 72 [])] (List.set H o (openM 2 encFct l35)) _
      replace hr : y08 m2 (m3 + 1) l35 a36 a37 = some r := hr
      rw [y08] at hr
      refine L_seq ?_
      refine L_stmt ?_
      refine L_seq ?_
      refine L_stmt ?_
      refine L_reg ?_
      refine G_p rfl rfl rfl ?_
      refine G_p rfl rfl rfl ?_
      refine G_p rfl rfl rfl ?_
      refine G_nil ?_
      refine L_nil ?_
      refine Sm_norm (e2 := [(0, .gl o (List.length l35)), (2, .int .i64 m2), (4, .fn 72 []), (10, .int .i64 a36), (11, .int .i64 a37), (20, .bool (!decide (a36 = a37)))]) (H1 := (List.set H o (openM 2 encFct l35))) (H2 := (List.set H o (openM 2 encFct l35))) rfl (by repeat (first | exact rzz | apply rcc rfl | apply rnn rfl)) htrS (?_ : GL _ _ _ _ _)
      rcases cond_s hr with ⟨hc20, hr⟩ | ⟨hc20, hr⟩
      · refine L_T rfl hc20 ?_
        refine L_skip ?_
        refine L_nil ?_
        refine Sm_norm (e2 := [(0, .gl o (List.length l35)), (2, .int .i64 m2), (4, .fn 72 []), (10, .int .i64 a36), (11, .int .i64 a37)]) (H1 := (List.set H o (openM 2 encFct l35))) (H2 := (List.set H o (openM 2 encFct l35))) rfl (by repeat (first | exact rzz | apply rcc rfl | apply rnn rfl)) htrS (?_ : GL _ _ _ _ _)
        refine L_block ?_
        refine L_seq ?_
        refine L_stmt ?_
        refine L_reg ?_
        refine G_p rfl rfl rfl ?_
        refine G_p rfl rfl rfl ?_
        refine G_p rfl rfl rfl ?_
        refine G_nil ?_
        refine L_nil ?_
        refine Sm_norm (e2 := [(0, .gl o (List.length l35)), (2, .int .i64 m2), (4, .fn 72 []), (10, .int .i64 a36), (11, .int .i64 a37), (23, .bool (decide (a37 < a36)))]) (H1 := (List.set H o (openM 2 encFct l35))) (H2 := (List.set H o (openM 2 encFct l35))) rfl (by repeat (first | exact rzz | apply rcc rfl | apply rnn rfl)) htrS (?_ : GL _ _ _ _ _)
        rcases cond_s hr with ⟨hc23, hr⟩ | ⟨hc23, hr⟩
        · refine L_T rfl hc23 ?_
          refine L_seq ?_
          refine L_stmt ?_
          refine L_reg ?_
          refine G_p rfl rfl rfl ?_
          refine G_p rfl rfl rfl ?_
          refine G_p rfl rfl rfl ?_
          refine G_p rfl rfl rfl ?_
          refine G_p rfl rfl rfl ?_
          refine G_p rfl rfl rfl ?_
          refine G_p rfl rfl rfl ?_
          obtain ⟨l46, hl46, hr⟩ := bind_s hr
          refine G_c (H' := (List.set H o (openM 2 encFct l46))) 88 rfl rfl ((y1b (callG_s hl46).1) _ _ _ ho rfl) ?_
          refine G_nil ?_
          refine L_nil ?_
          refine Sm_norm (e2 := [(0, .gl o (List.length l35)), (2, .int .i64 m2), (4, .fn 72 []), (10, .int .i64 a36), (11, .int .i64 a37)]) (H1 := (List.set H o (openM 2 encFct l46))) (H2 := (List.set H o (openM 2 encFct l46))) rfl (by repeat (first | exact rzz | apply rcc rfl | apply rnn rfl)) htrS (?_ : GL _ _ _ _ _)
          refine L_reg ?_
          refine G_p rfl rfl rfl ?_
          refine G_p rfl rfl rfl ?_
          refine G_p rfl rfl rfl ?_
          refine G_p rfl rfl rfl ?_
          refine G_nil ?_
          refine L_nil ?_
          refine Blk_norm (?_ : GL _ _ _ _ _)
          refine L_nil ?_
          refine Rd_norm ⟨(l46, (IntKind.wrap .i64 (a36 - a37)), a37), ?_, htrS, hr⟩
          show restr _ _ = [(10, .int .i64 (IntKind.wrap .i64 (a36 - a37))), (11, .int .i64 a37), (0, .gl o (List.length l46)), (2, .int .i64 m2), (4, .fn 72 [])]
          (try rw [show List.length l46 = List.length l35 from (callG_s hl46).2])
          (repeat (first | exact rzz | apply rcc rfl | apply rnn rfl))
        · refine L_F rfl hc23 ?_
          refine L_seq ?_
          refine L_stmt ?_
          refine L_reg ?_
          refine G_p rfl rfl rfl ?_
          refine G_p rfl rfl rfl ?_
          refine G_p rfl rfl rfl ?_
          refine G_p rfl rfl rfl ?_
          refine G_p rfl rfl rfl ?_
          refine G_p rfl rfl rfl ?_
          refine G_p rfl rfl rfl ?_
          refine G_p rfl rfl rfl ?_
          refine G_p rfl rfl rfl ?_
          refine G_p rfl rfl rfl ?_
          refine G_p rfl rfl rfl ?_
          obtain ⟨l48, hl48, hr⟩ := bind_s hr
          refine G_c (H' := (List.set H o (openM 2 encFct l48))) 88 rfl rfl ((y1b (callG_s hl48).1) _ _ _ ho rfl) ?_
          refine G_nil ?_
          refine L_nil ?_
          refine Sm_norm (e2 := [(0, .gl o (List.length l35)), (2, .int .i64 m2), (4, .fn 72 []), (10, .int .i64 a36), (11, .int .i64 a37)]) (H1 := (List.set H o (openM 2 encFct l48))) (H2 := (List.set H o (openM 2 encFct l48))) rfl (by repeat (first | exact rzz | apply rcc rfl | apply rnn rfl)) htrS (?_ : GL _ _ _ _ _)
          refine L_reg ?_
          refine G_p rfl rfl rfl ?_
          refine G_p rfl rfl rfl ?_
          refine G_p rfl rfl rfl ?_
          refine G_p rfl rfl rfl ?_
          refine G_nil ?_
          refine L_nil ?_
          refine Blk_norm (?_ : GL _ _ _ _ _)
          refine L_nil ?_
          refine Rd_norm ⟨(l48, a36, (IntKind.wrap .i64 (a37 - a36))), ?_, htrS, hr⟩
          show restr _ _ = [(10, .int .i64 a36), (11, .int .i64 (IntKind.wrap .i64 (a37 - a36))), (0, .gl o (List.length l48)), (2, .int .i64 m2), (4, .fn 72 [])]
          (try rw [show List.length l48 = List.length l35 from (callG_s hl48).2])
          (repeat (first | exact rzz | apply rcc rfl | apply rnn rfl))
      · refine L_F rfl hc20 ?_
        refine L_exit ?_
        refine Sm_exit ?_
        refine Rd_exit ?_
        refine Blk_exit (?_ : GL _ _ _ _ _)
        refine L_nil ?_
        exact Sm_norm (e2 := [(0, .gl o (List.length l35)), (2, .int .i64 m2), (4, .fn 72 []), (10, .int .i64 a36)]) (H1 := (List.set H o (openM 2 encFct l35))) (H2 := (List.set H o (openM 2 encFct l35))) rfl (by repeat (first | exact rzz | apply rcc rfl | apply rnn rfl)) htrS ⟨(l35, a36), rfl, rfl, hr⟩
  · rintro ⟨l25, a26⟩ hr
    show GL _ _ [(0, .gl o (List.length l25)), (2, .int .i64 m2), (4, .fn 72 []), (10, .int .i64 a26)] (List.set H o (openM 2 encFct l25)) _
    replace hr : y0w m2 l25 a26 = some r := hr
    unfold y0w at hr
    refine L_reg ?_
    refine G_p rfl rfl rfl ?_
    refine G_p rfl rfl rfl ?_
    refine G_p rfl rfl rfl ?_
    refine G_p rfl rfl rfl ?_
    refine G_p rfl rfl rfl ?_
    refine G_p rfl rfl rfl ?_
    refine G_p rfl rfl rfl ?_
    obtain ⟨l27, hl27, hr⟩ := bind_s hr
    refine G_c (H' := (List.set H o (openM 2 encFct l27))) 88 rfl rfl ((y1b (callG_s hl27).1) _ _ _ ho rfl) ?_
    refine G_nil ?_
    refine L_nil ?_
    have hr := some_s hr
    subst hr
    exact ⟨_, rfl, rfl, hcutS⟩
noncomputable def y0m (a85 : Int) (K6 : (List Fct) → Int → Option (List Fct)) (l245 : List Fct) : Option (List Fct) :=
  K6 l245 (IntKind.wrap .i64 (a85 + 1))
noncomputable def y03 (a1 : Int) (a85 : Int) (K6 : (List Fct) → Int → Option (List Fct)) : Nat → (List Fct) → Int → Option (List Fct)
  | 0, _, _ => none
  | m8 + 1, l276, a277 => ((cond (decide (a1 < a277)) (((idx l276 a277).bind fun e308 => ((idx l276 (IntKind.wrap .i64 (a277 - 1))).bind fun e309 => ((y1l e308 e309).bind fun r310 => some (decide (r310 < 0)))))) (some false)).bind fun v311 => (cond v311 ((idx l276 (IntKind.wrap .i64 (a277 - 1))).bind fun e318 => ((idx l276 a277).bind fun e319 => ((idx l276 a277).bind fun e320 => ((setL l276 a277 e318).bind fun l321 => ((idx l321 (IntKind.wrap .i64 (a277 - 1))).bind fun e322 => ((setL l321 (IntKind.wrap .i64 (a277 - 1)) e319).bind fun l323 => (y03 a1 a85 K6 m8) l323 (IntKind.wrap .i64 (a277 - 1)))))))) (y0m a85 K6 l276)))
noncomputable def y00 (n : Nat) (a1 : Int) (b2 : Int) : Nat → (List Fct) → Int → Option (List Fct)
  | 0, _, _ => none
  | m6 + 1, l84, a85 => (cond (decide (a85 < b2)) (y03 a1 a85 (y00 n a1 b2 m6) n l84 a85) (some l84))
noncomputable def y0h (n : Nat) (m0 : List Fct) (a1 : Int) (b2 : Int) : Option (List Fct) :=
  y00 n a1 b2 n m0 (IntKind.wrap .i64 (a1 + 1))
theorem y1k {n : Nat} {m0 : List Fct} {a1 : Int} {b2 : Int} {r : List Fct} (hr : y0h n m0 a1 b2 = some r) : LC (tabOf tabL) 2 encFct 85 [.int .i64 a1, .int .i64 b2, .fn 72 []] m0 r := by
  intro H o n0 ho hn0
  subst hn0
  refine ca_fin t85 (Or.inl rfl) ?_
  unfold y0h at hr
  refine L_seq ?_
  refine L_stmt ?_
  refine L_reg ?_
  refine G_p rfl rfl rfl ?_
  refine G_p rfl rfl rfl ?_
  refine G_p rfl rfl rfl ?_
  refine G_nil ?_
  refine L_nil ?_
  refine Sm_norm (e2 := [(0, .gl o (List.length m0)), (1, .int .i64 a1), (2, .int .i64 b2), (3, .fn 72 []), (8, .int .i64 (IntKind.wrap .i64 (a1 + 1)))]) (H1 := (List.set H o (openM 2 encFct m0))) (H2 := (List.set H o (openM 2 encFct m0))) rfl (by repeat (first | exact rzz | apply rcc rfl | apply rnn rfl)) htrS (?_ : GL _ _ _ _ _)
  refine L_block ?_
  refine L_while (S := List Fct × Int) n (fun s => [(8, .int .i64 s.2), (0, .gl o (List.length s.1)), (1, .int .i64 a1), (2, .int .i64 b2), (3, .fn 72 [])]) (fun s => (List.set H o (openM 2 encFct s.1))) (fun k s => y00 n a1 b2 k s.1 s.2 = some r) ((m0, (IntKind.wrap .i64 (a1 + 1)))) ?_ htrS hr ?_ ?_
  · show restr _ _ = [(8, .int .i64 (IntKind.wrap .i64 (a1 + 1))), (0, .gl o (List.length m0)), (1, .int .i64 a1), (2, .int .i64 b2), (3, .fn 72 [])]
    (repeat (first | exact rzz | apply rcc rfl | apply rnn rfl))
  · rintro ⟨l84, a85⟩ hr; exact absurd hr (by simp [y00])
  · rintro m6 ⟨l84, a85⟩ hr
    show GL _ _ [(8, .int .i64 a85), (0, .gl o (List.length l84)), (1, .int .i64 a1), (2, .int .i64 b2), (3, .fn 72 [])] (List.set H o (openM 2 encFct l84)) _
    replace hr : y00 n a1 b2 (m6 + 1) l84 a85 = some r := hr
    rw [y00] at hr
    refine L_seq ?_
    refine L_stmt ?_
    refine L_seq ?_
    refine L_stmt ?_
    refine L_reg ?_
    refine G_p rfl rfl rfl ?_
    refine G_p rfl rfl rfl ?_
    refine G_p rfl rfl rfl ?_
    refine G_nil ?_
    refine L_nil ?_
    refine Sm_norm (e2 := [(0, .gl o (List.length l84)), (1, .int .i64 a1), (2, .int .i64 b2), (3, .fn 72 []), (8, .int .i64 a85), (14, .bool (decide (a85 < b2)))]) (H1 := (List.set H o (openM 2 encFct l84))) (H2 := (List.set H o (openM 2 encFct l84))) rfl (by repeat (first | exact rzz | apply rcc rfl | apply rnn rfl)) htrS (?_ : GL _ _ _ _ _)
    rcases cond_s hr with ⟨hc14, hr⟩ | ⟨hc14, hr⟩
    · refine L_T rfl hc14 ?_
      refine L_skip ?_
      refine L_nil ?_
      refine Sm_norm (e2 := [(0, .gl o (List.length l84)), (1, .int .i64 a1), (2, .int .i64 b2), (3, .fn 72 []), (8, .int .i64 a85)]) (H1 := (List.set H o (openM 2 encFct l84))) (H2 := (List.set H o (openM 2 encFct l84))) rfl (by repeat (first | exact rzz | apply rcc rfl | apply rnn rfl)) htrS (?_ : GL _ _ _ _ _)
      refine L_seq ?_
      refine L_stmtJ (S := List Fct) (fun s => [(0, .gl o (List.length s)), (1, .int .i64 a1), (2, .int .i64 b2), (3, .fn 72 []), (8, .int .i64 a85)]) (fun s => (List.set H o (openM 2 encFct s))) (fun s => y0m a85 (y00 n a1 b2 m6) s = some r) ?_ ?_
      · skip
        refine L_block ?_
        refine L_seq ?_
        refine L_stmt ?_
        refine L_reg ?_
        refine G_p rfl rfl rfl ?_
        refine G_p rfl rfl rfl ?_
        refine G_nil ?_
        refine L_nil ?_
        refine Sm_norm (e2 := [(0, .gl o (List.length l84)), (1, .int .i64 a1), (2, .int .i64 b2), (3, .fn 72 []), (8, .int .i64 a85), (9, .int .i64 a85)]) (H1 := (List.set H o (openM 2 encFct l84))) (H2 := (List.set H o (openM 2 encFct l84))) rfl (by repeat (first | exact rzz | apply rcc rfl | apply rnn rfl)) htrS (?_ : GL _ _ _ _ _)
        refine L_block ?_
        refine L_while (S := List Fct × Int) n (fun s => [(9, .int .i64 s.2), (0, .gl o (List.length s.1)), (1, .int .i64 a1), (2, .int .i64 b2), (3, .fn 72 []), (8, .int .i64 a85)]) (fun s => (List.set H o (openM 2 encFct s.1))) (fun k s => y03 a1 a85 (y00 n a1 b2 m6) k s.1 s.2 = some r) ((l84, a85)) ?_ htrS hr ?_ ?_
        · show restr _ _ = [(9, .int .i64 a85), (0, .gl o (List.length l84)), (1, .int .i64 a1), (2, .int .i64 b2), (3, .fn 72 []), (8, .int .i64 a85)]
          (repeat (first | exact rzz | apply rcc rfl | apply rnn rfl))
        · rintro ⟨l276, a277⟩ hr; exact absurd hr (by simp [y03])
        · rintro m8 ⟨l276, a277⟩ hr
          show GL _ _ [(9, .int .i64 a277), (0, .gl o (List.length l276)), (1, .int .i64 a1), (2, .int .i64 b2), (3, .fn 72 []), (8, .int .i64 a85)] (List.set H o (openM 2 encFct l276)) _
          replace hr : y03 a1 a85 (y00 n a1 b2 m6) (m8 + 1) l276 a277 = some r := hr
          rw [y03] at hr
          refine L_seq ?_
          refine L_stmt ?_
          refine L_seq ?_
          refine L_stmt ?_
          refine L_drawS (ops := [_, _, _, _, _, _, _, _, _, _, _, _, _, _, _, _, _]) rfl rfl ?_
          refine G_p rfl rfl rfl ?_
          refine G_p rfl rfl rfl ?_
          refine G_p rfl rfl rfl ?_
          refine G_p rfl rfl rfl ?_
          obtain ⟨v311, hvv311, hr⟩ := bind_s hr
          refine G_pick true [_, _, _, _, _, _, _, _, _, _, _, _] (v := .bool v311) (vo := .bool false) rfl rfl ?_ ?_ rfl ?_
          · intro hb21
            have hr := condT hb21 hvv311
            refine G_p rfl rfl rfl ?_
            refine G_p rfl rfl rfl ?_
            refine G_p rfl rfl rfl ?_
            obtain ⟨e308, he308, hr⟩ := bind_s hr
            refine G_h rfl rfl rfl (iao_ev encFct_w1 rfl rfl rfl (hgetS ho) (idx_s he308).1 (map_get (x := e308) (idx_s he308).2)) ?_
            refine G_h (v := .agg (cFct e308)) rfl rfl rfl (ldao_ev (off := 0) rfl rfl rfl (hgetS ho) (idx_s he308).2 (by decide) (by decide) (y0c _) rfl) ?_
            refine G_p rfl rfl rfl ?_
            refine G_p rfl rfl rfl ?_
            refine G_p rfl rfl rfl ?_
            obtain ⟨e309, he309, hr⟩ := bind_s hr
            refine G_h rfl rfl rfl (iao_ev encFct_w1 rfl rfl rfl (hgetS ho) (idx_s he309).1 (map_get (x := e309) (idx_s he309).2)) ?_
            refine G_h (v := .agg (cFct e309)) rfl rfl rfl (ldao_ev (off := 0) rfl rfl rfl (hgetS ho) (idx_s he309).2 (by decide) (by decide) (y0c _) rfl) ?_
            obtain ⟨r310, hr310, hr⟩ := bind_s hr
            refine G_cv rfl rfl rfl (CA_of (as := [.agg (cFct e308), .agg (cFct e309)]) rfl (y2j hr310)) ?_
            refine G_p rfl rfl rfl ?_
            cases hr; exact G_nil (L_nil ⟨rfl, rfl, rfl⟩)
          · intro hb21; exact pickT hvv311 hb21
          · intro vs hvs
            obtain ⟨u22, u23, u24, u25, u26, u27, u28, u29, u30, u31, u32, u33, rfl⟩ := len12 hvs
            dsimp only [junk]
            refine G_nil (L_nil ⟨rfl, ?_⟩)
            refine L_nil ?_
            refine Sm_norm (e2 := [(0, .gl o (List.length l276)), (1, .int .i64 a1), (2, .int .i64 b2), (3, .fn 72 []), (8, .int .i64 a85), (9, .int .i64 a277), (34, .bool v311)]) (H1 := (List.set H o (openM 2 encFct l276))) (H2 := (List.set H o (openM 2 encFct l276))) rfl (by repeat (first | exact rzz | apply rcc rfl | apply rnn rfl)) htrS (?_ : GL _ _ _ _ _)
            rcases cond_s hr with ⟨hc34, hr⟩ | ⟨hc34, hr⟩
            · refine L_T rfl hc34 ?_
              refine L_skip ?_
              refine L_nil ?_
              refine Sm_norm (e2 := [(0, .gl o (List.length l276)), (1, .int .i64 a1), (2, .int .i64 b2), (3, .fn 72 []), (8, .int .i64 a85), (9, .int .i64 a277)]) (H1 := (List.set H o (openM 2 encFct l276))) (H2 := (List.set H o (openM 2 encFct l276))) rfl (by repeat (first | exact rzz | apply rcc rfl | apply rnn rfl)) htrS (?_ : GL _ _ _ _ _)
              refine L_seq ?_
              refine L_stmt ?_
              refine L_block ?_
              refine L_draw0 ?_
              refine GD_p rfl rfl rfl ?_
              refine GD_p rfl rfl rfl ?_
              refine GD_p rfl rfl rfl ?_
              refine GD_p rfl rfl rfl ?_
              refine GD_p rfl rfl rfl ?_
              refine GD_p rfl rfl rfl ?_
              refine GD_p rfl rfl rfl ?_
              refine GD_p rfl rfl rfl ?_
              obtain ⟨e318, he318, hr⟩ := bind_s hr
              refine GD_h (d := some 45) rfl rfl rfl rfl (iao_ev encFct_w1 rfl rfl rfl (hgetS ho) (idx_s he318).1 (map_get (x := e318) (idx_s he318).2)) ?_
              refine GD_h (d := some 46) (v := .agg (cFct e318)) rfl rfl rfl rfl (ldao_ev (off := 0) rfl rfl rfl (hgetS ho) (idx_s he318).2 (by decide) (by decide) (y0c _) rfl) ?_
              refine GD_p rfl rfl rfl ?_
              refine GD_p rfl rfl rfl ?_
              obtain ⟨e319, he319, hr⟩ := bind_s hr
              refine GD_h (d := some 49) rfl rfl rfl rfl (iao_ev encFct_w1 rfl rfl rfl (hgetS ho) (idx_s he319).1 (map_get (x := e319) (idx_s he319).2)) ?_
              refine GD_h (d := some 50) (v := .agg (cFct e319)) rfl rfl rfl rfl (ldao_ev (off := 0) rfl rfl rfl (hgetS ho) (idx_s he319).2 (by decide) (by decide) (y0c _) rfl) ?_
              obtain ⟨e320, he320, hr⟩ := bind_s hr
              refine GD_h (d := some 51) rfl rfl rfl rfl (iao_ev encFct_w1 rfl rfl rfl (hgetS ho) (idx_s he320).1 (map_get (x := e320) (idx_s he320).2)) ?_
              obtain ⟨l321, hl321, hr⟩ := bind_s hr
              refine GD_o (d := none) (H' := (List.set H o (openM 2 encFct l321))) rfl rfl rfl rfl (stko_ev (off := 0) rfl rfl rfl rfl (hgetS ho) (idx_s he320).2 (by decide) (by decide) ⟨rfl, rfl⟩ rfl (by (try simp only [encFct_eq]); rfl) (setL_s hl321) hsetS) ?_
              obtain ⟨e322, he322, hr⟩ := bind_s hr
              refine GD_h (d := some 52) rfl rfl rfl rfl (iao_ev encFct_w1 (setL_len hl321) rfl rfl (hgetS ho) (idx_s he322).1 (map_get (x := e322) (idx_s he322).2)) ?_
              obtain ⟨l323, hl323, hr⟩ := bind_s hr
              refine GD_o (d := none) (H' := (List.set H o (openM 2 encFct l323))) rfl rfl rfl rfl (stko_ev (off := 0) (setL_len hl321) rfl rfl rfl (hgetS ho) (idx_s he322).2 (by decide) (by decide) ⟨rfl, rfl⟩ rfl (by (try simp only [encFct_eq]); rfl) (setL_s hl323) hsetS) ?_
              refine GD_nil2 (by first | (simp [okFs2, y1x, disj, noneIn, notIn, y2r, sameOn, partsGls, y2k, AOpd.ev, Env.get, Env.put, glsV, glsL]; done) | rfl) ?_
              refine L_nil ?_
              refine Blk_norm (?_ : GL _ _ _ _ _)
              refine L_nil ?_
              refine Sm_norm (e2 := [(0, .gl o (List.length l276)), (1, .int .i64 a1), (2, .int .i64 b2), (3, .fn 72 []), (8, .int .i64 a85), (9, .int .i64 a277)]) (H1 := (List.set H o (openM 2 encFct l323))) (H2 := (List.set H o (openM 2 encFct l323))) rfl (by repeat (first | exact rzz | apply rcc rfl | apply rnn rfl)) htrS (?_ : GL _ _ _ _ _)
              refine L_reg ?_
              refine G_p rfl rfl rfl ?_
              refine G_p rfl rfl rfl ?_
              refine G_p rfl rfl rfl ?_
              refine G_nil ?_
              refine L_nil ?_
              refine Rd_norm ⟨(l323, (IntKind.wrap .i64 (a277 - 1))), ?_, htrS, hr⟩
              show restr _ _ = [(9, .int .i64 (IntKind.wrap .i64 (a277 - 1))), (0, .gl o (List.length l323)), (1, .int .i64 a1), (2, .int .i64 b2), (3, .fn 72 []), (8, .int .i64 a85)]
              (try rw [show List.length l323 = List.length l276 from (Eq.trans (setL_len hl323) (setL_len hl321))])
              (repeat (first | exact rzz | apply rcc rfl | apply rnn rfl))
            · refine L_F rfl hc34 ?_
              refine L_exit ?_
              refine Sm_exit ?_
              refine Rd_exit ?_
              refine Blk_exit (?_ : GL _ _ _ _ _)
              refine L_nil ?_
              refine Blk_norm (?_ : GL _ _ _ _ _)
              refine L_nil ?_
              exact Sm_norm (e2 := [(0, .gl o (List.length l276)), (1, .int .i64 a1), (2, .int .i64 b2), (3, .fn 72 []), (8, .int .i64 a85)]) (H1 := (List.set H o (openM 2 encFct l276))) (H2 := (List.set H o (openM 2 encFct l276))) rfl (by repeat (first | exact rzz | apply rcc rfl | apply rnn rfl)) htrS ⟨l276, rfl, rfl, hr⟩
      · rintro l245 hr
        show GL _ _ [(0, .gl o (List.length l245)), (1, .int .i64 a1), (2, .int .i64 b2), (3, .fn 72 []), (8, .int .i64 a85)] (List.set H o (openM 2 encFct l245)) _
        replace hr : y0m a85 (y00 n a1 b2 m6) l245 = some r := hr
        unfold y0m at hr
        refine L_reg ?_
        refine G_p rfl rfl rfl ?_
        refine G_p rfl rfl rfl ?_
        refine G_p rfl rfl rfl ?_
        refine G_nil ?_
        refine L_nil ?_
        refine Rd_norm ⟨(l245, (IntKind.wrap .i64 (a85 + 1))), ?_, htrS, hr⟩
        show restr _ _ = [(8, .int .i64 (IntKind.wrap .i64 (a85 + 1))), (0, .gl o (List.length l245)), (1, .int .i64 a1), (2, .int .i64 b2), (3, .fn 72 [])]
        (repeat (first | exact rzz | apply rcc rfl | apply rnn rfl))
    · refine L_F rfl hc14 ?_
      refine L_exit ?_
      refine Sm_exit ?_
      refine Rd_exit ?_
      refine Blk_exit (?_ : GL _ _ _ _ _)
      refine L_nil ?_
      have hr := some_s hr
      subst hr
      exact ⟨_, rfl, rfl, hcutS⟩
noncomputable def y0j (rec : (List Fct) → Int → Int → Int → Option (List Fct)) (a1 : Int) (m2 : Int) (b3 : Int) (a137 : Int) (l141 : List Fct) : Option (List Fct) :=
  (cond ((decide ((IntKind.wrap .i64 ((Int.fdiv (IntKind.wrap .u64 ((IntKind.wrap .i64 (a1 + b3)))) (2 ^ 1)))) < (IntKind.wrap .i64 ((IntKind.wrap .i64 ((IntKind.wrap .i64 ((Int.fdiv (IntKind.wrap .u64 ((IntKind.wrap .i64 (a1 + b3)))) (2 ^ 1)))) + m2)) - a137)))) && (decide ((IntKind.wrap .i64 ((IntKind.wrap .i64 ((IntKind.wrap .i64 ((Int.fdiv (IntKind.wrap .u64 ((IntKind.wrap .i64 (a1 + b3)))) (2 ^ 1)))) + m2)) - a137)) < b3))) ((callG (rec l141 (IntKind.wrap .i64 ((Int.fdiv (IntKind.wrap .u64 ((IntKind.wrap .i64 (a1 + b3)))) (2 ^ 1)))) (IntKind.wrap .i64 ((IntKind.wrap .i64 ((IntKind.wrap .i64 ((Int.fdiv (IntKind.wrap .u64 ((IntKind.wrap .i64 (a1 + b3)))) (2 ^ 1)))) + m2)) - a137)) b3) l141).bind fun l142 => some l142) (some l141))
noncomputable def y0i (rec : (List Fct) → Int → Int → Int → Option (List Fct)) (a1 : Int) (m2 : Int) (b3 : Int) (a137 : Int) (l139 : List Fct) : Option (List Fct) :=
  (cond ((decide (a1 < a137)) && (decide (a137 < (IntKind.wrap .i64 ((Int.fdiv (IntKind.wrap .u64 ((IntKind.wrap .i64 (a1 + b3)))) (2 ^ 1))))))) ((callG (rec l139 a1 a137 (IntKind.wrap .i64 ((Int.fdiv (IntKind.wrap .u64 ((IntKind.wrap .i64 (a1 + b3)))) (2 ^ 1))))) l139).bind fun l143 => y0j rec a1 m2 b3 a137 l143) (y0j rec a1 m2 b3 a137 l139))
noncomputable def y0l (rec : (List Fct) → Int → Int → Int → Option (List Fct)) (n : Nat) (m0 : List Fct) (a1 : Int) (m2 : Int) (b3 : Int) (a137 : Int) : Option (List Fct) :=
  (cond ((decide (a137 < m2)) && (decide (m2 < (IntKind.wrap .i64 ((IntKind.wrap .i64 ((IntKind.wrap .i64 ((Int.fdiv (IntKind.wrap .u64 ((IntKind.wrap .i64 (a1 + b3)))) (2 ^ 1)))) + m2)) - a137))))) ((callG (y0t n m0 a137 m2 (IntKind.wrap .i64 ((IntKind.wrap .i64 ((IntKind.wrap .i64 ((Int.fdiv (IntKind.wrap .u64 ((IntKind.wrap .i64 (a1 + b3)))) (2 ^ 1)))) + m2)) - a137))) m0).bind fun l144 => y0i rec a1 m2 b3 a137 l144) (y0i rec a1 m2 b3 a137 m0))
noncomputable def y02 (rec : (List Fct) → Int → Int → Int → Option (List Fct)) (n : Nat) (m0 : List Fct) (a1 : Int) (m2 : Int) (b3 : Int) : Nat → Int → Int → Option (List Fct)
  | 0, _, _ => none
  | m14 + 1, a150, a151 => (cond (decide (a150 < a151)) ((idx m0 (IntKind.wrap .i64 ((IntKind.wrap .i64 ((IntKind.wrap .i64 ((IntKind.wrap .i64 ((Int.fdiv (IntKind.wrap .u64 ((IntKind.wrap .i64 (a1 + b3)))) (2 ^ 1)))) + m2)) - 1)) - (IntKind.wrap .i64 ((Int.fdiv (IntKind.wrap .u64 ((IntKind.wrap .i64 (a150 + a151)))) (2 ^ 1))))))).bind fun e157 => ((idx m0 (IntKind.wrap .i64 ((Int.fdiv (IntKind.wrap .u64 ((IntKind.wrap .i64 (a150 + a151)))) (2 ^ 1))))).bind fun e158 => ((y1l e157 e158).bind fun r159 => (cond (!(decide (r159 < 0))) ((y02 rec n m0 a1 m2 b3 m14) (IntKind.wrap .i64 ((IntKind.wrap .i64 ((Int.fdiv (IntKind.wrap .u64 ((IntKind.wrap .i64 (a150 + a151)))) (2 ^ 1)))) + 1)) a151) ((y02 rec n m0 a1 m2 b3 m14) a150 (IntKind.wrap .i64 ((Int.fdiv (IntKind.wrap .u64 ((IntKind.wrap .i64 (a150 + a151)))) (2 ^ 1))))))))) (y0l rec n m0 a1 m2 b3 a150))
noncomputable def y0k (rec : (List Fct) → Int → Int → Int → Option (List Fct)) (n : Nat) (m0 : List Fct) (a1 : Int) (m2 : Int) (b3 : Int) (a120 : Int) (a121 : Int) : Option (List Fct) :=
  y02 rec n m0 a1 m2 b3 n a120 a121
noncomputable def y0v (rec : (List Fct) → Int → Int → Int → Option (List Fct)) (n : Nat) (m0 : List Fct) (a1 : Int) (m2 : Int) (b3 : Int) : Option (List Fct) :=
  (cond (decide ((IntKind.wrap .i64 ((Int.fdiv (IntKind.wrap .u64 ((IntKind.wrap .i64 (a1 + b3)))) (2 ^ 1)))) < m2)) (y0k rec n m0 a1 m2 b3 (IntKind.wrap .i64 ((IntKind.wrap .i64 ((IntKind.wrap .i64 ((Int.fdiv (IntKind.wrap .u64 ((IntKind.wrap .i64 (a1 + b3)))) (2 ^ 1)))) + m2)) - b3)) (IntKind.wrap .i64 ((Int.fdiv (IntKind.wrap .u64 ((IntKind.wrap .i64 (a1 + b3)))) (2 ^ 1))))) (y0k rec n m0 a1 m2 b3 a1 m2))
noncomputable def y0a (a175 : Int) : Nat → (List Fct) → Int → Option (List Fct)
  | 0, _, _ => none
  | m16 + 1, l190, a191 => (cond (decide (a175 < a191)) ((idx l190 (IntKind.wrap .i64 (a191 - 1))).bind fun e212 => ((idx l190 a191).bind fun e213 => ((idx l190 a191).bind fun e214 => ((setL l190 a191 e212).bind fun l215 => ((idx l215 (IntKind.wrap .i64 (a191 - 1))).bind fun e216 => ((setL l215 (IntKind.wrap .i64 (a191 - 1)) e213).bind fun l217 => (y0a a175 m16) l217 (IntKind.wrap .i64 (a191 - 1)))))))) (some l190))
noncomputable def y0u (n : Nat) (m0 : List Fct) (m2 : Int) (a175 : Int) : Option (List Fct) :=
  y0a a175 n m0 m2
noncomputable def y06 (n : Nat) (m0 : List Fct) (m2 : Int) : Nat → Int → Int → Option (List Fct)
  | 0, _, _ => none
  | m17 + 1, a223, a224 => (cond (decide (a223 < a224)) ((idx m0 m2).bind fun e230 => ((idx m0 (IntKind.wrap .i64 ((Int.fdiv (IntKind.wrap .u64 ((IntKind.wrap .i64 (a223 + a224)))) (2 ^ 1))))).bind fun e231 => ((y1l e230 e231).bind fun r232 => (cond (!(decide (r232 < 0))) ((y06 n m0 m2 m17) (IntKind.wrap .i64 ((IntKind.wrap .i64 ((Int.fdiv (IntKind.wrap .u64 ((IntKind.wrap .i64 (a223 + a224)))) (2 ^ 1)))) + 1)) a224) ((y06 n m0 m2 m17) a223 (IntKind.wrap .i64 ((Int.fdiv (IntKind.wrap .u64 ((IntKind.wrap .i64 (a223 + a224)))) (2 ^ 1))))))))) (y0u n m0 m2 a223))
noncomputable def y0r (rec : (List Fct) → Int → Int → Int → Option (List Fct)) (n : Nat) (m0 : List Fct) (a1 : Int) (m2 : Int) (b3 : Int) : Option (List Fct) :=
  (cond (decide ((IntKind.wrap .i64 (b3 - m2)) = 1)) (y06 n m0 m2 n a1 m2) (y0v rec n m0 a1 m2 b3))
noncomputable def y09 (a248 : Int) : Nat → (List Fct) → Int → Option (List Fct)
  | 0, _, _ => none
  | m19 + 1, l263, a264 => (cond (decide (a264 < (IntKind.wrap .i64 (a248 - 1)))) ((idx l263 (IntKind.wrap .i64 (a264 + 1))).bind fun e285 => ((idx l263 a264).bind fun e286 => ((idx l263 a264).bind fun e287 => ((setL l263 a264 e285).bind fun l288 => ((idx l288 (IntKind.wrap .i64 (a264 + 1))).bind fun e289 => ((setL l288 (IntKind.wrap .i64 (a264 + 1)) e286).bind fun l290 => (y09 a248 m19) l290 (IntKind.wrap .i64 (a264 + 1)))))))) (some l263))
noncomputable def y0s (n : Nat) (m0 : List Fct) (a1 : Int) (a248 : Int) : Option (List Fct) :=
  y09 a248 n m0 a1
noncomputable def y04 (n : Nat) (m0 : List Fct) (a1 : Int) : Nat → Int → Int → Option (List Fct)
  | 0, _, _ => none
  | m20 + 1, a296, a297 => (cond (decide (a296 < a297)) ((idx m0 (IntKind.wrap .i64 ((Int.fdiv (IntKind.wrap .u64 ((IntKind.wrap .i64 (a296 + a297)))) (2 ^ 1))))).bind fun e303 => ((idx m0 a1).bind fun e304 => ((y1l e303 e304).bind fun r305 => (cond (decide (r305 < 0)) ((y04 n m0 a1 m20) (IntKind.wrap .i64 ((IntKind.wrap .i64 ((Int.fdiv (IntKind.wrap .u64 ((IntKind.wrap .i64 (a296 + a297)))) (2 ^ 1)))) + 1)) a297) ((y04 n m0 a1 m20) a296 (IntKind.wrap .i64 ((Int.fdiv (IntKind.wrap .u64 ((IntKind.wrap .i64 (a296 + a297)))) (2 ^ 1))))))))) (y0s n m0 a1 a296))
noncomputable def y15 (rec : (List Fct) → Int → Int → Int → Option (List Fct)) (n : Nat) (m0 : List Fct) (a1 : Int) (m2 : Int) (b3 : Int) : Option (List Fct) :=
  (cond (decide ((IntKind.wrap .i64 (m2 - a1)) = 1)) (y04 n m0 a1 n m2 b3) (y0r rec n m0 a1 m2 b3))
abbrev ks1 (o : Nat) (m0 : List Fct) (a1 : Int) (m2 : Int) (b3 : Int) : List (Nat × AVal) := [(0, .gl o (List.length m0)), (1, .int .i64 a1), (2, .int .i64 m2), (3, .int .i64 b3), (4, .fn 72 [])]
theorem y2v {rec : (List Fct) → Int → Int → Int → Option (List Fct)} {n : Nat} {m0 : List Fct} {a1 : Int} {m2 : Int} {b3 : Int} {r : List Fct} (hrec : ∀ (a0 : List Fct) (b0 : Int) (b1 : Int) (b2 : Int) (r : List Fct), rec a0 b0 b1 b2 = some r → LC (tabOf tabL) 2 encFct 86 [.int .i64 b0, .int .i64 b1, .int .i64 b2, .fn 72 []] a0 r) (hr : y15 rec n m0 a1 m2 b3 = some r) : LC (tabOf tabL) 2 encFct 86 [.int .i64 a1, .int .i64 m2, .int .i64 b3, .fn 72 []] m0 r := by
  intro H o n0 ho hn0
  subst hn0
  refine ca_fin t86 (Or.inl rfl) ?_
  unfold y15 at hr
  refine L_seq ?_
  refine L_stmtJ (S := Unit) (fun s => (ks1 o m0 a1 m2 b3)) (fun s => (List.set H o (openM 2 encFct m0))) (fun s => y0r rec n m0 a1 m2 b3 = some r) ?_ ?_
  · skip
    refine L_seq ?_
    refine L_stmt ?_
    refine L_reg ?_
    refine G_p rfl rfl rfl ?_
    refine G_p rfl rfl rfl ?_
    refine G_p rfl rfl rfl ?_
    refine G_p rfl rfl rfl ?_
    refine G_nil ?_
    refine L_nil ?_
    refine Sm_norm (e2 := [(0, .gl o (List.length m0)), (1, .int .i64 a1), (2, .int .i64 m2), (3, .int .i64 b3), (4, .fn 72 []), (28, .bool (decide ((IntKind.wrap .i64 (m2 - a1)) = 1)))]) (H1 := (List.set H o (openM 2 encFct m0))) (H2 := (List.set H o (openM 2 encFct m0))) rfl (by repeat (first | exact rzz | apply rcc rfl | apply rnn rfl)) htrS (?_ : GL _ _ _ _ _)
    rcases cond_s hr with ⟨hc28, hr⟩ | ⟨hc28, hr⟩
    · refine L_T rfl hc28 ?_
      refine L_seq ?_
      refine L_stmt ?_
      refine L_reg ?_
      refine G_p rfl rfl rfl ?_
      refine G_p rfl rfl rfl ?_
      refine G_nil ?_
      refine L_nil ?_
      refine Sm_norm (e2 := [(0, .gl o (List.length m0)), (1, .int .i64 a1), (3, .int .i64 b3), (4, .fn 72 []), (10, .int .i64 m2)]) (H1 := (List.set H o (openM 2 encFct m0))) (H2 := (List.set H o (openM 2 encFct m0))) rfl (by repeat (first | exact rzz | apply rcc rfl | apply rnn rfl)) htrS (?_ : GL _ _ _ _ _)
      refine L_seq ?_
      refine L_stmt ?_
      refine L_reg ?_
      refine G_p rfl rfl rfl ?_
      refine G_p rfl rfl rfl ?_
      refine G_nil ?_
      refine L_nil ?_
      refine Sm_norm (e2 := [(0, .gl o (List.length m0)), (1, .int .i64 a1), (4, .fn 72 []), (10, .int .i64 m2), (11, .int .i64 b3)]) (H1 := (List.set H o (openM 2 encFct m0))) (H2 := (List.set H o (openM 2 encFct m0))) rfl (by repeat (first | exact rzz | apply rcc rfl | apply rnn rfl)) htrS (?_ : GL _ _ _ _ _)
      refine L_seq ?_
      refine L_stmtJ (S := Int) (fun s => [(0, .gl o (List.length m0)), (1, .int .i64 a1), (10, .int .i64 s)]) (fun s => (List.set H o (openM 2 encFct m0))) (fun s => y0s n m0 a1 s = some r) ?_ ?_
      · skip
        refine L_block ?_
        refine L_while (S := Int × Int) n (fun s => [(10, .int .i64 s.1), (11, .int .i64 s.2), (0, .gl o (List.length m0)), (1, .int .i64 a1), (4, .fn 72 [])]) (fun s => (List.set H o (openM 2 encFct m0))) (fun k s => y04 n m0 a1 k s.1 s.2 = some r) ((m2, b3)) ?_ htrS hr ?_ ?_
        · show restr _ _ = [(10, .int .i64 m2), (11, .int .i64 b3), (0, .gl o (List.length m0)), (1, .int .i64 a1), (4, .fn 72 [])]
          (repeat (first | exact rzz | apply rcc rfl | apply rnn rfl))
        · rintro ⟨a296, a297⟩ hr; exact absurd hr (by simp [y04])
        · rintro m20 ⟨a296, a297⟩ hr
          show GL _ _ [(10, .int .i64 a296), (11, .int .i64 a297), (0, .gl o (List.length m0)), (1, .int .i64 a1), (4, .fn 72 [])] (List.set H o (openM 2 encFct m0)) _
          replace hr : y04 n m0 a1 (m20 + 1) a296 a297 = some r := hr
          rw [y04] at hr
          refine L_seq ?_
          refine L_stmt ?_
          refine L_seq ?_
          refine L_stmt ?_
          refine L_reg ?_
          refine G_p rfl rfl rfl ?_
          refine G_p rfl rfl rfl ?_
          refine G_p rfl rfl rfl ?_
          refine G_nil ?_
          refine L_nil ?_
          refine Sm_norm (e2 := [(0, .gl o (List.length m0)), (1, .int .i64 a1), (4, .fn 72 []), (10, .int .i64 a296), (11, .int .i64 a297), (33, .bool (decide (a296 < a297)))]) (H1 := (List.set H o (openM 2 encFct m0))) (H2 := (List.set H o (openM 2 encFct m0))) rfl (by repeat (first | exact rzz | apply rcc rfl | apply rnn rfl)) htrS (?_ : GL _ _ _ _ _)
          rcases cond_s hr with ⟨hc33, hr⟩ | ⟨hc33, hr⟩
          · refine L_T rfl hc33 ?_
            refine L_skip ?_
            refine L_nil ?_
            refine Sm_norm (e2 := [(0, .gl o (List.length m0)), (1, .int .i64 a1), (4, .fn 72 []), (10, .int .i64 a296), (11, .int .i64 a297)]) (H1 := (List.set H o (openM 2 encFct m0))) (H2 := (List.set H o (openM 2 encFct m0))) rfl (by repeat (first | exact rzz | apply rcc rfl | apply rnn rfl)) htrS (?_ : GL _ _ _ _ _)
            refine L_block ?_
            refine L_seq ?_
            refine L_stmt ?_
            refine L_reg ?_
            refine G_p rfl rfl rfl ?_
            refine G_p rfl rfl rfl ?_
            refine G_p rfl rfl rfl ?_
            refine G_p rfl rfl rfl ?_
            refine G_p rfl rfl (evP_shr rfl rfl (if_neg (by decide))) ?_
            refine G_p rfl rfl rfl ?_
            refine G_p rfl rfl rfl ?_
            refine G_nil ?_
            refine L_nil ?_
            refine Sm_norm (e2 := [(0, .gl o (List.length m0)), (1, .int .i64 a1), (4, .fn 72 []), (10, .int .i64 a296), (11, .int .i64 a297), (12, .int .i64 (IntKind.wrap .i64 ((Int.fdiv (IntKind.wrap .u64 ((IntKind.wrap .i64 (a296 + a297)))) (2 ^ 1)))))]) (H1 := (List.set H o (openM 2 encFct m0))) (H2 := (List.set H o (openM 2 encFct m0))) rfl (by repeat (first | exact rzz | apply rcc rfl | apply rnn rfl)) htrS (?_ : GL _ _ _ _ _)
            refine L_seq ?_
            refine L_stmt ?_
            refine L_drawS (ops := [_, _, _, _, _, _, _, _, _, _, _]) rfl rfl ?_
            refine G_p rfl rfl rfl ?_
            refine G_p rfl rfl rfl ?_
            refine G_p rfl rfl rfl ?_
            obtain ⟨e303, he303, hr⟩ := bind_s hr
            refine G_h rfl rfl rfl (iao_ev encFct_w1 rfl rfl rfl (hgetS ho) (idx_s he303).1 (map_get (x := e303) (idx_s he303).2)) ?_
            refine G_h (v := .agg (cFct e303)) rfl rfl rfl (ldao_ev (off := 0) rfl rfl rfl (hgetS ho) (idx_s he303).2 (by decide) (by decide) (y0c _) rfl) ?_
            refine G_p rfl rfl rfl ?_
            refine G_p rfl rfl rfl ?_
            obtain ⟨e304, he304, hr⟩ := bind_s hr
            refine G_h rfl rfl rfl (iao_ev encFct_w1 rfl rfl rfl (hgetS ho) (idx_s he304).1 (map_get (x := e304) (idx_s he304).2)) ?_
            refine G_h (v := .agg (cFct e304)) rfl rfl rfl (ldao_ev (off := 0) rfl rfl rfl (hgetS ho) (idx_s he304).2 (by decide) (by decide) (y0c _) rfl) ?_
            obtain ⟨r305, hr305, hr⟩ := bind_s hr
            refine G_cv rfl rfl rfl (CA_of (as := [.agg (cFct e303), .agg (cFct e304)]) rfl (y2j hr305)) ?_
            refine G_p rfl rfl rfl ?_
            refine G_nil (L_nil ⟨rfl, ?_⟩)
            refine L_nil ?_
            refine Sm_norm (e2 := [(0, .gl o (List.length m0)), (1, .int .i64 a1), (4, .fn 72 []), (10, .int .i64 a296), (11, .int .i64 a297), (12, .int .i64 (IntKind.wrap .i64 ((Int.fdiv (IntKind.wrap .u64 ((IntKind.wrap .i64 (a296 + a297)))) (2 ^ 1))))), (50, .bool (decide (r305 < 0)))]) (H1 := (List.set H o (openM 2 encFct m0))) (H2 := (List.set H o (openM 2 encFct m0))) rfl (by repeat (first | exact rzz | apply rcc rfl | apply rnn rfl)) htrS (?_ : GL _ _ _ _ _)
            rcases cond_s hr with ⟨hc50, hr⟩ | ⟨hc50, hr⟩
            · refine L_T rfl hc50 ?_
              refine L_reg ?_
              refine G_p rfl rfl rfl ?_
              refine G_p rfl rfl rfl ?_
              refine G_p rfl rfl rfl ?_
              refine G_nil ?_
              refine L_nil ?_
              refine Blk_norm (?_ : GL _ _ _ _ _)
              refine L_nil ?_
              refine Rd_norm ⟨((IntKind.wrap .i64 ((IntKind.wrap .i64 ((Int.fdiv (IntKind.wrap .u64 ((IntKind.wrap .i64 (a296 + a297)))) (2 ^ 1)))) + 1)), a297), ?_, htrS, hr⟩
              show restr _ _ = [(10, .int .i64 (IntKind.wrap .i64 ((IntKind.wrap .i64 ((Int.fdiv (IntKind.wrap .u64 ((IntKind.wrap .i64 (a296 + a297)))) (2 ^ 1)))) + 1))), (11, .int .i64 a297), (0, .gl o (List.length m0)), (1, .int .i64 a1), (4, .fn 72 [])]
              (repeat (first | exact rzz | apply rcc rfl | apply rnn rfl))
            · refine L_F rfl hc50 ?_
              refine L_reg ?_
              refine G_p rfl rfl rfl ?_
              refine G_p rfl rfl rfl ?_
              refine G_nil ?_
              refine L_nil ?_
              refine Blk_norm (?_ : GL _ _ _ _ _)
              refine L_nil ?_
              refine Rd_norm ⟨(a296, (IntKind.wrap .i64 ((Int.fdiv (IntKind.wrap .u64 ((IntKind.wrap .i64 (a296 + a297)))) (2 ^ 1))))), ?_, htrS, hr⟩
              show restr _ _ = [(10, .int .i64 a296), (11, .int .i64 (IntKind.wrap .i64 ((Int.fdiv (IntKind.wrap .u64 ((IntKind.wrap .i64 (a296 + a297)))) (2 ^ 1))))), (0, .gl o (List.length m0)), (1, .int .i64 a1), (4, .fn 72 [])]
              (repeat (first | exact rzz | apply rcc rfl | apply rnn rfl))
          · refine L_F rfl hc33 ?_
            refine L_exit ?_
            refine Sm_exit ?_
            refine Rd_exit ?_
            refine Blk_exit (?_ : GL _ _ _ _ _)
            refine L_nil ?_
            exact Sm_norm (e2 := [(0, .gl o (List.length m0)), (1, .int .i64 a1), (10, .int .i64 a296)]) (H1 := (List.set H o (openM 2 encFct m0))) (H2 := (List.set H o (openM 2 encFct m0))) rfl (by repeat (first | exact rzz | apply rcc rfl | apply rnn rfl)) htrS ⟨a296, rfl, rfl, hr⟩
      · rintro a248 hr
        show GL _ _ [(0, .gl o (List.length m0)), (1, .int .i64 a1), (10, .int .i64 a248)] (List.set H o (openM 2 encFct m0)) _
        replace hr : y0s n m0 a1 a248 = some r := hr
        unfold y0s at hr
        refine L_seq ?_
        refine L_seq ?_
        refine L_stmt ?_
        refine L_reg ?_
        refine G_p rfl rfl rfl ?_
        refine G_p rfl rfl rfl ?_
        refine G_nil ?_
        refine L_nil ?_
        refine Sm_norm (e2 := [(0, .gl o (List.length m0)), (10, .int .i64 a248), (13, .int .i64 a1)]) (H1 := (List.set H o (openM 2 encFct m0))) (H2 := (List.set H o (openM 2 encFct m0))) rfl (by repeat (first | exact rzz | apply rcc rfl | apply rnn rfl)) htrS (?_ : GL _ _ _ _ _)
        refine L_block ?_
        refine L_while (S := List Fct × Int) n (fun s => [(13, .int .i64 s.2), (0, .gl o (List.length s.1)), (10, .int .i64 a248)]) (fun s => (List.set H o (openM 2 encFct s.1))) (fun k s => y09 a248 k s.1 s.2 = some r) ((m0, a1)) ?_ htrS hr ?_ ?_
        · show restr _ _ = [(13, .int .i64 a1), (0, .gl o (List.length m0)), (10, .int .i64 a248)]
          (repeat (first | exact rzz | apply rcc rfl | apply rnn rfl))
        · rintro ⟨l263, a264⟩ hr; exact absurd hr (by simp [y09])
        · rintro m19 ⟨l263, a264⟩ hr
          show GL _ _ [(13, .int .i64 a264), (0, .gl o (List.length l263)), (10, .int .i64 a248)] (List.set H o (openM 2 encFct l263)) _
          replace hr : y09 a248 (m19 + 1) l263 a264 = some r := hr
          rw [y09] at hr
          refine L_seq ?_
          refine L_stmt ?_
          refine L_seq ?_
          refine L_stmt ?_
          refine L_reg ?_
          refine G_p rfl rfl rfl ?_
          refine G_p rfl rfl rfl ?_
          refine G_p rfl rfl rfl ?_
          refine G_p rfl rfl rfl ?_
          refine G_nil ?_
          refine L_nil ?_
          refine Sm_norm (e2 := [(0, .gl o (List.length l263)), (10, .int .i64 a248), (13, .int .i64 a264), (58, .bool (decide (a264 < (IntKind.wrap .i64 (a248 - 1)))))]) (H1 := (List.set H o (openM 2 encFct l263))) (H2 := (List.set H o (openM 2 encFct l263))) rfl (by repeat (first | exact rzz | apply rcc rfl | apply rnn rfl)) htrS (?_ : GL _ _ _ _ _)
          rcases cond_s hr with ⟨hc58, hr⟩ | ⟨hc58, hr⟩
          · refine L_T rfl hc58 ?_
            refine L_skip ?_
            refine L_nil ?_
            refine Sm_norm (e2 := [(0, .gl o (List.length l263)), (10, .int .i64 a248), (13, .int .i64 a264)]) (H1 := (List.set H o (openM 2 encFct l263))) (H2 := (List.set H o (openM 2 encFct l263))) rfl (by repeat (first | exact rzz | apply rcc rfl | apply rnn rfl)) htrS (?_ : GL _ _ _ _ _)
            refine L_seq ?_
            refine L_stmt ?_
            refine L_block ?_
            refine L_draw0 ?_
            refine GD_p rfl rfl rfl ?_
            refine GD_p rfl rfl rfl ?_
            refine GD_p rfl rfl rfl ?_
            refine GD_p rfl rfl rfl ?_
            refine GD_p rfl rfl rfl ?_
            refine GD_p rfl rfl rfl ?_
            refine GD_p rfl rfl rfl ?_
            refine GD_p rfl rfl rfl ?_
            obtain ⟨e285, he285, hr⟩ := bind_s hr
            refine GD_h (d := some 69) rfl rfl rfl rfl (iao_ev encFct_w1 rfl rfl rfl (hgetS ho) (idx_s he285).1 (map_get (x := e285) (idx_s he285).2)) ?_
            refine GD_h (d := some 70) (v := .agg (cFct e285)) rfl rfl rfl rfl (ldao_ev (off := 0) rfl rfl rfl (hgetS ho) (idx_s he285).2 (by decide) (by decide) (y0c _) rfl) ?_
            refine GD_p rfl rfl rfl ?_
            refine GD_p rfl rfl rfl ?_
            obtain ⟨e286, he286, hr⟩ := bind_s hr
            refine GD_h (d := some 73) rfl rfl rfl rfl (iao_ev encFct_w1 rfl rfl rfl (hgetS ho) (idx_s he286).1 (map_get (x := e286) (idx_s he286).2)) ?_
            refine GD_h (d := some 74) (v := .agg (cFct e286)) rfl rfl rfl rfl (ldao_ev (off := 0) rfl rfl rfl (hgetS ho) (idx_s he286).2 (by decide) (by decide) (y0c _) rfl) ?_
            obtain ⟨e287, he287, hr⟩ := bind_s hr
            refine GD_h (d := some 75) rfl rfl rfl rfl (iao_ev encFct_w1 rfl rfl rfl (hgetS ho) (idx_s he287).1 (map_get (x := e287) (idx_s he287).2)) ?_
            obtain ⟨l288, hl288, hr⟩ := bind_s hr
            refine GD_o (d := none) (H' := (List.set H o (openM 2 encFct l288))) rfl rfl rfl rfl (stko_ev (off := 0) rfl rfl rfl rfl (hgetS ho) (idx_s he287).2 (by decide) (by decide) ⟨rfl, rfl⟩ rfl (by (try simp only [encFct_eq]); rfl) (setL_s hl288) hsetS) ?_
            obtain ⟨e289, he289, hr⟩ := bind_s hr
            refine GD_h (d := some 76) rfl rfl rfl rfl (iao_ev encFct_w1 (setL_len hl288) rfl rfl (hgetS ho) (idx_s he289).1 (map_get (x := e289) (idx_s he289).2)) ?_
            obtain ⟨l290, hl290, hr⟩ := bind_s hr
            refine GD_o (d := none) (H' := (List.set H o (openM 2 encFct l290))) rfl rfl rfl rfl (stko_ev (off := 0) (setL_len hl288) rfl rfl rfl (hgetS ho) (idx_s he289).2 (by decide) (by decide) ⟨rfl, rfl⟩ rfl (by (try simp only [encFct_eq]); rfl) (setL_s hl290) hsetS) ?_
            refine GD_nil2 (by first | (simp [okFs2, y1x, disj, noneIn, notIn, y2r, sameOn, partsGls, y2k, AOpd.ev, Env.get, Env.put, glsV, glsL]; done) | rfl) ?_
            refine L_nil ?_
            refine Blk_norm (?_ : GL _ _ _ _ _)
            refine L_nil ?_
            refine Sm_norm (e2 := [(0, .gl o (List.length l263)), (10, .int .i64 a248), (13, .int .i64 a264)]) (H1 := (List.set H o (openM 2 encFct l290))) (H2 := (List.set H o (openM 2 encFct l290))) rfl (by repeat (first | exact rzz | apply rcc rfl | apply rnn rfl)) htrS (?_ : GL _ _ _ _ _)
            refine L_reg ?_
            refine G_p rfl rfl rfl ?_
            refine G_p rfl rfl rfl ?_
            refine G_p rfl rfl rfl ?_
            refine G_nil ?_
            refine L_nil ?_
            refine Rd_norm ⟨(l290, (IntKind.wrap .i64 (a264 + 1))), ?_, htrS, hr⟩
            show restr _ _ = [(13, .int .i64 (IntKind.wrap .i64 (a264 + 1))), (0, .gl o (List.length l290)), (10, .int .i64 a248)]
            (try rw [show List.length l290 = List.length l263 from (Eq.trans (setL_len hl290) (setL_len hl288))])
            (repeat (first | exact rzz | apply rcc rfl | apply rnn rfl))
          · refine L_F rfl hc58 ?_
            refine L_exit ?_
            refine Sm_exit ?_
            refine Rd_exit ?_
            refine Blk_exit (?_ : GL _ _ _ _ _)
            refine L_ret ?_
            refine Sm_ret ?_
            have hr := some_s hr
            subst hr
            exact ⟨_, rfl, rfl, hcutS⟩
    · refine L_F rfl hc28 ?_
      refine L_skip ?_
      refine L_nil ?_
      exact Sm_norm (e2 := (ks1 o m0 a1 m2 b3)) (H1 := (List.set H o (openM 2 encFct m0))) (H2 := (List.set H o (openM 2 encFct m0))) rfl (by repeat (first | exact rzz | apply rcc rfl | apply rnn rfl)) htrS ⟨(), rfl, rfl, hr⟩
  · rintro ⟨⟩ hr
    show GL _ _ (ks1 o m0 a1 m2 b3) (List.set H o (openM 2 encFct m0)) _
    replace hr : y0r rec n m0 a1 m2 b3 = some r := hr
    unfold y0r at hr
    refine L_seq ?_
    refine L_stmtJ (S := Unit) (fun s => (ks1 o m0 a1 m2 b3)) (fun s => (List.set H o (openM 2 encFct m0))) (fun s => y0v rec n m0 a1 m2 b3 = some r) ?_ ?_
    · skip
      refine L_seq ?_
      refine L_stmt ?_
      refine L_reg ?_
      refine G_p rfl rfl rfl ?_
      refine G_p rfl rfl rfl ?_
      refine G_p rfl rfl rfl ?_
      refine G_p rfl rfl rfl ?_
      refine G_nil ?_
      refine L_nil ?_
      refine Sm_norm (e2 := [(0, .gl o (List.length m0)), (1, .int .i64 a1), (2, .int .i64 m2), (3, .int .i64 b3), (4, .fn 72 []), (80, .bool (decide ((IntKind.wrap .i64 (b3 - m2)) = 1)))]) (H1 := (List.set H o (openM 2 encFct m0))) (H2 := (List.set H o (openM 2 encFct m0))) rfl (by repeat (first | exact rzz | apply rcc rfl | apply rnn rfl)) htrS (?_ : GL _ _ _ _ _)
      rcases cond_s hr with ⟨hc80, hr⟩ | ⟨hc80, hr⟩
      · refine L_T rfl hc80 ?_
        refine L_seq ?_
        refine L_stmt ?_
        refine L_reg ?_
        refine G_p rfl rfl rfl ?_
        refine G_p rfl rfl rfl ?_
        refine G_nil ?_
        refine L_nil ?_
        refine Sm_norm (e2 := [(0, .gl o (List.length m0)), (2, .int .i64 m2), (4, .fn 72 []), (14, .int .i64 a1)]) (H1 := (List.set H o (openM 2 encFct m0))) (H2 := (List.set H o (openM 2 encFct m0))) rfl (by repeat (first | exact rzz | apply rcc rfl | apply rnn rfl)) htrS (?_ : GL _ _ _ _ _)
        refine L_seq ?_
        refine L_stmt ?_
        refine L_reg ?_
        refine G_p rfl rfl rfl ?_
        refine G_p rfl rfl rfl ?_
        refine G_nil ?_
        refine L_nil ?_
        refine Sm_norm (e2 := [(0, .gl o (List.length m0)), (2, .int .i64 m2), (4, .fn 72 []), (14, .int .i64 a1), (15, .int .i64 m2)]) (H1 := (List.set H o (openM 2 encFct m0))) (H2 := (List.set H o (openM 2 encFct m0))) rfl (by repeat (first | exact rzz | apply rcc rfl | apply rnn rfl)) htrS (?_ : GL _ _ _ _ _)
        refine L_seq ?_
        refine L_stmtJ (S := Int) (fun s => [(0, .gl o (List.length m0)), (2, .int .i64 m2), (14, .int .i64 s)]) (fun s => (List.set H o (openM 2 encFct m0))) (fun s => y0u n m0 m2 s = some r) ?_ ?_
        · skip
          refine L_block ?_
          refine L_while (S := Int × Int) n (fun s => [(14, .int .i64 s.1), (15, .int .i64 s.2), (0, .gl o (List.length m0)), (2, .int .i64 m2), (4, .fn 72 [])]) (fun s => (List.set H o (openM 2 encFct m0))) (fun k s => y06 n m0 m2 k s.1 s.2 = some r) ((a1, m2)) ?_ htrS hr ?_ ?_
          · show restr _ _ = [(14, .int .i64 a1), (15, .int .i64 m2), (0, .gl o (List.length m0)), (2, .int .i64 m2), (4, .fn 72 [])]
            (repeat (first | exact rzz | apply rcc rfl | apply rnn rfl))
          · rintro ⟨a223, a224⟩ hr; exact absurd hr (by simp [y06])
          · rintro m17 ⟨a223, a224⟩ hr
            show GL _ _ [(14, .int .i64 a223), (15, .int .i64 a224), (0, .gl o (List.length m0)), (2, .int .i64 m2), (4, .fn 72 [])] (List.set H o (openM 2 encFct m0)) _
            replace hr : y06 n m0 m2 (m17 + 1) a223 a224 = some r := hr
            rw [y06] at hr
            refine L_seq ?_
            refine L_stmt ?_
            refine L_seq ?_
            refine L_stmt ?_
            refine L_reg ?_
            refine G_p rfl rfl rfl ?_
            refine G_p rfl rfl rfl ?_
            refine G_p rfl rfl rfl ?_
            refine G_nil ?_
            refine L_nil ?_
            refine Sm_norm (e2 := [(0, .gl o (List.length m0)), (2, .int .i64 m2), (4, .fn 72 []), (14, .int .i64 a223), (15, .int .i64 a224), (85, .bool (decide (a223 < a224)))]) (H1 := (List.set H o (openM 2 encFct m0))) (H2 := (List.set H o (openM 2 encFct m0))) rfl (by repeat (first | exact rzz | apply rcc rfl | apply rnn rfl)) htrS (?_ : GL _ _ _ _ _)
            rcases cond_s hr with ⟨hc85, hr⟩ | ⟨hc85, hr⟩
            · refine L_T rfl hc85 ?_
              refine L_skip ?_
              refine L_nil ?_
              refine Sm_norm (e2 := [(0, .gl o (List.length m0)), (2, .int .i64 m2), (4, .fn 72 []), (14, .int .i64 a223), (15, .int .i64 a224)]) (H1 := (List.set H o (openM 2 encFct m0))) (H2 := (List.set H o (openM 2 encFct m0))) rfl (by repeat (first | exact rzz | apply rcc rfl | apply rnn rfl)) htrS (?_ : GL _ _ _ _ _)
              refine L_block ?_
              refine L_seq ?_
              refine L_stmt ?_
              refine L_reg ?_
              refine G_p rfl rfl rfl ?_
              refine G_p rfl rfl rfl ?_
              refine G_p rfl rfl rfl ?_
              refine G_p rfl rfl rfl ?_
              refine G_p rfl rfl (evP_shr rfl rfl (if_neg (by decide))) ?_
              refine G_p rfl rfl rfl ?_
              refine G_p rfl rfl rfl ?_
              refine G_nil ?_
              refine L_nil ?_
              refine Sm_norm (e2 := [(0, .gl o (List.length m0)), (2, .int .i64 m2), (4, .fn 72 []), (14, .int .i64 a223), (15, .int .i64 a224), (16, .int .i64 (IntKind.wrap .i64 ((Int.fdiv (IntKind.wrap .u64 ((IntKind.wrap .i64 (a223 + a224)))) (2 ^ 1)))))]) (H1 := (List.set H o (openM 2 encFct m0))) (H2 := (List.set H o (openM 2 encFct m0))) rfl (by repeat (first | exact rzz | apply rcc rfl | apply rnn rfl)) htrS (?_ : GL _ _ _ _ _)
              refine L_seq ?_
              refine L_stmt ?_
              refine L_drawS (ops := [_, _, _, _, _, _, _, _, _, _, _, _]) rfl rfl ?_
              refine G_p rfl rfl rfl ?_
              refine G_p rfl rfl rfl ?_
              refine G_p rfl rfl rfl ?_
              obtain ⟨e230, he230, hr⟩ := bind_s hr
              refine G_h rfl rfl rfl (iao_ev encFct_w1 rfl rfl rfl (hgetS ho) (idx_s he230).1 (map_get (x := e230) (idx_s he230).2)) ?_
              refine G_h (v := .agg (cFct e230)) rfl rfl rfl (ldao_ev (off := 0) rfl rfl rfl (hgetS ho) (idx_s he230).2 (by decide) (by decide) (y0c _) rfl) ?_
              refine G_p rfl rfl rfl ?_
              refine G_p rfl rfl rfl ?_
              obtain ⟨e231, he231, hr⟩ := bind_s hr
              refine G_h rfl rfl rfl (iao_ev encFct_w1 rfl rfl rfl (hgetS ho) (idx_s he231).1 (map_get (x := e231) (idx_s he231).2)) ?_
              refine G_h (v := .agg (cFct e231)) rfl rfl rfl (ldao_ev (off := 0) rfl rfl rfl (hgetS ho) (idx_s he231).2 (by decide) (by decide) (y0c _) rfl) ?_
              obtain ⟨r232, hr232, hr⟩ := bind_s hr
              refine G_cv rfl rfl rfl (CA_of (as := [.agg (cFct e230), .agg (cFct e231)]) rfl (y2j hr232)) ?_
              refine G_p rfl rfl rfl ?_
              refine G_p rfl rfl rfl ?_
              refine G_nil (L_nil ⟨rfl, ?_⟩)
              refine L_nil ?_
              refine Sm_norm (e2 := [(0, .gl o (List.length m0)), (2, .int .i64 m2), (4, .fn 72 []), (14, .int .i64 a223), (15, .int .i64 a224), (16, .int .i64 (IntKind.wrap .i64 ((Int.fdiv (IntKind.wrap .u64 ((IntKind.wrap .i64 (a223 + a224)))) (2 ^ 1))))), (103, .bool (!(decide (r232 < 0))))]) (H1 := (List.set H o (openM 2 encFct m0))) (H2 := (List.set H o (openM 2 encFct m0))) rfl (by repeat (first | exact rzz | apply rcc rfl | apply rnn rfl)) htrS (?_ : GL _ _ _ _ _)
              rcases cond_s hr with ⟨hc103, hr⟩ | ⟨hc103, hr⟩
              · refine L_T rfl hc103 ?_
                refine L_reg ?_
                refine G_p rfl rfl rfl ?_
                refine G_p rfl rfl rfl ?_
                refine G_p rfl rfl rfl ?_
                refine G_nil ?_
                refine L_nil ?_
                refine Blk_norm (?_ : GL _ _ _ _ _)
                refine L_nil ?_
                refine Rd_norm ⟨((IntKind.wrap .i64 ((IntKind.wrap .i64 ((Int.fdiv (IntKind.wrap .u64 ((IntKind.wrap .i64 (a223 + a224)))) (2 ^ 1)))) + 1)), a224), ?_, htrS, hr⟩
                show restr _ _ = [(14, .int .i64 (IntKind.wrap .i64 ((IntKind.wrap .i64 ((Int.fdiv (IntKind.wrap .u64 ((IntKind.wrap .i64 (a223 + a224)))) (2 ^ 1)))) + 1))), (15, .int .i64 a224), (0, .gl o (List.length m0)), (2, .int .i64 m2), (4, .fn 72 [])]
                (repeat (first | exact rzz | apply rcc rfl | apply rnn rfl))
              · refine L_F rfl hc103 ?_
                refine L_reg ?_
                refine G_p rfl rfl rfl ?_
                refine G_p rfl rfl rfl ?_
                refine G_nil ?_
                refine L_nil ?_
                refine Blk_norm (?_ : GL _ _ _ _ _)
                refine L_nil ?_
                refine Rd_norm ⟨(a223, (IntKind.wrap .i64 ((Int.fdiv (IntKind.wrap .u64 ((IntKind.wrap .i64 (a223 + a224)))) (2 ^ 1))))), ?_, htrS, hr⟩
                show restr _ _ = [(14, .int .i64 a223), (15, .int .i64 (IntKind.wrap .i64 ((Int.fdiv (IntKind.wrap .u64 ((IntKind.wrap .i64 (a223 + a224)))) (2 ^ 1))))), (0, .gl o (List.length m0)), (2, .int .i64 m2), (4, .fn 72 [])]
                (repeat (first | exact rzz | apply rcc rfl | apply rnn rfl))
            · refine L_F rfl hc85 ?_
              refine L_exit ?_
              refine Sm_exit ?_
              refine Rd_exit ?_
              refine Blk_exit (?_ : GL _ _ _ _ _)
              refine L_nil ?_
              exact Sm_norm (e2 := [(0, .gl o (List.length m0)), (2, .int .i64 m2), (14, .int .i64 a223)]) (H1 := (List.set H o (openM 2 encFct m0))) (H2 := (List.set H o (openM 2 encFct m0))) rfl (by repeat (first | exact rzz | apply rcc rfl | apply rnn rfl)) htrS ⟨a223, rfl, rfl, hr⟩
        · rintro a175 hr
          show GL _ _ [(0, .gl o (List.length m0)), (2, .int .i64 m2), (14, .int .i64 a175)] (List.set H o (openM 2 encFct m0)) _
          replace hr : y0u n m0 m2 a175 = some r := hr
          unfold y0u at hr
          refine L_seq ?_
          refine L_seq ?_
          refine L_stmt ?_
          refine L_reg ?_
          refine G_p rfl rfl rfl ?_
          refine G_p rfl rfl rfl ?_
          refine G_nil ?_
          refine L_nil ?_
          refine Sm_norm (e2 := [(0, .gl o (List.length m0)), (14, .int .i64 a175), (17, .int .i64 m2)]) (H1 := (List.set H o (openM 2 encFct m0))) (H2 := (List.set H o (openM 2 encFct m0))) rfl (by repeat (first | exact rzz | apply rcc rfl | apply rnn rfl)) htrS (?_ : GL _ _ _ _ _)
          refine L_block ?_
          refine L_while (S := List Fct × Int) n (fun s => [(17, .int .i64 s.2), (0, .gl o (List.length s.1)), (14, .int .i64 a175)]) (fun s => (List.set H o (openM 2 encFct s.1))) (fun k s => y0a a175 k s.1 s.2 = some r) ((m0, m2)) ?_ htrS hr ?_ ?_
          · show restr _ _ = [(17, .int .i64 m2), (0, .gl o (List.length m0)), (14, .int .i64 a175)]
            (repeat (first | exact rzz | apply rcc rfl | apply rnn rfl))
          · rintro ⟨l190, a191⟩ hr; exact absurd hr (by simp [y0a])
          · rintro m16 ⟨l190, a191⟩ hr
            show GL _ _ [(17, .int .i64 a191), (0, .gl o (List.length l190)), (14, .int .i64 a175)] (List.set H o (openM 2 encFct l190)) _
            replace hr : y0a a175 (m16 + 1) l190 a191 = some r := hr
            rw [y0a] at hr
            refine L_seq ?_
            refine L_stmt ?_
            refine L_seq ?_
            refine L_stmt ?_
            refine L_reg ?_
            refine G_p rfl rfl rfl ?_
            refine G_p rfl rfl rfl ?_
            refine G_p rfl rfl rfl ?_
            refine G_nil ?_
            refine L_nil ?_
            refine Sm_norm (e2 := [(0, .gl o (List.length l190)), (14, .int .i64 a175), (17, .int .i64 a191), (110, .bool (decide (a175 < a191)))]) (H1 := (List.set H o (openM 2 encFct l190))) (H2 := (List.set H o (openM 2 encFct l190))) rfl (by repeat (first | exact rzz | apply rcc rfl | apply rnn rfl)) htrS (?_ : GL _ _ _ _ _)
            rcases cond_s hr with ⟨hc110, hr⟩ | ⟨hc110, hr⟩
            · refine L_T rfl hc110 ?_
              refine L_skip ?_
              refine L_nil ?_
              refine Sm_norm (e2 := [(0, .gl o (List.length l190)), (14, .int .i64 a175), (17, .int .i64 a191)]) (H1 := (List.set H o (openM 2 encFct l190))) (H2 := (List.set H o (openM 2 encFct l190))) rfl (by repeat (first | exact rzz | apply rcc rfl | apply rnn rfl)) htrS (?_ : GL _ _ _ _ _)
              refine L_seq ?_
              refine L_stmt ?_
              refine L_block ?_
              refine L_draw0 ?_
              refine GD_p rfl rfl rfl ?_
              refine GD_p rfl rfl rfl ?_
              refine GD_p rfl rfl rfl ?_
              refine GD_p rfl rfl rfl ?_
              refine GD_p rfl rfl rfl ?_
              refine GD_p rfl rfl rfl ?_
              refine GD_p rfl rfl rfl ?_
              refine GD_p rfl rfl rfl ?_
              obtain ⟨e212, he212, hr⟩ := bind_s hr
              refine GD_h (d := some 121) rfl rfl rfl rfl (iao_ev encFct_w1 rfl rfl rfl (hgetS ho) (idx_s he212).1 (map_get (x := e212) (idx_s he212).2)) ?_
              refine GD_h (d := some 122) (v := .agg (cFct e212)) rfl rfl rfl rfl (ldao_ev (off := 0) rfl rfl rfl (hgetS ho) (idx_s he212).2 (by decide) (by decide) (y0c _) rfl) ?_
              refine GD_p rfl rfl rfl ?_
              refine GD_p rfl rfl rfl ?_
              obtain ⟨e213, he213, hr⟩ := bind_s hr
              refine GD_h (d := some 125) rfl rfl rfl rfl (iao_ev encFct_w1 rfl rfl rfl (hgetS ho) (idx_s he213).1 (map_get (x := e213) (idx_s he213).2)) ?_
              refine GD_h (d := some 126) (v := .agg (cFct e213)) rfl rfl rfl rfl (ldao_ev (off := 0) rfl rfl rfl (hgetS ho) (idx_s he213).2 (by decide) (by decide) (y0c _) rfl) ?_
              obtain ⟨e214, he214, hr⟩ := bind_s hr
              refine GD_h (d := some 127) rfl rfl rfl rfl (iao_ev encFct_w1 rfl rfl rfl (hgetS ho) (idx_s he214).1 (map_get (x := e214) (idx_s he214).2)) ?_
              obtain ⟨l215, hl215, hr⟩ := bind_s hr
              refine GD_o (d := none) (H' := (List.set H o (openM 2 encFct l215))) rfl rfl rfl rfl (stko_ev (off := 0) rfl rfl rfl rfl (hgetS ho) (idx_s he214).2 (by decide) (by decide) ⟨rfl, rfl⟩ rfl (by (try simp only [encFct_eq]); rfl) (setL_s hl215) hsetS) ?_
              obtain ⟨e216, he216, hr⟩ := bind_s hr
              refine GD_h (d := some 128) rfl rfl rfl rfl (iao_ev encFct_w1 (setL_len hl215) rfl rfl (hgetS ho) (idx_s he216).1 (map_get (x := e216) (idx_s he216).2)) ?_
              obtain ⟨l217, hl217, hr⟩ := bind_s hr
              refine GD_o (d := none) (H' := (List.set H o (openM 2 encFct l217))) rfl rfl rfl rfl (stko_ev (off := 0) (setL_len hl215) rfl rfl rfl (hgetS ho) (idx_s he216).2 (by decide) (by decide) ⟨rfl, rfl⟩ rfl (by (try simp only [encFct_eq]); rfl) (setL_s hl217) hsetS) ?_
              refine GD_nil2 (by first | (simp [okFs2, y1x, disj, noneIn, notIn, y2r, sameOn, partsGls, y2k, AOpd.ev, Env.get, Env.put, glsV, glsL]; done) | rfl) ?_
              refine L_nil ?_
              refine Blk_norm (?_ : GL _ _ _ _ _)
              refine L_nil ?_
              refine Sm_norm (e2 := [(0, .gl o (List.length l190)), (14, .int .i64 a175), (17, .int .i64 a191)]) (H1 := (List.set H o (openM 2 encFct l217))) (H2 := (List.set H o (openM 2 encFct l217))) rfl (by repeat (first | exact rzz | apply rcc rfl | apply rnn rfl)) htrS (?_ : GL _ _ _ _ _)
              refine L_reg ?_
              refine G_p rfl rfl rfl ?_
              refine G_p rfl rfl rfl ?_
              refine G_p rfl rfl rfl ?_
              refine G_nil ?_
              refine L_nil ?_
              refine Rd_norm ⟨(l217, (IntKind.wrap .i64 (a191 - 1))), ?_, htrS, hr⟩
              show restr _ _ = [(17, .int .i64 (IntKind.wrap .i64 (a191 - 1))), (0, .gl o (List.length l217)), (14, .int .i64 a175)]
              (try rw [show List.length l217 = List.length l190 from (Eq.trans (setL_len hl217) (setL_len hl215))])
              (repeat (first | exact rzz | apply rcc rfl | apply rnn rfl))
            · refine L_F rfl hc110 ?_
              refine L_exit ?_
              refine Sm_exit ?_
              refine Rd_exit ?_
              refine Blk_exit (?_ : GL _ _ _ _ _)
              refine L_ret ?_
              refine Sm_ret ?_
              have hr := some_s hr
              subst hr
              exact ⟨_, rfl, rfl, hcutS⟩
      · refine L_F rfl hc80 ?_
        refine L_skip ?_
        refine L_nil ?_
        exact Sm_norm (e2 := (ks1 o m0 a1 m2 b3)) (H1 := (List.set H o (openM 2 encFct m0))) (H2 := (List.set H o (openM 2 encFct m0))) rfl (by repeat (first | exact rzz | apply rcc rfl | apply rnn rfl)) htrS ⟨(), rfl, rfl, hr⟩
    · rintro ⟨⟩ hr
      show GL _ _ (ks1 o m0 a1 m2 b3) (List.set H o (openM 2 encFct m0)) _
      replace hr : y0v rec n m0 a1 m2 b3 = some r := hr
      unfold y0v at hr
      refine L_seq ?_
      refine L_stmt ?_
      refine L_reg ?_
      refine G_p rfl rfl rfl ?_
      refine G_p rfl rfl rfl ?_
      refine G_p rfl rfl rfl ?_
      refine G_p rfl rfl rfl ?_
      refine G_p rfl rfl (evP_shr rfl rfl (if_neg (by decide))) ?_
      refine G_p rfl rfl rfl ?_
      refine G_p rfl rfl rfl ?_
      refine G_nil ?_
      refine L_nil ?_
      refine Sm_norm (e2 := [(0, .gl o (List.length m0)), (1, .int .i64 a1), (2, .int .i64 m2), (3, .int .i64 b3), (4, .fn 72 []), (18, .int .i64 (IntKind.wrap .i64 ((Int.fdiv (IntKind.wrap .u64 ((IntKind.wrap .i64 (a1 + b3)))) (2 ^ 1)))))]) (H1 := (List.set H o (openM 2 encFct m0))) (H2 := (List.set H o (openM 2 encFct m0))) rfl (by repeat (first | exact rzz | apply rcc rfl | apply rnn rfl)) htrS (?_ : GL _ _ _ _ _)
      refine L_seq ?_
      refine L_stmt ?_
      refine L_reg ?_
      refine G_p rfl rfl rfl ?_
      refine G_p rfl rfl rfl ?_
      refine G_p rfl rfl rfl ?_
      refine G_p rfl rfl rfl ?_
      refine G_nil ?_
      refine L_nil ?_
      refine Sm_norm (e2 := [(0, .gl o (List.length m0)), (1, .int .i64 a1), (2, .int .i64 m2), (3, .int .i64 b3), (4, .fn 72 []), (18, .int .i64 (IntKind.wrap .i64 ((Int.fdiv (IntKind.wrap .u64 ((IntKind.wrap .i64 (a1 + b3)))) (2 ^ 1))))), (19, .int .i64 (IntKind.wrap .i64 ((IntKind.wrap .i64 ((Int.fdiv (IntKind.wrap .u64 ((IntKind.wrap .i64 (a1 + b3)))) (2 ^ 1)))) + m2)))]) (H1 := (List.set H o (openM 2 encFct m0))) (H2 := (List.set H o (openM 2 encFct m0))) rfl (by repeat (first | exact rzz | apply rcc rfl | apply rnn rfl)) htrS (?_ : GL _ _ _ _ _)
      refine L_seq ?_
      refine L_stmt ?_
      refine L_reg ?_
      refine G_p rfl rfl rfl ?_
      refine G_p rfl rfl rfl ?_
      refine G_nil ?_
      refine L_nil ?_
      refine Sm_norm (e2 := [(0, .gl o (List.length m0)), (1, .int .i64 a1), (2, .int .i64 m2), (3, .int .i64 b3), (4, .fn 72 []), (18, .int .i64 (IntKind.wrap .i64 ((Int.fdiv (IntKind.wrap .u64 ((IntKind.wrap .i64 (a1 + b3)))) (2 ^ 1))))), (19, .int .i64 (IntKind.wrap .i64 ((IntKind.wrap .i64 ((Int.fdiv (IntKind.wrap .u64 ((IntKind.wrap .i64 (a1 + b3)))) (2 ^ 1)))) + m2)))]) (H1 := (List.set H o (openM 2 encFct m0))) (H2 := (List.set H o (openM 2 encFct m0))) rfl (by repeat (first | exact rzz | apply rcc rfl | apply rnn rfl)) htrS (?_ : GL _ _ _ _ _)
      refine L_seq ?_
      refine L_stmtJ (S := Int × Int) (fun s => [(0, .gl o (List.length m0)), (1, .int .i64 a1), (2, .int .i64 m2), (3, .int .i64 b3), (4, .fn 72 []), (18, .int .i64 (IntKind.wrap .i64 ((Int.fdiv (IntKind.wrap .u64 ((IntKind.wrap .i64 (a1 + b3)))) (2 ^ 1))))), (19, .int .i64 (IntKind.wrap .i64 ((IntKind.wrap .i64 ((Int.fdiv (IntKind.wrap .u64 ((IntKind.wrap .i64 (a1 + b3)))) (2 ^ 1)))) + m2))), (20, .int .i64 s.1), (21, .int .i64 s.2)]) (fun s => (List.set H o (openM 2 encFct m0))) (fun s => y0k rec n m0 a1 m2 b3 s.1 s.2 = some r) ?_ ?_
      · skip
        refine L_seq ?_
        refine L_stmt ?_
        refine L_reg ?_
        refine G_p rfl rfl rfl ?_
        refine G_p rfl rfl rfl ?_
        refine G_p rfl rfl rfl ?_
        refine G_nil ?_
        refine L_nil ?_
        refine Sm_norm (e2 := [(0, .gl o (List.length m0)), (1, .int .i64 a1), (2, .int .i64 m2), (3, .int .i64 b3), (4, .fn 72 []), (18, .int .i64 (IntKind.wrap .i64 ((Int.fdiv (IntKind.wrap .u64 ((IntKind.wrap .i64 (a1 + b3)))) (2 ^ 1))))), (19, .int .i64 (IntKind.wrap .i64 ((IntKind.wrap .i64 ((Int.fdiv (IntKind.wrap .u64 ((IntKind.wrap .i64 (a1 + b3)))) (2 ^ 1)))) + m2))), (140, .bool (decide ((IntKind.wrap .i64 ((Int.fdiv (IntKind.wrap .u64 ((IntKind.wrap .i64 (a1 + b3)))) (2 ^ 1)))) < m2)))]) (H1 := (List.set H o (openM 2 encFct m0))) (H2 := (List.set H o (openM 2 encFct m0))) rfl (by repeat (first | exact rzz | apply rcc rfl | apply rnn rfl)) htrS (?_ : GL _ _ _ _ _)
        rcases cond_s hr with ⟨hc140, hr⟩ | ⟨hc140, hr⟩
        · refine L_T rfl hc140 ?_
          refine L_seq ?_
          refine L_stmt ?_
          refine L_reg ?_
          refine G_p rfl rfl rfl ?_
          refine G_p rfl rfl rfl ?_
          refine G_p rfl rfl rfl ?_
          refine G_p rfl rfl rfl ?_
          refine G_nil ?_
          refine L_nil ?_
          refine Sm_norm (e2 := [(0, .gl o (List.length m0)), (1, .int .i64 a1), (2, .int .i64 m2), (3, .int .i64 b3), (4, .fn 72 []), (18, .int .i64 (IntKind.wrap .i64 ((Int.fdiv (IntKind.wrap .u64 ((IntKind.wrap .i64 (a1 + b3)))) (2 ^ 1))))), (19, .int .i64 (IntKind.wrap .i64 ((IntKind.wrap .i64 ((Int.fdiv (IntKind.wrap .u64 ((IntKind.wrap .i64 (a1 + b3)))) (2 ^ 1)))) + m2))), (20, .int .i64 (IntKind.wrap .i64 ((IntKind.wrap .i64 ((IntKind.wrap .i64 ((Int.fdiv (IntKind.wrap .u64 ((IntKind.wrap .i64 (a1 + b3)))) (2 ^ 1)))) + m2)) - b3)))]) (H1 := (List.set H o (openM 2 encFct m0))) (H2 := (List.set H o (openM 2 encFct m0))) rfl (by repeat (first | exact rzz | apply rcc rfl | apply rnn rfl)) htrS (?_ : GL _ _ _ _ _)
          refine L_reg ?_
          refine G_p rfl rfl rfl ?_
          refine G_p rfl rfl rfl ?_
          refine G_nil ?_
          refine L_nil ?_
          exact Sm_norm (e2 := [(0, .gl o (List.length m0)), (1, .int .i64 a1), (2, .int .i64 m2), (3, .int .i64 b3), (4, .fn 72 []), (18, .int .i64 (IntKind.wrap .i64 ((Int.fdiv (IntKind.wrap .u64 ((IntKind.wrap .i64 (a1 + b3)))) (2 ^ 1))))), (19, .int .i64 (IntKind.wrap .i64 ((IntKind.wrap .i64 ((Int.fdiv (IntKind.wrap .u64 ((IntKind.wrap .i64 (a1 + b3)))) (2 ^ 1)))) + m2))), (20, .int .i64 (IntKind.wrap .i64 ((IntKind.wrap .i64 ((IntKind.wrap .i64 ((Int.fdiv (IntKind.wrap .u64 ((IntKind.wrap .i64 (a1 + b3)))) (2 ^ 1)))) + m2)) - b3))), (21, .int .i64 (IntKind.wrap .i64 ((Int.fdiv (IntKind.wrap .u64 ((IntKind.wrap .i64 (a1 + b3)))) (2 ^ 1)))))]) (H1 := (List.set H o (openM 2 encFct m0))) (H2 := (List.set H o (openM 2 encFct m0))) rfl (by repeat (first | exact rzz | apply rcc rfl | apply rnn rfl)) htrS ⟨((IntKind.wrap .i64 ((IntKind.wrap .i64 ((IntKind.wrap .i64 ((Int.fdiv (IntKind.wrap .u64 ((IntKind.wrap .i64 (a1 + b3)))) (2 ^ 1)))) + m2)) - b3)), (IntKind.wrap .i64 ((Int.fdiv (IntKind.wrap .u64 ((IntKind.wrap .i64 (a1 + b3)))) (2 ^ 1))))), rfl, rfl, hr⟩
        · refine L_F rfl hc140 ?_
          refine L_seq ?_
          refine L_stmt ?_
          refine L_reg ?_
          refine G_p rfl rfl rfl ?_
          refine G_p rfl rfl rfl ?_
          refine G_nil ?_
          refine L_nil ?_
          refine Sm_norm (e2 := [(0, .gl o (List.length m0)), (1, .int .i64 a1), (2, .int .i64 m2), (3, .int .i64 b3), (4, .fn 72 []), (18, .int .i64 (IntKind.wrap .i64 ((Int.fdiv (IntKind.wrap .u64 ((IntKind.wrap .i64 (a1 + b3)))) (2 ^ 1))))), (19, .int .i64 (IntKind.wrap .i64 ((IntKind.wrap .i64 ((Int.fdiv (IntKind.wrap .u64 ((IntKind.wrap .i64 (a1 + b3)))) (2 ^ 1)))) + m2))), (20, .int .i64 a1)]) (H1 := (List.set H o (openM 2 encFct m0))) (H2 := (List.set H o (openM 2 encFct m0))) rfl (by repeat (first | exact rzz | apply rcc rfl | apply rnn rfl)) htrS (?_ : GL _ _ _ _ _)
          refine L_reg ?_
          refine G_p rfl rfl rfl ?_
          refine G_p rfl rfl rfl ?_
          refine G_nil ?_
          refine L_nil ?_
          exact Sm_norm (e2 := [(0, .gl o (List.length m0)), (1, .int .i64 a1), (2, .int .i64 m2), (3, .int .i64 b3), (4, .fn 72 []), (18, .int .i64 (IntKind.wrap .i64 ((Int.fdiv (IntKind.wrap .u64 ((IntKind.wrap .i64 (a1 + b3)))) (2 ^ 1))))), (19, .int .i64 (IntKind.wrap .i64 ((IntKind.wrap .i64 ((Int.fdiv (IntKind.wrap .u64 ((IntKind.wrap .i64 (a1 + b3)))) (2 ^ 1)))) + m2))), (20, .int .i64 a1), (21, .int .i64 m2)]) (H1 := (List.set H o (openM 2 encFct m0))) (H2 := (List.set H o (openM 2 encFct m0))) rfl (by repeat (first | exact rzz | apply rcc rfl | apply rnn rfl)) htrS ⟨(a1, m2), rfl, rfl, hr⟩
      · rintro ⟨a120, a121⟩ hr
        show GL _ _ [(0, .gl o (List.length m0)), (1, .int .i64 a1), (2, .int .i64 m2), (3, .int .i64 b3), (4, .fn 72 []), (18, .int .i64 (IntKind.wrap .i64 ((Int.fdiv (IntKind.wrap .u64 ((IntKind.wrap .i64 (a1 + b3)))) (2 ^ 1))))), (19, .int .i64 (IntKind.wrap .i64 ((IntKind.wrap .i64 ((Int.fdiv (IntKind.wrap .u64 ((IntKind.wrap .i64 (a1 + b3)))) (2 ^ 1)))) + m2))), (20, .int .i64 a120), (21, .int .i64 a121)] (List.set H o (openM 2 encFct m0)) _
        replace hr : y0k rec n m0 a1 m2 b3 a120 a121 = some r := hr
        unfold y0k at hr
        refine L_seq ?_
        refine L_stmt ?_
        refine L_reg ?_
        refine G_p rfl rfl rfl ?_
        refine G_p rfl rfl rfl ?_
        refine G_p rfl rfl rfl ?_
        refine G_nil ?_
        refine L_nil ?_
        refine Sm_norm (e2 := [(0, .gl o (List.length m0)), (1, .int .i64 a1), (2, .int .i64 m2), (3, .int .i64 b3), (4, .fn 72 []), (18, .int .i64 (IntKind.wrap .i64 ((Int.fdiv (IntKind.wrap .u64 ((IntKind.wrap .i64 (a1 + b3)))) (2 ^ 1))))), (19, .int .i64 (IntKind.wrap .i64 ((IntKind.wrap .i64 ((Int.fdiv (IntKind.wrap .u64 ((IntKind.wrap .i64 (a1 + b3)))) (2 ^ 1)))) + m2))), (20, .int .i64 a120), (21, .int .i64 a121), (22, .int .i64 (IntKind.wrap .i64 ((IntKind.wrap .i64 ((IntKind.wrap .i64 ((Int.fdiv (IntKind.wrap .u64 ((IntKind.wrap .i64 (a1 + b3)))) (2 ^ 1)))) + m2)) - 1)))]) (H1 := (List.set H o (openM 2 encFct m0))) (H2 := (List.set H o (openM 2 encFct m0))) rfl (by repeat (first | exact rzz | apply rcc rfl | apply rnn rfl)) htrS (?_ : GL _ _ _ _ _)
        refine L_seq ?_
        refine L_stmtJ (S := Int) (fun s => [(0, .gl o (List.length m0)), (1, .int .i64 a1), (2, .int .i64 m2), (3, .int .i64 b3), (4, .fn 72 []), (18, .int .i64 (IntKind.wrap .i64 ((Int.fdiv (IntKind.wrap .u64 ((IntKind.wrap .i64 (a1 + b3)))) (2 ^ 1))))), (19, .int .i64 (IntKind.wrap .i64 ((IntKind.wrap .i64 ((Int.fdiv (IntKind.wrap .u64 ((IntKind.wrap .i64 (a1 + b3)))) (2 ^ 1)))) + m2))), (20, .int .i64 s)]) (fun s => (List.set H o (openM 2 encFct m0))) (fun s => y0l rec n m0 a1 m2 b3 s = some r) ?_ ?_
        · skip
          refine L_block ?_
          refine L_while (S := Int × Int) n (fun s => [(20, .int .i64 s.1), (21, .int .i64 s.2), (0, .gl o (List.length m0)), (1, .int .i64 a1), (2, .int .i64 m2), (3, .int .i64 b3), (4, .fn 72 []), (18, .int .i64 (IntKind.wrap .i64 ((Int.fdiv (IntKind.wrap .u64 ((IntKind.wrap .i64 (a1 + b3)))) (2 ^ 1))))), (19, .int .i64 (IntKind.wrap .i64 ((IntKind.wrap .i64 ((Int.fdiv (IntKind.wrap .u64 ((IntKind.wrap .i64 (a1 + b3)))) (2 ^ 1)))) + m2))), (22, .int .i64 (IntKind.wrap .i64 ((IntKind.wrap .i64 ((IntKind.wrap .i64 ((Int.fdiv (IntKind.wrap .u64 ((IntKind.wrap .i64 (a1 + b3)))) (2 ^ 1)))) + m2)) - 1)))]) (fun s => (List.set H o (openM 2 encFct m0))) (fun k s => y02 rec n m0 a1 m2 b3 k s.1 s.2 = some r) ((a120, a121)) ?_ htrS hr ?_ ?_
          · show restr _ _ = [(20, .int .i64 a120), (21, .int .i64 a121), (0, .gl o (List.length m0)), (1, .int .i64 a1), (2, .int .i64 m2), (3, .int .i64 b3), (4, .fn 72 []), (18, .int .i64 (IntKind.wrap .i64 ((Int.fdiv (IntKind.wrap .u64 ((IntKind.wrap .i64 (a1 + b3)))) (2 ^ 1))))), (19, .int .i64 (IntKind.wrap .i64 ((IntKind.wrap .i64 ((Int.fdiv (IntKind.wrap .u64 ((IntKind.wrap .i64 (a1 + b3)))) (2 ^ 1)))) + m2))), (22, .int .i64 (IntKind.wrap .i64 ((IntKind.wrap .i64 ((IntKind.wrap .i64 ((Int.fdiv (IntKind.wrap .u64 ((IntKind.wrap .i64 (a1 + b3)))) (2 ^ 1)))) + m2)) - 1)))]
            (repeat (first | exact rzz | apply rcc rfl | apply rnn rfl))
          · rintro ⟨a150, a151⟩ hr; exact absurd hr (by simp [y02])
          · rintro m14 ⟨a150, a151⟩ hr
            show GL _ _ [(20, .int .i64 a150), (21, .int .i64 a151), (0, .gl o (List.length m0)), (1, .int .i64 a1), (2, .int .i64 m2), (3, .int .i64 b3), (4, .fn 72 []), (18, .int .i64 (IntKind.wrap .i64 ((Int.fdiv (IntKind.wrap .u64 ((IntKind.wrap .i64 (a1 + b3)))) (2 ^ 1))))), (19, .int .i64 (IntKind.wrap .i64 ((IntKind.wrap .i64 ((Int.fdiv (IntKind.wrap .u64 ((IntKind.wrap .i64 (a1 + b3)))) (2 ^ 1)))) + m2))), (22, .int .i64 (IntKind.wrap .i64 ((IntKind.wrap .i64 ((IntKind.wrap .i64 ((Int.fdiv (IntKind.wrap .u64 ((IntKind.wrap .i64 (a1 + b3)))) (2 ^ 1)))) + m2)) - 1)))] (List.set H o (openM 2 encFct m0)) _
            replace hr : y02 rec n m0 a1 m2 b3 (m14 + 1) a150 a151 = some r := hr
            rw [y02] at hr
            refine L_seq ?_
            refine L_stmt ?_
            refine L_seq ?_
            refine L_stmt ?_
            refine L_reg ?_
            refine G_p rfl rfl rfl ?_
            refine G_p rfl rfl rfl ?_
            refine G_p rfl rfl rfl ?_
            refine G_nil ?_
            refine L_nil ?_
            refine Sm_norm (e2 := [(0, .gl o (List.length m0)), (1, .int .i64 a1), (2, .int .i64 m2), (3, .int .i64 b3), (4, .fn 72 []), (18, .int .i64 (IntKind.wrap .i64 ((Int.fdiv (IntKind.wrap .u64 ((IntKind.wrap .i64 (a1 + b3)))) (2 ^ 1))))), (19, .int .i64 (IntKind.wrap .i64 ((IntKind.wrap .i64 ((Int.fdiv (IntKind.wrap .u64 ((IntKind.wrap .i64 (a1 + b3)))) (2 ^ 1)))) + m2))), (20, .int .i64 a150), (21, .int .i64 a151), (22, .int .i64 (IntKind.wrap .i64 ((IntKind.wrap .i64 ((IntKind.wrap .i64 ((Int.fdiv (IntKind.wrap .u64 ((IntKind.wrap .i64 (a1 + b3)))) (2 ^ 1)))) + m2)) - 1))), (151, .bool (decide (a150 < a151)))]) (H1 := (List.set H o (openM 2 encFct m0))) (H2 := (List.set H o (openM 2 encFct m0))) rfl (by repeat (first | exact rzz | apply rcc rfl | apply rnn rfl)) htrS (?_ : GL _ _ _ _ _)
            rcases cond_s hr with ⟨hc151, hr⟩ | ⟨hc151, hr⟩
            · refine L_T rfl hc151 ?_
              refine L_skip ?_
              refine L_nil ?_
              refine Sm_norm (e2 := [(0, .gl o (List.length m0)), (1, .int .i64 a1), (2, .int .i64 m2), (3, .int .i64 b3), (4, .fn 72 []), (18, .int .i64 (IntKind.wrap .i64 ((Int.fdiv (IntKind.wrap .u64 ((IntKind.wrap .i64 (a1 + b3)))) (2 ^ 1))))), (19, .int .i64 (IntKind.wrap .i64 ((IntKind.wrap .i64 ((Int.fdiv (IntKind.wrap .u64 ((IntKind.wrap .i64 (a1 + b3)))) (2 ^ 1)))) + m2))), (20, .int .i64 a150), (21, .int .i64 a151), (22, .int .i64 (IntKind.wrap .i64 ((IntKind.wrap .i64 ((IntKind.wrap .i64 ((Int.fdiv (IntKind.wrap .u64 ((IntKind.wrap .i64 (a1 + b3)))) (2 ^ 1)))) + m2)) - 1)))]) (H1 := (List.set H o (openM 2 encFct m0))) (H2 := (List.set H o (openM 2 encFct m0))) rfl (by repeat (first | exact rzz | apply rcc rfl | apply rnn rfl)) htrS (?_ : GL _ _ _ _ _)
              refine L_block ?_
              refine L_seq ?_
              refine L_stmt ?_
              refine L_reg ?_
              refine G_p rfl rfl rfl ?_
              refine G_p rfl rfl rfl ?_
              refine G_p rfl rfl rfl ?_
              refine G_p rfl rfl rfl ?_
              refine G_p rfl rfl (evP_shr rfl rfl (if_neg (by decide))) ?_
              refine G_p rfl rfl rfl ?_
              refine G_p rfl rfl rfl ?_
              refine G_nil ?_
              refine L_nil ?_
              refine Sm_norm (e2 := [(0, .gl o (List.length m0)), (1, .int .i64 a1), (2, .int .i64 m2), (3, .int .i64 b3), (4, .fn 72 []), (18, .int .i64 (IntKind.wrap .i64 ((Int.fdiv (IntKind.wrap .u64 ((IntKind.wrap .i64 (a1 + b3)))) (2 ^ 1))))), (19, .int .i64 (IntKind.wrap .i64 ((IntKind.wrap .i64 ((Int.fdiv (IntKind.wrap .u64 ((IntKind.wrap .i64 (a1 + b3)))) (2 ^ 1)))) + m2))), (20, .int .i64 a150), (21, .int .i64 a151), (22, .int .i64 (IntKind.wrap .i64 ((IntKind.wrap .i64 ((IntKind.wrap .i64 ((Int.fdiv (IntKind.wrap .u64 ((IntKind.wrap .i64 (a1 + b3)))) (2 ^ 1)))) + m2)) - 1))), (23, .int .i64 (IntKind.wrap .i64 ((Int.fdiv (IntKind.wrap .u64 ((IntKind.wrap .i64 (a150 + a151)))) (2 ^ 1)))))]) (H1 := (List.set H o (openM 2 encFct m0))) (H2 := (List.set H o (openM 2 encFct m0))) rfl (by repeat (first | exact rzz | apply rcc rfl | apply rnn rfl)) htrS (?_ : GL _ _ _ _ _)
              refine L_seq ?_
              refine L_stmt ?_
              refine L_drawS (ops := [_, _, _, _, _, _, _, _, _, _, _, _, _, _]) rfl rfl ?_
              refine G_p rfl rfl rfl ?_
              refine G_p rfl rfl rfl ?_
              refine G_p rfl rfl rfl ?_
              refine G_p rfl rfl rfl ?_
              refine G_p rfl rfl rfl ?_
              obtain ⟨e157, he157, hr⟩ := bind_s hr
              refine G_h rfl rfl rfl (iao_ev encFct_w1 rfl rfl rfl (hgetS ho) (idx_s he157).1 (map_get (x := e157) (idx_s he157).2)) ?_
              refine G_h (v := .agg (cFct e157)) rfl rfl rfl (ldao_ev (off := 0) rfl rfl rfl (hgetS ho) (idx_s he157).2 (by decide) (by decide) (y0c _) rfl) ?_
              refine G_p rfl rfl rfl ?_
              refine G_p rfl rfl rfl ?_
              obtain ⟨e158, he158, hr⟩ := bind_s hr
              refine G_h rfl rfl rfl (iao_ev encFct_w1 rfl rfl rfl (hgetS ho) (idx_s he158).1 (map_get (x := e158) (idx_s he158).2)) ?_
              refine G_h (v := .agg (cFct e158)) rfl rfl rfl (ldao_ev (off := 0) rfl rfl rfl (hgetS ho) (idx_s he158).2 (by decide) (by decide) (y0c _) rfl) ?_
              obtain ⟨r159, hr159, hr⟩ := bind_s hr
              refine G_cv rfl rfl rfl (CA_of (as := [.agg (cFct e157), .agg (cFct e158)]) rfl (y2j hr159)) ?_
              refine G_p rfl rfl rfl ?_
              refine G_p rfl rfl rfl ?_
              refine G_nil (L_nil ⟨rfl, ?_⟩)
              refine L_nil ?_
              refine Sm_norm (e2 := [(0, .gl o (List.length m0)), (1, .int .i64 a1), (2, .int .i64 m2), (3, .int .i64 b3), (4, .fn 72 []), (18, .int .i64 (IntKind.wrap .i64 ((Int.fdiv (IntKind.wrap .u64 ((IntKind.wrap .i64 (a1 + b3)))) (2 ^ 1))))), (19, .int .i64 (IntKind.wrap .i64 ((IntKind.wrap .i64 ((Int.fdiv (IntKind.wrap .u64 ((IntKind.wrap .i64 (a1 + b3)))) (2 ^ 1)))) + m2))), (20, .int .i64 a150), (21, .int .i64 a151), (22, .int .i64 (IntKind.wrap .i64 ((IntKind.wrap .i64 ((IntKind.wrap .i64 ((Int.fdiv (IntKind.wrap .u64 ((IntKind.wrap .i64 (a1 + b3)))) (2 ^ 1)))) + m2)) - 1))), (23, .int .i64 (IntKind.wrap .i64 ((Int.fdiv (IntKind.wrap .u64 ((IntKind.wrap .i64 (a150 + a151)))) (2 ^ 1))))), (171, .bool (!(decide (r159 < 0))))]) (H1 := (List.set H o (openM 2 encFct m0))) (H2 := (List.set H o (openM 2 encFct m0))) rfl (by repeat (first | exact rzz | apply rcc rfl | apply rnn rfl)) htrS (?_ : GL _ _ _ _ _)
              rcases cond_s hr with ⟨hc171, hr⟩ | ⟨hc171, hr⟩
              · refine L_T rfl hc171 ?_
                refine L_reg ?_
                refine G_p rfl rfl rfl ?_
                refine G_p rfl rfl rfl ?_
                refine G_p rfl rfl rfl ?_
                refine G_nil ?_
                refine L_nil ?_
                refine Blk_norm (?_ : GL _ _ _ _ _)
                refine L_nil ?_
                refine Rd_norm ⟨((IntKind.wrap .i64 ((IntKind.wrap .i64 ((Int.fdiv (IntKind.wrap .u64 ((IntKind.wrap .i64 (a150 + a151)))) (2 ^ 1)))) + 1)), a151), ?_, htrS, hr⟩
                show restr _ _ = [(20, .int .i64 (IntKind.wrap .i64 ((IntKind.wrap .i64 ((Int.fdiv (IntKind.wrap .u64 ((IntKind.wrap .i64 (a150 + a151)))) (2 ^ 1)))) + 1))), (21, .int .i64 a151), (0, .gl o (List.length m0)), (1, .int .i64 a1), (2, .int .i64 m2), (3, .int .i64 b3), (4, .fn 72 []), (18, .int .i64 (IntKind.wrap .i64 ((Int.fdiv (IntKind.wrap .u64 ((IntKind.wrap .i64 (a1 + b3)))) (2 ^ 1))))), (19, .int .i64 (IntKind.wrap .i64 ((IntKind.wrap .i64 ((Int.fdiv (IntKind.wrap .u64 ((IntKind.wrap .i64 (a1 + b3)))) (2 ^ 1)))) + m2))), (22, .int .i64 (IntKind.wrap .i64 ((IntKind.wrap .i64 ((IntKind.wrap .i64 ((Int.fdiv (IntKind.wrap .u64 ((IntKind.wrap .i64 (a1 + b3)))) (2 ^ 1)))) + m2)) - 1)))]
                (repeat (first | exact rzz | apply rcc rfl | apply rnn rfl))
              · refine L_F rfl hc171 ?_
                refine L_reg ?_
                refine G_p rfl rfl rfl ?_
                refine G_p rfl rfl rfl ?_
                refine G_nil ?_
                refine L_nil ?_
                refine Blk_norm (?_ : GL _ _ _ _ _)
                refine L_nil ?_
                refine Rd_norm ⟨(a150, (IntKind.wrap .i64 ((Int.fdiv (IntKind.wrap .u64 ((IntKind.wrap .i64 (a150 + a151)))) (2 ^ 1))))), ?_, htrS, hr⟩
                show restr _ _ = [(20, .int .i64 a150), (21, .int .i64 (IntKind.wrap .i64 ((Int.fdiv (IntKind.wrap .u64 ((IntKind.wrap .i64 (a150 + a151)))) (2 ^ 1))))), (0, .gl o (List.length m0)), (1, .int .i64 a1), (2, .int .i64 m2), (3, .int .i64 b3), (4, .fn 72 []), (18, .int .i64 (IntKind.wrap .i64 ((Int.fdiv (IntKind.wrap .u64 ((IntKind.wrap .i64 (a1 + b3)))) (2 ^ 1))))), (19, .int .i64 (IntKind.wrap .i64 ((IntKind.wrap .i64 ((Int.fdiv (IntKind.wrap .u64 ((IntKind.wrap .i64 (a1 + b3)))) (2 ^ 1)))) + m2))), (22, .int .i64 (IntKind.wrap .i64 ((IntKind.wrap .i64 ((IntKind.wrap .i64 ((Int.fdiv (IntKind.wrap .u64 ((IntKind.wrap .i64 (a1 + b3)))) (2 ^ 1)))) + m2)) - 1)))]
                (repeat (first | exact rzz | apply rcc rfl | apply rnn rfl))
            · refine L_F rfl hc151 ?_
              refine L_exit ?_
              refine Sm_exit ?_
              refine Rd_exit ?_
              refine Blk_exit (?_ : GL _ _ _ _ _)
              refine L_nil ?_
              exact Sm_norm (e2 := [(0, .gl o (List.length m0)), (1, .int .i64 a1), (2, .int .i64 m2), (3, .int .i64 b3), (4, .fn 72 []), (18, .int .i64 (IntKind.wrap .i64 ((Int.fdiv (IntKind.wrap .u64 ((IntKind.wrap .i64 (a1 + b3)))) (2 ^ 1))))), (19, .int .i64 (IntKind.wrap .i64 ((IntKind.wrap .i64 ((Int.fdiv (IntKind.wrap .u64 ((IntKind.wrap .i64 (a1 + b3)))) (2 ^ 1)))) + m2))), (20, .int .i64 a150)]) (H1 := (List.set H o (openM 2 encFct m0))) (H2 := (List.set H o (openM 2 encFct m0))) rfl (by repeat (first | exact rzz | apply rcc rfl | apply rnn rfl)) htrS ⟨a150, rfl, rfl, hr⟩
        · rintro a137 hr
          show GL _ _ [(0, .gl o (List.length m0)), (1, .int .i64 a1), (2, .int .i64 m2), (3, .int .i64 b3), (4, .fn 72 []), (18, .int .i64 (IntKind.wrap .i64 ((Int.fdiv (IntKind.wrap .u64 ((IntKind.wrap .i64 (a1 + b3)))) (2 ^ 1))))), (19, .int .i64 (IntKind.wrap .i64 ((IntKind.wrap .i64 ((Int.fdiv (IntKind.wrap .u64 ((IntKind.wrap .i64 (a1 + b3)))) (2 ^ 1)))) + m2))), (20, .int .i64 a137)] (List.set H o (openM 2 encFct m0)) _
          replace hr : y0l rec n m0 a1 m2 b3 a137 = some r := hr
          unfold y0l at hr
          refine L_seq ?_
          refine L_stmt ?_
          refine L_reg ?_
          refine G_p rfl rfl rfl ?_
          refine G_p rfl rfl rfl ?_
          refine G_p rfl rfl rfl ?_
          refine G_p rfl rfl rfl ?_
          refine G_nil ?_
          refine L_nil ?_
          refine Sm_norm (e2 := [(0, .gl o (List.length m0)), (1, .int .i64 a1), (2, .int .i64 m2), (3, .int .i64 b3), (4, .fn 72 []), (18, .int .i64 (IntKind.wrap .i64 ((Int.fdiv (IntKind.wrap .u64 ((IntKind.wrap .i64 (a1 + b3)))) (2 ^ 1))))), (20, .int .i64 a137), (24, .int .i64 (IntKind.wrap .i64 ((IntKind.wrap .i64 ((IntKind.wrap .i64 ((Int.fdiv (IntKind.wrap .u64 ((IntKind.wrap .i64 (a1 + b3)))) (2 ^ 1)))) + m2)) - a137)))]) (H1 := (List.set H o (openM 2 encFct m0))) (H2 := (List.set H o (openM 2 encFct m0))) rfl (by repeat (first | exact rzz | apply rcc rfl | apply rnn rfl)) htrS (?_ : GL _ _ _ _ _)
          refine L_seq ?_
          refine L_stmtJ (S := List Fct) (fun s => [(0, .gl o (List.length s)), (1, .int .i64 a1), (3, .int .i64 b3), (4, .fn 72 []), (18, .int .i64 (IntKind.wrap .i64 ((Int.fdiv (IntKind.wrap .u64 ((IntKind.wrap .i64 (a1 + b3)))) (2 ^ 1))))), (20, .int .i64 a137), (24, .int .i64 (IntKind.wrap .i64 ((IntKind.wrap .i64 ((IntKind.wrap .i64 ((Int.fdiv (IntKind.wrap .u64 ((IntKind.wrap .i64 (a1 + b3)))) (2 ^ 1)))) + m2)) - a137)))]) (fun s => (List.set H o (openM 2 encFct s))) (fun s => y0i rec a1 m2 b3 a137 s = some r) ?_ ?_
          · skip
            refine L_seq ?_
            refine L_stmt ?_
            refine L_reg ?_
            refine G_p rfl rfl rfl ?_
            refine G_p rfl rfl rfl ?_
            refine G_p rfl rfl rfl ?_
            refine G_p rfl rfl rfl ?_
            refine G_and (f := (decide (m2 < (IntKind.wrap .i64 ((IntKind.wrap .i64 ((IntKind.wrap .i64 ((Int.fdiv (IntKind.wrap .u64 ((IntKind.wrap .i64 (a1 + b3)))) (2 ^ 1)))) + m2)) - a137))))) [_, _, _] rfl rfl ?_ ?_
            · intro hb181
              refine G_p rfl rfl rfl ?_
              refine G_p rfl rfl rfl ?_
              refine G_p rfl rfl rfl ?_
              exact G_nil (L_nil ⟨rfl, rfl, rfl⟩)
            · intro vs hvs
              obtain ⟨u182, u183, u184, rfl⟩ := len3 hvs
              dsimp only [junk]
              refine G_nil ?_
              refine L_nil ?_
              refine Sm_norm (e2 := [(0, .gl o (List.length m0)), (1, .int .i64 a1), (2, .int .i64 m2), (3, .int .i64 b3), (4, .fn 72 []), (18, .int .i64 (IntKind.wrap .i64 ((Int.fdiv (IntKind.wrap .u64 ((IntKind.wrap .i64 (a1 + b3)))) (2 ^ 1))))), (20, .int .i64 a137), (24, .int .i64 (IntKind.wrap .i64 ((IntKind.wrap .i64 ((IntKind.wrap .i64 ((Int.fdiv (IntKind.wrap .u64 ((IntKind.wrap .i64 (a1 + b3)))) (2 ^ 1)))) + m2)) - a137))), (185, .bool ((decide (a137 < m2)) && (decide (m2 < (IntKind.wrap .i64 ((IntKind.wrap .i64 ((IntKind.wrap .i64 ((Int.fdiv (IntKind.wrap .u64 ((IntKind.wrap .i64 (a1 + b3)))) (2 ^ 1)))) + m2)) - a137))))))]) (H1 := (List.set H o (openM 2 encFct m0))) (H2 := (List.set H o (openM 2 encFct m0))) rfl (by repeat (first | exact rzz | apply rcc rfl | apply rnn rfl)) htrS (?_ : GL _ _ _ _ _)
              rcases cond_s hr with ⟨hc185, hr⟩ | ⟨hc185, hr⟩
              · refine L_T rfl hc185 ?_
                refine L_reg ?_
                refine G_p rfl rfl rfl ?_
                refine G_p rfl rfl rfl ?_
                refine G_p rfl rfl rfl ?_
                refine G_p rfl rfl rfl ?_
                refine G_p rfl rfl rfl ?_
                obtain ⟨l144, hl144, hr⟩ := bind_s hr
                refine G_c (H' := (List.set H o (openM 2 encFct l144))) 87 rfl rfl ((y3c (callG_s hl144).1) _ _ _ ho rfl) ?_
                refine G_nil ?_
                refine L_nil ?_
                exact Sm_norm (e2 := [(0, .gl o (List.length l144)), (1, .int .i64 a1), (3, .int .i64 b3), (4, .fn 72 []), (18, .int .i64 (IntKind.wrap .i64 ((Int.fdiv (IntKind.wrap .u64 ((IntKind.wrap .i64 (a1 + b3)))) (2 ^ 1))))), (20, .int .i64 a137), (24, .int .i64 (IntKind.wrap .i64 ((IntKind.wrap .i64 ((IntKind.wrap .i64 ((Int.fdiv (IntKind.wrap .u64 ((IntKind.wrap .i64 (a1 + b3)))) (2 ^ 1)))) + m2)) - a137)))]) (H1 := (List.set H o (openM 2 encFct l144))) (H2 := (List.set H o (openM 2 encFct l144))) rfl (by (try rw [show List.length l144 = List.length m0 from (callG_s hl144).2]); (repeat (first | exact rzz | apply rcc rfl | apply rnn rfl))) htrS ⟨l144, rfl, rfl, hr⟩
              · refine L_F rfl hc185 ?_
                refine L_skip ?_
                refine L_nil ?_
                exact Sm_norm (e2 := [(0, .gl o (List.length m0)), (1, .int .i64 a1), (3, .int .i64 b3), (4, .fn 72 []), (18, .int .i64 (IntKind.wrap .i64 ((Int.fdiv (IntKind.wrap .u64 ((IntKind.wrap .i64 (a1 + b3)))) (2 ^ 1))))), (20, .int .i64 a137), (24, .int .i64 (IntKind.wrap .i64 ((IntKind.wrap .i64 ((IntKind.wrap .i64 ((Int.fdiv (IntKind.wrap .u64 ((IntKind.wrap .i64 (a1 + b3)))) (2 ^ 1)))) + m2)) - a137)))]) (H1 := (List.set H o (openM 2 encFct m0))) (H2 := (List.set H o (openM 2 encFct m0))) rfl (by repeat (first | exact rzz | apply rcc rfl | apply rnn rfl)) htrS ⟨m0, rfl, rfl, hr⟩
          · rintro l139 hr
            show GL _ _ [(0, .gl o (List.length l139)), (1, .int .i64 a1), (3, .int .i64 b3), (4, .fn 72 []), (18, .int .i64 (IntKind.wrap .i64 ((Int.fdiv (IntKind.wrap .u64 ((IntKind.wrap .i64 (a1 + b3)))) (2 ^ 1))))), (20, .int .i64 a137), (24, .int .i64 (IntKind.wrap .i64 ((IntKind.wrap .i64 ((IntKind.wrap .i64 ((Int.fdiv (IntKind.wrap .u64 ((IntKind.wrap .i64 (a1 + b3)))) (2 ^ 1)))) + m2)) - a137)))] (List.set H o (openM 2 encFct l139)) _
            replace hr : y0i rec a1 m2 b3 a137 l139 = some r := hr
            unfold y0i at hr
            refine L_seq ?_
            refine L_stmtJ (S := List Fct) (fun s => [(0, .gl o (List.length s)), (3, .int .i64 b3), (4, .fn 72 []), (18, .int .i64 (IntKind.wrap .i64 ((Int.fdiv (IntKind.wrap .u64 ((IntKind.wrap .i64 (a1 + b3)))) (2 ^ 1))))), (24, .int .i64 (IntKind.wrap .i64 ((IntKind.wrap .i64 ((IntKind.wrap .i64 ((Int.fdiv (IntKind.wrap .u64 ((IntKind.wrap .i64 (a1 + b3)))) (2 ^ 1)))) + m2)) - a137)))]) (fun s => (List.set H o (openM 2 encFct s))) (fun s => y0j rec a1 m2 b3 a137 s = some r) ?_ ?_
            · skip
              refine L_seq ?_
              refine L_stmt ?_
              refine L_reg ?_
              refine G_p rfl rfl rfl ?_
              refine G_p rfl rfl rfl ?_
              refine G_p rfl rfl rfl ?_
              refine G_p rfl rfl rfl ?_
              refine G_and (f := (decide (a137 < (IntKind.wrap .i64 ((Int.fdiv (IntKind.wrap .u64 ((IntKind.wrap .i64 (a1 + b3)))) (2 ^ 1))))))) [_, _, _] rfl rfl ?_ ?_
              · intro hb195
                refine G_p rfl rfl rfl ?_
                refine G_p rfl rfl rfl ?_
                refine G_p rfl rfl rfl ?_
                exact G_nil (L_nil ⟨rfl, rfl, rfl⟩)
              · intro vs hvs
                obtain ⟨u196, u197, u198, rfl⟩ := len3 hvs
                dsimp only [junk]
                refine G_nil ?_
                refine L_nil ?_
                refine Sm_norm (e2 := [(0, .gl o (List.length l139)), (1, .int .i64 a1), (3, .int .i64 b3), (4, .fn 72 []), (18, .int .i64 (IntKind.wrap .i64 ((Int.fdiv (IntKind.wrap .u64 ((IntKind.wrap .i64 (a1 + b3)))) (2 ^ 1))))), (20, .int .i64 a137), (24, .int .i64 (IntKind.wrap .i64 ((IntKind.wrap .i64 ((IntKind.wrap .i64 ((Int.fdiv (IntKind.wrap .u64 ((IntKind.wrap .i64 (a1 + b3)))) (2 ^ 1)))) + m2)) - a137))), (199, .bool ((decide (a1 < a137)) && (decide (a137 < (IntKind.wrap .i64 ((Int.fdiv (IntKind.wrap .u64 ((IntKind.wrap .i64 (a1 + b3)))) (2 ^ 1))))))))]) (H1 := (List.set H o (openM 2 encFct l139))) (H2 := (List.set H o (openM 2 encFct l139))) rfl (by repeat (first | exact rzz | apply rcc rfl | apply rnn rfl)) htrS (?_ : GL _ _ _ _ _)
                rcases cond_s hr with ⟨hc199, hr⟩ | ⟨hc199, hr⟩
                · refine L_T rfl hc199 ?_
                  refine L_reg ?_
                  refine G_p rfl rfl rfl ?_
                  refine G_p rfl rfl rfl ?_
                  refine G_p rfl rfl rfl ?_
                  refine G_p rfl rfl rfl ?_
                  refine G_p rfl rfl rfl ?_
                  obtain ⟨l143, hl143, hr⟩ := bind_s hr
                  refine G_c (H' := (List.set H o (openM 2 encFct l143))) 86 rfl rfl ((hrec _ _ _ _ _ (callG_s hl143).1) _ _ _ ho rfl) ?_
                  refine G_nil ?_
                  refine L_nil ?_
                  exact Sm_norm (e2 := [(0, .gl o (List.length l143)), (3, .int .i64 b3), (4, .fn 72 []), (18, .int .i64 (IntKind.wrap .i64 ((Int.fdiv (IntKind.wrap .u64 ((IntKind.wrap .i64 (a1 + b3)))) (2 ^ 1))))), (24, .int .i64 (IntKind.wrap .i64 ((IntKind.wrap .i64 ((IntKind.wrap .i64 ((Int.fdiv (IntKind.wrap .u64 ((IntKind.wrap .i64 (a1 + b3)))) (2 ^ 1)))) + m2)) - a137)))]) (H1 := (List.set H o (openM 2 encFct l143))) (H2 := (List.set H o (openM 2 encFct l143))) rfl (by (try rw [show List.length l143 = List.length l139 from (callG_s hl143).2]); (repeat (first | exact rzz | apply rcc rfl | apply rnn rfl))) htrS ⟨l143, rfl, rfl, hr⟩
                · refine L_F rfl hc199 ?_
                  refine L_skip ?_
                  refine L_nil ?_
                  exact Sm_norm (e2 := [(0, .gl o (List.length l139)), (3, .int .i64 b3), (4, .fn 72 []), (18, .int .i64 (IntKind.wrap .i64 ((Int.fdiv (IntKind.wrap .u64 ((IntKind.wrap .i64 (a1 + b3)))) (2 ^ 1))))), (24, .int .i64 (IntKind.wrap .i64 ((IntKind.wrap .i64 ((IntKind.wrap .i64 ((Int.fdiv (IntKind.wrap .u64 ((IntKind.wrap .i64 (a1 + b3)))) (2 ^ 1)))) + m2)) - a137)))]) (H1 := (List.set H o (openM 2 encFct l139))) (H2 := (List.set H o (openM 2 encFct l139))) rfl (by repeat (first | exact rzz | apply rcc rfl | apply rnn rfl)) htrS ⟨l139, rfl, rfl, hr⟩
            · rintro l141 hr
              show GL _ _ [(0, .gl o (List.length l141)), (3, .int .i64 b3), (4, .fn 72 []), (18, .int .i64 (IntKind.wrap .i64 ((Int.fdiv (IntKind.wrap .u64 ((IntKind.wrap .i64 (a1 + b3)))) (2 ^ 1))))), (24, .int .i64 (IntKind.wrap .i64 ((IntKind.wrap .i64 ((IntKind.wrap .i64 ((Int.fdiv (IntKind.wrap .u64 ((IntKind.wrap .i64 (a1 + b3)))) (2 ^ 1)))) + m2)) - a137)))] (List.set H o (openM 2 encFct l141)) _
              replace hr : y0j rec a1 m2 b3 a137 l141 = some r := hr
              unfold y0j at hr
              refine L_seq ?_
              refine L_stmt ?_
              refine L_reg ?_
              refine G_p rfl rfl rfl ?_
              refine G_p rfl rfl rfl ?_
              refine G_p rfl rfl rfl ?_
              refine G_p rfl rfl rfl ?_
              refine G_and (f := (decide ((IntKind.wrap .i64 ((IntKind.wrap .i64 ((IntKind.wrap .i64 ((Int.fdiv (IntKind.wrap .u64 ((IntKind.wrap .i64 (a1 + b3)))) (2 ^ 1)))) + m2)) - a137)) < b3))) [_, _, _] rfl rfl ?_ ?_
              · intro hb209
                refine G_p rfl rfl rfl ?_
                refine G_p rfl rfl rfl ?_
                refine G_p rfl rfl rfl ?_
                exact G_nil (L_nil ⟨rfl, rfl, rfl⟩)
              · intro vs hvs
                obtain ⟨u210, u211, u212, rfl⟩ := len3 hvs
                dsimp only [junk]
                refine G_nil ?_
                refine L_nil ?_
                refine Sm_norm (e2 := [(0, .gl o (List.length l141)), (3, .int .i64 b3), (4, .fn 72 []), (18, .int .i64 (IntKind.wrap .i64 ((Int.fdiv (IntKind.wrap .u64 ((IntKind.wrap .i64 (a1 + b3)))) (2 ^ 1))))), (24, .int .i64 (IntKind.wrap .i64 ((IntKind.wrap .i64 ((IntKind.wrap .i64 ((Int.fdiv (IntKind.wrap .u64 ((IntKind.wrap .i64 (a1 + b3)))) (2 ^ 1)))) + m2)) - a137))), (213, .bool ((decide ((IntKind.wrap .i64 ((Int.fdiv (IntKind.wrap .u64 ((IntKind.wrap .i64 (a1 + b3)))) (2 ^ 1)))) < (IntKind.wrap .i64 ((IntKind.wrap .i64 ((IntKind.wrap .i64 ((Int.fdiv (IntKind.wrap .u64 ((IntKind.wrap .i64 (a1 + b3)))) (2 ^ 1)))) + m2)) - a137)))) && (decide ((IntKind.wrap .i64 ((IntKind.wrap .i64 ((IntKind.wrap .i64 ((Int.fdiv (IntKind.wrap .u64 ((IntKind.wrap .i64 (a1 + b3)))) (2 ^ 1)))) + m2)) - a137)) < b3))))]) (H1 := (List.set H o (openM 2 encFct l141))) (H2 := (List.set H o (openM 2 encFct l141))) rfl (by repeat (first | exact rzz | apply rcc rfl | apply rnn rfl)) htrS (?_ : GL _ _ _ _ _)
                rcases cond_s hr with ⟨hc213, hr⟩ | ⟨hc213, hr⟩
                · refine L_T rfl hc213 ?_
                  refine L_reg ?_
                  refine G_p rfl rfl rfl ?_
                  refine G_p rfl rfl rfl ?_
                  refine G_p rfl rfl rfl ?_
                  refine G_p rfl rfl rfl ?_
                  refine G_p rfl rfl rfl ?_
                  obtain ⟨l142, hl142, hr⟩ := bind_s hr
                  refine G_c (H' := (List.set H o (openM 2 encFct l142))) 86 rfl rfl ((hrec _ _ _ _ _ (callG_s hl142).1) _ _ _ ho rfl) ?_
                  refine G_nil ?_
                  refine L_nil ?_
                  have hr := some_s hr
                  subst hr
                  exact ⟨_, rfl, rfl, hcutS⟩
                · refine L_F rfl hc213 ?_
                  refine L_skip ?_
                  refine L_nil ?_
                  have hr := some_s hr
                  subst hr
                  exact ⟨_, rfl, rfl, hcutS⟩
noncomputable def y05 : Nat → (List Fct) → Int → Int → Int → Option (List Fct)
  | 0, _, _, _, _ => none
  | n + 1, m0, a1, m2, b3 => y15 (y05 n) n m0 a1 m2 b3
theorem y1c : ∀ (n : Nat) {m0 : List Fct} {a1 : Int} {m2 : Int} {b3 : Int} {r : List Fct} (hr : y05 n m0 a1 m2 b3 = some r), LC (tabOf tabL) 2 encFct 86 [.int .i64 a1, .int .i64 m2, .int .i64 b3, .fn 72 []] m0 r
  | 0, _, _, _, _, _, hr => by cases hr
  | n + 1, _, _, _, _, _, hr => y2v (fun _ _ _ _ _ h => y1c n h) hr
noncomputable def y0g (a43 : Int) (K24 : (List Fct) → Int → Option (List Fct)) (l83 : List Fct) : Option (List Fct) :=
  K24 l83 (IntKind.wrap .i64 (a43 * 2))
noncomputable def y0p (n : Nat) (n1 : Int) (a43 : Int) (K24 : (List Fct) → Int → Option (List Fct)) (l80 : List Fct) (a81 : Int) : Option (List Fct) :=
  (cond (decide ((IntKind.wrap .i64 (a81 + a43)) < n1)) ((callG (y05 n l80 a81 (IntKind.wrap .i64 (a81 + a43)) n1) l80).bind fun l84 => y0g a43 K24 l84) (y0g a43 K24 l80))
noncomputable def y0f (n : Nat) (n1 : Int) (a43 : Int) (K24 : (List Fct) → Int → Option (List Fct)) : Nat → (List Fct) → Int → Int → Option (List Fct)
  | 0, _, _, _ => none
  | m26 + 1, l90, a91, a92 => (cond (decide (a92 ≤ n1)) ((callG (y05 n l90 a91 (IntKind.wrap .i64 (a91 + a43)) a92) l90).bind fun l99 => (y0f n n1 a43 K24 m26) l99 a92 (IntKind.wrap .i64 (a92 + (IntKind.wrap .i64 (2 * a43))))) (y0p n n1 a43 K24 l90 a91))
noncomputable def y01 (n : Nat) (n1 : Int) : Nat → (List Fct) → Int → Option (List Fct)
  | 0, _, _ => none
  | m24 + 1, l42, a43 => (cond (decide (a43 < n1)) (y0f n n1 a43 (y01 n n1 m24) n l42 0 (IntKind.wrap .i64 (2 * a43))) (some l42))
noncomputable def y0q (n : Nat) (n1 : Int) (l17 : List Fct) (a18 : Int) : Option (List Fct) :=
  ((callG (y0h n l17 a18 n1) l17).bind fun l20 => y01 n n1 n l20 20)
noncomputable def y0d (n : Nat) (n1 : Int) : Nat → (List Fct) → Int → Int → Option (List Fct)
  | 0, _, _, _ => none
  | m27 + 1, l105, a106, a107 => (cond (decide (a107 ≤ n1)) ((callG (y0h n l105 a106 a107) l105).bind fun l114 => (y0d n n1 m27) l114 a107 (IntKind.wrap .i64 (a107 + 20))) (y0q n n1 l105 a106))
noncomputable def y14 (n : Nat) (m0 : List Fct) (n1 : Int) : Option (List Fct) :=
  y0d n n1 n m0 0 20
theorem y3b {n : Nat} {m0 : List Fct} {n1 : Int} {r : List Fct} (hr : y14 n m0 n1 = some r) : LC (tabOf tabL) 2 encFct 80 [.int .i64 n1, .fn 72 []] m0 r := by
  intro H o n0 ho hn0
  subst hn0
  refine ca_fin t80 (Or.inl rfl) ?_
  unfold y14 at hr
  refine L_seq ?_
  refine L_stmt ?_
  refine L_reg ?_
  refine G_p rfl rfl rfl ?_
  refine G_nil ?_
  refine L_nil ?_
  refine Sm_norm (e2 := [(0, .gl o (List.length m0)), (1, .int .i64 n1), (2, .fn 72 []), (6, .int .i64 20)]) (H1 := (List.set H o (openM 2 encFct m0))) (H2 := (List.set H o (openM 2 encFct m0))) rfl (by repeat (first | exact rzz | apply rcc rfl | apply rnn rfl)) htrS (?_ : GL _ _ _ _ _)
  refine L_seq ?_
  refine L_stmt ?_
  refine L_reg ?_
  refine G_p rfl rfl rfl ?_
  refine G_p rfl rfl rfl ?_
  refine G_p rfl rfl rfl ?_
  refine G_nil ?_
  refine L_nil ?_
  refine Sm_norm (e2 := [(0, .gl o (List.length m0)), (1, .int .i64 n1), (2, .fn 72 []), (6, .int .i64 20), (7, .int .i64 0), (8, .int .i64 20)]) (H1 := (List.set H o (openM 2 encFct m0))) (H2 := (List.set H o (openM 2 encFct m0))) rfl (by repeat (first | exact rzz | apply rcc rfl | apply rnn rfl)) htrS (?_ : GL _ _ _ _ _)
  refine L_seq ?_
  refine L_stmtJ (S := List Fct × Int) (fun s => [(0, .gl o (List.length s.1)), (1, .int .i64 n1), (2, .fn 72 []), (6, .int .i64 20), (7, .int .i64 s.2)]) (fun s => (List.set H o (openM 2 encFct s.1))) (fun s => y0q n n1 s.1 s.2 = some r) ?_ ?_
  · skip
    refine L_block ?_
    refine L_while (S := List Fct × Int × Int) n (fun s => [(7, .int .i64 s.2.1), (8, .int .i64 s.2.2), (0, .gl o (List.length s.1)), (1, .int .i64 n1), (2, .fn 72 []), (6, .int .i64 20)]) (fun s => (List.set H o (openM 2 encFct s.1))) (fun k s => y0d n n1 k s.1 s.2.1 s.2.2 = some r) ((m0, 0, 20)) ?_ htrS hr ?_ ?_
    · show restr _ _ = [(7, .int .i64 0), (8, .int .i64 20), (0, .gl o (List.length m0)), (1, .int .i64 n1), (2, .fn 72 []), (6, .int .i64 20)]
      (repeat (first | exact rzz | apply rcc rfl | apply rnn rfl))
    · rintro ⟨l105, a106, a107⟩ hr; exact absurd hr (by simp [y0d])
    · rintro m27 ⟨l105, a106, a107⟩ hr
      show GL _ _ [(7, .int .i64 a106), (8, .int .i64 a107), (0, .gl o (List.length l105)), (1, .int .i64 n1), (2, .fn 72 []), (6, .int .i64 20)] (List.set H o (openM 2 encFct l105)) _
      replace hr : y0d n n1 (m27 + 1) l105 a106 a107 = some r := hr
      rw [y0d] at hr
      refine L_seq ?_
      refine L_stmt ?_
      refine L_seq ?_
      refine L_stmt ?_
      refine L_reg ?_
      refine G_p rfl rfl rfl ?_
      refine G_p rfl rfl rfl ?_
      refine G_p rfl rfl rfl ?_
      refine G_nil ?_
      refine L_nil ?_
      refine Sm_norm (e2 := [(0, .gl o (List.length l105)), (1, .int .i64 n1), (2, .fn 72 []), (6, .int .i64 20), (7, .int .i64 a106), (8, .int .i64 a107), (13, .bool (decide (a107 ≤ n1)))]) (H1 := (List.set H o (openM 2 encFct l105))) (H2 := (List.set H o (openM 2 encFct l105))) rfl (by repeat (first | exact rzz | apply rcc rfl | apply rnn rfl)) htrS (?_ : GL _ _ _ _ _)
      rcases cond_s hr with ⟨hc13, hr⟩ | ⟨hc13, hr⟩
      · refine L_T rfl hc13 ?_
        refine L_skip ?_
        refine L_nil ?_
        refine Sm_norm (e2 := [(0, .gl o (List.length l105)), (1, .int .i64 n1), (2, .fn 72 []), (6, .int .i64 20), (7, .int .i64 a106), (8, .int .i64 a107)]) (H1 := (List.set H o (openM 2 encFct l105))) (H2 := (List.set H o (openM 2 encFct l105))) rfl (by repeat (first | exact rzz | apply rcc rfl | apply rnn rfl)) htrS (?_ : GL _ _ _ _ _)
        refine L_block ?_
        refine L_seq ?_
        refine L_stmt ?_
        refine L_reg ?_
        refine G_p rfl rfl rfl ?_
        refine G_p rfl rfl rfl ?_
        refine G_p rfl rfl rfl ?_
        refine G_p rfl rfl rfl ?_
        obtain ⟨l114, hl114, hr⟩ := bind_s hr
        refine G_c (H' := (List.set H o (openM 2 encFct l114))) 85 rfl rfl ((y1k (callG_s hl114).1) _ _ _ ho rfl) ?_
        refine G_nil ?_
        refine L_nil ?_
        refine Sm_norm (e2 := [(0, .gl o (List.length l105)), (1, .int .i64 n1), (2, .fn 72 []), (6, .int .i64 20), (8, .int .i64 a107)]) (H1 := (List.set H o (openM 2 encFct l114))) (H2 := (List.set H o (openM 2 encFct l114))) rfl (by repeat (first | exact rzz | apply rcc rfl | apply rnn rfl)) htrS (?_ : GL _ _ _ _ _)
        refine L_seq ?_
        refine L_stmt ?_
        refine L_reg ?_
        refine G_p rfl rfl rfl ?_
        refine G_p rfl rfl rfl ?_
        refine G_nil ?_
        refine L_nil ?_
        refine Sm_norm (e2 := [(0, .gl o (List.length l105)), (1, .int .i64 n1), (2, .fn 72 []), (6, .int .i64 20), (7, .int .i64 a107), (8, .int .i64 a107)]) (H1 := (List.set H o (openM 2 encFct l114))) (H2 := (List.set H o (openM 2 encFct l114))) rfl (by repeat (first | exact rzz | apply rcc rfl | apply rnn rfl)) htrS (?_ : GL _ _ _ _ _)
        refine L_reg ?_
        refine G_p rfl rfl rfl ?_
        refine G_p rfl rfl rfl ?_
        refine G_p rfl rfl rfl ?_
        refine G_p rfl rfl rfl ?_
        refine G_nil ?_
        refine L_nil ?_
        refine Blk_norm (?_ : GL _ _ _ _ _)
        refine L_nil ?_
        refine Rd_norm ⟨(l114, a107, (IntKind.wrap .i64 (a107 + 20))), ?_, htrS, hr⟩
        show restr _ _ = [(7, .int .i64 a107), (8, .int .i64 (IntKind.wrap .i64 (a107 + 20))), (0, .gl o (List.length l114)), (1, .int .i64 n1), (2, .fn 72 []), (6, .int .i64 20)]
        (try rw [show List.length l114 = List.length l105 from (callG_s hl114).2])
        (repeat (first | exact rzz | apply rcc rfl | apply rnn rfl))
      · refine L_F rfl hc13 ?_
        refine L_exit ?_
        refine Sm_exit ?_
        refine Rd_exit ?_
        refine Blk_exit (?_ : GL _ _ _ _ _)
        refine L_nil ?_
        exact Sm_norm (e2 := [(0, .gl o (List.length l105)), (1, .int .i64 n1), (2, .fn 72 []), (6, .int .i64 20), (7, .int .i64 a106)]) (H1 := (List.set H o (openM 2 encFct l105))) (H2 := (List.set H o (openM 2 encFct l105))) rfl (by repeat (first | exact rzz | apply rcc rfl | apply rnn rfl)) htrS ⟨(l105, a106), rfl, rfl, hr⟩
  · rintro ⟨l17, a18⟩ hr
    show GL _ _ [(0, .gl o (List.length l17)), (1, .int .i64 n1), (2, .fn 72 []), (6, .int .i64 20), (7, .int .i64 a18)] (List.set H o (openM 2 encFct l17)) _
    replace hr : y0q n n1 l17 a18 = some r := hr
    unfold y0q at hr
    refine L_seq ?_
    refine L_stmt ?_
    refine L_reg ?_
    refine G_p rfl rfl rfl ?_
    refine G_p rfl rfl rfl ?_
    refine G_p rfl rfl rfl ?_
    refine G_p rfl rfl rfl ?_
    obtain ⟨l20, hl20, hr⟩ := bind_s hr
    refine G_c (H' := (List.set H o (openM 2 encFct l20))) 85 rfl rfl ((y1k (callG_s hl20).1) _ _ _ ho rfl) ?_
    refine G_nil ?_
    refine L_nil ?_
    refine Sm_norm (e2 := [(0, .gl o (List.length l17)), (1, .int .i64 n1), (2, .fn 72 []), (6, .int .i64 20)]) (H1 := (List.set H o (openM 2 encFct l20))) (H2 := (List.set H o (openM 2 encFct l20))) rfl (by repeat (first | exact rzz | apply rcc rfl | apply rnn rfl)) htrS (?_ : GL _ _ _ _ _)
    refine L_block ?_
    refine L_while (S := List Fct × Int) n (fun s => [(6, .int .i64 s.2), (0, .gl o (List.length s.1)), (1, .int .i64 n1), (2, .fn 72 [])]) (fun s => (List.set H o (openM 2 encFct s.1))) (fun k s => y01 n n1 k s.1 s.2 = some r) ((l20, 20)) ?_ htrS hr ?_ ?_
    · show restr _ _ = [(6, .int .i64 20), (0, .gl o (List.length l20)), (1, .int .i64 n1), (2, .fn 72 [])]
      (try rw [show List.length l20 = List.length l17 from (callG_s hl20).2])
      (repeat (first | exact rzz | apply rcc rfl | apply rnn rfl))
    · rintro ⟨l42, a43⟩ hr; exact absurd hr (by simp [y01])
    · rintro m24 ⟨l42, a43⟩ hr
      show GL _ _ [(6, .int .i64 a43), (0, .gl o (List.length l42)), (1, .int .i64 n1), (2, .fn 72 [])] (List.set H o (openM 2 encFct l42)) _
      replace hr : y01 n n1 (m24 + 1) l42 a43 = some r := hr
      rw [y01] at hr
      refine L_seq ?_
      refine L_stmt ?_
      refine L_seq ?_
      refine L_stmt ?_
      refine L_reg ?_
      refine G_p rfl rfl rfl ?_
      refine G_p rfl rfl rfl ?_
      refine G_p rfl rfl rfl ?_
      refine G_nil ?_
      refine L_nil ?_
      refine Sm_norm (e2 := [(0, .gl o (List.length l42)), (1, .int .i64 n1), (2, .fn 72 []), (6, .int .i64 a43), (30, .bool (decide (a43 < n1)))]) (H1 := (List.set H o (openM 2 encFct l42))) (H2 := (List.set H o (openM 2 encFct l42))) rfl (by repeat (first | exact rzz | apply rcc rfl | apply rnn rfl)) htrS (?_ : GL _ _ _ _ _)
      rcases cond_s hr with ⟨hc30, hr⟩ | ⟨hc30, hr⟩
      · refine L_T rfl hc30 ?_
        refine L_skip ?_
        refine L_nil ?_
        refine Sm_norm (e2 := [(0, .gl o (List.length l42)), (1, .int .i64 n1), (2, .fn 72 []), (6, .int .i64 a43)]) (H1 := (List.set H o (openM 2 encFct l42))) (H2 := (List.set H o (openM 2 encFct l42))) rfl (by repeat (first | exact rzz | apply rcc rfl | apply rnn rfl)) htrS (?_ : GL _ _ _ _ _)
        refine L_block ?_
        refine L_seq ?_
        refine L_stmt ?_
        refine L_reg ?_
        refine G_p rfl rfl rfl ?_
        refine G_p rfl rfl rfl ?_
        refine G_p rfl rfl rfl ?_
        refine G_p rfl rfl rfl ?_
        refine G_nil ?_
        refine L_nil ?_
        refine Sm_norm (e2 := [(0, .gl o (List.length l42)), (1, .int .i64 n1), (2, .fn 72 []), (6, .int .i64 a43), (7, .int .i64 0), (8, .int .i64 (IntKind.wrap .i64 (2 * a43)))]) (H1 := (List.set H o (openM 2 encFct l42))) (H2 := (List.set H o (openM 2 encFct l42))) rfl (by repeat (first | exact rzz | apply rcc rfl | apply rnn rfl)) htrS (?_ : GL _ _ _ _ _)
        refine L_seq ?_
        refine L_stmtJ (S := List Fct × Int) (fun s => [(0, .gl o (List.length s.1)), (1, .int .i64 n1), (2, .fn 72 []), (6, .int .i64 a43), (7, .int .i64 s.2)]) (fun s => (List.set H o (openM 2 encFct s.1))) (fun s => y0p n n1 a43 (y01 n n1 m24) s.1 s.2 = some r) ?_ ?_
        · skip
          refine L_block ?_
          refine L_while (S := List Fct × Int × Int) n (fun s => [(7, .int .i64 s.2.1), (8, .int .i64 s.2.2), (0, .gl o (List.length s.1)), (1, .int .i64 n1), (2, .fn 72 []), (6, .int .i64 a43)]) (fun s => (List.set H o (openM 2 encFct s.1))) (fun k s => y0f n n1 a43 (y01 n n1 m24) k s.1 s.2.1 s.2.2 = some r) ((l42, 0, (IntKind.wrap .i64 (2 * a43)))) ?_ htrS hr ?_ ?_
          · show restr _ _ = [(7, .int .i64 0), (8, .int .i64 (IntKind.wrap .i64 (2 * a43))), (0, .gl o (List.length l42)), (1, .int .i64 n1), (2, .fn 72 []), (6, .int .i64 a43)]
            (repeat (first | exact rzz | apply rcc rfl | apply rnn rfl))
          · rintro ⟨l90, a91, a92⟩ hr; exact absurd hr (by simp [y0f])
          · rintro m26 ⟨l90, a91, a92⟩ hr
            show GL _ _ [(7, .int .i64 a91), (8, .int .i64 a92), (0, .gl o (List.length l90)), (1, .int .i64 n1), (2, .fn 72 []), (6, .int .i64 a43)] (List.set H o (openM 2 encFct l90)) _
            replace hr : y0f n n1 a43 (y01 n n1 m24) (m26 + 1) l90 a91 a92 = some r := hr
            rw [y0f] at hr
            refine L_seq ?_
            refine L_stmt ?_
            refine L_seq ?_
            refine L_stmt ?_
            refine L_reg ?_
            refine G_p rfl rfl rfl ?_
            refine G_p rfl rfl rfl ?_
            refine G_p rfl rfl rfl ?_
            refine G_nil ?_
            refine L_nil ?_
            refine Sm_norm (e2 := [(0, .gl o (List.length l90)), (1, .int .i64 n1), (2, .fn 72 []), (6, .int .i64 a43), (7, .int .i64 a91), (8, .int .i64 a92), (35, .bool (decide (a92 ≤ n1)))]) (H1 := (List.set H o (openM 2 encFct l90))) (H2 := (List.set H o (openM 2 encFct l90))) rfl (by repeat (first | exact rzz | apply rcc rfl | apply rnn rfl)) htrS (?_ : GL _ _ _ _ _)
            rcases cond_s hr with ⟨hc35, hr⟩ | ⟨hc35, hr⟩
            · refine L_T rfl hc35 ?_
              refine L_skip ?_
              refine L_nil ?_
              refine Sm_norm (e2 := [(0, .gl o (List.length l90)), (1, .int .i64 n1), (2, .fn 72 []), (6, .int .i64 a43), (7, .int .i64 a91), (8, .int .i64 a92)]) (H1 := (List.set H o (openM 2 encFct l90))) (H2 := (List.set H o (openM 2 encFct l90))) rfl (by repeat (first | exact rzz | apply rcc rfl | apply rnn rfl)) htrS (?_ : GL _ _ _ _ _)
              refine L_block ?_
              refine L_seq ?_
              refine L_stmt ?_
              refine L_reg ?_
              refine G_p rfl rfl rfl ?_
              refine G_p rfl rfl rfl ?_
              refine G_p rfl rfl rfl ?_
              refine G_p rfl rfl rfl ?_
              refine G_p rfl rfl rfl ?_
              refine G_p rfl rfl rfl ?_
              refine G_p rfl rfl rfl ?_
              obtain ⟨l99, hl99, hr⟩ := bind_s hr
              refine G_c (H' := (List.set H o (openM 2 encFct l99))) 86 rfl rfl ((y1c n (callG_s hl99).1) _ _ _ ho rfl) ?_
              refine G_nil ?_
              refine L_nil ?_
              refine Sm_norm (e2 := [(0, .gl o (List.length l90)), (1, .int .i64 n1), (2, .fn 72 []), (6, .int .i64 a43), (8, .int .i64 a92)]) (H1 := (List.set H o (openM 2 encFct l99))) (H2 := (List.set H o (openM 2 encFct l99))) rfl (by repeat (first | exact rzz | apply rcc rfl | apply rnn rfl)) htrS (?_ : GL _ _ _ _ _)
              refine L_seq ?_
              refine L_stmt ?_
              refine L_reg ?_
              refine G_p rfl rfl rfl ?_
              refine G_p rfl rfl rfl ?_
              refine G_nil ?_
              refine L_nil ?_
              refine Sm_norm (e2 := [(0, .gl o (List.length l90)), (1, .int .i64 n1), (2, .fn 72 []), (6, .int .i64 a43), (7, .int .i64 a92), (8, .int .i64 a92)]) (H1 := (List.set H o (openM 2 encFct l99))) (H2 := (List.set H o (openM 2 encFct l99))) rfl (by repeat (first | exact rzz | apply rcc rfl | apply rnn rfl)) htrS (?_ : GL _ _ _ _ _)
              refine L_reg ?_
              refine G_p rfl rfl rfl ?_
              refine G_p rfl rfl rfl ?_
              refine G_p rfl rfl rfl ?_
              refine G_p rfl rfl rfl ?_
              refine G_p rfl rfl rfl ?_
              refine G_nil ?_
              refine L_nil ?_
              refine Blk_norm (?_ : GL _ _ _ _ _)
              refine L_nil ?_
              refine Rd_norm ⟨(l99, a92, (IntKind.wrap .i64 (a92 + (IntKind.wrap .i64 (2 * a43))))), ?_, htrS, hr⟩
              show restr _ _ = [(7, .int .i64 a92), (8, .int .i64 (IntKind.wrap .i64 (a92 + (IntKind.wrap .i64 (2 * a43))))), (0, .gl o (List.length l99)), (1, .int .i64 n1), (2, .fn 72 []), (6, .int .i64 a43)]
              (try rw [show List.length l99 = List.length l90 from (callG_s hl99).2])
              (repeat (first | exact rzz | apply rcc rfl | apply rnn rfl))
            · refine L_F rfl hc35 ?_
              refine L_exit ?_
              refine Sm_exit ?_
              refine Rd_exit ?_
              refine Blk_exit (?_ : GL _ _ _ _ _)
              refine L_nil ?_
              exact Sm_norm (e2 := [(0, .gl o (List.length l90)), (1, .int .i64 n1), (2, .fn 72 []), (6, .int .i64 a43), (7, .int .i64 a91)]) (H1 := (List.set H o (openM 2 encFct l90))) (H2 := (List.set H o (openM 2 encFct l90))) rfl (by repeat (first | exact rzz | apply rcc rfl | apply rnn rfl)) htrS ⟨(l90, a91), rfl, rfl, hr⟩
        · rintro ⟨l80, a81⟩ hr
          show GL _ _ [(0, .gl o (List.length l80)), (1, .int .i64 n1), (2, .fn 72 []), (6, .int .i64 a43), (7, .int .i64 a81)] (List.set H o (openM 2 encFct l80)) _
          replace hr : y0p n n1 a43 (y01 n n1 m24) l80 a81 = some r := hr
          unfold y0p at hr
          refine L_seq ?_
          refine L_stmtJ (S := List Fct) (fun s => [(0, .gl o (List.length s)), (1, .int .i64 n1), (2, .fn 72 []), (6, .int .i64 a43)]) (fun s => (List.set H o (openM 2 encFct s))) (fun s => y0g a43 (y01 n n1 m24) s = some r) ?_ ?_
          · skip
            refine L_seq ?_
            refine L_stmt ?_
            refine L_reg ?_
            refine G_p rfl rfl rfl ?_
            refine G_p rfl rfl rfl ?_
            refine G_p rfl rfl rfl ?_
            refine G_p rfl rfl rfl ?_
            refine G_nil ?_
            refine L_nil ?_
            refine Sm_norm (e2 := [(0, .gl o (List.length l80)), (1, .int .i64 n1), (2, .fn 72 []), (6, .int .i64 a43), (7, .int .i64 a81), (9, .int .i64 (IntKind.wrap .i64 (a81 + a43)))]) (H1 := (List.set H o (openM 2 encFct l80))) (H2 := (List.set H o (openM 2 encFct l80))) rfl (by repeat (first | exact rzz | apply rcc rfl | apply rnn rfl)) htrS (?_ : GL _ _ _ _ _)
            refine L_seq ?_
            refine L_stmt ?_
            refine L_reg ?_
            refine G_p rfl rfl rfl ?_
            refine G_p rfl rfl rfl ?_
            refine G_p rfl rfl rfl ?_
            refine G_nil ?_
            refine L_nil ?_
            refine Sm_norm (e2 := [(0, .gl o (List.length l80)), (1, .int .i64 n1), (2, .fn 72 []), (6, .int .i64 a43), (7, .int .i64 a81), (9, .int .i64 (IntKind.wrap .i64 (a81 + a43))), (54, .bool (decide ((IntKind.wrap .i64 (a81 + a43)) < n1)))]) (H1 := (List.set H o (openM 2 encFct l80))) (H2 := (List.set H o (openM 2 encFct l80))) rfl (by repeat (first | exact rzz | apply rcc rfl | apply rnn rfl)) htrS (?_ : GL _ _ _ _ _)
            rcases cond_s hr with ⟨hc54, hr⟩ | ⟨hc54, hr⟩
            · refine L_T rfl hc54 ?_
              refine L_reg ?_
              refine G_p rfl rfl rfl ?_
              refine G_p rfl rfl rfl ?_
              refine G_p rfl rfl rfl ?_
              refine G_p rfl rfl rfl ?_
              refine G_p rfl rfl rfl ?_
              obtain ⟨l84, hl84, hr⟩ := bind_s hr
              refine G_c (H' := (List.set H o (openM 2 encFct l84))) 86 rfl rfl ((y1c n (callG_s hl84).1) _ _ _ ho rfl) ?_
              refine G_nil ?_
              refine L_nil ?_
              exact Sm_norm (e2 := [(0, .gl o (List.length l84)), (1, .int .i64 n1), (2, .fn 72 []), (6, .int .i64 a43)]) (H1 := (List.set H o (openM 2 encFct l84))) (H2 := (List.set H o (openM 2 encFct l84))) rfl (by (try rw [show List.length l84 = List.length l80 from (callG_s hl84).2]); (repeat (first | exact rzz | apply rcc rfl | apply rnn rfl))) htrS ⟨l84, rfl, rfl, hr⟩
            · refine L_F rfl hc54 ?_
              refine L_skip ?_
              refine L_nil ?_
              exact Sm_norm (e2 := [(0, .gl o (List.length l80)), (1, .int .i64 n1), (2, .fn 72 []), (6, .int .i64 a43)]) (H1 := (List.set H o (openM 2 encFct l80))) (H2 := (List.set H o (openM 2 encFct l80))) rfl (by repeat (first | exact rzz | apply rcc rfl | apply rnn rfl)) htrS ⟨l80, rfl, rfl, hr⟩
          · rintro l83 hr
            show GL _ _ [(0, .gl o (List.length l83)), (1, .int .i64 n1), (2, .fn 72 []), (6, .int .i64 a43)] (List.set H o (openM 2 encFct l83)) _
            replace hr : y0g a43 (y01 n n1 m24) l83 = some r := hr
            unfold y0g at hr
            refine L_reg ?_
            refine G_p rfl rfl rfl ?_
            refine G_p rfl rfl rfl ?_
            refine G_p rfl rfl rfl ?_
            refine G_nil ?_
            refine L_nil ?_
            refine Blk_norm (?_ : GL _ _ _ _ _)
            refine L_nil ?_
            refine Rd_norm ⟨(l83, (IntKind.wrap .i64 (a43 * 2))), ?_, htrS, hr⟩
            show restr _ _ = [(6, .int .i64 (IntKind.wrap .i64 (a43 * 2))), (0, .gl o (List.length l83)), (1, .int .i64 n1), (2, .fn 72 [])]
            (repeat (first | exact rzz | apply rcc rfl | apply rnn rfl))
      · refine L_F rfl hc30 ?_
        refine L_exit ?_
        refine Sm_exit ?_
        refine Rd_exit ?_
        refine Blk_exit (?_ : GL _ _ _ _ _)
        refine L_nil ?_
        have hr := some_s hr
        subst hr
        exact ⟨_, rfl, rfl, hcutS⟩
noncomputable def y0b (n : Nat) (m0 : List Fct) : Option (List Fct) :=
  ((callG (y14 n m0 ((List.length m0 : Nat) : Int)) m0).bind fun l1 => some l1)
theorem y13 {n : Nat} {m0 : List Fct} {r : List Fct} (hr : y0b n m0 = some r) : LC (tabOf tabL) 2 encFct 71 [.fn 72 []] m0 r := by
  intro H o n0 ho hn0
  subst hn0
  refine ca_fin t71 (Or.inl rfl) ?_
  unfold y0b at hr
  refine L_reg ?_
  refine G_p rfl rfl rfl ?_
  refine G_p rfl rfl rfl ?_
  refine G_h rfl rfl rfl (fun _ => rfl) ?_
  refine G_p rfl rfl rfl ?_
  obtain ⟨l1, hl1, hr⟩ := bind_s hr
  refine G_c (H' := (List.set H o (openM 2 encFct l1))) 80 rfl rfl ((y3b (callG_s hl1).1) _ _ _ ho rfl) ?_
  refine G_nil ?_
  refine L_nil ?_
  have hr := some_s hr
  subst hr
  exact ⟨_, rfl, rfl, hcutS⟩
end Go.Ev.Seat
namespace Go.Ev.Seat
set_option linter.unusedVariables false
set_option linter.unusedSimpArgs false
open Go Go.Ev
theorem wI {n : Int} (h0 : -4611686018427387904 ≤ n) (h1 : n < 4611686018427387904) : IntKind.i64.wrap n = n := kw_i64_id (by omega) (by omega)
theorem idx_at {α : Type} {l A B : List α} {x : α} {i : Int} (h : l = A ++ x :: B) (hi : i = (A.length : Nat)) : idx l i = some x := by
  subst h hi
  rw [idx_nat, List.getElem?_append_right (Nat.le_refl _), Nat.sub_self]; rfl
theorem setL_at {α : Type} {l A B : List α} {x y : α} {i : Int} (h : l = A ++ x :: B) (hi : i = (A.length : Nat)) : setL l i y = some (A ++ y :: B) := by
  subst h hi
  simp only [setL, Int.toNat_natCast]
  rw [List.set_append_right _ _ (Nat.le_refl _), Nat.sub_self]; rfl
theorem cmp_eq (a b : Fct) : y1l a b = some (if a.var < b.var then -1 else if b.var < a.var then 1 else 0) := by
  simp only [y1l, y2o, y28, decide_true, Bool.not_true, Option.bind_some, cond_false]
  by_cases h1 : a.var < b.var
  · simp [h1]
  · by_cases h2 : b.var < a.var
    · simp [h1, h2]
    · simp [h1, h2]
theorem cmp_lt (a b : Fct) : decide ((if a.var < b.var then -1 else if b.var < a.var then 1 else 0 : Int) < 0) = decide (a.var < b.var) := by
  apply decide_eq_decide.2
  by_cases h1 : a.var < b.var
  · simp [h1]
  · by_cases h2 : b.var < a.var
    · simp [h1, h2]
    · simp [h1, h2]
abbrev Srt (l : List Fct) : Prop := l.Pairwise fun x y => x.var ≤ y.var
theorem swl (P Q Z : List Fct) : ∀ (X2 Y2 X1 Y1 : List Fct) (rest : List Nat), X1.length = Y1.length → X2.length = Y2.length → rest.length = X2.length → (P ++ Y1 ++ X2 ++ Q ++ X1 ++ Y2 ++ Z).length < 1000000000000 →
    y07 (P.length : Nat) ((P.length + X1.length + X2.length + Q.length : Nat) : Int) rest X1.length (P ++ Y1 ++ X2 ++ Q ++ X1 ++ Y2 ++ Z) = some (P ++ Y1 ++ Y2 ++ Q ++ X1 ++ X2 ++ Z)
  | [], Y2, X1, Y1, rest, h1, h2, h3, hb => by
    obtain rfl : Y2 = [] := List.length_eq_zero_iff.1 (by simpa using h2.symm)
    obtain rfl : rest = [] := List.length_eq_zero_iff.1 (by simpa using h3)
    rw [y07]
  | x :: X2, [], X1, Y1, rest, h1, h2, h3, hb => by simp at h2
  | x :: X2, y :: Y2, X1, Y1, [], h1, h2, h3, hb => by simp at h3
  | x :: X2, y :: Y2, X1, Y1, q :: rest, h1, h2, h3, hb => by
    simp only [List.length_append, List.length_cons] at hb h2 h3
    have ih := swl P Q Z X2 Y2 (X1 ++ [x]) (Y1 ++ [y]) rest (by simp [h1]) (by omega) (by omega) (by simp; omega)
    rw [y07]
    have e1 : IntKind.i64.wrap (((P.length + X1.length + (x :: X2).length + Q.length : Nat) : Int) + ((X1.length : Nat) : Int)) = ((P ++ Y1 ++ x :: X2 ++ Q ++ X1).length : Nat) := by
      rw [wI (by simp; omega) (by simp; omega)]; simp; omega
    have e2 : IntKind.i64.wrap (((P.length : Nat) : Int) + ((X1.length : Nat) : Int)) = ((P ++ Y1).length : Nat) := by
      rw [wI (by omega) (by omega)]; simp; omega
    rw [e1, e2]
    rw [idx_at (A := P ++ Y1 ++ x :: X2 ++ Q ++ X1) (B := Y2 ++ Z) (x := y) (by simp) rfl, Option.bind_some]
    rw [idx_at (A := P ++ Y1) (B := X2 ++ Q ++ X1 ++ y :: Y2 ++ Z) (x := x) (by simp) rfl, Option.bind_some]
    rw [Option.bind_some, setL_at (A := P ++ Y1) (B := X2 ++ Q ++ X1 ++ y :: Y2 ++ Z) (x := x) (y := y) (by simp) rfl, Option.bind_some]
    rw [idx_at (A := P ++ Y1 ++ y :: X2 ++ Q ++ X1) (B := Y2 ++ Z) (x := y) (by simp) (by simp), Option.bind_some]
    rw [setL_at (A := P ++ Y1 ++ y :: X2 ++ Q ++ X1) (B := Y2 ++ Z) (x := y) (y := x) (by simp) (by simp), Option.bind_some]
    have e3 : ((P.length + (X1 ++ [x]).length + X2.length + Q.length : Nat) : Int) = ((P.length + X1.length + (x :: X2).length + Q.length : Nat) : Int) := by simp; omega
    rw [e3] at ih
    have e4 : (X1 ++ [x]).length = X1.length + 1 := by simp
    rw [e4] at ih
    simpa using ih
theorem sw_ok (P X Q Y Z : List Fct) (h : X.length = Y.length) (hb : (P ++ X ++ Q ++ Y ++ Z).length < 1000000000000) (hx : X.length < 100000000000) {a b n : Int} (ha : a = (P.length : Nat)) (hb2 : b = ((P.length + X.length + Q.length : Nat) : Int)) (hn : n = (X.length : Nat)) :
    y0e (P ++ X ++ Q ++ Y ++ Z) a b n = some (P ++ Y ++ Q ++ X ++ Z) := by
  subst ha hb2 hn
  have := swl P Q Z X Y [] [] (List.range X.length) rfl h (by simp) (by simpa using hb)
  simp only [y0e, Int.toNat_natCast]
  rw [okLen_of (by simpa using hx)]
  simpa using this
theorem rot_l (A B : List Fct) : ∀ (k n : Nat) (L R : List Fct), L.length + R.length ≤ k → k ≤ n → 0 < L.length → 0 < R.length → (A ++ L ++ R ++ B).length < 100000000000 →
    y08 ((A.length + L.length : Nat) : Int) n (A ++ L ++ R ++ B) (L.length : Nat) (R.length : Nat) = some (A ++ R ++ L ++ B) := by
  intro k
  induction k generalizing A B with
  | zero => intro n L R h1 h2 h3 h4 hb; omega
  | succ k ih =>
    intro n L R h1 h2 h3 h4 hb
    obtain ⟨n, rfl⟩ : ∃ m, n = m + 1 := ⟨n - 1, by omega⟩
    rw [y08]
    simp only [List.length_append] at hb
    by_cases he : L.length = R.length
    · have e1 : (!decide (((L.length : Nat) : Int) = ((R.length : Nat) : Int))) = false := by simp; omega
      rw [e1, cond_false, y0w]
      have hs := sw_ok A L [] R B he (by simp; omega) (by omega) (a := IntKind.i64.wrap (((A.length + L.length : Nat) : Int) - ((L.length : Nat) : Int))) (b := ((A.length + L.length : Nat) : Int)) (n := (L.length : Nat)) (by rw [wI (by omega) (by omega)]; omega) (by simp) rfl
      simp only [List.append_nil] at hs
      rw [callG_of hs (by simp; omega), Option.bind_some]
    · have e1 : (!decide (((L.length : Nat) : Int) = ((R.length : Nat) : Int))) = true := by simp; omega
      rw [e1, cond_true]
      by_cases hg : R.length < L.length
      · have e2 : decide (((R.length : Nat) : Int) < ((L.length : Nat) : Int)) = true := by simp; omega
        rw [e2, cond_true]
        have hL : L = L.take R.length ++ L.drop R.length := (List.take_append_drop _ _).symm
        generalize hU : L.take R.length = U at hL
        generalize hV : L.drop R.length = V at hL
        have hUl : U.length = R.length := by rw [← hU, List.length_take]; omega
        subst hL
        simp only [List.length_append] at *
        have hs := sw_ok A U V R B hUl (by simp; omega) (by omega) (a := IntKind.i64.wrap (((A.length + (U.length + V.length) : Nat) : Int) - ((U.length + V.length : Nat) : Int))) (b := ((A.length + (U.length + V.length) : Nat) : Int)) (n := (R.length : Nat)) (by rw [wI (by omega) (by omega)]; omega) (by omega) (by omega)
        have hs2 : y0e (A ++ (U ++ V) ++ R ++ B) (IntKind.i64.wrap (((A.length + (U.length + V.length) : Nat) : Int) - ((U.length + V.length : Nat) : Int))) ((A.length + (U.length + V.length) : Nat) : Int) (R.length : Nat) = some (A ++ R ++ V ++ U ++ B) := by rw [← hs]; simp
        rw [callG_of hs2 (by simp; omega), Option.bind_some]
        have h := ih (A ++ R) B n V U (by omega) (by omega) (by omega) (by omega) (by simp; omega)
        have e3 : (((A ++ R).length + V.length : Nat) : Int) = ((A.length + (U.length + V.length) : Nat) : Int) := by simp; omega
        have e4 : IntKind.i64.wrap (((U.length + V.length : Nat) : Int) - ((R.length : Nat) : Int)) = ((V.length : Nat) : Int) := by rw [wI (by omega) (by omega)]; omega
        rw [e4, ← e3, ← hUl, h]; simp
      · have e2 : decide (((R.length : Nat) : Int) < ((L.length : Nat) : Int)) = false := by simp; omega
        rw [e2, cond_false]
        have hR : R = R.take (R.length - L.length) ++ R.drop (R.length - L.length) := (List.take_append_drop _ _).symm
        generalize hU : R.take (R.length - L.length) = U at hR
        generalize hV : R.drop (R.length - L.length) = V at hR
        have hVl : V.length = L.length := by rw [← hV, List.length_drop]; omega
        have hUl : U.length = R.length - L.length := by rw [← hU, List.length_take]; omega
        subst hR
        simp only [List.length_append] at *
        have hs := sw_ok A L U V B hVl.symm (by simp; omega) (by omega) (a := IntKind.i64.wrap (((A.length + L.length : Nat) : Int) - ((L.length : Nat) : Int))) (b := IntKind.i64.wrap (IntKind.i64.wrap (((A.length + L.length : Nat) : Int) + ((U.length + V.length : Nat) : Int)) - ((L.length : Nat) : Int))) (n := (L.length : Nat)) (by rw [wI (by omega) (by omega)]; omega)
          (by rw [wI (n := ((A.length + L.length : Nat) : Int) + ((U.length + V.length : Nat) : Int)) (by omega) (by omega), wI (by omega) (by omega)]; omega) rfl
        have hs2 : y0e (A ++ L ++ (U ++ V) ++ B) (IntKind.i64.wrap (((A.length + L.length : Nat) : Int) - ((L.length : Nat) : Int))) (IntKind.i64.wrap (IntKind.i64.wrap (((A.length + L.length : Nat) : Int) + ((U.length + V.length : Nat) : Int)) - ((L.length : Nat) : Int))) (L.length : Nat) = some (A ++ V ++ U ++ L ++ B) := by rw [← hs]; simp
        rw [callG_of hs2 (by simp; omega), Option.bind_some]
        have h := ih A (L ++ B) n V U (by omega) (by omega) (by omega) (by omega) (by simp; omega)
        have e4 : IntKind.i64.wrap (((U.length + V.length : Nat) : Int) - ((L.length : Nat) : Int)) = ((U.length : Nat) : Int) := by rw [wI (by omega) (by omega)]; omega
        have h' : y08 ((A.length + L.length : Nat) : Int) n (A ++ V ++ U ++ L ++ B) ((L.length : Nat) : Int) ((U.length : Nat) : Int) = some (A ++ U ++ V ++ (L ++ B)) := by rw [← h, hVl]; simp
        rw [e4, h']; simp
theorem rot_ok (A L R B : List Fct) (n : Nat) (hn : L.length + R.length ≤ n) (h1 : 0 < L.length) (h2 : 0 < R.length) (hb : (A ++ L ++ R ++ B).length < 100000000000) {a m b : Int} (ha : a = (A.length : Nat)) (hm : m = ((A.length + L.length : Nat) : Int)) (hb2 : b = ((A.length + L.length + R.length : Nat) : Int)) :
    y0t n (A ++ L ++ R ++ B) a m b = some (A ++ R ++ L ++ B) := by
  subst ha hm hb2
  simp only [List.length_append] at hb
  rw [y0t]
  have e1 : IntKind.i64.wrap (((A.length + L.length : Nat) : Int) - ((A.length : Nat) : Int)) = ((L.length : Nat) : Int) := by rw [wI (by omega) (by omega)]; omega
  have e2 : IntKind.i64.wrap (((A.length + L.length + R.length : Nat) : Int) - ((A.length + L.length : Nat) : Int)) = ((R.length : Nat) : Int) := by rw [wI (by omega) (by omega)]; omega
  rw [e1, e2]
  exact rot_l A B (L.length + R.length) n L R (Nat.le_refl _) hn h1 h2 (by simp; omega)
end Go.Ev.Seat
namespace Go.Ev.Seat
set_option linter.unusedVariables false
set_option linter.unusedSimpArgs false
open Go Go.Ev
def LtB (Y : List Fct) (k : Nat) (v : Int) : Prop := 0 < k → ∃ h : k - 1 < Y.length, (Y[k - 1]).var < v
def LeB (Y : List Fct) (k : Nat) (v : Int) : Prop := 0 < k → ∃ h : k - 1 < Y.length, (Y[k - 1]).var ≤ v
def GeA (Y : List Fct) (k : Nat) (v : Int) : Prop := k < Y.length → ∃ h : k < Y.length, v ≤ (Y[k]).var
def GtA (Y : List Fct) (k : Nat) (v : Int) : Prop := k < Y.length → ∃ h : k < Y.length, v < (Y[k]).var
theorem bub_r (C : List Fct) (x : Fct) : ∀ (Y A : List Fct) (n : Nat), Y.length < n → (A ++ x :: Y ++ C).length < 100000000000 →
    y09 ((A.length + 1 + Y.length : Nat) : Int) n (A ++ x :: Y ++ C) (A.length : Nat) = some (A ++ Y ++ x :: C)
  | [], A, n, hn, hb => by
    obtain ⟨n, rfl⟩ : ∃ m, n = m + 1 := ⟨n - 1, by omega⟩
    simp only [List.length_append, List.length_cons, List.length_nil] at hb hn ⊢
    rw [y09]
    have e1 : decide (((A.length : Nat) : Int) < IntKind.i64.wrap (((A.length + 1 + 0 : Nat) : Int) - 1)) = false := by rw [wI (by omega) (by omega)]; simp
    rw [e1, cond_false]; simp
  | y :: Y, A, n, hn, hb => by
    obtain ⟨n, rfl⟩ : ∃ m, n = m + 1 := ⟨n - 1, by omega⟩
    simp only [List.length_append, List.length_cons] at hb hn
    have ih := bub_r C x Y (A ++ [y]) n (by omega) (by simp; omega)
    rw [y09]
    have e1 : decide (((A.length : Nat) : Int) < IntKind.i64.wrap (((A.length + 1 + (y :: Y).length : Nat) : Int) - 1)) = true := by rw [wI (by simp; omega) (by simp; omega)]; simp; omega
    have e2 : IntKind.i64.wrap (((A.length : Nat) : Int) + 1) = ((A.length + 1 : Nat) : Int) := by rw [wI (by omega) (by omega)]; omega
    rw [e1, cond_true, e2]
    rw [idx_at (A := A ++ [x]) (B := Y ++ C) (x := y) (by simp) (by simp), Option.bind_some]
    rw [idx_at (A := A) (B := y :: Y ++ C) (x := x) (by simp) rfl, Option.bind_some, Option.bind_some]
    rw [setL_at (A := A) (B := y :: Y ++ C) (x := x) (y := y) (by simp) rfl, Option.bind_some]
    rw [idx_at (A := A ++ [y]) (B := Y ++ C) (x := y) (by simp) (by simp), Option.bind_some]
    rw [setL_at (A := A ++ [y]) (B := Y ++ C) (x := y) (y := x) (by simp) (by simp), Option.bind_some]
    have e3 : ((A ++ [y]).length + 1 + Y.length : Nat) = A.length + 1 + (y :: Y).length := by simp; omega
    have e4 : ((A ++ [y]).length : Nat) = A.length + 1 := by simp
    rw [e3, e4] at ih
    simpa using ih
theorem bub_l (C : List Fct) (y : Fct) (A : List Fct) : ∀ (k : Nat) (X : List Fct) (n : Nat), X.length = k → X.length < n → (A ++ X ++ y :: C).length < 100000000000 →
    y0a (A.length : Nat) n (A ++ X ++ y :: C) ((A.length + X.length : Nat) : Int) = some (A ++ y :: X ++ C) := by
  intro k
  induction k generalizing C with
  | zero =>
    intro X n hk hn hb
    obtain rfl : X = [] := List.length_eq_zero_iff.1 hk
    obtain ⟨n, rfl⟩ : ∃ m, n = m + 1 := ⟨n - 1, by omega⟩
    rw [y0a]
    have e1 : decide (((A.length : Nat) : Int) < ((A.length + ([] : List Fct).length : Nat) : Int)) = false := by simp
    rw [e1, cond_false]; simp
  | succ k ih =>
    intro X n hk hn hb
    obtain ⟨X, x, rfl⟩ : ∃ X' x, X = X' ++ [x] := ⟨X.dropLast, X.getLast (by intro h; simp [h] at hk), (List.dropLast_concat_getLast _).symm⟩
    obtain ⟨n, rfl⟩ : ∃ m, n = m + 1 := ⟨n - 1, by omega⟩
    simp only [List.length_append, List.length_cons, List.length_nil] at hb hn hk
    rw [y0a]
    have e1 : decide (((A.length : Nat) : Int) < ((A.length + (X ++ [x]).length : Nat) : Int)) = true := by simp; omega
    have e2 : IntKind.i64.wrap (((A.length + (X ++ [x]).length : Nat) : Int) - 1) = ((A.length + X.length : Nat) : Int) := by rw [wI (by simp; omega) (by simp; omega)]; simp; omega
    rw [e1, cond_true, e2]
    rw [idx_at (A := A ++ X) (B := y :: C) (x := x) (by simp) (by simp), Option.bind_some]
    rw [idx_at (A := A ++ X ++ [x]) (B := C) (x := y) (by simp) (by simp), Option.bind_some, Option.bind_some]
    rw [setL_at (A := A ++ X ++ [x]) (B := C) (x := y) (y := x) (by simp) (by simp), Option.bind_some]
    rw [idx_at (A := A ++ X) (B := x :: C) (x := x) (by simp) (by simp), Option.bind_some]
    rw [setL_at (A := A ++ X) (B := x :: C) (x := x) (y := y) (by simp) (by simp), Option.bind_some]
    have h := ih (x :: C) X n (by omega) (by omega) (by simp; omega)
    rw [h]; simp
theorem mid_eq {i j : Nat} (h : i + j < 1000000000000) : IntKind.i64.wrap (Int.fdiv (IntKind.u64.wrap (IntKind.i64.wrap ((i : Int) + (j : Int)))) (2 ^ 1)) = (((i + j) / 2 : Nat) : Int) := by
  rw [wI (n := (i : Int) + (j : Int)) (by omega) (by omega), kw_u64_id (by omega) (by omega)]
  have : Int.fdiv ((i : Int) + (j : Int)) (2 ^ 1) = (((i + j) / 2 : Nat) : Int) := by
    rw [Int.fdiv_eq_ediv_of_nonneg _ (by decide)]; omega
  rw [this, wI (by omega) (by omega)]
theorem srt_l {X : List Fct} {x : Fct} (h : Srt (X ++ [x])) : ∀ y, y ∈ X → y.var ≤ x.var := fun y hy => (List.pairwise_append.1 h).2.2 y hy x (by simp)
theorem idx_mid {A X C : List Fct} {i : Int} {k : Nat} (hk : k < X.length) (hi : i = ((A.length + k : Nat) : Int)) : idx (A ++ X ++ C) i = some X[k] := by
  subst hi
  rw [idx_nat, List.append_assoc, List.getElem?_append_right (by omega), Nat.add_sub_cancel_left, List.getElem?_append_left hk, List.getElem?_eq_getElem hk]
theorem find_r (A C : List Fct) (x : Fct) (Y : List Fct) (K : Nat) (hb : (A ++ x :: Y ++ C).length < 100000000000) (hK : Y.length < K) : ∀ (d i j n : Nat), j - i ≤ d → d < n → i ≤ j → j ≤ Y.length → LtB Y i x.var → GeA Y j x.var →
    ∃ k, k ≤ Y.length ∧ LtB Y k x.var ∧ GeA Y k x.var ∧
      y04 K (A ++ x :: Y ++ C) (A.length : Nat) n ((A.length + 1 + i : Nat) : Int) ((A.length + 1 + j : Nat) : Int) = some (A ++ Y.take k ++ x :: (Y.drop k ++ C)) := by
  intro d
  simp only [List.length_append, List.length_cons] at hb
  induction d with
  | zero =>
    intro i j n h1 h2 h3 h4 h5 h6
    obtain rfl : i = j := by omega
    obtain ⟨n, rfl⟩ : ∃ m, n = m + 1 := ⟨n - 1, by omega⟩
    refine ⟨i, h4, h5, h6, ?_⟩
    rw [y04]
    have e1 : decide (((A.length + 1 + i : Nat) : Int) < ((A.length + 1 + i : Nat) : Int)) = false := by simp
    rw [e1, cond_false, y0s]
    have hl : (Y.take i).length = i := by rw [List.length_take]; omega
    have := bub_r (Y.drop i ++ C) x (Y.take i) A K (by omega) (by simp; omega)
    rw [hl] at this
    have hY : Y = Y.take i ++ Y.drop i := (List.take_append_drop i Y).symm
    rw [show A ++ x :: Y ++ C = A ++ x :: Y.take i ++ (Y.drop i ++ C) from (congrArg (fun z => A ++ x :: z ++ C) hY).trans (by simp only [List.append_assoc, List.cons_append])]
    rw [this]
  | succ d ih =>
    intro i j n h1 h2 h3 h4 h5 h6
    by_cases he : i = j
    · exact ih i j n (by omega) (by omega) h3 h4 h5 h6
    obtain ⟨n, rfl⟩ : ∃ m, n = m + 1 := ⟨n - 1, by omega⟩
    have em : IntKind.i64.wrap (Int.fdiv (IntKind.u64.wrap (IntKind.i64.wrap (((A.length + 1 + i : Nat) : Int) + ((A.length + 1 + j : Nat) : Int)))) (2 ^ 1)) = ((A.length + 1 + (i + j) / 2 : Nat) : Int) := by
      rw [mid_eq (by omega)]; omega
    have hm : (i + j) / 2 < Y.length := by omega
    have e1 : decide (((A.length + 1 + i : Nat) : Int) < ((A.length + 1 + j : Nat) : Int)) = true := by simp; omega
    have ew : IntKind.i64.wrap (((A.length + 1 + (i + j) / 2 : Nat) : Int) + 1) = ((A.length + 1 + ((i + j) / 2 + 1) : Nat) : Int) := by rw [wI (by omega) (by omega)]; omega
    have hi1 : idx (A ++ x :: Y ++ C) ((A.length + 1 + (i + j) / 2 : Nat) : Int) = some Y[(i + j) / 2] := by
      rw [show A ++ x :: Y ++ C = (A ++ [x]) ++ Y ++ C by simp]; exact idx_mid hm (by simp)
    by_cases hc : (Y[(i + j) / 2]).var < x.var
    · obtain ⟨k, k1, k2, k3, k4⟩ := ih ((i + j) / 2 + 1) j n (by omega) (by omega) (by omega) h4 (fun _ => ⟨by simpa using hm, by simpa using hc⟩) h6
      refine ⟨k, k1, k2, k3, ?_⟩
      rw [y04, e1, cond_true, em, hi1, Option.bind_some, idx_at (A := A) (B := Y ++ C) (x := x) (by simp) rfl, Option.bind_some, cmp_eq, Option.bind_some, cmp_lt, decide_eq_true hc, cond_true, ew, k4]
    · obtain ⟨k, k1, k2, k3, k4⟩ := ih i ((i + j) / 2) n (by omega) (by omega) (by omega) (by omega) h5 (fun _ => ⟨hm, Int.not_lt.1 hc⟩)
      refine ⟨k, k1, k2, k3, ?_⟩
      rw [y04, e1, cond_true, em, hi1, Option.bind_some, idx_at (A := A) (B := Y ++ C) (x := x) (by simp) rfl, Option.bind_some, cmp_eq, Option.bind_some, cmp_lt, decide_eq_false hc, cond_false, k4]
theorem find_l (A C : List Fct) (y : Fct) (X : List Fct) (K : Nat) (hb : (A ++ X ++ y :: C).length < 100000000000) (hK : X.length < K) : ∀ (d i j n : Nat), j - i ≤ d → d < n → i ≤ j → j ≤ X.length → LeB X i y.var → GtA X j y.var →
    ∃ k, k ≤ X.length ∧ LeB X k y.var ∧ GtA X k y.var ∧
      y06 K (A ++ X ++ y :: C) ((A.length + X.length : Nat) : Int) n ((A.length + i : Nat) : Int) ((A.length + j : Nat) : Int) = some (A ++ X.take k ++ y :: (X.drop k ++ C)) := by
  intro d
  simp only [List.length_append, List.length_cons] at hb
  induction d with
  | zero =>
    intro i j n h1 h2 h3 h4 h5 h6
    obtain rfl : i = j := by omega
    obtain ⟨n, rfl⟩ : ∃ m, n = m + 1 := ⟨n - 1, by omega⟩
    refine ⟨i, h4, h5, h6, ?_⟩
    rw [y06]
    have e1 : decide (((A.length + i : Nat) : Int) < ((A.length + i : Nat) : Int)) = false := by simp
    rw [e1, cond_false, y0u]
    have hl : (X.take i).length = i := by rw [List.length_take]; omega
    have hl2 : (X.drop i).length = X.length - i := List.length_drop
    have := bub_l C y (A ++ X.take i) (X.drop i).length (X.drop i) K rfl (by omega) (by simp; omega)
    have e2 : ((A ++ X.take i).length : Nat) = A.length + i := by rw [List.length_append, hl]
    have e3 : A.length + i + (X.drop i).length = A.length + X.length := by omega
    rw [e2, e3] at this
    have hX : X = X.take i ++ X.drop i := (List.take_append_drop i X).symm
    rw [show A ++ X ++ y :: C = A ++ X.take i ++ X.drop i ++ y :: C from (congrArg (fun z => A ++ z ++ y :: C) hX).trans (by simp only [List.append_assoc])]
    rw [this]; simp
  | succ d ih =>
    intro i j n h1 h2 h3 h4 h5 h6
    by_cases he : i = j
    · exact ih i j n (by omega) (by omega) h3 h4 h5 h6
    obtain ⟨n, rfl⟩ : ∃ m, n = m + 1 := ⟨n - 1, by omega⟩
    have em : IntKind.i64.wrap (Int.fdiv (IntKind.u64.wrap (IntKind.i64.wrap (((A.length + i : Nat) : Int) + ((A.length + j : Nat) : Int)))) (2 ^ 1)) = ((A.length + (i + j) / 2 : Nat) : Int) := by
      rw [mid_eq (by omega)]; omega
    have hm : (i + j) / 2 < X.length := by omega
    have e1 : decide (((A.length + i : Nat) : Int) < ((A.length + j : Nat) : Int)) = true := by simp; omega
    have ew : IntKind.i64.wrap (((A.length + (i + j) / 2 : Nat) : Int) + 1) = ((A.length + ((i + j) / 2 + 1) : Nat) : Int) := by rw [wI (by omega) (by omega)]; omega
    have hi1 : idx (A ++ X ++ y :: C) ((A.length + (i + j) / 2 : Nat) : Int) = some X[(i + j) / 2] := idx_mid hm rfl
    have hi2 : idx (A ++ X ++ y :: C) ((A.length + X.length : Nat) : Int) = some y := idx_at (A := A ++ X) (B := C) rfl (by simp)
    by_cases hc : y.var < (X[(i + j) / 2]).var
    · obtain ⟨k, k1, k2, k3, k4⟩ := ih i ((i + j) / 2) n (by omega) (by omega) (by omega) (by omega) h5 (fun _ => ⟨hm, hc⟩)
      refine ⟨k, k1, k2, k3, ?_⟩
      rw [y06, e1, cond_true, em, hi2, Option.bind_some, hi1, Option.bind_some, cmp_eq, Option.bind_some, cmp_lt, decide_eq_true hc, Bool.not_true, cond_false, k4]
    · obtain ⟨k, k1, k2, k3, k4⟩ := ih ((i + j) / 2 + 1) j n (by omega) (by omega) (by omega) h4 (fun _ => ⟨by simpa using hm, by simpa using Int.not_lt.1 hc⟩) h6
      refine ⟨k, k1, k2, k3, ?_⟩
      rw [y06, e1, cond_true, em, hi2, Option.bind_some, hi1, Option.bind_some, cmp_eq, Option.bind_some, cmp_lt, decide_eq_false hc, Bool.not_false, cond_true, ew, k4]
end Go.Ev.Seat
namespace Go.Ev.Seat
set_option linter.unusedVariables false
set_option linter.unusedSimpArgs false
open Go Go.Ev
theorem srt_get {Y : List Fct} (h : Srt Y) {i j : Nat} (hi : i ≤ j) (hj : j < Y.length) : (Y[i]'(by omega)).var ≤ (Y[j]).var := by
  rcases Nat.lt_or_eq_of_le hi with h1 | h1
  · exact List.pairwise_iff_getElem.1 h i j (by omega) hj h1
  · subst h1; exact Int.le_refl _
theorem take_le {Y : List Fct} (h : Srt Y) {k : Nat} {v : Int} (h1 : LeB Y k v) (hk : k ≤ Y.length) : ∀ y, y ∈ Y.take k → y.var ≤ v := by
  intro y hy
  obtain ⟨i, hi, rfl⟩ := List.mem_iff_getElem.1 hy
  rw [List.length_take] at hi
  rw [List.getElem_take]
  obtain ⟨h2, h3⟩ := h1 (by omega)
  exact Int.le_trans (srt_get h (by omega) h2) h3
theorem ltB_le {Y : List Fct} {k : Nat} {v : Int} (h : LtB Y k v) : LeB Y k v := fun h1 => let ⟨h2, h3⟩ := h h1; ⟨h2, Int.le_of_lt h3⟩
theorem gtA_ge {Y : List Fct} {k : Nat} {v : Int} (h : GtA Y k v) : GeA Y k v := fun h1 => let ⟨h2, h3⟩ := h h1; ⟨h2, Int.le_of_lt h3⟩
theorem drop_ge {Y : List Fct} (h : Srt Y) {k : Nat} {v : Int} (h1 : GeA Y k v) : ∀ y, y ∈ Y.drop k → v ≤ y.var := by
  intro y hy
  obtain ⟨i, hi, rfl⟩ := List.mem_iff_getElem.1 hy
  rw [List.length_drop] at hi
  rw [List.getElem_drop]
  obtain ⟨h2, h3⟩ := h1 (by omega)
  exact Int.le_trans h3 (srt_get h (by omega) _)
theorem srt_mid {Y : List Fct} (h : Srt Y) {k : Nat} {x : Fct} (h1 : ∀ y, y ∈ Y.take k → y.var ≤ x.var) (h2 : ∀ y, y ∈ Y.drop k → x.var ≤ y.var) : Srt (Y.take k ++ x :: Y.drop k) := by
  have h3 : Srt (Y.take k ++ Y.drop k) := by rw [List.take_append_drop]; exact h
  obtain ⟨a1, a2, a3⟩ := List.pairwise_append.1 h3
  refine List.pairwise_append.2 ⟨a1, List.pairwise_cons.2 ⟨h2, a2⟩, fun u hu v hv => ?_⟩
  rcases List.mem_cons.1 hv with rfl | hv
  · exact h1 u hu
  · exact a3 u hu v hv
theorem perm_mid (Y : List Fct) (k : Nat) (x : Fct) : (Y.take k ++ x :: Y.drop k).Perm (x :: Y) := by
  have := List.perm_middle (a := x) (l₁ := Y.take k) (l₂ := Y.drop k)
  rwa [List.take_append_drop] at this
def PL (X Y : List Fct) (h slo s : Nat) : Prop := s = slo ∨ (0 < s ∧ ∃ (h1 : s - 1 < X.length) (h2 : h - s < Y.length), (X[s - 1]).var ≤ (Y[h - s]).var)
def PR (X Y : List Fct) (h shi s : Nat) : Prop := s = shi ∨ (s < h ∧ ∃ (h1 : s < X.length) (h2 : h - 1 - s < Y.length), (Y[h - 1 - s]).var < (X[s]).var)
theorem sym_find (rec : List Fct → Int → Int → Int → Option (List Fct)) (K : Nat) (A X Y B : List Fct) (h slo shi : Nat) (hh : h = (X.length + Y.length) / 2) (hb : (A ++ X ++ Y ++ B).length < 100000000000) (k1 : shi ≤ h) (k2 : shi ≤ X.length) (k3 : h ≤ slo + Y.length) :
    ∀ (d i j n : Nat), j - i ≤ d → d < n → slo ≤ i → i ≤ j → j ≤ shi → PL X Y h slo i → PR X Y h shi j →
    ∃ s, slo ≤ s ∧ s ≤ shi ∧ PL X Y h slo s ∧ PR X Y h shi s ∧
      y02 rec K (A ++ X ++ Y ++ B) (A.length : Nat) ((A.length + X.length : Nat) : Int) ((A.length + X.length + Y.length : Nat) : Int) n ((A.length + i : Nat) : Int) ((A.length + j : Nat) : Int) =
      y0l rec K (A ++ X ++ Y ++ B) (A.length : Nat) ((A.length + X.length : Nat) : Int) ((A.length + X.length + Y.length : Nat) : Int) ((A.length + s : Nat) : Int) := by
  simp only [List.length_append] at hb
  intro d
  induction d with
  | zero =>
    intro i j n h1 h2 h3 h4 h5 h6 h7
    obtain rfl : i = j := by omega
    obtain ⟨n, rfl⟩ : ∃ m, n = m + 1 := ⟨n - 1, by omega⟩
    refine ⟨i, h3, h5, h6, h7, ?_⟩
    rw [y02]
    have e1 : decide (((A.length + i : Nat) : Int) < ((A.length + i : Nat) : Int)) = false := by simp
    rw [e1, cond_false]
  | succ d ih =>
    intro i j n h1 h2 h3 h4 h5 h6 h7
    by_cases he : i = j
    · exact ih i j n (by omega) (by omega) h3 h4 h5 h6 h7
    obtain ⟨n, rfl⟩ : ∃ m, n = m + 1 := ⟨n - 1, by omega⟩
    have em : IntKind.i64.wrap (Int.fdiv (IntKind.u64.wrap (IntKind.i64.wrap (((A.length + i : Nat) : Int) + ((A.length + j : Nat) : Int)))) (2 ^ 1)) = ((A.length + (i + j) / 2 : Nat) : Int) := by
      rw [mid_eq (by omega)]; omega
    have emid : IntKind.i64.wrap (Int.fdiv (IntKind.u64.wrap (IntKind.i64.wrap (((A.length : Nat) : Int) + ((A.length + X.length + Y.length : Nat) : Int)))) (2 ^ 1)) = ((A.length + h : Nat) : Int) := by
      rw [mid_eq (by omega)]; omega
    generalize hc : (i + j) / 2 = c at em
    have e1 : decide (((A.length + i : Nat) : Int) < ((A.length + j : Nat) : Int)) = true := by simp; omega
    have ew : IntKind.i64.wrap (((A.length + c : Nat) : Int) + 1) = ((A.length + (c + 1) : Nat) : Int) := by rw [wI (by omega) (by omega)]; omega
    have hcx : c < X.length := by omega
    have hcy : h - 1 - c < Y.length := by omega
    have hch : c < h := by omega
    have ep : IntKind.i64.wrap (IntKind.i64.wrap (IntKind.i64.wrap (((A.length + h : Nat) : Int) + ((A.length + X.length : Nat) : Int)) - 1) - ((A.length + c : Nat) : Int)) = (((A ++ X).length + (h - 1 - c) : Nat) : Int) := by
      rw [wI (n := ((A.length + h : Nat) : Int) + ((A.length + X.length : Nat) : Int)) (by omega) (by omega), wI (n := ((A.length + h : Nat) : Int) + ((A.length + X.length : Nat) : Int) - 1) (by omega) (by omega), wI (by omega) (by omega)]
      simp only [List.length_append]; omega
    have i1 : idx (A ++ X ++ Y ++ B) (((A ++ X).length + (h - 1 - c) : Nat) : Int) = some Y[h - 1 - c] := idx_mid hcy rfl
    have i2 : idx (A ++ X ++ Y ++ B) ((A.length + c : Nat) : Int) = some X[c] := by rw [List.append_assoc (A ++ X)]; exact idx_mid hcx rfl
    by_cases hp : (Y[h - 1 - c]).var < (X[c]).var
    · obtain ⟨s, s1, s2, s3, s4, s5⟩ := ih i c n (by omega) (by omega) h3 (by omega) (by omega) h6 (.inr ⟨hch, hcx, hcy, hp⟩)
      refine ⟨s, s1, s2, s3, s4, ?_⟩
      rw [y02, e1, cond_true, emid, em, ep, i1, Option.bind_some, i2, Option.bind_some, cmp_eq, Option.bind_some, cmp_lt, decide_eq_true hp, Bool.not_true, cond_false, s5]
    · have hq : h - (c + 1) = h - 1 - c := by omega
      obtain ⟨s, s1, s2, s3, s4, s5⟩ := ih (c + 1) j n (by omega) (by omega) (by omega) (by omega) h5 (.inr ⟨by omega, by simpa using hcx, by omega, by simp only [hq, Nat.add_sub_cancel]; exact Int.not_lt.1 hp⟩) h7
      refine ⟨s, s1, s2, s3, s4, ?_⟩
      rw [y02, e1, cond_true, emid, em, ep, i1, Option.bind_some, i2, Option.bind_some, cmp_eq, Option.bind_some, cmp_lt, decide_eq_false hp, Bool.not_false, cond_true, ew, s5]
theorem srt_one {U V : List Fct} (h1 : Srt U) (h2 : Srt V) (h : ¬(0 < U.length ∧ 0 < V.length)) : Srt (U ++ V) := by
  rcases Nat.eq_zero_or_pos U.length with h0 | h0
  · obtain rfl : U = [] := List.length_eq_zero_iff.1 h0
    simpa using h2
  · obtain rfl : V = [] := List.length_eq_zero_iff.1 (by omega)
    simpa using h1
def RecOk (rec : List Fct → Int → Int → Int → Option (List Fct)) (k : Nat) : Prop := ∀ (A X Y B : List Fct), X.length + Y.length < k → 0 < X.length → 0 < Y.length → Srt X → Srt Y → (A ++ X ++ Y ++ B).length < 100000000000 →
  ∃ M, M.Perm (X ++ Y) ∧ Srt M ∧ rec (A ++ X ++ Y ++ B) (A.length : Nat) ((A.length + X.length : Nat) : Int) ((A.length + X.length + Y.length : Nat) : Int) = some (A ++ M ++ B)
theorem sym_j1 {rec : List Fct → Int → Int → Int → Option (List Fct)} {k : Nat} (hr : RecOk rec k) (A M1 X2 Y2 B : List Fct) {a m b st : Nat} (hx : Srt X2) (hy : Srt Y2) (hk : X2.length + Y2.length < k) (hb : (A ++ M1 ++ X2 ++ Y2 ++ B).length < 100000000000)
    (e1 : (a + b) / 2 = A.length + M1.length) (e2 : (a + b) / 2 + m = A.length + M1.length + X2.length + st) (e3 : b = A.length + M1.length + X2.length + Y2.length) (hm : m ≤ b) (ha : a ≤ b) :
    ∃ M2, M2.Perm (X2 ++ Y2) ∧ Srt M2 ∧ y0j rec (a : Nat) (m : Nat) (b : Nat) (st : Nat) (A ++ M1 ++ X2 ++ Y2 ++ B) = some (A ++ M1 ++ M2 ++ B) := by
  have hb' := hb
  simp only [List.length_append] at hb'
  have emid : IntKind.i64.wrap (Int.fdiv (IntKind.u64.wrap (IntKind.i64.wrap ((a : Int) + (b : Int)))) (2 ^ 1)) = (((A ++ M1).length : Nat) : Int) := by
    rw [mid_eq (by omega), e1]; simp
  have eend : IntKind.i64.wrap (IntKind.i64.wrap ((((A ++ M1).length : Nat) : Int) + (m : Int)) - (st : Int)) = (((A ++ M1).length + X2.length : Nat) : Int) := by
    simp only [List.length_append]
    rw [wI (n := ((A.length + M1.length : Nat) : Int) + (m : Int)) (by omega) (by omega), wI (by omega) (by omega)]; omega
  have eb : (b : Int) = (((A ++ M1).length + X2.length + Y2.length : Nat) : Int) := by simp only [List.length_append]; omega
  unfold y0j
  rw [emid, eend, eb]
  by_cases hc : 0 < X2.length ∧ 0 < Y2.length
  · obtain ⟨M2, p1, p2, p3⟩ := hr (A ++ M1) X2 Y2 B hk hc.1 hc.2 hx hy hb
    refine ⟨M2, p1, p2, ?_⟩
    have c1 : (decide ((((A ++ M1).length : Nat) : Int) < (((A ++ M1).length + X2.length : Nat) : Int)) && decide ((((A ++ M1).length + X2.length : Nat) : Int) < (((A ++ M1).length + X2.length + Y2.length : Nat) : Int))) = true := by
      simp only [Bool.and_eq_true, decide_eq_true_eq]; omega
    have hl : M2.length = X2.length + Y2.length := by rw [p1.length_eq, List.length_append]
    rw [c1, cond_true, callG_of p3 (by simp; omega), Option.bind_some]
  · refine ⟨X2 ++ Y2, List.Perm.refl _, srt_one hx hy hc, ?_⟩
    have c1 : (decide ((((A ++ M1).length : Nat) : Int) < (((A ++ M1).length + X2.length : Nat) : Int)) && decide ((((A ++ M1).length + X2.length : Nat) : Int) < (((A ++ M1).length + X2.length + Y2.length : Nat) : Int))) = false := by
      rw [← Bool.not_eq_true]; simp only [Bool.and_eq_true, decide_eq_true_eq]; omega
    rw [c1, cond_false]; simp
theorem sym_j2 {rec : List Fct → Int → Int → Int → Option (List Fct)} {k : Nat} (hr : RecOk rec k) (A X1 Y1 X2 Y2 B : List Fct) {a m b st : Nat} (hx1 : Srt X1) (hy1 : Srt Y1) (hx : Srt X2) (hy : Srt Y2) (hk1 : X1.length + Y1.length < k) (hk : X2.length + Y2.length < k) (hb : (A ++ X1 ++ Y1 ++ X2 ++ Y2 ++ B).length < 100000000000)
    (ea : a = A.length) (es : st = A.length + X1.length) (e1 : (a + b) / 2 = A.length + X1.length + Y1.length) (e2 : (a + b) / 2 + m = A.length + X1.length + Y1.length + X2.length + st) (e3 : b = A.length + X1.length + Y1.length + X2.length + Y2.length) (hm : m ≤ b) :
    ∃ M1 M2, M1.Perm (X1 ++ Y1) ∧ M2.Perm (X2 ++ Y2) ∧ Srt M1 ∧ Srt M2 ∧ y0i rec (a : Nat) (m : Nat) (b : Nat) (st : Nat) (A ++ X1 ++ Y1 ++ X2 ++ Y2 ++ B) = some (A ++ M1 ++ M2 ++ B) := by
  have hb' := hb
  simp only [List.length_append] at hb'
  have emid : IntKind.i64.wrap (Int.fdiv (IntKind.u64.wrap (IntKind.i64.wrap ((a : Int) + (b : Int)))) (2 ^ 1)) = ((A.length + X1.length + Y1.length : Nat) : Int) := by
    rw [mid_eq (by omega), e1]
  unfold y0i
  rw [emid]
  by_cases hc : 0 < X1.length ∧ 0 < Y1.length
  · obtain ⟨M1, p1, p2, p3⟩ := hr A X1 Y1 (X2 ++ Y2 ++ B) hk1 hc.1 hc.2 hx1 hy1 (by simp; omega)
    have hl : M1.length = X1.length + Y1.length := by rw [p1.length_eq, List.length_append]
    obtain ⟨M2, q1, q2, q3⟩ := sym_j1 hr A M1 X2 Y2 B (a := a) (m := m) (b := b) (st := st) hx hy hk (by simp; omega) (by omega) (by omega) (by omega) hm (by omega)
    refine ⟨M1, M2, p1, q1, p2, q2, ?_⟩
    have c1 : (decide ((a : Int) < (st : Int)) && decide ((st : Int) < ((A.length + X1.length + Y1.length : Nat) : Int))) = true := by
      simp only [Bool.and_eq_true, decide_eq_true_eq]; omega
    have p4 : rec (A ++ X1 ++ Y1 ++ X2 ++ Y2 ++ B) (a : Nat) (st : Nat) ((A.length + X1.length + Y1.length : Nat) : Int) = some (A ++ M1 ++ X2 ++ Y2 ++ B) := by
      subst ea
      subst es
      simpa using p3
    rw [c1, cond_true, callG_of p4 (by simp; omega), Option.bind_some]
    exact q3
  · obtain ⟨M2, q1, q2, q3⟩ := sym_j1 hr A (X1 ++ Y1) X2 Y2 B (a := a) (m := m) (b := b) (st := st) hx hy hk (by simp; omega) (by simp; omega) (by simp; omega) (by simp; omega) hm (by omega)
    refine ⟨X1 ++ Y1, M2, List.Perm.refl _, q1, srt_one hx1 hy1 hc, q2, ?_⟩
    have c1 : (decide ((a : Int) < (st : Int)) && decide ((st : Int) < ((A.length + X1.length + Y1.length : Nat) : Int))) = false := by
      rw [← Bool.not_eq_true]; simp only [Bool.and_eq_true, decide_eq_true_eq]; omega
    rw [c1, cond_false]
    simpa using q3
theorem sym_j3 {rec : List Fct → Int → Int → Int → Option (List Fct)} {k : Nat} (hr : RecOk rec k) (K : Nat) (A X1 X2 Y1 Y2 B : List Fct) {a m b st : Nat} (hx1 : Srt X1) (hy1 : Srt Y1) (hx : Srt X2) (hy : Srt Y2) (hk1 : X1.length + Y1.length < k) (hk : X2.length + Y2.length < k) (hK : X2.length + Y1.length ≤ K) (hb : (A ++ X1 ++ X2 ++ Y1 ++ Y2 ++ B).length < 100000000000)
    (ea : a = A.length) (es : st = A.length + X1.length) (em : m = A.length + X1.length + X2.length) (e1 : (a + b) / 2 = A.length + X1.length + Y1.length) (e3 : b = A.length + X1.length + Y1.length + X2.length + Y2.length) :
    ∃ M1 M2, M1.Perm (X1 ++ Y1) ∧ M2.Perm (X2 ++ Y2) ∧ Srt M1 ∧ Srt M2 ∧ y0l rec K (A ++ X1 ++ X2 ++ Y1 ++ Y2 ++ B) (a : Nat) (m : Nat) (b : Nat) (st : Nat) = some (A ++ M1 ++ M2 ++ B) := by
  have hb' := hb
  simp only [List.length_append] at hb'
  have emid : IntKind.i64.wrap (Int.fdiv (IntKind.u64.wrap (IntKind.i64.wrap ((a : Int) + (b : Int)))) (2 ^ 1)) = ((A.length + X1.length + Y1.length : Nat) : Int) := by
    rw [mid_eq (by omega), e1]
  have eend : IntKind.i64.wrap (IntKind.i64.wrap (((A.length + X1.length + Y1.length : Nat) : Int) + (m : Int)) - (st : Int)) = ((A.length + X1.length + X2.length + Y1.length : Nat) : Int) := by
    rw [wI (n := ((A.length + X1.length + Y1.length : Nat) : Int) + (m : Int)) (by omega) (by omega), wI (by omega) (by omega)]; omega
  obtain ⟨M1, M2, p1, p2, p3, p4, p5⟩ := sym_j2 hr A X1 Y1 X2 Y2 B (a := a) (m := m) (b := b) (st := st) hx1 hy1 hx hy hk1 hk (by simp; omega) ea es (by omega) (by omega) (by omega) (by omega)
  refine ⟨M1, M2, p1, p2, p3, p4, ?_⟩
  unfold y0l
  rw [emid, eend]
  by_cases hc : 0 < X2.length ∧ 0 < Y1.length
  · have c1 : (decide ((st : Int) < (m : Int)) && decide ((m : Int) < ((A.length + X1.length + X2.length + Y1.length : Nat) : Int))) = true := by
      simp only [Bool.and_eq_true, decide_eq_true_eq]; omega
    have h := rot_ok (A ++ X1) X2 Y1 (Y2 ++ B) K hK hc.1 hc.2 (by simp; omega) (a := (st : Nat)) (m := (m : Nat)) (b := ((A.length + X1.length + X2.length + Y1.length : Nat) : Int)) (by simp; omega) (by simp; omega) (by simp)
    have h2 : y0t K (A ++ X1 ++ X2 ++ Y1 ++ Y2 ++ B) (st : Nat) (m : Nat) ((A.length + X1.length + X2.length + Y1.length : Nat) : Int) = some (A ++ X1 ++ Y1 ++ X2 ++ Y2 ++ B) := by simpa using h
    rw [c1, cond_true, callG_of h2 (by simp; omega), Option.bind_some]
    exact p5
  · have c1 : (decide ((st : Int) < (m : Int)) && decide ((m : Int) < ((A.length + X1.length + X2.length + Y1.length : Nat) : Int))) = false := by
      rw [← Bool.not_eq_true]; simp only [Bool.and_eq_true, decide_eq_true_eq]; omega
    rw [c1, cond_false, ← p5]
    congr 1
    rcases Nat.eq_zero_or_pos X2.length with h0 | h0
    · obtain rfl : X2 = [] := List.length_eq_zero_iff.1 h0
      simp
    · obtain rfl : Y1 = [] := List.length_eq_zero_iff.1 (by omega)
      simp
theorem sym_ok : ∀ (n : Nat), RecOk (y05 n) (n - 2)
  | 0 => fun A X Y B h => by omega
  | n + 1 => by
    intro A X Y B hn h1 h2 hx hy hb
    have ih := sym_ok n
    have hb' := hb
    simp only [List.length_append] at hb'
    rw [y05, y15]
    have e1 : IntKind.i64.wrap (((A.length + X.length : Nat) : Int) - ((A.length : Nat) : Int)) = ((X.length : Nat) : Int) := by rw [wI (by omega) (by omega)]; omega
    rw [e1]
    by_cases hX1 : X.length = 1
    · obtain ⟨x, rfl⟩ : ∃ x, X = [x] := List.length_eq_one_iff.1 hX1
      obtain ⟨k, k1, k2, k3, k4⟩ := find_r A B x Y n (by simp; omega) (by simp at hn; omega) Y.length 0 Y.length n (by omega) (by simp at hn; omega) (by omega) (by omega) (fun h => by omega) (fun h => by omega)
      refine ⟨Y.take k ++ x :: Y.drop k, perm_mid Y k x, srt_mid hy (take_le hy (ltB_le k2) k1) (drop_ge hy k3), ?_⟩
      have e2 : decide (((([x] : List Fct).length : Nat) : Int) = 1) = true := by simp
      have e3 : (((A.length + ([x] : List Fct).length : Nat)) : Int) = ((A.length + 1 + 0 : Nat) : Int) := by simp
      rw [e2, cond_true, e3]
      have := k4
      simp only [List.append_assoc, List.cons_append, List.nil_append, List.length_cons, List.length_nil, Nat.add_zero, Nat.zero_add] at this ⊢
      exact this
    · have e2 : decide (((X.length : Nat) : Int) = 1) = false := by simp; omega
      rw [e2, cond_false, y0r]
      have e3 : IntKind.i64.wrap (((A.length + X.length + Y.length : Nat) : Int) - ((A.length + X.length : Nat) : Int)) = ((Y.length : Nat) : Int) := by rw [wI (by omega) (by omega)]; omega
      rw [e3]
      by_cases hY1 : Y.length = 1
      · obtain ⟨y, rfl⟩ : ∃ y, Y = [y] := List.length_eq_one_iff.1 hY1
        obtain ⟨k, k1, k2, k3, k4⟩ := find_l A B y X n (by simp; omega) (by simp at hn; omega) X.length 0 X.length n (by omega) (by simp at hn; omega) (by omega) (by omega) (fun h => by omega) (fun h => by omega)
        refine ⟨X.take k ++ y :: X.drop k, (perm_mid X k y).trans (List.perm_append_comm (l₁ := [y])), srt_mid hx (take_le hx k2 k1) (drop_ge hx (gtA_ge k3)), ?_⟩
        have e4 : decide (((([y] : List Fct).length : Nat) : Int) = 1) = true := by simp
        rw [e4, cond_true]
        have := k4
        simp only [List.append_assoc, List.cons_append, List.nil_append, Nat.add_zero] at this ⊢
        exact this
      · have e4 : decide (((Y.length : Nat) : Int) = 1) = false := by simp; omega
        rw [e4, cond_false, y0v]
        obtain ⟨h, hh⟩ : ∃ h, h = (X.length + Y.length) / 2 := ⟨_, rfl⟩
        have emid : IntKind.i64.wrap (Int.fdiv (IntKind.u64.wrap (IntKind.i64.wrap (((A.length : Nat) : Int) + ((A.length + X.length + Y.length : Nat) : Int)))) (2 ^ 1)) = ((A.length + h : Nat) : Int) := by
          rw [mid_eq (by omega)]; omega
        rw [emid]
        have key : ∃ slo shi, slo ≤ shi ∧ shi ≤ h ∧ shi ≤ X.length ∧ h ≤ slo + Y.length ∧ (slo = 0 ∨ h = slo + Y.length) ∧ (shi = X.length ∨ shi = h) ∧
            (cond (decide (((A.length + h : Nat) : Int) < ((A.length + X.length : Nat) : Int))) (y0k (y05 n) n (A ++ X ++ Y ++ B) (A.length : Nat) ((A.length + X.length : Nat) : Int) ((A.length + X.length + Y.length : Nat) : Int) (IntKind.i64.wrap (IntKind.i64.wrap (((A.length + h : Nat) : Int) + ((A.length + X.length : Nat) : Int)) - ((A.length + X.length + Y.length : Nat) : Int))) ((A.length + h : Nat) : Int))
              (y0k (y05 n) n (A ++ X ++ Y ++ B) (A.length : Nat) ((A.length + X.length : Nat) : Int) ((A.length + X.length + Y.length : Nat) : Int) (A.length : Nat) ((A.length + X.length : Nat) : Int))) =
            y02 (y05 n) n (A ++ X ++ Y ++ B) (A.length : Nat) ((A.length + X.length : Nat) : Int) ((A.length + X.length + Y.length : Nat) : Int) n ((A.length + slo : Nat) : Int) ((A.length + shi : Nat) : Int) := by
          by_cases hlt : h < X.length
          · refine ⟨h - Y.length, h, by omega, by omega, by omega, by omega, by omega, by omega, ?_⟩
            have c1 : decide (((A.length + h : Nat) : Int) < ((A.length + X.length : Nat) : Int)) = true := by simp; omega
            have c2 : IntKind.i64.wrap (IntKind.i64.wrap (((A.length + h : Nat) : Int) + ((A.length + X.length : Nat) : Int)) - ((A.length + X.length + Y.length : Nat) : Int)) = ((A.length + (h - Y.length) : Nat) : Int) := by
              rw [wI (n := ((A.length + h : Nat) : Int) + ((A.length + X.length : Nat) : Int)) (by omega) (by omega), wI (by omega) (by omega)]; omega
            rw [c1, cond_true, c2]; rfl
          · refine ⟨0, X.length, by omega, by omega, by omega, by omega, by omega, by omega, ?_⟩
            have c1 : decide (((A.length + h : Nat) : Int) < ((A.length + X.length : Nat) : Int)) = false := by simp; omega
            rw [c1, cond_false]; rfl
        obtain ⟨slo, shi, b1, b2, b3, b4, b5, b6, b7⟩ := key
        rw [b7]
        obtain ⟨s, s1, s2, s3, s4, s5⟩ := sym_find (y05 n) n A X Y B h slo shi hh hb b2 b3 b4 (shi - slo) slo shi n (by omega) (by omega) (by omega) b1 (by omega) (.inl rfl) (.inl rfl)
        rw [s5]
        have hX : X = X.take s ++ X.drop s := (List.take_append_drop s X).symm
        have hY : Y = Y.take (h - s) ++ Y.drop (h - s) := (List.take_append_drop _ Y).symm
        have lx1 : (X.take s).length = s := by rw [List.length_take]; omega
        have lx2 : (X.drop s).length = X.length - s := List.length_drop
        have ly1 : (Y.take (h - s)).length = h - s := by rw [List.length_take]; omega
        have ly2 : (Y.drop (h - s)).length = Y.length - (h - s) := List.length_drop
        have sx1 : Srt (X.take s) := hx.sublist (List.take_sublist _ _)
        have sx2 : Srt (X.drop s) := hx.sublist (List.drop_sublist _ _)
        have sy1 : Srt (Y.take (h - s)) := hy.sublist (List.take_sublist _ _)
        have sy2 : Srt (Y.drop (h - s)) := hy.sublist (List.drop_sublist _ _)
        have hll : A ++ X ++ Y ++ B = A ++ X.take s ++ X.drop s ++ Y.take (h - s) ++ Y.drop (h - s) ++ B :=
          (congrArg (fun z => A ++ z ++ Y ++ B) hX).trans ((congrArg (fun z => A ++ (X.take s ++ X.drop s) ++ z ++ B) hY).trans (by simp only [List.append_assoc]))
        obtain ⟨M1, M2, p1, p2, p3, p4, p5⟩ := sym_j3 ih n A (X.take s) (X.drop s) (Y.take (h - s)) (Y.drop (h - s)) B (a := A.length) (m := A.length + X.length) (b := A.length + X.length + Y.length) (st := A.length + s) sx1 sy1 sx2 sy2 (by omega) (by omega) (by omega) (by rw [← hll]; exact hb) rfl (by omega) (by omega) (by omega) (by omega)
        refine ⟨M1 ++ M2, ?_, ?_, ?_⟩
        · have q1 : (M1 ++ M2).Perm ((X.take s ++ Y.take (h - s)) ++ (X.drop s ++ Y.drop (h - s))) := p1.append p2
          refine q1.trans ?_
          have q2 : ((X.take s ++ Y.take (h - s)) ++ (X.drop s ++ Y.drop (h - s))).Perm ((X.take s ++ X.drop s) ++ (Y.take (h - s) ++ Y.drop (h - s))) := by
            simp only [List.append_assoc]
            refine List.Perm.append_left _ ?_
            simp only [← List.append_assoc]
            exact List.Perm.append_right _ List.perm_append_comm
          rw [← hX, ← hY] at q2
          exact q2
        · refine List.pairwise_append.2 ⟨p3, p4, fun u hu v hv => ?_⟩
          have hu' := p1.mem_iff.1 hu
          have hv' := p2.mem_iff.1 hv
          have hxs : Srt (X.take s ++ X.drop s) := by rw [← hX]; exact hx
          have hys : Srt (Y.take (h - s) ++ Y.drop (h - s)) := by rw [← hY]; exact hy
          rcases List.mem_append.1 hu' with hu1 | hu1 <;> rcases List.mem_append.1 hv' with hv1 | hv1
          · exact (List.pairwise_append.1 hxs).2.2 u hu1 v hv1
          · -- of the first row's first part, and the second row's second
            have n1 := List.length_pos_of_mem hu1
            have n2 := List.length_pos_of_mem hv1
            rcases s3 with s3 | ⟨s6, h3, h4, h5⟩
            · exfalso; omega
            · have tt1 := take_le hx (k := s) (v := (X[s - 1]).var) (fun _ => ⟨h3, Int.le_refl _⟩) (by omega) u hu1
              have tt2 := drop_ge hy (k := h - s) (v := (Y[h - s]).var) (fun _ => ⟨h4, Int.le_refl _⟩) v hv1
              exact Int.le_trans tt1 (Int.le_trans h5 tt2)
          · have n1 := List.length_pos_of_mem hu1
            have n2 := List.length_pos_of_mem hv1
            rcases s4 with s4 | ⟨s6, h3, h4, h5⟩
            · exfalso; omega
            · have tt1 := take_le hy (k := h - s) (v := (Y[h - 1 - s]).var) (fun _ => ⟨by omega, by simp only [show h - s - 1 = h - 1 - s by omega]; exact Int.le_refl _⟩) (by omega) u hu1
              have tt2 := drop_ge hx (k := s) (v := (X[s]).var) (fun _ => ⟨h3, Int.le_refl _⟩) v hv1
              exact Int.le_trans tt1 (Int.le_trans (Int.le_of_lt h5) tt2)
          · exact (List.pairwise_append.1 hys).2.2 u hu1 v hv1
        · rw [hll, p5]; simp
end Go.Ev.Seat
namespace Go.Ev.Seat
set_option linter.unusedVariables false
set_option linter.unusedSimpArgs false
open Go Go.Ev
theorem ins_l3 (A C : List Fct) (y : Fct) (K : List Fct → Int → Option (List Fct)) (c : Int) : ∀ (k : Nat) (S1 S2 : List Fct) (n : Nat), S1.length = k → k < n → Srt (S1 ++ S2) → (∀ s, s ∈ S2 → y.var ≤ s.var) → (A ++ S1 ++ y :: S2 ++ C).length < 100000000000 →
    ∃ S, S.Perm (y :: (S1 ++ S2)) ∧ Srt S ∧ y03 (A.length : Nat) c K n (A ++ S1 ++ y :: S2 ++ C) ((A.length + S1.length : Nat) : Int) = K (A ++ S ++ C) (IntKind.i64.wrap (c + 1)) := by
  intro k
  induction k with
  | zero =>
    intro S1 S2 n h1 h2 h3 h4 hb
    obtain rfl : S1 = [] := List.length_eq_zero_iff.1 h1
    obtain ⟨n, rfl⟩ : ∃ m, n = m + 1 := ⟨n - 1, by omega⟩
    refine ⟨y :: S2, List.Perm.refl _, List.pairwise_cons.2 ⟨h4, by simpa using h3⟩, ?_⟩
    rw [y03]
    have e1 : decide (((A.length : Nat) : Int) < ((A.length + ([] : List Fct).length : Nat) : Int)) = false := by simp
    rw [e1, cond_false, Option.bind_some, cond_false, y0m]; simp
  | succ k ih =>
    intro S1 S2 n h1 h2 h3 h4 hb
    obtain ⟨X, x, rfl⟩ : ∃ X' x, S1 = X' ++ [x] := ⟨S1.dropLast, S1.getLast (by intro h; simp [h] at h1), (List.dropLast_concat_getLast _).symm⟩
    obtain ⟨n, rfl⟩ : ∃ m, n = m + 1 := ⟨n - 1, by omega⟩
    simp only [List.length_append, List.length_cons, List.length_nil] at hb h1
    have e1 : decide (((A.length : Nat) : Int) < ((A.length + (X ++ [x]).length : Nat) : Int)) = true := by simp; omega
    have e2 : IntKind.i64.wrap (((A.length + (X ++ [x]).length : Nat) : Int) - 1) = ((A.length + X.length : Nat) : Int) := by rw [wI (by simp; omega) (by simp; omega)]; simp; omega
    have i1 : idx (A ++ (X ++ [x]) ++ y :: S2 ++ C) ((A.length + (X ++ [x]).length : Nat) : Int) = some y := idx_at (A := A ++ X ++ [x]) (B := S2 ++ C) (x := y) (by simp) (by simp)
    have i2 : idx (A ++ (X ++ [x]) ++ y :: S2 ++ C) ((A.length + X.length : Nat) : Int) = some x := idx_at (A := A ++ X) (B := y :: S2 ++ C) (x := x) (by simp) (by simp)
    by_cases hc : y.var < x.var
    · obtain ⟨S, p1, p2, p3⟩ := ih X (x :: S2) n (by omega) (by omega) (by simpa using h3) (by
        intro s hs
        rcases List.mem_cons.1 hs with rfl | hs
        · exact Int.le_of_lt hc
        · exact h4 s hs) (by simp; omega)
      refine ⟨S, p1.trans (by simp), p2, ?_⟩
      rw [y03, e1, cond_true, i1, Option.bind_some, e2, i2, Option.bind_some, cmp_eq, Option.bind_some, cmp_lt, decide_eq_true hc, Option.bind_some, cond_true, Option.bind_some, Option.bind_some, Option.bind_some]
      rw [setL_at (A := A ++ X ++ [x]) (B := S2 ++ C) (x := y) (y := x) (by simp) (by simp), Option.bind_some]
      rw [idx_at (A := A ++ X) (B := x :: S2 ++ C) (x := x) (by simp) (by simp), Option.bind_some]
      rw [setL_at (A := A ++ X) (B := x :: S2 ++ C) (x := x) (y := y) (by simp) (by simp), Option.bind_some]
      rw [← p3]; simp
    · refine ⟨X ++ [x] ++ y :: S2, List.perm_middle, ?_, ?_⟩
      · obtain ⟨a1, a2, a3⟩ := List.pairwise_append.1 h3
        refine List.pairwise_append.2 ⟨a1, List.pairwise_cons.2 ⟨h4, a2⟩, fun u hu v hv => ?_⟩
        rcases List.mem_cons.1 hv with rfl | hv
        · have : u.var ≤ x.var := by
            rcases List.mem_append.1 hu with h | h
            · exact srt_l a1 u h
            · rw [List.mem_singleton.1 h]; exact Int.le_refl _
          exact Int.le_trans this (Int.not_lt.1 hc)
        · exact a3 u hu v hv
      · rw [y03, e1, cond_true, i1, Option.bind_some, e2, i2, Option.bind_some, cmp_eq, Option.bind_some, cmp_lt, decide_eq_false hc, Option.bind_some, cond_false, y0m]; simp
theorem ins_l1 (K : Nat) (A C : List Fct) (N : Nat) : ∀ (R S : List Fct) (n : Nat), R.length < n → S.length + R.length < K → S.length + R.length = N → Srt S → (A ++ S ++ R ++ C).length < 100000000000 →
    ∃ S', S'.Perm (S ++ R) ∧ Srt S' ∧ y00 K (A.length : Nat) ((A.length + N : Nat) : Int) n (A ++ S ++ R ++ C) ((A.length + S.length : Nat) : Int) = some (A ++ S' ++ C)
  | [], S, n, h1, hK, hN, hs, hb => by
    obtain ⟨n, rfl⟩ : ∃ m, n = m + 1 := ⟨n - 1, by omega⟩
    simp only [List.length_nil, Nat.add_zero] at hN
    refine ⟨S, by simp, hs, ?_⟩
    rw [y00]
    have e1 : decide (((A.length + S.length : Nat) : Int) < ((A.length + N : Nat) : Int)) = false := by simp; omega
    rw [e1, cond_false]; simp
  | y :: R, S, n, h1, hK, hN, hs, hb => by
    obtain ⟨n, rfl⟩ : ∃ m, n = m + 1 := ⟨n - 1, by omega⟩
    simp only [List.length_append, List.length_cons] at hb h1 hN hK
    obtain ⟨S1, p1, p2, p3⟩ := ins_l3 A (R ++ C) y (y00 K (A.length : Nat) ((A.length + N : Nat) : Int) n) ((A.length + S.length : Nat) : Int) S.length S [] K rfl (by omega) (by simpa using hs) (fun s h => by simp at h) (by simp; omega)
    have hl : S1.length = S.length + 1 := by rw [p1.length_eq]; simp
    obtain ⟨S', q1, q2, q3⟩ := ins_l1 K A C N R S1 n (by omega) (by omega) (by omega) p2 (by simp; omega)
    refine ⟨S', q1.trans ?_, q2, ?_⟩
    · have : (S1 ++ R).Perm ((y :: (S ++ [])) ++ R) := p1.append_right R
      refine this.trans ?_
      simp only [List.append_nil, List.cons_append]
      exact List.perm_middle.symm
    · rw [y00]
      have e1 : decide (((A.length + S.length : Nat) : Int) < ((A.length + N : Nat) : Int)) = true := by simp; omega
      have e2 : IntKind.i64.wrap (((A.length + S.length : Nat) : Int) + 1) = ((A.length + S1.length : Nat) : Int) := by rw [wI (by omega) (by omega)]; omega
      rw [e2] at p3
      rw [e1, cond_true, ← q3]
      simpa using p3
theorem ins_ok (K : Nat) (A S C : List Fct) (hK : S.length + 1 < K) (hb : (A ++ S ++ C).length < 100000000000) {a b : Int} (ha : a = (A.length : Nat)) (hb2 : b = ((A.length + S.length : Nat) : Int)) :
    ∃ S', S'.Perm S ∧ Srt S' ∧ y0h K (A ++ S ++ C) a b = some (A ++ S' ++ C) := by
  subst ha hb2
  simp only [List.length_append] at hb
  have e1 : IntKind.i64.wrap (((A.length : Nat) : Int) + 1) = ((A.length + 1 : Nat) : Int) := by rw [wI (by omega) (by omega)]; omega
  cases S with
  | nil =>
    obtain ⟨K, rfl⟩ : ∃ m, K = m + 1 := ⟨K - 1, by omega⟩
    refine ⟨[], List.Perm.refl _, List.Pairwise.nil, ?_⟩
    rw [y0h, e1, y00]
    have e2 : decide (((A.length + 1 : Nat) : Int) < ((A.length + ([] : List Fct).length : Nat) : Int)) = false := by simp; omega
    rw [e2, cond_false]
  | cons y R =>
    simp only [List.length_cons] at hK hb
    obtain ⟨S', p1, p2, p3⟩ := ins_l1 K A C (R.length + 1) R [y] K (by omega) (by simp; omega) (by simp; omega) (List.pairwise_singleton _ _) (by simp; omega)
    refine ⟨S', by simpa using p1, p2, ?_⟩
    rw [y0h, e1]
    simpa using p3
def SB (k : Nat) (l : List Fct) : Prop := ∀ q, Srt ((l.drop (q * k)).take k)
theorem sb_srt {k : Nat} {l : List Fct} (h : Srt l) : SB k l := fun q => (h.sublist (List.drop_sublist _ _)).sublist (List.take_sublist _ _)
theorem sb_nil (k : Nat) : SB k [] := sb_srt List.Pairwise.nil
theorem sb_app {k : Nat} {D R : List Fct} (hk : 0 < k) (h1 : SB k D) (h2 : SB k R) {c : Nat} (hd : D.length = c * k) : SB k (D ++ R) := by
  intro q
  by_cases hq : q < c
  · have : q * k + k ≤ D.length := by rw [hd]; have := Nat.mul_le_mul_right k hq; rw [Nat.succ_mul] at this; exact this
    have h3 : ((D ++ R).drop (q * k)).take k = (D.drop (q * k)).take k := by
      rw [List.drop_append_of_le_length (by omega), List.take_append_of_le_length (by rw [List.length_drop]; omega)]
    rw [h3]; exact h1 q
  · have h3 : (D ++ R).drop (q * k) = R.drop ((q - c) * k) := by
      have : q * k = D.length + (q - c) * k := by rw [hd, ← Nat.add_mul]; congr 1; omega
      rw [this, List.drop_append]; simp
    rw [h3]; exact h2 (q - c)
theorem sb_drop {k c : Nat} {l : List Fct} (h : SB k l) : SB k (l.drop (c * k)) := by
  intro q
  rw [List.drop_drop, ← Nat.add_mul]
  exact h (c + q)
theorem sb_take {k : Nat} {l : List Fct} (h : SB k l) : Srt (l.take k) := by have := h 0; simpa using this
theorem sb_all {k : Nat} {l : List Fct} (h : SB k l) (hl : l.length ≤ k) : Srt l := by
  have := sb_take h
  rwa [List.take_of_length_le hl] at this
theorem st_l4 (K : Nat) (KK : List Fct → Int → Option (List Fct)) (k L : Nat) (hk : 0 < k) (hkL : k < L) (hL : L < 10000000000) (hK : L + 10 < K) : ∀ (d c : Nat) (D R : List Fct) (n : Nat), R.length ≤ d → d < n → D.length + R.length = L → D.length = c * (2 * k) → SB (2 * k) D → SB k R →
    ∃ R', R'.Perm R ∧ SB (2 * k) (D ++ R') ∧ y0f K (L : Nat) (k : Nat) KK n (D ++ R) (D.length : Nat) ((D.length + 2 * k : Nat) : Int) = KK (D ++ R') ((2 * k : Nat) : Int) := by
  intro d
  induction d with
  | zero =>
    intro c D R n h1 h2 h3 h4 h5 h6
    obtain rfl : R = [] := List.length_eq_zero_iff.1 (by omega)
    obtain ⟨n, rfl⟩ : ∃ m, n = m + 1 := ⟨n - 1, by omega⟩
    simp only [List.length_nil, Nat.add_zero] at h3
    refine ⟨[], List.Perm.refl _, by simpa using h5, ?_⟩
    rw [y0f]
    have e1 : decide (((D.length + 2 * k : Nat) : Int) ≤ ((L : Nat) : Int)) = false := by simp; omega
    have e2 : IntKind.i64.wrap (((D.length : Nat) : Int) + ((k : Nat) : Int)) = ((D.length + k : Nat) : Int) := by rw [wI (by omega) (by omega)]; omega
    have e3 : decide (((D.length + k : Nat) : Int) < ((L : Nat) : Int)) = false := by simp; omega
    have e4 : IntKind.i64.wrap (((k : Nat) : Int) * 2) = ((2 * k : Nat) : Int) := by rw [wI (by omega) (by omega)]; omega
    rw [e1, cond_false, y0p, e2, e3, cond_false, y0g, e4]
  | succ d ih =>
    intro c D R n h1 h2 h3 h4 h5 h6
    obtain ⟨n, rfl⟩ : ∃ m, n = m + 1 := ⟨n - 1, by omega⟩
    rw [y0f]
    have e2 : IntKind.i64.wrap (((D.length : Nat) : Int) + ((k : Nat) : Int)) = ((D.length + k : Nat) : Int) := by rw [wI (by omega) (by omega)]; omega
    have e4 : IntKind.i64.wrap (((k : Nat) : Int) * 2) = ((2 * k : Nat) : Int) := by rw [wI (by omega) (by omega)]; omega
    have e5 : IntKind.i64.wrap (2 * ((k : Nat) : Int)) = ((2 * k : Nat) : Int) := by rw [wI (by omega) (by omega)]; omega
    by_cases hc : D.length + 2 * k ≤ L
    · have e1 : decide (((D.length + 2 * k : Nat) : Int) ≤ ((L : Nat) : Int)) = true := by simp; omega
      have hR1 : R = R.take k ++ R.drop k := (List.take_append_drop k R).symm
      have hR2 : R.drop k = (R.drop k).take k ++ R.drop (2 * k) := by
        rw [show 2 * k = k + k by omega, ← List.drop_drop]; exact (List.take_append_drop k _).symm
      have sX : Srt (R.take k) := sb_take h6
      have sY : Srt ((R.drop k).take k) := by have := h6 1; rwa [Nat.one_mul] at this
      have lX : (R.take k).length = k := by rw [List.length_take]; omega
      have lY : ((R.drop k).take k).length = k := by rw [List.length_take, List.length_drop]; omega
      have lZ : (R.drop (2 * k)).length = R.length - 2 * k := List.length_drop
      have hll : D ++ R = D ++ R.take k ++ (R.drop k).take k ++ R.drop (2 * k) := by
        have h7 : R = R.take k ++ ((R.drop k).take k ++ R.drop (2 * k)) := by rw [← hR2]; exact hR1
        exact (congrArg (fun z => D ++ z) h7).trans (by simp only [List.append_assoc])
      obtain ⟨M, m1, m2, m3⟩ := sym_ok K D (R.take k) ((R.drop k).take k) (R.drop (2 * k)) (by omega) (by omega) (by omega) sX sY (by rw [← hll]; simp; omega)
      rw [← hll, lX, lY] at m3
      have lM : M.length = 2 * k := by rw [m1.length_eq, List.length_append]; omega
      have sb1 : SB (2 * k) (D ++ M) := sb_app (by omega) h5 (sb_srt m2) h4
      have sb2 : SB k (R.drop (2 * k)) := sb_drop h6
      obtain ⟨R', r1, r2, r3⟩ := ih (c + 1) (D ++ M) (R.drop (2 * k)) n (by omega) (by omega) (by simp; omega) (by rw [List.length_append, lM, h4, Nat.add_mul c 1, Nat.one_mul]) sb1 sb2
      refine ⟨M ++ R', ?_, by simpa using r2, ?_⟩
      · have : (M ++ R').Perm ((R.take k ++ (R.drop k).take k) ++ R.drop (2 * k)) := m1.append r1
        rw [List.append_assoc, ← hR2, ← hR1] at this
        exact this
      · have e6 : IntKind.i64.wrap (((D.length + 2 * k : Nat) : Int) + ((2 * k : Nat) : Int)) = (((D ++ M).length + 2 * k : Nat) : Int) := by rw [wI (by omega) (by omega)]; simp; omega
        have e7 : ((D.length + 2 * k : Nat) : Int) = (((D ++ M).length : Nat) : Int) := by simp; omega
        have m4 : y05 K (D ++ R) (D.length : Nat) ((D.length + k : Nat) : Int) ((D.length + 2 * k : Nat) : Int) = some (D ++ M ++ R.drop (2 * k)) := by
          rw [← m3]; congr 1; omega
        rw [e1, cond_true, e2, m4, callG_of rfl (by simp; omega), Option.bind_some, e5, e6, e7, r3]; simp
    · have e1 : decide (((D.length + 2 * k : Nat) : Int) ≤ ((L : Nat) : Int)) = false := by simp; omega
      rw [e1, cond_false, y0p, e2]
      by_cases hc2 : D.length + k < L
      · have e3 : decide (((D.length + k : Nat) : Int) < ((L : Nat) : Int)) = true := by simp; omega
        have hR1 : R = R.take k ++ R.drop k := (List.take_append_drop k R).symm
        have sX : Srt (R.take k) := sb_take h6
        have lX : (R.take k).length = k := by rw [List.length_take]; omega
        have lY : (R.drop k).length = R.length - k := List.length_drop
        have sY : Srt (R.drop k) := sb_all (k := k) (by have := sb_drop (c := 1) h6; rwa [Nat.one_mul] at this) (by omega)
        have hll : D ++ R = D ++ R.take k ++ R.drop k ++ [] := (congrArg (fun z => D ++ z) hR1).trans (by simp only [List.append_assoc, List.append_nil])
        obtain ⟨M, m1, m2, m3⟩ := sym_ok K D (R.take k) (R.drop k) [] (by omega) (by omega) (by omega) sX sY (by rw [← hll]; simp; omega)
        rw [← hll, lX] at m3
        have lM : M.length = R.length := by rw [m1.length_eq, ← hR1]
        have m4 : y05 K (D ++ R) (D.length : Nat) ((D.length + k : Nat) : Int) ((L : Nat) : Int) = some (D ++ M ++ []) := by
          rw [← m3]; congr 1; omega
        refine ⟨M, by rw [← hR1] at m1; exact m1, sb_app (by omega) h5 (sb_srt m2) h4, ?_⟩
        rw [e3, cond_true, m4, callG_of rfl (by simp; omega), Option.bind_some, y0g, e4]; simp
      · have e3 : decide (((D.length + k : Nat) : Int) < ((L : Nat) : Int)) = false := by simp; omega
        refine ⟨R, List.Perm.refl _, sb_app (by omega) h5 (sb_srt (sb_all h6 (by omega))) h4, ?_⟩
        rw [e3, cond_false, y0g, e4]
theorem st_l1 (K L : Nat) (hL : L < 10000000000) (hK : L + 10 < K) : ∀ (d k : Nat) (l : List Fct) (n : Nat), L ≤ k + d → d < n → 0 < k → l.length = L → SB k l →
    ∃ r, r.Perm l ∧ Srt r ∧ y01 K (L : Nat) n l (k : Nat) = some r := by
  intro d
  induction d with
  | zero =>
    intro k l n h1 h2 h3 h4 h5
    obtain ⟨n, rfl⟩ : ∃ m, n = m + 1 := ⟨n - 1, by omega⟩
    refine ⟨l, List.Perm.refl _, sb_all h5 (by omega), ?_⟩
    rw [y01]
    have e1 : decide (((k : Nat) : Int) < ((L : Nat) : Int)) = false := by simp; omega
    rw [e1, cond_false]
  | succ d ih =>
    intro k l n h1 h2 h3 h4 h5
    obtain ⟨n, rfl⟩ : ∃ m, n = m + 1 := ⟨n - 1, by omega⟩
    rw [y01]
    by_cases hc : k < L
    · have e1 : decide (((k : Nat) : Int) < ((L : Nat) : Int)) = true := by simp; omega
      have e2 : IntKind.i64.wrap (2 * ((k : Nat) : Int)) = ((2 * k : Nat) : Int) := by rw [wI (by omega) (by omega)]; omega
      obtain ⟨R', p1, p2, p3⟩ := st_l4 K (y01 K (L : Nat) n) k L h3 hc hL hK L 0 [] l K (by omega) (by omega) (by simp; omega) (by simp) (sb_nil _) h5
      have lR : R'.length = L := by rw [p1.length_eq, h4]
      obtain ⟨r, q1, q2, q3⟩ := ih (2 * k) ([] ++ R') n (by omega) (by omega) (by omega) (by simpa using lR) p2
      refine ⟨r, q1.trans p1, q2, ?_⟩
      rw [e1, cond_true, e2, ← q3, ← p3]; simp
    · have e1 : decide (((k : Nat) : Int) < ((L : Nat) : Int)) = false := by simp; omega
      rw [e1, cond_false]
      exact ⟨l, List.Perm.refl _, sb_all h5 (by omega), rfl⟩
theorem st_l6 (K L : Nat) (hL : L < 10000000000) (hK : L + 10 < K) : ∀ (d c : Nat) (D R : List Fct) (n : Nat), R.length ≤ d → d < n → D.length + R.length = L → D.length = c * 20 → SB 20 D →
    ∃ r, r.Perm (D ++ R) ∧ Srt r ∧ y0d K (L : Nat) n (D ++ R) (D.length : Nat) ((D.length + 20 : Nat) : Int) = some r := by
  intro d
  have last : ∀ (c : Nat) (D R : List Fct), D.length + R.length = L → D.length = c * 20 → SB 20 D → ∃ r, r.Perm (D ++ R) ∧ Srt r ∧ y0q K (L : Nat) (D ++ R) (D.length : Nat) = some r := by
    intro c D R h3 h4 h5
    obtain ⟨S, p1, p2, p3⟩ := ins_ok K D R [] (by omega) (by simp; omega) (a := (D.length : Nat)) (b := (L : Nat)) rfl (by omega)
    simp only [List.append_nil] at p3
    have lS : S.length = R.length := p1.length_eq
    obtain ⟨r, q1, q2, q3⟩ := st_l1 K L hL hK L 20 (D ++ S) K (by omega) (by omega) (by omega) (by simp; omega) (sb_app (by omega) h5 (sb_srt p2) h4)
    refine ⟨r, q1.trans (p1.append_left D), q2, ?_⟩
    rw [y0q, callG_of p3 (by simp; omega), Option.bind_some]
    exact q3
  induction d with
  | zero =>
    intro c D R n h1 h2 h3 h4 h5
    obtain ⟨n, rfl⟩ : ∃ m, n = m + 1 := ⟨n - 1, by omega⟩
    rw [y0d]
    have e1 : decide (((D.length + 20 : Nat) : Int) ≤ ((L : Nat) : Int)) = false := by simp; omega
    rw [e1, cond_false]
    exact last c D R h3 h4 h5
  | succ d ih =>
    intro c D R n h1 h2 h3 h4 h5
    obtain ⟨n, rfl⟩ : ∃ m, n = m + 1 := ⟨n - 1, by omega⟩
    rw [y0d]
    by_cases hc : D.length + 20 ≤ L
    · have e1 : decide (((D.length + 20 : Nat) : Int) ≤ ((L : Nat) : Int)) = true := by simp; omega
      have lX : (R.take 20).length = 20 := by rw [List.length_take]; omega
      have lY : (R.drop 20).length = R.length - 20 := List.length_drop
      have hR1 : R = R.take 20 ++ R.drop 20 := (List.take_append_drop 20 R).symm
      have hll : D ++ R = D ++ R.take 20 ++ R.drop 20 := (congrArg (fun z => D ++ z) hR1).trans (by simp only [List.append_assoc])
      obtain ⟨S, p1, p2, p3⟩ := ins_ok K D (R.take 20) (R.drop 20) (by omega) (by rw [← hll]; simp; omega) (a := (D.length : Nat)) (b := ((D.length + 20 : Nat) : Int)) rfl (by omega)
      rw [← hll] at p3
      have lS : S.length = 20 := by rw [p1.length_eq, lX]
      obtain ⟨r, q1, q2, q3⟩ := ih (c + 1) (D ++ S) (R.drop 20) n (by omega) (by omega) (by simp; omega) (by simp; omega) (sb_app (by omega) h5 (sb_srt p2) h4)
      refine ⟨r, q1.trans ?_, q2, ?_⟩
      · rw [hll]; exact (p1.append_left D).append_right _
      · have e2 : IntKind.i64.wrap (((D.length + 20 : Nat) : Int) + 20) = (((D ++ S).length + 20 : Nat) : Int) := by rw [wI (by omega) (by omega)]; simp; omega
        have e3 : ((D.length + 20 : Nat) : Int) = (((D ++ S).length : Nat) : Int) := by simp; omega
        rw [e1, cond_true, callG_of p3 (by simp; omega), Option.bind_some, e2, e3]
        exact q3
    · have e1 : decide (((D.length + 20 : Nat) : Int) ≤ ((L : Nat) : Int)) = false := by simp; omega
      rw [e1, cond_false]
      exact last c D R h3 h4 h5
theorem sort_ok (m : List Fct) (n : Nat) (hm : m.length < 10000000000) (hn : m.length + 10 < n) : ∃ r, y0b n m = some r ∧ r.Perm m ∧ Srt r := by
  obtain ⟨r, p1, p2, p3⟩ := st_l6 n m.length hm hn m.length 0 [] m n (by omega) (by omega) (by simp) (by simp) (sb_nil _)
  rw [List.nil_append] at p1
  refine ⟨r, ?_, p1, p2⟩
  have h : y14 n m ((m.length : Nat) : Int) = some r := by
    rw [y14, ← p3]; simp
  rw [y0b, callG_of h p1.length_eq, Option.bind_some]
end Go.Ev.Seat
namespace Go.Ev.Seat
set_option linter.unusedVariables false
set_option linter.unusedSimpArgs false
open Go Go.Ev
set_option maxRecDepth 20000
attribute [local irreducible] pcall callF
namespace FcS
theorem encFct_ws (l : List Fct) : (l.map encFct).all (fun y => decide (y.width = 2)) = true := by
  rw [List.all_eq_true]; intro y hy; obtain ⟨x, _, rfl⟩ := List.mem_map.1 hy; rfl
def encFL (l : List Fct) : AVal := .lst (l.map encFct) false
theorem encFL_get {ls : List (List Fct)} {i : Nat} {x : List Fct} (h : ls[i]? = some x) : (ls.map encFL)[((i : Nat) : Int).toNat]? = some (encFL x) := by rw [Int.toNat_natCast, List.getElem?_map, h]; rfl
theorem fgrow_c (n : Nat) (k : Nat) (H : Heap) (h0 : 0 < k) (hk : k ≤ 1000000) : callF (tabOf tabL) (n + 1) 74 [.lst [] true, .int .i64 (k : Nat)] H = some (.ok (.gl (H.length + 1) 0), H ++ [.dead, .grow 2 [] none]) := by
  have e1 : IntKind.i64.wrap (0 - 0) = 0 := by decide
  have e2 : IntKind.i64.wrap ((k : Int) - 0) = k := by rw [kw_i64_id (by omega) (by omega)]; omega
  refine callF_fin t74 ?_
  refine WL_seq ?_
  refine WL_reg ?_
  refine O_p rfl rfl rfl ?_
  refine WO_nil ?_
  refine WL_seq ?_
  apply WLp
  · (repeat (first | exact rzz | apply rcc rfl | apply rnn rfl))
  refine WL_seq ?_
  refine WL_seq ?_
  refine WL_reg ?_
  refine O_p rfl rfl rfl ?_
  refine O_p rfl rfl rfl ?_
  refine WO_nil ?_
  refine WL_seq ?_
  apply WLp
  · (repeat (first | exact rzz | apply rcc rfl | apply rnn rfl))
  refine WL_cond rfl (fun h6 => ?_) (fun h6 => ?_)
  · skip
    simp at h6; omega
  · skip
    refine WL_skip ?_
    refine WL_seq ?_
    apply WLp
    · (repeat (first | exact rzz | apply rcc rfl | apply rnn rfl))
    refine WL_seq ?_
    refine WL_seq ?_
    refine WL_reg ?_
    refine O_p rfl rfl rfl ?_
    refine O_p rfl rfl rfl ?_
    refine O_h rfl rfl rfl rfl ?_
    refine O_p rfl rfl rfl ?_
    refine O_h rfl rfl rfl rfl ?_
    refine O_p rfl rfl rfl ?_
    refine O_v (.int .i64 (k : Nat)) rfl rfl rfl (by show AVal.int _ (IntKind.i64.wrap (_ - IntKind.i64.wrap (0 - 0))) = _; rw [e1, e2]) ?_
    refine O_p rfl rfl rfl ?_
    refine WO_nil ?_
    refine WL_seq ?_
    apply WLp
    · (repeat (first | exact rzz | apply rcc rfl | apply rnn rfl))
    refine WL_seq ?_
    refine WL_reg ?_
    refine O_p rfl rfl rfl ?_
    refine O_p rfl rfl rfl ?_
    refine WO_nil ?_
    refine WL_seq ?_
    apply WLp
    · (repeat (first | exact rzz | apply rcc rfl | apply rnn rfl))
    refine WL_cond rfl (fun h16 => ?_) (fun h16 => ?_)
    · skip
      refine WL_reg ?_
      refine O_p rfl rfl rfl ?_
      refine O_p rfl rfl rfl ?_
      refine O_h rfl rfl rfl rfl ?_
      refine O_h (v := .lst [] true) rfl rfl rfl rfl ?_
      refine O_p rfl rfl rfl ?_
      refine O_h rfl rfl rfl (appz_ev rfl rfl h0 (by omega) rfl (by omega)) ?_
      refine O_p rfl rfl rfl ?_
      refine O_h rfl rfl rfl rfl ?_
      refine O_h rfl rfl rfl (cut_ev rfl rfl (by simp)) ?_
      refine O_p rfl rfl rfl ?_
      refine WO_nil ?_
      refine WL_seq ?_
      apply WLp
      · (repeat (first | exact rzz | apply rcc rfl | apply rnn rfl))
      refine WL_seq ?_
      refine WL_reg ?_
      refine O_p rfl rfl rfl ?_
      refine O_p rfl rfl rfl ?_
      refine WO_nil ?_
      refine WL_ret ?_
      exact ⟨_, rfl, rfl, rfl⟩
    · skip
      simp at h16; omega
theorem fconcat_c (n : Nat) (ls : List (List Fct)) (h0 : 0 < ls.flatten.length) (hk : ls.flatten.length ≤ 1000000) (hn : ls.length < n) (hm : ls.length ≤ 1000000) :
    pcall (tabOf tabL) (n + 2) 39 [.lst (ls.map encFL) false] = some (.ok (.lst (ls.flatten.map encFct) false)) := by
  refine pcall_fin t39 ?_
  refine WL_seq ?_
  refine WL_reg ?_
  refine O_p rfl rfl rfl ?_
  refine WO_nil ?_
  refine WL_seq ?_
  apply WLp
  · (repeat (first | exact rzz | apply rcc rfl | apply rnn rfl))
  refine WL_seq ?_
  refine WL_reg ?_
  refine O_p rfl rfl rfl ?_
  refine WO_nil ?_
  refine WL_seq ?_
  apply WLp
  · (repeat (first | exact rzz | apply rcc rfl | apply rnn rfl))
  refine WL_seq ?_
  refine WL_seq ?_
  refine WL_reg ?_
  refine O_p rfl rfl rfl ?_
  refine O_h rfl rfl rfl rfl ?_
  refine O_p rfl rfl rfl ?_
  refine WO_nil ?_
  refine WL_seq ?_
  apply WLp
  · (repeat (first | exact rzz | apply rcc rfl | apply rnn rfl))
  refine WL_block ?_
  apply WL_forc (α := Nat × Nat) (fun s => [(3, .int .i64 (s.1 : Nat)), (11, .int .i64 (s.2 : Nat))]) (fun s => s.2 ≤ ls.length ∧ s.1 + (ls.drop s.2).flatten.length = ls.flatten.length) (fun s => ls.length - s.2) ((0, 0)) (he := ?he) (hP := ?hP) (hk := ?hk) (round := ?round)
  case he =>
    (repeat (first | exact rzz | apply rcc rfl | apply rnn rfl))
  case hP =>
    exact ⟨by simp, by simp⟩
  case hk =>
    show ls.length - 0 < n + 1; omega
  case round =>
    rintro ⟨c, i⟩ ⟨hi, hs⟩
    simp only at hi hs
    dsimp only [List.cons_append, List.nil_append] at *
    refine WL_seq ?_
    refine WL_reg ?_
    refine O_p rfl rfl rfl ?_
    refine WO_nil ?_
    refine WL_seq ?_
    apply WLp
    · (repeat (first | exact rzz | apply rcc rfl | apply rnn rfl))
    refine WL_seq ?_
    refine WL_cond rfl (fun h12 => ?_) (fun h12 => ?_)
    · skip
      simp at h12
      obtain ⟨x, hx⟩ : ∃ x, (ls)[i]? = some x := ⟨_, List.getElem?_eq_getElem (by omega)⟩
      have hmx := List.mem_of_getElem? hx
      have hg := drop_of hx
      refine WL_skip ?_
      refine WL_seq ?_
      apply WLp
      · (repeat (first | exact rzz | apply rcc rfl | apply rnn rfl))
      refine WL_seq ?_
      refine WL_block ?_
      refine WL_seq ?_
      refine WL_reg ?_
      refine O_ia rfl rfl (Int.natCast_nonneg _) (encFL_get hx) rfl rfl ?_
      refine O_h rfl rfl rfl rfl ?_
      refine O_p rfl rfl rfl ?_
      refine WO_nil ?_
      refine WL_seq ?_
      apply WLp
      · (repeat (first | exact rzz | apply rcc rfl | apply rnn rfl))
      refine WL_seq ?_
      refine WL_reg ?_
      refine O_p rfl rfl rfl ?_
      refine O_p rfl rfl rfl ?_
      refine O_h rfl rfl rfl rfl ?_
      refine O_p rfl rfl rfl ?_
      refine O_p rfl rfl rfl ?_
      refine WO_nil ?_
      refine WL_seq ?_
      apply WLp
      · (repeat (first | exact rzz | apply rcc rfl | apply rnn rfl))
      refine WL_seq ?_
      refine WL_reg ?_
      refine O_p rfl rfl rfl ?_
      refine O_p rfl rfl rfl ?_
      refine WO_nil ?_
      refine WL_seq ?_
      apply WLp
      · (repeat (first | exact rzz | apply rcc rfl | apply rnn rfl))
      refine WL_cond rfl (fun h20 => ?_) (fun h20 => ?_)
      · skip
        rw [hg] at hs
        simp only [List.flatten_cons, List.length_append] at hs
        have := wrap_add (i := c) (j := x.length) (by omega)
        simp at h20; omega
      · skip
        refine WL_skip ?_
        refine WL_nil ?_
        refine Blk_norm (?_ : WL _ _ _ _ _)
        refine WL_seq ?_
        apply WLp
        · (repeat (first | exact rzz | apply rcc rfl | apply rnn rfl))
        refine WL_reg ?_
        refine O_p rfl rfl rfl ?_
        refine O_p rfl rfl rfl ?_
        refine WO_nil ?_
        refine WL_nil ?_
        rw [hg] at hs
        simp only [List.flatten_cons, List.length_append] at hs
        refine RndC_norm ((c + x.length, i + 1)) (by refine ⟨?_, ?_⟩ <;> simp only <;> omega) (by show _ < _; omega) ?_ rfl
        · rw [show IntKind.i64.wrap ((c : Int) + (((x.map encFct).length : Nat) : Int)) = ((c + x.length : Nat) : Int) by rw [List.length_map]; exact wrap_add (by omega), wrap_succ (by omega)]; (repeat (first | exact rzz | apply rcc rfl | apply rnn rfl))
    · skip
      have hq : c = ls.flatten.length := by
        simp at h12
        rw [List.drop_eq_nil_of_le (by omega)] at hs; simpa using hs
      refine WL_exit ?_
      refine RndC_exit ?_
      refine Blk_exit (?_ : WL _ _ _ _ _)
      refine WL_seq ?_
      apply WLp
      · (repeat (first | exact rzz | apply rcc rfl | apply rnn rfl))
      refine WL_seq ?_
      refine WL_reg ?_
      refine O_p rfl rfl rfl ?_
      refine O_c 74 rfl rfl (callA_raw (by rw [hq]; exact fgrow_c n _ _ h0 hk) rfl) ?_
      refine O_p rfl rfl rfl ?_
      refine WO_nil ?_
      refine WL_seq ?_
      apply WLp
      · (repeat (first | exact rzz | apply rcc rfl | apply rnn rfl))
      refine WL_seq ?_
      refine WL_seq ?_
      refine WL_reg ?_
      refine O_p rfl rfl rfl ?_
      refine O_h rfl rfl rfl rfl ?_
      refine O_p rfl rfl rfl ?_
      refine WO_nil ?_
      refine WL_seq ?_
      apply WLp
      · (repeat (first | exact rzz | apply rcc rfl | apply rnn rfl))
      refine WL_block ?_
      refine WL_seq ?_
      refine WL_own rfl ?_
      apply WL_forv (hc := [.dead]) (α := Nat × List Fct) (fun s => [(6, .gl 1 s.2.length), (27, .int .i64 (s.1 : Nat))]) (fun s => [.grow 2 (s.2.map encFct) none]) (fun s => s.1 ≤ ls.length ∧ s.2 ++ (ls.drop s.1).flatten = ls.flatten) (fun s => ls.length - s.1) ((0, [])) (he := ?he) (hh := ?hh) (hP := ?hP) (hk := ?hk) (round := ?round)
      case he =>
        (repeat (first | exact rzz | apply rcc rfl | apply rnn rfl))
      case hh =>
        rfl
      case hP =>
        exact ⟨by simp, by simp⟩
      case hk =>
        show ls.length - 0 < n + 1; omega
      case round =>
        rintro ⟨i, xs⟩ ⟨hi, hs⟩
        simp only at hi hs
        dsimp only [List.cons_append, List.nil_append] at *
        refine WL_seq ?_
        refine WL_reg ?_
        refine O_p rfl rfl rfl ?_
        refine WO_nil ?_
        refine WL_seq ?_
        apply WLp
        · (repeat (first | exact rzz | apply rcc rfl | apply rnn rfl))
        refine WL_seq ?_
        refine WL_cond rfl (fun h28 => ?_) (fun h28 => ?_)
        · skip
          simp at h28
          obtain ⟨x, hx⟩ : ∃ x, (ls)[i]? = some x := ⟨_, List.getElem?_eq_getElem (by omega)⟩
          have hmx := List.mem_of_getElem? hx
          have hg := drop_of hx
          refine WL_skip ?_
          refine WL_seq ?_
          apply WLp
          · (repeat (first | exact rzz | apply rcc rfl | apply rnn rfl))
          refine WL_seq ?_
          refine WL_block ?_
          refine WL_seq ?_
          refine WL_reg ?_
          refine O_ia rfl rfl (Int.natCast_nonneg _) (encFL_get hx) rfl rfl ?_
          refine O_h rfl rfl rfl rfl ?_
          refine O_p rfl rfl rfl ?_
          refine WO_nil ?_
          refine WL_seq ?_
          apply WLp
          · (repeat (first | exact rzz | apply rcc rfl | apply rnn rfl))
          refine WL_reg ?_
          refine O_p rfl rfl rfl ?_
          refine O_p rfl rfl rfl ?_
          rw [hg] at hs
          have hlen : xs.length + x.length ≤ 1000000 := by have := congrArg List.length hs; simp at this hk; omega
          refine O_appL rfl rfl rfl (by simp) (encFct_ws _) (encFct_ws _) (by simp; omega) rfl ?_
          refine O_p rfl rfl rfl ?_
          refine WO_nil ?_
          refine WL_nil ?_
          refine Blk_norm (?_ : WL _ _ _ _ _)
          refine WL_seq ?_
          apply WLp
          · (repeat (first | exact rzz | apply rcc rfl | apply rnn rfl))
          refine WL_reg ?_
          refine O_p rfl rfl rfl ?_
          refine O_p rfl rfl rfl ?_
          refine WO_nil ?_
          refine WL_nil ?_
          refine RndV_norm ((i + 1, xs ++ x)) (by refine ⟨by simp only; omega, ?_⟩; simp only; rw [← hs]; simp) (by show _ < _; omega) ?_ ?_
          · rw [wrap_succ (by omega), show (xs.map encFct).length + (x.map encFct).length = (xs ++ x).length by simp]; (repeat (first | exact rzz | apply rcc rfl | apply rnn rfl))
          · show trunc _ _ [ABlock.dead, ABlock.grow 2 (xs.map encFct ++ x.map encFct) none] = _; rw [← List.map_append]; rfl
        · skip
          have hr : ls.flatten = xs := by
            simp at h28
            rw [List.drop_eq_nil_of_le (by omega)] at hs; simpa using hs.symm
          refine WL_exit ?_
          refine RndV_exit ?_
          refine Blk_exit (?_ : WL _ _ _ _ _)
          refine WL_seq ?_
          apply WLp
          · (repeat (first | exact rzz | apply rcc rfl | apply rnn rfl))
          refine WL_seq ?_
          refine WL_reg ?_
          refine O_p rfl rfl rfl ?_
          refine O_p rfl rfl rfl ?_
          refine WO_nil ?_
          refine WL_ret ?_
          exact ⟨_, rfl, .lst (xs.map encFct) false, by simp [oneOr, shutR, growAt], by rw [hr]⟩
theorem y8a (n : Nat) : pcall (tabOf tabL) (n + 20) 39 [.lst [.lst [] false, .lst [] false] false] = some (.ok (.lst [] false)) := by kernel_rfl
theorem fconcat2_c (n : Nat) (a b : List Fct) (h : a.length + b.length ≤ 1000000) : pcall (tabOf tabL) (n + 20) 39 [.lst [.lst (a.map encFct) false, .lst (b.map encFct) false] false] = some (.ok (.lst ((a ++ b).map encFct) false)) := by
  rcases Nat.eq_zero_or_pos (a.length + b.length) with h0 | h0
  · obtain rfl : a = [] := List.length_eq_zero_iff.1 (by omega)
    obtain rfl : b = [] := List.length_eq_zero_iff.1 (by omega)
    exact y8a n
  · have := fconcat_c (n + 18) [a, b] (by simpa using h0) (by simpa using h) (by simp) (by simp)
    simpa [encFL] using this
end FcS
def oConcat (l : List (List Fct)) : Option (List Fct) := match l with
  | [a, b] => if a.length + b.length ≤ 1000000 then some (a ++ b) else none
  | _ => none
theorem y8o {l : List (List Fct)} {r : List Fct} (h : oConcat l = some r) : PRes (tabOf tabL) 39 [.lst (l.map (encS encFct)) false] (.lst (r.map encFct) false) := by
  unfold oConcat at h
  split at h
  · split at h
    · cases h
      exact .of_le 20 fun n => FcS.fconcat2_c n _ _ (by assumption)
    · cases h
  · cases h
end Go.Ev.Seat
