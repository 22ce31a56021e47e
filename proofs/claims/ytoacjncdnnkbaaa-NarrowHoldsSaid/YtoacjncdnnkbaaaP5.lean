/-
  Part 5 of a proof: NarrowHolds: for every input the law returns true, and what it was given reads behind the call as before. No conditions.
-/
import Derived.Test.YtoacjncdnnkbaaaP4
namespace Go.Ev.Seat
set_option linter.unusedVariables false
set_option linter.unusedSimpArgs false
open Go Go.Ev
set_option maxRecDepth 20000
attribute [local irreducible] pcall callF
noncomputable def y2n (l156 : List Fct) (a157 : Int) : Option Fts :=
  ((tailL l156 a157).bind fun k158 => ((clrL l156 k158 (Fct.mk 0 0)).bind fun l159 => (cond (!List.isEmpty l159) ((subL l159 0 a157).bind fun l160 => some (Fts.mk false l160)) none)))
noncomputable def y19 : Nat → (List Fct) → Int → Int → Option Fts
  | 0, _, _, _ => none
  | m6 + 1, l170, a171, a172 => (cond (decide (a172 < ((List.length l170 : Nat) : Int))) ((idx l170 a172).bind fun e188 => ((y1a e188).bind fun r189 => (cond (!r189) ((idx l170 a171).bind fun e190 => ((setL l170 a171 e188).bind fun l191 => (y19 m6) l191 (IntKind.wrap .i64 (a171 + 1)) (IntKind.wrap .i64 (a172 + 1)))) ((y19 m6) l170 a171 (IntKind.wrap .i64 (a172 + 1)))))) (y2n l170 a171))
noncomputable def y1q (n : Nat) (l56 : List Fct) (a128 : Int) : Option Fts :=
  (cond (decide (a128 = (-1))) (some (Fts.mk false l56)) (y19 n l56 a128 (IntKind.wrap .i64 (a128 + 1))))
noncomputable def y2p (n : Nat) (l56 : List Fct) : Option Fts :=
  y1q n l56 (-1)
noncomputable def y18 (n : Nat) (l56 : List Fct) : List Fct → Nat → Option Fts
  | [], _ => y2p n l56
  | y223 :: rest225, i224 => ((idx l56 ((i224 : Nat) : Int)).bind fun e228 => ((y1a e228).bind fun r229 => (cond r229 (y1q n l56 ((i224 : Nat) : Int)) ((y18 n l56 rest225 (i224 + 1))))))
noncomputable def y1r (n : Nat) (l56 : List Fct) : Option Fts :=
  (cond (okLen l56) (y18 n l56 l56 0) none)
noncomputable def y1y (K9 : (List Fct) → Option Fts) (l278 : List Fct) : Option Fts :=
  K9 l278
noncomputable def y0z (n : Nat) (l6 : List Fct) : List Fct → Nat → (List Fct) → Option Fts
  | [], _, l245 => y1r n l245
  | y263 :: rest265, i264, l245 => ((idx l6 ((i264 : Nat) : Int)).bind fun e279 => ((cond (decide (0 < ((List.length l245 : Nat) : Int))) (((idx l245 (IntKind.wrap .i64 (((List.length l245 : Nat) : Int) - 1))).bind fun e285 => some (decide (e285.var = e279.var)))) (some false)).bind fun v286 => (cond v286 ((idx l245 (IntKind.wrap .i64 (((List.length l245 : Nat) : Int) - 1))).bind fun e287 => ((idx l245 (IntKind.wrap .i64 (((List.length l245 : Nat) : Int) - 1))).bind fun e288 => ((setL l245 (IntKind.wrap .i64 (((List.length l245 : Nat) : Int) - 1)) (Fct.mk e288.var (andB .i64 e287.tags (andB .i64 e279.tags 255)))).bind fun l289 => y1y (y0z n l6 rest265 (i264 + 1)) l289))) ((catL l245 [(Fct.mk e279.var (andB .i64 e279.tags 255))]).bind fun l290 => y1y (y0z n l6 rest265 (i264 + 1)) l290))))
noncomputable def y2q (n : Nat) (r3 : List Fct) : Option Fts :=
  ((callG (y0b n r3) r3).bind fun l6 => (cond (okLen r3) (y0z n l6 r3 0 []) none))
noncomputable def y2y (n : Nat) (a1 : Fts) (b2 : Fts) : Option Fts :=
  (cond (a1.never || b2.never) (some (Fts.mk true [])) ((oConcat [a1.l, b2.l]).bind fun r3 => (cond (okLen r3) (y2q n r3) none)))
theorem y46 {n : Nat} {a1 : Fts} {b2 : Fts} {r : Fts} (hr : y2y n a1 b2 = some r) : PRes (tabOf tabL) 11 [.agg (cFts a1), .agg (cFts b2)] (.agg (cFts r)) := by
  refine pres_fin t11 ?_
  unfold y2y at hr
  refine L_seq ?_
  refine L_stmt ?_
  refine L_reg ?_
  refine G_n (B := .cells [.bool a1.never, .lst (List.map encFct a1.l) false]) rfl rfl rfl ?_
  refine G_n (B := .cells [.bool b2.never, .lst (List.map encFct b2.l) false]) rfl rfl rfl ?_
  refine G_n (B := .cells [.bool false, .lst [] true]) rfl rfl rfl ?_
  refine G_nil ?_
  refine L_nil ?_
  refine Sm_norm (e2 := [(2, .ptr 0 0), (3, .ptr 1 0), (4, .ptr 2 0)]) (H1 := [.cells [.bool a1.never, .lst (List.map encFct a1.l) false], .cells [.bool b2.never, .lst (List.map encFct b2.l) false], .cells [.bool false, .lst [] true]]) (H2 := [.cells [.bool a1.never, .lst (List.map encFct a1.l) false], .cells [.bool b2.never, .lst (List.map encFct b2.l) false], .cells [.bool false, .lst [] true]]) rfl (by repeat (first | exact rzz | apply rcc rfl | apply rnn rfl)) rfl (?_ : GL _ _ _ _ _)
  refine L_seq ?_
  refine L_stmt ?_
  refine L_seq ?_
  refine L_stmt ?_
  refine L_reg ?_
  refine G_p rfl rfl rfl ?_
  refine G_h rfl rfl rfl (fun _ => rfl) ?_
  refine G_p rfl rfl rfl ?_
  refine G_or (f := b2.never) [_, _] rfl rfl ?_ ?_
  · intro hb7
    refine G_p rfl rfl rfl ?_
    refine G_h rfl rfl rfl (fun _ => rfl) ?_
    exact G_nil (L_nil ⟨rfl, rfl, rfl⟩)
  · intro vs hvs
    obtain ⟨u8, u9, rfl⟩ := len2 hvs
    dsimp only [junk]
    refine G_nil ?_
    refine L_nil ?_
    refine Sm_norm (e2 := [(2, .ptr 0 0), (3, .ptr 1 0), (4, .ptr 2 0), (10, .bool (a1.never || b2.never))]) (H1 := [.cells [.bool a1.never, .lst (List.map encFct a1.l) false], .cells [.bool b2.never, .lst (List.map encFct b2.l) false], .cells [.bool false, .lst [] true]]) (H2 := [.cells [.bool a1.never, .lst (List.map encFct a1.l) false], .cells [.bool b2.never, .lst (List.map encFct b2.l) false], .cells [.bool false, .lst [] true]]) rfl (by repeat (first | exact rzz | apply rcc rfl | apply rnn rfl)) rfl (?_ : GL _ _ _ _ _)
    rcases cond_s hr with ⟨hc10, hr⟩ | ⟨hc10, hr⟩
    · refine L_T rfl hc10 ?_
      refine L_seq ?_
      refine L_reg ?_
      refine G_p (v := .agg [.bool true, .lst [] true]) rfl rfl rfl ?_
      refine G_hn (H' := [.cells [.bool a1.never, .lst (List.map encFct a1.l) false], .cells [.bool b2.never, .lst (List.map encFct b2.l) false], .cells [.bool true, .lst [] true]]) rfl rfl rfl (fun _ => rfl) ?_
      refine G_nil ?_
      refine L_ret ?_
      refine Sm_ret ?_
      have hr := some_s hr
      subst hr
      exact ⟨_, rfl, _, rfl, rfl⟩
    · refine L_F rfl hc10 ?_
      refine L_skip ?_
      refine L_nil ?_
      refine Sm_norm (e2 := [(2, .ptr 0 0), (3, .ptr 1 0), (4, .ptr 2 0)]) (H1 := [.cells [.bool a1.never, .lst (List.map encFct a1.l) false], .cells [.bool b2.never, .lst (List.map encFct b2.l) false], .cells [.bool false, .lst [] true]]) (H2 := [.cells [.bool a1.never, .lst (List.map encFct a1.l) false], .cells [.bool b2.never, .lst (List.map encFct b2.l) false], .cells [.bool false, .lst [] true]]) rfl (by repeat (first | exact rzz | apply rcc rfl | apply rnn rfl)) rfl (?_ : GL _ _ _ _ _)
      refine L_seq ?_
      refine L_reg ?_
      refine G_p rfl rfl rfl ?_
      refine G_h (v := .lst (List.map encFct a1.l) false) rfl rfl rfl (fun _ => rfl) ?_
      refine G_p rfl rfl rfl ?_
      refine G_h (v := .lst (List.map encFct b2.l) false) rfl rfl rfl (fun _ => rfl) ?_
      refine G_h (v := .lst (List.map (encS encFct) [a1.l, b2.l]) true) rfl rfl rfl (fun _ => rfl) ?_
      obtain ⟨r3, hr3, hr⟩ := bind_s hr
      refine G_c 39 rfl rfl (CA_of (as := [.lst (List.map (encS encFct) [a1.l, b2.l]) false]) rfl (y8o hr3)) ?_
      refine G_cx 38 rfl rfl (ca_finx t38 (Or.inl rfl) ?_)
      refine L_seq ?_
      refine L_stmt ?_
      refine L_reg ?_
      refine G_p (v := .lst [] true) rfl rfl rfl ?_
      refine G_nil ?_
      refine L_nil ?_
      refine Sm_norm (e2 := [(0, .lst (List.map encFct r3) false)]) (H1 := [.cells [.bool a1.never, .lst (List.map encFct a1.l) false], .cells [.bool b2.never, .lst (List.map encFct b2.l) false], .cells [.bool false, .lst [] true]]) (H2 := [.cells [.bool a1.never, .lst (List.map encFct a1.l) false], .cells [.bool b2.never, .lst (List.map encFct b2.l) false], .cells [.bool false, .lst [] true]]) rfl (by repeat (first | exact rzz | apply rcc rfl | apply rnn rfl)) rfl (?_ : GL _ _ _ _ _)
      refine L_seq ?_
      refine L_stmtJ (S := Unit) (fun s => [(0, .gl 3 (List.length r3))]) (fun s => [.cells [.bool a1.never, .lst (List.map encFct a1.l) false], .cells [.bool b2.never, .lst (List.map encFct b2.l) false], .cells [.bool false, .lst [] true], openM 2 encFct r3]) (fun s => y2q n r3 = some r) ?_ ?_
      · skip
        refine L_seq ?_
        refine L_reg ?_
        refine G_p (v := .lst (List.map encFct r3) false) rfl rfl rfl ?_
        obtain ⟨hLq291, hr⟩ := guard_s hr
        rcases emp_or r3 with hEq291 | hEq291
        · skip
          refine G_c 70 rfl rfl (CA_raw (cloneo_e (f := encFct) (ys := r3) t70 encFct_w1 rfl hEq291) (by simp [cutH] <;> rfl)) ?_
          refine G_p (v := .lst (List.map encFct r3) true) rfl rfl rfl ?_
          refine G_nil ?_
          refine L_own (H' := [.cells [.bool a1.never, .lst (List.map encFct a1.l) false], .cells [.bool b2.never, .lst (List.map encFct b2.l) false], .cells [.bool false, .lst [] true], openM 2 encFct r3]) (own_e (w := 2) rfl hEq291) ?_
          refine L_nil ?_
          exact Sm_norm (e2 := [(0, .gl 3 (List.length r3))]) (H1 := [.cells [.bool a1.never, .lst (List.map encFct a1.l) false], .cells [.bool b2.never, .lst (List.map encFct b2.l) false], .cells [.bool false, .lst [] true], openM 2 encFct r3]) (H2 := [.cells [.bool a1.never, .lst (List.map encFct a1.l) false], .cells [.bool b2.never, .lst (List.map encFct b2.l) false], .cells [.bool false, .lst [] true], openM 2 encFct r3]) rfl (by repeat (first | exact rzz | apply rcc rfl | apply rnn rfl)) rfl ⟨(), rfl, rfl, hr⟩
        · skip
          refine G_c 70 rfl rfl (CA_raw (cloneo_n (f := encFct) (ys := r3) t70 encFct_w1 (by decide) rfl hEq291 hLq291) (by simp [cutH, lowV] <;> rfl)) ?_
          refine G_p rfl rfl rfl ?_
          refine G_nil ?_
          refine L_own (H' := [.cells [.bool a1.never, .lst (List.map encFct a1.l) false], .cells [.bool b2.never, .lst (List.map encFct b2.l) false], .cells [.bool false, .lst [] true], openM 2 encFct r3]) rfl ?_
          refine L_nil ?_
          exact Sm_norm (e2 := [(0, .gl 3 (List.length r3))]) (H1 := [.cells [.bool a1.never, .lst (List.map encFct a1.l) false], .cells [.bool b2.never, .lst (List.map encFct b2.l) false], .cells [.bool false, .lst [] true], openM 2 encFct r3]) (H2 := [.cells [.bool a1.never, .lst (List.map encFct a1.l) false], .cells [.bool b2.never, .lst (List.map encFct b2.l) false], .cells [.bool false, .lst [] true], openM 2 encFct r3]) rfl (by repeat (first | exact rzz | apply rcc rfl | apply rnn rfl)) rfl ⟨(), rfl, rfl, hr⟩
      · rintro ⟨⟩ hr
        show GL _ _ [(0, .gl 3 (List.length r3))] [.cells [.bool a1.never, .lst (List.map encFct a1.l) false], .cells [.bool b2.never, .lst (List.map encFct b2.l) false], .cells [.bool false, .lst [] true], openM 2 encFct r3] _
        replace hr : y2q n r3 = some r := hr
        unfold y2q at hr
        refine L_seq ?_
        refine L_stmt ?_
        refine L_reg ?_
        refine G_p rfl rfl rfl ?_
        obtain ⟨l6, hl6, hr⟩ := bind_s hr
        refine G_c (H' := [.cells [.bool a1.never, .lst (List.map encFct a1.l) false], .cells [.bool b2.never, .lst (List.map encFct b2.l) false], .cells [.bool false, .lst [] true], openM 2 encFct l6]) 71 rfl rfl ((y13 (callG_s hl6).1) ([.cells [.bool a1.never, .lst (List.map encFct a1.l) false], .cells [.bool b2.never, .lst (List.map encFct b2.l) false], .cells [.bool false, .lst [] true], openM 2 encFct r3]) 3 _ (by simp) rfl) ?_
        refine G_nil ?_
        refine L_nil ?_
        refine Sm_norm (e2 := [(0, .gl 3 (List.length r3))]) (H1 := [.cells [.bool a1.never, .lst (List.map encFct a1.l) false], .cells [.bool b2.never, .lst (List.map encFct b2.l) false], .cells [.bool false, .lst [] true], openM 2 encFct l6]) (H2 := [.cells [.bool a1.never, .lst (List.map encFct a1.l) false], .cells [.bool b2.never, .lst (List.map encFct b2.l) false], .cells [.bool false, .lst [] true], openM 2 encFct l6]) rfl (by repeat (first | exact rzz | apply rcc rfl | apply rnn rfl)) rfl (?_ : GL _ _ _ _ _)
        refine L_seq ?_
        refine L_shutl (H' := [.cells [.bool a1.never, .lst (List.map encFct a1.l) false], .cells [.bool b2.never, .lst (List.map encFct b2.l) false], .cells [.bool false, .lst [] true], growM 2 encFct l6]) (seal_o (callG_s hl6).2 rfl rfl rfl) ?_
        refine L_seq ?_
        refine L_stmt ?_
        refine L_reg ?_
        refine G_p (v := .lst [] true) rfl rfl rfl ?_
        refine G_nil ?_
        refine L_nil ?_
        refine Sm_norm (e2 := [(0, .gl 3 (List.length r3)), (3, .lst [] true)]) (H1 := [.cells [.bool a1.never, .lst (List.map encFct a1.l) false], .cells [.bool b2.never, .lst (List.map encFct b2.l) false], .cells [.bool false, .lst [] true], growM 2 encFct l6]) (H2 := [.cells [.bool a1.never, .lst (List.map encFct a1.l) false], .cells [.bool b2.never, .lst (List.map encFct b2.l) false], .cells [.bool false, .lst [] true], growM 2 encFct l6]) rfl (by repeat (first | exact rzz | apply rcc rfl | apply rnn rfl)) rfl (?_ : GL _ _ _ _ _)
        refine L_seq ?_
        refine L_stmtJ (S := List Fct) (fun s => [(3, .gl 4 (List.length s))]) (fun s => [.cells [.bool a1.never, .lst (List.map encFct a1.l) false], .cells [.bool b2.never, .lst (List.map encFct b2.l) false], .cells [.bool false, .lst [] true], growM 2 encFct l6, openM 2 encFct s]) (fun s => y1r n s = some r) ?_ ?_
        · skip
          refine L_seq ?_
          refine L_stmt ?_
          refine L_reg ?_
          refine G_p rfl rfl rfl ?_
          refine G_h rfl rfl rfl (fun _ => rfl) ?_
          refine G_p rfl rfl rfl ?_
          refine G_nil ?_
          refine L_nil ?_
          refine Sm_norm (e2 := [(3, .lst [] true), (11, .gl 3 (List.length r3)), (12, .int .i64 ((List.length r3 : Nat) : Int)), (13, .int .i64 0)]) (H1 := [.cells [.bool a1.never, .lst (List.map encFct a1.l) false], .cells [.bool b2.never, .lst (List.map encFct b2.l) false], .cells [.bool false, .lst [] true], growM 2 encFct l6]) (H2 := [.cells [.bool a1.never, .lst (List.map encFct a1.l) false], .cells [.bool b2.never, .lst (List.map encFct b2.l) false], .cells [.bool false, .lst [] true], growM 2 encFct l6]) rfl (by repeat (first | exact rzz | apply rcc rfl | apply rnn rfl)) rfl (?_ : GL _ _ _ _ _)
          refine L_block ?_
          refine L_seq ?_
          refine L_own (H' := [.cells [.bool a1.never, .lst (List.map encFct a1.l) false], .cells [.bool b2.never, .lst (List.map encFct b2.l) false], .cells [.bool false, .lst [] true], growM 2 encFct l6, openM 2 encFct []]) rfl ?_
          obtain ⟨hLq262, hr⟩ := guard_s hr
          replace hLq262 := okLen_s hLq262
          refine L_range (X := Fct) (S := List Fct) r3 (fun i264 s => [(3, .gl 4 (List.length s)), (13, .int .i64 ((i264 : Nat) : Int)), (11, .gl 3 (List.length r3)), (12, .int .i64 ((List.length r3 : Nat) : Int))]) (fun i264 s => [.cells [.bool a1.never, .lst (List.map encFct a1.l) false], .cells [.bool b2.never, .lst (List.map encFct b2.l) false], .cells [.bool false, .lst [] true], growM 2 encFct l6, openM 2 encFct s]) (fun rest i264 s => y0z n l6 rest i264 s = some r) ([]) ?_ rfl hr ?_ ?_
          · show restr _ _ = [(3, .gl 4 (List.length [])), (13, .int .i64 ((0 : Nat) : Int)), (11, .gl 3 (List.length r3)), (12, .int .i64 ((List.length r3 : Nat) : Int))]
            (repeat (first | exact rzz | apply rcc rfl | apply rnn rfl))
          · rintro l245 hr
            show GL _ _ [(3, .gl 4 (List.length l245)), (13, .int .i64 (((List.length r3) : Nat) : Int)), (11, .gl 3 (List.length r3)), (12, .int .i64 ((List.length r3 : Nat) : Int))] [.cells [.bool a1.never, .lst (List.map encFct a1.l) false], .cells [.bool b2.never, .lst (List.map encFct b2.l) false], .cells [.bool false, .lst [] true], growM 2 encFct l6, openM 2 encFct l245] _
            replace hr : y0z n l6 [] (List.length r3) l245 = some r := hr
            rw [y0z] at hr
            refine L_seq ?_
            refine L_stmt ?_
            refine L_reg ?_
            refine G_v (.bool false) rfl rfl rfl (congrArg AVal.bool (decide_eq_false (by omega))) ?_
            refine G_nil ?_
            refine L_nil ?_
            refine Sm_norm (e2 := [(3, .gl 4 (List.length l245)), (11, .gl 3 (List.length r3)), (12, .int .i64 ((List.length r3 : Nat) : Int)), (13, .int .i64 ((List.length r3 : Nat) : Int)), (14, .bool false)]) (H1 := [.cells [.bool a1.never, .lst (List.map encFct a1.l) false], .cells [.bool b2.never, .lst (List.map encFct b2.l) false], .cells [.bool false, .lst [] true], growM 2 encFct l6, openM 2 encFct l245]) (H2 := [.cells [.bool a1.never, .lst (List.map encFct a1.l) false], .cells [.bool b2.never, .lst (List.map encFct b2.l) false], .cells [.bool false, .lst [] true], growM 2 encFct l6, openM 2 encFct l245]) rfl (by repeat (first | exact rzz | apply rcc rfl | apply rnn rfl)) rfl (?_ : GL _ _ _ _ _)
            refine L_seq ?_
            refine L_stmt ?_
            refine L_F rfl rfl ?_
            refine L_exit ?_
            refine Sm_exit ?_
            refine Rd_exit ?_
            refine Blk_exit (?_ : GL _ _ _ _ _)
            refine L_nil ?_
            exact Sm_norm (e2 := [(3, .gl 4 (List.length l245))]) (H1 := [.cells [.bool a1.never, .lst (List.map encFct a1.l) false], .cells [.bool b2.never, .lst (List.map encFct b2.l) false], .cells [.bool false, .lst [] true], growM 2 encFct l6, openM 2 encFct l245]) (H2 := [.cells [.bool a1.never, .lst (List.map encFct a1.l) false], .cells [.bool b2.never, .lst (List.map encFct b2.l) false], .cells [.bool false, .lst [] true], growM 2 encFct l6, openM 2 encFct l245]) rfl (by repeat (first | exact rzz | apply rcc rfl | apply rnn rfl)) rfl ⟨l245, rfl, rfl, hr⟩
          · rintro y263 rest265 i264 l245 hy263 hlti264 hr
            show GL _ _ [(3, .gl 4 (List.length l245)), (13, .int .i64 ((i264 : Nat) : Int)), (11, .gl 3 (List.length r3)), (12, .int .i64 ((List.length r3 : Nat) : Int))] [.cells [.bool a1.never, .lst (List.map encFct a1.l) false], .cells [.bool b2.never, .lst (List.map encFct b2.l) false], .cells [.bool false, .lst [] true], growM 2 encFct l6, openM 2 encFct l245] _
            replace hr : y0z n l6 (y263 :: rest265) i264 l245 = some r := hr
            rw [y0z] at hr
            refine L_seq ?_
            refine L_stmt ?_
            refine L_reg ?_
            refine G_v (.bool true) rfl rfl rfl (congrArg AVal.bool (decide_eq_true (by omega))) ?_
            refine G_nil ?_
            refine L_nil ?_
            refine Sm_norm (e2 := [(3, .gl 4 (List.length l245)), (11, .gl 3 (List.length r3)), (12, .int .i64 ((List.length r3 : Nat) : Int)), (13, .int .i64 ((i264 : Nat) : Int)), (14, .bool true)]) (H1 := [.cells [.bool a1.never, .lst (List.map encFct a1.l) false], .cells [.bool b2.never, .lst (List.map encFct b2.l) false], .cells [.bool false, .lst [] true], growM 2 encFct l6, openM 2 encFct l245]) (H2 := [.cells [.bool a1.never, .lst (List.map encFct a1.l) false], .cells [.bool b2.never, .lst (List.map encFct b2.l) false], .cells [.bool false, .lst [] true], growM 2 encFct l6, openM 2 encFct l245]) rfl (by repeat (first | exact rzz | apply rcc rfl | apply rnn rfl)) rfl (?_ : GL _ _ _ _ _)
            refine L_seq ?_
            refine L_stmt ?_
            refine L_T rfl rfl ?_
            refine L_skip ?_
            refine L_nil ?_
            refine Sm_norm (e2 := [(3, .gl 4 (List.length l245)), (11, .gl 3 (List.length r3)), (12, .int .i64 ((List.length r3 : Nat) : Int)), (13, .int .i64 ((i264 : Nat) : Int))]) (H1 := [.cells [.bool a1.never, .lst (List.map encFct a1.l) false], .cells [.bool b2.never, .lst (List.map encFct b2.l) false], .cells [.bool false, .lst [] true], growM 2 encFct l6, openM 2 encFct l245]) (H2 := [.cells [.bool a1.never, .lst (List.map encFct a1.l) false], .cells [.bool b2.never, .lst (List.map encFct b2.l) false], .cells [.bool false, .lst [] true], growM 2 encFct l6, openM 2 encFct l245]) rfl (by repeat (first | exact rzz | apply rcc rfl | apply rnn rfl)) rfl (?_ : GL _ _ _ _ _)
            refine L_seq ?_
            refine L_stmtJ (S := List Fct) (fun s => [(3, .gl 4 (List.length s)), (11, .gl 3 (List.length r3)), (12, .int .i64 ((List.length r3 : Nat) : Int)), (13, .int .i64 ((i264 : Nat) : Int))]) (fun s => [.cells [.bool a1.never, .lst (List.map encFct a1.l) false], .cells [.bool b2.never, .lst (List.map encFct b2.l) false], .cells [.bool false, .lst [] true], growM 2 encFct l6, openM 2 encFct s]) (fun s => y1y (y0z n l6 rest265 (i264 + 1)) s = some r) ?_ ?_
            · skip
              refine L_block ?_
              refine L_seq ?_
              refine L_stmt ?_
              refine L_reg ?_
              obtain ⟨e279, he279, hr⟩ := bind_s hr
              refine G_h (v := .ro [.int .i64 e279.var, .int .i64 e279.tags]) rfl rfl rfl (iagL_ev (cells := [.int .i64 e279.var, .int .i64 e279.tags]) (callG_s hl6).2 rfl rfl rfl (idx_s he279).1 (map_get (x := e279) (idx_s he279).2) (y0c _) rfl) ?_
              refine G_h (v := .agg (cFct e279)) rfl rfl rfl (fun _ => rfl) ?_
              refine G_n (B := .cells [.int .i64 0, .int .i64 0]) rfl rfl rfl ?_
              refine G_hn (H' := [.cells [.bool a1.never, .lst (List.map encFct a1.l) false], .cells [.bool b2.never, .lst (List.map encFct b2.l) false], .cells [.bool false, .lst [] true], growM 2 encFct l6, openM 2 encFct l245, .cells [.int .i64 e279.var, .int .i64 e279.tags]]) rfl rfl rfl (fun _ => rfl) ?_
              refine G_nil ?_
              refine L_nil ?_
              refine Sm_norm (e2 := [(3, .gl 4 (List.length l245)), (5, .ptr 5 0), (11, .gl 3 (List.length r3)), (12, .int .i64 ((List.length r3 : Nat) : Int)), (13, .int .i64 ((i264 : Nat) : Int))]) (H1 := [.cells [.bool a1.never, .lst (List.map encFct a1.l) false], .cells [.bool b2.never, .lst (List.map encFct b2.l) false], .cells [.bool false, .lst [] true], growM 2 encFct l6, openM 2 encFct l245, .cells [.int .i64 e279.var, .int .i64 e279.tags]]) (H2 := [.cells [.bool a1.never, .lst (List.map encFct a1.l) false], .cells [.bool b2.never, .lst (List.map encFct b2.l) false], .cells [.bool false, .lst [] true], growM 2 encFct l6, openM 2 encFct l245, .cells [.int .i64 e279.var, .int .i64 e279.tags]]) rfl (by repeat (first | exact rzz | apply rcc rfl | apply rnn rfl)) rfl (?_ : GL _ _ _ _ _)
              refine L_seq ?_
              refine L_stmt ?_
              refine L_reg ?_
              refine G_p rfl rfl rfl ?_
              refine G_h rfl rfl rfl (fun _ => rfl) ?_
              refine G_p rfl rfl rfl ?_
              refine G_p rfl rfl rfl ?_
              refine G_hn (H' := [.cells [.bool a1.never, .lst (List.map encFct a1.l) false], .cells [.bool b2.never, .lst (List.map encFct b2.l) false], .cells [.bool false, .lst [] true], growM 2 encFct l6, openM 2 encFct l245, .cells [.int .i64 e279.var, .int .i64 (andB .i64 e279.tags 255)]]) rfl rfl rfl (fun _ => rfl) ?_
              refine G_nil ?_
              refine L_nil ?_
              refine Sm_norm (e2 := [(3, .gl 4 (List.length l245)), (5, .ptr 5 0), (11, .gl 3 (List.length r3)), (12, .int .i64 ((List.length r3 : Nat) : Int)), (13, .int .i64 ((i264 : Nat) : Int))]) (H1 := [.cells [.bool a1.never, .lst (List.map encFct a1.l) false], .cells [.bool b2.never, .lst (List.map encFct b2.l) false], .cells [.bool false, .lst [] true], growM 2 encFct l6, openM 2 encFct l245, .cells [.int .i64 e279.var, .int .i64 (andB .i64 e279.tags 255)]]) (H2 := [.cells [.bool a1.never, .lst (List.map encFct a1.l) false], .cells [.bool b2.never, .lst (List.map encFct b2.l) false], .cells [.bool false, .lst [] true], growM 2 encFct l6, openM 2 encFct l245, .cells [.int .i64 e279.var, .int .i64 (andB .i64 e279.tags 255)]]) rfl (by repeat (first | exact rzz | apply rcc rfl | apply rnn rfl)) rfl (?_ : GL _ _ _ _ _)
              refine L_seq ?_
              refine L_stmt ?_
              refine L_seq ?_
              refine L_stmt ?_
              refine L_reg ?_
              refine G_p rfl rfl rfl ?_
              refine G_h rfl rfl rfl (fun _ => rfl) ?_
              refine G_p rfl rfl rfl ?_
              refine G_nil ?_
              refine L_nil ?_
              refine Sm_norm (e2 := [(3, .gl 4 (List.length l245)), (5, .ptr 5 0), (6, .int .i64 ((List.length l245 : Nat) : Int)), (11, .gl 3 (List.length r3)), (12, .int .i64 ((List.length r3 : Nat) : Int)), (13, .int .i64 ((i264 : Nat) : Int))]) (H1 := [.cells [.bool a1.never, .lst (List.map encFct a1.l) false], .cells [.bool b2.never, .lst (List.map encFct b2.l) false], .cells [.bool false, .lst [] true], growM 2 encFct l6, openM 2 encFct l245, .cells [.int .i64 e279.var, .int .i64 (andB .i64 e279.tags 255)]]) (H2 := [.cells [.bool a1.never, .lst (List.map encFct a1.l) false], .cells [.bool b2.never, .lst (List.map encFct b2.l) false], .cells [.bool false, .lst [] true], growM 2 encFct l6, openM 2 encFct l245, .cells [.int .i64 e279.var, .int .i64 (andB .i64 e279.tags 255)]]) rfl (by repeat (first | exact rzz | apply rcc rfl | apply rnn rfl)) rfl (?_ : GL _ _ _ _ _)
              refine L_seq ?_
              refine L_stmt ?_
              refine L_drawS (ops := [_, _, _, _, _, _, _, _, _, _, _, _, _]) rfl rfl ?_
              refine G_p rfl rfl rfl ?_
              refine G_p rfl rfl rfl ?_
              refine G_p rfl rfl rfl ?_
              obtain ⟨v286, hvv286, hr⟩ := bind_s hr
              refine G_pick true [_, _, _, _, _, _, _, _, _] (v := .bool v286) (vo := .bool false) rfl rfl ?_ ?_ rfl ?_
              · intro hb25
                have hr := condT hb25 hvv286
                refine G_p rfl rfl rfl ?_
                refine G_p rfl rfl rfl ?_
                refine G_p rfl rfl rfl ?_
                obtain ⟨e285, he285, hr⟩ := bind_s hr
                refine G_h rfl rfl rfl (iao_ev encFct_w1 rfl rfl rfl rfl (idx_s he285).1 (map_get (x := e285) (idx_s he285).2)) ?_
                refine G_p rfl rfl rfl ?_
                refine G_h rfl rfl rfl (ldso_ev (off := 0) rfl rfl rfl rfl (idx_s he285).2 (by decide) (y0c _) rfl) ?_
                refine G_p rfl rfl rfl ?_
                refine G_h rfl rfl rfl (fun _ => rfl) ?_
                refine G_p rfl rfl rfl ?_
                cases hr; exact G_nil (L_nil ⟨rfl, rfl, rfl⟩)
              · intro hb25; exact pickT hvv286 hb25
              · intro vs hvs
                obtain ⟨u26, u27, u28, u29, u30, u31, u32, u33, u34, rfl⟩ := len9 hvs
                dsimp only [junk]
                refine G_nil (L_nil ⟨rfl, ?_⟩)
                refine L_nil ?_
                refine Sm_norm (e2 := [(3, .gl 4 (List.length l245)), (5, .ptr 5 0), (6, .int .i64 ((List.length l245 : Nat) : Int)), (11, .gl 3 (List.length r3)), (12, .int .i64 ((List.length r3 : Nat) : Int)), (13, .int .i64 ((i264 : Nat) : Int)), (35, .bool v286)]) (H1 := [.cells [.bool a1.never, .lst (List.map encFct a1.l) false], .cells [.bool b2.never, .lst (List.map encFct b2.l) false], .cells [.bool false, .lst [] true], growM 2 encFct l6, openM 2 encFct l245, .cells [.int .i64 e279.var, .int .i64 (andB .i64 e279.tags 255)]]) (H2 := [.cells [.bool a1.never, .lst (List.map encFct a1.l) false], .cells [.bool b2.never, .lst (List.map encFct b2.l) false], .cells [.bool false, .lst [] true], growM 2 encFct l6, openM 2 encFct l245, .cells [.int .i64 e279.var, .int .i64 (andB .i64 e279.tags 255)]]) rfl (by repeat (first | exact rzz | apply rcc rfl | apply rnn rfl)) rfl (?_ : GL _ _ _ _ _)
                rcases cond_s hr with ⟨hc35, hr⟩ | ⟨hc35, hr⟩
                · refine L_T rfl hc35 ?_
                  refine L_seq ?_
                  refine L_drawS (ops := [_, _, _, _, _, _, _, _, _, _, _, _]) rfl rfl ?_
                  refine G_p rfl rfl rfl ?_
                  refine G_p rfl rfl rfl ?_
                  refine G_p rfl rfl rfl ?_
                  obtain ⟨e287, he287, hr⟩ := bind_s hr
                  refine G_h rfl rfl rfl (iao_ev encFct_w1 rfl rfl rfl rfl (idx_s he287).1 (map_get (x := e287) (idx_s he287).2)) ?_
                  refine G_p rfl rfl rfl ?_
                  refine G_h rfl rfl rfl (ldso_ev (off := 1) rfl rfl rfl rfl (idx_s he287).2 (by decide) (y0c _) rfl) ?_
                  refine G_p rfl rfl rfl ?_
                  refine G_h rfl rfl rfl (fun _ => rfl) ?_
                  refine G_p rfl rfl rfl ?_
                  obtain ⟨e288, he288, hr⟩ := bind_s hr
                  refine G_h rfl rfl rfl (iao_ev encFct_w1 rfl rfl rfl rfl (idx_s he288).1 (map_get (x := e288) (idx_s he288).2)) ?_
                  refine G_p rfl rfl rfl ?_
                  obtain ⟨l289, hl289, hr⟩ := bind_s hr
                  refine G_hn (H' := [.cells [.bool a1.never, .lst (List.map encFct a1.l) false], .cells [.bool b2.never, .lst (List.map encFct b2.l) false], .cells [.bool false, .lst [] true], growM 2 encFct l6, openM 2 encFct l289, .cells [.int .i64 e279.var, .int .i64 (andB .i64 e279.tags 255)]]) rfl rfl rfl (stko_ev (off := 1) rfl rfl rfl rfl rfl (idx_s he288).2 (by decide) (by decide) ⟨rfl, rfl⟩ rfl (by (try simp only [encFct_eq]); rfl) (setL_s hl289) rfl) ?_
                  refine G_nil (L_nil ⟨rfl, ?_⟩)
                  refine L_exit ?_
                  refine Sm_exit ?_
                  refine Blk_exit (?_ : GL _ _ _ _ _)
                  refine L_nil ?_
                  exact Sm_norm (e2 := [(3, .gl 4 (List.length l289)), (11, .gl 3 (List.length r3)), (12, .int .i64 ((List.length r3 : Nat) : Int)), (13, .int .i64 ((i264 : Nat) : Int))]) (H1 := [.cells [.bool a1.never, .lst (List.map encFct a1.l) false], .cells [.bool b2.never, .lst (List.map encFct b2.l) false], .cells [.bool false, .lst [] true], growM 2 encFct l6, openM 2 encFct l289, .cells [.int .i64 e279.var, .int .i64 (andB .i64 e279.tags 255)]]) (H2 := [.cells [.bool a1.never, .lst (List.map encFct a1.l) false], .cells [.bool b2.never, .lst (List.map encFct b2.l) false], .cells [.bool false, .lst [] true], growM 2 encFct l6, openM 2 encFct l289]) rfl (by (try rw [show List.length l289 = List.length l245 from (setL_len hl289)]); (repeat (first | exact rzz | apply rcc rfl | apply rnn rfl))) rfl ⟨l289, rfl, rfl, hr⟩
                · refine L_F rfl hc35 ?_
                  refine L_skip ?_
                  refine L_nil ?_
                  refine Sm_norm (e2 := [(3, .gl 4 (List.length l245)), (5, .ptr 5 0), (11, .gl 3 (List.length r3)), (12, .int .i64 ((List.length r3 : Nat) : Int)), (13, .int .i64 ((i264 : Nat) : Int))]) (H1 := [.cells [.bool a1.never, .lst (List.map encFct a1.l) false], .cells [.bool b2.never, .lst (List.map encFct b2.l) false], .cells [.bool false, .lst [] true], growM 2 encFct l6, openM 2 encFct l245, .cells [.int .i64 e279.var, .int .i64 (andB .i64 e279.tags 255)]]) (H2 := [.cells [.bool a1.never, .lst (List.map encFct a1.l) false], .cells [.bool b2.never, .lst (List.map encFct b2.l) false], .cells [.bool false, .lst [] true], growM 2 encFct l6, openM 2 encFct l245, .cells [.int .i64 e279.var, .int .i64 (andB .i64 e279.tags 255)]]) rfl (by repeat (first | exact rzz | apply rcc rfl | apply rnn rfl)) rfl (?_ : GL _ _ _ _ _)
                  refine L_reg ?_
                  refine G_p rfl rfl rfl ?_
                  refine G_h (v := .agg [.int .i64 e279.var, .int .i64 (andB .i64 e279.tags 255)]) rfl rfl rfl (fun _ => rfl) ?_
                  refine G_h (v := .lst (List.map encFct [(Fct.mk e279.var (andB .i64 e279.tags 255))]) true) rfl rfl rfl (fun _ => Eq.trans (b := some (Ex.ok (AVal.lst [.agg [.int .i64 e279.var, .int .i64 (andB .i64 e279.tags 255)]] true), _)) rfl (congrArg (fun z => some (Ex.ok (AVal.lst z true), _)) (by first | rfl | (simp only [List.map_cons, List.map_nil, encFct_eq] <;> rfl)))) ?_
                  obtain ⟨l290, hl290, hr⟩ := bind_s hr
                  refine G_h rfl rfl rfl (appGo_ev (es := 2) encFct_w1 (show (16 : Nat) ≤ 1400 from by decide) rfl rfl rfl rfl hl290 rfl) ?_
                  refine G_p rfl rfl rfl ?_
                  refine G_nil ?_
                  refine L_nil ?_
                  refine Blk_norm (?_ : GL _ _ _ _ _)
                  refine L_nil ?_
                  exact Sm_norm (e2 := [(3, .gl 4 (List.length l290)), (11, .gl 3 (List.length r3)), (12, .int .i64 ((List.length r3 : Nat) : Int)), (13, .int .i64 ((i264 : Nat) : Int))]) (H1 := [.cells [.bool a1.never, .lst (List.map encFct a1.l) false], .cells [.bool b2.never, .lst (List.map encFct b2.l) false], .cells [.bool false, .lst [] true], growM 2 encFct l6, openM 2 encFct l290, .cells [.int .i64 e279.var, .int .i64 (andB .i64 e279.tags 255)]]) (H2 := [.cells [.bool a1.never, .lst (List.map encFct a1.l) false], .cells [.bool b2.never, .lst (List.map encFct b2.l) false], .cells [.bool false, .lst [] true], growM 2 encFct l6, openM 2 encFct l290]) rfl (by repeat (first | exact rzz | apply rcc rfl | apply rnn rfl)) rfl ⟨l290, rfl, rfl, hr⟩
            · rintro l278 hr
              show GL _ _ [(3, .gl 4 (List.length l278)), (11, .gl 3 (List.length r3)), (12, .int .i64 ((List.length r3 : Nat) : Int)), (13, .int .i64 ((i264 : Nat) : Int))] [.cells [.bool a1.never, .lst (List.map encFct a1.l) false], .cells [.bool b2.never, .lst (List.map encFct b2.l) false], .cells [.bool false, .lst [] true], growM 2 encFct l6, openM 2 encFct l278] _
              replace hr : y1y (y0z n l6 rest265 (i264 + 1)) l278 = some r := hr
              unfold y1y at hr
              refine L_reg ?_
              refine G_v (.int .i64 ((i264 + 1 : Nat) : Int)) rfl rfl rfl (congrArg _ (wrap_next hLq262 hlti264)) ?_
              refine G_p rfl rfl rfl ?_
              refine G_nil ?_
              refine L_nil ?_
              refine Rd_norm ⟨l278, ?_, rfl, hr⟩
              show restr _ _ = [(3, .gl 4 (List.length l278)), (13, .int .i64 (((i264 + 1) : Nat) : Int)), (11, .gl 3 (List.length r3)), (12, .int .i64 ((List.length r3 : Nat) : Int))]
              (repeat (first | exact rzz | apply rcc rfl | apply rnn rfl))
        · rintro l56 hr
          show GL _ _ [(3, .gl 4 (List.length l56))] [.cells [.bool a1.never, .lst (List.map encFct a1.l) false], .cells [.bool b2.never, .lst (List.map encFct b2.l) false], .cells [.bool false, .lst [] true], growM 2 encFct l6, openM 2 encFct l56] _
          replace hr : y1r n l56 = some r := hr
          unfold y1r at hr
          refine L_seq ?_
          refine L_reg ?_
          refine G_p rfl rfl rfl ?_
          refine G_p rfl rfl rfl ?_
          refine G_nil ?_
          refine L_ret ?_
          refine ⟨_, rfl, (?_ : GO _ _ _ ((18, .gl 4 (List.length l56)) :: _) [.cells [.bool a1.never, .lst (List.map encFct a1.l) false], .cells [.bool b2.never, .lst (List.map encFct b2.l) false], .cells [.bool false, .lst [] true], growM 2 encFct l6, openM 2 encFct l56] _)⟩
          refine G_cx 37 rfl rfl (ca_finx t37 (Or.inl rfl) ?_)
          refine L_seq ?_
          refine L_stmt ?_
          refine L_reg ?_
          refine G_n (B := .cells [.bool false, .lst [] true]) rfl rfl rfl ?_
          refine G_nil ?_
          refine L_nil ?_
          refine Sm_norm (e2 := [(0, .gl 4 (List.length l56)), (2, .ptr 5 0)]) (H1 := [.cells [.bool a1.never, .lst (List.map encFct a1.l) false], .cells [.bool b2.never, .lst (List.map encFct b2.l) false], .cells [.bool false, .lst [] true], growM 2 encFct l6, openM 2 encFct l56, .cells [.bool false, .lst [] true]]) (H2 := [.cells [.bool a1.never, .lst (List.map encFct a1.l) false], .cells [.bool b2.never, .lst (List.map encFct b2.l) false], .cells [.bool false, .lst [] true], growM 2 encFct l6, openM 2 encFct l56, .cells [.bool false, .lst [] true]]) rfl (by repeat (first | exact rzz | apply rcc rfl | apply rnn rfl)) rfl (?_ : GL _ _ _ _ _)
          refine L_seq ?_
          refine L_stmt ?_
          refine L_reg ?_
          refine G_p rfl rfl rfl ?_
          refine G_cx 68 rfl rfl (ca_finx t68 (Or.inl rfl) ?_)
          refine L_seq ?_
          refine L_stmt ?_
          refine L_reg ?_
          refine G_p (v := .lst [] true) rfl rfl rfl ?_
          refine G_nil ?_
          refine L_nil ?_
          refine Sm_norm (e2 := [(0, .gl 4 (List.length l56)), (1, .fn 69 [])]) (H1 := [.cells [.bool a1.never, .lst (List.map encFct a1.l) false], .cells [.bool b2.never, .lst (List.map encFct b2.l) false], .cells [.bool false, .lst [] true], growM 2 encFct l6, openM 2 encFct l56, .cells [.bool false, .lst [] true]]) (H2 := [.cells [.bool a1.never, .lst (List.map encFct a1.l) false], .cells [.bool b2.never, .lst (List.map encFct b2.l) false], .cells [.bool false, .lst [] true], growM 2 encFct l6, openM 2 encFct l56, .cells [.bool false, .lst [] true]]) rfl (by repeat (first | exact rzz | apply rcc rfl | apply rnn rfl)) rfl (?_ : GL _ _ _ _ _)
          refine L_seq ?_
          refine L_stmtJ (S := Int) (fun s => [(0, .gl 4 (List.length l56)), (1, .fn 69 []), (5, .int .i64 s)]) (fun s => [.cells [.bool a1.never, .lst (List.map encFct a1.l) false], .cells [.bool b2.never, .lst (List.map encFct b2.l) false], .cells [.bool false, .lst [] true], growM 2 encFct l6, openM 2 encFct l56, .cells [.bool false, .lst [] true]]) (fun s => y1q n l56 s = some r) ?_ ?_
          · skip
            refine L_reg ?_
            refine G_p rfl rfl rfl ?_
            refine G_p rfl rfl rfl ?_
            refine G_cx 42 rfl rfl (ca_finx t42 (Or.inl rfl) ?_)
            refine L_seq ?_
            refine L_stmt ?_
            refine L_reg ?_
            refine G_p rfl rfl rfl ?_
            refine G_nil ?_
            refine L_nil ?_
            refine Sm_norm (e2 := [(0, .gl 4 (List.length l56)), (1, .fn 69 [])]) (H1 := [.cells [.bool a1.never, .lst (List.map encFct a1.l) false], .cells [.bool b2.never, .lst (List.map encFct b2.l) false], .cells [.bool false, .lst [] true], growM 2 encFct l6, openM 2 encFct l56, .cells [.bool false, .lst [] true]]) (H2 := [.cells [.bool a1.never, .lst (List.map encFct a1.l) false], .cells [.bool b2.never, .lst (List.map encFct b2.l) false], .cells [.bool false, .lst [] true], growM 2 encFct l6, openM 2 encFct l56, .cells [.bool false, .lst [] true]]) rfl (by repeat (first | exact rzz | apply rcc rfl | apply rnn rfl)) rfl (?_ : GL _ _ _ _ _)
            refine L_seq ?_
            refine L_stmtJ (S := Unit) (fun s => []) (fun s => [.cells [.bool a1.never, .lst (List.map encFct a1.l) false], .cells [.bool b2.never, .lst (List.map encFct b2.l) false], .cells [.bool false, .lst [] true], growM 2 encFct l6, openM 2 encFct l56, .cells [.bool false, .lst [] true]]) (fun s => y2p n l56 = some r) ?_ ?_
            · skip
              refine L_seq ?_
              refine L_stmt ?_
              refine L_reg ?_
              refine G_p rfl rfl rfl ?_
              refine G_h rfl rfl rfl (fun _ => rfl) ?_
              refine G_p rfl rfl rfl ?_
              refine G_nil ?_
              refine L_nil ?_
              refine Sm_norm (e2 := [(0, .gl 4 (List.length l56)), (1, .fn 69 []), (7, .int .i64 ((List.length l56 : Nat) : Int)), (8, .int .i64 0)]) (H1 := [.cells [.bool a1.never, .lst (List.map encFct a1.l) false], .cells [.bool b2.never, .lst (List.map encFct b2.l) false], .cells [.bool false, .lst [] true], growM 2 encFct l6, openM 2 encFct l56, .cells [.bool false, .lst [] true]]) (H2 := [.cells [.bool a1.never, .lst (List.map encFct a1.l) false], .cells [.bool b2.never, .lst (List.map encFct b2.l) false], .cells [.bool false, .lst [] true], growM 2 encFct l6, openM 2 encFct l56, .cells [.bool false, .lst [] true]]) rfl (by repeat (first | exact rzz | apply rcc rfl | apply rnn rfl)) rfl (?_ : GL _ _ _ _ _)
              refine L_block ?_
              obtain ⟨hLq222, hr⟩ := guard_s hr
              replace hLq222 := okLen_s hLq222
              refine L_range (X := Fct) (S := Unit) l56 (fun i224 s => [(8, .int .i64 ((i224 : Nat) : Int)), (0, .gl 4 (List.length l56)), (1, .fn 69 []), (7, .int .i64 ((List.length l56 : Nat) : Int))]) (fun i224 s => [.cells [.bool a1.never, .lst (List.map encFct a1.l) false], .cells [.bool b2.never, .lst (List.map encFct b2.l) false], .cells [.bool false, .lst [] true], growM 2 encFct l6, openM 2 encFct l56, .cells [.bool false, .lst [] true]]) (fun rest i224 s => y18 n l56 rest i224 = some r) (()) ?_ rfl hr ?_ ?_
              · show restr _ _ = [(8, .int .i64 ((0 : Nat) : Int)), (0, .gl 4 (List.length l56)), (1, .fn 69 []), (7, .int .i64 ((List.length l56 : Nat) : Int))]
                (repeat (first | exact rzz | apply rcc rfl | apply rnn rfl))
              · rintro ⟨⟩ hr
                show GL _ _ [(8, .int .i64 (((List.length l56) : Nat) : Int)), (0, .gl 4 (List.length l56)), (1, .fn 69 []), (7, .int .i64 ((List.length l56 : Nat) : Int))] [.cells [.bool a1.never, .lst (List.map encFct a1.l) false], .cells [.bool b2.never, .lst (List.map encFct b2.l) false], .cells [.bool false, .lst [] true], growM 2 encFct l6, openM 2 encFct l56, .cells [.bool false, .lst [] true]] _
                replace hr : y18 n l56 [] (List.length l56) = some r := hr
                rw [y18] at hr
                refine L_seq ?_
                refine L_stmt ?_
                refine L_reg ?_
                refine G_v (.bool false) rfl rfl rfl (congrArg AVal.bool (decide_eq_false (by omega))) ?_
                refine G_nil ?_
                refine L_nil ?_
                refine Sm_norm (e2 := [(0, .gl 4 (List.length l56)), (1, .fn 69 []), (7, .int .i64 ((List.length l56 : Nat) : Int)), (8, .int .i64 ((List.length l56 : Nat) : Int)), (9, .bool false)]) (H1 := [.cells [.bool a1.never, .lst (List.map encFct a1.l) false], .cells [.bool b2.never, .lst (List.map encFct b2.l) false], .cells [.bool false, .lst [] true], growM 2 encFct l6, openM 2 encFct l56, .cells [.bool false, .lst [] true]]) (H2 := [.cells [.bool a1.never, .lst (List.map encFct a1.l) false], .cells [.bool b2.never, .lst (List.map encFct b2.l) false], .cells [.bool false, .lst [] true], growM 2 encFct l6, openM 2 encFct l56, .cells [.bool false, .lst [] true]]) rfl (by repeat (first | exact rzz | apply rcc rfl | apply rnn rfl)) rfl (?_ : GL _ _ _ _ _)
                refine L_seq ?_
                refine L_stmt ?_
                refine L_F rfl rfl ?_
                refine L_exit ?_
                refine Sm_exit ?_
                refine Rd_exit ?_
                refine Blk_exit (?_ : GL _ _ _ _ _)
                refine L_nil ?_
                exact Sm_norm (e2 := []) (H1 := [.cells [.bool a1.never, .lst (List.map encFct a1.l) false], .cells [.bool b2.never, .lst (List.map encFct b2.l) false], .cells [.bool false, .lst [] true], growM 2 encFct l6, openM 2 encFct l56, .cells [.bool false, .lst [] true]]) (H2 := [.cells [.bool a1.never, .lst (List.map encFct a1.l) false], .cells [.bool b2.never, .lst (List.map encFct b2.l) false], .cells [.bool false, .lst [] true], growM 2 encFct l6, openM 2 encFct l56, .cells [.bool false, .lst [] true]]) rfl (by repeat (first | exact rzz | apply rcc rfl | apply rnn rfl)) rfl ⟨(), rfl, rfl, hr⟩
              · rintro y223 rest225 i224 ⟨⟩ hy223 hlti224 hr
                show GL _ _ [(8, .int .i64 ((i224 : Nat) : Int)), (0, .gl 4 (List.length l56)), (1, .fn 69 []), (7, .int .i64 ((List.length l56 : Nat) : Int))] [.cells [.bool a1.never, .lst (List.map encFct a1.l) false], .cells [.bool b2.never, .lst (List.map encFct b2.l) false], .cells [.bool false, .lst [] true], growM 2 encFct l6, openM 2 encFct l56, .cells [.bool false, .lst [] true]] _
                replace hr : y18 n l56 (y223 :: rest225) i224 = some r := hr
                rw [y18] at hr
                refine L_seq ?_
                refine L_stmt ?_
                refine L_reg ?_
                refine G_v (.bool true) rfl rfl rfl (congrArg AVal.bool (decide_eq_true (by omega))) ?_
                refine G_nil ?_
                refine L_nil ?_
                refine Sm_norm (e2 := [(0, .gl 4 (List.length l56)), (1, .fn 69 []), (7, .int .i64 ((List.length l56 : Nat) : Int)), (8, .int .i64 ((i224 : Nat) : Int)), (9, .bool true)]) (H1 := [.cells [.bool a1.never, .lst (List.map encFct a1.l) false], .cells [.bool b2.never, .lst (List.map encFct b2.l) false], .cells [.bool false, .lst [] true], growM 2 encFct l6, openM 2 encFct l56, .cells [.bool false, .lst [] true]]) (H2 := [.cells [.bool a1.never, .lst (List.map encFct a1.l) false], .cells [.bool b2.never, .lst (List.map encFct b2.l) false], .cells [.bool false, .lst [] true], growM 2 encFct l6, openM 2 encFct l56, .cells [.bool false, .lst [] true]]) rfl (by repeat (first | exact rzz | apply rcc rfl | apply rnn rfl)) rfl (?_ : GL _ _ _ _ _)
                refine L_seq ?_
                refine L_stmt ?_
                refine L_T rfl rfl ?_
                refine L_skip ?_
                refine L_nil ?_
                refine Sm_norm (e2 := [(0, .gl 4 (List.length l56)), (1, .fn 69 []), (7, .int .i64 ((List.length l56 : Nat) : Int)), (8, .int .i64 ((i224 : Nat) : Int))]) (H1 := [.cells [.bool a1.never, .lst (List.map encFct a1.l) false], .cells [.bool b2.never, .lst (List.map encFct b2.l) false], .cells [.bool false, .lst [] true], growM 2 encFct l6, openM 2 encFct l56, .cells [.bool false, .lst [] true]]) (H2 := [.cells [.bool a1.never, .lst (List.map encFct a1.l) false], .cells [.bool b2.never, .lst (List.map encFct b2.l) false], .cells [.bool false, .lst [] true], growM 2 encFct l6, openM 2 encFct l56, .cells [.bool false, .lst [] true]]) rfl (by repeat (first | exact rzz | apply rcc rfl | apply rnn rfl)) rfl (?_ : GL _ _ _ _ _)
                refine L_seq ?_
                refine L_stmt ?_
                refine L_block ?_
                refine L_seq ?_
                refine L_stmt ?_
                refine L_reg ?_
                refine G_p rfl rfl rfl ?_
                refine G_p rfl rfl rfl ?_
                refine G_nil ?_
                refine L_nil ?_
                refine Sm_norm (e2 := [(0, .gl 4 (List.length l56)), (1, .fn 69 []), (5, .int .i64 ((i224 : Nat) : Int)), (7, .int .i64 ((List.length l56 : Nat) : Int)), (8, .int .i64 ((i224 : Nat) : Int))]) (H1 := [.cells [.bool a1.never, .lst (List.map encFct a1.l) false], .cells [.bool b2.never, .lst (List.map encFct b2.l) false], .cells [.bool false, .lst [] true], growM 2 encFct l6, openM 2 encFct l56, .cells [.bool false, .lst [] true]]) (H2 := [.cells [.bool a1.never, .lst (List.map encFct a1.l) false], .cells [.bool b2.never, .lst (List.map encFct b2.l) false], .cells [.bool false, .lst [] true], growM 2 encFct l6, openM 2 encFct l56, .cells [.bool false, .lst [] true]]) rfl (by repeat (first | exact rzz | apply rcc rfl | apply rnn rfl)) rfl (?_ : GL _ _ _ _ _)
                refine L_seq ?_
                refine L_stmt ?_
                refine L_reg ?_
                refine G_p rfl rfl rfl ?_
                refine G_p rfl rfl rfl ?_
                refine G_p rfl rfl rfl ?_
                obtain ⟨e228, he228, hr⟩ := bind_s hr
                refine G_h rfl rfl rfl (iao_ev encFct_w1 rfl rfl rfl rfl (idx_s he228).1 (map_get (x := e228) (idx_s he228).2)) ?_
                refine G_h (v := .agg (cFct e228)) rfl rfl rfl (ldao_ev (off := 0) rfl rfl rfl rfl (idx_s he228).2 (by decide) (by decide) (y0c _) rfl) ?_
                obtain ⟨r229, hr229, hr⟩ := bind_s hr
                refine G_cv rfl rfl rfl (CA_of (as := [.agg (cFct e228)]) rfl (y2g hr229)) ?_
                refine G_nil ?_
                refine L_nil ?_
                refine Sm_norm (e2 := [(0, .gl 4 (List.length l56)), (1, .fn 69 []), (5, .int .i64 ((i224 : Nat) : Int)), (7, .int .i64 ((List.length l56 : Nat) : Int)), (8, .int .i64 ((i224 : Nat) : Int)), (16, .bool r229)]) (H1 := [.cells [.bool a1.never, .lst (List.map encFct a1.l) false], .cells [.bool b2.never, .lst (List.map encFct b2.l) false], .cells [.bool false, .lst [] true], growM 2 encFct l6, openM 2 encFct l56, .cells [.bool false, .lst [] true]]) (H2 := [.cells [.bool a1.never, .lst (List.map encFct a1.l) false], .cells [.bool b2.never, .lst (List.map encFct b2.l) false], .cells [.bool false, .lst [] true], growM 2 encFct l6, openM 2 encFct l56, .cells [.bool false, .lst [] true]]) rfl (by repeat (first | exact rzz | apply rcc rfl | apply rnn rfl)) rfl (?_ : GL _ _ _ _ _)
                rcases cond_s hr with ⟨hc16, hr⟩ | ⟨hc16, hr⟩
                · refine L_T rfl hc16 ?_
                  refine L_seq ?_
                  refine L_reg ?_
                  refine G_p rfl rfl rfl ?_
                  refine G_p rfl rfl rfl ?_
                  refine G_nil ?_
                  refine L_ret ?_
                  refine Blk_ret ?_
                  refine Sm_ret ?_
                  refine Rd_ret ?_
                  refine Blk_ret ?_
                  refine Sm_ret ?_
                  refine ⟨_, rfl, (?_ : GO _ _ _ ((10, .int .i64 ((i224 : Nat) : Int)) :: _) [.cells [.bool a1.never, .lst (List.map encFct a1.l) false], .cells [.bool b2.never, .lst (List.map encFct b2.l) false], .cells [.bool false, .lst [] true], growM 2 encFct l6, openM 2 encFct l56, .cells [.bool false, .lst [] true]] _)⟩
                  refine G_p rfl rfl rfl ?_
                  refine G_nil ?_
                  refine L_nil ?_
                  exact Sm_norm (e2 := [(0, .gl 4 (List.length l56)), (1, .fn 69 []), (5, .int .i64 ((i224 : Nat) : Int))]) (H1 := [.cells [.bool a1.never, .lst (List.map encFct a1.l) false], .cells [.bool b2.never, .lst (List.map encFct b2.l) false], .cells [.bool false, .lst [] true], growM 2 encFct l6, openM 2 encFct l56, .cells [.bool false, .lst [] true]]) (H2 := [.cells [.bool a1.never, .lst (List.map encFct a1.l) false], .cells [.bool b2.never, .lst (List.map encFct b2.l) false], .cells [.bool false, .lst [] true], growM 2 encFct l6, openM 2 encFct l56, .cells [.bool false, .lst [] true]]) rfl (by repeat (first | exact rzz | apply rcc rfl | apply rnn rfl)) rfl ⟨((i224 : Nat) : Int), rfl, rfl, hr⟩
                · refine L_F rfl hc16 ?_
                  refine L_skip ?_
                  refine L_nil ?_
                  refine Blk_norm (?_ : GL _ _ _ _ _)
                  refine L_nil ?_
                  refine Sm_norm (e2 := [(0, .gl 4 (List.length l56)), (1, .fn 69 []), (7, .int .i64 ((List.length l56 : Nat) : Int)), (8, .int .i64 ((i224 : Nat) : Int))]) (H1 := [.cells [.bool a1.never, .lst (List.map encFct a1.l) false], .cells [.bool b2.never, .lst (List.map encFct b2.l) false], .cells [.bool false, .lst [] true], growM 2 encFct l6, openM 2 encFct l56, .cells [.bool false, .lst [] true]]) (H2 := [.cells [.bool a1.never, .lst (List.map encFct a1.l) false], .cells [.bool b2.never, .lst (List.map encFct b2.l) false], .cells [.bool false, .lst [] true], growM 2 encFct l6, openM 2 encFct l56, .cells [.bool false, .lst [] true]]) rfl (by repeat (first | exact rzz | apply rcc rfl | apply rnn rfl)) rfl (?_ : GL _ _ _ _ _)
                  refine L_reg ?_
                  refine G_v (.int .i64 ((i224 + 1 : Nat) : Int)) rfl rfl rfl (congrArg _ (wrap_next hLq222 hlti224)) ?_
                  refine G_p rfl rfl rfl ?_
                  refine G_nil ?_
                  refine L_nil ?_
                  refine Rd_norm ⟨(), ?_, rfl, hr⟩
                  show restr _ _ = [(8, .int .i64 (((i224 + 1) : Nat) : Int)), (0, .gl 4 (List.length l56)), (1, .fn 69 []), (7, .int .i64 ((List.length l56 : Nat) : Int))]
                  (repeat (first | exact rzz | apply rcc rfl | apply rnn rfl))
            · rintro ⟨⟩ hr
              show GL _ _ [] [.cells [.bool a1.never, .lst (List.map encFct a1.l) false], .cells [.bool b2.never, .lst (List.map encFct b2.l) false], .cells [.bool false, .lst [] true], growM 2 encFct l6, openM 2 encFct l56, .cells [.bool false, .lst [] true]] _
              replace hr : y2p n l56 = some r := hr
              unfold y2p at hr
              refine L_seq ?_
              refine L_reg ?_
              refine G_p rfl rfl rfl ?_
              refine G_nil ?_
              refine L_ret ?_
              refine ⟨_, rfl, (?_ : GO _ _ _ ((10, .int .i64 (-1)) :: _) [.cells [.bool a1.never, .lst (List.map encFct a1.l) false], .cells [.bool b2.never, .lst (List.map encFct b2.l) false], .cells [.bool false, .lst [] true], growM 2 encFct l6, openM 2 encFct l56, .cells [.bool false, .lst [] true]] _)⟩
              refine G_p rfl rfl rfl ?_
              refine G_nil ?_
              refine L_nil ?_
              exact Sm_norm (e2 := [(0, .gl 4 (List.length l56)), (1, .fn 69 []), (5, .int .i64 (-1))]) (H1 := [.cells [.bool a1.never, .lst (List.map encFct a1.l) false], .cells [.bool b2.never, .lst (List.map encFct b2.l) false], .cells [.bool false, .lst [] true], growM 2 encFct l6, openM 2 encFct l56, .cells [.bool false, .lst [] true]]) (H2 := [.cells [.bool a1.never, .lst (List.map encFct a1.l) false], .cells [.bool b2.never, .lst (List.map encFct b2.l) false], .cells [.bool false, .lst [] true], growM 2 encFct l6, openM 2 encFct l56, .cells [.bool false, .lst [] true]]) rfl (by repeat (first | exact rzz | apply rcc rfl | apply rnn rfl)) rfl ⟨(-1), rfl, rfl, hr⟩
          · rintro a128 hr
            show GL _ _ [(0, .gl 4 (List.length l56)), (1, .fn 69 []), (5, .int .i64 a128)] [.cells [.bool a1.never, .lst (List.map encFct a1.l) false], .cells [.bool b2.never, .lst (List.map encFct b2.l) false], .cells [.bool false, .lst [] true], growM 2 encFct l6, openM 2 encFct l56, .cells [.bool false, .lst [] true]] _
            replace hr : y1q n l56 a128 = some r := hr
            unfold y1q at hr
            refine L_seq ?_
            refine L_stmt ?_
            refine L_seq ?_
            refine L_stmt ?_
            refine L_reg ?_
            refine G_p rfl rfl rfl ?_
            refine G_p rfl rfl rfl ?_
            refine G_nil ?_
            refine L_nil ?_
            refine Sm_norm (e2 := [(0, .gl 4 (List.length l56)), (1, .fn 69 []), (5, .int .i64 a128), (12, .bool (decide (a128 = (-1))))]) (H1 := [.cells [.bool a1.never, .lst (List.map encFct a1.l) false], .cells [.bool b2.never, .lst (List.map encFct b2.l) false], .cells [.bool false, .lst [] true], growM 2 encFct l6, openM 2 encFct l56, .cells [.bool false, .lst [] true]]) (H2 := [.cells [.bool a1.never, .lst (List.map encFct a1.l) false], .cells [.bool b2.never, .lst (List.map encFct b2.l) false], .cells [.bool false, .lst [] true], growM 2 encFct l6, openM 2 encFct l56, .cells [.bool false, .lst [] true]]) rfl (by repeat (first | exact rzz | apply rcc rfl | apply rnn rfl)) rfl (?_ : GL _ _ _ _ _)
            rcases cond_s hr with ⟨hc12, hr⟩ | ⟨hc12, hr⟩
            · refine L_T rfl hc12 ?_
              refine L_seq ?_
              refine L_reg ?_
              refine G_p rfl rfl rfl ?_
              refine G_p rfl rfl rfl ?_
              refine G_nil ?_
              refine L_ret ?_
              refine Sm_ret ?_
              refine ⟨_, rfl, (?_ : GO _ _ _ ((4, .gl 4 (List.length l56)) :: _) [.cells [.bool a1.never, .lst (List.map encFct a1.l) false], .cells [.bool b2.never, .lst (List.map encFct b2.l) false], .cells [.bool false, .lst [] true], growM 2 encFct l6, openM 2 encFct l56, .cells [.bool false, .lst [] true]] _)⟩
              refine G_p (v := .agg [.bool false, .gl 4 (List.length l56)]) rfl rfl rfl ?_
              refine G_hn (H' := [.cells [.bool a1.never, .lst (List.map encFct a1.l) false], .cells [.bool b2.never, .lst (List.map encFct b2.l) false], .cells [.bool false, .lst [] true], growM 2 encFct l6, openM 2 encFct l56, .cells [.bool false, .gl 4 (List.length l56)]]) rfl rfl rfl (fun _ => rfl) ?_
              refine G_nil ?_
              refine L_nil ?_
              refine Sm_norm (e2 := [(2, .ptr 5 0)]) (H1 := [.cells [.bool a1.never, .lst (List.map encFct a1.l) false], .cells [.bool b2.never, .lst (List.map encFct b2.l) false], .cells [.bool false, .lst [] true], growM 2 encFct l6, openM 2 encFct l56, .cells [.bool false, .gl 4 (List.length l56)]]) (H2 := [.cells [.bool a1.never, .lst (List.map encFct a1.l) false], .cells [.bool b2.never, .lst (List.map encFct b2.l) false], .cells [.bool false, .lst [] true], growM 2 encFct l6, openM 2 encFct l56, .cells [.bool false, .gl 4 (List.length l56)]]) rfl (by repeat (first | exact rzz | apply rcc rfl | apply rnn rfl)) rfl (?_ : GL _ _ _ _ _)
              refine L_seq ?_
              refine L_shutl (H' := [.cells [.bool a1.never, .lst (List.map encFct a1.l) false], .cells [.bool b2.never, .lst (List.map encFct b2.l) false], .cells [.bool false, .lst [] true], growM 2 encFct l6, growM 2 encFct l56, .cells [.bool false, .gl 4 (List.length l56)]]) (seal_oC rfl rfl rfl rfl rfl rfl) ?_
              refine L_ret ?_
              refine ⟨_, rfl, (?_ : GO _ _ _ ((19, .agg [.bool false, .gl 4 (List.length l56)]) :: _) [.cells [.bool a1.never, .lst (List.map encFct a1.l) false], .cells [.bool b2.never, .lst (List.map encFct b2.l) false], .cells [.bool false, .lst [] true], growM 2 encFct l6, growM 2 encFct l56] _)⟩
              refine G_hn (H' := [.cells [.bool a1.never, .lst (List.map encFct a1.l) false], .cells [.bool b2.never, .lst (List.map encFct b2.l) false], .cells [.bool false, .gl 4 (List.length l56)], growM 2 encFct l6, growM 2 encFct l56]) rfl rfl rfl (fun _ => rfl) ?_
              refine G_nil ?_
              refine L_ret ?_
              have hr := some_s hr
              subst hr
              exact ⟨_, rfl, _, (shutR_agg (y26 rfl (y26 (shutR_gl rfl) rfl))), rfl⟩
            · refine L_F rfl hc12 ?_
              refine L_skip ?_
              refine L_nil ?_
              refine Sm_norm (e2 := [(0, .gl 4 (List.length l56)), (1, .fn 69 []), (5, .int .i64 a128)]) (H1 := [.cells [.bool a1.never, .lst (List.map encFct a1.l) false], .cells [.bool b2.never, .lst (List.map encFct b2.l) false], .cells [.bool false, .lst [] true], growM 2 encFct l6, openM 2 encFct l56, .cells [.bool false, .lst [] true]]) (H2 := [.cells [.bool a1.never, .lst (List.map encFct a1.l) false], .cells [.bool b2.never, .lst (List.map encFct b2.l) false], .cells [.bool false, .lst [] true], growM 2 encFct l6, openM 2 encFct l56, .cells [.bool false, .lst [] true]]) rfl (by repeat (first | exact rzz | apply rcc rfl | apply rnn rfl)) rfl (?_ : GL _ _ _ _ _)
              refine L_seq ?_
              refine L_stmtJ (S := List Fct × Int) (fun s => [(0, .gl 4 (List.length s.1)), (5, .int .i64 s.2)]) (fun s => [.cells [.bool a1.never, .lst (List.map encFct a1.l) false], .cells [.bool b2.never, .lst (List.map encFct b2.l) false], .cells [.bool false, .lst [] true], growM 2 encFct l6, openM 2 encFct s.1, .cells [.bool false, .lst [] true]]) (fun s => y2n s.1 s.2 = some r) ?_ ?_
              · skip
                refine L_seq ?_
                refine L_stmt ?_
                refine L_reg ?_
                refine G_p rfl rfl rfl ?_
                refine G_p rfl rfl rfl ?_
                refine G_p rfl rfl rfl ?_
                refine G_nil ?_
                refine L_nil ?_
                refine Sm_norm (e2 := [(0, .gl 4 (List.length l56)), (1, .fn 69 []), (5, .int .i64 a128), (6, .int .i64 (IntKind.wrap .i64 (a128 + 1)))]) (H1 := [.cells [.bool a1.never, .lst (List.map encFct a1.l) false], .cells [.bool b2.never, .lst (List.map encFct b2.l) false], .cells [.bool false, .lst [] true], growM 2 encFct l6, openM 2 encFct l56, .cells [.bool false, .lst [] true]]) (H2 := [.cells [.bool a1.never, .lst (List.map encFct a1.l) false], .cells [.bool b2.never, .lst (List.map encFct b2.l) false], .cells [.bool false, .lst [] true], growM 2 encFct l6, openM 2 encFct l56, .cells [.bool false, .lst [] true]]) rfl (by repeat (first | exact rzz | apply rcc rfl | apply rnn rfl)) rfl (?_ : GL _ _ _ _ _)
                refine L_block ?_
                refine L_while (S := List Fct × Int × Int) n (fun s => [(5, .int .i64 s.2.1), (6, .int .i64 s.2.2), (0, .gl 4 (List.length s.1)), (1, .fn 69 [])]) (fun s => [.cells [.bool a1.never, .lst (List.map encFct a1.l) false], .cells [.bool b2.never, .lst (List.map encFct b2.l) false], .cells [.bool false, .lst [] true], growM 2 encFct l6, openM 2 encFct s.1, .cells [.bool false, .lst [] true]]) (fun k s => y19 k s.1 s.2.1 s.2.2 = some r) ((l56, a128, (IntKind.wrap .i64 (a128 + 1)))) ?_ rfl hr ?_ ?_
                · show restr _ _ = [(5, .int .i64 a128), (6, .int .i64 (IntKind.wrap .i64 (a128 + 1))), (0, .gl 4 (List.length l56)), (1, .fn 69 [])]
                  (repeat (first | exact rzz | apply rcc rfl | apply rnn rfl))
                · rintro ⟨l170, a171, a172⟩ hr; exact absurd hr (by simp [y19])
                · rintro m6 ⟨l170, a171, a172⟩ hr
                  show GL _ _ [(5, .int .i64 a171), (6, .int .i64 a172), (0, .gl 4 (List.length l170)), (1, .fn 69 [])] [.cells [.bool a1.never, .lst (List.map encFct a1.l) false], .cells [.bool b2.never, .lst (List.map encFct b2.l) false], .cells [.bool false, .lst [] true], growM 2 encFct l6, openM 2 encFct l170, .cells [.bool false, .lst [] true]] _
                  replace hr : y19 (m6 + 1) l170 a171 a172 = some r := hr
                  rw [y19] at hr
                  refine L_seq ?_
                  refine L_stmt ?_
                  refine L_seq ?_
                  refine L_stmt ?_
                  refine L_reg ?_
                  refine G_p rfl rfl rfl ?_
                  refine G_p rfl rfl rfl ?_
                  refine G_h rfl rfl rfl (fun _ => rfl) ?_
                  refine G_p rfl rfl rfl ?_
                  refine G_nil ?_
                  refine L_nil ?_
                  refine Sm_norm (e2 := [(0, .gl 4 (List.length l170)), (1, .fn 69 []), (5, .int .i64 a171), (6, .int .i64 a172), (19, .bool (decide (a172 < ((List.length l170 : Nat) : Int))))]) (H1 := [.cells [.bool a1.never, .lst (List.map encFct a1.l) false], .cells [.bool b2.never, .lst (List.map encFct b2.l) false], .cells [.bool false, .lst [] true], growM 2 encFct l6, openM 2 encFct l170, .cells [.bool false, .lst [] true]]) (H2 := [.cells [.bool a1.never, .lst (List.map encFct a1.l) false], .cells [.bool b2.never, .lst (List.map encFct b2.l) false], .cells [.bool false, .lst [] true], growM 2 encFct l6, openM 2 encFct l170, .cells [.bool false, .lst [] true]]) rfl (by repeat (first | exact rzz | apply rcc rfl | apply rnn rfl)) rfl (?_ : GL _ _ _ _ _)
                  rcases cond_s hr with ⟨hc19, hr⟩ | ⟨hc19, hr⟩
                  · refine L_T rfl hc19 ?_
                    refine L_skip ?_
                    refine L_nil ?_
                    refine Sm_norm (e2 := [(0, .gl 4 (List.length l170)), (1, .fn 69 []), (5, .int .i64 a171), (6, .int .i64 a172)]) (H1 := [.cells [.bool a1.never, .lst (List.map encFct a1.l) false], .cells [.bool b2.never, .lst (List.map encFct b2.l) false], .cells [.bool false, .lst [] true], growM 2 encFct l6, openM 2 encFct l170, .cells [.bool false, .lst [] true]]) (H2 := [.cells [.bool a1.never, .lst (List.map encFct a1.l) false], .cells [.bool b2.never, .lst (List.map encFct b2.l) false], .cells [.bool false, .lst [] true], growM 2 encFct l6, openM 2 encFct l170, .cells [.bool false, .lst [] true]]) rfl (by repeat (first | exact rzz | apply rcc rfl | apply rnn rfl)) rfl (?_ : GL _ _ _ _ _)
                    refine L_seq ?_
                    refine L_stmt ?_
                    refine L_block ?_
                    refine L_seq ?_
                    refine L_stmt ?_
                    refine L_reg ?_
                    refine G_p rfl rfl rfl ?_
                    refine G_p rfl rfl rfl ?_
                    obtain ⟨e188, he188, hr⟩ := bind_s hr
                    refine G_h rfl rfl rfl (iao_ev encFct_w1 rfl rfl rfl rfl (idx_s he188).1 (map_get (x := e188) (idx_s he188).2)) ?_
                    refine G_h (v := .agg (cFct e188)) rfl rfl rfl (ldao_ev (off := 0) rfl rfl rfl rfl (idx_s he188).2 (by decide) (by decide) (y0c _) rfl) ?_
                    refine G_n (B := .cells [.int .i64 0, .int .i64 0]) rfl rfl rfl ?_
                    refine G_hn (H' := [.cells [.bool a1.never, .lst (List.map encFct a1.l) false], .cells [.bool b2.never, .lst (List.map encFct b2.l) false], .cells [.bool false, .lst [] true], growM 2 encFct l6, openM 2 encFct l170, .cells [.bool false, .lst [] true], .cells [.int .i64 e188.var, .int .i64 e188.tags]]) rfl rfl rfl (fun _ => rfl) ?_
                    refine G_nil ?_
                    refine L_nil ?_
                    refine Sm_norm (e2 := [(0, .gl 4 (List.length l170)), (1, .fn 69 []), (5, .int .i64 a171), (6, .int .i64 a172), (7, .ptr 6 0)]) (H1 := [.cells [.bool a1.never, .lst (List.map encFct a1.l) false], .cells [.bool b2.never, .lst (List.map encFct b2.l) false], .cells [.bool false, .lst [] true], growM 2 encFct l6, openM 2 encFct l170, .cells [.bool false, .lst [] true], .cells [.int .i64 e188.var, .int .i64 e188.tags]]) (H2 := [.cells [.bool a1.never, .lst (List.map encFct a1.l) false], .cells [.bool b2.never, .lst (List.map encFct b2.l) false], .cells [.bool false, .lst [] true], growM 2 encFct l6, openM 2 encFct l170, .cells [.bool false, .lst [] true], .cells [.int .i64 e188.var, .int .i64 e188.tags]]) rfl (by repeat (first | exact rzz | apply rcc rfl | apply rnn rfl)) rfl (?_ : GL _ _ _ _ _)
                    refine L_seq ?_
                    refine L_stmt ?_
                    refine L_reg ?_
                    refine G_p rfl rfl rfl ?_
                    refine G_h (v := .agg (cFct e188)) rfl rfl rfl (fun _ => rfl) ?_
                    obtain ⟨r189, hr189, hr⟩ := bind_s hr
                    refine G_cv rfl rfl rfl (CA_of (as := [.agg (cFct e188)]) rfl (y2g hr189)) ?_
                    refine G_p rfl rfl rfl ?_
                    refine G_nil ?_
                    refine L_nil ?_
                    refine Sm_norm (e2 := [(0, .gl 4 (List.length l170)), (1, .fn 69 []), (5, .int .i64 a171), (6, .int .i64 a172), (7, .ptr 6 0), (29, .bool (!r189))]) (H1 := [.cells [.bool a1.never, .lst (List.map encFct a1.l) false], .cells [.bool b2.never, .lst (List.map encFct b2.l) false], .cells [.bool false, .lst [] true], growM 2 encFct l6, openM 2 encFct l170, .cells [.bool false, .lst [] true], .cells [.int .i64 e188.var, .int .i64 e188.tags]]) (H2 := [.cells [.bool a1.never, .lst (List.map encFct a1.l) false], .cells [.bool b2.never, .lst (List.map encFct b2.l) false], .cells [.bool false, .lst [] true], growM 2 encFct l6, openM 2 encFct l170, .cells [.bool false, .lst [] true], .cells [.int .i64 e188.var, .int .i64 e188.tags]]) rfl (by repeat (first | exact rzz | apply rcc rfl | apply rnn rfl)) rfl (?_ : GL _ _ _ _ _)
                    rcases cond_s hr with ⟨hc29, hr⟩ | ⟨hc29, hr⟩
                    · refine L_T rfl hc29 ?_
                      refine L_seq ?_
                      refine L_stmt ?_
                      refine L_reg ?_
                      refine G_p rfl rfl rfl ?_
                      refine G_p rfl rfl rfl ?_
                      refine G_h (v := .agg (cFct e188)) rfl rfl rfl (fun _ => rfl) ?_
                      obtain ⟨e190, he190, hr⟩ := bind_s hr
                      refine G_h rfl rfl rfl (iao_ev encFct_w1 rfl rfl rfl rfl (idx_s he190).1 (map_get (x := e190) (idx_s he190).2)) ?_
                      obtain ⟨l191, hl191, hr⟩ := bind_s hr
                      refine G_hn (H' := [.cells [.bool a1.never, .lst (List.map encFct a1.l) false], .cells [.bool b2.never, .lst (List.map encFct b2.l) false], .cells [.bool false, .lst [] true], growM 2 encFct l6, openM 2 encFct l191, .cells [.bool false, .lst [] true], .cells [.int .i64 e188.var, .int .i64 e188.tags]]) rfl rfl rfl (stko_ev (off := 0) rfl rfl rfl rfl rfl (idx_s he190).2 (by decide) (by decide) ⟨rfl, rfl⟩ rfl (by (try simp only [encFct_eq]); rfl) (setL_s hl191) rfl) ?_
                      refine G_nil ?_
                      refine L_nil ?_
                      refine Sm_norm (e2 := [(0, .gl 4 (List.length l170)), (1, .fn 69 []), (5, .int .i64 a171), (6, .int .i64 a172)]) (H1 := [.cells [.bool a1.never, .lst (List.map encFct a1.l) false], .cells [.bool b2.never, .lst (List.map encFct b2.l) false], .cells [.bool false, .lst [] true], growM 2 encFct l6, openM 2 encFct l191, .cells [.bool false, .lst [] true], .cells [.int .i64 e188.var, .int .i64 e188.tags]]) (H2 := [.cells [.bool a1.never, .lst (List.map encFct a1.l) false], .cells [.bool b2.never, .lst (List.map encFct b2.l) false], .cells [.bool false, .lst [] true], growM 2 encFct l6, openM 2 encFct l191, .cells [.bool false, .lst [] true], .cells [.int .i64 e188.var, .int .i64 e188.tags]]) rfl (by repeat (first | exact rzz | apply rcc rfl | apply rnn rfl)) rfl (?_ : GL _ _ _ _ _)
                      refine L_reg ?_
                      refine G_p rfl rfl rfl ?_
                      refine G_p rfl rfl rfl ?_
                      refine G_p rfl rfl rfl ?_
                      refine G_nil ?_
                      refine L_nil ?_
                      refine Blk_norm (?_ : GL _ _ _ _ _)
                      refine L_nil ?_
                      refine Sm_norm (e2 := [(0, .gl 4 (List.length l170)), (1, .fn 69 []), (5, .int .i64 (IntKind.wrap .i64 (a171 + 1))), (6, .int .i64 a172)]) (H1 := [.cells [.bool a1.never, .lst (List.map encFct a1.l) false], .cells [.bool b2.never, .lst (List.map encFct b2.l) false], .cells [.bool false, .lst [] true], growM 2 encFct l6, openM 2 encFct l191, .cells [.bool false, .lst [] true], .cells [.int .i64 e188.var, .int .i64 e188.tags]]) (H2 := [.cells [.bool a1.never, .lst (List.map encFct a1.l) false], .cells [.bool b2.never, .lst (List.map encFct b2.l) false], .cells [.bool false, .lst [] true], growM 2 encFct l6, openM 2 encFct l191, .cells [.bool false, .lst [] true]]) rfl (by repeat (first | exact rzz | apply rcc rfl | apply rnn rfl)) rfl (?_ : GL _ _ _ _ _)
                      refine L_reg ?_
                      refine G_p rfl rfl rfl ?_
                      refine G_p rfl rfl rfl ?_
                      refine G_p rfl rfl rfl ?_
                      refine G_nil ?_
                      refine L_nil ?_
                      refine Rd_norm ⟨(l191, (IntKind.wrap .i64 (a171 + 1)), (IntKind.wrap .i64 (a172 + 1))), ?_, rfl, hr⟩
                      show restr _ _ = [(5, .int .i64 (IntKind.wrap .i64 (a171 + 1))), (6, .int .i64 (IntKind.wrap .i64 (a172 + 1))), (0, .gl 4 (List.length l191)), (1, .fn 69 [])]
                      (try rw [show List.length l191 = List.length l170 from (setL_len hl191)])
                      (repeat (first | exact rzz | apply rcc rfl | apply rnn rfl))
                    · refine L_F rfl hc29 ?_
                      refine L_skip ?_
                      refine L_nil ?_
                      refine Blk_norm (?_ : GL _ _ _ _ _)
                      refine L_nil ?_
                      refine Sm_norm (e2 := [(0, .gl 4 (List.length l170)), (1, .fn 69 []), (5, .int .i64 a171), (6, .int .i64 a172)]) (H1 := [.cells [.bool a1.never, .lst (List.map encFct a1.l) false], .cells [.bool b2.never, .lst (List.map encFct b2.l) false], .cells [.bool false, .lst [] true], growM 2 encFct l6, openM 2 encFct l170, .cells [.bool false, .lst [] true], .cells [.int .i64 e188.var, .int .i64 e188.tags]]) (H2 := [.cells [.bool a1.never, .lst (List.map encFct a1.l) false], .cells [.bool b2.never, .lst (List.map encFct b2.l) false], .cells [.bool false, .lst [] true], growM 2 encFct l6, openM 2 encFct l170, .cells [.bool false, .lst [] true]]) rfl (by repeat (first | exact rzz | apply rcc rfl | apply rnn rfl)) rfl (?_ : GL _ _ _ _ _)
                      refine L_reg ?_
                      refine G_p rfl rfl rfl ?_
                      refine G_p rfl rfl rfl ?_
                      refine G_p rfl rfl rfl ?_
                      refine G_nil ?_
                      refine L_nil ?_
                      refine Rd_norm ⟨(l170, a171, (IntKind.wrap .i64 (a172 + 1))), ?_, rfl, hr⟩
                      show restr _ _ = [(5, .int .i64 a171), (6, .int .i64 (IntKind.wrap .i64 (a172 + 1))), (0, .gl 4 (List.length l170)), (1, .fn 69 [])]
                      (repeat (first | exact rzz | apply rcc rfl | apply rnn rfl))
                  · refine L_F rfl hc19 ?_
                    refine L_exit ?_
                    refine Sm_exit ?_
                    refine Rd_exit ?_
                    refine Blk_exit (?_ : GL _ _ _ _ _)
                    refine L_nil ?_
                    exact Sm_norm (e2 := [(0, .gl 4 (List.length l170)), (5, .int .i64 a171)]) (H1 := [.cells [.bool a1.never, .lst (List.map encFct a1.l) false], .cells [.bool b2.never, .lst (List.map encFct b2.l) false], .cells [.bool false, .lst [] true], growM 2 encFct l6, openM 2 encFct l170, .cells [.bool false, .lst [] true]]) (H2 := [.cells [.bool a1.never, .lst (List.map encFct a1.l) false], .cells [.bool b2.never, .lst (List.map encFct b2.l) false], .cells [.bool false, .lst [] true], growM 2 encFct l6, openM 2 encFct l170, .cells [.bool false, .lst [] true]]) rfl (by repeat (first | exact rzz | apply rcc rfl | apply rnn rfl)) rfl ⟨(l170, a171), rfl, rfl, hr⟩
              · rintro ⟨l156, a157⟩ hr
                show GL _ _ [(0, .gl 4 (List.length l156)), (5, .int .i64 a157)] [.cells [.bool a1.never, .lst (List.map encFct a1.l) false], .cells [.bool b2.never, .lst (List.map encFct b2.l) false], .cells [.bool false, .lst [] true], growM 2 encFct l6, openM 2 encFct l156, .cells [.bool false, .lst [] true]] _
                replace hr : y2n l156 a157 = some r := hr
                unfold y2n at hr
                refine L_seq ?_
                refine L_stmt ?_
                refine L_reg ?_
                refine G_p rfl rfl rfl ?_
                refine G_p rfl rfl rfl ?_
                obtain ⟨k158, hk158, hr⟩ := bind_s hr
                refine G_h rfl rfl rfl (slcT_ev rfl rfl rfl rfl hk158) ?_
                obtain ⟨l159, hl159, hr⟩ := bind_s hr
                refine G_hn (H' := [.cells [.bool a1.never, .lst (List.map encFct a1.l) false], .cells [.bool b2.never, .lst (List.map encFct b2.l) false], .cells [.bool false, .lst [] true], growM 2 encFct l6, openM 2 encFct l159, .cells [.bool false, .lst [] true]]) rfl rfl rfl (clrT_ev (z := (Fct.mk 0 0)) encFct_w1 rfl rfl rfl hk158 hl159 (by (try simp only [encFct_eq]); rfl) rfl rfl (fun _ => rfl) rfl) ?_
                refine G_nil ?_
                refine L_nil ?_
                refine Sm_norm (e2 := [(0, .gl 4 (List.length l156)), (5, .int .i64 a157)]) (H1 := [.cells [.bool a1.never, .lst (List.map encFct a1.l) false], .cells [.bool b2.never, .lst (List.map encFct b2.l) false], .cells [.bool false, .lst [] true], growM 2 encFct l6, openM 2 encFct l159, .cells [.bool false, .lst [] true]]) (H2 := [.cells [.bool a1.never, .lst (List.map encFct a1.l) false], .cells [.bool b2.never, .lst (List.map encFct b2.l) false], .cells [.bool false, .lst [] true], growM 2 encFct l6, openM 2 encFct l159, .cells [.bool false, .lst [] true]]) rfl (by repeat (first | exact rzz | apply rcc rfl | apply rnn rfl)) rfl (?_ : GL _ _ _ _ _)
                refine L_seq ?_
                refine L_reg ?_
                refine G_p rfl rfl rfl ?_
                refine G_p rfl rfl rfl ?_
                obtain ⟨hNEl160, hr⟩ := guard_s hr
                obtain ⟨l160, hl160, hr⟩ := bind_s hr
                refine G_h (H' := [.cells [.bool a1.never, .lst (List.map encFct a1.l) false], .cells [.bool b2.never, .lst (List.map encFct b2.l) false], .cells [.bool false, .lst [] true], growM 2 encFct l6, .dead, .cells [.bool false, .lst [] true], openX 2 encFct l160]) rfl rfl rfl (slcO_ev encFct_w1 (clrL_len hk158 hl159) rfl rfl rfl (neb_s hNEl160) hl160 rfl) ?_
                refine G_p rfl rfl rfl ?_
                refine G_nil ?_
                refine L_ret ?_
                refine ⟨_, rfl, (?_ : GO _ _ _ ((4, .gl 6 (List.length l160)) :: _) [.cells [.bool a1.never, .lst (List.map encFct a1.l) false], .cells [.bool b2.never, .lst (List.map encFct b2.l) false], .cells [.bool false, .lst [] true], growM 2 encFct l6, .dead, .cells [.bool false, .lst [] true], openX 2 encFct l160] _)⟩
                refine G_p (v := .agg [.bool false, .gl 6 (List.length l160)]) rfl rfl rfl ?_
                refine G_hn (H' := [.cells [.bool a1.never, .lst (List.map encFct a1.l) false], .cells [.bool b2.never, .lst (List.map encFct b2.l) false], .cells [.bool false, .lst [] true], growM 2 encFct l6, .dead, .cells [.bool false, .gl 6 (List.length l160)], openX 2 encFct l160]) rfl rfl rfl (fun _ => rfl) ?_
                refine G_nil ?_
                refine L_nil ?_
                refine Sm_norm (e2 := [(2, .ptr 5 0)]) (H1 := [.cells [.bool a1.never, .lst (List.map encFct a1.l) false], .cells [.bool b2.never, .lst (List.map encFct b2.l) false], .cells [.bool false, .lst [] true], growM 2 encFct l6, .dead, .cells [.bool false, .gl 6 (List.length l160)], openX 2 encFct l160]) (H2 := [.cells [.bool a1.never, .lst (List.map encFct a1.l) false], .cells [.bool b2.never, .lst (List.map encFct b2.l) false], .cells [.bool false, .lst [] true], growM 2 encFct l6, .dead, .cells [.bool false, .gl 6 (List.length l160)], openX 2 encFct l160]) rfl (by repeat (first | exact rzz | apply rcc rfl | apply rnn rfl)) rfl (?_ : GL _ _ _ _ _)
                refine L_seq ?_
                refine L_shutl (H' := [.cells [.bool a1.never, .lst (List.map encFct a1.l) false], .cells [.bool b2.never, .lst (List.map encFct b2.l) false], .cells [.bool false, .lst [] true], growM 2 encFct l6, .dead, .cells [.bool false, .gl 6 (List.length l160)], growX 2 encFct l160]) (seal_xC rfl rfl rfl rfl rfl rfl) ?_
                refine L_ret ?_
                refine ⟨_, rfl, (?_ : GO _ _ _ ((19, .agg [.bool false, .gl 6 (List.length l160)]) :: _) [.cells [.bool a1.never, .lst (List.map encFct a1.l) false], .cells [.bool b2.never, .lst (List.map encFct b2.l) false], .cells [.bool false, .lst [] true], growM 2 encFct l6, .dead, .cells [.bool false, .gl 6 (List.length l160)], growX 2 encFct l160] _)⟩
                refine G_hn (H' := [.cells [.bool a1.never, .lst (List.map encFct a1.l) false], .cells [.bool b2.never, .lst (List.map encFct b2.l) false], .cells [.bool false, .gl 6 (List.length l160)], growM 2 encFct l6, .dead, .cells [.bool false, .gl 6 (List.length l160)], growX 2 encFct l160]) rfl rfl rfl (fun _ => rfl) ?_
                refine G_nil ?_
                refine L_ret ?_
                have hr := some_s hr
                subst hr
                exact ⟨_, rfl, _, (shutR_agg (y26 rfl (y26 (shutR_glX rfl rfl) rfl))), rfl⟩
noncomputable def y24 (a1 : Fts) (b2 : Fts) (l62 : List Fct) (l112 : List Fct) (l636 : List Fct) (l686 : List Fct) (l713 : List Fct) (e769 : Fct) (g829 : Fct) : Option Bool :=
  some (decide (g829.var = e769.var))
theorem y4v {a1 : Fts} {b2 : Fts} {l62 : List Fct} {l112 : List Fct} {l636 : List Fct} {l686 : List Fct} {l713 : List Fct} {e769 : Fct} {g829 : Fct} {r : Bool} (hr : y24 a1 b2 l62 l112 l636 l686 l713 e769 g829 = some r) : CA (tabOf tabL) false 43 [.agg (cFct g829), .ptr 8 0] [.cells [.bool a1.never, .lst (List.map encFct a1.l) false], .cells [.bool b2.never, .lst (List.map encFct b2.l) false], .cells [.bool false, .lst [] true], growM 2 encFct l62, openM 2 encFct l112, growM 2 encFct l636, openM 2 encFct l686, openM 2 encFct l713, .cells [.int .i64 e769.var, .int .i64 e769.tags]] (.bool r) [.cells [.bool a1.never, .lst (List.map encFct a1.l) false], .cells [.bool b2.never, .lst (List.map encFct b2.l) false], .cells [.bool false, .lst [] true], growM 2 encFct l62, openM 2 encFct l112, growM 2 encFct l636, openM 2 encFct l686, openM 2 encFct l713, .cells [.int .i64 e769.var, .int .i64 e769.tags]] := by
  refine ca_fin t43 (Or.inr rfl) ?_
  unfold y24 at hr
  refine L_seq ?_
  refine L_stmt ?_
  refine L_reg ?_
  refine G_n (B := .cells [.int .i64 g829.var, .int .i64 g829.tags]) rfl rfl rfl ?_
  refine G_p rfl rfl rfl ?_
  refine G_nil ?_
  refine L_nil ?_
  refine Sm_norm (e2 := [(1, .ptr 8 0), (2, .ptr 9 0)]) (H1 := [.cells [.bool a1.never, .lst (List.map encFct a1.l) false], .cells [.bool b2.never, .lst (List.map encFct b2.l) false], .cells [.bool false, .lst [] true], growM 2 encFct l62, openM 2 encFct l112, growM 2 encFct l636, openM 2 encFct l686, openM 2 encFct l713, .cells [.int .i64 e769.var, .int .i64 e769.tags], .cells [.int .i64 g829.var, .int .i64 g829.tags]]) (H2 := [.cells [.bool a1.never, .lst (List.map encFct a1.l) false], .cells [.bool b2.never, .lst (List.map encFct b2.l) false], .cells [.bool false, .lst [] true], growM 2 encFct l62, openM 2 encFct l112, growM 2 encFct l636, openM 2 encFct l686, openM 2 encFct l713, .cells [.int .i64 e769.var, .int .i64 e769.tags], .cells [.int .i64 g829.var, .int .i64 g829.tags]]) rfl (by repeat (first | exact rzz | apply rcc rfl | apply rnn rfl)) rfl (?_ : GL _ _ _ _ _)
  refine L_seq ?_
  refine L_reg ?_
  refine G_p rfl rfl rfl ?_
  refine G_h rfl rfl rfl (fun _ => rfl) ?_
  refine G_p rfl rfl rfl ?_
  refine G_h rfl rfl rfl (fun _ => rfl) ?_
  refine G_p rfl rfl rfl ?_
  refine G_p rfl rfl rfl ?_
  refine G_nil ?_
  refine L_ret ?_
  have hr := some_s hr
  subst hr
  exact ⟨_, rfl, rfl, rfl⟩
noncomputable def y2u (l507 : List Fct) (a508 : Int) : Option Fts :=
  ((tailL l507 a508).bind fun k509 => ((clrL l507 k509 (Fct.mk 0 0)).bind fun l510 => (cond (!List.isEmpty l510) ((subL l510 0 a508).bind fun l511 => some (Fts.mk false l511)) none)))
noncomputable def y1h : Nat → (List Fct) → Int → Int → Option Fts
  | 0, _, _, _ => none
  | m26 + 1, l521, a522, a523 => (cond (decide (a523 < ((List.length l521 : Nat) : Int))) ((idx l521 a523).bind fun e539 => ((y1a e539).bind fun r540 => (cond (!r540) ((idx l521 a522).bind fun e541 => ((setL l521 a522 e539).bind fun l542 => (y1h m26) l542 (IntKind.wrap .i64 (a522 + 1)) (IntKind.wrap .i64 (a523 + 1)))) ((y1h m26) l521 a522 (IntKind.wrap .i64 (a523 + 1)))))) (y2u l521 a522))
noncomputable def y1u (n : Nat) (l303 : List Fct) (a479 : Int) : Option Fts :=
  (cond (decide (a479 = (-1))) (some (Fts.mk false l303)) (y1h n l303 a479 (IntKind.wrap .i64 (a479 + 1))))
noncomputable def y30 (n : Nat) (l303 : List Fct) : Option Fts :=
  y1u n l303 (-1)
noncomputable def y1g (n : Nat) (l303 : List Fct) : List Fct → Nat → Option Fts
  | [], _ => y30 n l303
  | y574 :: rest576, i575 => ((idx l303 ((i575 : Nat) : Int)).bind fun e579 => ((y1a e579).bind fun r580 => (cond r580 (y1u n l303 ((i575 : Nat) : Int)) ((y1g n l303 rest576 (i575 + 1))))))
noncomputable def y1t (n : Nat) (l301 : List Fct) (l302 : List Fct) (l303 : List Fct) : Option Fts :=
  (cond (okLen l303) (y1g n l303 l303 0) none)
noncomputable def y1w (K33 : (List Fct) → Option Fts) (l768 : List Fct) : Option Fts :=
  K33 l768
noncomputable def y1v (l112 : List Fct) (l713 : List Fct) (e769 : Fct) (K33 : (List Fct) → Option Fts) (a789 : Int) : Option Fts :=
  (cond (decide (0 ≤ a789)) ((idx l112 a789).bind fun e790 => ((catL l713 [(Fct.mk e769.var (orB .i64 e769.tags e790.tags))]).bind fun l791 => y1w K33 l791)) (y1w K33 l713))
noncomputable def y2l (l112 : List Fct) (l713 : List Fct) (e769 : Fct) (K33 : (List Fct) → Option Fts) : Option Fts :=
  y1v l112 l713 e769 K33 (-1)
noncomputable def y17 (a1 : Fts) (b2 : Fts) (l62 : List Fct) (l112 : List Fct) (l636 : List Fct) (l686 : List Fct) (l713 : List Fct) (e769 : Fct) (K33 : (List Fct) → Option Fts) : List Fct → Nat → Option Fts
  | [], _ => y2l l112 l713 e769 K33
  | y823 :: rest825, i824 => ((idx l112 ((i824 : Nat) : Int)).bind fun e828 => ((y24 a1 b2 l62 l112 l636 l686 l713 e769 e828).bind fun r829 => (cond r829 (y1v l112 l713 e769 K33 ((i824 : Nat) : Int)) ((y17 a1 b2 l62 l112 l636 l686 l713 e769 K33 rest825 (i824 + 1))))))
noncomputable def y0n (n : Nat) (a1 : Fts) (b2 : Fts) (l62 : List Fct) (l112 : List Fct) (l636 : List Fct) (l686 : List Fct) : List Fct → Nat → (List Fct) → Option Fts
  | [], _, l713 => y1t n l636 l686 l713
  | y742 :: rest744, i743, l713 => ((idx l686 ((i743 : Nat) : Int)).bind fun e769 => (cond (okLen l112) (y17 a1 b2 l62 l112 l636 l686 l713 e769 (y0n n a1 b2 l62 l112 l636 l686 rest744 (i743 + 1)) l112 0) none))
noncomputable def y1z (n : Nat) (a1 : Fts) (b2 : Fts) (l62 : List Fct) (l112 : List Fct) (l636 : List Fct) (l686 : List Fct) : Option Fts :=
  (cond (okLen l686) (y0n n a1 b2 l62 l112 l636 l686 l686 0 []) none)
noncomputable def y23 (K38 : (List Fct) → Option Fts) (l878 : List Fct) : Option Fts :=
  K38 l878
noncomputable def y0x (n : Nat) (a1 : Fts) (b2 : Fts) (l62 : List Fct) (l112 : List Fct) (l636 : List Fct) : List Fct → Nat → (List Fct) → Option Fts
  | [], _, l845 => y1z n a1 b2 l62 l112 l636 l845
  | y863 :: rest865, i864, l845 => ((idx l636 ((i864 : Nat) : Int)).bind fun e879 => ((cond (decide (0 < ((List.length l845 : Nat) : Int))) (((idx l845 (IntKind.wrap .i64 (((List.length l845 : Nat) : Int) - 1))).bind fun e885 => some (decide (e885.var = e879.var)))) (some false)).bind fun v886 => (cond v886 ((idx l845 (IntKind.wrap .i64 (((List.length l845 : Nat) : Int) - 1))).bind fun e887 => ((idx l845 (IntKind.wrap .i64 (((List.length l845 : Nat) : Int) - 1))).bind fun e888 => ((setL l845 (IntKind.wrap .i64 (((List.length l845 : Nat) : Int) - 1)) (Fct.mk e888.var (andB .i64 e887.tags (andB .i64 e879.tags 255)))).bind fun l889 => y23 (y0x n a1 b2 l62 l112 l636 rest865 (i864 + 1)) l889))) ((catL l845 [(Fct.mk e879.var (andB .i64 e879.tags 255))]).bind fun l890 => y23 (y0x n a1 b2 l62 l112 l636 rest865 (i864 + 1)) l890))))
noncomputable def y2m (n : Nat) (a1 : Fts) (b2 : Fts) (l62 : List Fct) (l112 : List Fct) : Option Fts :=
  ((callG (y0b n a1.l) a1.l).bind fun l636 => (cond (okLen a1.l) (y0x n a1 b2 l62 l112 l636 a1.l 0 []) none))
noncomputable def y21 (n : Nat) (a1 : Fts) (b2 : Fts) (l62 : List Fct) (l112 : List Fct) : Option Fts :=
  (cond (okLen a1.l) (y2m n a1 b2 l62 l112) none)
noncomputable def y20 (K39 : (List Fct) → Option Fts) (l940 : List Fct) : Option Fts :=
  K39 l940
noncomputable def y10 (n : Nat) (a1 : Fts) (b2 : Fts) (l62 : List Fct) : List Fct → Nat → (List Fct) → Option Fts
  | [], _, l907 => y21 n a1 b2 l62 l907
  | y925 :: rest927, i926, l907 => ((idx l62 ((i926 : Nat) : Int)).bind fun e941 => ((cond (decide (0 < ((List.length l907 : Nat) : Int))) (((idx l907 (IntKind.wrap .i64 (((List.length l907 : Nat) : Int) - 1))).bind fun e947 => some (decide (e947.var = e941.var)))) (some false)).bind fun v948 => (cond v948 ((idx l907 (IntKind.wrap .i64 (((List.length l907 : Nat) : Int) - 1))).bind fun e949 => ((idx l907 (IntKind.wrap .i64 (((List.length l907 : Nat) : Int) - 1))).bind fun e950 => ((setL l907 (IntKind.wrap .i64 (((List.length l907 : Nat) : Int) - 1)) (Fct.mk e950.var (andB .i64 e949.tags (andB .i64 e941.tags 255)))).bind fun l951 => y20 (y10 n a1 b2 l62 rest927 (i926 + 1)) l951))) ((catL l907 [(Fct.mk e941.var (andB .i64 e941.tags 255))]).bind fun l952 => y20 (y10 n a1 b2 l62 rest927 (i926 + 1)) l952))))
noncomputable def y2i (n : Nat) (a1 : Fts) (b2 : Fts) : Option Fts :=
  ((callG (y0b n b2.l) b2.l).bind fun l62 => (cond (okLen b2.l) (y10 n a1 b2 l62 b2.l 0 []) none))
noncomputable def y4k (n : Nat) (a1 : Fts) (b2 : Fts) : Option Fts :=
  (cond a1.never ((y2y n b2 (Fts.mk false [])).bind fun r5 => some r5) (cond b2.never ((y2y n a1 (Fts.mk false [])).bind fun r6 => some r6) (cond (okLen b2.l) (y2i n a1 b2) none)))
end Go.Ev.Seat
