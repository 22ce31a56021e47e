/-
  Part 7 of a proof: NarrowFacts: for every input the law returns true, and what it was given reads behind the call as before. No conditions.
-/
import Derived.Test.YtoacjncdnnkbaaaP6
import Derived.OpenShut
namespace Go.Ev.Seat
set_option linter.unusedVariables false
set_option linter.unusedSimpArgs false
open Go Go.Ev
set_option maxRecDepth 20000
attribute [local irreducible] pcall callF
noncomputable def g_r06_tags_j1 (a23 : Int) : Option Int :=
  some a23
noncomputable def g_r06_tags_l2 (v2 : Int) : List Fct → Nat → Int → Option Int
  | [], _, a30 => g_r06_tags_j1 a30
  | y39 :: rest41, i40, a30 => (cond (decide (y39.var = v2)) ((g_r06_low y39.tags).bind fun r44 => (g_r06_tags_l2 v2 rest41 (i40 + 1)) (andB .i64 a30 r44)) ((g_r06_tags_l2 v2 rest41 (i40 + 1)) a30))
noncomputable def g_r06_tags (f1 : Fts) (v2 : Int) : Option Int :=
  (cond (okLen f1.l) (g_r06_tags_l2 v2 f1.l 0 255) none)
theorem g_r06_tags_ok {f1 : Fts} {v2 : Int} {r : Int} (hr : g_r06_tags f1 v2 = some r) : PRes (tabOf tabL) 41 [.agg (cFts f1), .int .i64 v2] (.int .i64 r) := by
  refine pres_fin t41 ?_
  unfold g_r06_tags at hr
  refine L_seq ?_
  refine L_stmt ?_
  refine L_reg ?_
  refine G_n (B := .cells [.bool f1.never, .lst (List.map encFct f1.l) false]) rfl rfl rfl ?_
  refine G_p rfl rfl rfl ?_
  refine G_nil ?_
  refine L_nil ?_
  refine Sm_norm (e2 := [(1, .int .i64 v2), (2, .ptr 0 0)]) (H1 := [.cells [.bool f1.never, .lst (List.map encFct f1.l) false]]) (H2 := [.cells [.bool f1.never, .lst (List.map encFct f1.l) false]]) rfl (by repeat (first | exact rzz | apply rcc rfl | apply rnn rfl)) rfl (?_ : GL _ _ _ _ _)
  refine L_seq ?_
  refine L_stmt ?_
  refine L_reg ?_
  refine G_p rfl rfl rfl ?_
  refine G_nil ?_
  refine L_nil ?_
  refine Sm_norm (e2 := [(1, .int .i64 v2), (2, .ptr 0 0), (5, .int .i64 255)]) (H1 := [.cells [.bool f1.never, .lst (List.map encFct f1.l) false]]) (H2 := [.cells [.bool f1.never, .lst (List.map encFct f1.l) false]]) rfl (by repeat (first | exact rzz | apply rcc rfl | apply rnn rfl)) rfl (?_ : GL _ _ _ _ _)
  refine L_seq ?_
  refine L_stmtJ (S := Int) (fun s => [(5, .int .i64 s)]) (fun s => [.cells [.bool f1.never, .lst (List.map encFct f1.l) false]]) (fun s => g_r06_tags_j1 s = some r) ?_ ?_
  · skip
    refine L_seq ?_
    refine L_stmt ?_
    refine L_reg ?_
    refine G_p rfl rfl rfl ?_
    refine G_nil ?_
    refine L_nil ?_
    refine Sm_norm (e2 := [(1, .int .i64 v2), (2, .ptr 0 0), (5, .int .i64 255), (6, .int .i64 0)]) (H1 := [.cells [.bool f1.never, .lst (List.map encFct f1.l) false]]) (H2 := [.cells [.bool f1.never, .lst (List.map encFct f1.l) false]]) rfl (by repeat (first | exact rzz | apply rcc rfl | apply rnn rfl)) rfl (?_ : GL _ _ _ _ _)
    refine L_block ?_
    obtain ⟨hLq38, hr⟩ := guard_s hr
    replace hLq38 := okLen_s hLq38
    refine L_range (X := Fct) (S := Int) f1.l (fun i40 s => [(5, .int .i64 s), (6, .int .i64 ((i40 : Nat) : Int)), (1, .int .i64 v2), (2, .ptr 0 0)]) (fun i40 s => [.cells [.bool f1.never, .lst (List.map encFct f1.l) false]]) (fun rest i40 s => g_r06_tags_l2 v2 rest i40 s = some r) (255) ?_ rfl hr ?_ ?_
    · show restr _ _ = [(5, .int .i64 255), (6, .int .i64 ((0 : Nat) : Int)), (1, .int .i64 v2), (2, .ptr 0 0)]
      (repeat (first | exact rzz | apply rcc rfl | apply rnn rfl))
    · rintro a30 hr
      show GL _ _ [(5, .int .i64 a30), (6, .int .i64 (((List.length f1.l) : Nat) : Int)), (1, .int .i64 v2), (2, .ptr 0 0)] [.cells [.bool f1.never, .lst (List.map encFct f1.l) false]] _
      replace hr : g_r06_tags_l2 v2 [] (List.length f1.l) a30 = some r := hr
      rw [g_r06_tags_l2] at hr
      refine L_seq ?_
      refine L_stmt ?_
      refine L_seq ?_
      refine L_stmt ?_
      refine L_reg ?_
      refine G_p rfl rfl rfl ?_
      refine G_p rfl rfl rfl ?_
      refine G_h (v := .lst (List.map encFct f1.l) false) rfl rfl rfl (fun _ => rfl) ?_
      refine G_h rfl rfl rfl (lenL_ev rfl (List.length_map _)) ?_
      refine G_v (.bool false) rfl rfl rfl (congrArg AVal.bool (decide_eq_false (by omega))) ?_
      refine G_nil ?_
      refine L_nil ?_
      refine Sm_norm (e2 := [(1, .int .i64 v2), (2, .ptr 0 0), (5, .int .i64 a30), (6, .int .i64 ((List.length f1.l : Nat) : Int)), (11, .bool false)]) (H1 := [.cells [.bool f1.never, .lst (List.map encFct f1.l) false]]) (H2 := [.cells [.bool f1.never, .lst (List.map encFct f1.l) false]]) rfl (by repeat (first | exact rzz | apply rcc rfl | apply rnn rfl)) rfl (?_ : GL _ _ _ _ _)
      refine L_F rfl rfl ?_
      refine L_exit ?_
      refine Sm_exit ?_
      refine Rd_exit ?_
      refine Blk_exit (?_ : GL _ _ _ _ _)
      refine L_nil ?_
      exact Sm_norm (e2 := [(5, .int .i64 a30)]) (H1 := [.cells [.bool f1.never, .lst (List.map encFct f1.l) false]]) (H2 := [.cells [.bool f1.never, .lst (List.map encFct f1.l) false]]) rfl (by repeat (first | exact rzz | apply rcc rfl | apply rnn rfl)) rfl ⟨a30, rfl, rfl, hr⟩
    · rintro y39 rest41 i40 a30 hy39 hlti40 hr
      show GL _ _ [(5, .int .i64 a30), (6, .int .i64 ((i40 : Nat) : Int)), (1, .int .i64 v2), (2, .ptr 0 0)] [.cells [.bool f1.never, .lst (List.map encFct f1.l) false]] _
      replace hr : g_r06_tags_l2 v2 (y39 :: rest41) i40 a30 = some r := hr
      rw [g_r06_tags_l2] at hr
      refine L_seq ?_
      refine L_stmt ?_
      refine L_seq ?_
      refine L_stmt ?_
      refine L_reg ?_
      refine G_p rfl rfl rfl ?_
      refine G_p rfl rfl rfl ?_
      refine G_h (v := .lst (List.map encFct f1.l) false) rfl rfl rfl (fun _ => rfl) ?_
      refine G_h rfl rfl rfl (lenL_ev rfl (List.length_map _)) ?_
      refine G_v (.bool true) rfl rfl rfl (congrArg AVal.bool (decide_eq_true (by omega))) ?_
      refine G_nil ?_
      refine L_nil ?_
      refine Sm_norm (e2 := [(1, .int .i64 v2), (2, .ptr 0 0), (5, .int .i64 a30), (6, .int .i64 ((i40 : Nat) : Int)), (11, .bool true)]) (H1 := [.cells [.bool f1.never, .lst (List.map encFct f1.l) false]]) (H2 := [.cells [.bool f1.never, .lst (List.map encFct f1.l) false]]) rfl (by repeat (first | exact rzz | apply rcc rfl | apply rnn rfl)) rfl (?_ : GL _ _ _ _ _)
      refine L_T rfl rfl ?_
      refine L_skip ?_
      refine L_nil ?_
      refine Sm_norm (e2 := [(1, .int .i64 v2), (2, .ptr 0 0), (5, .int .i64 a30), (6, .int .i64 ((i40 : Nat) : Int))]) (H1 := [.cells [.bool f1.never, .lst (List.map encFct f1.l) false]]) (H2 := [.cells [.bool f1.never, .lst (List.map encFct f1.l) false]]) rfl (by repeat (first | exact rzz | apply rcc rfl | apply rnn rfl)) rfl (?_ : GL _ _ _ _ _)
      refine L_seq ?_
      refine L_stmt ?_
      refine L_block ?_
      refine L_seq ?_
      refine L_stmt ?_
      refine L_reg ?_
      refine G_p rfl rfl rfl ?_
      refine G_h (v := .lst (List.map encFct f1.l) false) rfl rfl rfl (fun _ => rfl) ?_
      refine G_p rfl rfl rfl ?_
      refine G_h (v := .ro [.int .i64 y39.var, .int .i64 y39.tags]) rfl rfl rfl (ia_ev (cells := [.int .i64 y39.var, .int .i64 y39.tags]) rfl rfl (Int.natCast_nonneg _) (map_get (x := y39) (by rw [Int.toNat_natCast]; exact hy39)) (encFct_flat _) rfl) ?_
      refine G_p (v := .ro [.int .i64 y39.var, .int .i64 y39.tags]) rfl rfl rfl ?_
      refine G_h rfl rfl rfl (fun _ => rfl) ?_
      refine G_p rfl rfl rfl ?_
      refine G_p rfl rfl rfl ?_
      refine G_nil ?_
      refine L_nil ?_
      refine Sm_norm (e2 := [(1, .int .i64 v2), (2, .ptr 0 0), (5, .int .i64 a30), (6, .int .i64 ((i40 : Nat) : Int)), (21, .bool (decide (y39.var = v2)))]) (H1 := [.cells [.bool f1.never, .lst (List.map encFct f1.l) false]]) (H2 := [.cells [.bool f1.never, .lst (List.map encFct f1.l) false]]) rfl (by repeat (first | exact rzz | apply rcc rfl | apply rnn rfl)) rfl (?_ : GL _ _ _ _ _)
      rcases cond_s hr with ⟨hc21, hr⟩ | ⟨hc21, hr⟩
      · refine L_T rfl hc21 ?_
        refine L_reg ?_
        refine G_p rfl rfl rfl ?_
        refine G_p rfl rfl rfl ?_
        refine G_h (v := .lst (List.map encFct f1.l) false) rfl rfl rfl (fun _ => rfl) ?_
        refine G_p rfl rfl rfl ?_
        refine G_h (v := .ro [.int .i64 y39.var, .int .i64 y39.tags]) rfl rfl rfl (ia_ev (cells := [.int .i64 y39.var, .int .i64 y39.tags]) rfl rfl (Int.natCast_nonneg _) (map_get (x := y39) (by rw [Int.toNat_natCast]; exact hy39)) (encFct_flat _) rfl) ?_
        refine G_p (v := .ro [.int .i64 y39.tags]) rfl rfl rfl ?_
        refine G_h rfl rfl rfl (fun _ => rfl) ?_
        obtain ⟨r44, hr44, hr⟩ := bind_s hr
        refine G_c 50 rfl rfl (CA_of (as := [.int .i64 y39.tags]) rfl (g_r06_low_ok hr44)) ?_
        refine G_p rfl rfl rfl ?_
        refine G_p rfl rfl rfl ?_
        refine G_nil ?_
        refine L_nil ?_
        refine Blk_norm (?_ : GL _ _ _ _ _)
        refine L_nil ?_
        refine Sm_norm (e2 := [(1, .int .i64 v2), (2, .ptr 0 0), (5, .int .i64 (andB .i64 a30 r44)), (6, .int .i64 ((i40 : Nat) : Int))]) (H1 := [.cells [.bool f1.never, .lst (List.map encFct f1.l) false]]) (H2 := [.cells [.bool f1.never, .lst (List.map encFct f1.l) false]]) rfl (by repeat (first | exact rzz | apply rcc rfl | apply rnn rfl)) rfl (?_ : GL _ _ _ _ _)
        refine L_reg ?_
        refine G_p rfl rfl rfl ?_
        refine G_v (.int .i64 ((i40 + 1 : Nat) : Int)) rfl rfl rfl (congrArg _ (wrap_next hLq38 hlti40)) ?_
        refine G_p rfl rfl rfl ?_
        refine G_nil ?_
        refine L_nil ?_
        refine Rd_norm ⟨(andB .i64 a30 r44), ?_, rfl, hr⟩
        show restr _ _ = [(5, .int .i64 (andB .i64 a30 r44)), (6, .int .i64 (((i40 + 1) : Nat) : Int)), (1, .int .i64 v2), (2, .ptr 0 0)]
        (repeat (first | exact rzz | apply rcc rfl | apply rnn rfl))
      · refine L_F rfl hc21 ?_
        refine L_skip ?_
        refine L_nil ?_
        refine Blk_norm (?_ : GL _ _ _ _ _)
        refine L_nil ?_
        refine Sm_norm (e2 := [(1, .int .i64 v2), (2, .ptr 0 0), (5, .int .i64 a30), (6, .int .i64 ((i40 : Nat) : Int))]) (H1 := [.cells [.bool f1.never, .lst (List.map encFct f1.l) false]]) (H2 := [.cells [.bool f1.never, .lst (List.map encFct f1.l) false]]) rfl (by repeat (first | exact rzz | apply rcc rfl | apply rnn rfl)) rfl (?_ : GL _ _ _ _ _)
        refine L_reg ?_
        refine G_p rfl rfl rfl ?_
        refine G_v (.int .i64 ((i40 + 1 : Nat) : Int)) rfl rfl rfl (congrArg _ (wrap_next hLq38 hlti40)) ?_
        refine G_p rfl rfl rfl ?_
        refine G_nil ?_
        refine L_nil ?_
        refine Rd_norm ⟨a30, ?_, rfl, hr⟩
        show restr _ _ = [(5, .int .i64 a30), (6, .int .i64 (((i40 + 1) : Nat) : Int)), (1, .int .i64 v2), (2, .ptr 0 0)]
        (repeat (first | exact rzz | apply rcc rfl | apply rnn rfl))
  · rintro a23 hr
    show GL _ _ [(5, .int .i64 a23)] [.cells [.bool f1.never, .lst (List.map encFct f1.l) false]] _
    replace hr : g_r06_tags_j1 a23 = some r := hr
    unfold g_r06_tags_j1 at hr
    refine L_seq ?_
    refine L_reg ?_
    refine G_p rfl rfl rfl ?_
    refine G_p rfl rfl rfl ?_
    refine G_nil ?_
    refine L_ret ?_
    have hr := some_s hr
    subst hr
    exact ⟨_, rfl, _, rfl, rfl⟩
noncomputable def g_r06_has_j1 : Option Bool :=
  some false
noncomputable def g_r06_has_l2 (v2 : Int) : List Fct → Nat → Option Bool
  | [], _ => g_r06_has_j1
  | y22 :: rest24, i23 => (cond (decide (y22.var = v2)) (some true) ((g_r06_has_l2 v2 rest24 (i23 + 1))))
noncomputable def g_r06_has (f1 : Fts) (v2 : Int) : Option Bool :=
  (cond (okLen f1.l) (g_r06_has_l2 v2 f1.l 0) none)
theorem g_r06_has_ok {f1 : Fts} {v2 : Int} {r : Bool} (hr : g_r06_has f1 v2 = some r) : PRes (tabOf tabL) 44 [.agg (cFts f1), .int .i64 v2] (.bool r) := by
  refine pres_fin t44 ?_
  unfold g_r06_has at hr
  refine L_seq ?_
  refine L_stmt ?_
  refine L_reg ?_
  refine G_n (B := .cells [.bool f1.never, .lst (List.map encFct f1.l) false]) rfl rfl rfl ?_
  refine G_p rfl rfl rfl ?_
  refine G_nil ?_
  refine L_nil ?_
  refine Sm_norm (e2 := [(1, .int .i64 v2), (2, .ptr 0 0)]) (H1 := [.cells [.bool f1.never, .lst (List.map encFct f1.l) false]]) (H2 := [.cells [.bool f1.never, .lst (List.map encFct f1.l) false]]) rfl (by repeat (first | exact rzz | apply rcc rfl | apply rnn rfl)) rfl (?_ : GL _ _ _ _ _)
  refine L_seq ?_
  refine L_stmtJ (S := Unit) (fun s => []) (fun s => [.cells [.bool f1.never, .lst (List.map encFct f1.l) false]]) (fun s => g_r06_has_j1 = some r) ?_ ?_
  · skip
    refine L_seq ?_
    refine L_stmt ?_
    refine L_reg ?_
    refine G_p rfl rfl rfl ?_
    refine G_nil ?_
    refine L_nil ?_
    refine Sm_norm (e2 := [(1, .int .i64 v2), (2, .ptr 0 0), (5, .int .i64 0)]) (H1 := [.cells [.bool f1.never, .lst (List.map encFct f1.l) false]]) (H2 := [.cells [.bool f1.never, .lst (List.map encFct f1.l) false]]) rfl (by repeat (first | exact rzz | apply rcc rfl | apply rnn rfl)) rfl (?_ : GL _ _ _ _ _)
    refine L_block ?_
    obtain ⟨hLq21, hr⟩ := guard_s hr
    replace hLq21 := okLen_s hLq21
    refine L_range (X := Fct) (S := Unit) f1.l (fun i23 s => [(5, .int .i64 ((i23 : Nat) : Int)), (1, .int .i64 v2), (2, .ptr 0 0)]) (fun i23 s => [.cells [.bool f1.never, .lst (List.map encFct f1.l) false]]) (fun rest i23 s => g_r06_has_l2 v2 rest i23 = some r) (()) ?_ rfl hr ?_ ?_
    · show restr _ _ = [(5, .int .i64 ((0 : Nat) : Int)), (1, .int .i64 v2), (2, .ptr 0 0)]
      (repeat (first | exact rzz | apply rcc rfl | apply rnn rfl))
    · rintro ⟨⟩ hr
      show GL _ _ [(5, .int .i64 (((List.length f1.l) : Nat) : Int)), (1, .int .i64 v2), (2, .ptr 0 0)] [.cells [.bool f1.never, .lst (List.map encFct f1.l) false]] _
      replace hr : g_r06_has_l2 v2 [] (List.length f1.l) = some r := hr
      rw [g_r06_has_l2] at hr
      refine L_seq ?_
      refine L_stmt ?_
      refine L_seq ?_
      refine L_stmt ?_
      refine L_reg ?_
      refine G_p rfl rfl rfl ?_
      refine G_p rfl rfl rfl ?_
      refine G_h (v := .lst (List.map encFct f1.l) false) rfl rfl rfl (fun _ => rfl) ?_
      refine G_h rfl rfl rfl (lenL_ev rfl (List.length_map _)) ?_
      refine G_v (.bool false) rfl rfl rfl (congrArg AVal.bool (decide_eq_false (by omega))) ?_
      refine G_nil ?_
      refine L_nil ?_
      refine Sm_norm (e2 := [(1, .int .i64 v2), (2, .ptr 0 0), (5, .int .i64 ((List.length f1.l : Nat) : Int)), (10, .bool false)]) (H1 := [.cells [.bool f1.never, .lst (List.map encFct f1.l) false]]) (H2 := [.cells [.bool f1.never, .lst (List.map encFct f1.l) false]]) rfl (by repeat (first | exact rzz | apply rcc rfl | apply rnn rfl)) rfl (?_ : GL _ _ _ _ _)
      refine L_F rfl rfl ?_
      refine L_exit ?_
      refine Sm_exit ?_
      refine Rd_exit ?_
      refine Blk_exit (?_ : GL _ _ _ _ _)
      refine L_nil ?_
      exact Sm_norm (e2 := []) (H1 := [.cells [.bool f1.never, .lst (List.map encFct f1.l) false]]) (H2 := [.cells [.bool f1.never, .lst (List.map encFct f1.l) false]]) rfl (by repeat (first | exact rzz | apply rcc rfl | apply rnn rfl)) rfl ⟨(), rfl, rfl, hr⟩
    · rintro y22 rest24 i23 ⟨⟩ hy22 hlti23 hr
      show GL _ _ [(5, .int .i64 ((i23 : Nat) : Int)), (1, .int .i64 v2), (2, .ptr 0 0)] [.cells [.bool f1.never, .lst (List.map encFct f1.l) false]] _
      replace hr : g_r06_has_l2 v2 (y22 :: rest24) i23 = some r := hr
      rw [g_r06_has_l2] at hr
      refine L_seq ?_
      refine L_stmt ?_
      refine L_seq ?_
      refine L_stmt ?_
      refine L_reg ?_
      refine G_p rfl rfl rfl ?_
      refine G_p rfl rfl rfl ?_
      refine G_h (v := .lst (List.map encFct f1.l) false) rfl rfl rfl (fun _ => rfl) ?_
      refine G_h rfl rfl rfl (lenL_ev rfl (List.length_map _)) ?_
      refine G_v (.bool true) rfl rfl rfl (congrArg AVal.bool (decide_eq_true (by omega))) ?_
      refine G_nil ?_
      refine L_nil ?_
      refine Sm_norm (e2 := [(1, .int .i64 v2), (2, .ptr 0 0), (5, .int .i64 ((i23 : Nat) : Int)), (10, .bool true)]) (H1 := [.cells [.bool f1.never, .lst (List.map encFct f1.l) false]]) (H2 := [.cells [.bool f1.never, .lst (List.map encFct f1.l) false]]) rfl (by repeat (first | exact rzz | apply rcc rfl | apply rnn rfl)) rfl (?_ : GL _ _ _ _ _)
      refine L_T rfl rfl ?_
      refine L_skip ?_
      refine L_nil ?_
      refine Sm_norm (e2 := [(1, .int .i64 v2), (2, .ptr 0 0), (5, .int .i64 ((i23 : Nat) : Int))]) (H1 := [.cells [.bool f1.never, .lst (List.map encFct f1.l) false]]) (H2 := [.cells [.bool f1.never, .lst (List.map encFct f1.l) false]]) rfl (by repeat (first | exact rzz | apply rcc rfl | apply rnn rfl)) rfl (?_ : GL _ _ _ _ _)
      refine L_seq ?_
      refine L_stmt ?_
      refine L_block ?_
      refine L_seq ?_
      refine L_stmt ?_
      refine L_reg ?_
      refine G_p rfl rfl rfl ?_
      refine G_h (v := .lst (List.map encFct f1.l) false) rfl rfl rfl (fun _ => rfl) ?_
      refine G_p rfl rfl rfl ?_
      refine G_h (v := .ro [.int .i64 y22.var, .int .i64 y22.tags]) rfl rfl rfl (ia_ev (cells := [.int .i64 y22.var, .int .i64 y22.tags]) rfl rfl (Int.natCast_nonneg _) (map_get (x := y22) (by rw [Int.toNat_natCast]; exact hy22)) (encFct_flat _) rfl) ?_
      refine G_p (v := .ro [.int .i64 y22.var, .int .i64 y22.tags]) rfl rfl rfl ?_
      refine G_h rfl rfl rfl (fun _ => rfl) ?_
      refine G_p rfl rfl rfl ?_
      refine G_p rfl rfl rfl ?_
      refine G_nil ?_
      refine L_nil ?_
      refine Sm_norm (e2 := [(1, .int .i64 v2), (2, .ptr 0 0), (5, .int .i64 ((i23 : Nat) : Int)), (20, .bool (decide (y22.var = v2)))]) (H1 := [.cells [.bool f1.never, .lst (List.map encFct f1.l) false]]) (H2 := [.cells [.bool f1.never, .lst (List.map encFct f1.l) false]]) rfl (by repeat (first | exact rzz | apply rcc rfl | apply rnn rfl)) rfl (?_ : GL _ _ _ _ _)
      rcases cond_s hr with ⟨hc20, hr⟩ | ⟨hc20, hr⟩
      · refine L_T rfl hc20 ?_
        refine L_seq ?_
        refine L_reg ?_
        refine G_p rfl rfl rfl ?_
        refine G_nil ?_
        refine L_ret ?_
        refine Blk_ret ?_
        refine Sm_ret ?_
        refine Rd_ret ?_
        refine Blk_ret ?_
        refine Sm_ret ?_
        have hr := some_s hr
        subst hr
        exact ⟨_, rfl, _, rfl, rfl⟩
      · refine L_F rfl hc20 ?_
        refine L_skip ?_
        refine L_nil ?_
        refine Blk_norm (?_ : GL _ _ _ _ _)
        refine L_nil ?_
        refine Sm_norm (e2 := [(1, .int .i64 v2), (2, .ptr 0 0), (5, .int .i64 ((i23 : Nat) : Int))]) (H1 := [.cells [.bool f1.never, .lst (List.map encFct f1.l) false]]) (H2 := [.cells [.bool f1.never, .lst (List.map encFct f1.l) false]]) rfl (by repeat (first | exact rzz | apply rcc rfl | apply rnn rfl)) rfl (?_ : GL _ _ _ _ _)
        refine L_reg ?_
        refine G_p rfl rfl rfl ?_
        refine G_v (.int .i64 ((i23 + 1 : Nat) : Int)) rfl rfl rfl (congrArg _ (wrap_next hLq21 hlti23)) ?_
        refine G_p rfl rfl rfl ?_
        refine G_nil ?_
        refine L_nil ?_
        refine Rd_norm ⟨(), ?_, rfl, hr⟩
        show restr _ _ = [(5, .int .i64 (((i23 + 1) : Nat) : Int)), (1, .int .i64 v2), (2, .ptr 0 0)]
        (repeat (first | exact rzz | apply rcc rfl | apply rnn rfl))
  · rintro ⟨⟩ hr
    show GL _ _ [] [.cells [.bool f1.never, .lst (List.map encFct f1.l) false]] _
    replace hr : g_r06_has_j1 = some r := hr
    unfold g_r06_has_j1 at hr
    refine L_seq ?_
    refine L_reg ?_
    refine G_p rfl rfl rfl ?_
    refine G_nil ?_
    refine L_ret ?_
    have hr := some_s hr
    subst hr
    exact ⟨_, rfl, _, rfl, rfl⟩
noncomputable def g_r06_vars_j1 (l106 : List Int) : Option (List Int) :=
  some l106
noncomputable def g_r06_vars_j3 (K11 : (List Int) → Option (List Int)) (l205 : List Int) : Option (List Int) :=
  K11 l205
noncomputable def g_r06_vars_j4 (l120 : List Int) (y170 : Fct) (K11 : (List Int) → Option (List Int)) (a227 : Int) : Option (List Int) :=
  ((cond (decide (a227 = ((List.length l120 : Nat) : Int))) (some true) (((idx l120 a227).bind fun e228 => some (!decide (e228 = y170.var))))).bind fun v229 => (cond v229 ((subL l120 0 a227).bind fun l230 => (cond (okLen l230) (((catL l230 [y170.var]).bind fun l232 => ((subL l120 a227 (List.length l120 : Nat)).bind fun l233 => ((catL l232 l233).bind fun l234 => g_r06_vars_j3 K11 l234)))) none)) (g_r06_vars_j3 K11 l120)))
noncomputable def g_r06_vars_l5 (l120 : List Int) (y170 : Fct) (K11 : (List Int) → Option (List Int)) : List Int → Nat → Option (List Int)
  | [], _ => g_r06_vars_j4 l120 y170 K11 ((List.length l120 : Nat) : Int)
  | y256 :: rest258, i257 => (cond (decide (y256 < y170.var)) ((g_r06_vars_l5 l120 y170 K11 rest258 (i257 + 1))) (g_r06_vars_j4 l120 y170 K11 ((i257 : Nat) : Int)))
noncomputable def g_r06_vars_l2 : List Fct → Nat → (List Int) → Option (List Int)
  | [], _, l120 => g_r06_vars_j1 l120
  | y170 :: rest172, i171, l120 => (cond (okLen l120) (g_r06_vars_l5 l120 y170 (g_r06_vars_l2 rest172 (i171 + 1)) l120 0) none)
noncomputable def g_r06_vars_j6 (l6 : List Fct) : Option (List Int) :=
  (cond (okLen l6) (g_r06_vars_l2 l6 0 []) none)
noncomputable def g_r06_vars (n : Nat) (a1 : Fts) (b2 : Fts) : Option (List Int) :=
  (cond (okLen a1.l) (((catL a1.l b2.l).bind fun l260 => g_r06_vars_j6 l260)) none)
theorem g_r06_vars_ok {n : Nat} {a1 : Fts} {b2 : Fts} {r : List Int} (hr : g_r06_vars n a1 b2 = some r) : PRes (tabOf tabL) 40 [.agg (cFts a1), .agg (cFts b2)] (.lst (List.map (AVal.int .i64) r) false) := by
  refine pres_fin t40 ?_
  unfold g_r06_vars at hr
  refine L_seq ?_
  refine L_stmt ?_
  refine L_reg ?_
  refine G_n (B := .cells [.bool a1.never, .lst (List.map encFct a1.l) false]) rfl rfl rfl ?_
  refine G_n (B := .cells [.bool b2.never, .lst (List.map encFct b2.l) false]) rfl rfl rfl ?_
  refine G_p (v := .lst [] true) rfl rfl rfl ?_
  refine G_nil ?_
  refine L_nil ?_
  refine Sm_norm (e2 := [(2, .ptr 0 0), (3, .ptr 1 0)]) (H1 := [.cells [.bool a1.never, .lst (List.map encFct a1.l) false], .cells [.bool b2.never, .lst (List.map encFct b2.l) false]]) (H2 := [.cells [.bool a1.never, .lst (List.map encFct a1.l) false], .cells [.bool b2.never, .lst (List.map encFct b2.l) false]]) rfl (by repeat (first | exact rzz | apply rcc rfl | apply rnn rfl)) rfl (?_ : GL _ _ _ _ _)
  refine L_seq ?_
  refine L_stmt ?_
  refine L_reg ?_
  refine G_p (v := .lst [] true) rfl rfl rfl ?_
  refine G_nil ?_
  refine L_nil ?_
  refine Sm_norm (e2 := [(2, .ptr 0 0), (3, .ptr 1 0), (5, .lst [] false)]) (H1 := [.cells [.bool a1.never, .lst (List.map encFct a1.l) false], .cells [.bool b2.never, .lst (List.map encFct b2.l) false]]) (H2 := [.cells [.bool a1.never, .lst (List.map encFct a1.l) false], .cells [.bool b2.never, .lst (List.map encFct b2.l) false]]) (frz_c (frz_lst rfl) rfl) (by repeat (first | exact rzz | apply rcc rfl | apply rnn rfl)) rfl (?_ : GL _ _ _ _ _)
  refine L_seq ?_
  refine L_stmtJ (S := List Fct) (fun s => [(5, .lst [] false), (6, .lst (List.map encFct s) false)]) (fun s => [.cells [.bool a1.never, .lst (List.map encFct a1.l) false], .cells [.bool b2.never, .lst (List.map encFct b2.l) false]]) (fun s => g_r06_vars_j6 s = some r) ?_ ?_
  · skip
    refine L_draw ?_
    refine GD_h (d := some 9) (v := .lst [] true) rfl rfl rfl rfl (fun _ => rfl) ?_
    refine GD_p rfl rfl rfl ?_
    refine GD_h (d := some 11) (v := .lst (List.map encFct a1.l) false) rfl rfl rfl rfl (fun _ => rfl) ?_
    obtain ⟨hLq259, hr⟩ := guard_s hr
    rcases emp_or a1.l with hEq259 | hEq259
    · skip
      refine GD_o (d := some 12) (H' := [.cells [.bool a1.never, .lst (List.map encFct a1.l) false], .cells [.bool b2.never, .lst (List.map encFct b2.l) false], .hole, .hole]) rfl rfl rfl rfl (appE_ev (es := 2) (ys := a1.l) encFct_w1 rfl rfl rfl hEq259) ?_
      refine GD_p rfl rfl rfl ?_
      refine GD_h (d := some 14) (v := .lst (List.map encFct b2.l) false) rfl rfl rfl rfl (fun _ => rfl) ?_
      obtain ⟨l260, hl260, hr⟩ := bind_s hr
      rcases emp_or b2.l with hEl260 | hEl260
      · skip
        refine GD_o (d := some 15) (H' := [.cells [.bool a1.never, .lst (List.map encFct a1.l) false], .cells [.bool b2.never, .lst (List.map encFct b2.l) false], .hole, .hole]) rfl rfl rfl rfl (appO_ev (es := 2) encFct_w1 rfl rfl rfl hEl260 hl260) ?_
        refine GD_p (v := .lst (List.map encFct l260) true) rfl rfl rfl ?_
        refine GD_nil2 (by first | (simp [okFs2, okEarlier2, disj, noneIn, notIn, sameOn_self, sameOn, partsGls, sameB_self, AOpd.ev, Env.get, Env.put, glsV, glsL]; done) | rfl) ?_
        refine L_nil ?_
        exact Sm_norm (e2 := [(5, .lst [] false), (6, .lst (List.map encFct l260) false)]) (H1 := [.cells [.bool a1.never, .lst (List.map encFct a1.l) false], .cells [.bool b2.never, .lst (List.map encFct b2.l) false], .hole, .hole]) (H2 := [.cells [.bool a1.never, .lst (List.map encFct a1.l) false], .cells [.bool b2.never, .lst (List.map encFct b2.l) false]]) (frz_c (frz_lst rfl) rfl) (by repeat (first | exact rzz | apply rcc rfl | apply rnn rfl)) rfl ⟨l260, rfl, rfl, hr⟩
      · skip
        refine GD_o (d := some 15) (H' := [.cells [.bool a1.never, .lst (List.map encFct a1.l) false], .cells [.bool b2.never, .lst (List.map encFct b2.l) false], .hole, growM 2 encFct l260]) rfl rfl rfl rfl (appM_ev (es := 2) encFct_w1 (show (16 : Nat) ≤ 1400 from by decide) rfl rfl rfl hEl260 hl260 rfl) ?_
        refine GD_p rfl rfl rfl ?_
        refine GD_nil2 (by first | (simp [okFs2, okEarlier2, disj, noneIn, notIn, sameOn_self, sameOn, partsGls, sameB_self, AOpd.ev, Env.get, Env.put, glsV, glsL]; done) | rfl) ?_
        refine L_nil ?_
        exact Sm_norm (e2 := [(5, .lst [] false), (6, .lst (List.map encFct l260) false)]) (H1 := [.cells [.bool a1.never, .lst (List.map encFct a1.l) false], .cells [.bool b2.never, .lst (List.map encFct b2.l) false], .hole, growM 2 encFct l260]) (H2 := [.cells [.bool a1.never, .lst (List.map encFct a1.l) false], .cells [.bool b2.never, .lst (List.map encFct b2.l) false]]) (frz_c (frz_gl rfl rfl) rfl) (by repeat (first | exact rzz | apply rcc rfl | apply rnn rfl)) rfl ⟨l260, rfl, rfl, hr⟩
    · skip
      refine GD_o (d := some 12) (H' := [.cells [.bool a1.never, .lst (List.map encFct a1.l) false], .cells [.bool b2.never, .lst (List.map encFct b2.l) false], growM 2 encFct a1.l, .hole]) rfl rfl rfl rfl (appN_ev (es := 2) (ys := a1.l) encFct_w1 (show (16 : Nat) ≤ 1400 from by decide) rfl rfl rfl hEq259 hLq259 rfl) ?_
      refine GD_p rfl rfl rfl ?_
      refine GD_h (d := some 14) (v := .lst (List.map encFct b2.l) false) rfl rfl rfl rfl (fun _ => rfl) ?_
      obtain ⟨l261, hl261, hr⟩ := bind_s hr
      refine GD_o (d := some 15) (H' := [.cells [.bool a1.never, .lst (List.map encFct a1.l) false], .cells [.bool b2.never, .lst (List.map encFct b2.l) false], growM 2 encFct l261, .hole]) rfl rfl rfl rfl (appG2_ev (es := 2) encFct_w1 (show (16 : Nat) ≤ 1400 from by decide) rfl rfl rfl rfl hl261 rfl) ?_
      refine GD_p rfl rfl rfl ?_
      refine GD_nil2 (by first | (simp [okFs2, okEarlier2, disj, noneIn, notIn, sameOn_self, sameOn, partsGls, sameB_self, AOpd.ev, Env.get, Env.put, glsV, glsL]; done) | rfl) ?_
      refine L_nil ?_
      exact Sm_norm (e2 := [(5, .lst [] false), (6, .lst (List.map encFct l261) false)]) (H1 := [.cells [.bool a1.never, .lst (List.map encFct a1.l) false], .cells [.bool b2.never, .lst (List.map encFct b2.l) false], growM 2 encFct l261, .hole]) (H2 := [.cells [.bool a1.never, .lst (List.map encFct a1.l) false], .cells [.bool b2.never, .lst (List.map encFct b2.l) false]]) (frz_c (frz_gl rfl rfl) rfl) (by repeat (first | exact rzz | apply rcc rfl | apply rnn rfl)) rfl ⟨l261, rfl, rfl, hr⟩
  · rintro l6 hr
    show GL _ _ [(5, .lst [] false), (6, .lst (List.map encFct l6) false)] [.cells [.bool a1.never, .lst (List.map encFct a1.l) false], .cells [.bool b2.never, .lst (List.map encFct b2.l) false]] _
    replace hr : g_r06_vars_j6 l6 = some r := hr
    unfold g_r06_vars_j6 at hr
    refine L_seq ?_
    refine L_stmtJ (S := List Int) (fun s => [(5, .lst (List.map (AVal.int .i64) s) false)]) (fun s => [.cells [.bool a1.never, .lst (List.map encFct a1.l) false], .cells [.bool b2.never, .lst (List.map encFct b2.l) false]]) (fun s => g_r06_vars_j1 s = some r) ?_ ?_
    · skip
      refine L_seq ?_
      refine L_stmt ?_
      refine L_reg ?_
      refine G_p rfl rfl rfl ?_
      refine G_nil ?_
      refine L_nil ?_
      refine Sm_norm (e2 := [(5, .lst [] false), (6, .lst (List.map encFct l6) false), (7, .int .i64 0)]) (H1 := [.cells [.bool a1.never, .lst (List.map encFct a1.l) false], .cells [.bool b2.never, .lst (List.map encFct b2.l) false]]) (H2 := [.cells [.bool a1.never, .lst (List.map encFct a1.l) false], .cells [.bool b2.never, .lst (List.map encFct b2.l) false]]) rfl (by repeat (first | exact rzz | apply rcc rfl | apply rnn rfl)) rfl (?_ : GL _ _ _ _ _)
      refine L_block ?_
      obtain ⟨hLq169, hr⟩ := guard_s hr
      replace hLq169 := okLen_s hLq169
      refine L_range (X := Fct) (S := List Int) l6 (fun i171 s => [(5, .lst (List.map (AVal.int .i64) s) false), (7, .int .i64 ((i171 : Nat) : Int)), (6, .lst (List.map encFct l6) false)]) (fun i171 s => [.cells [.bool a1.never, .lst (List.map encFct a1.l) false], .cells [.bool b2.never, .lst (List.map encFct b2.l) false]]) (fun rest i171 s => g_r06_vars_l2 rest i171 s = some r) ([]) ?_ rfl hr ?_ ?_
      · show restr _ _ = [(5, .lst (List.map (AVal.int .i64) []) false), (7, .int .i64 ((0 : Nat) : Int)), (6, .lst (List.map encFct l6) false)]
        (repeat (first | exact rzz | apply rcc rfl | apply rnn rfl))
      · rintro l120 hr
        show GL _ _ [(5, .lst (List.map (AVal.int .i64) l120) false), (7, .int .i64 (((List.length l6) : Nat) : Int)), (6, .lst (List.map encFct l6) false)] [.cells [.bool a1.never, .lst (List.map encFct a1.l) false], .cells [.bool b2.never, .lst (List.map encFct b2.l) false]] _
        replace hr : g_r06_vars_l2 [] (List.length l6) l120 = some r := hr
        rw [g_r06_vars_l2] at hr
        refine L_seq ?_
        refine L_stmt ?_
        refine L_seq ?_
        refine L_stmt ?_
        refine L_reg ?_
        refine G_p rfl rfl rfl ?_
        refine G_p (v := .lst (List.map encFct l6) false) rfl rfl rfl ?_
        refine G_h rfl rfl rfl (lenL_ev rfl (List.length_map _)) ?_
        refine G_v (.bool false) rfl rfl rfl (congrArg AVal.bool (decide_eq_false (by omega))) ?_
        refine G_nil ?_
        refine L_nil ?_
        refine Sm_norm (e2 := [(5, .lst (List.map (AVal.int .i64) l120) false), (6, .lst (List.map encFct l6) false), (7, .int .i64 ((List.length l6 : Nat) : Int)), (19, .bool false)]) (H1 := [.cells [.bool a1.never, .lst (List.map encFct a1.l) false], .cells [.bool b2.never, .lst (List.map encFct b2.l) false]]) (H2 := [.cells [.bool a1.never, .lst (List.map encFct a1.l) false], .cells [.bool b2.never, .lst (List.map encFct b2.l) false]]) rfl (by repeat (first | exact rzz | apply rcc rfl | apply rnn rfl)) rfl (?_ : GL _ _ _ _ _)
        refine L_F rfl rfl ?_
        refine L_exit ?_
        refine Sm_exit ?_
        refine Rd_exit ?_
        refine Blk_exit (?_ : GL _ _ _ _ _)
        refine L_nil ?_
        exact Sm_norm (e2 := [(5, .lst (List.map (AVal.int .i64) l120) false)]) (H1 := [.cells [.bool a1.never, .lst (List.map encFct a1.l) false], .cells [.bool b2.never, .lst (List.map encFct b2.l) false]]) (H2 := [.cells [.bool a1.never, .lst (List.map encFct a1.l) false], .cells [.bool b2.never, .lst (List.map encFct b2.l) false]]) (frz_c (frz_lst rfl) rfl) (by repeat (first | exact rzz | apply rcc rfl | apply rnn rfl)) rfl ⟨l120, rfl, rfl, hr⟩
      · rintro y170 rest172 i171 l120 hy170 hlti171 hr
        show GL _ _ [(5, .lst (List.map (AVal.int .i64) l120) false), (7, .int .i64 ((i171 : Nat) : Int)), (6, .lst (List.map encFct l6) false)] [.cells [.bool a1.never, .lst (List.map encFct a1.l) false], .cells [.bool b2.never, .lst (List.map encFct b2.l) false]] _
        replace hr : g_r06_vars_l2 (y170 :: rest172) i171 l120 = some r := hr
        rw [g_r06_vars_l2] at hr
        refine L_seq ?_
        refine L_stmt ?_
        refine L_seq ?_
        refine L_stmt ?_
        refine L_reg ?_
        refine G_p rfl rfl rfl ?_
        refine G_p (v := .lst (List.map encFct l6) false) rfl rfl rfl ?_
        refine G_h rfl rfl rfl (lenL_ev rfl (List.length_map _)) ?_
        refine G_v (.bool true) rfl rfl rfl (congrArg AVal.bool (decide_eq_true (by omega))) ?_
        refine G_nil ?_
        refine L_nil ?_
        refine Sm_norm (e2 := [(5, .lst (List.map (AVal.int .i64) l120) false), (6, .lst (List.map encFct l6) false), (7, .int .i64 ((i171 : Nat) : Int)), (19, .bool true)]) (H1 := [.cells [.bool a1.never, .lst (List.map encFct a1.l) false], .cells [.bool b2.never, .lst (List.map encFct b2.l) false]]) (H2 := [.cells [.bool a1.never, .lst (List.map encFct a1.l) false], .cells [.bool b2.never, .lst (List.map encFct b2.l) false]]) rfl (by repeat (first | exact rzz | apply rcc rfl | apply rnn rfl)) rfl (?_ : GL _ _ _ _ _)
        refine L_T rfl rfl ?_
        refine L_skip ?_
        refine L_nil ?_
        refine Sm_norm (e2 := [(5, .lst (List.map (AVal.int .i64) l120) false), (6, .lst (List.map encFct l6) false), (7, .int .i64 ((i171 : Nat) : Int))]) (H1 := [.cells [.bool a1.never, .lst (List.map encFct a1.l) false], .cells [.bool b2.never, .lst (List.map encFct b2.l) false]]) (H2 := [.cells [.bool a1.never, .lst (List.map encFct a1.l) false], .cells [.bool b2.never, .lst (List.map encFct b2.l) false]]) rfl (by repeat (first | exact rzz | apply rcc rfl | apply rnn rfl)) rfl (?_ : GL _ _ _ _ _)
        refine L_seq ?_
        refine L_stmtJ (S := List Int) (fun s => [(5, .lst (List.map (AVal.int .i64) s) false), (6, .lst (List.map encFct l6) false), (7, .int .i64 ((i171 : Nat) : Int))]) (fun s => [.cells [.bool a1.never, .lst (List.map encFct a1.l) false], .cells [.bool b2.never, .lst (List.map encFct b2.l) false]]) (fun s => g_r06_vars_j3 (g_r06_vars_l2 rest172 (i171 + 1)) s = some r) ?_ ?_
        · skip
          refine L_block ?_
          refine L_seq ?_
          refine L_stmt ?_
          refine L_reg ?_
          refine G_p rfl rfl rfl ?_
          refine G_nil ?_
          refine L_nil ?_
          refine Sm_norm (e2 := [(5, .lst (List.map (AVal.int .i64) l120) false), (6, .lst (List.map encFct l6) false), (7, .int .i64 ((i171 : Nat) : Int)), (8, .int .i64 0)]) (H1 := [.cells [.bool a1.never, .lst (List.map encFct a1.l) false], .cells [.bool b2.never, .lst (List.map encFct b2.l) false]]) (H2 := [.cells [.bool a1.never, .lst (List.map encFct a1.l) false], .cells [.bool b2.never, .lst (List.map encFct b2.l) false]]) rfl (by repeat (first | exact rzz | apply rcc rfl | apply rnn rfl)) rfl (?_ : GL _ _ _ _ _)
          refine L_seq ?_
          refine L_stmtJ (S := Int) (fun s => [(5, .lst (List.map (AVal.int .i64) l120) false), (6, .lst (List.map encFct l6) false), (7, .int .i64 ((i171 : Nat) : Int)), (8, .int .i64 s)]) (fun s => [.cells [.bool a1.never, .lst (List.map encFct a1.l) false], .cells [.bool b2.never, .lst (List.map encFct b2.l) false]]) (fun s => g_r06_vars_j4 l120 y170 (g_r06_vars_l2 rest172 (i171 + 1)) s = some r) ?_ ?_
          · skip
            refine L_block ?_
            obtain ⟨hLq255, hr⟩ := guard_s hr
            replace hLq255 := okLen_s hLq255
            refine L_range (X := Int) (S := Unit) l120 (fun i257 s => [(8, .int .i64 ((i257 : Nat) : Int)), (5, .lst (List.map (AVal.int .i64) l120) false), (6, .lst (List.map encFct l6) false), (7, .int .i64 ((i171 : Nat) : Int))]) (fun i257 s => [.cells [.bool a1.never, .lst (List.map encFct a1.l) false], .cells [.bool b2.never, .lst (List.map encFct b2.l) false]]) (fun rest i257 s => g_r06_vars_l5 l120 y170 (g_r06_vars_l2 rest172 (i171 + 1)) rest i257 = some r) (()) ?_ rfl hr ?_ ?_
            · show restr _ _ = [(8, .int .i64 ((0 : Nat) : Int)), (5, .lst (List.map (AVal.int .i64) l120) false), (6, .lst (List.map encFct l6) false), (7, .int .i64 ((i171 : Nat) : Int))]
              (repeat (first | exact rzz | apply rcc rfl | apply rnn rfl))
            · rintro ⟨⟩ hr
              show GL _ _ [(8, .int .i64 (((List.length l120) : Nat) : Int)), (5, .lst (List.map (AVal.int .i64) l120) false), (6, .lst (List.map encFct l6) false), (7, .int .i64 ((i171 : Nat) : Int))] [.cells [.bool a1.never, .lst (List.map encFct a1.l) false], .cells [.bool b2.never, .lst (List.map encFct b2.l) false]] _
              replace hr : g_r06_vars_l5 l120 y170 (g_r06_vars_l2 rest172 (i171 + 1)) [] (List.length l120) = some r := hr
              rw [g_r06_vars_l5] at hr
              refine L_seq ?_
              refine L_stmt ?_
              refine L_seq ?_
              refine L_stmt ?_
              refine L_drawS (ops := [_, _, _, _, _, _, _, _, _, _, _, _, _, _, _, _]) rfl rfl ?_
              refine G_p rfl rfl rfl ?_
              refine G_p (v := .lst (List.map (AVal.int .i64) l120) false) rfl rfl rfl ?_
              refine G_h rfl rfl rfl (lenL_ev rfl (List.length_map _)) ?_
              refine G_v (.bool false) rfl rfl rfl (congrArg AVal.bool (decide_eq_false (by omega))) ?_
              refine G_p rfl rfl rfl ?_
              refine G_s rfl ?_
              refine G_s rfl ?_
              refine G_s rfl ?_
              refine G_s rfl ?_
              refine G_s rfl ?_
              refine G_s rfl ?_
              refine G_s rfl ?_
              refine G_s rfl ?_
              refine G_s rfl ?_
              refine G_s rfl ?_
              refine G_p rfl rfl rfl ?_
              refine G_nil (L_nil ⟨rfl, ?_⟩)
              refine L_nil ?_
              refine Sm_norm (e2 := [(5, .lst (List.map (AVal.int .i64) l120) false), (6, .lst (List.map encFct l6) false), (7, .int .i64 ((i171 : Nat) : Int)), (8, .int .i64 ((List.length l120 : Nat) : Int)), (37, .bool false)]) (H1 := [.cells [.bool a1.never, .lst (List.map encFct a1.l) false], .cells [.bool b2.never, .lst (List.map encFct b2.l) false]]) (H2 := [.cells [.bool a1.never, .lst (List.map encFct a1.l) false], .cells [.bool b2.never, .lst (List.map encFct b2.l) false]]) rfl (by repeat (first | exact rzz | apply rcc rfl | apply rnn rfl)) rfl (?_ : GL _ _ _ _ _)
              refine L_F rfl rfl ?_
              refine L_exit ?_
              refine Sm_exit ?_
              refine Rd_exit ?_
              refine Blk_exit (?_ : GL _ _ _ _ _)
              refine L_nil ?_
              exact Sm_norm (e2 := [(5, .lst (List.map (AVal.int .i64) l120) false), (6, .lst (List.map encFct l6) false), (7, .int .i64 ((i171 : Nat) : Int)), (8, .int .i64 ((List.length l120 : Nat) : Int))]) (H1 := [.cells [.bool a1.never, .lst (List.map encFct a1.l) false], .cells [.bool b2.never, .lst (List.map encFct b2.l) false]]) (H2 := [.cells [.bool a1.never, .lst (List.map encFct a1.l) false], .cells [.bool b2.never, .lst (List.map encFct b2.l) false]]) rfl (by repeat (first | exact rzz | apply rcc rfl | apply rnn rfl)) rfl ⟨((List.length l120 : Nat) : Int), rfl, rfl, hr⟩
            · rintro y256 rest258 i257 ⟨⟩ hy256 hlti257 hr
              show GL _ _ [(8, .int .i64 ((i257 : Nat) : Int)), (5, .lst (List.map (AVal.int .i64) l120) false), (6, .lst (List.map encFct l6) false), (7, .int .i64 ((i171 : Nat) : Int))] [.cells [.bool a1.never, .lst (List.map encFct a1.l) false], .cells [.bool b2.never, .lst (List.map encFct b2.l) false]] _
              replace hr : g_r06_vars_l5 l120 y170 (g_r06_vars_l2 rest172 (i171 + 1)) (y256 :: rest258) i257 = some r := hr
              rw [g_r06_vars_l5] at hr
              refine L_seq ?_
              refine L_stmt ?_
              refine L_seq ?_
              refine L_stmt ?_
              refine L_drawS (ops := [_, _, _, _, _, _, _, _, _, _, _, _, _, _, _, _]) rfl rfl ?_
              refine G_p rfl rfl rfl ?_
              refine G_p (v := .lst (List.map (AVal.int .i64) l120) false) rfl rfl rfl ?_
              refine G_h rfl rfl rfl (lenL_ev rfl (List.length_map _)) ?_
              refine G_v (.bool true) rfl rfl rfl (congrArg AVal.bool (decide_eq_true (by omega))) ?_
              refine G_p rfl rfl rfl ?_
              refine G_p (v := .lst (List.map (AVal.int .i64) l120) false) rfl rfl rfl ?_
              refine G_p rfl rfl rfl ?_
              refine G_h (v := .ro [.int .i64 y256]) rfl rfl rfl (ia_ev (cells := [.int .i64 y256]) rfl rfl (Int.natCast_nonneg _) (map_get (x := y256) (by rw [Int.toNat_natCast]; exact hy256)) rfl rfl) ?_
              refine G_h rfl rfl rfl (fun _ => rfl) ?_
              refine G_p (v := .lst (List.map encFct l6) false) rfl rfl rfl ?_
              refine G_p rfl rfl rfl ?_
              refine G_h (v := .ro [.int .i64 y170.var, .int .i64 y170.tags]) rfl rfl rfl (ia_ev (cells := [.int .i64 y170.var, .int .i64 y170.tags]) rfl rfl (Int.natCast_nonneg _) (map_get (x := y170) (by rw [Int.toNat_natCast]; exact hy170)) (encFct_flat _) rfl) ?_
              refine G_p (v := .ro [.int .i64 y170.var, .int .i64 y170.tags]) rfl rfl rfl ?_
              refine G_h rfl rfl rfl (fun _ => rfl) ?_
              refine G_p rfl rfl rfl ?_
              refine G_p rfl rfl rfl ?_
              refine G_nil (L_nil ⟨rfl, ?_⟩)
              refine L_nil ?_
              refine Sm_norm (e2 := [(5, .lst (List.map (AVal.int .i64) l120) false), (6, .lst (List.map encFct l6) false), (7, .int .i64 ((i171 : Nat) : Int)), (8, .int .i64 ((i257 : Nat) : Int)), (37, .bool (decide (y256 < y170.var)))]) (H1 := [.cells [.bool a1.never, .lst (List.map encFct a1.l) false], .cells [.bool b2.never, .lst (List.map encFct b2.l) false]]) (H2 := [.cells [.bool a1.never, .lst (List.map encFct a1.l) false], .cells [.bool b2.never, .lst (List.map encFct b2.l) false]]) rfl (by repeat (first | exact rzz | apply rcc rfl | apply rnn rfl)) rfl (?_ : GL _ _ _ _ _)
              rcases cond_s hr with ⟨hc37, hr⟩ | ⟨hc37, hr⟩
              · refine L_T rfl hc37 ?_
                refine L_skip ?_
                refine L_nil ?_
                refine Sm_norm (e2 := [(5, .lst (List.map (AVal.int .i64) l120) false), (6, .lst (List.map encFct l6) false), (7, .int .i64 ((i171 : Nat) : Int)), (8, .int .i64 ((i257 : Nat) : Int))]) (H1 := [.cells [.bool a1.never, .lst (List.map encFct a1.l) false], .cells [.bool b2.never, .lst (List.map encFct b2.l) false]]) (H2 := [.cells [.bool a1.never, .lst (List.map encFct a1.l) false], .cells [.bool b2.never, .lst (List.map encFct b2.l) false]]) rfl (by repeat (first | exact rzz | apply rcc rfl | apply rnn rfl)) rfl (?_ : GL _ _ _ _ _)
                refine L_block ?_
                refine L_reg ?_
                refine G_p rfl rfl rfl ?_
                refine G_v (.int .i64 ((i257 + 1 : Nat) : Int)) rfl rfl rfl (congrArg _ (wrap_next hLq255 hlti257)) ?_
                refine G_p rfl rfl rfl ?_
                refine G_nil ?_
                refine L_nil ?_
                refine Blk_norm (?_ : GL _ _ _ _ _)
                refine L_nil ?_
                refine Rd_norm ⟨(), ?_, rfl, hr⟩
                show restr _ _ = [(8, .int .i64 (((i257 + 1) : Nat) : Int)), (5, .lst (List.map (AVal.int .i64) l120) false), (6, .lst (List.map encFct l6) false), (7, .int .i64 ((i171 : Nat) : Int))]
                (repeat (first | exact rzz | apply rcc rfl | apply rnn rfl))
              · refine L_F rfl hc37 ?_
                refine L_exit ?_
                refine Sm_exit ?_
                refine Rd_exit ?_
                refine Blk_exit (?_ : GL _ _ _ _ _)
                refine L_nil ?_
                exact Sm_norm (e2 := [(5, .lst (List.map (AVal.int .i64) l120) false), (6, .lst (List.map encFct l6) false), (7, .int .i64 ((i171 : Nat) : Int)), (8, .int .i64 ((i257 : Nat) : Int))]) (H1 := [.cells [.bool a1.never, .lst (List.map encFct a1.l) false], .cells [.bool b2.never, .lst (List.map encFct b2.l) false]]) (H2 := [.cells [.bool a1.never, .lst (List.map encFct a1.l) false], .cells [.bool b2.never, .lst (List.map encFct b2.l) false]]) rfl (by repeat (first | exact rzz | apply rcc rfl | apply rnn rfl)) rfl ⟨((i257 : Nat) : Int), rfl, rfl, hr⟩
          · rintro a227 hr
            show GL _ _ [(5, .lst (List.map (AVal.int .i64) l120) false), (6, .lst (List.map encFct l6) false), (7, .int .i64 ((i171 : Nat) : Int)), (8, .int .i64 a227)] [.cells [.bool a1.never, .lst (List.map encFct a1.l) false], .cells [.bool b2.never, .lst (List.map encFct b2.l) false]] _
            replace hr : g_r06_vars_j4 l120 y170 (g_r06_vars_l2 rest172 (i171 + 1)) a227 = some r := hr
            unfold g_r06_vars_j4 at hr
            refine L_seq ?_
            refine L_stmt ?_
            refine L_drawS (ops := [_, _, _, _, _, _, _, _, _, _, _, _, _, _, _, _]) rfl rfl ?_
            refine G_p rfl rfl rfl ?_
            refine G_p (v := .lst (List.map (AVal.int .i64) l120) false) rfl rfl rfl ?_
            refine G_h rfl rfl rfl (lenL_ev rfl (List.length_map _)) ?_
            refine G_p rfl rfl rfl ?_
            refine G_p rfl rfl rfl ?_
            obtain ⟨v229, hvv229, hr⟩ := bind_s hr
            refine G_pick false [_, _, _, _, _, _, _, _, _, _] (v := .bool v229) (vo := .bool true) rfl rfl ?_ ?_ rfl ?_
            · intro hb44
              have hr := condF hb44 hvv229
              refine G_p (v := .lst (List.map (AVal.int .i64) l120) false) rfl rfl rfl ?_
              refine G_p rfl rfl rfl ?_
              obtain ⟨e228, he228, hr⟩ := bind_s hr
              refine G_h (v := .ro [.int .i64 e228]) rfl rfl rfl (ia_ev (cells := [.int .i64 e228]) rfl rfl (idx_s he228).1 (map_get (x := e228) (idx_s he228).2) rfl rfl) ?_
              refine G_h rfl rfl rfl (fun _ => rfl) ?_
              refine G_p (v := .lst (List.map encFct l6) false) rfl rfl rfl ?_
              refine G_p rfl rfl rfl ?_
              refine G_h (v := .ro [.int .i64 y170.var, .int .i64 y170.tags]) rfl rfl rfl (ia_ev (cells := [.int .i64 y170.var, .int .i64 y170.tags]) rfl rfl (Int.natCast_nonneg _) (map_get (x := y170) (by rw [Int.toNat_natCast]; exact hy170)) (encFct_flat _) rfl) ?_
              refine G_p (v := .ro [.int .i64 y170.var, .int .i64 y170.tags]) rfl rfl rfl ?_
              refine G_h rfl rfl rfl (fun _ => rfl) ?_
              refine G_p rfl rfl rfl ?_
              cases hr; exact G_nil (L_nil ⟨rfl, rfl, rfl⟩)
            · intro hb44; exact pickF hvv229 hb44
            · intro vs hvs
              obtain ⟨u45, u46, u47, u48, u49, u50, u51, u52, u53, u54, rfl⟩ := len10 hvs
              dsimp only [junk]
              refine G_nil (L_nil ⟨rfl, ?_⟩)
              refine L_nil ?_
              refine Sm_norm (e2 := [(5, .lst (List.map (AVal.int .i64) l120) false), (6, .lst (List.map encFct l6) false), (7, .int .i64 ((i171 : Nat) : Int)), (8, .int .i64 a227), (55, .bool v229)]) (H1 := [.cells [.bool a1.never, .lst (List.map encFct a1.l) false], .cells [.bool b2.never, .lst (List.map encFct b2.l) false]]) (H2 := [.cells [.bool a1.never, .lst (List.map encFct a1.l) false], .cells [.bool b2.never, .lst (List.map encFct b2.l) false]]) rfl (by repeat (first | exact rzz | apply rcc rfl | apply rnn rfl)) rfl (?_ : GL _ _ _ _ _)
              rcases cond_s hr with ⟨hc55, hr⟩ | ⟨hc55, hr⟩
              · refine L_T rfl hc55 ?_
                refine L_draw ?_
                refine GD_h (d := some 56) (v := .lst [] true) rfl rfl rfl rfl (fun _ => rfl) ?_
                refine GD_p (v := .lst (List.map (AVal.int .i64) l120) false) rfl rfl rfl ?_
                refine GD_p rfl rfl rfl ?_
                obtain ⟨l230, hl230, hr⟩ := bind_s hr
                refine GD_h (d := some 59) (v := .lst (List.map (AVal.int .i64) l230) false) rfl rfl rfl rfl (sub_ev (fl := false) (fun _ => rfl) rfl rfl rfl (.inl ⟨rfl, rfl⟩) (.inr ⟨_, rfl⟩) hl230) ?_
                obtain ⟨hLq231, hr⟩ := guard_s hr
                rcases emp_or l230 with hEq231 | hEq231
                · skip
                  refine GD_o (d := some 60) (H' := [.cells [.bool a1.never, .lst (List.map encFct a1.l) false], .cells [.bool b2.never, .lst (List.map encFct b2.l) false], .hole, .hole, .hole]) rfl rfl rfl rfl (appE_ev (es := 1) (ys := l230) (fun _ => rfl) rfl rfl rfl hEq231) ?_
                  refine GD_p (v := .lst (List.map encFct l6) false) rfl rfl rfl ?_
                  refine GD_p rfl rfl rfl ?_
                  refine GD_h (d := some 63) (v := .ro [.int .i64 y170.var, .int .i64 y170.tags]) rfl rfl rfl rfl (ia_ev (cells := [.int .i64 y170.var, .int .i64 y170.tags]) rfl rfl (Int.natCast_nonneg _) (map_get (x := y170) (by rw [Int.toNat_natCast]; exact hy170)) (encFct_flat _) rfl) ?_
                  refine GD_p (v := .ro [.int .i64 y170.var, .int .i64 y170.tags]) rfl rfl rfl ?_
                  refine GD_h (d := some 65) rfl rfl rfl rfl (fun _ => rfl) ?_
                  refine GD_h (d := some 66) (v := .lst (List.map (AVal.int .i64) [y170.var]) true) rfl rfl rfl rfl (fun _ => rfl) ?_
                  obtain ⟨l232, hl232, hr⟩ := bind_s hr
                  refine GD_o (d := some 67) (H' := [.cells [.bool a1.never, .lst (List.map encFct a1.l) false], .cells [.bool b2.never, .lst (List.map encFct b2.l) false], .hole, growM 1 (AVal.int .i64) l232, .hole]) rfl rfl rfl rfl (appM_ev (es := 1) (fun _ => rfl) (show (8 : Nat) ≤ 1400 from by decide) rfl rfl rfl rfl hl232 rfl) ?_
                  refine GD_p (v := .lst (List.map (AVal.int .i64) l120) false) rfl rfl rfl ?_
                  refine GD_p rfl rfl rfl ?_
                  obtain ⟨l233, hl233, hr⟩ := bind_s hr
                  refine GD_h (d := some 70) (v := .lst (List.map (AVal.int .i64) l233) false) rfl rfl rfl rfl (sub_ev (fl := false) (fun _ => rfl) rfl rfl rfl (.inr ⟨_, rfl⟩) (.inl ⟨rfl, rfl⟩) hl233) ?_
                  obtain ⟨l234, hl234, hr⟩ := bind_s hr
                  refine GD_o (d := some 71) (H' := [.cells [.bool a1.never, .lst (List.map encFct a1.l) false], .cells [.bool b2.never, .lst (List.map encFct b2.l) false], .hole, growM 1 (AVal.int .i64) l234, .hole]) rfl rfl rfl rfl (appG2_ev (es := 1) (fun _ => rfl) (show (8 : Nat) ≤ 1400 from by decide) rfl rfl rfl rfl hl234 rfl) ?_
                  refine GD_p rfl rfl rfl ?_
                  refine GD_nil2 (by first | (simp [okFs2, okEarlier2, disj, noneIn, notIn, sameOn_self, sameOn, partsGls, sameB_self, AOpd.ev, Env.get, Env.put, glsV, glsL]; done) | rfl) ?_
                  refine L_nil ?_
                  refine Blk_norm (?_ : GL _ _ _ _ _)
                  refine L_nil ?_
                  exact Sm_norm (e2 := [(5, .lst (List.map (AVal.int .i64) l234) false), (6, .lst (List.map encFct l6) false), (7, .int .i64 ((i171 : Nat) : Int))]) (H1 := [.cells [.bool a1.never, .lst (List.map encFct a1.l) false], .cells [.bool b2.never, .lst (List.map encFct b2.l) false], .hole, growM 1 (AVal.int .i64) l234, .hole]) (H2 := [.cells [.bool a1.never, .lst (List.map encFct a1.l) false], .cells [.bool b2.never, .lst (List.map encFct b2.l) false]]) (frz_c (frz_gl rfl rfl) rfl) (by repeat (first | exact rzz | apply rcc rfl | apply rnn rfl)) rfl ⟨l234, rfl, rfl, hr⟩
                · skip
                  refine GD_o (d := some 60) (H' := [.cells [.bool a1.never, .lst (List.map encFct a1.l) false], .cells [.bool b2.never, .lst (List.map encFct b2.l) false], growM 1 (AVal.int .i64) l230, .hole, .hole]) rfl rfl rfl rfl (appN_ev (es := 1) (ys := l230) (fun _ => rfl) (show (8 : Nat) ≤ 1400 from by decide) rfl rfl rfl hEq231 hLq231 rfl) ?_
                  refine GD_p (v := .lst (List.map encFct l6) false) rfl rfl rfl ?_
                  refine GD_p rfl rfl rfl ?_
                  refine GD_h (d := some 63) (v := .ro [.int .i64 y170.var, .int .i64 y170.tags]) rfl rfl rfl rfl (ia_ev (cells := [.int .i64 y170.var, .int .i64 y170.tags]) rfl rfl (Int.natCast_nonneg _) (map_get (x := y170) (by rw [Int.toNat_natCast]; exact hy170)) (encFct_flat _) rfl) ?_
                  refine GD_p (v := .ro [.int .i64 y170.var, .int .i64 y170.tags]) rfl rfl rfl ?_
                  refine GD_h (d := some 65) rfl rfl rfl rfl (fun _ => rfl) ?_
                  refine GD_h (d := some 66) (v := .lst (List.map (AVal.int .i64) [y170.var]) true) rfl rfl rfl rfl (fun _ => rfl) ?_
                  obtain ⟨l235, hl235, hr⟩ := bind_s hr
                  refine GD_o (d := some 67) (H' := [.cells [.bool a1.never, .lst (List.map encFct a1.l) false], .cells [.bool b2.never, .lst (List.map encFct b2.l) false], growM 1 (AVal.int .i64) l235, .hole, .hole]) rfl rfl rfl rfl (appG2_ev (es := 1) (fun _ => rfl) (show (8 : Nat) ≤ 1400 from by decide) rfl rfl rfl rfl hl235 rfl) ?_
                  refine GD_p (v := .lst (List.map (AVal.int .i64) l120) false) rfl rfl rfl ?_
                  refine GD_p rfl rfl rfl ?_
                  obtain ⟨l236, hl236, hr⟩ := bind_s hr
                  refine GD_h (d := some 70) (v := .lst (List.map (AVal.int .i64) l236) false) rfl rfl rfl rfl (sub_ev (fl := false) (fun _ => rfl) rfl rfl rfl (.inr ⟨_, rfl⟩) (.inl ⟨rfl, rfl⟩) hl236) ?_
                  obtain ⟨l237, hl237, hr⟩ := bind_s hr
                  refine GD_o (d := some 71) (H' := [.cells [.bool a1.never, .lst (List.map encFct a1.l) false], .cells [.bool b2.never, .lst (List.map encFct b2.l) false], growM 1 (AVal.int .i64) l237, .hole, .hole]) rfl rfl rfl rfl (appG2_ev (es := 1) (fun _ => rfl) (show (8 : Nat) ≤ 1400 from by decide) rfl rfl rfl rfl hl237 rfl) ?_
                  refine GD_p rfl rfl rfl ?_
                  refine GD_nil2 (by first | (simp [okFs2, okEarlier2, disj, noneIn, notIn, sameOn_self, sameOn, partsGls, sameB_self, AOpd.ev, Env.get, Env.put, glsV, glsL]; done) | rfl) ?_
                  refine L_nil ?_
                  refine Blk_norm (?_ : GL _ _ _ _ _)
                  refine L_nil ?_
                  exact Sm_norm (e2 := [(5, .lst (List.map (AVal.int .i64) l237) false), (6, .lst (List.map encFct l6) false), (7, .int .i64 ((i171 : Nat) : Int))]) (H1 := [.cells [.bool a1.never, .lst (List.map encFct a1.l) false], .cells [.bool b2.never, .lst (List.map encFct b2.l) false], growM 1 (AVal.int .i64) l237, .hole, .hole]) (H2 := [.cells [.bool a1.never, .lst (List.map encFct a1.l) false], .cells [.bool b2.never, .lst (List.map encFct b2.l) false]]) (frz_c (frz_gl rfl rfl) rfl) (by repeat (first | exact rzz | apply rcc rfl | apply rnn rfl)) rfl ⟨l237, rfl, rfl, hr⟩
              · refine L_F rfl hc55 ?_
                refine L_skip ?_
                refine L_nil ?_
                refine Blk_norm (?_ : GL _ _ _ _ _)
                refine L_nil ?_
                exact Sm_norm (e2 := [(5, .lst (List.map (AVal.int .i64) l120) false), (6, .lst (List.map encFct l6) false), (7, .int .i64 ((i171 : Nat) : Int))]) (H1 := [.cells [.bool a1.never, .lst (List.map encFct a1.l) false], .cells [.bool b2.never, .lst (List.map encFct b2.l) false]]) (H2 := [.cells [.bool a1.never, .lst (List.map encFct a1.l) false], .cells [.bool b2.never, .lst (List.map encFct b2.l) false]]) (frz_c (frz_lst rfl) rfl) (by repeat (first | exact rzz | apply rcc rfl | apply rnn rfl)) rfl ⟨l120, rfl, rfl, hr⟩
        · rintro l205 hr
          show GL _ _ [(5, .lst (List.map (AVal.int .i64) l205) false), (6, .lst (List.map encFct l6) false), (7, .int .i64 ((i171 : Nat) : Int))] [.cells [.bool a1.never, .lst (List.map encFct a1.l) false], .cells [.bool b2.never, .lst (List.map encFct b2.l) false]] _
          replace hr : g_r06_vars_j3 (g_r06_vars_l2 rest172 (i171 + 1)) l205 = some r := hr
          unfold g_r06_vars_j3 at hr
          refine L_reg ?_
          refine G_p rfl rfl rfl ?_
          refine G_v (.int .i64 ((i171 + 1 : Nat) : Int)) rfl rfl rfl (congrArg _ (wrap_next hLq169 hlti171)) ?_
          refine G_p rfl rfl rfl ?_
          refine G_nil ?_
          refine L_nil ?_
          refine Rd_norm ⟨l205, ?_, rfl, hr⟩
          show restr _ _ = [(5, .lst (List.map (AVal.int .i64) l205) false), (7, .int .i64 (((i171 + 1) : Nat) : Int)), (6, .lst (List.map encFct l6) false)]
          (repeat (first | exact rzz | apply rcc rfl | apply rnn rfl))
    · rintro l106 hr
      show GL _ _ [(5, .lst (List.map (AVal.int .i64) l106) false)] [.cells [.bool a1.never, .lst (List.map encFct a1.l) false], .cells [.bool b2.never, .lst (List.map encFct b2.l) false]] _
      replace hr : g_r06_vars_j1 l106 = some r := hr
      unfold g_r06_vars_j1 at hr
      refine L_seq ?_
      refine L_reg ?_
      refine G_p (v := .lst (List.map (AVal.int .i64) l106) false) rfl rfl rfl ?_
      refine G_p (v := .lst (List.map (AVal.int .i64) l106) false) rfl rfl rfl ?_
      refine G_nil ?_
      refine L_ret ?_
      have hr := some_s hr
      subst hr
      exact ⟨_, rfl, _, rfl, rfl⟩
noncomputable def g_r06_And_j1 (l32 : List Fct) : Option Fts :=
  some (Fts.mk false l32)
noncomputable def g_r06_And_j3 (K16 : (List Fct) → Option Fts) (l60 : List Fct) : Option Fts :=
  K16 l60
noncomputable def g_r06_And_l2 (a1 : Fts) (b2 : Fts) : List Int → Nat → (List Fct) → Option Fts
  | [], _, l42 => g_r06_And_j1 l42
  | y54 :: rest56, i55, l42 => ((g_r06_tags a1 y54).bind fun r61 => ((g_r06_tags b2 y54).bind fun r62 => (cond (!decide ((andB .i64 r61 r62) = 255)) ((catL l42 [(Fct.mk y54 (andB .i64 r61 r62))]).bind fun l63 => g_r06_And_j3 (g_r06_And_l2 a1 b2 rest56 (i55 + 1)) l63) (g_r06_And_j3 (g_r06_And_l2 a1 b2 rest56 (i55 + 1)) l42))))
noncomputable def g_r06_And (n : Nat) (a1 : Fts) (b2 : Fts) : Option Fts :=
  (cond (a1.never || b2.never) (some (Fts.mk true [])) ((g_r06_vars n a1 b2).bind fun r3 => (cond (okLen r3) (g_r06_And_l2 a1 b2 r3 0 []) none)))
theorem g_r06_And_ok {n : Nat} {a1 : Fts} {b2 : Fts} {r : Fts} (hr : g_r06_And n a1 b2 = some r) : PRes (tabOf tabL) 12 [.agg (cFts a1), .agg (cFts b2)] (.agg (cFts r)) := by
  refine pres_fin t12 ?_
  unfold g_r06_And at hr
  refine L_seq ?_
  refine L_stmt ?_
  refine L_reg ?_
  refine G_n (B := .cells [.bool a1.never, .lst (List.map encFct a1.l) false]) rfl rfl rfl ?_
  refine G_n (B := .cells [.bool b2.never, .lst (List.map encFct b2.l) false]) rfl rfl rfl ?_
  refine G_n (B := .cells [.bool false, .lst [] true]) rfl rfl rfl ?_
  refine G_nil ?_
  refine L_nil ?_
  refine Sm_norm (e2 := [(2, .ptr 0 0), (3, .ptr 1 0), (4, .ptr 2 0)]) (H1 := [.cells [.bool a1.never, .lst (List.map encFct a1.l) false], .cells [.bool b2.never, .lst (List.map encFct b2.l) false], .cells [.bool false, .lst [] true]]) (H2 := [.cells [.bool a1.never, .lst (List.map encFct a1.l) false], .cells [.bool b2.never, .lst (List.map encFct b2.l) false], .cells [.bool false, .lst [] true]]) rfl (by repeat (first | exact rzz | apply rcc rfl | apply rnn rfl)) rfl (?_ : GL _ _ _ _ _)
  refine L_seq ?_
  refine L_stmt ?_
  refine L_seq ?_
  refine L_stmt ?_
  refine L_reg ?_
  refine G_p rfl rfl rfl ?_
  refine G_h rfl rfl rfl (fun _ => rfl) ?_
  refine G_p rfl rfl rfl ?_
  refine G_or (f := b2.never) [_, _] rfl rfl ?_ ?_
  · intro hb11
    refine G_p rfl rfl rfl ?_
    refine G_h rfl rfl rfl (fun _ => rfl) ?_
    exact G_nil (L_nil ⟨rfl, rfl, rfl⟩)
  · intro vs hvs
    obtain ⟨u12, u13, rfl⟩ := len2 hvs
    dsimp only [junk]
    refine G_nil ?_
    refine L_nil ?_
    refine Sm_norm (e2 := [(2, .ptr 0 0), (3, .ptr 1 0), (4, .ptr 2 0), (14, .bool (a1.never || b2.never))]) (H1 := [.cells [.bool a1.never, .lst (List.map encFct a1.l) false], .cells [.bool b2.never, .lst (List.map encFct b2.l) false], .cells [.bool false, .lst [] true]]) (H2 := [.cells [.bool a1.never, .lst (List.map encFct a1.l) false], .cells [.bool b2.never, .lst (List.map encFct b2.l) false], .cells [.bool false, .lst [] true]]) rfl (by repeat (first | exact rzz | apply rcc rfl | apply rnn rfl)) rfl (?_ : GL _ _ _ _ _)
    rcases cond_s hr with ⟨hc14, hr⟩ | ⟨hc14, hr⟩
    · refine L_T rfl hc14 ?_
      refine L_seq ?_
      refine L_reg ?_
      refine G_p (v := .agg [.bool true, .lst [] true]) rfl rfl rfl ?_
      refine G_hn (H' := [.cells [.bool a1.never, .lst (List.map encFct a1.l) false], .cells [.bool b2.never, .lst (List.map encFct b2.l) false], .cells [.bool true, .lst [] true]]) rfl rfl rfl (fun _ => rfl) ?_
      refine G_nil ?_
      refine L_ret ?_
      refine Sm_ret ?_
      have hr := some_s hr
      subst hr
      exact ⟨_, rfl, _, rfl, rfl⟩
    · refine L_F rfl hc14 ?_
      refine L_skip ?_
      refine L_nil ?_
      refine Sm_norm (e2 := [(2, .ptr 0 0), (3, .ptr 1 0), (4, .ptr 2 0)]) (H1 := [.cells [.bool a1.never, .lst (List.map encFct a1.l) false], .cells [.bool b2.never, .lst (List.map encFct b2.l) false], .cells [.bool false, .lst [] true]]) (H2 := [.cells [.bool a1.never, .lst (List.map encFct a1.l) false], .cells [.bool b2.never, .lst (List.map encFct b2.l) false], .cells [.bool false, .lst [] true]]) rfl (by repeat (first | exact rzz | apply rcc rfl | apply rnn rfl)) rfl (?_ : GL _ _ _ _ _)
      refine L_seq ?_
      refine L_stmt ?_
      refine L_reg ?_
      refine G_n (B := .cells [.bool false, .lst [] true]) rfl rfl rfl ?_
      refine G_nil ?_
      refine L_nil ?_
      refine Sm_norm (e2 := [(2, .ptr 0 0), (3, .ptr 1 0), (4, .ptr 2 0), (5, .ptr 3 0)]) (H1 := [.cells [.bool a1.never, .lst (List.map encFct a1.l) false], .cells [.bool b2.never, .lst (List.map encFct b2.l) false], .cells [.bool false, .lst [] true], .cells [.bool false, .lst [] true]]) (H2 := [.cells [.bool a1.never, .lst (List.map encFct a1.l) false], .cells [.bool b2.never, .lst (List.map encFct b2.l) false], .cells [.bool false, .lst [] true], .cells [.bool false, .lst [] true]]) rfl (by repeat (first | exact rzz | apply rcc rfl | apply rnn rfl)) rfl (?_ : GL _ _ _ _ _)
      refine L_seq ?_
      refine L_stmt ?_
      refine L_reg ?_
      refine G_h (v := .agg (cFts a1)) rfl rfl rfl (fun _ => rfl) ?_
      refine G_h (v := .agg (cFts b2)) rfl rfl rfl (fun _ => rfl) ?_
      obtain ⟨r3, hr3, hr⟩ := bind_s hr
      refine G_c 40 rfl rfl (CA_of (as := [.agg (cFts a1), .agg (cFts b2)]) rfl (g_r06_vars_ok hr3)) ?_
      refine G_p (v := .lst (List.map (AVal.int .i64) r3) false) rfl rfl rfl ?_
      refine G_nil ?_
      refine L_nil ?_
      refine Sm_norm (e2 := [(2, .ptr 0 0), (3, .ptr 1 0), (4, .ptr 2 0), (5, .ptr 3 0), (6, .lst (List.map (AVal.int .i64) r3) false)]) (H1 := [.cells [.bool a1.never, .lst (List.map encFct a1.l) false], .cells [.bool b2.never, .lst (List.map encFct b2.l) false], .cells [.bool false, .lst [] true], .cells [.bool false, .lst [] true]]) (H2 := [.cells [.bool a1.never, .lst (List.map encFct a1.l) false], .cells [.bool b2.never, .lst (List.map encFct b2.l) false], .cells [.bool false, .lst [] true], .cells [.bool false, .lst [] true]]) (frz_c (frz_lst rfl) rfl) (by repeat (first | exact rzz | apply rcc rfl | apply rnn rfl)) rfl (?_ : GL _ _ _ _ _)
      refine L_seq ?_
      refine L_stmtJ (S := List Fct) (fun s => [(4, .ptr 2 0), (5, .ptr 3 0)]) (fun s => [.cells [.bool a1.never, .lst (List.map encFct a1.l) false], .cells [.bool b2.never, .lst (List.map encFct b2.l) false], .cells [.bool false, .lst [] true], .cells [.bool false, .lst (List.map encFct s) false]]) (fun s => g_r06_And_j1 s = some r) ?_ ?_
      · skip
        refine L_seq ?_
        refine L_stmt ?_
        refine L_reg ?_
        refine G_p rfl rfl rfl ?_
        refine G_nil ?_
        refine L_nil ?_
        refine Sm_norm (e2 := [(2, .ptr 0 0), (3, .ptr 1 0), (4, .ptr 2 0), (5, .ptr 3 0), (6, .lst (List.map (AVal.int .i64) r3) false), (7, .int .i64 0)]) (H1 := [.cells [.bool a1.never, .lst (List.map encFct a1.l) false], .cells [.bool b2.never, .lst (List.map encFct b2.l) false], .cells [.bool false, .lst [] true], .cells [.bool false, .lst [] true]]) (H2 := [.cells [.bool a1.never, .lst (List.map encFct a1.l) false], .cells [.bool b2.never, .lst (List.map encFct b2.l) false], .cells [.bool false, .lst [] true], .cells [.bool false, .lst [] true]]) rfl (by repeat (first | exact rzz | apply rcc rfl | apply rnn rfl)) rfl (?_ : GL _ _ _ _ _)
        refine L_block ?_
        refine L_seq ?_
        refine L_own (H' := [.cells [.bool a1.never, .lst (List.map encFct a1.l) false], .cells [.bool b2.never, .lst (List.map encFct b2.l) false], .cells [.bool false, .lst [] true], .cells [.bool false, .gl 4 (List.length [])], growM 2 encFct []]) rfl ?_
        obtain ⟨hLq53, hr⟩ := guard_s hr
        replace hLq53 := okLen_s hLq53
        refine L_range (X := Int) (S := List Fct) r3 (fun i55 s => [(7, .int .i64 ((i55 : Nat) : Int)), (2, .ptr 0 0), (3, .ptr 1 0), (4, .ptr 2 0), (5, .ptr 3 0), (6, .lst (List.map (AVal.int .i64) r3) false)]) (fun i55 s => [.cells [.bool a1.never, .lst (List.map encFct a1.l) false], .cells [.bool b2.never, .lst (List.map encFct b2.l) false], .cells [.bool false, .lst [] true], .cells [.bool false, .gl 4 (List.length s)], growM 2 encFct s]) (fun rest i55 s => g_r06_And_l2 a1 b2 rest i55 s = some r) ([]) ?_ rfl hr ?_ ?_
        · show restr _ _ = [(7, .int .i64 ((0 : Nat) : Int)), (2, .ptr 0 0), (3, .ptr 1 0), (4, .ptr 2 0), (5, .ptr 3 0), (6, .lst (List.map (AVal.int .i64) r3) false)]
          (repeat (first | exact rzz | apply rcc rfl | apply rnn rfl))
        · rintro l42 hr
          show GL _ _ [(7, .int .i64 (((List.length r3) : Nat) : Int)), (2, .ptr 0 0), (3, .ptr 1 0), (4, .ptr 2 0), (5, .ptr 3 0), (6, .lst (List.map (AVal.int .i64) r3) false)] [.cells [.bool a1.never, .lst (List.map encFct a1.l) false], .cells [.bool b2.never, .lst (List.map encFct b2.l) false], .cells [.bool false, .lst [] true], .cells [.bool false, .gl 4 (List.length l42)], growM 2 encFct l42] _
          replace hr : g_r06_And_l2 a1 b2 [] (List.length r3) l42 = some r := hr
          rw [g_r06_And_l2] at hr
          refine L_seq ?_
          refine L_stmt ?_
          refine L_seq ?_
          refine L_stmt ?_
          refine L_reg ?_
          refine G_p rfl rfl rfl ?_
          refine G_p (v := .lst (List.map (AVal.int .i64) r3) false) rfl rfl rfl ?_
          refine G_h rfl rfl rfl (lenL_ev rfl (List.length_map _)) ?_
          refine G_v (.bool false) rfl rfl rfl (congrArg AVal.bool (decide_eq_false (by omega))) ?_
          refine G_nil ?_
          refine L_nil ?_
          refine Sm_norm (e2 := [(2, .ptr 0 0), (3, .ptr 1 0), (4, .ptr 2 0), (5, .ptr 3 0), (6, .lst (List.map (AVal.int .i64) r3) false), (7, .int .i64 ((List.length r3 : Nat) : Int)), (22, .bool false)]) (H1 := [.cells [.bool a1.never, .lst (List.map encFct a1.l) false], .cells [.bool b2.never, .lst (List.map encFct b2.l) false], .cells [.bool false, .lst [] true], .cells [.bool false, .gl 4 (List.length l42)], growM 2 encFct l42]) (H2 := [.cells [.bool a1.never, .lst (List.map encFct a1.l) false], .cells [.bool b2.never, .lst (List.map encFct b2.l) false], .cells [.bool false, .lst [] true], .cells [.bool false, .gl 4 (List.length l42)], growM 2 encFct l42]) rfl (by repeat (first | exact rzz | apply rcc rfl | apply rnn rfl)) rfl (?_ : GL _ _ _ _ _)
          refine L_F rfl rfl ?_
          refine L_exit ?_
          refine Sm_exit ?_
          refine Rd_exit ?_
          refine Blk_exit (?_ : GL _ _ _ _ _)
          refine L_nil ?_
          exact Sm_norm (e2 := [(4, .ptr 2 0), (5, .ptr 3 0)]) (H1 := [.cells [.bool a1.never, .lst (List.map encFct a1.l) false], .cells [.bool b2.never, .lst (List.map encFct b2.l) false], .cells [.bool false, .lst [] true], .cells [.bool false, .lst (List.map encFct l42) false], growM 2 encFct l42]) (H2 := [.cells [.bool a1.never, .lst (List.map encFct a1.l) false], .cells [.bool b2.never, .lst (List.map encFct b2.l) false], .cells [.bool false, .lst [] true], .cells [.bool false, .lst (List.map encFct l42) false]]) (frz_c (frz_glC (H2 := [.cells [.bool a1.never, .lst (List.map encFct a1.l) false], .cells [.bool b2.never, .lst (List.map encFct b2.l) false], .cells [.bool false, .lst [] true], .cells [.bool false, .lst (List.map encFct l42) false], growM 2 encFct l42]) rfl rfl rfl rfl rfl) rfl) (by repeat (first | exact rzz | apply rcc rfl | apply rnn rfl)) rfl ⟨l42, rfl, rfl, hr⟩
        · rintro y54 rest56 i55 l42 hy54 hlti55 hr
          show GL _ _ [(7, .int .i64 ((i55 : Nat) : Int)), (2, .ptr 0 0), (3, .ptr 1 0), (4, .ptr 2 0), (5, .ptr 3 0), (6, .lst (List.map (AVal.int .i64) r3) false)] [.cells [.bool a1.never, .lst (List.map encFct a1.l) false], .cells [.bool b2.never, .lst (List.map encFct b2.l) false], .cells [.bool false, .lst [] true], .cells [.bool false, .gl 4 (List.length l42)], growM 2 encFct l42] _
          replace hr : g_r06_And_l2 a1 b2 (y54 :: rest56) i55 l42 = some r := hr
          rw [g_r06_And_l2] at hr
          refine L_seq ?_
          refine L_stmt ?_
          refine L_seq ?_
          refine L_stmt ?_
          refine L_reg ?_
          refine G_p rfl rfl rfl ?_
          refine G_p (v := .lst (List.map (AVal.int .i64) r3) false) rfl rfl rfl ?_
          refine G_h rfl rfl rfl (lenL_ev rfl (List.length_map _)) ?_
          refine G_v (.bool true) rfl rfl rfl (congrArg AVal.bool (decide_eq_true (by omega))) ?_
          refine G_nil ?_
          refine L_nil ?_
          refine Sm_norm (e2 := [(2, .ptr 0 0), (3, .ptr 1 0), (4, .ptr 2 0), (5, .ptr 3 0), (6, .lst (List.map (AVal.int .i64) r3) false), (7, .int .i64 ((i55 : Nat) : Int)), (22, .bool true)]) (H1 := [.cells [.bool a1.never, .lst (List.map encFct a1.l) false], .cells [.bool b2.never, .lst (List.map encFct b2.l) false], .cells [.bool false, .lst [] true], .cells [.bool false, .gl 4 (List.length l42)], growM 2 encFct l42]) (H2 := [.cells [.bool a1.never, .lst (List.map encFct a1.l) false], .cells [.bool b2.never, .lst (List.map encFct b2.l) false], .cells [.bool false, .lst [] true], .cells [.bool false, .gl 4 (List.length l42)], growM 2 encFct l42]) rfl (by repeat (first | exact rzz | apply rcc rfl | apply rnn rfl)) rfl (?_ : GL _ _ _ _ _)
          refine L_T rfl rfl ?_
          refine L_skip ?_
          refine L_nil ?_
          refine Sm_norm (e2 := [(2, .ptr 0 0), (3, .ptr 1 0), (4, .ptr 2 0), (5, .ptr 3 0), (6, .lst (List.map (AVal.int .i64) r3) false), (7, .int .i64 ((i55 : Nat) : Int))]) (H1 := [.cells [.bool a1.never, .lst (List.map encFct a1.l) false], .cells [.bool b2.never, .lst (List.map encFct b2.l) false], .cells [.bool false, .lst [] true], .cells [.bool false, .gl 4 (List.length l42)], growM 2 encFct l42]) (H2 := [.cells [.bool a1.never, .lst (List.map encFct a1.l) false], .cells [.bool b2.never, .lst (List.map encFct b2.l) false], .cells [.bool false, .lst [] true], .cells [.bool false, .gl 4 (List.length l42)], growM 2 encFct l42]) rfl (by repeat (first | exact rzz | apply rcc rfl | apply rnn rfl)) rfl (?_ : GL _ _ _ _ _)
          refine L_seq ?_
          refine L_stmtJ (S := List Fct) (fun s => [(2, .ptr 0 0), (3, .ptr 1 0), (4, .ptr 2 0), (5, .ptr 3 0), (6, .lst (List.map (AVal.int .i64) r3) false), (7, .int .i64 ((i55 : Nat) : Int))]) (fun s => [.cells [.bool a1.never, .lst (List.map encFct a1.l) false], .cells [.bool b2.never, .lst (List.map encFct b2.l) false], .cells [.bool false, .lst [] true], .cells [.bool false, .gl 4 (List.length s)], growM 2 encFct s]) (fun s => g_r06_And_j3 (g_r06_And_l2 a1 b2 rest56 (i55 + 1)) s = some r) ?_ ?_
          · skip
            refine L_block ?_
            refine L_seq ?_
            refine L_stmt ?_
            refine L_drawT [] rfl ?_
            refine GS_h (d := some 25) (v := .agg (cFts a1)) rfl rfl rfl rfl (fun _ => rfl) ?_
            refine GS_p (v := .lst (List.map (AVal.int .i64) r3) false) rfl rfl rfl ?_
            refine GS_p rfl rfl rfl ?_
            refine GS_h (d := some 28) (v := .ro [.int .i64 y54]) rfl rfl rfl rfl (ia_ev (cells := [.int .i64 y54]) rfl rfl (Int.natCast_nonneg _) (map_get (x := y54) (by rw [Int.toNat_natCast]; exact hy54)) rfl rfl) ?_
            refine GS_h (d := some 29) rfl rfl rfl rfl (fun _ => rfl) ?_
            obtain ⟨r61, hr61, hr⟩ := bind_s hr
            refine GS_c 41 rfl rfl rfl (CA_of (as := [.agg (cFts a1), .int .i64 y54]) rfl (g_r06_tags_ok hr61)) ?_
            refine GS_h (d := some 31) (v := .agg (cFts b2)) rfl rfl rfl rfl (fun _ => rfl) ?_
            refine GS_p (v := .lst (List.map (AVal.int .i64) r3) false) rfl rfl rfl ?_
            refine GS_p rfl rfl rfl ?_
            refine GS_h (d := some 34) (v := .ro [.int .i64 y54]) rfl rfl rfl rfl (ia_ev (cells := [.int .i64 y54]) rfl rfl (Int.natCast_nonneg _) (map_get (x := y54) (by rw [Int.toNat_natCast]; exact hy54)) rfl rfl) ?_
            refine GS_h (d := some 35) rfl rfl rfl rfl (fun _ => rfl) ?_
            obtain ⟨r62, hr62, hr⟩ := bind_s hr
            refine GS_c 41 rfl rfl rfl (CA_of (as := [.agg (cFts b2), .int .i64 y54]) rfl (g_r06_tags_ok hr62)) ?_
            refine GS_p rfl rfl rfl ?_
            refine GS_p rfl rfl rfl ?_
            refine GS_nil ?_
            refine L_nil ?_
            refine Sm_norm (e2 := [(2, .ptr 0 0), (3, .ptr 1 0), (4, .ptr 2 0), (5, .ptr 3 0), (6, .lst (List.map (AVal.int .i64) r3) false), (7, .int .i64 ((i55 : Nat) : Int)), (8, .int .i64 (andB .i64 r61 r62))]) (H1 := [.cells [.bool a1.never, .lst (List.map encFct a1.l) false], .cells [.bool b2.never, .lst (List.map encFct b2.l) false], .cells [.bool false, .lst [] true], .cells [.bool false, .gl 4 (List.length l42)], growM 2 encFct l42]) (H2 := [.cells [.bool a1.never, .lst (List.map encFct a1.l) false], .cells [.bool b2.never, .lst (List.map encFct b2.l) false], .cells [.bool false, .lst [] true], .cells [.bool false, .gl 4 (List.length l42)], growM 2 encFct l42]) rfl (by repeat (first | exact rzz | apply rcc rfl | apply rnn rfl)) rfl (?_ : GL _ _ _ _ _)
            refine L_seq ?_
            refine L_stmt ?_
            refine L_reg ?_
            refine G_p rfl rfl rfl ?_
            refine G_p rfl rfl rfl ?_
            refine G_nil ?_
            refine L_nil ?_
            refine Sm_norm (e2 := [(2, .ptr 0 0), (3, .ptr 1 0), (4, .ptr 2 0), (5, .ptr 3 0), (6, .lst (List.map (AVal.int .i64) r3) false), (7, .int .i64 ((i55 : Nat) : Int)), (8, .int .i64 (andB .i64 r61 r62)), (39, .bool (!decide ((andB .i64 r61 r62) = 255)))]) (H1 := [.cells [.bool a1.never, .lst (List.map encFct a1.l) false], .cells [.bool b2.never, .lst (List.map encFct b2.l) false], .cells [.bool false, .lst [] true], .cells [.bool false, .gl 4 (List.length l42)], growM 2 encFct l42]) (H2 := [.cells [.bool a1.never, .lst (List.map encFct a1.l) false], .cells [.bool b2.never, .lst (List.map encFct b2.l) false], .cells [.bool false, .lst [] true], .cells [.bool false, .gl 4 (List.length l42)], growM 2 encFct l42]) rfl (by repeat (first | exact rzz | apply rcc rfl | apply rnn rfl)) rfl (?_ : GL _ _ _ _ _)
            rcases cond_s hr with ⟨hc39, hr⟩ | ⟨hc39, hr⟩
            · refine L_T rfl hc39 ?_
              refine L_draw ?_
              refine GD_p rfl rfl rfl ?_
              refine GD_h (d := some 41) rfl rfl rfl rfl (fun _ => rfl) ?_
              refine GD_p (v := .lst (List.map (AVal.int .i64) r3) false) rfl rfl rfl ?_
              refine GD_p rfl rfl rfl ?_
              refine GD_h (d := some 44) (v := .ro [.int .i64 y54]) rfl rfl rfl rfl (ia_ev (cells := [.int .i64 y54]) rfl rfl (Int.natCast_nonneg _) (map_get (x := y54) (by rw [Int.toNat_natCast]; exact hy54)) rfl rfl) ?_
              refine GD_h (d := some 45) rfl rfl rfl rfl (fun _ => rfl) ?_
              refine GD_p rfl rfl rfl ?_
              refine GD_p (v := .agg [.int .i64 y54, .int .i64 (andB .i64 r61 r62)]) rfl rfl rfl ?_
              refine GD_h (d := some 48) (v := .lst (List.map encFct [(Fct.mk y54 (andB .i64 r61 r62))]) true) rfl rfl rfl rfl (fun _ => Eq.trans (b := some (Ex.ok (AVal.lst [.agg [.int .i64 y54, .int .i64 (andB .i64 r61 r62)]] true), _)) rfl (congrArg (fun z => some (Ex.ok (AVal.lst z true), _)) (by first | rfl | (simp only [List.map_cons, List.map_nil, encFct_eq] <;> rfl)))) ?_
              obtain ⟨l63, hl63, hr⟩ := bind_s hr
              refine GD_o (d := some 49) (H' := [.cells [.bool a1.never, .lst (List.map encFct a1.l) false], .cells [.bool b2.never, .lst (List.map encFct b2.l) false], .cells [.bool false, .lst [] true], .cells [.bool false, .gl 4 (List.length l42)], growM 2 encFct l63, .hole]) rfl rfl rfl rfl (appG2_ev (es := 2) encFct_w1 (show (16 : Nat) ≤ 1400 from by decide) rfl rfl rfl rfl hl63 rfl) ?_
              refine GD_p rfl rfl rfl ?_
              refine GD_h (d := none) (H' := [.cells [.bool a1.never, .lst (List.map encFct a1.l) false], .cells [.bool b2.never, .lst (List.map encFct b2.l) false], .cells [.bool false, .lst [] true], .cells [.bool false, .gl 4 (List.length l63)], growM 2 encFct l63, .hole]) rfl rfl rfl rfl (fun _ => rfl) ?_
              refine GD_nil2 (by first | (simp [okFs2, okEarlier2, disj, noneIn, notIn, sameOn_self, sameOn, partsGls, sameB_self, AOpd.ev, Env.get, Env.put, glsV, glsL]; done) | rfl) ?_
              refine L_nil ?_
              refine Blk_norm (?_ : GL _ _ _ _ _)
              refine L_nil ?_
              exact Sm_norm (e2 := [(2, .ptr 0 0), (3, .ptr 1 0), (4, .ptr 2 0), (5, .ptr 3 0), (6, .lst (List.map (AVal.int .i64) r3) false), (7, .int .i64 ((i55 : Nat) : Int))]) (H1 := [.cells [.bool a1.never, .lst (List.map encFct a1.l) false], .cells [.bool b2.never, .lst (List.map encFct b2.l) false], .cells [.bool false, .lst [] true], .cells [.bool false, .gl 4 (List.length l63)], growM 2 encFct l63, .hole]) (H2 := [.cells [.bool a1.never, .lst (List.map encFct a1.l) false], .cells [.bool b2.never, .lst (List.map encFct b2.l) false], .cells [.bool false, .lst [] true], .cells [.bool false, .gl 4 (List.length l63)], growM 2 encFct l63]) rfl (by repeat (first | exact rzz | apply rcc rfl | apply rnn rfl)) rfl ⟨l63, rfl, rfl, hr⟩
            · refine L_F rfl hc39 ?_
              refine L_skip ?_
              refine L_nil ?_
              refine Blk_norm (?_ : GL _ _ _ _ _)
              refine L_nil ?_
              exact Sm_norm (e2 := [(2, .ptr 0 0), (3, .ptr 1 0), (4, .ptr 2 0), (5, .ptr 3 0), (6, .lst (List.map (AVal.int .i64) r3) false), (7, .int .i64 ((i55 : Nat) : Int))]) (H1 := [.cells [.bool a1.never, .lst (List.map encFct a1.l) false], .cells [.bool b2.never, .lst (List.map encFct b2.l) false], .cells [.bool false, .lst [] true], .cells [.bool false, .gl 4 (List.length l42)], growM 2 encFct l42]) (H2 := [.cells [.bool a1.never, .lst (List.map encFct a1.l) false], .cells [.bool b2.never, .lst (List.map encFct b2.l) false], .cells [.bool false, .lst [] true], .cells [.bool false, .gl 4 (List.length l42)], growM 2 encFct l42]) rfl (by repeat (first | exact rzz | apply rcc rfl | apply rnn rfl)) rfl ⟨l42, rfl, rfl, hr⟩
          · rintro l60 hr
            show GL _ _ [(2, .ptr 0 0), (3, .ptr 1 0), (4, .ptr 2 0), (5, .ptr 3 0), (6, .lst (List.map (AVal.int .i64) r3) false), (7, .int .i64 ((i55 : Nat) : Int))] [.cells [.bool a1.never, .lst (List.map encFct a1.l) false], .cells [.bool b2.never, .lst (List.map encFct b2.l) false], .cells [.bool false, .lst [] true], .cells [.bool false, .gl 4 (List.length l60)], growM 2 encFct l60] _
            replace hr : g_r06_And_j3 (g_r06_And_l2 a1 b2 rest56 (i55 + 1)) l60 = some r := hr
            unfold g_r06_And_j3 at hr
            refine L_reg ?_
            refine G_p rfl rfl rfl ?_
            refine G_v (.int .i64 ((i55 + 1 : Nat) : Int)) rfl rfl rfl (congrArg _ (wrap_next hLq53 hlti55)) ?_
            refine G_p rfl rfl rfl ?_
            refine G_nil ?_
            refine L_nil ?_
            refine Rd_norm ⟨l60, ?_, rfl, hr⟩
            show restr _ _ = [(7, .int .i64 (((i55 + 1) : Nat) : Int)), (2, .ptr 0 0), (3, .ptr 1 0), (4, .ptr 2 0), (5, .ptr 3 0), (6, .lst (List.map (AVal.int .i64) r3) false)]
            (repeat (first | exact rzz | apply rcc rfl | apply rnn rfl))
      · rintro l32 hr
        show GL _ _ [(4, .ptr 2 0), (5, .ptr 3 0)] [.cells [.bool a1.never, .lst (List.map encFct a1.l) false], .cells [.bool b2.never, .lst (List.map encFct b2.l) false], .cells [.bool false, .lst [] true], .cells [.bool false, .lst (List.map encFct l32) false]] _
        replace hr : g_r06_And_j1 l32 = some r := hr
        unfold g_r06_And_j1 at hr
        refine L_seq ?_
        refine L_reg ?_
        refine G_h (v := .agg [.bool false, .lst (List.map encFct l32) false]) rfl rfl rfl (fun _ => rfl) ?_
        refine G_hn (H' := [.cells [.bool a1.never, .lst (List.map encFct a1.l) false], .cells [.bool b2.never, .lst (List.map encFct b2.l) false], .cells [.bool false, .lst (List.map encFct l32) false], .cells [.bool false, .lst (List.map encFct l32) false]]) rfl rfl rfl (fun _ => rfl) ?_
        refine G_nil ?_
        refine L_ret ?_
        have hr := some_s hr
        subst hr
        exact ⟨_, rfl, _, rfl, rfl⟩
noncomputable def g_r06_Or_j1 (l49 : List Fct) : Option Fts :=
  some (Fts.mk false l49)
noncomputable def g_r06_Or_j3 (K18 : (List Fct) → Option Fts) (l90 : List Fct) : Option Fts :=
  K18 l90
noncomputable def g_r06_Or_l2 (a1 : Fts) (b2 : Fts) : List Int → Nat → (List Fct) → Option Fts
  | [], _, l64 => g_r06_Or_j1 l64
  | y81 :: rest83, i82, l64 => ((g_r06_tags a1 y81).bind fun r91 => ((g_r06_tags b2 y81).bind fun r92 => ((g_r06_has a1 y81).bind fun r93 => ((cond r93 (((g_r06_has b2 y81).bind fun r94 => some r94)) (some false)).bind fun v95 => (cond (v95 && (!decide ((orB .i64 r91 r92) = 255))) ((catL l64 [(Fct.mk y81 (orB .i64 r91 r92))]).bind fun l96 => g_r06_Or_j3 (g_r06_Or_l2 a1 b2 rest83 (i82 + 1)) l96) (g_r06_Or_j3 (g_r06_Or_l2 a1 b2 rest83 (i82 + 1)) l64))))))
noncomputable def g_r06_Or (n : Nat) (a1 : Fts) (b2 : Fts) : Option Fts :=
  (cond a1.never ((g_r06_And n b2 (Fts.mk false [])).bind fun r4 => some r4) (cond b2.never ((g_r06_And n a1 (Fts.mk false [])).bind fun r6 => some r6) ((g_r06_vars n a1 b2).bind fun r7 => (cond (okLen r7) (g_r06_Or_l2 a1 b2 r7 0 []) none))))
theorem g_r06_Or_ok {n : Nat} {a1 : Fts} {b2 : Fts} {r : Fts} (hr : g_r06_Or n a1 b2 = some r) : PRes (tabOf tabL) 14 [.agg (cFts a1), .agg (cFts b2)] (.agg (cFts r)) := by
  refine pres_fin t14 ?_
  unfold g_r06_Or at hr
  refine L_seq ?_
  refine L_stmt ?_
  refine L_reg ?_
  refine G_n (B := .cells [.bool a1.never, .lst (List.map encFct a1.l) false]) rfl rfl rfl ?_
  refine G_n (B := .cells [.bool b2.never, .lst (List.map encFct b2.l) false]) rfl rfl rfl ?_
  refine G_n (B := .cells [.bool false, .lst [] true]) rfl rfl rfl ?_
  refine G_nil ?_
  refine L_nil ?_
  refine Sm_norm (e2 := [(2, .ptr 0 0), (3, .ptr 1 0), (4, .ptr 2 0)]) (H1 := [.cells [.bool a1.never, .lst (List.map encFct a1.l) false], .cells [.bool b2.never, .lst (List.map encFct b2.l) false], .cells [.bool false, .lst [] true]]) (H2 := [.cells [.bool a1.never, .lst (List.map encFct a1.l) false], .cells [.bool b2.never, .lst (List.map encFct b2.l) false], .cells [.bool false, .lst [] true]]) rfl (by repeat (first | exact rzz | apply rcc rfl | apply rnn rfl)) rfl (?_ : GL _ _ _ _ _)
  refine L_seq ?_
  refine L_stmt ?_
  refine L_seq ?_
  refine L_stmt ?_
  refine L_reg ?_
  refine G_p rfl rfl rfl ?_
  refine G_h rfl rfl rfl (fun _ => rfl) ?_
  refine G_nil ?_
  refine L_nil ?_
  refine Sm_norm (e2 := [(2, .ptr 0 0), (3, .ptr 1 0), (4, .ptr 2 0), (10, .bool a1.never)]) (H1 := [.cells [.bool a1.never, .lst (List.map encFct a1.l) false], .cells [.bool b2.never, .lst (List.map encFct b2.l) false], .cells [.bool false, .lst [] true]]) (H2 := [.cells [.bool a1.never, .lst (List.map encFct a1.l) false], .cells [.bool b2.never, .lst (List.map encFct b2.l) false], .cells [.bool false, .lst [] true]]) rfl (by repeat (first | exact rzz | apply rcc rfl | apply rnn rfl)) rfl (?_ : GL _ _ _ _ _)
  rcases cond_s hr with ⟨hc10, hr⟩ | ⟨hc10, hr⟩
  · refine L_T rfl hc10 ?_
    refine L_seq ?_
    refine L_reg ?_
    refine G_h (v := .agg (cFts b2)) rfl rfl rfl (fun _ => rfl) ?_
    refine G_p (v := .agg [.bool false, .lst [] true]) rfl rfl rfl ?_
    obtain ⟨r4, hr4, hr⟩ := bind_s hr
    refine G_c 12 rfl rfl (CA_of (as := [.agg (cFts b2), .agg (cFts (Fts.mk false []))]) rfl (g_r06_And_ok hr4)) ?_
    refine G_hn (H' := [.cells [.bool a1.never, .lst (List.map encFct a1.l) false], .cells [.bool b2.never, .lst (List.map encFct b2.l) false], .cells [.bool r4.never, .lst (List.map encFct r4.l) false]]) rfl rfl rfl (fun _ => rfl) ?_
    refine G_nil ?_
    refine L_ret ?_
    refine Sm_ret ?_
    have hr := some_s hr
    subst hr
    exact ⟨_, rfl, _, rfl, rfl⟩
  · refine L_F rfl hc10 ?_
    refine L_skip ?_
    refine L_nil ?_
    refine Sm_norm (e2 := [(2, .ptr 0 0), (3, .ptr 1 0), (4, .ptr 2 0)]) (H1 := [.cells [.bool a1.never, .lst (List.map encFct a1.l) false], .cells [.bool b2.never, .lst (List.map encFct b2.l) false], .cells [.bool false, .lst [] true]]) (H2 := [.cells [.bool a1.never, .lst (List.map encFct a1.l) false], .cells [.bool b2.never, .lst (List.map encFct b2.l) false], .cells [.bool false, .lst [] true]]) rfl (by repeat (first | exact rzz | apply rcc rfl | apply rnn rfl)) rfl (?_ : GL _ _ _ _ _)
    refine L_seq ?_
    refine L_stmt ?_
    refine L_seq ?_
    refine L_stmt ?_
    refine L_reg ?_
    refine G_p rfl rfl rfl ?_
    refine G_h rfl rfl rfl (fun _ => rfl) ?_
    refine G_nil ?_
    refine L_nil ?_
    refine Sm_norm (e2 := [(2, .ptr 0 0), (3, .ptr 1 0), (4, .ptr 2 0), (15, .bool b2.never)]) (H1 := [.cells [.bool a1.never, .lst (List.map encFct a1.l) false], .cells [.bool b2.never, .lst (List.map encFct b2.l) false], .cells [.bool false, .lst [] true]]) (H2 := [.cells [.bool a1.never, .lst (List.map encFct a1.l) false], .cells [.bool b2.never, .lst (List.map encFct b2.l) false], .cells [.bool false, .lst [] true]]) rfl (by repeat (first | exact rzz | apply rcc rfl | apply rnn rfl)) rfl (?_ : GL _ _ _ _ _)
    rcases cond_s hr with ⟨hc15, hr⟩ | ⟨hc15, hr⟩
    · refine L_T rfl hc15 ?_
      refine L_seq ?_
      refine L_reg ?_
      refine G_h (v := .agg (cFts a1)) rfl rfl rfl (fun _ => rfl) ?_
      refine G_p (v := .agg [.bool false, .lst [] true]) rfl rfl rfl ?_
      obtain ⟨r6, hr6, hr⟩ := bind_s hr
      refine G_c 12 rfl rfl (CA_of (as := [.agg (cFts a1), .agg (cFts (Fts.mk false []))]) rfl (g_r06_And_ok hr6)) ?_
      refine G_hn (H' := [.cells [.bool a1.never, .lst (List.map encFct a1.l) false], .cells [.bool b2.never, .lst (List.map encFct b2.l) false], .cells [.bool r6.never, .lst (List.map encFct r6.l) false]]) rfl rfl rfl (fun _ => rfl) ?_
      refine G_nil ?_
      refine L_ret ?_
      refine Sm_ret ?_
      have hr := some_s hr
      subst hr
      exact ⟨_, rfl, _, rfl, rfl⟩
    · refine L_F rfl hc15 ?_
      refine L_skip ?_
      refine L_nil ?_
      refine Sm_norm (e2 := [(2, .ptr 0 0), (3, .ptr 1 0), (4, .ptr 2 0)]) (H1 := [.cells [.bool a1.never, .lst (List.map encFct a1.l) false], .cells [.bool b2.never, .lst (List.map encFct b2.l) false], .cells [.bool false, .lst [] true]]) (H2 := [.cells [.bool a1.never, .lst (List.map encFct a1.l) false], .cells [.bool b2.never, .lst (List.map encFct b2.l) false], .cells [.bool false, .lst [] true]]) rfl (by repeat (first | exact rzz | apply rcc rfl | apply rnn rfl)) rfl (?_ : GL _ _ _ _ _)
      refine L_seq ?_
      refine L_stmt ?_
      refine L_reg ?_
      refine G_n (B := .cells [.bool false, .lst [] true]) rfl rfl rfl ?_
      refine G_nil ?_
      refine L_nil ?_
      refine Sm_norm (e2 := [(2, .ptr 0 0), (3, .ptr 1 0), (4, .ptr 2 0), (5, .ptr 3 0)]) (H1 := [.cells [.bool a1.never, .lst (List.map encFct a1.l) false], .cells [.bool b2.never, .lst (List.map encFct b2.l) false], .cells [.bool false, .lst [] true], .cells [.bool false, .lst [] true]]) (H2 := [.cells [.bool a1.never, .lst (List.map encFct a1.l) false], .cells [.bool b2.never, .lst (List.map encFct b2.l) false], .cells [.bool false, .lst [] true], .cells [.bool false, .lst [] true]]) rfl (by repeat (first | exact rzz | apply rcc rfl | apply rnn rfl)) rfl (?_ : GL _ _ _ _ _)
      refine L_seq ?_
      refine L_stmt ?_
      refine L_reg ?_
      refine G_h (v := .agg (cFts a1)) rfl rfl rfl (fun _ => rfl) ?_
      refine G_h (v := .agg (cFts b2)) rfl rfl rfl (fun _ => rfl) ?_
      obtain ⟨r7, hr7, hr⟩ := bind_s hr
      refine G_c 40 rfl rfl (CA_of (as := [.agg (cFts a1), .agg (cFts b2)]) rfl (g_r06_vars_ok hr7)) ?_
      refine G_p (v := .lst (List.map (AVal.int .i64) r7) false) rfl rfl rfl ?_
      refine G_nil ?_
      refine L_nil ?_
      refine Sm_norm (e2 := [(2, .ptr 0 0), (3, .ptr 1 0), (4, .ptr 2 0), (5, .ptr 3 0), (6, .lst (List.map (AVal.int .i64) r7) false)]) (H1 := [.cells [.bool a1.never, .lst (List.map encFct a1.l) false], .cells [.bool b2.never, .lst (List.map encFct b2.l) false], .cells [.bool false, .lst [] true], .cells [.bool false, .lst [] true]]) (H2 := [.cells [.bool a1.never, .lst (List.map encFct a1.l) false], .cells [.bool b2.never, .lst (List.map encFct b2.l) false], .cells [.bool false, .lst [] true], .cells [.bool false, .lst [] true]]) (frz_c (frz_lst rfl) rfl) (by repeat (first | exact rzz | apply rcc rfl | apply rnn rfl)) rfl (?_ : GL _ _ _ _ _)
      refine L_seq ?_
      refine L_stmtJ (S := List Fct) (fun s => [(4, .ptr 2 0), (5, .ptr 3 0)]) (fun s => [.cells [.bool a1.never, .lst (List.map encFct a1.l) false], .cells [.bool b2.never, .lst (List.map encFct b2.l) false], .cells [.bool false, .lst [] true], .cells [.bool false, .lst (List.map encFct s) false]]) (fun s => g_r06_Or_j1 s = some r) ?_ ?_
      · skip
        refine L_seq ?_
        refine L_stmt ?_
        refine L_reg ?_
        refine G_p rfl rfl rfl ?_
        refine G_nil ?_
        refine L_nil ?_
        refine Sm_norm (e2 := [(2, .ptr 0 0), (3, .ptr 1 0), (4, .ptr 2 0), (5, .ptr 3 0), (6, .lst (List.map (AVal.int .i64) r7) false), (7, .int .i64 0)]) (H1 := [.cells [.bool a1.never, .lst (List.map encFct a1.l) false], .cells [.bool b2.never, .lst (List.map encFct b2.l) false], .cells [.bool false, .lst [] true], .cells [.bool false, .lst [] true]]) (H2 := [.cells [.bool a1.never, .lst (List.map encFct a1.l) false], .cells [.bool b2.never, .lst (List.map encFct b2.l) false], .cells [.bool false, .lst [] true], .cells [.bool false, .lst [] true]]) rfl (by repeat (first | exact rzz | apply rcc rfl | apply rnn rfl)) rfl (?_ : GL _ _ _ _ _)
        refine L_block ?_
        refine L_seq ?_
        refine L_own (H' := [.cells [.bool a1.never, .lst (List.map encFct a1.l) false], .cells [.bool b2.never, .lst (List.map encFct b2.l) false], .cells [.bool false, .lst [] true], .cells [.bool false, .gl 4 (List.length [])], growM 2 encFct []]) rfl ?_
        obtain ⟨hLq80, hr⟩ := guard_s hr
        replace hLq80 := okLen_s hLq80
        refine L_range (X := Int) (S := List Fct) r7 (fun i82 s => [(7, .int .i64 ((i82 : Nat) : Int)), (2, .ptr 0 0), (3, .ptr 1 0), (4, .ptr 2 0), (5, .ptr 3 0), (6, .lst (List.map (AVal.int .i64) r7) false)]) (fun i82 s => [.cells [.bool a1.never, .lst (List.map encFct a1.l) false], .cells [.bool b2.never, .lst (List.map encFct b2.l) false], .cells [.bool false, .lst [] true], .cells [.bool false, .gl 4 (List.length s)], growM 2 encFct s]) (fun rest i82 s => g_r06_Or_l2 a1 b2 rest i82 s = some r) ([]) ?_ rfl hr ?_ ?_
        · show restr _ _ = [(7, .int .i64 ((0 : Nat) : Int)), (2, .ptr 0 0), (3, .ptr 1 0), (4, .ptr 2 0), (5, .ptr 3 0), (6, .lst (List.map (AVal.int .i64) r7) false)]
          (repeat (first | exact rzz | apply rcc rfl | apply rnn rfl))
        · rintro l64 hr
          show GL _ _ [(7, .int .i64 (((List.length r7) : Nat) : Int)), (2, .ptr 0 0), (3, .ptr 1 0), (4, .ptr 2 0), (5, .ptr 3 0), (6, .lst (List.map (AVal.int .i64) r7) false)] [.cells [.bool a1.never, .lst (List.map encFct a1.l) false], .cells [.bool b2.never, .lst (List.map encFct b2.l) false], .cells [.bool false, .lst [] true], .cells [.bool false, .gl 4 (List.length l64)], growM 2 encFct l64] _
          replace hr : g_r06_Or_l2 a1 b2 [] (List.length r7) l64 = some r := hr
          rw [g_r06_Or_l2] at hr
          refine L_seq ?_
          refine L_stmt ?_
          refine L_seq ?_
          refine L_stmt ?_
          refine L_reg ?_
          refine G_p rfl rfl rfl ?_
          refine G_p (v := .lst (List.map (AVal.int .i64) r7) false) rfl rfl rfl ?_
          refine G_h rfl rfl rfl (lenL_ev rfl (List.length_map _)) ?_
          refine G_v (.bool false) rfl rfl rfl (congrArg AVal.bool (decide_eq_false (by omega))) ?_
          refine G_nil ?_
          refine L_nil ?_
          refine Sm_norm (e2 := [(2, .ptr 0 0), (3, .ptr 1 0), (4, .ptr 2 0), (5, .ptr 3 0), (6, .lst (List.map (AVal.int .i64) r7) false), (7, .int .i64 ((List.length r7 : Nat) : Int)), (25, .bool false)]) (H1 := [.cells [.bool a1.never, .lst (List.map encFct a1.l) false], .cells [.bool b2.never, .lst (List.map encFct b2.l) false], .cells [.bool false, .lst [] true], .cells [.bool false, .gl 4 (List.length l64)], growM 2 encFct l64]) (H2 := [.cells [.bool a1.never, .lst (List.map encFct a1.l) false], .cells [.bool b2.never, .lst (List.map encFct b2.l) false], .cells [.bool false, .lst [] true], .cells [.bool false, .gl 4 (List.length l64)], growM 2 encFct l64]) rfl (by repeat (first | exact rzz | apply rcc rfl | apply rnn rfl)) rfl (?_ : GL _ _ _ _ _)
          refine L_F rfl rfl ?_
          refine L_exit ?_
          refine Sm_exit ?_
          refine Rd_exit ?_
          refine Blk_exit (?_ : GL _ _ _ _ _)
          refine L_nil ?_
          exact Sm_norm (e2 := [(4, .ptr 2 0), (5, .ptr 3 0)]) (H1 := [.cells [.bool a1.never, .lst (List.map encFct a1.l) false], .cells [.bool b2.never, .lst (List.map encFct b2.l) false], .cells [.bool false, .lst [] true], .cells [.bool false, .lst (List.map encFct l64) false], growM 2 encFct l64]) (H2 := [.cells [.bool a1.never, .lst (List.map encFct a1.l) false], .cells [.bool b2.never, .lst (List.map encFct b2.l) false], .cells [.bool false, .lst [] true], .cells [.bool false, .lst (List.map encFct l64) false]]) (frz_c (frz_glC (H2 := [.cells [.bool a1.never, .lst (List.map encFct a1.l) false], .cells [.bool b2.never, .lst (List.map encFct b2.l) false], .cells [.bool false, .lst [] true], .cells [.bool false, .lst (List.map encFct l64) false], growM 2 encFct l64]) rfl rfl rfl rfl rfl) rfl) (by repeat (first | exact rzz | apply rcc rfl | apply rnn rfl)) rfl ⟨l64, rfl, rfl, hr⟩
        · rintro y81 rest83 i82 l64 hy81 hlti82 hr
          show GL _ _ [(7, .int .i64 ((i82 : Nat) : Int)), (2, .ptr 0 0), (3, .ptr 1 0), (4, .ptr 2 0), (5, .ptr 3 0), (6, .lst (List.map (AVal.int .i64) r7) false)] [.cells [.bool a1.never, .lst (List.map encFct a1.l) false], .cells [.bool b2.never, .lst (List.map encFct b2.l) false], .cells [.bool false, .lst [] true], .cells [.bool false, .gl 4 (List.length l64)], growM 2 encFct l64] _
          replace hr : g_r06_Or_l2 a1 b2 (y81 :: rest83) i82 l64 = some r := hr
          rw [g_r06_Or_l2] at hr
          refine L_seq ?_
          refine L_stmt ?_
          refine L_seq ?_
          refine L_stmt ?_
          refine L_reg ?_
          refine G_p rfl rfl rfl ?_
          refine G_p (v := .lst (List.map (AVal.int .i64) r7) false) rfl rfl rfl ?_
          refine G_h rfl rfl rfl (lenL_ev rfl (List.length_map _)) ?_
          refine G_v (.bool true) rfl rfl rfl (congrArg AVal.bool (decide_eq_true (by omega))) ?_
          refine G_nil ?_
          refine L_nil ?_
          refine Sm_norm (e2 := [(2, .ptr 0 0), (3, .ptr 1 0), (4, .ptr 2 0), (5, .ptr 3 0), (6, .lst (List.map (AVal.int .i64) r7) false), (7, .int .i64 ((i82 : Nat) : Int)), (25, .bool true)]) (H1 := [.cells [.bool a1.never, .lst (List.map encFct a1.l) false], .cells [.bool b2.never, .lst (List.map encFct b2.l) false], .cells [.bool false, .lst [] true], .cells [.bool false, .gl 4 (List.length l64)], growM 2 encFct l64]) (H2 := [.cells [.bool a1.never, .lst (List.map encFct a1.l) false], .cells [.bool b2.never, .lst (List.map encFct b2.l) false], .cells [.bool false, .lst [] true], .cells [.bool false, .gl 4 (List.length l64)], growM 2 encFct l64]) rfl (by repeat (first | exact rzz | apply rcc rfl | apply rnn rfl)) rfl (?_ : GL _ _ _ _ _)
          refine L_T rfl rfl ?_
          refine L_skip ?_
          refine L_nil ?_
          refine Sm_norm (e2 := [(2, .ptr 0 0), (3, .ptr 1 0), (4, .ptr 2 0), (5, .ptr 3 0), (6, .lst (List.map (AVal.int .i64) r7) false), (7, .int .i64 ((i82 : Nat) : Int))]) (H1 := [.cells [.bool a1.never, .lst (List.map encFct a1.l) false], .cells [.bool b2.never, .lst (List.map encFct b2.l) false], .cells [.bool false, .lst [] true], .cells [.bool false, .gl 4 (List.length l64)], growM 2 encFct l64]) (H2 := [.cells [.bool a1.never, .lst (List.map encFct a1.l) false], .cells [.bool b2.never, .lst (List.map encFct b2.l) false], .cells [.bool false, .lst [] true], .cells [.bool false, .gl 4 (List.length l64)], growM 2 encFct l64]) rfl (by repeat (first | exact rzz | apply rcc rfl | apply rnn rfl)) rfl (?_ : GL _ _ _ _ _)
          refine L_seq ?_
          refine L_stmtJ (S := List Fct) (fun s => [(2, .ptr 0 0), (3, .ptr 1 0), (4, .ptr 2 0), (5, .ptr 3 0), (6, .lst (List.map (AVal.int .i64) r7) false), (7, .int .i64 ((i82 : Nat) : Int))]) (fun s => [.cells [.bool a1.never, .lst (List.map encFct a1.l) false], .cells [.bool b2.never, .lst (List.map encFct b2.l) false], .cells [.bool false, .lst [] true], .cells [.bool false, .gl 4 (List.length s)], growM 2 encFct s]) (fun s => g_r06_Or_j3 (g_r06_Or_l2 a1 b2 rest83 (i82 + 1)) s = some r) ?_ ?_
          · skip
            refine L_block ?_
            refine L_seq ?_
            refine L_stmt ?_
            refine L_drawT [] rfl ?_
            refine GS_h (d := some 28) (v := .agg (cFts a1)) rfl rfl rfl rfl (fun _ => rfl) ?_
            refine GS_p (v := .lst (List.map (AVal.int .i64) r7) false) rfl rfl rfl ?_
            refine GS_p rfl rfl rfl ?_
            refine GS_h (d := some 31) (v := .ro [.int .i64 y81]) rfl rfl rfl rfl (ia_ev (cells := [.int .i64 y81]) rfl rfl (Int.natCast_nonneg _) (map_get (x := y81) (by rw [Int.toNat_natCast]; exact hy81)) rfl rfl) ?_
            refine GS_h (d := some 32) rfl rfl rfl rfl (fun _ => rfl) ?_
            obtain ⟨r91, hr91, hr⟩ := bind_s hr
            refine GS_c 41 rfl rfl rfl (CA_of (as := [.agg (cFts a1), .int .i64 y81]) rfl (g_r06_tags_ok hr91)) ?_
            refine GS_h (d := some 34) (v := .agg (cFts b2)) rfl rfl rfl rfl (fun _ => rfl) ?_
            refine GS_p (v := .lst (List.map (AVal.int .i64) r7) false) rfl rfl rfl ?_
            refine GS_p rfl rfl rfl ?_
            refine GS_h (d := some 37) (v := .ro [.int .i64 y81]) rfl rfl rfl rfl (ia_ev (cells := [.int .i64 y81]) rfl rfl (Int.natCast_nonneg _) (map_get (x := y81) (by rw [Int.toNat_natCast]; exact hy81)) rfl rfl) ?_
            refine GS_h (d := some 38) rfl rfl rfl rfl (fun _ => rfl) ?_
            obtain ⟨r92, hr92, hr⟩ := bind_s hr
            refine GS_c 41 rfl rfl rfl (CA_of (as := [.agg (cFts b2), .int .i64 y81]) rfl (g_r06_tags_ok hr92)) ?_
            refine GS_p rfl rfl rfl ?_
            refine GS_p rfl rfl rfl ?_
            refine GS_nil ?_
            refine L_nil ?_
            refine Sm_norm (e2 := [(2, .ptr 0 0), (3, .ptr 1 0), (4, .ptr 2 0), (5, .ptr 3 0), (6, .lst (List.map (AVal.int .i64) r7) false), (7, .int .i64 ((i82 : Nat) : Int)), (8, .int .i64 (orB .i64 r91 r92))]) (H1 := [.cells [.bool a1.never, .lst (List.map encFct a1.l) false], .cells [.bool b2.never, .lst (List.map encFct b2.l) false], .cells [.bool false, .lst [] true], .cells [.bool false, .gl 4 (List.length l64)], growM 2 encFct l64]) (H2 := [.cells [.bool a1.never, .lst (List.map encFct a1.l) false], .cells [.bool b2.never, .lst (List.map encFct b2.l) false], .cells [.bool false, .lst [] true], .cells [.bool false, .gl 4 (List.length l64)], growM 2 encFct l64]) rfl (by repeat (first | exact rzz | apply rcc rfl | apply rnn rfl)) rfl (?_ : GL _ _ _ _ _)
            refine L_seq ?_
            refine L_stmt ?_
            refine L_drawS (ops := [_, _, _, _, _, _, _, _, _, _, _, _, _, _, _, _, _, _]) rfl rfl ?_
            refine G_h (v := .agg (cFts a1)) rfl rfl rfl (fun _ => rfl) ?_
            refine G_p (v := .lst (List.map (AVal.int .i64) r7) false) rfl rfl rfl ?_
            refine G_p rfl rfl rfl ?_
            refine G_h (v := .ro [.int .i64 y81]) rfl rfl rfl (ia_ev (cells := [.int .i64 y81]) rfl rfl (Int.natCast_nonneg _) (map_get (x := y81) (by rw [Int.toNat_natCast]; exact hy81)) rfl rfl) ?_
            refine G_h rfl rfl rfl (fun _ => rfl) ?_
            obtain ⟨r93, hr93, hr⟩ := bind_s hr
            refine G_c 44 rfl rfl (CA_of (as := [.agg (cFts a1), .int .i64 y81]) rfl (g_r06_has_ok hr93)) ?_
            refine G_p rfl rfl rfl ?_
            obtain ⟨v95, hvv95, hr⟩ := bind_s hr
            refine G_pick true [_, _, _, _, _, _] (v := .bool v95) (vo := .bool false) rfl rfl ?_ ?_ rfl ?_
            · intro hb47
              have hr := condT hb47 hvv95
              refine G_h (v := .agg (cFts b2)) rfl rfl rfl (fun _ => rfl) ?_
              refine G_p (v := .lst (List.map (AVal.int .i64) r7) false) rfl rfl rfl ?_
              refine G_p rfl rfl rfl ?_
              refine G_h (v := .ro [.int .i64 y81]) rfl rfl rfl (ia_ev (cells := [.int .i64 y81]) rfl rfl (Int.natCast_nonneg _) (map_get (x := y81) (by rw [Int.toNat_natCast]; exact hy81)) rfl rfl) ?_
              refine G_h rfl rfl rfl (fun _ => rfl) ?_
              obtain ⟨r94, hr94, hr⟩ := bind_s hr
              refine G_c 44 rfl rfl (CA_of (as := [.agg (cFts b2), .int .i64 y81]) rfl (g_r06_has_ok hr94)) ?_
              cases hr; exact G_nil (L_nil ⟨rfl, rfl, rfl⟩)
            · intro hb47; exact pickT hvv95 hb47
            · intro vs hvs
              obtain ⟨u48, u49, u50, u51, u52, u53, rfl⟩ := len6 hvs
              dsimp only [junk]
              refine G_p rfl rfl rfl ?_
              refine G_and (f := (!decide ((orB .i64 r91 r92) = 255))) [_, _] rfl rfl ?_ ?_
              · intro hb55
                refine G_p rfl rfl rfl ?_
                refine G_p rfl rfl rfl ?_
                exact G_nil (L_nil ⟨rfl, rfl, rfl⟩)
              · intro vs hvs
                obtain ⟨u56, u57, rfl⟩ := len2 hvs
                dsimp only [junk]
                refine G_nil (L_nil ⟨rfl, ?_⟩)
                refine L_nil ?_
                refine Sm_norm (e2 := [(2, .ptr 0 0), (3, .ptr 1 0), (4, .ptr 2 0), (5, .ptr 3 0), (6, .lst (List.map (AVal.int .i64) r7) false), (7, .int .i64 ((i82 : Nat) : Int)), (8, .int .i64 (orB .i64 r91 r92)), (58, .bool (v95 && (!decide ((orB .i64 r91 r92) = 255))))]) (H1 := [.cells [.bool a1.never, .lst (List.map encFct a1.l) false], .cells [.bool b2.never, .lst (List.map encFct b2.l) false], .cells [.bool false, .lst [] true], .cells [.bool false, .gl 4 (List.length l64)], growM 2 encFct l64]) (H2 := [.cells [.bool a1.never, .lst (List.map encFct a1.l) false], .cells [.bool b2.never, .lst (List.map encFct b2.l) false], .cells [.bool false, .lst [] true], .cells [.bool false, .gl 4 (List.length l64)], growM 2 encFct l64]) rfl (by repeat (first | exact rzz | apply rcc rfl | apply rnn rfl)) rfl (?_ : GL _ _ _ _ _)
                rcases cond_s hr with ⟨hc58, hr⟩ | ⟨hc58, hr⟩
                · refine L_T rfl hc58 ?_
                  refine L_draw ?_
                  refine GD_p rfl rfl rfl ?_
                  refine GD_h (d := some 60) rfl rfl rfl rfl (fun _ => rfl) ?_
                  refine GD_p (v := .lst (List.map (AVal.int .i64) r7) false) rfl rfl rfl ?_
                  refine GD_p rfl rfl rfl ?_
                  refine GD_h (d := some 63) (v := .ro [.int .i64 y81]) rfl rfl rfl rfl (ia_ev (cells := [.int .i64 y81]) rfl rfl (Int.natCast_nonneg _) (map_get (x := y81) (by rw [Int.toNat_natCast]; exact hy81)) rfl rfl) ?_
                  refine GD_h (d := some 64) rfl rfl rfl rfl (fun _ => rfl) ?_
                  refine GD_p rfl rfl rfl ?_
                  refine GD_p (v := .agg [.int .i64 y81, .int .i64 (orB .i64 r91 r92)]) rfl rfl rfl ?_
                  refine GD_h (d := some 67) (v := .lst (List.map encFct [(Fct.mk y81 (orB .i64 r91 r92))]) true) rfl rfl rfl rfl (fun _ => Eq.trans (b := some (Ex.ok (AVal.lst [.agg [.int .i64 y81, .int .i64 (orB .i64 r91 r92)]] true), _)) rfl (congrArg (fun z => some (Ex.ok (AVal.lst z true), _)) (by first | rfl | (simp only [List.map_cons, List.map_nil, encFct_eq] <;> rfl)))) ?_
                  obtain ⟨l96, hl96, hr⟩ := bind_s hr
                  refine GD_o (d := some 68) (H' := [.cells [.bool a1.never, .lst (List.map encFct a1.l) false], .cells [.bool b2.never, .lst (List.map encFct b2.l) false], .cells [.bool false, .lst [] true], .cells [.bool false, .gl 4 (List.length l64)], growM 2 encFct l96, .hole]) rfl rfl rfl rfl (appG2_ev (es := 2) encFct_w1 (show (16 : Nat) ≤ 1400 from by decide) rfl rfl rfl rfl hl96 rfl) ?_
                  refine GD_p rfl rfl rfl ?_
                  refine GD_h (d := none) (H' := [.cells [.bool a1.never, .lst (List.map encFct a1.l) false], .cells [.bool b2.never, .lst (List.map encFct b2.l) false], .cells [.bool false, .lst [] true], .cells [.bool false, .gl 4 (List.length l96)], growM 2 encFct l96, .hole]) rfl rfl rfl rfl (fun _ => rfl) ?_
                  refine GD_nil2 (by first | (simp [okFs2, okEarlier2, disj, noneIn, notIn, sameOn_self, sameOn, partsGls, sameB_self, AOpd.ev, Env.get, Env.put, glsV, glsL]; done) | rfl) ?_
                  refine L_nil ?_
                  refine Blk_norm (?_ : GL _ _ _ _ _)
                  refine L_nil ?_
                  exact Sm_norm (e2 := [(2, .ptr 0 0), (3, .ptr 1 0), (4, .ptr 2 0), (5, .ptr 3 0), (6, .lst (List.map (AVal.int .i64) r7) false), (7, .int .i64 ((i82 : Nat) : Int))]) (H1 := [.cells [.bool a1.never, .lst (List.map encFct a1.l) false], .cells [.bool b2.never, .lst (List.map encFct b2.l) false], .cells [.bool false, .lst [] true], .cells [.bool false, .gl 4 (List.length l96)], growM 2 encFct l96, .hole]) (H2 := [.cells [.bool a1.never, .lst (List.map encFct a1.l) false], .cells [.bool b2.never, .lst (List.map encFct b2.l) false], .cells [.bool false, .lst [] true], .cells [.bool false, .gl 4 (List.length l96)], growM 2 encFct l96]) rfl (by repeat (first | exact rzz | apply rcc rfl | apply rnn rfl)) rfl ⟨l96, rfl, rfl, hr⟩
                · refine L_F rfl hc58 ?_
                  refine L_skip ?_
                  refine L_nil ?_
                  refine Blk_norm (?_ : GL _ _ _ _ _)
                  refine L_nil ?_
                  exact Sm_norm (e2 := [(2, .ptr 0 0), (3, .ptr 1 0), (4, .ptr 2 0), (5, .ptr 3 0), (6, .lst (List.map (AVal.int .i64) r7) false), (7, .int .i64 ((i82 : Nat) : Int))]) (H1 := [.cells [.bool a1.never, .lst (List.map encFct a1.l) false], .cells [.bool b2.never, .lst (List.map encFct b2.l) false], .cells [.bool false, .lst [] true], .cells [.bool false, .gl 4 (List.length l64)], growM 2 encFct l64]) (H2 := [.cells [.bool a1.never, .lst (List.map encFct a1.l) false], .cells [.bool b2.never, .lst (List.map encFct b2.l) false], .cells [.bool false, .lst [] true], .cells [.bool false, .gl 4 (List.length l64)], growM 2 encFct l64]) rfl (by repeat (first | exact rzz | apply rcc rfl | apply rnn rfl)) rfl ⟨l64, rfl, rfl, hr⟩
          · rintro l90 hr
            show GL _ _ [(2, .ptr 0 0), (3, .ptr 1 0), (4, .ptr 2 0), (5, .ptr 3 0), (6, .lst (List.map (AVal.int .i64) r7) false), (7, .int .i64 ((i82 : Nat) : Int))] [.cells [.bool a1.never, .lst (List.map encFct a1.l) false], .cells [.bool b2.never, .lst (List.map encFct b2.l) false], .cells [.bool false, .lst [] true], .cells [.bool false, .gl 4 (List.length l90)], growM 2 encFct l90] _
            replace hr : g_r06_Or_j3 (g_r06_Or_l2 a1 b2 rest83 (i82 + 1)) l90 = some r := hr
            unfold g_r06_Or_j3 at hr
            refine L_reg ?_
            refine G_p rfl rfl rfl ?_
            refine G_v (.int .i64 ((i82 + 1 : Nat) : Int)) rfl rfl rfl (congrArg _ (wrap_next hLq80 hlti82)) ?_
            refine G_p rfl rfl rfl ?_
            refine G_nil ?_
            refine L_nil ?_
            refine Rd_norm ⟨l90, ?_, rfl, hr⟩
            show restr _ _ = [(7, .int .i64 (((i82 + 1) : Nat) : Int)), (2, .ptr 0 0), (3, .ptr 1 0), (4, .ptr 2 0), (5, .ptr 3 0), (6, .lst (List.map (AVal.int .i64) r7) false)]
            (repeat (first | exact rzz | apply rcc rfl | apply rnn rfl))
      · rintro l49 hr
        show GL _ _ [(4, .ptr 2 0), (5, .ptr 3 0)] [.cells [.bool a1.never, .lst (List.map encFct a1.l) false], .cells [.bool b2.never, .lst (List.map encFct b2.l) false], .cells [.bool false, .lst [] true], .cells [.bool false, .lst (List.map encFct l49) false]] _
        replace hr : g_r06_Or_j1 l49 = some r := hr
        unfold g_r06_Or_j1 at hr
        refine L_seq ?_
        refine L_reg ?_
        refine G_h (v := .agg [.bool false, .lst (List.map encFct l49) false]) rfl rfl rfl (fun _ => rfl) ?_
        refine G_hn (H' := [.cells [.bool a1.never, .lst (List.map encFct a1.l) false], .cells [.bool b2.never, .lst (List.map encFct b2.l) false], .cells [.bool false, .lst (List.map encFct l49) false], .cells [.bool false, .lst (List.map encFct l49) false]]) rfl rfl rfl (fun _ => rfl) ?_
        refine G_nil ?_
        refine L_ret ?_
        have hr := some_s hr
        subst hr
        exact ⟨_, rfl, _, rfl, rfl⟩
noncomputable def g_r06_Same_j1 : Option Bool :=
  some true
noncomputable def g_r06_Same_l2 (b2 : Fts) : List Fct → Nat → Option Bool
  | [], _ => g_r06_Same_j1
  | y32 :: rest34, i33 => ((idx b2.l ((i33 : Nat) : Int)).bind fun e36 => (cond (!(decide (y32.var = e36.var) && (decide (y32.tags = e36.tags) && true))) (some false) ((g_r06_Same_l2 b2 rest34 (i33 + 1)))))
noncomputable def g_r06_Same (a1 : Fts) (b2 : Fts) : Option Bool :=
  (cond ((!(a1.never == b2.never)) || (!decide (((List.length a1.l : Nat) : Int) = ((List.length b2.l : Nat) : Int)))) (some false) (cond (okLen a1.l) (g_r06_Same_l2 b2 a1.l 0) none))
theorem g_r06_Same_ok {a1 : Fts} {b2 : Fts} {r : Bool} (hr : g_r06_Same a1 b2 = some r) : PRes (tabOf tabL) 9 [.agg (cFts a1), .agg (cFts b2)] (.bool r) := by
  refine pres_fin t9 ?_
  unfold g_r06_Same at hr
  refine L_seq ?_
  refine L_stmt ?_
  refine L_reg ?_
  refine G_n (B := .cells [.bool a1.never, .lst (List.map encFct a1.l) false]) rfl rfl rfl ?_
  refine G_n (B := .cells [.bool b2.never, .lst (List.map encFct b2.l) false]) rfl rfl rfl ?_
  refine G_p rfl rfl rfl ?_
  refine G_nil ?_
  refine L_nil ?_
  refine Sm_norm (e2 := [(2, .ptr 0 0), (3, .ptr 1 0)]) (H1 := [.cells [.bool a1.never, .lst (List.map encFct a1.l) false], .cells [.bool b2.never, .lst (List.map encFct b2.l) false]]) (H2 := [.cells [.bool a1.never, .lst (List.map encFct a1.l) false], .cells [.bool b2.never, .lst (List.map encFct b2.l) false]]) rfl (by repeat (first | exact rzz | apply rcc rfl | apply rnn rfl)) rfl (?_ : GL _ _ _ _ _)
  refine L_seq ?_
  refine L_stmt ?_
  refine L_seq ?_
  refine L_stmt ?_
  refine L_reg ?_
  refine G_p rfl rfl rfl ?_
  refine G_h rfl rfl rfl (fun _ => rfl) ?_
  refine G_p rfl rfl rfl ?_
  refine G_h rfl rfl rfl (fun _ => rfl) ?_
  refine G_p rfl rfl rfl ?_
  refine G_p rfl rfl rfl ?_
  refine G_or (f := (!decide (((List.length a1.l : Nat) : Int) = ((List.length b2.l : Nat) : Int)))) [_, _, _, _, _, _, _] rfl rfl ?_ ?_
  · intro hb11
    refine G_p rfl rfl rfl ?_
    refine G_h (v := .lst (List.map encFct a1.l) false) rfl rfl rfl (fun _ => rfl) ?_
    refine G_h rfl rfl rfl (lenL_ev rfl (List.length_map _)) ?_
    refine G_p rfl rfl rfl ?_
    refine G_h (v := .lst (List.map encFct b2.l) false) rfl rfl rfl (fun _ => rfl) ?_
    refine G_h rfl rfl rfl (lenL_ev rfl (List.length_map _)) ?_
    refine G_p rfl rfl rfl ?_
    exact G_nil (L_nil ⟨rfl, rfl, rfl⟩)
  · intro vs hvs
    obtain ⟨u12, u13, u14, u15, u16, u17, u18, rfl⟩ := len7 hvs
    dsimp only [junk]
    refine G_nil ?_
    refine L_nil ?_
    refine Sm_norm (e2 := [(2, .ptr 0 0), (3, .ptr 1 0), (19, .bool ((!(a1.never == b2.never)) || (!decide (((List.length a1.l : Nat) : Int) = ((List.length b2.l : Nat) : Int)))))]) (H1 := [.cells [.bool a1.never, .lst (List.map encFct a1.l) false], .cells [.bool b2.never, .lst (List.map encFct b2.l) false]]) (H2 := [.cells [.bool a1.never, .lst (List.map encFct a1.l) false], .cells [.bool b2.never, .lst (List.map encFct b2.l) false]]) rfl (by repeat (first | exact rzz | apply rcc rfl | apply rnn rfl)) rfl (?_ : GL _ _ _ _ _)
    rcases cond_s hr with ⟨hc19, hr⟩ | ⟨hc19, hr⟩
    · refine L_T rfl hc19 ?_
      refine L_seq ?_
      refine L_reg ?_
      refine G_p rfl rfl rfl ?_
      refine G_nil ?_
      refine L_ret ?_
      refine Sm_ret ?_
      have hr := some_s hr
      subst hr
      exact ⟨_, rfl, _, rfl, rfl⟩
    · refine L_F rfl hc19 ?_
      refine L_skip ?_
      refine L_nil ?_
      refine Sm_norm (e2 := [(2, .ptr 0 0), (3, .ptr 1 0)]) (H1 := [.cells [.bool a1.never, .lst (List.map encFct a1.l) false], .cells [.bool b2.never, .lst (List.map encFct b2.l) false]]) (H2 := [.cells [.bool a1.never, .lst (List.map encFct a1.l) false], .cells [.bool b2.never, .lst (List.map encFct b2.l) false]]) rfl (by repeat (first | exact rzz | apply rcc rfl | apply rnn rfl)) rfl (?_ : GL _ _ _ _ _)
      refine L_seq ?_
      refine L_stmtJ (S := Unit) (fun s => []) (fun s => [.cells [.bool a1.never, .lst (List.map encFct a1.l) false], .cells [.bool b2.never, .lst (List.map encFct b2.l) false]]) (fun s => g_r06_Same_j1 = some r) ?_ ?_
      · skip
        refine L_seq ?_
        refine L_stmt ?_
        refine L_reg ?_
        refine G_p rfl rfl rfl ?_
        refine G_nil ?_
        refine L_nil ?_
        refine Sm_norm (e2 := [(2, .ptr 0 0), (3, .ptr 1 0), (5, .int .i64 0)]) (H1 := [.cells [.bool a1.never, .lst (List.map encFct a1.l) false], .cells [.bool b2.never, .lst (List.map encFct b2.l) false]]) (H2 := [.cells [.bool a1.never, .lst (List.map encFct a1.l) false], .cells [.bool b2.never, .lst (List.map encFct b2.l) false]]) rfl (by repeat (first | exact rzz | apply rcc rfl | apply rnn rfl)) rfl (?_ : GL _ _ _ _ _)
        refine L_block ?_
        obtain ⟨hLq31, hr⟩ := guard_s hr
        replace hLq31 := okLen_s hLq31
        refine L_range (X := Fct) (S := Unit) a1.l (fun i33 s => [(5, .int .i64 ((i33 : Nat) : Int)), (2, .ptr 0 0), (3, .ptr 1 0)]) (fun i33 s => [.cells [.bool a1.never, .lst (List.map encFct a1.l) false], .cells [.bool b2.never, .lst (List.map encFct b2.l) false]]) (fun rest i33 s => g_r06_Same_l2 b2 rest i33 = some r) (()) ?_ rfl hr ?_ ?_
        · show restr _ _ = [(5, .int .i64 ((0 : Nat) : Int)), (2, .ptr 0 0), (3, .ptr 1 0)]
          (repeat (first | exact rzz | apply rcc rfl | apply rnn rfl))
        · rintro ⟨⟩ hr
          show GL _ _ [(5, .int .i64 (((List.length a1.l) : Nat) : Int)), (2, .ptr 0 0), (3, .ptr 1 0)] [.cells [.bool a1.never, .lst (List.map encFct a1.l) false], .cells [.bool b2.never, .lst (List.map encFct b2.l) false]] _
          replace hr : g_r06_Same_l2 b2 [] (List.length a1.l) = some r := hr
          rw [g_r06_Same_l2] at hr
          refine L_seq ?_
          refine L_stmt ?_
          refine L_seq ?_
          refine L_stmt ?_
          refine L_reg ?_
          refine G_p rfl rfl rfl ?_
          refine G_p rfl rfl rfl ?_
          refine G_h (v := .lst (List.map encFct a1.l) false) rfl rfl rfl (fun _ => rfl) ?_
          refine G_h rfl rfl rfl (lenL_ev rfl (List.length_map _)) ?_
          refine G_v (.bool false) rfl rfl rfl (congrArg AVal.bool (decide_eq_false (by omega))) ?_
          refine G_nil ?_
          refine L_nil ?_
          refine Sm_norm (e2 := [(2, .ptr 0 0), (3, .ptr 1 0), (5, .int .i64 ((List.length a1.l : Nat) : Int)), (24, .bool false)]) (H1 := [.cells [.bool a1.never, .lst (List.map encFct a1.l) false], .cells [.bool b2.never, .lst (List.map encFct b2.l) false]]) (H2 := [.cells [.bool a1.never, .lst (List.map encFct a1.l) false], .cells [.bool b2.never, .lst (List.map encFct b2.l) false]]) rfl (by repeat (first | exact rzz | apply rcc rfl | apply rnn rfl)) rfl (?_ : GL _ _ _ _ _)
          refine L_F rfl rfl ?_
          refine L_exit ?_
          refine Sm_exit ?_
          refine Rd_exit ?_
          refine Blk_exit (?_ : GL _ _ _ _ _)
          refine L_nil ?_
          exact Sm_norm (e2 := []) (H1 := [.cells [.bool a1.never, .lst (List.map encFct a1.l) false], .cells [.bool b2.never, .lst (List.map encFct b2.l) false]]) (H2 := [.cells [.bool a1.never, .lst (List.map encFct a1.l) false], .cells [.bool b2.never, .lst (List.map encFct b2.l) false]]) rfl (by repeat (first | exact rzz | apply rcc rfl | apply rnn rfl)) rfl ⟨(), rfl, rfl, hr⟩
        · rintro y32 rest34 i33 ⟨⟩ hy32 hlti33 hr
          show GL _ _ [(5, .int .i64 ((i33 : Nat) : Int)), (2, .ptr 0 0), (3, .ptr 1 0)] [.cells [.bool a1.never, .lst (List.map encFct a1.l) false], .cells [.bool b2.never, .lst (List.map encFct b2.l) false]] _
          replace hr : g_r06_Same_l2 b2 (y32 :: rest34) i33 = some r := hr
          rw [g_r06_Same_l2] at hr
          refine L_seq ?_
          refine L_stmt ?_
          refine L_seq ?_
          refine L_stmt ?_
          refine L_reg ?_
          refine G_p rfl rfl rfl ?_
          refine G_p rfl rfl rfl ?_
          refine G_h (v := .lst (List.map encFct a1.l) false) rfl rfl rfl (fun _ => rfl) ?_
          refine G_h rfl rfl rfl (lenL_ev rfl (List.length_map _)) ?_
          refine G_v (.bool true) rfl rfl rfl (congrArg AVal.bool (decide_eq_true (by omega))) ?_
          refine G_nil ?_
          refine L_nil ?_
          refine Sm_norm (e2 := [(2, .ptr 0 0), (3, .ptr 1 0), (5, .int .i64 ((i33 : Nat) : Int)), (24, .bool true)]) (H1 := [.cells [.bool a1.never, .lst (List.map encFct a1.l) false], .cells [.bool b2.never, .lst (List.map encFct b2.l) false]]) (H2 := [.cells [.bool a1.never, .lst (List.map encFct a1.l) false], .cells [.bool b2.never, .lst (List.map encFct b2.l) false]]) rfl (by repeat (first | exact rzz | apply rcc rfl | apply rnn rfl)) rfl (?_ : GL _ _ _ _ _)
          refine L_T rfl rfl ?_
          refine L_skip ?_
          refine L_nil ?_
          refine Sm_norm (e2 := [(2, .ptr 0 0), (3, .ptr 1 0), (5, .int .i64 ((i33 : Nat) : Int))]) (H1 := [.cells [.bool a1.never, .lst (List.map encFct a1.l) false], .cells [.bool b2.never, .lst (List.map encFct b2.l) false]]) (H2 := [.cells [.bool a1.never, .lst (List.map encFct a1.l) false], .cells [.bool b2.never, .lst (List.map encFct b2.l) false]]) rfl (by repeat (first | exact rzz | apply rcc rfl | apply rnn rfl)) rfl (?_ : GL _ _ _ _ _)
          refine L_seq ?_
          refine L_stmt ?_
          refine L_block ?_
          refine L_seq ?_
          refine L_stmt ?_
          refine L_drawS (ops := [_, _, _, _, _, _, _, _, _, _, _]) rfl rfl ?_
          refine G_p rfl rfl rfl ?_
          refine G_h (v := .lst (List.map encFct a1.l) false) rfl rfl rfl (fun _ => rfl) ?_
          refine G_p rfl rfl rfl ?_
          refine G_h (v := .ro [.int .i64 y32.var, .int .i64 y32.tags]) rfl rfl rfl (ia_ev (cells := [.int .i64 y32.var, .int .i64 y32.tags]) rfl rfl (Int.natCast_nonneg _) (map_get (x := y32) (by rw [Int.toNat_natCast]; exact hy32)) (encFct_flat _) rfl) ?_
          refine G_h (v := .agg (cFct y32)) rfl rfl rfl (fun _ => rfl) ?_
          refine G_p rfl rfl rfl ?_
          refine G_h (v := .lst (List.map encFct b2.l) false) rfl rfl rfl (fun _ => rfl) ?_
          refine G_p rfl rfl rfl ?_
          obtain ⟨e36, he36, hr⟩ := bind_s hr
          refine G_h (v := .ro [.int .i64 e36.var, .int .i64 e36.tags]) rfl rfl rfl (ia_ev (cells := [.int .i64 e36.var, .int .i64 e36.tags]) rfl rfl (idx_s he36).1 (map_get (x := e36) (idx_s he36).2) (encFct_flat _) rfl) ?_
          refine G_h (v := .agg (cFct e36)) rfl rfl rfl (fun _ => rfl) ?_
          refine G_p rfl rfl rfl ?_
          refine G_nil (L_nil ⟨rfl, ?_⟩)
          refine L_nil ?_
          refine Sm_norm (e2 := [(2, .ptr 0 0), (3, .ptr 1 0), (5, .int .i64 ((i33 : Nat) : Int)), (37, .bool (!(decide (y32.var = e36.var) && (decide (y32.tags = e36.tags) && true))))]) (H1 := [.cells [.bool a1.never, .lst (List.map encFct a1.l) false], .cells [.bool b2.never, .lst (List.map encFct b2.l) false]]) (H2 := [.cells [.bool a1.never, .lst (List.map encFct a1.l) false], .cells [.bool b2.never, .lst (List.map encFct b2.l) false]]) rfl (by repeat (first | exact rzz | apply rcc rfl | apply rnn rfl)) rfl (?_ : GL _ _ _ _ _)
          rcases cond_s hr with ⟨hc37, hr⟩ | ⟨hc37, hr⟩
          · refine L_T rfl hc37 ?_
            refine L_seq ?_
            refine L_reg ?_
            refine G_p rfl rfl rfl ?_
            refine G_nil ?_
            refine L_ret ?_
            refine Blk_ret ?_
            refine Sm_ret ?_
            refine Rd_ret ?_
            refine Blk_ret ?_
            refine Sm_ret ?_
            have hr := some_s hr
            subst hr
            exact ⟨_, rfl, _, rfl, rfl⟩
          · refine L_F rfl hc37 ?_
            refine L_skip ?_
            refine L_nil ?_
            refine Blk_norm (?_ : GL _ _ _ _ _)
            refine L_nil ?_
            refine Sm_norm (e2 := [(2, .ptr 0 0), (3, .ptr 1 0), (5, .int .i64 ((i33 : Nat) : Int))]) (H1 := [.cells [.bool a1.never, .lst (List.map encFct a1.l) false], .cells [.bool b2.never, .lst (List.map encFct b2.l) false]]) (H2 := [.cells [.bool a1.never, .lst (List.map encFct a1.l) false], .cells [.bool b2.never, .lst (List.map encFct b2.l) false]]) rfl (by repeat (first | exact rzz | apply rcc rfl | apply rnn rfl)) rfl (?_ : GL _ _ _ _ _)
            refine L_reg ?_
            refine G_p rfl rfl rfl ?_
            refine G_v (.int .i64 ((i33 + 1 : Nat) : Int)) rfl rfl rfl (congrArg _ (wrap_next hLq31 hlti33)) ?_
            refine G_p rfl rfl rfl ?_
            refine G_nil ?_
            refine L_nil ?_
            refine Rd_norm ⟨(), ?_, rfl, hr⟩
            show restr _ _ = [(5, .int .i64 (((i33 + 1) : Nat) : Int)), (2, .ptr 0 0), (3, .ptr 1 0)]
            (repeat (first | exact rzz | apply rcc rfl | apply rnn rfl))
      · rintro ⟨⟩ hr
        show GL _ _ [] [.cells [.bool a1.never, .lst (List.map encFct a1.l) false], .cells [.bool b2.never, .lst (List.map encFct b2.l) false]] _
        replace hr : g_r06_Same_j1 = some r := hr
        unfold g_r06_Same_j1 at hr
        refine L_seq ?_
        refine L_reg ?_
        refine G_p rfl rfl rfl ?_
        refine G_nil ?_
        refine L_ret ?_
        have hr := some_s hr
        subst hr
        exact ⟨_, rfl, _, rfl, rfl⟩
end Go.Ev.Seat
namespace Go.Ev.Seat
set_option linter.unusedVariables false
set_option linter.unusedSimpArgs false
open Go Go.Ev
theorem tags_l2 (v : Int) : ∀ (l : List Fct) (i : Nat) (a : Nat), a < 256 → g_r06_tags_l2 v l i (a : Nat) = some (((a &&& tgN l v : Nat) : Nat) : Int)
  | [], i, a, h => by rw [g_r06_tags_l2, g_r06_tags_j1]; simp only [tgN, and255 h]
  | f :: l, i, a, h => by
    rw [g_r06_tags_l2]
    by_cases hc : f.var = v
    · have h2 : a &&& lowN f.tags < 256 := Nat.lt_of_le_of_lt Nat.and_le_left h
      rw [decide_eq_true hc, cond_true, g_r06_low, Option.bind_some, low_eq, and_nat h (lowN_lt _), tags_l2 v l (i + 1) _ h2]
      simp only [tgN, if_pos hc, Nat.and_assoc]
    · rw [decide_eq_false hc, cond_false, tags_l2 v l (i + 1) a h]
      simp only [tgN, if_neg hc]
theorem tags_r (f : Fts) (v : Int) (h : f.l.length < 10000000000) : g_r06_tags f v = some ((tgN f.l v : Nat) : Int) := by
  unfold g_r06_tags
  rw [okLen_of (by omega), cond_true]
  have := tags_l2 v f.l 0 255 (by decide)
  rw [Nat.and_comm, and255 (tgN_lt _ _)] at this
  exact this
theorem has_l2 (v : Int) : ∀ (l : List Fct) (i : Nat), g_r06_has_l2 v l i = some (decide (v ∈ l.map (·.var)))
  | [], i => by rw [g_r06_has_l2, g_r06_has_j1]; simp
  | f :: l, i => by
    rw [g_r06_has_l2]
    by_cases hc : f.var = v
    · rw [decide_eq_true hc, cond_true]; simp [hc]
    · rw [decide_eq_false hc, cond_false, has_l2 v l (i + 1)]
      congr 1
      apply decide_eq_decide.2
      rw [List.map_cons, List.mem_cons]
      constructor
      · exact .inr
      · rintro (h | h)
        · exact absurd h.symm hc
        · exact h
theorem has_r (f : Fts) (v : Int) (h : f.l.length < 10000000000) : g_r06_has f v = some (decide (v ∈ f.l.map (·.var))) := by
  unfold g_r06_has
  rw [okLen_of (by omega), cond_true]; exact has_l2 v f.l 0
theorem subL_of {α : Type} (A B : List α) : subL (A ++ B) 0 ((A.length : Nat) : Int) = some A ∧ subL (A ++ B) ((A.length : Nat) : Int) ((List.length (A ++ B) : Nat) : Int) = some B := by
  constructor
  · unfold subL; rw [if_pos ⟨by omega, by omega, by simp; omega⟩]; simp
  · unfold subL; rw [if_pos ⟨by omega, by simp; omega, by omega⟩, Int.toNat_natCast, Int.toNat_natCast, List.take_length, List.drop_left]
theorem ins_l5 (y : Fct) (K : List Int → Option (List Int)) (l : List Int) (hl : l.length < 10000000000) : ∀ (rest P : List Int), l = P ++ rest → g_r06_vars_l5 l y K rest P.length = K (P ++ insV y.var rest)
  | [], P, h => by
    simp only [List.append_nil] at h
    subst h
    have h1 := (subL_of l []).1
    have h2 := (subL_of l []).2
    simp only [List.append_nil] at h1 h2
    rw [g_r06_vars_l5, g_r06_vars_j4, decide_eq_true rfl, cond_true, Option.bind_some, cond_true, h1, Option.bind_some, okLen_of (by omega), cond_true, catL_of (by simp; omega), Option.bind_some, h2, Option.bind_some, catL_of (by simp; omega), Option.bind_some, g_r06_vars_j3]
    simp [insV]
  | w :: rest, P, h => by
    subst h
    rw [g_r06_vars_l5]
    simp only [List.length_append, List.length_cons] at hl
    by_cases hw : w < y.var
    · rw [decide_eq_true hw, cond_true]
      have := ins_l5 y K (P ++ w :: rest) (by simp; omega) rest (P ++ [w]) (by simp)
      have e4 : ((P ++ [w]).length : Nat) = P.length + 1 := by simp
      rw [e4] at this
      rw [this]
      congr 1
      have h1 : ¬ y.var < w := by omega
      have h2 : ¬ y.var = w := by omega
      simp [insV, h1, h2]
    · have e1 : decide (((P.length : Nat) : Int) = ((List.length (P ++ w :: rest) : Nat) : Int)) = false := by simp; omega
      rw [decide_eq_false hw, cond_false, g_r06_vars_j4, e1, cond_false, idx_at (A := P) (B := rest) rfl rfl, Option.bind_some, Option.bind_some]
      by_cases he : w = y.var
      · subst he
        rw [decide_eq_true rfl, Bool.not_true, cond_false, g_r06_vars_j3]
        simp [insV]
      · have h1 := (subL_of P (w :: rest)).1
        have h2 := (subL_of P (w :: rest)).2
        rw [decide_eq_false he, Bool.not_false, cond_true, h1, Option.bind_some, okLen_of (by omega), cond_true, catL_of (by simp; omega), Option.bind_some, h2, Option.bind_some, catL_of (by simp; omega), Option.bind_some, g_r06_vars_j3]
        have h3 : y.var < w := by omega
        simp [insV, h3]
theorem vars_l2 : ∀ (l : List Fct) (i : Nat) (acc : List Int), acc.length + l.length < 10000000000 → g_r06_vars_l2 l i acc = some (l.foldl (fun a f => insV f.var a) acc)
  | [], i, acc, h => by rw [g_r06_vars_l2, g_r06_vars_j1]; rfl
  | f :: l, i, acc, h => by
    simp only [List.length_cons] at h
    have := insV_len f.var acc
    have h5 := ins_l5 f (g_r06_vars_l2 l (i + 1)) acc (by omega) acc [] rfl
    rw [List.length_nil, List.nil_append] at h5
    rw [g_r06_vars_l2, okLen_of (by omega), cond_true, h5, vars_l2 l (i + 1) _ (by omega)]; rfl
theorem foldV_mem : ∀ (l : List Fct) (acc : List Int) (x : Int), x ∈ l.foldl (fun a f => insV f.var a) acc ↔ x ∈ acc ∨ x ∈ l.map (·.var)
  | [], acc, x => by simp
  | f :: l, acc, x => by
    rw [List.foldl_cons, foldV_mem l _ x, insV_mem, List.map_cons, List.mem_cons]
    constructor
    · rintro ((h | h) | h) <;> simp [h]
    · rintro (h | h | h) <;> simp [h]
theorem foldV_ris : ∀ (l : List Fct) (acc : List Int), Ris acc → Ris (l.foldl (fun a f => insV f.var a) acc)
  | [], acc, h => h
  | f :: l, acc, h => foldV_ris l _ (insV_ris _ h)
theorem vars_r (a b : Fts) (n : Nat) (h : a.l.length + b.l.length ≤ 1000000) : g_r06_vars n a b = some (vsF (a.l ++ b.l)) := by
  unfold g_r06_vars
  rw [okLen_of (by omega), cond_true, catL_of (by omega), Option.bind_some, g_r06_vars_j6, okLen_of (by simp; omega), cond_true, vars_l2 _ 0 [] (by simp; omega)]
  congr 1
  exact ris_eq (foldV_ris _ _ List.Pairwise.nil) (vsF_ris _) fun v => by rw [foldV_mem, vsF_mem]; simp
theorem and_l2 (a b : Fts) (ha : a.l.length < 10000000000) (hb : b.l.length < 10000000000) : ∀ (vs : List Int) (i : Nat) (acc : List Fct), acc.length + vs.length < 10000000000 →
    g_r06_And_l2 a b vs i acc = some ⟨false, acc ++ sayF (vs.map fun v => ⟨v, ((tgN (a.l ++ b.l) v : Nat) : Int)⟩)⟩
  | [], i, acc, h => by rw [g_r06_And_l2, g_r06_And_j1]; simp [sayF]
  | v :: vs, i, acc, h => by
    simp only [List.length_cons] at h
    rw [g_r06_And_l2, tags_r a v ha, Option.bind_some, tags_r b v hb, Option.bind_some, and_nat (tgN_lt _ _) (tgN_lt _ _), ← tgN_app]
    by_cases hc : ((tgN (a.l ++ b.l) v : Nat) : Int) = 255
    · rw [decide_eq_true hc, Bool.not_true, cond_false, g_r06_And_j3, and_l2 a b ha hb vs (i + 1) acc (by omega)]
      congr 3
      simp [sayF, hc]
    · rw [decide_eq_false hc, Bool.not_false, cond_true, catL_of (by simp; omega), Option.bind_some, g_r06_And_j3, and_l2 a b ha hb vs (i + 1) _ (by simp; omega)]
      congr 2
      simp [sayF, hc]
theorem and_r (a b : Fts) (n : Nat) (h : a.l.length + b.l.length ≤ 1000000) : g_r06_And n a b = some (andF a b) := by
  unfold g_r06_And andF
  cases hv : (a.never || b.never) with
  | true => simp
  | false =>
    have hl := vsF_len (a.l ++ b.l)
    rw [List.length_append] at hl
    rw [cond_false, if_neg (by simp), vars_r a b n h, Option.bind_some, okLen_of (by omega), cond_true, and_l2 a b (by omega) (by omega) _ 0 [] (by simp; omega)]
    rfl
theorem or_l2 (a b : Fts) (ha : a.l.length < 10000000000) (hb : b.l.length < 10000000000) : ∀ (vs : List Int) (i : Nat) (acc : List Fct), acc.length + vs.length < 10000000000 →
    g_r06_Or_l2 a b vs i acc = some ⟨false, acc ++ sayF ((vs.filter fun v => decide (v ∈ a.l.map (·.var)) && decide (v ∈ b.l.map (·.var))).map fun v => ⟨v, ((tgN a.l v ||| tgN b.l v : Nat) : Int)⟩)⟩
  | [], i, acc, h => by rw [g_r06_Or_l2, g_r06_Or_j1]; simp [sayF]
  | v :: vs, i, acc, h => by
    simp only [List.length_cons] at h
    rw [g_r06_Or_l2, tags_r a v ha, Option.bind_some, tags_r b v hb, Option.bind_some, has_r a v ha, Option.bind_some, has_r b v hb, Option.bind_some, or_nat (tgN_lt _ _) (tgN_lt _ _)]
    have hcd : (cond (decide (v ∈ a.l.map (·.var))) (some (decide (v ∈ b.l.map (·.var)))) (some false)) = some (decide (v ∈ a.l.map (·.var)) && decide (v ∈ b.l.map (·.var))) := by
      cases decide (v ∈ a.l.map (·.var)) <;> rfl
    rw [hcd, Option.bind_some]
    cases hh : (decide (v ∈ a.l.map (·.var)) && decide (v ∈ b.l.map (·.var))) with
    | false =>
      rw [Bool.false_and, cond_false, g_r06_Or_j3, or_l2 a b ha hb vs (i + 1) acc (by omega), List.filter_cons, hh]; rfl
    | true =>
      rw [Bool.true_and, List.filter_cons, hh, if_pos rfl, List.map_cons]
      by_cases hc : ((tgN a.l v ||| tgN b.l v : Nat) : Int) = 255
      · rw [decide_eq_true hc, Bool.not_true, cond_false, g_r06_Or_j3, or_l2 a b ha hb vs (i + 1) acc (by omega)]
        congr 3
        rw [sayF, sayF, List.filter_cons, decide_eq_true hc]; rfl
      · rw [decide_eq_false hc, Bool.not_false, cond_true, catL_of (by simp; omega), Option.bind_some, g_r06_Or_j3, or_l2 a b ha hb vs (i + 1) _ (by simp; omega)]
        congr 2
        rw [sayF, sayF, List.filter_cons, decide_eq_false hc]; simp
theorem or_r (a b : Fts) (n : Nat) (h : a.l.length + b.l.length ≤ 1000000) : g_r06_Or n a b = some (orF a b) := by
  unfold g_r06_Or orF
  cases ha : a.never with
  | true => rw [cond_true, and_r b ⟨false, []⟩ n (by simp; omega)]; simp
  | false =>
    rw [cond_false, if_neg (by simp)]
    cases hb : b.never with
    | true => rw [cond_true, and_r a ⟨false, []⟩ n (by simp; omega)]; simp
    | false =>
      have hl := vsF_len (a.l ++ b.l)
      rw [List.length_append] at hl
      rw [cond_false, if_neg (by simp), vars_r a b n h, Option.bind_some, okLen_of (by omega), cond_true, or_l2 a b (by omega) (by omega) _ 0 [] (by simp; omega)]
      congr 4
      rw [show ([] : List Fct) ++ sayF ((List.filter (fun v => decide (v ∈ a.l.map (·.var)) && decide (v ∈ b.l.map (·.var))) (vsF (a.l ++ b.l))).map fun v => ⟨v, ((tgN a.l v ||| tgN b.l v : Nat) : Int)⟩) = sayF ((List.filter (fun v => decide (v ∈ a.l.map (·.var)) && decide (v ∈ b.l.map (·.var))) (vsF (a.l ++ b.l))).map fun v => ⟨v, ((tgN a.l v ||| tgN b.l v : Nat) : Int)⟩) from List.nil_append _]
      congr 2
      refine ris_eq ((vsF_ris _).sublist List.filter_sublist) ((vsF_ris _).sublist List.filter_sublist) fun v => ?_
      simp only [List.mem_filter, vsF_mem, List.map_append, List.mem_append, Bool.and_eq_true, decide_eq_true_eq]
      constructor
      · rintro ⟨_, h1, h2⟩; exact ⟨h1, h2⟩
      · rintro ⟨h1, h2⟩; exact ⟨.inl h1, h1, h2⟩
def okTwo (a b : Fts) : Bool := decide (a.l.length + b.l.length ≤ 1000000)
def oAnd (a b : Fts) : Option Fts := if okTwo a b then some (andF a b) else none
def oOr (a b : Fts) : Option Fts := if okTwo a b then some (orF a b) else none
def oAndR (a b : Fts) : Option Fts := if okTwo a b then some (andF a b) else none
def oOrR (a b : Fts) : Option Fts := if okTwo a b then some (orF a b) else none
theorem oTwo {a b r F : Fts} (h : (if okTwo a b then some F else none) = some r) : a.l.length + b.l.length ≤ 1000000 ∧ F = r := by
  split at h
  · rename_i hc; cases h; exact ⟨of_decide_eq_true hc, rfl⟩
  · cases h
theorem oAnd_ok {a b r : Fts} (h : oAnd a b = some r) : PRes (tabOf tabL) 11 [.agg (cFts a), .agg (cFts b)] (.agg (cFts r)) := by
  obtain ⟨h1, rfl⟩ := oTwo h
  exact g_narrow_And_ok (and_p a b (a.l.length + b.l.length + 11) h1 (by omega))
theorem oOr_ok {a b r : Fts} (h : oOr a b = some r) : PRes (tabOf tabL) 13 [.agg (cFts a), .agg (cFts b)] (.agg (cFts r)) := by
  obtain ⟨h1, rfl⟩ := oTwo h
  exact g_narrow_Or_ok (or_p a b (a.l.length + b.l.length + 11) h1 (by omega))
theorem oAndR_ok {a b r : Fts} (h : oAndR a b = some r) : PRes (tabOf tabL) 12 [.agg (cFts a), .agg (cFts b)] (.agg (cFts r)) := by
  obtain ⟨h1, rfl⟩ := oTwo h
  exact g_r06_And_ok (and_r a b 0 h1)
theorem oOrR_ok {a b r : Fts} (h : oOrR a b = some r) : PRes (tabOf tabL) 14 [.agg (cFts a), .agg (cFts b)] (.agg (cFts r)) := by
  obtain ⟨h1, rfl⟩ := oTwo h
  exact g_r06_Or_ok (or_r a b 0 h1)
theorem andF_len (a b : Fts) : (andF a b).l.length ≤ a.l.length + b.l.length := by
  unfold andF; split
  · simp
  · have := canF_len (a.l ++ b.l)
    rw [List.length_append] at this
    exact Nat.le_trans (List.length_filter_le _ _) this
theorem orF_len (a b : Fts) : (orF a b).l.length ≤ max a.l.length b.l.length := by
  unfold orF; split
  · have := andF_len b ⟨false, []⟩; simp at this; omega
  · split
    · have := andF_len a ⟨false, []⟩; simp at this; omega
    · refine Nat.le_trans (List.length_filter_le _ _) ?_
      rw [List.length_map]
      have := List.length_filter_le (fun v => decide (v ∈ vsF b.l)) (vsF a.l)
      have := vsF_len a.l
      omega
end Go.Ev.Seat
namespace Go.Ev.Seat
set_option linter.unusedVariables false
set_option linter.unusedSimpArgs false
open Go Go.Ev
set_option maxRecDepth 20000
attribute [local irreducible] pcall callF
noncomputable def g_w06_NarrowFacts (a1 : Fts) (b2 : Fts) : Option Bool :=
  ((oAwake).bind fun r3 => (cond ((decide (30 < ((List.length a1.l : Nat) : Int))) || (decide (30 < ((List.length b2.l : Nat) : Int)))) (some r3) ((oAnd a1 b2).bind fun r4 => ((g_w06_to r4).bind fun r5 => ((g_w06_to a1).bind fun r6 => ((g_w06_to b2).bind fun r7 => ((oAndR r6 r7).bind fun r8 => ((g_r06_Same r5 r8).bind fun r9 => ((oOr a1 b2).bind fun r10 => ((g_w06_to r10).bind fun r11 => ((g_w06_to a1).bind fun r12 => ((g_w06_to b2).bind fun r13 => ((oOrR r12 r13).bind fun r14 => ((g_r06_Same r11 r14).bind fun r15 => some ((r3 && r9) && r15)))))))))))))))
theorem g_w06_NarrowFacts_ok {a1 : Fts} {b2 : Fts} {r : Bool} (hr : g_w06_NarrowFacts a1 b2 = some r) : PRes (tabOf tabL) 3 [.agg (cFts a1), .agg (cFts b2)] (.bool r) := by
  refine pres_fin t3 ?_
  unfold g_w06_NarrowFacts at hr
  refine L_seq ?_
  refine L_stmt ?_
  refine L_reg ?_
  refine G_n (B := .cells [.bool a1.never, .lst (List.map encFct a1.l) false]) rfl rfl rfl ?_
  refine G_n (B := .cells [.bool b2.never, .lst (List.map encFct b2.l) false]) rfl rfl rfl ?_
  refine G_p rfl rfl rfl ?_
  refine G_nil ?_
  refine L_nil ?_
  refine Sm_norm (e2 := [(2, .ptr 0 0), (3, .ptr 1 0)]) (H1 := [.cells [.bool a1.never, .lst (List.map encFct a1.l) false], .cells [.bool b2.never, .lst (List.map encFct b2.l) false]]) (H2 := [.cells [.bool a1.never, .lst (List.map encFct a1.l) false], .cells [.bool b2.never, .lst (List.map encFct b2.l) false]]) rfl (by repeat (first | exact rzz | apply rcc rfl | apply rnn rfl)) rfl (?_ : GL _ _ _ _ _)
  refine L_seq ?_
  refine L_stmt ?_
  refine L_reg ?_
  obtain ⟨r3, hr3, hr⟩ := bind_s hr
  refine G_c 8 rfl rfl (CA_of (as := []) rfl (oAwake_ok hr3)) ?_
  refine G_p rfl rfl rfl ?_
  refine G_nil ?_
  refine L_nil ?_
  refine Sm_norm (e2 := [(2, .ptr 0 0), (3, .ptr 1 0), (5, .bool r3)]) (H1 := [.cells [.bool a1.never, .lst (List.map encFct a1.l) false], .cells [.bool b2.never, .lst (List.map encFct b2.l) false]]) (H2 := [.cells [.bool a1.never, .lst (List.map encFct a1.l) false], .cells [.bool b2.never, .lst (List.map encFct b2.l) false]]) rfl (by repeat (first | exact rzz | apply rcc rfl | apply rnn rfl)) rfl (?_ : GL _ _ _ _ _)
  refine L_seq ?_
  refine L_stmt ?_
  refine L_seq ?_
  refine L_stmt ?_
  refine L_reg ?_
  refine G_p rfl rfl rfl ?_
  refine G_h (v := .lst (List.map encFct a1.l) false) rfl rfl rfl (fun _ => rfl) ?_
  refine G_h rfl rfl rfl (lenL_ev rfl (List.length_map _)) ?_
  refine G_p rfl rfl rfl ?_
  refine G_p rfl rfl rfl ?_
  refine G_or (f := (decide (30 < ((List.length b2.l : Nat) : Int)))) [_, _, _, _] rfl rfl ?_ ?_
  · intro hb13
    refine G_p rfl rfl rfl ?_
    refine G_h (v := .lst (List.map encFct b2.l) false) rfl rfl rfl (fun _ => rfl) ?_
    refine G_h rfl rfl rfl (lenL_ev rfl (List.length_map _)) ?_
    refine G_p rfl rfl rfl ?_
    exact G_nil (L_nil ⟨rfl, rfl, rfl⟩)
  · intro vs hvs
    obtain ⟨u14, u15, u16, u17, rfl⟩ := len4 hvs
    dsimp only [junk]
    refine G_nil ?_
    refine L_nil ?_
    refine Sm_norm (e2 := [(2, .ptr 0 0), (3, .ptr 1 0), (5, .bool r3), (18, .bool ((decide (30 < ((List.length a1.l : Nat) : Int))) || (decide (30 < ((List.length b2.l : Nat) : Int)))))]) (H1 := [.cells [.bool a1.never, .lst (List.map encFct a1.l) false], .cells [.bool b2.never, .lst (List.map encFct b2.l) false]]) (H2 := [.cells [.bool a1.never, .lst (List.map encFct a1.l) false], .cells [.bool b2.never, .lst (List.map encFct b2.l) false]]) rfl (by repeat (first | exact rzz | apply rcc rfl | apply rnn rfl)) rfl (?_ : GL _ _ _ _ _)
    rcases cond_s hr with ⟨hc18, hr⟩ | ⟨hc18, hr⟩
    · refine L_T rfl hc18 ?_
      refine L_seq ?_
      refine L_reg ?_
      refine G_p rfl rfl rfl ?_
      refine G_p rfl rfl rfl ?_
      refine G_nil ?_
      refine L_ret ?_
      refine Sm_ret ?_
      have hr := some_s hr
      subst hr
      exact ⟨_, rfl, _, rfl, rfl⟩
    · refine L_F rfl hc18 ?_
      refine L_skip ?_
      refine L_nil ?_
      refine Sm_norm (e2 := [(2, .ptr 0 0), (3, .ptr 1 0), (5, .bool r3)]) (H1 := [.cells [.bool a1.never, .lst (List.map encFct a1.l) false], .cells [.bool b2.never, .lst (List.map encFct b2.l) false]]) (H2 := [.cells [.bool a1.never, .lst (List.map encFct a1.l) false], .cells [.bool b2.never, .lst (List.map encFct b2.l) false]]) rfl (by repeat (first | exact rzz | apply rcc rfl | apply rnn rfl)) rfl (?_ : GL _ _ _ _ _)
      refine L_seq ?_
      refine L_stmt ?_
      refine L_drawT [] rfl ?_
      refine GS_h (d := some 20) (v := .agg (cFts a1)) rfl rfl rfl rfl (fun _ => rfl) ?_
      refine GS_h (d := some 21) (v := .agg (cFts b2)) rfl rfl rfl rfl (fun _ => rfl) ?_
      obtain ⟨r4, hr4, hr⟩ := bind_s hr
      refine GS_c 11 rfl rfl rfl (CA_of (as := [.agg (cFts a1), .agg (cFts b2)]) rfl (oAnd_ok hr4)) ?_
      obtain ⟨r5, hr5, hr⟩ := bind_s hr
      refine GS_c 10 rfl rfl rfl (CA_of (as := [.agg (cFts r4)]) rfl (g_w06_to_ok hr5)) ?_
      refine GS_h (d := some 24) (v := .agg (cFts a1)) rfl rfl rfl rfl (fun _ => rfl) ?_
      obtain ⟨r6, hr6, hr⟩ := bind_s hr
      refine GS_c 10 rfl rfl rfl (CA_of (as := [.agg (cFts a1)]) rfl (g_w06_to_ok hr6)) ?_
      refine GS_h (d := some 26) (v := .agg (cFts b2)) rfl rfl rfl rfl (fun _ => rfl) ?_
      obtain ⟨r7, hr7, hr⟩ := bind_s hr
      refine GS_c 10 rfl rfl rfl (CA_of (as := [.agg (cFts b2)]) rfl (g_w06_to_ok hr7)) ?_
      obtain ⟨r8, hr8, hr⟩ := bind_s hr
      refine GS_c 12 rfl rfl rfl (CA_of (as := [.agg (cFts r6), .agg (cFts r7)]) rfl (oAndR_ok hr8)) ?_
      obtain ⟨r9, hr9, hr⟩ := bind_s hr
      refine GS_c 9 rfl rfl rfl (CA_of (as := [.agg (cFts r5), .agg (cFts r8)]) rfl (g_r06_Same_ok hr9)) ?_
      refine GS_p rfl rfl rfl ?_
      refine GS_nil ?_
      refine L_nil ?_
      refine Sm_norm (e2 := [(2, .ptr 0 0), (3, .ptr 1 0), (5, .bool r3), (6, .bool r9)]) (H1 := [.cells [.bool a1.never, .lst (List.map encFct a1.l) false], .cells [.bool b2.never, .lst (List.map encFct b2.l) false]]) (H2 := [.cells [.bool a1.never, .lst (List.map encFct a1.l) false], .cells [.bool b2.never, .lst (List.map encFct b2.l) false]]) rfl (by repeat (first | exact rzz | apply rcc rfl | apply rnn rfl)) rfl (?_ : GL _ _ _ _ _)
      refine L_seq ?_
      refine L_stmt ?_
      refine L_drawT [] rfl ?_
      refine GS_h (d := some 30) (v := .agg (cFts a1)) rfl rfl rfl rfl (fun _ => rfl) ?_
      refine GS_h (d := some 31) (v := .agg (cFts b2)) rfl rfl rfl rfl (fun _ => rfl) ?_
      obtain ⟨r10, hr10, hr⟩ := bind_s hr
      refine GS_c 13 rfl rfl rfl (CA_of (as := [.agg (cFts a1), .agg (cFts b2)]) rfl (oOr_ok hr10)) ?_
      obtain ⟨r11, hr11, hr⟩ := bind_s hr
      refine GS_c 10 rfl rfl rfl (CA_of (as := [.agg (cFts r10)]) rfl (g_w06_to_ok hr11)) ?_
      refine GS_h (d := some 34) (v := .agg (cFts a1)) rfl rfl rfl rfl (fun _ => rfl) ?_
      obtain ⟨r12, hr12, hr⟩ := bind_s hr
      refine GS_c 10 rfl rfl rfl (CA_of (as := [.agg (cFts a1)]) rfl (g_w06_to_ok hr12)) ?_
      refine GS_h (d := some 36) (v := .agg (cFts b2)) rfl rfl rfl rfl (fun _ => rfl) ?_
      obtain ⟨r13, hr13, hr⟩ := bind_s hr
      refine GS_c 10 rfl rfl rfl (CA_of (as := [.agg (cFts b2)]) rfl (g_w06_to_ok hr13)) ?_
      obtain ⟨r14, hr14, hr⟩ := bind_s hr
      refine GS_c 14 rfl rfl rfl (CA_of (as := [.agg (cFts r12), .agg (cFts r13)]) rfl (oOrR_ok hr14)) ?_
      obtain ⟨r15, hr15, hr⟩ := bind_s hr
      refine GS_c 9 rfl rfl rfl (CA_of (as := [.agg (cFts r11), .agg (cFts r14)]) rfl (g_r06_Same_ok hr15)) ?_
      refine GS_p rfl rfl rfl ?_
      refine GS_nil ?_
      refine L_nil ?_
      refine Sm_norm (e2 := [(5, .bool r3), (6, .bool r9), (7, .bool r15)]) (H1 := [.cells [.bool a1.never, .lst (List.map encFct a1.l) false], .cells [.bool b2.never, .lst (List.map encFct b2.l) false]]) (H2 := [.cells [.bool a1.never, .lst (List.map encFct a1.l) false], .cells [.bool b2.never, .lst (List.map encFct b2.l) false]]) rfl (by repeat (first | exact rzz | apply rcc rfl | apply rnn rfl)) rfl (?_ : GL _ _ _ _ _)
      refine L_seq ?_
      refine L_reg ?_
      refine G_p rfl rfl rfl ?_
      refine G_p rfl rfl rfl ?_
      refine G_and (f := r9) [_] rfl rfl ?_ ?_
      · intro hb41
        refine G_p rfl rfl rfl ?_
        exact G_nil (L_nil ⟨rfl, rfl, rfl⟩)
      · intro vs hvs
        obtain ⟨u42, rfl⟩ := len1 hvs
        dsimp only [junk]
        refine G_p rfl rfl rfl ?_
        refine G_and (f := r15) [_] rfl rfl ?_ ?_
        · intro hb44
          refine G_p rfl rfl rfl ?_
          exact G_nil (L_nil ⟨rfl, rfl, rfl⟩)
        · intro vs hvs
          obtain ⟨u45, rfl⟩ := len1 hvs
          dsimp only [junk]
          refine G_p rfl rfl rfl ?_
          refine G_nil ?_
          refine L_ret ?_
          have hr := some_s hr
          subst hr
          exact ⟨_, rfl, _, rfl, rfl⟩
end Go.Ev.Seat
namespace Go.Ev.Seat
set_option linter.unusedVariables false
set_option linter.unusedSimpArgs false
open Go Go.Ev
theorem to_fl (f : Fts) : ∀ (fs : List Fct) (i : Nat) (acc : List Fct), acc.length + fs.length < 10000000000 → g_w06_to_l2 f fs i acc = some ⟨f.never, acc ++ fs⟩
  | [], i, acc, _ => by rw [g_w06_to_l2, g_w06_to_j1, List.append_nil]
  | x :: fs, i, acc, h => by
    have : catL acc [x] = some (acc ++ [x]) := catL_of (by simp at h ⊢; omega)
    rw [g_w06_to_l2, this, Option.bind_some, to_fl f fs (i + 1) (acc ++ [x]) (by simp at h ⊢; omega)]
    simp
theorem to_f (f : Fts) (h : f.l.length < 10000000000) : g_w06_to f = some f := by
  unfold g_w06_to
  rw [okLen_of (by omega), cond_true, to_fl f f.l 0 [] (by simpa using h)]; rfl
theorem same_l (f : Fts) : ∀ (rest P : List Fct), f.l = P ++ rest → g_r06_Same_l2 f rest P.length = some true
  | [], P, h => by rw [g_r06_Same_l2, g_r06_Same_j1]
  | x :: rest, P, h => by
    have := same_l f rest (P ++ [x]) (by simpa using h)
    have e4 : ((P ++ [x]).length : Nat) = P.length + 1 := by simp
    rw [e4] at this
    rw [g_r06_Same_l2, idx_at (A := P) (B := rest) h rfl, Option.bind_some]
    simpa using this
theorem same_f (f : Fts) (h : f.l.length < 10000000000) : g_r06_Same f f = some true := by
  unfold g_r06_Same
  have : ((!(f.never == f.never)) || (!decide (((List.length f.l : Nat) : Int) = ((List.length f.l : Nat) : Int)))) = false := by simp
  rw [this, cond_false, okLen_of (by omega), cond_true]
  exact same_l f f.l [] rfl
theorem facts_t (a b : Fts) : g_w06_NarrowFacts a b = some true := by
  unfold g_w06_NarrowFacts oAwake
  rw [Option.bind_some]
  by_cases h1 : 30 < a.l.length
  · have : (decide (30 < ((List.length a.l : Nat) : Int)) || decide (30 < ((List.length b.l : Nat) : Int))) = true := by simp; omega
    rw [this, cond_true]
  · by_cases h2 : 30 < b.l.length
    · have : (decide (30 < ((List.length a.l : Nat) : Int)) || decide (30 < ((List.length b.l : Nat) : Int))) = true := by simp; omega
      rw [this, cond_true]
    · have h3 : (decide (30 < ((List.length a.l : Nat) : Int)) || decide (30 < ((List.length b.l : Nat) : Int))) = false := by simp; omega
      have h4 : okTwo a b = true := decide_eq_true (by omega)
      have h5 := andF_len a b
      have h6 := orF_len a b
      simp only [h3, cond_false, oAnd, oOr, oAndR, oOrR, h4, if_true, Option.bind_some, to_f a (by omega), to_f b (by omega), to_f (andF a b) (by omega), to_f (orF a b) (by omega), same_f (andF a b) (by omega), same_f (orF a b) (by omega)]
      rfl
theorem nfacts (a b : Fts) : ∃ n, pcall (tabOf tabL) n 3 [vFts a, vFts b] = some (.ok (.bool true)) := (g_w06_NarrowFacts_ok (facts_t a b)).get
end Go.Ev.Seat
namespace Go.Ev
set_option linter.unusedVariables false
set_option linter.unusedSimpArgs false
open Go
def HasT (P : Program) : Nat → TypeId → List AVal → Prop
  | 0, _, _ => False
  | n + 1, t, as => match P.underlying t with
    | some .bool => ∃ b, as = [.bool b]
    | some (.int k) => ∃ i, (Lit.int k i).wf = true ∧ as = [.int k i]
    | some .string => ∃ s : List UInt8, s.length ≤ maxLen ∧ as = [.str s]
    | some (.slice e) => ∃ xs : List AVal, xs.length ≤ maxLen ∧ as = [.lst xs false] ∧ ∀ x, x ∈ xs → HasT P n e x.flat ∧ (aggB P e = some true → ∃ cs, x = .agg cs) ∧ (aggB P e = some false → x.flat = [x])
    | some (.struct fs) => ∃ parts : List (List AVal), parts.length = fs.size ∧ as = parts.flatten ∧ ∀ (i : Nat) (f : Field) (p : List AVal), fs[i]? = some f → parts[i]? = some p → HasT P n f.type p
    | some (.array m e) => ∃ parts : List (List AVal), parts.length = m ∧ as = parts.flatten ∧ ∀ p, p ∈ parts → HasT P n e p
    | some (.pointer e) => as = [.nilp] ∨ ∃ cs, as = [.ro cs] ∧ HasT P n e cs
    | _ => False
def contig (P : Program) : Nat → List Field → Nat → Bool
  | off, [], tot => Nat.beq off tot
  | off, f :: fs, tot => Nat.beq f.offset off && contig P (off + P.cellsOf f.type) fs tot
def plainT (P : Program) (ts : List TypeId) (t : TypeId) : Bool :=
  match P.underlying t with
  | some .bool => true
  | some (.int _) => true
  | some .string => true
  | some (.slice e) => ts.contains e && Nat.ble 1 (P.cellsOf e)
  | some (.struct fs) => contig P 0 fs.toList (P.cellsOf t) && fs.toList.all fun f => ts.contains f.type
  | some (.array m e) => ts.contains e && Nat.beq (P.cellsOf t) (m * P.cellsOf e)
  | some (.pointer e) => ts.contains e && Nat.ble 1 (P.cellsOf e)
  | _ => false
def plainTs (P : Program) (ts : List TypeId) : Bool := ts.all (plainT P ts)
theorem build {α : Type} {Pr : Nat → α → Prop} : ∀ (n : Nat), (∀ i, i < n → ∃ y, Pr i y) → ∃ l : List α, l.length = n ∧ ∀ (i : Nat) (y : α), l[i]? = some y → Pr i y
  | 0, _ => ⟨[], rfl, by simp⟩
  | n + 1, h => by
    obtain ⟨l, h1, h2⟩ := build n (fun i hi => h i (by omega))
    obtain ⟨y, hy⟩ := h n (by omega)
    refine ⟨l ++ [y], by simp [h1], ?_⟩
    intro i z hz
    by_cases hi : i < l.length
    · rw [List.getElem?_append_left hi] at hz; exact h2 i z hz
    · rw [List.getElem?_append_right (by omega)] at hz
      have : i = n := by
        have := (List.getElem?_eq_some_iff.1 hz).1
        simp at this; omega
      subst this
      simp [h1] at hz; subst hz; exact hy
def scal : AVal → Bool
  | .agg _ => false
  | .tup _ => false
  | _ => true
def Flat1 (c : AVal) : Prop := rfree c ∧ scal c = true
theorem Flat1.flat {c : AVal} (h : Flat1 c) : c.flat = [c] := by
  have := h.2
  cases c <;> simp [scal] at this <;> rfl
theorem Flat1.one {Γ : Gh} {c : AVal} {d : Value} (h : Flat1 c) (hr : Rep Γ c d) : d.oneCell' = true := by
  have := h.2
  cases hr <;> first | rfl | (simp [scal] at this; done)
section
variable {H : Type} {enc : TypeId × Value → H} {P : Program} {w : World}
theorem reps_flatten_parts {Γ : Gh} : ∀ {parts : List (List AVal)} {cparts : List (List Value)}, parts.length = cparts.length → (∀ (i : Nat) (p : List AVal) (c : List Value), parts[i]? = some p → cparts[i]? = some c → Reps Γ p c) → Reps Γ parts.flatten cparts.flatten
  | [], [], _, _ => Reps.nil Γ
  | p :: ps, c :: cs, hl, h => by
    simp only [List.flatten_cons]
    exact (h 0 p c rfl rfl).append (reps_flatten_parts (by simpa using hl) fun i p c h1 h2 => h (i + 1) p c (by simpa using h1) (by simpa using h2))
  | [], _ :: _, hl, _ => by simp at hl
  | _ :: _, [], hl, _ => by simp at hl
theorem contig_parts : ∀ {fs : List Field} {off tot : Nat} {cs : List Value}, contig P off fs tot = true → cs.length = tot → (fs.map fun f => (cs.drop f.offset).take (P.cellsOf f.type)).flatten = cs.drop off
  | [], off, tot, cs, h, hl => by
    have := Nat.eq_of_beq_eq_true (by simpa [contig] using h)
    simp; omega
  | f :: fs, off, tot, cs, h, hl => by
    simp only [contig, Bool.and_eq_true] at h
    have h1 := Nat.eq_of_beq_eq_true h.1
    simp only [List.map_cons, List.flatten_cons]
    rw [contig_parts h.2 hl, h1, ← List.drop_drop, List.take_append_drop]
theorem array_parts {z : Nat} : ∀ {m : Nat} {cs : List Value}, cs.length = m * z → ((List.range m).map fun i => (cs.drop (i * z)).take z).flatten = cs
  | 0, cs, hl => by
    have : cs = [] := List.length_eq_zero_iff.1 (by omega)
    simp [this]
  | m + 1, cs, hl => by
    rw [List.range_succ_eq_map, List.map_cons, List.flatten_cons, List.map_map]
    have h := array_parts (z := z) (m := m) (cs := cs.drop z) (by simp [hl, Nat.add_mul])
    have e : ((fun i => (cs.drop (i * z)).take z) ∘ Nat.succ) = fun i => ((cs.drop z).drop (i * z)).take z := by
      funext i
      simp only [Function.comp, List.drop_drop, Nat.succ_eq_add_one, Nat.add_mul, Nat.one_mul]
      rw [Nat.add_comm]
    rw [e, h]
    simp
def mkEl (b : Option Bool) (p : List AVal) : AVal := match b with
  | some false => p.headD .nilp
  | _ => .agg p
theorem mkEl_rfree {b : Option Bool} {p : List AVal} (h : ∀ c, c ∈ p → rfree c) : rfree (mkEl b p) := by
  unfold mkEl
  split
  · cases p with
    | nil => rfl
    | cons c cs => exact h c (by simp)
  · exact lowL_iff.2 h
theorem HasT_single {ts : List TypeId} (hp : plainTs P ts = true) {n : Nat} {e : TypeId} {p : List AVal} (he : e ∈ ts) (ha : aggB P e = some false) (h : HasT P n e p) : ∃ c, p = [c] := by
  cases n with
  | zero => cases h
  | succ n =>
    unfold aggB at ha
    unfold HasT at h
    cases hu : P.underlying e with
    | none => rw [hu] at h; cases h
    | some u =>
      rw [hu] at h ha
      cases u <;> simp only [reduceCtorEq] at h ha <;> first | (cases ha; done) | (cases h; done) | skip
      · obtain ⟨b, rfl⟩ := h; exact ⟨_, rfl⟩
      · obtain ⟨i, _, rfl⟩ := h; exact ⟨_, rfl⟩
      · obtain ⟨b, _, rfl⟩ := h; exact ⟨_, rfl⟩
      · rcases h with rfl | ⟨cs, rfl, _⟩ <;> exact ⟨_, rfl⟩
      · obtain ⟨xs, _, rfl, _⟩ := h; exact ⟨_, rfl⟩
theorem mkEl_flat {ts : List TypeId} (hp : plainTs P ts = true) {n : Nat} {e : TypeId} {p : List AVal} (he : e ∈ ts) (h : HasT P n e p) (hf : ∀ c, c ∈ p → Flat1 c) : (mkEl (aggB P e) p).flat = p := by
  unfold mkEl
  split
  · rename_i ha
    obtain ⟨c, rfl⟩ := HasT_single hp he ha h
    exact (hf c (by simp)).flat
  · rfl
theorem flatL_mkEl {b : Option Bool} : ∀ {parts : List (List AVal)}, (∀ p, p ∈ parts → (mkEl b p).flat = p) → flatL (parts.map (mkEl b)) = parts.flatten
  | [], _ => rfl
  | p :: ps, h => by
    simp only [List.map_cons, flatL, List.flatten_cons, h p (by simp)]
    rw [flatL_mkEl fun q hq => h q (by simp [hq])]
theorem flatten_get {α : Type} {z : Nat} (hz : 0 < z) : ∀ {parts : List (List α)} {j : Nat} {c : α}, (∀ p, p ∈ parts → p.length = z) → parts.flatten[j]? = some c → ∃ p, parts[j / z]? = some p ∧ p[j % z]? = some c
  | [], j, c, _, h => by simp at h
  | p :: ps, j, c, hl, h => by
    have hp := hl p (by simp)
    rw [List.flatten_cons] at h
    by_cases hj : j < z
    · rw [List.getElem?_append_left (by omega)] at h
      rw [Nat.div_eq_of_lt hj, Nat.mod_eq_of_lt hj]
      exact ⟨p, rfl, h⟩
    · rw [List.getElem?_append_right (by omega), hp] at h
      obtain ⟨q, h1, h2⟩ := flatten_get hz (fun q hq => hl q (by simp [hq])) h
      have e1 : j / z = (j - z) / z + 1 := by
        rw [← Nat.add_div_right _ hz]; congr 1; omega
      have e2 : j % z = (j - z) % z := by
        rw [Nat.mod_eq_sub_mod (by omega)]
      exact ⟨q, by rw [e1]; exact h1, by rw [e2]; exact h2⟩
theorem trod_has {ts : List TypeId} (hp : plainTs P ts = true) : ∀ (n : Nat) (t : TypeId) (cs : List Value) (x : DataW H × List MemPlace), t ∈ ts → DataW.trod enc P w 0 (fun _ => true) true n t cs = some x →
    ∃ as : List AVal, Reps (Gh.all w) as cs ∧ HasT P n t as ∧ ∀ c, c ∈ as → Flat1 c := by
  intro n
  induction n with
  | zero => intro t cs x _ h; simp [DataW.trod] at h
  | succ n ih =>
    intro t cs x ht h
    have hpt := List.all_eq_true.1 hp t ht
    unfold plainT at hpt
    have hT : ∀ as, HasT P (n + 1) t as = HasT P (n + 1) t as := fun _ => rfl
    have single : ∀ (a : AVal) (v : Value), cs = [v] → Rep (Gh.all w) a v → Flat1 a → ∀ Q : List AVal → Prop, Q [a] → ∃ as : List AVal, Reps (Gh.all w) as cs ∧ Q as ∧ ∀ c, c ∈ as → Flat1 c := by
      rintro a v rfl hr hf Q hQ
      exact ⟨[a], Reps.cons hr (Reps.nil _), hQ, by simpa using hf⟩
    split at hpt
    · rename_i hu
      obtain ⟨b, hc, _⟩ := DataW.trod_bool hu h
      simp only [HasT, hu]
      exact single (.bool b) _ hc (.bool b) ⟨rfl, rfl⟩ _ ⟨b, rfl⟩
    · rename_i k hu
      obtain ⟨i, hc, _, hw⟩ := DataW.trod_int hu h
      simp only [HasT, hu]
      exact single (.int k i) _ hc (.int k i) ⟨rfl, rfl⟩ _ ⟨i, hw, rfl⟩
    · rename_i hu
      obtain ⟨s, hc, _, hl⟩ := DataW.trod_string hu h
      simp only [HasT, hu]
      refine single (.str s.data.toList) _ hc ?_ ⟨rfl, rfl⟩ _ ⟨s.data.toList, by rw [Array.length_toList]; exact hl, rfl⟩
      have := Rep.str (Γ := Gh.all w) s.data.toList
      simpa using this
    · rename_i e hu
      simp only [Bool.and_eq_true] at hpt
      have hz : 1 ≤ P.cellsOf e := Nat.le_of_ble_eq_true hpt.2
      have he : e ∈ ts := by simpa using hpt.1
      simp only [HasT, hu]
      rcases DataW.trod_slice hu h with ⟨hc, _⟩ | ⟨a, len, cap, elems, rest, m, hm, hc, _, _, hlc, hmax, hel, hget, _, _⟩
      · exact single (.lst [] false) _ hc (.lstN false) ⟨rfl, rfl⟩ _ ⟨[], by simp, rfl, by simp⟩
      · cases hm
        have each : ∀ i, i < len → ∃ p : List AVal, ∃ ds : List Value, p.length = P.cellsOf e ∧ Reps (Gh.all w) p ds ∧ HasT P n e p ∧ (∀ c, c ∈ p → Flat1 c) ∧ ∀ j, j < P.cellsOf e → w.cell? ((a.add (i * P.cellsOf e)).add j) = ds[j]? := by
          intro i hi
          have h1 := hget i hi
          have hx : elems[i]? = some elems[i] := List.getElem?_eq_getElem (by omega)
          rw [hx] at h1
          obtain ⟨cs', hc1, hc2⟩ := Option.bind_eq_some_iff.1 h1
          obtain ⟨p, h2, h3, h4⟩ := ih e cs' elems[i] he hc2
          obtain ⟨_, hl, hcell⟩ := World.cells?_some hc1
          exact ⟨p, cs', by rw [← h2.1, hl], h2, h3, h4, hcell⟩
        obtain ⟨parts, hpl, hpe⟩ := build len each
        rcases Nat.eq_zero_or_pos len with hl0 | hpos
        · subst hl0
          exact single (.lst [] false) _ hc (.lstE (by simp)) ⟨rfl, rfl⟩ _ ⟨[], by simp, rfl, by simp⟩
        · obtain ⟨blk, off, spot⟩ := a
          have hspot : spot = none := by
            obtain ⟨p, ds, q1, q2, _, _, q3⟩ := each 0 hpos
            have h0 := q3 0 hz
            rw [Nat.zero_mul, Addr.add_zero', Addr.add_zero'] at h0
            cases hx : ds[0]? with
            | none => have := (List.getElem?_eq_none_iff.1 hx); have := q2.1; omega
            | some v => rw [hx] at h0; exact World.cell?_spot h0
          subst hspot
          refine single (.lst (parts.map (mkEl (aggB P e))) false) _ hc ?_ ⟨?_, rfl⟩ _ ⟨parts.map (mkEl (aggB P e)), by simpa [hpl] using Nat.le_trans hlc hmax, rfl, ?_⟩
          · have hfl : ∀ p, p ∈ parts → (mkEl (aggB P e) p).flat = p := by
              intro p hp1
              obtain ⟨i, hi⟩ := List.getElem?_of_mem hp1
              obtain ⟨ds, q1, q2, q3, q4, q5⟩ := hpe i p hi
              exact mkEl_flat hp he q3 q4
            have hlens : ∀ p, p ∈ parts → p.length = P.cellsOf e := by
              intro p hp1
              obtain ⟨i, hi⟩ := List.getElem?_of_mem hp1
              obtain ⟨ds, q1, _⟩ := hpe i p hi
              exact q1
            have hall : ∀ (j : Nat) (c : AVal), parts.flatten[j]? = some c → ∃ d, w.cell? ⟨blk, off + j, none⟩ = some d ∧ Rep (Gh.all w) c d ∧ Flat1 c := by
              intro j c hj
              obtain ⟨p, hp1, hp2⟩ := flatten_get hz hlens hj
              obtain ⟨ds, q1, q2, q3, q4, q5⟩ := hpe _ p hp1
              obtain ⟨d, hd, hr⟩ := q2.get hp2
              refine ⟨d, ?_, hr, q4 c (List.mem_of_getElem? hp2)⟩
              have h6 := q5 (j % P.cellsOf e) (Nat.mod_lt _ hz)
              rw [Addr.add_lit, Addr.add_lit] at h6
              rw [← hd, ← h6]
              congr 2
              rw [Nat.add_assoc, Nat.mul_comm, Nat.div_add_mod]
            have hflat : flatL (parts.map (mkEl (aggB P e))) = parts.flatten := flatL_mkEl hfl
            have hlen2 : (parts.map (mkEl (aggB P e))).length = len := by simp [hpl]
            have key := Rep.lst (Γ := Gh.all w) (xs := parts.map (mkEl (aggB P e))) (e := false) (g := blk) (off := off) (cap := cap) (es := P.cellsOf e) (fun j => (w.cell? ⟨blk, off + j, none⟩).getD undef) (by omega) (by simp) ?_ ?_ ?_ ?_ ?_
            · rw [hlen2] at key; exact key
            · intro x hx
              obtain ⟨p, hp1, rfl⟩ := List.mem_map.1 hx
              simp only [AVal.width, hfl p hp1, hlens p hp1]
            · intro x hx
              obtain ⟨p, hp1, rfl⟩ := List.mem_map.1 hx
              obtain ⟨i, hi⟩ := List.getElem?_of_mem hp1
              obtain ⟨ds, q1, q2, q3, q4, q5⟩ := hpe i p hi
              exact mkEl_rfree (fun c hc => (q4 c hc).1)
            · intro j c hj
              rw [hflat] at hj
              obtain ⟨d, h1, h2, h3⟩ := hall j c hj
              simp only [Gh.all, h1, Option.getD_some]
            · intro j c hj
              rw [hflat] at hj
              obtain ⟨d, h1, h2, h3⟩ := hall j c hj
              simp only [h1, Option.getD_some]
              exact h3.one h2
            · intro j c hj
              rw [hflat] at hj
              obtain ⟨d, h1, h2, h3⟩ := hall j c hj
              simp only [h1, Option.getD_some]
              exact h2
          · rfl
          · intro x hx
            obtain ⟨p, hp1, rfl⟩ := List.mem_map.1 hx
            obtain ⟨i, hi⟩ := List.getElem?_of_mem hp1
            obtain ⟨ds, q1, q2, q3, q4, q5⟩ := hpe i p hi
            have hf := mkEl_flat hp he q3 q4
            refine ⟨by rw [hf]; exact q3, ?_, ?_⟩
            · intro h; exact ⟨p, by rw [h]; rfl⟩
            · intro h
              rw [hf]
              obtain ⟨c, hc1⟩ := HasT_single hp he h q3
              rw [hc1, h]; rfl
    · rename_i fs hu
      simp only [Bool.and_eq_true] at hpt
      simp only [HasT, hu]
      obtain ⟨xs, m, hm, _, hlen, hxl, hget⟩ := DataW.trod_struct hu h
      cases hm
      have each : ∀ i, i < fs.size → ∃ p : List AVal, ∀ f, fs[i]? = some f → Reps (Gh.all w) p ((cs.drop f.offset).take (P.cellsOf f.type)) ∧ HasT P n f.type p ∧ ∀ c, c ∈ p → Flat1 c := by
        intro i hi
        have hfi : fs[i]? = some fs[i] := Array.getElem?_eq_getElem hi
        have hx : xs[i]? = some xs[i] := List.getElem?_eq_getElem (by omega)
        have hmem : fs[i].type ∈ ts := by
          have := List.all_eq_true.1 hpt.2 fs[i] (by simp)
          simpa using this
        obtain ⟨p, h1, h2, h3⟩ := ih fs[i].type _ xs[i] hmem (by rw [hget i _ hfi, hx])
        exact ⟨p, fun f hf => by rw [hfi] at hf; cases hf; exact ⟨h1, h2, h3⟩⟩
      obtain ⟨parts, hpl, hpe⟩ := build fs.size each
      refine ⟨parts.flatten, ?_, ⟨parts, hpl, rfl, fun i f p hf hp => ((hpe i p hp) f hf).2.1⟩, ?_⟩
      · have := contig_parts (cs := cs) hpt.1 hlen
        rw [List.drop_zero] at this
        rw [← this]
        refine reps_flatten_parts (by simp [hpl]) ?_
        intro i p c h1 h2
        rw [List.getElem?_map, Option.map_eq_some_iff] at h2
        obtain ⟨f, hf, rfl⟩ := h2
        exact ((hpe i p h1) f (by simpa using hf)).1
      · intro c hc
        obtain ⟨p, hp1, hp2⟩ := List.mem_flatten.1 hc
        obtain ⟨i, hi⟩ := List.getElem?_of_mem hp1
        have hlt : i < fs.size := by rw [← hpl]; exact (List.getElem?_eq_some_iff.1 hi).1
        exact ((hpe i p hi) fs[i] (Array.getElem?_eq_getElem hlt)).2.2 c hp2
    · rename_i m e hu
      simp only [Bool.and_eq_true] at hpt
      simp only [HasT, hu]
      have he : e ∈ ts := by simpa using hpt.1
      have hsz := Nat.eq_of_beq_eq_true hpt.2
      obtain ⟨xs, k, hm, _, hlen, hxl, hget⟩ := DataW.trod_array hu h
      cases hm
      have each : ∀ i, i < m → ∃ p : List AVal, Reps (Gh.all w) p ((cs.drop (i * P.cellsOf e)).take (P.cellsOf e)) ∧ HasT P n e p ∧ ∀ c, c ∈ p → Flat1 c := by
        intro i hi
        have hx : xs[i]? = some xs[i] := List.getElem?_eq_getElem (by omega)
        exact ih e _ xs[i] he (by rw [hget i hi, hx])
      obtain ⟨parts, hpl, hpe⟩ := build m each
      refine ⟨parts.flatten, ?_, ⟨parts, hpl, rfl, ?_⟩, ?_⟩
      · have := array_parts (z := P.cellsOf e) (m := m) (cs := cs) (by omega)
        rw [← this]
        refine reps_flatten_parts (by simp [hpl]) ?_
        intro i p c h1 h2
        rw [List.getElem?_map, Option.map_eq_some_iff] at h2
        obtain ⟨j, hj, rfl⟩ := h2
        have hji : j = i := by
          have := List.getElem?_eq_some_iff.1 hj
          obtain ⟨hj1, hj2⟩ := this
          simp at hj2; omega
        subst hji
        exact (hpe j p h1).1
      · intro p hp1
        obtain ⟨i, hi⟩ := List.getElem?_of_mem hp1
        exact (hpe i p hi).2.1
      · intro c hc
        obtain ⟨p, hp1, hp2⟩ := List.mem_flatten.1 hc
        obtain ⟨i, hi⟩ := List.getElem?_of_mem hp1
        exact (hpe i p hi).2.2 c hp2
    · rename_i e hu
      simp only [Bool.and_eq_true] at hpt
      simp only [HasT, hu]
      have hz : 1 ≤ P.cellsOf e := Nat.le_of_ble_eq_true hpt.2
      have he : e ∈ ts := by simpa using hpt.1
      rcases DataW.trod_pointer hu h with ⟨hc, _⟩ | ⟨a, cs', y, m, hm, hc, _, hcells, hy⟩
      · exact single .nilp _ hc .nilp ⟨rfl, rfl⟩ _ (.inl rfl)
      · cases hm
        obtain ⟨p, h1, h2, h3⟩ := ih e cs' y he hy
        obtain ⟨hb, hl, hcell⟩ := World.cells?_some hcells
        have hspot : a.spot = none := by
          have h0 := hcell 0 (by omega)
          rw [Addr.add_zero'] at h0
          cases hx : cs'[0]? with
          | none => have := (List.getElem?_eq_none_iff.1 hx); omega
          | some v => rw [hx] at h0; exact World.cell?_spot h0
        obtain ⟨blk, off, spot⟩ := a
        simp only at hspot
        subst hspot
        refine single (.ro p) _ hc ?_ ⟨rfl, rfl⟩ _ (.inr ⟨p, rfl, h2⟩)
        have hd : ∀ (j : Nat) (c : AVal), p[j]? = some c → ∃ d, cs'[j]? = some d ∧ Rep (Gh.all w) c d ∧ w.cell? ⟨blk, off + j, none⟩ = some d := by
          intro j c hj
          obtain ⟨d, hd, hr⟩ := h1.get hj
          have hlt := (List.getElem?_eq_some_iff.1 hd).1
          refine ⟨d, hd, hr, ?_⟩
          have := hcell j (by omega)
          rw [Addr.add_lit] at this
          rw [this]; exact hd
        refine .ro (fun j => cs'.getD j undef) (fun c hc => (h3 c hc).1) ?_ ?_ ?_
        · intro j c hj
          obtain ⟨d, hd1, hr, hd2⟩ := hd j c hj
          simp only [Gh.all, hd2, List.getD, hd1, Option.getD_some]
        · intro j c hj
          obtain ⟨d, hd1, hr, hd2⟩ := hd j c hj
          simp only [List.getD, hd1, Option.getD_some]
          exact (h3 c (List.mem_of_getElem? hj)).one hr
        · intro j c hj
          obtain ⟨d, hd1, hr, hd2⟩ := hd j c hj
          simp only [List.getD, hd1, Option.getD_some]
          exact hr
    · cases hpt
end
section
variable {H : Type} {enc : TypeId × Value → H} {P : Program} {w : World}
theorem plain_cell {ts : List TypeId} (hp : plainTs P ts = true) {t : TypeId} {v : Value} {base : Nat} (ht : t ∈ ts) (ha : aggB P t = some false) (hok : Value.okWide P w .any base t v) : v.cells.toList = [v] := by
  have hpt := List.all_eq_true.1 hp t ht
  cases v <;> first | rfl | skip
  exfalso
  unfold aggB at ha
  unfold plainT at hpt
  unfold Value.okWide Cell.okWide Cell.ok at hok
  cases hu : P.underlying t with
  | none => rw [hu] at ha; cases ha
  | some u => rw [hu] at ha hpt hok; cases u <;> simp_all
theorem arg_has {ts : List TypeId} (hp : plainTs P ts = true) {t : TypeId} {v : Value} {d : DataW H} {ps : List MemPlace} {base : Nat} (ht : t ∈ ts) (hok : Value.okWide P w .any base t v)
    (h : DataW.Trod enc P w 0 (fun _ => true) true t v d ps) : ∃ (n : Nat) (as : List AVal), HasT P n t as ∧ (aggB P t = some true → Rep (Gh.all w) (.agg as) v) ∧ (aggB P t = some false → ∃ c, as = [c] ∧ Rep (Gh.all w) c v) := by
  obtain ⟨n, hf⟩ := h
  obtain ⟨as, h1, h2, h3⟩ := trod_has hp n t _ _ ht hf
  refine ⟨n, as, h2, ?_, ?_⟩
  · intro ha
    have hv : ∃ cs, v = .agg cs := by
      unfold Value.okWide at hok
      unfold aggB at ha
      cases hu : P.underlying t with
      | none => rw [hu] at ha; cases ha
      | some u =>
        rw [hu] at ha hok
        cases u <;> simp only [reduceCtorEq, Option.some.injEq, Bool.false_eq_true] at ha
        · obtain ⟨cs, hcs, _⟩ := hok; exact ⟨cs, hcs⟩
        · obtain ⟨cs, hcs, _⟩ := hok; exact ⟨cs, hcs⟩
    obtain ⟨cs, rfl⟩ := hv
    have e : (Value.agg cs).cells.toList = cs.toList := rfl
    rw [e] at h1
    have := Rep.agg (Γ := Gh.all w) h1.1 h1.2 (fun d hd => by
      obtain ⟨i, hi⟩ := List.getElem?_of_mem hd
      have hlt : i < as.length := by rw [← h1.1]; exact (List.getElem?_eq_some_iff.1 hi).1
      have ha' := List.getElem?_eq_getElem hlt
      exact (h3 _ (List.mem_of_getElem? ha')).one (h1.2 i _ _ ha' hi))
    simpa using this
  · intro ha
    have hc := plain_cell hp ht ha hok
    rw [hc] at h1
    obtain ⟨c, rfl⟩ := HasT_single hp ht ha h2
    exact ⟨c, rfl, h1.2 0 c v rfl rfl⟩
end
end Go.Ev
namespace Go.Ev
set_option linter.unusedVariables false
set_option linter.unusedSimpArgs false
open Go
theorem dec_list {α : Type} {enc : α → AVal} {Q : α → Prop} : ∀ {xs : List AVal}, (∀ x, x ∈ xs → ∃ y, x = enc y ∧ Q y) → ∃ ys : List α, xs = ys.map enc ∧ ∀ y, y ∈ ys → Q y
  | [], _ => ⟨[], rfl, by simp⟩
  | x :: xs, h => by
    obtain ⟨y, rfl, hy⟩ := h x (by simp)
    obtain ⟨ys, rfl, hys⟩ := dec_list (xs := xs) (fun z hz => h z (List.mem_cons_of_mem _ hz))
    exact ⟨y :: ys, rfl, by simpa using ⟨hy, hys⟩⟩
theorem HasT.bool_of {P : Program} {n : Nat} {t : TypeId} {as : List AVal} (hu : P.underlying t = some .bool) (h : HasT P n t as) : ∃ b, as = [.bool b] := by
  cases n with
  | zero => cases h
  | succ n => unfold HasT at h; rw [hu] at h; exact h
theorem HasT.int_of {P : Program} {n : Nat} {t : TypeId} {k : IntKind} {as : List AVal} (hu : P.underlying t = some (.int k)) (h : HasT P n t as) : ∃ i, (Lit.int k i).wf = true ∧ as = [.int k i] := by
  cases n with
  | zero => cases h
  | succ n => unfold HasT at h; rw [hu] at h; exact h
theorem HasT.slice_of {P : Program} {n : Nat} {t e : TypeId} {as : List AVal} (hu : P.underlying t = some (.slice e)) (h : HasT P (n + 1) t as) :
    ∃ xs : List AVal, xs.length ≤ maxLen ∧ as = [.lst xs false] ∧ ∀ x, x ∈ xs → HasT P n e x.flat ∧ (aggB P e = some true → ∃ cs, x = .agg cs) ∧ (aggB P e = some false → x.flat = [x]) := by
  unfold HasT at h; rw [hu] at h; exact h
theorem HasT.struct_of {P : Program} {n : Nat} {t : TypeId} {fs : Array Field} {l : List TypeId} {as : List AVal} (hu : P.underlying t = some (.struct fs)) (hl : fs.toList.map (·.type) = l) (h : HasT P (n + 1) t as) :
    ∃ parts : List (List AVal), parts.length = l.length ∧ as = parts.flatten ∧ ∀ (i : Nat) (u : TypeId) (p : List AVal), l[i]? = some u → parts[i]? = some p → HasT P n u p := by
  unfold HasT at h; rw [hu] at h
  obtain ⟨parts, h1, h2, h3⟩ := h
  refine ⟨parts, by rw [h1, ← hl]; simp, h2, ?_⟩
  intro i u p hu hp
  rw [← hl, List.getElem?_map, Option.map_eq_some_iff] at hu
  obtain ⟨f, hf, rfl⟩ := hu
  exact h3 i f p (by simpa using hf) hp
end Go.Ev
