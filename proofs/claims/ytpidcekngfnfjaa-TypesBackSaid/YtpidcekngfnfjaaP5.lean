/-
  Part 5 of a proof: TypesBack: for every input the law returns true, and what it was given reads behind the call as before. No conditions.
-/
import Derived.Test.YtpidcekngfnfjaaP4
namespace Go.Ev.Seat
set_option linter.unusedVariables false
set_option linter.unusedSimpArgs false
open Go Go.Ev
set_option maxRecDepth 20000
attribute [local irreducible] pcall callF
noncomputable def g_types_All : Option Ty :=
  some (Ty.mk true 0 0 [] 0 [])
theorem g_types_All_ok {r : Ty} (hr : g_types_All = some r) : PRes (tabOf tabL) 27 [] (.agg (cT r)) := by
  refine pres_fin t27 ?_
  unfold g_types_All at hr
  refine L_seq ?_
  refine L_reg ?_
  refine G_n (B := .cells [.bool false, .int .i64 0, .int .i64 0, .lst [] true, .int .i64 0, .lst [] true]) rfl rfl rfl ?_
  refine G_nil ?_
  refine L_seq ?_
  refine L_pruneH (e' := [(0, .ptr 0 0)]) (H1 := [.cells [.bool false, .int .i64 0, .int .i64 0, .lst [] true, .int .i64 0, .lst [] true]]) (by repeat (first | exact rzz | apply rcc rfl | apply rnn rfl)) rfl ?_
  refine L_seq ?_
  refine L_reg ?_
  refine G_p (v := .agg [.bool true, .int .i64 0, .int .i64 0, .lst [] true, .int .i64 0, .lst [] true]) rfl rfl rfl ?_
  refine G_hn (H' := [.cells [.bool true, .int .i64 0, .int .i64 0, .lst [] true, .int .i64 0, .lst [] true]]) rfl rfl rfl (fun _ => rfl) ?_
  refine G_nil ?_
  refine L_ret ?_
  have hr := some_s hr
  subst hr
  exact ⟨_, rfl, _, rfl, rfl⟩
noncomputable def g_types_Flat (tags1 : Int) : Option Ty :=
  some (Ty.mk false (andB .i64 tags1 63) 0 [] 0 [])
theorem g_types_Flat_ok {tags1 : Int} {r : Ty} (hr : g_types_Flat tags1 = some r) : PRes (tabOf tabL) 22 [.int .i64 tags1] (.agg (cT r)) := by
  refine pres_fin t22 ?_
  unfold g_types_Flat at hr
  refine L_seq ?_
  refine L_reg ?_
  refine G_n (B := .cells [.bool false, .int .i64 0, .int .i64 0, .lst [] true, .int .i64 0, .lst [] true]) rfl rfl rfl ?_
  refine G_nil ?_
  refine L_seq ?_
  refine L_pruneH (e' := [(0, .int .i64 tags1), (2, .ptr 0 0)]) (H1 := [.cells [.bool false, .int .i64 0, .int .i64 0, .lst [] true, .int .i64 0, .lst [] true]]) (by repeat (first | exact rzz | apply rcc rfl | apply rnn rfl)) rfl ?_
  refine L_seq ?_
  refine L_reg ?_
  refine G_p rfl rfl rfl ?_
  refine G_p rfl rfl rfl ?_
  refine G_p (v := .agg [.bool false, .int .i64 (andB .i64 tags1 63), .int .i64 0, .lst [] true, .int .i64 0, .lst [] true]) rfl rfl rfl ?_
  refine G_hn (H' := [.cells [.bool false, .int .i64 (andB .i64 tags1 63), .int .i64 0, .lst [] true, .int .i64 0, .lst [] true]]) rfl rfl rfl (fun _ => rfl) ?_
  refine G_nil ?_
  refine L_ret ?_
  have hr := some_s hr
  subst hr
  exact ⟨_, rfl, _, rfl, rfl⟩
noncomputable def g_types_Pair (a1 : Ty) (b2 : Ty) : Option Ty :=
  some (Ty.mk false 0 1 [a1, b2] 0 [])
abbrev kg01 (a1 : Ty) : ABlock := .cells [.bool a1.all, .int .i64 a1.flat, .int .i64 a1.pair, .lst (List.map encT a1.pairs) false, .int .i64 a1.fn, .lst (List.map encT a1.funs) false]
abbrev kg02 (b2 : Ty) : ABlock := .cells [.bool b2.all, .int .i64 b2.flat, .int .i64 b2.pair, .lst (List.map encT b2.pairs) false, .int .i64 b2.fn, .lst (List.map encT b2.funs) false]
theorem g_types_Pair_ok {a1 : Ty} {b2 : Ty} {r : Ty} (hr : g_types_Pair a1 b2 = some r) : PRes (tabOf tabL) 25 [.agg (cT a1), .agg (cT b2)] (.agg (cT r)) := by
  refine pres_fin t25 ?_
  unfold g_types_Pair at hr
  refine L_seq ?_
  refine L_reg ?_
  refine G_n (B := (kg01 a1)) rfl rfl rfl ?_
  refine G_n (B := (kg02 b2)) rfl rfl rfl ?_
  refine G_n (B := .cells [.bool false, .int .i64 0, .int .i64 0, .lst [] true, .int .i64 0, .lst [] true]) rfl rfl rfl ?_
  refine G_nil ?_
  refine L_seq ?_
  refine L_pruneH (e' := [(2, .ptr 0 0), (3, .ptr 1 0), (4, .ptr 2 0)]) (H1 := [(kg01 a1), (kg02 b2), .cells [.bool false, .int .i64 0, .int .i64 0, .lst [] true, .int .i64 0, .lst [] true]]) (by repeat (first | exact rzz | apply rcc rfl | apply rnn rfl)) rfl ?_
  refine L_seq ?_
  refine L_reg ?_
  refine G_h (v := .agg (cT a1)) rfl rfl rfl (fun _ => rfl) ?_
  refine G_h (v := .agg (cT b2)) rfl rfl rfl (fun _ => rfl) ?_
  refine G_h (v := .lst (List.map encT [a1, b2]) true) rfl rfl rfl (fun _ => Eq.trans (b := some (Ex.ok (AVal.lst [.agg (cT a1), .agg (cT b2)] true), _)) rfl (congrArg (fun z => some (Ex.ok (AVal.lst z true), _)) (by first | rfl | (simp only [List.map_cons, List.map_nil, encT_eq] <;> rfl)))) ?_
  refine G_p (v := .agg [.bool false, .int .i64 0, .int .i64 1, .lst (List.map encT [a1, b2]) true, .int .i64 0, .lst [] true]) rfl rfl rfl ?_
  refine G_hn (H' := [(kg01 a1), (kg02 b2), .cells [.bool false, .int .i64 0, .int .i64 1, .lst (List.map encT [a1, b2]) true, .int .i64 0, .lst [] true]]) rfl rfl rfl (fun _ => rfl) ?_
  refine G_nil ?_
  refine L_ret ?_
  have hr := some_s hr
  subst hr
  exact ⟨_, rfl, _, rfl, rfl⟩
noncomputable def g_types_ListOf (t1 : Ty) : Option Ty :=
  some (Ty.mk false 16 2 [t1] 0 [])
abbrev kg03 (t1 : Ty) : ABlock := .cells [.bool t1.all, .int .i64 t1.flat, .int .i64 t1.pair, .lst (List.map encT t1.pairs) false, .int .i64 t1.fn, .lst (List.map encT t1.funs) false]
theorem g_types_ListOf_ok {t1 : Ty} {r : Ty} (hr : g_types_ListOf t1 = some r) : PRes (tabOf tabL) 23 [.agg (cT t1)] (.agg (cT r)) := by
  refine pres_fin t23 ?_
  unfold g_types_ListOf at hr
  refine L_seq ?_
  refine L_reg ?_
  refine G_n (B := (kg03 t1)) rfl rfl rfl ?_
  refine G_n (B := .cells [.bool false, .int .i64 0, .int .i64 0, .lst [] true, .int .i64 0, .lst [] true]) rfl rfl rfl ?_
  refine G_nil ?_
  refine L_seq ?_
  refine L_pruneH (e' := [(1, .ptr 0 0), (2, .ptr 1 0)]) (H1 := [(kg03 t1), .cells [.bool false, .int .i64 0, .int .i64 0, .lst [] true, .int .i64 0, .lst [] true]]) (by repeat (first | exact rzz | apply rcc rfl | apply rnn rfl)) rfl ?_
  refine L_seq ?_
  refine L_reg ?_
  refine G_h (v := .agg (cT t1)) rfl rfl rfl (fun _ => rfl) ?_
  refine G_h (v := .lst (List.map encT [t1]) true) rfl rfl rfl (fun _ => Eq.trans (b := some (Ex.ok (AVal.lst [.agg (cT t1)] true), _)) rfl (congrArg (fun z => some (Ex.ok (AVal.lst z true), _)) (by first | rfl | (simp only [List.map_cons, List.map_nil, encT_eq] <;> rfl)))) ?_
  refine G_p (v := .agg [.bool false, .int .i64 16, .int .i64 2, .lst (List.map encT [t1]) true, .int .i64 0, .lst [] true]) rfl rfl rfl ?_
  refine G_hn (H' := [(kg03 t1), .cells [.bool false, .int .i64 16, .int .i64 2, .lst (List.map encT [t1]) true, .int .i64 0, .lst [] true]]) rfl rfl rfl (fun _ => rfl) ?_
  refine G_nil ?_
  refine L_ret ?_
  have hr := some_s hr
  subst hr
  exact ⟨_, rfl, _, rfl, rfl⟩
noncomputable def g_xword_slices_Index___string_string__1_j1 : Option Int :=
  some (-1)
noncomputable def g_xword_slices_Index___string_string__1 (v5 : List UInt8) : Option Int :=
  (cond (v5 == ([73, 110, 116] : List UInt8)) (some 0) (cond (v5 == ([66, 111, 111, 108] : List UInt8)) (some 1) (cond (v5 == ([83, 116, 114] : List UInt8)) (some 2) (cond (v5 == ([83, 121, 109] : List UInt8)) (some 3) (cond (v5 == ([78, 117, 108, 108] : List UInt8)) (some 4) (cond (v5 == ([86, 111, 105, 100] : List UInt8)) (some 5) g_xword_slices_Index___string_string__1_j1))))))
abbrev kg04 : ABlock := .cells [.str ([73, 110, 116] : List UInt8), .str ([66, 111, 111, 108] : List UInt8), .str ([83, 116, 114] : List UInt8), .str ([83, 121, 109] : List UInt8), .str ([78, 117, 108, 108] : List UInt8), .str ([86, 111, 105, 100] : List UInt8)]
abbrev kg05 : ABlock := .cells [.bool false, .int .i64 0, .int .i64 0, .lst [] true, .int .i64 0, .lst [] true]
abbrev kg06 (v5 : List UInt8) : List (Nat × AVal) := [(0, .sl 1 0 6 6 none), (1, .str v5), (7, .int .i64 6), (8, .int .i64 0)]
theorem g_xword_slices_Index___string_string__1_ok {v5 : List UInt8} {r : Int} (hr : g_xword_slices_Index___string_string__1 v5 = some r) : CA (tabOf tabL) false 52 [.sl 1 0 6 6 none, .str v5] [kg05, kg04] (.int .i64 r) [kg05, kg04] := by
  refine ca_fin t52 (Or.inr rfl) ?_
  unfold g_xword_slices_Index___string_string__1 at hr
  refine L_seq ?_
  refine L_stmt ?_
  refine L_reg ?_
  refine G_p rfl rfl rfl ?_
  refine G_nil ?_
  refine L_nil ?_
  refine Sm_norm (e2 := [(0, .sl 1 0 6 6 none), (1, .str v5)]) (H1 := [kg05, kg04]) (H2 := [kg05, kg04]) rfl (by repeat (first | exact rzz | apply rcc rfl | apply rnn rfl)) rfl (?_ : GL _ _ _ _ _)
  refine L_seq ?_
  refine L_stmtJ (S := Unit) (fun s => []) (fun s => [kg05, kg04]) (fun s => g_xword_slices_Index___string_string__1_j1 = some r) ?_ ?_
  · skip
    refine L_seq ?_
    refine L_stmt ?_
    refine L_reg ?_
    refine G_p rfl rfl rfl ?_
    refine G_h rfl rfl rfl (fun _ => rfl) ?_
    refine G_p rfl rfl rfl ?_
    refine G_nil ?_
    refine L_nil ?_
    refine Sm_norm (e2 := (kg06 v5)) (H1 := [kg05, kg04]) (H2 := [kg05, kg04]) rfl (by repeat (first | exact rzz | apply rcc rfl | apply rnn rfl)) rfl (?_ : GL _ _ _ _ _)
    refine L_block ?_
    refine L_loop ?_
    refine L_round (e1 := [(8, .int .i64 0), (0, .sl 1 0 6 6 none), (1, .str v5), (7, .int .i64 6)]) (H1 := [kg05, kg04]) (by repeat (first | exact rzz | apply rcc rfl | apply rnn rfl)) rfl ?_
    refine L_seq ?_
    refine L_stmt ?_
    refine L_reg ?_
    refine G_p rfl rfl rfl ?_
    refine G_nil ?_
    refine L_nil ?_
    refine Sm_norm (e2 := [(0, .sl 1 0 6 6 none), (1, .str v5), (7, .int .i64 6), (8, .int .i64 0), (9, .bool true)]) (H1 := [kg05, kg04]) (H2 := [kg05, kg04]) rfl (by repeat (first | exact rzz | apply rcc rfl | apply rnn rfl)) rfl (?_ : GL _ _ _ _ _)
    refine L_seq ?_
    refine L_stmt ?_
    refine L_T rfl rfl ?_
    refine L_skip ?_
    refine L_nil ?_
    refine Sm_norm (e2 := (kg06 v5)) (H1 := [kg05, kg04]) (H2 := [kg05, kg04]) rfl (by repeat (first | exact rzz | apply rcc rfl | apply rnn rfl)) rfl (?_ : GL _ _ _ _ _)
    refine L_seq ?_
    refine L_stmt ?_
    refine L_block ?_
    refine L_seq ?_
    refine L_stmt ?_
    refine L_reg ?_
    refine G_p rfl rfl rfl ?_
    refine G_p rfl rfl rfl ?_
    refine G_nil ?_
    refine L_nil ?_
    refine Sm_norm (e2 := [(0, .sl 1 0 6 6 none), (1, .str v5), (5, .int .i64 0), (7, .int .i64 6), (8, .int .i64 0)]) (H1 := [kg05, kg04]) (H2 := [kg05, kg04]) rfl (by repeat (first | exact rzz | apply rcc rfl | apply rnn rfl)) rfl (?_ : GL _ _ _ _ _)
    refine L_seq ?_
    refine L_stmt ?_
    refine L_reg ?_
    refine G_p rfl rfl rfl ?_
    refine G_p rfl rfl rfl ?_
    refine G_p rfl rfl rfl ?_
    refine G_h rfl rfl rfl (fun _ => rfl) ?_
    refine G_h rfl rfl rfl (fun _ => rfl) ?_
    refine G_p rfl rfl rfl ?_
    refine G_nil ?_
    refine L_nil ?_
    refine Sm_norm (e2 := [(0, .sl 1 0 6 6 none), (1, .str v5), (5, .int .i64 0), (7, .int .i64 6), (8, .int .i64 0), (16, .bool (v5 == ([73, 110, 116] : List UInt8)))]) (H1 := [kg05, kg04]) (H2 := [kg05, kg04]) rfl (by repeat (first | exact rzz | apply rcc rfl | apply rnn rfl)) rfl (?_ : GL _ _ _ _ _)
    rcases cond_s hr with ⟨hc16, hr⟩ | ⟨hc16, hr⟩
    · refine L_T rfl hc16 ?_
      refine L_seq ?_
      refine L_reg ?_
      refine G_p rfl rfl rfl ?_
      refine G_p rfl rfl rfl ?_
      refine G_nil ?_
      refine L_ret ?_
      refine Blk_ret ?_
      refine Sm_ret ?_
      refine Rd_ret ?_
      refine Blk_ret ?_
      refine Sm_ret ?_
      have hr := some_s hr
      subst hr
      exact ⟨_, rfl, rfl, rfl⟩
    · refine L_F rfl hc16 ?_
      refine L_skip ?_
      refine L_nil ?_
      refine Blk_norm (?_ : GL _ _ _ _ _)
      refine L_nil ?_
      refine Sm_norm (e2 := (kg06 v5)) (H1 := [kg05, kg04]) (H2 := [kg05, kg04]) rfl (by repeat (first | exact rzz | apply rcc rfl | apply rnn rfl)) rfl (?_ : GL _ _ _ _ _)
      refine L_reg ?_
      refine G_p rfl rfl rfl ?_
      refine G_p rfl rfl rfl ?_
      refine G_nil ?_
      refine L_nil ?_
      refine Rd_norm ?_
      refine L_round (e1 := [(8, .int .i64 1), (0, .sl 1 0 6 6 none), (1, .str v5), (7, .int .i64 6)]) (H1 := [kg05, kg04]) (by repeat (first | exact rzz | apply rcc rfl | apply rnn rfl)) rfl ?_
      refine L_seq ?_
      refine L_stmt ?_
      refine L_reg ?_
      refine G_p rfl rfl rfl ?_
      refine G_nil ?_
      refine L_nil ?_
      refine Sm_norm (e2 := [(0, .sl 1 0 6 6 none), (1, .str v5), (7, .int .i64 6), (8, .int .i64 1), (9, .bool true)]) (H1 := [kg05, kg04]) (H2 := [kg05, kg04]) rfl (by repeat (first | exact rzz | apply rcc rfl | apply rnn rfl)) rfl (?_ : GL _ _ _ _ _)
      refine L_seq ?_
      refine L_stmt ?_
      refine L_T rfl rfl ?_
      refine L_skip ?_
      refine L_nil ?_
      refine Sm_norm (e2 := [(0, .sl 1 0 6 6 none), (1, .str v5), (7, .int .i64 6), (8, .int .i64 1)]) (H1 := [kg05, kg04]) (H2 := [kg05, kg04]) rfl (by repeat (first | exact rzz | apply rcc rfl | apply rnn rfl)) rfl (?_ : GL _ _ _ _ _)
      refine L_seq ?_
      refine L_stmt ?_
      refine L_block ?_
      refine L_seq ?_
      refine L_stmt ?_
      refine L_reg ?_
      refine G_p rfl rfl rfl ?_
      refine G_p rfl rfl rfl ?_
      refine G_nil ?_
      refine L_nil ?_
      refine Sm_norm (e2 := [(0, .sl 1 0 6 6 none), (1, .str v5), (5, .int .i64 1), (7, .int .i64 6), (8, .int .i64 1)]) (H1 := [kg05, kg04]) (H2 := [kg05, kg04]) rfl (by repeat (first | exact rzz | apply rcc rfl | apply rnn rfl)) rfl (?_ : GL _ _ _ _ _)
      refine L_seq ?_
      refine L_stmt ?_
      refine L_reg ?_
      refine G_p rfl rfl rfl ?_
      refine G_p rfl rfl rfl ?_
      refine G_p rfl rfl rfl ?_
      refine G_h rfl rfl rfl (fun _ => rfl) ?_
      refine G_h rfl rfl rfl (fun _ => rfl) ?_
      refine G_p rfl rfl rfl ?_
      refine G_nil ?_
      refine L_nil ?_
      refine Sm_norm (e2 := [(0, .sl 1 0 6 6 none), (1, .str v5), (5, .int .i64 1), (7, .int .i64 6), (8, .int .i64 1), (16, .bool (v5 == ([66, 111, 111, 108] : List UInt8)))]) (H1 := [kg05, kg04]) (H2 := [kg05, kg04]) rfl (by repeat (first | exact rzz | apply rcc rfl | apply rnn rfl)) rfl (?_ : GL _ _ _ _ _)
      rcases cond_s hr with ⟨hc16, hr⟩ | ⟨hc16, hr⟩
      · refine L_T rfl hc16 ?_
        refine L_seq ?_
        refine L_reg ?_
        refine G_p rfl rfl rfl ?_
        refine G_p rfl rfl rfl ?_
        refine G_nil ?_
        refine L_ret ?_
        refine Blk_ret ?_
        refine Sm_ret ?_
        refine Rd_ret ?_
        refine Blk_ret ?_
        refine Sm_ret ?_
        have hr := some_s hr
        subst hr
        exact ⟨_, rfl, rfl, rfl⟩
      · refine L_F rfl hc16 ?_
        refine L_skip ?_
        refine L_nil ?_
        refine Blk_norm (?_ : GL _ _ _ _ _)
        refine L_nil ?_
        refine Sm_norm (e2 := [(0, .sl 1 0 6 6 none), (1, .str v5), (7, .int .i64 6), (8, .int .i64 1)]) (H1 := [kg05, kg04]) (H2 := [kg05, kg04]) rfl (by repeat (first | exact rzz | apply rcc rfl | apply rnn rfl)) rfl (?_ : GL _ _ _ _ _)
        refine L_reg ?_
        refine G_p rfl rfl rfl ?_
        refine G_p rfl rfl rfl ?_
        refine G_nil ?_
        refine L_nil ?_
        refine Rd_norm ?_
        refine L_round (e1 := [(8, .int .i64 2), (0, .sl 1 0 6 6 none), (1, .str v5), (7, .int .i64 6)]) (H1 := [kg05, kg04]) (by repeat (first | exact rzz | apply rcc rfl | apply rnn rfl)) rfl ?_
        refine L_seq ?_
        refine L_stmt ?_
        refine L_reg ?_
        refine G_p rfl rfl rfl ?_
        refine G_nil ?_
        refine L_nil ?_
        refine Sm_norm (e2 := [(0, .sl 1 0 6 6 none), (1, .str v5), (7, .int .i64 6), (8, .int .i64 2), (9, .bool true)]) (H1 := [kg05, kg04]) (H2 := [kg05, kg04]) rfl (by repeat (first | exact rzz | apply rcc rfl | apply rnn rfl)) rfl (?_ : GL _ _ _ _ _)
        refine L_seq ?_
        refine L_stmt ?_
        refine L_T rfl rfl ?_
        refine L_skip ?_
        refine L_nil ?_
        refine Sm_norm (e2 := [(0, .sl 1 0 6 6 none), (1, .str v5), (7, .int .i64 6), (8, .int .i64 2)]) (H1 := [kg05, kg04]) (H2 := [kg05, kg04]) rfl (by repeat (first | exact rzz | apply rcc rfl | apply rnn rfl)) rfl (?_ : GL _ _ _ _ _)
        refine L_seq ?_
        refine L_stmt ?_
        refine L_block ?_
        refine L_seq ?_
        refine L_stmt ?_
        refine L_reg ?_
        refine G_p rfl rfl rfl ?_
        refine G_p rfl rfl rfl ?_
        refine G_nil ?_
        refine L_nil ?_
        refine Sm_norm (e2 := [(0, .sl 1 0 6 6 none), (1, .str v5), (5, .int .i64 2), (7, .int .i64 6), (8, .int .i64 2)]) (H1 := [kg05, kg04]) (H2 := [kg05, kg04]) rfl (by repeat (first | exact rzz | apply rcc rfl | apply rnn rfl)) rfl (?_ : GL _ _ _ _ _)
        refine L_seq ?_
        refine L_stmt ?_
        refine L_reg ?_
        refine G_p rfl rfl rfl ?_
        refine G_p rfl rfl rfl ?_
        refine G_p rfl rfl rfl ?_
        refine G_h rfl rfl rfl (fun _ => rfl) ?_
        refine G_h rfl rfl rfl (fun _ => rfl) ?_
        refine G_p rfl rfl rfl ?_
        refine G_nil ?_
        refine L_nil ?_
        refine Sm_norm (e2 := [(0, .sl 1 0 6 6 none), (1, .str v5), (5, .int .i64 2), (7, .int .i64 6), (8, .int .i64 2), (16, .bool (v5 == ([83, 116, 114] : List UInt8)))]) (H1 := [kg05, kg04]) (H2 := [kg05, kg04]) rfl (by repeat (first | exact rzz | apply rcc rfl | apply rnn rfl)) rfl (?_ : GL _ _ _ _ _)
        rcases cond_s hr with ⟨hc16, hr⟩ | ⟨hc16, hr⟩
        · refine L_T rfl hc16 ?_
          refine L_seq ?_
          refine L_reg ?_
          refine G_p rfl rfl rfl ?_
          refine G_p rfl rfl rfl ?_
          refine G_nil ?_
          refine L_ret ?_
          refine Blk_ret ?_
          refine Sm_ret ?_
          refine Rd_ret ?_
          refine Blk_ret ?_
          refine Sm_ret ?_
          have hr := some_s hr
          subst hr
          exact ⟨_, rfl, rfl, rfl⟩
        · refine L_F rfl hc16 ?_
          refine L_skip ?_
          refine L_nil ?_
          refine Blk_norm (?_ : GL _ _ _ _ _)
          refine L_nil ?_
          refine Sm_norm (e2 := [(0, .sl 1 0 6 6 none), (1, .str v5), (7, .int .i64 6), (8, .int .i64 2)]) (H1 := [kg05, kg04]) (H2 := [kg05, kg04]) rfl (by repeat (first | exact rzz | apply rcc rfl | apply rnn rfl)) rfl (?_ : GL _ _ _ _ _)
          refine L_reg ?_
          refine G_p rfl rfl rfl ?_
          refine G_p rfl rfl rfl ?_
          refine G_nil ?_
          refine L_nil ?_
          refine Rd_norm ?_
          refine L_round (e1 := [(8, .int .i64 3), (0, .sl 1 0 6 6 none), (1, .str v5), (7, .int .i64 6)]) (H1 := [kg05, kg04]) (by repeat (first | exact rzz | apply rcc rfl | apply rnn rfl)) rfl ?_
          refine L_seq ?_
          refine L_stmt ?_
          refine L_reg ?_
          refine G_p rfl rfl rfl ?_
          refine G_nil ?_
          refine L_nil ?_
          refine Sm_norm (e2 := [(0, .sl 1 0 6 6 none), (1, .str v5), (7, .int .i64 6), (8, .int .i64 3), (9, .bool true)]) (H1 := [kg05, kg04]) (H2 := [kg05, kg04]) rfl (by repeat (first | exact rzz | apply rcc rfl | apply rnn rfl)) rfl (?_ : GL _ _ _ _ _)
          refine L_seq ?_
          refine L_stmt ?_
          refine L_T rfl rfl ?_
          refine L_skip ?_
          refine L_nil ?_
          refine Sm_norm (e2 := [(0, .sl 1 0 6 6 none), (1, .str v5), (7, .int .i64 6), (8, .int .i64 3)]) (H1 := [kg05, kg04]) (H2 := [kg05, kg04]) rfl (by repeat (first | exact rzz | apply rcc rfl | apply rnn rfl)) rfl (?_ : GL _ _ _ _ _)
          refine L_seq ?_
          refine L_stmt ?_
          refine L_block ?_
          refine L_seq ?_
          refine L_stmt ?_
          refine L_reg ?_
          refine G_p rfl rfl rfl ?_
          refine G_p rfl rfl rfl ?_
          refine G_nil ?_
          refine L_nil ?_
          refine Sm_norm (e2 := [(0, .sl 1 0 6 6 none), (1, .str v5), (5, .int .i64 3), (7, .int .i64 6), (8, .int .i64 3)]) (H1 := [kg05, kg04]) (H2 := [kg05, kg04]) rfl (by repeat (first | exact rzz | apply rcc rfl | apply rnn rfl)) rfl (?_ : GL _ _ _ _ _)
          refine L_seq ?_
          refine L_stmt ?_
          refine L_reg ?_
          refine G_p rfl rfl rfl ?_
          refine G_p rfl rfl rfl ?_
          refine G_p rfl rfl rfl ?_
          refine G_h rfl rfl rfl (fun _ => rfl) ?_
          refine G_h rfl rfl rfl (fun _ => rfl) ?_
          refine G_p rfl rfl rfl ?_
          refine G_nil ?_
          refine L_nil ?_
          refine Sm_norm (e2 := [(0, .sl 1 0 6 6 none), (1, .str v5), (5, .int .i64 3), (7, .int .i64 6), (8, .int .i64 3), (16, .bool (v5 == ([83, 121, 109] : List UInt8)))]) (H1 := [kg05, kg04]) (H2 := [kg05, kg04]) rfl (by repeat (first | exact rzz | apply rcc rfl | apply rnn rfl)) rfl (?_ : GL _ _ _ _ _)
          rcases cond_s hr with ⟨hc16, hr⟩ | ⟨hc16, hr⟩
          · refine L_T rfl hc16 ?_
            refine L_seq ?_
            refine L_reg ?_
            refine G_p rfl rfl rfl ?_
            refine G_p rfl rfl rfl ?_
            refine G_nil ?_
            refine L_ret ?_
            refine Blk_ret ?_
            refine Sm_ret ?_
            refine Rd_ret ?_
            refine Blk_ret ?_
            refine Sm_ret ?_
            have hr := some_s hr
            subst hr
            exact ⟨_, rfl, rfl, rfl⟩
          · refine L_F rfl hc16 ?_
            refine L_skip ?_
            refine L_nil ?_
            refine Blk_norm (?_ : GL _ _ _ _ _)
            refine L_nil ?_
            refine Sm_norm (e2 := [(0, .sl 1 0 6 6 none), (1, .str v5), (7, .int .i64 6), (8, .int .i64 3)]) (H1 := [kg05, kg04]) (H2 := [kg05, kg04]) rfl (by repeat (first | exact rzz | apply rcc rfl | apply rnn rfl)) rfl (?_ : GL _ _ _ _ _)
            refine L_reg ?_
            refine G_p rfl rfl rfl ?_
            refine G_p rfl rfl rfl ?_
            refine G_nil ?_
            refine L_nil ?_
            refine Rd_norm ?_
            refine L_round (e1 := [(8, .int .i64 4), (0, .sl 1 0 6 6 none), (1, .str v5), (7, .int .i64 6)]) (H1 := [kg05, kg04]) (by repeat (first | exact rzz | apply rcc rfl | apply rnn rfl)) rfl ?_
            refine L_seq ?_
            refine L_stmt ?_
            refine L_reg ?_
            refine G_p rfl rfl rfl ?_
            refine G_nil ?_
            refine L_nil ?_
            refine Sm_norm (e2 := [(0, .sl 1 0 6 6 none), (1, .str v5), (7, .int .i64 6), (8, .int .i64 4), (9, .bool true)]) (H1 := [kg05, kg04]) (H2 := [kg05, kg04]) rfl (by repeat (first | exact rzz | apply rcc rfl | apply rnn rfl)) rfl (?_ : GL _ _ _ _ _)
            refine L_seq ?_
            refine L_stmt ?_
            refine L_T rfl rfl ?_
            refine L_skip ?_
            refine L_nil ?_
            refine Sm_norm (e2 := [(0, .sl 1 0 6 6 none), (1, .str v5), (7, .int .i64 6), (8, .int .i64 4)]) (H1 := [kg05, kg04]) (H2 := [kg05, kg04]) rfl (by repeat (first | exact rzz | apply rcc rfl | apply rnn rfl)) rfl (?_ : GL _ _ _ _ _)
            refine L_seq ?_
            refine L_stmt ?_
            refine L_block ?_
            refine L_seq ?_
            refine L_stmt ?_
            refine L_reg ?_
            refine G_p rfl rfl rfl ?_
            refine G_p rfl rfl rfl ?_
            refine G_nil ?_
            refine L_nil ?_
            refine Sm_norm (e2 := [(0, .sl 1 0 6 6 none), (1, .str v5), (5, .int .i64 4), (7, .int .i64 6), (8, .int .i64 4)]) (H1 := [kg05, kg04]) (H2 := [kg05, kg04]) rfl (by repeat (first | exact rzz | apply rcc rfl | apply rnn rfl)) rfl (?_ : GL _ _ _ _ _)
            refine L_seq ?_
            refine L_stmt ?_
            refine L_reg ?_
            refine G_p rfl rfl rfl ?_
            refine G_p rfl rfl rfl ?_
            refine G_p rfl rfl rfl ?_
            refine G_h rfl rfl rfl (fun _ => rfl) ?_
            refine G_h rfl rfl rfl (fun _ => rfl) ?_
            refine G_p rfl rfl rfl ?_
            refine G_nil ?_
            refine L_nil ?_
            refine Sm_norm (e2 := [(0, .sl 1 0 6 6 none), (1, .str v5), (5, .int .i64 4), (7, .int .i64 6), (8, .int .i64 4), (16, .bool (v5 == ([78, 117, 108, 108] : List UInt8)))]) (H1 := [kg05, kg04]) (H2 := [kg05, kg04]) rfl (by repeat (first | exact rzz | apply rcc rfl | apply rnn rfl)) rfl (?_ : GL _ _ _ _ _)
            rcases cond_s hr with ⟨hc16, hr⟩ | ⟨hc16, hr⟩
            · refine L_T rfl hc16 ?_
              refine L_seq ?_
              refine L_reg ?_
              refine G_p rfl rfl rfl ?_
              refine G_p rfl rfl rfl ?_
              refine G_nil ?_
              refine L_ret ?_
              refine Blk_ret ?_
              refine Sm_ret ?_
              refine Rd_ret ?_
              refine Blk_ret ?_
              refine Sm_ret ?_
              have hr := some_s hr
              subst hr
              exact ⟨_, rfl, rfl, rfl⟩
            · refine L_F rfl hc16 ?_
              refine L_skip ?_
              refine L_nil ?_
              refine Blk_norm (?_ : GL _ _ _ _ _)
              refine L_nil ?_
              refine Sm_norm (e2 := [(0, .sl 1 0 6 6 none), (1, .str v5), (7, .int .i64 6), (8, .int .i64 4)]) (H1 := [kg05, kg04]) (H2 := [kg05, kg04]) rfl (by repeat (first | exact rzz | apply rcc rfl | apply rnn rfl)) rfl (?_ : GL _ _ _ _ _)
              refine L_reg ?_
              refine G_p rfl rfl rfl ?_
              refine G_p rfl rfl rfl ?_
              refine G_nil ?_
              refine L_nil ?_
              refine Rd_norm ?_
              refine L_round (e1 := [(8, .int .i64 5), (0, .sl 1 0 6 6 none), (1, .str v5), (7, .int .i64 6)]) (H1 := [kg05, kg04]) (by repeat (first | exact rzz | apply rcc rfl | apply rnn rfl)) rfl ?_
              refine L_seq ?_
              refine L_stmt ?_
              refine L_reg ?_
              refine G_p rfl rfl rfl ?_
              refine G_nil ?_
              refine L_nil ?_
              refine Sm_norm (e2 := [(0, .sl 1 0 6 6 none), (1, .str v5), (7, .int .i64 6), (8, .int .i64 5), (9, .bool true)]) (H1 := [kg05, kg04]) (H2 := [kg05, kg04]) rfl (by repeat (first | exact rzz | apply rcc rfl | apply rnn rfl)) rfl (?_ : GL _ _ _ _ _)
              refine L_seq ?_
              refine L_stmt ?_
              refine L_T rfl rfl ?_
              refine L_skip ?_
              refine L_nil ?_
              refine Sm_norm (e2 := [(0, .sl 1 0 6 6 none), (1, .str v5), (7, .int .i64 6), (8, .int .i64 5)]) (H1 := [kg05, kg04]) (H2 := [kg05, kg04]) rfl (by repeat (first | exact rzz | apply rcc rfl | apply rnn rfl)) rfl (?_ : GL _ _ _ _ _)
              refine L_seq ?_
              refine L_stmt ?_
              refine L_block ?_
              refine L_seq ?_
              refine L_stmt ?_
              refine L_reg ?_
              refine G_p rfl rfl rfl ?_
              refine G_p rfl rfl rfl ?_
              refine G_nil ?_
              refine L_nil ?_
              refine Sm_norm (e2 := [(0, .sl 1 0 6 6 none), (1, .str v5), (5, .int .i64 5), (7, .int .i64 6), (8, .int .i64 5)]) (H1 := [kg05, kg04]) (H2 := [kg05, kg04]) rfl (by repeat (first | exact rzz | apply rcc rfl | apply rnn rfl)) rfl (?_ : GL _ _ _ _ _)
              refine L_seq ?_
              refine L_stmt ?_
              refine L_reg ?_
              refine G_p rfl rfl rfl ?_
              refine G_p rfl rfl rfl ?_
              refine G_p rfl rfl rfl ?_
              refine G_h rfl rfl rfl (fun _ => rfl) ?_
              refine G_h rfl rfl rfl (fun _ => rfl) ?_
              refine G_p rfl rfl rfl ?_
              refine G_nil ?_
              refine L_nil ?_
              refine Sm_norm (e2 := [(0, .sl 1 0 6 6 none), (1, .str v5), (5, .int .i64 5), (7, .int .i64 6), (8, .int .i64 5), (16, .bool (v5 == ([86, 111, 105, 100] : List UInt8)))]) (H1 := [kg05, kg04]) (H2 := [kg05, kg04]) rfl (by repeat (first | exact rzz | apply rcc rfl | apply rnn rfl)) rfl (?_ : GL _ _ _ _ _)
              rcases cond_s hr with ⟨hc16, hr⟩ | ⟨hc16, hr⟩
              · refine L_T rfl hc16 ?_
                refine L_seq ?_
                refine L_reg ?_
                refine G_p rfl rfl rfl ?_
                refine G_p rfl rfl rfl ?_
                refine G_nil ?_
                refine L_ret ?_
                refine Blk_ret ?_
                refine Sm_ret ?_
                refine Rd_ret ?_
                refine Blk_ret ?_
                refine Sm_ret ?_
                have hr := some_s hr
                subst hr
                exact ⟨_, rfl, rfl, rfl⟩
              · refine L_F rfl hc16 ?_
                refine L_skip ?_
                refine L_nil ?_
                refine Blk_norm (?_ : GL _ _ _ _ _)
                refine L_nil ?_
                refine Sm_norm (e2 := [(0, .sl 1 0 6 6 none), (1, .str v5), (7, .int .i64 6), (8, .int .i64 5)]) (H1 := [kg05, kg04]) (H2 := [kg05, kg04]) rfl (by repeat (first | exact rzz | apply rcc rfl | apply rnn rfl)) rfl (?_ : GL _ _ _ _ _)
                refine L_reg ?_
                refine G_p rfl rfl rfl ?_
                refine G_p rfl rfl rfl ?_
                refine G_nil ?_
                refine L_nil ?_
                refine Rd_norm ?_
                refine L_round (e1 := [(8, .int .i64 6), (0, .sl 1 0 6 6 none), (1, .str v5), (7, .int .i64 6)]) (H1 := [kg05, kg04]) (by repeat (first | exact rzz | apply rcc rfl | apply rnn rfl)) rfl ?_
                refine L_seq ?_
                refine L_stmt ?_
                refine L_reg ?_
                refine G_p rfl rfl rfl ?_
                refine G_nil ?_
                refine L_nil ?_
                refine Sm_norm (e2 := [(0, .sl 1 0 6 6 none), (1, .str v5), (7, .int .i64 6), (8, .int .i64 6), (9, .bool false)]) (H1 := [kg05, kg04]) (H2 := [kg05, kg04]) rfl (by repeat (first | exact rzz | apply rcc rfl | apply rnn rfl)) rfl (?_ : GL _ _ _ _ _)
                refine L_seq ?_
                refine L_stmt ?_
                refine L_F rfl rfl ?_
                refine L_exit ?_
                refine Sm_exit ?_
                refine Rd_exit ?_
                refine Blk_exit (?_ : GL _ _ _ _ _)
                refine L_nil ?_
                exact Sm_norm (e2 := []) (H1 := [kg05, kg04]) (H2 := [kg05, kg04]) rfl (by repeat (first | exact rzz | apply rcc rfl | apply rnn rfl)) rfl ⟨(), rfl, rfl, hr⟩
  · rintro ⟨⟩ hr
    show GL _ _ [] [kg05, kg04] _
    replace hr : g_xword_slices_Index___string_string__1_j1 = some r := hr
    unfold g_xword_slices_Index___string_string__1_j1 at hr
    refine L_seq ?_
    refine L_reg ?_
    refine G_p rfl rfl rfl ?_
    refine G_nil ?_
    refine L_ret ?_
    have hr := some_s hr
    subst hr
    exact ⟨_, rfl, rfl, rfl⟩
noncomputable def g_types_word (s1 : List UInt8) : Option (Ty × Bool) :=
  ((g_xword_slices_Index___string_string__1 s1).bind fun r5 => (cond (decide (0 ≤ r5)) ((shlI .i64 1 r5).bind fun x6 => ((g_types_Flat x6).bind fun r7 => some (r7, true))) (cond (s1 == ([65, 110, 121] : List UInt8)) ((g_types_All).bind fun r9 => some (r9, true)) (cond (s1 == ([80, 114, 111, 99] : List UInt8)) (some ((Ty.mk false 0 0 [] 2 []), true)) (some ((Ty.mk false 0 0 [] 0 []), (s1 == ([78, 111, 116, 104, 105, 110, 103] : List UInt8))))))))
abbrev kg07 : ABlock := .cells [.str ([73, 110, 116] : List UInt8), .str ([66, 111, 111, 108] : List UInt8), .str ([83, 116, 114] : List UInt8), .str ([83, 121, 109] : List UInt8), .str ([78, 117, 108, 108] : List UInt8), .str ([86, 111, 105, 100] : List UInt8)]
abbrev kg08 : ABlock := .cells [.bool false, .int .i64 0, .int .i64 0, .lst [] true, .int .i64 0, .lst [] true]
theorem g_types_word_ok {s1 : List UInt8} {r : Ty × Bool} (hr : g_types_word s1 = some r) : PRes (tabOf tabL) 48 [.str s1] (.tup [.agg (cT r.1), .bool r.2]) := by
  refine pres_fin t48 ?_
  unfold g_types_word at hr
  refine L_seq ?_
  refine L_stmt ?_
  refine L_reg ?_
  refine G_n (B := kg08) rfl rfl rfl ?_
  refine G_p rfl rfl rfl ?_
  refine G_nil ?_
  refine L_nil ?_
  refine Sm_norm (e2 := [(0, .str s1), (2, .ptr 0 0)]) (H1 := [kg08]) (H2 := [kg08]) rfl (by repeat (first | exact rzz | apply rcc rfl | apply rnn rfl)) rfl (?_ : GL _ _ _ _ _)
  refine L_seq ?_
  refine L_stmt ?_
  refine L_reg ?_
  refine G_c 47 rfl rfl (CA_of (as := []) rfl names_ok) ?_
  refine G_n (B := .cells [.str [], .str [], .str [], .str [], .str [], .str []]) rfl rfl rfl ?_
  refine G_hn (H' := [kg08, kg07]) rfl rfl rfl (fun _ => rfl) ?_
  refine G_nil ?_
  refine L_nil ?_
  refine Sm_norm (e2 := [(0, .str s1), (2, .ptr 0 0), (4, .ptr 1 0)]) (H1 := [kg08, kg07]) (H2 := [kg08, kg07]) rfl (by repeat (first | exact rzz | apply rcc rfl | apply rnn rfl)) rfl (?_ : GL _ _ _ _ _)
  refine L_seq ?_
  refine L_stmt ?_
  refine L_seq ?_
  refine L_stmt ?_
  refine L_reg ?_
  refine G_h rfl rfl rfl (fun _ => rfl) ?_
  refine G_p rfl rfl rfl ?_
  obtain ⟨r5, hr5, hr⟩ := bind_s hr
  refine G_c 52 rfl rfl (g_xword_slices_Index___string_string__1_ok hr5) ?_
  refine G_p rfl rfl rfl ?_
  refine G_nil ?_
  refine L_nil ?_
  refine Sm_norm (e2 := [(0, .str s1), (2, .ptr 0 0), (5, .int .i64 r5)]) (H1 := [kg08, kg07]) (H2 := [kg08, kg07]) rfl (by repeat (first | exact rzz | apply rcc rfl | apply rnn rfl)) rfl (?_ : GL _ _ _ _ _)
  refine L_seq ?_
  refine L_stmt ?_
  refine L_reg ?_
  refine G_p rfl rfl rfl ?_
  refine G_p rfl rfl rfl ?_
  refine G_nil ?_
  refine L_nil ?_
  refine Sm_norm (e2 := [(0, .str s1), (2, .ptr 0 0), (5, .int .i64 r5), (11, .bool (decide (0 ≤ r5)))]) (H1 := [kg08, kg07]) (H2 := [kg08, kg07]) rfl (by repeat (first | exact rzz | apply rcc rfl | apply rnn rfl)) rfl (?_ : GL _ _ _ _ _)
  rcases cond_s hr with ⟨hc11, hr⟩ | ⟨hc11, hr⟩
  · refine L_T rfl hc11 ?_
    refine L_seq ?_
    refine L_reg ?_
    refine G_p rfl rfl rfl ?_
    obtain ⟨x6, hx6, hr⟩ := bind_s hr
    refine G_p rfl rfl (evP_shl rfl rfl hx6) ?_
    obtain ⟨r7, hr7, hr⟩ := bind_s hr
    refine G_c 22 rfl rfl (CA_of (as := [.int .i64 x6]) rfl (g_types_Flat_ok hr7)) ?_
    refine G_hn (H' := [.cells [.bool r7.all, .int .i64 r7.flat, .int .i64 r7.pair, .lst (List.map encT r7.pairs) false, .int .i64 r7.fn, .lst (List.map encT r7.funs) false], kg07]) rfl rfl rfl (fun _ => rfl) ?_
    refine G_p rfl rfl rfl ?_
    refine G_nil ?_
    refine L_ret ?_
    refine Sm_ret ?_
    have hr := some_s hr
    subst hr
    exact ⟨_, rfl, _, rfl, rfl⟩
  · refine L_F rfl hc11 ?_
    refine L_skip ?_
    refine L_nil ?_
    refine Sm_norm (e2 := [(0, .str s1), (2, .ptr 0 0)]) (H1 := [kg08, kg07]) (H2 := [kg08, kg07]) rfl (by repeat (first | exact rzz | apply rcc rfl | apply rnn rfl)) rfl (?_ : GL _ _ _ _ _)
    refine L_seq ?_
    refine L_stmt ?_
    refine L_seq ?_
    refine L_stmt ?_
    refine L_reg ?_
    refine G_p rfl rfl rfl ?_
    refine G_nil ?_
    refine L_nil ?_
    refine Sm_norm (e2 := [(0, .str s1), (2, .ptr 0 0), (15, .str s1)]) (H1 := [kg08, kg07]) (H2 := [kg08, kg07]) rfl (by repeat (first | exact rzz | apply rcc rfl | apply rnn rfl)) rfl (?_ : GL _ _ _ _ _)
    refine L_block ?_
    refine L_seq ?_
    refine L_stmt ?_
    refine L_reg ?_
    refine G_p rfl rfl rfl ?_
    refine G_p rfl rfl rfl ?_
    refine G_nil ?_
    refine L_nil ?_
    refine Sm_norm (e2 := [(0, .str s1), (2, .ptr 0 0), (15, .str s1), (16, .bool (s1 == ([65, 110, 121] : List UInt8)))]) (H1 := [kg08, kg07]) (H2 := [kg08, kg07]) rfl (by repeat (first | exact rzz | apply rcc rfl | apply rnn rfl)) rfl (?_ : GL _ _ _ _ _)
    rcases cond_s hr with ⟨hc16, hr⟩ | ⟨hc16, hr⟩
    · refine L_T rfl hc16 ?_
      refine L_seq ?_
      refine L_reg ?_
      obtain ⟨r9, hr9, hr⟩ := bind_s hr
      refine G_c 27 rfl rfl (CA_of (as := []) rfl (g_types_All_ok hr9)) ?_
      refine G_hn (H' := [.cells [.bool r9.all, .int .i64 r9.flat, .int .i64 r9.pair, .lst (List.map encT r9.pairs) false, .int .i64 r9.fn, .lst (List.map encT r9.funs) false], kg07]) rfl rfl rfl (fun _ => rfl) ?_
      refine G_p rfl rfl rfl ?_
      refine G_nil ?_
      refine L_ret ?_
      refine Blk_ret ?_
      refine Sm_ret ?_
      have hr := some_s hr
      subst hr
      exact ⟨_, rfl, _, rfl, rfl⟩
    · refine L_F rfl hc16 ?_
      refine L_seq ?_
      refine L_stmt ?_
      refine L_reg ?_
      refine G_p rfl rfl rfl ?_
      refine G_p rfl rfl rfl ?_
      refine G_nil ?_
      refine L_nil ?_
      refine Sm_norm (e2 := [(0, .str s1), (2, .ptr 0 0), (19, .bool (s1 == ([80, 114, 111, 99] : List UInt8)))]) (H1 := [kg08, kg07]) (H2 := [kg08, kg07]) rfl (by repeat (first | exact rzz | apply rcc rfl | apply rnn rfl)) rfl (?_ : GL _ _ _ _ _)
      rcases cond_s hr with ⟨hc19, hr⟩ | ⟨hc19, hr⟩
      · refine L_T rfl hc19 ?_
        refine L_seq ?_
        refine L_reg ?_
        refine G_p (v := .agg [.bool false, .int .i64 0, .int .i64 0, .lst [] true, .int .i64 2, .lst [] true]) rfl rfl rfl ?_
        refine G_hn (H' := [.cells [.bool false, .int .i64 0, .int .i64 0, .lst [] true, .int .i64 2, .lst [] true], kg07]) rfl rfl rfl (fun _ => rfl) ?_
        refine G_p rfl rfl rfl ?_
        refine G_nil ?_
        refine L_ret ?_
        refine Blk_ret ?_
        refine Sm_ret ?_
        have hr := some_s hr
        subst hr
        exact ⟨_, rfl, _, rfl, rfl⟩
      · refine L_F rfl hc19 ?_
        refine L_skip ?_
        refine L_nil ?_
        refine Blk_norm (?_ : GL _ _ _ _ _)
        refine L_nil ?_
        refine Sm_norm (e2 := [(0, .str s1), (2, .ptr 0 0)]) (H1 := [kg08, kg07]) (H2 := [kg08, kg07]) rfl (by repeat (first | exact rzz | apply rcc rfl | apply rnn rfl)) rfl (?_ : GL _ _ _ _ _)
        refine L_seq ?_
        refine L_reg ?_
        refine G_p (v := .agg [.bool false, .int .i64 0, .int .i64 0, .lst [] true, .int .i64 0, .lst [] true]) rfl rfl rfl ?_
        refine G_p rfl rfl rfl ?_
        refine G_p rfl rfl rfl ?_
        refine G_hn (H' := [kg08, kg07]) rfl rfl rfl (fun _ => rfl) ?_
        refine G_p rfl rfl rfl ?_
        refine G_nil ?_
        refine L_ret ?_
        have hr := some_s hr
        subst hr
        exact ⟨_, rfl, _, rfl, rfl⟩
noncomputable def g_types_of_j1 : Option (Ty × Bool) :=
  some ((Ty.mk false 0 0 [] 0 []), false)
noncomputable def g_types_of_j2 (b138 : Bool) (a139 : Int) (a140 : Int) (f141 : Bool) (l142 : List Ty) (a143 : Int) (f144 : Bool) (l145 : List Ty) : Option (Ty × Bool) :=
  some ((Ty.mk b138 a139 a140 l142 a143 l145), true)
noncomputable def g_types_of_l3 : List Ty → Nat → Bool → Int → Int → Bool → (List Ty) → Int → Bool → (List Ty) → Option (Ty × Bool)
  | [], _, b159, a160, a161, f162, l163, a164, f165, l166 => g_types_of_j2 b159 a160 a161 f162 l163 a164 f165 l166
  | y182 :: rest184, i183, b159, a160, a161, f162, l163, a164, f165, l166 => ((oJoin (Ty.mk b159 a160 a161 l163 a164 l166) y182).bind fun r186 => (g_types_of_l3 rest184 (i183 + 1)) r186.all r186.flat r186.pair false r186.pairs r186.fn false r186.funs)
noncomputable def g_types_of_j4 (d1 : Dt) (l35 : List Ty) : Option (Ty × Bool) :=
  ((idx d1.list 0).bind fun e91 => (cond ((e91.text == ([80, 97, 105, 114] : List UInt8)) && (decide (((List.length l35 : Nat) : Int) = 2))) ((idx l35 0).bind fun e92 => ((idx l35 1).bind fun e93 => ((g_types_Pair e92 e93).bind fun r94 => some (r94, true)))) (cond ((e91.text == ([76, 105, 115, 116, 49] : List UInt8)) && (decide (((List.length l35 : Nat) : Int) = 1))) (some ((Ty.mk false 0 2 l35 0 []), true)) (cond ((e91.text == ([76, 105, 115, 116] : List UInt8)) && (decide (((List.length l35 : Nat) : Int) = 1))) ((idx l35 0).bind fun e95 => ((g_types_ListOf e95).bind fun r96 => some (r96, true))) (cond ((e91.text == ([45, 62] : List UInt8)) && (decide (0 < ((List.length l35 : Nat) : Int)))) (some ((Ty.mk false 0 0 [] 1 l35), true)) (cond (e91.text == ([85] : List UInt8)) (cond (okLen l35) (g_types_of_l3 l35 0 false 0 0 true [] 0 true []) none) g_types_of_j1))))))
noncomputable def g_types_of_l5 (rec : Dt → Option (Ty × Bool)) (d1 : Dt) : List Dt → Nat → (List Ty) → Option (Ty × Bool)
  | [], _, l196 => g_types_of_j4 d1 l196
  | y207 :: rest209, i208, l196 => ((rec y207).bind fun r212 => (cond (!r212.2) (some ((Ty.mk false 0 0 [] 0 []), false)) ((catL l196 [r212.1]).bind fun l213 => (g_types_of_l5 rec d1 rest209 (i208 + 1)) l213)))
noncomputable def g_types_of_b (rec : Dt → Option (Ty × Bool)) (d1 : Dt) : Option (Ty × Bool) :=
  (cond (decide (d1.kind = 1)) ((g_types_word d1.text).bind fun r3 => some (r3.1, r3.2)) ((cond ((!decide (d1.kind = 5)) || (decide (((List.length d1.list : Nat) : Int) = 0))) (some true) (((idx d1.list 0).bind fun e6 => some (!decide (e6.kind = 1))))).bind fun v7 => (cond v7 (some ((Ty.mk false 0 0 [] 0 []), false)) ((subL d1.list 1 (List.length d1.list : Nat)).bind fun l187 => (cond (okLen l187) (g_types_of_l5 rec d1 l187 0 []) none)))))
abbrev kg09 (b138 : Bool) (a139 : Int) (a140 : Int) (l142 : List Ty) (f141 : Bool) (a143 : Int) (l145 : List Ty) (f144 : Bool) : ABlock := .cells [.bool b138, .int .i64 a139, .int .i64 a140, .lst (List.map encT l142) f141, .int .i64 a143, .lst (List.map encT l145) f144]
abbrev kg010 : ABlock := .cells [.bool false, .int .i64 0, .int .i64 0, .lst [] true, .int .i64 0, .lst [] true]
abbrev kg011 (d1 : Dt) : ABlock := .cells [.int .i64 d1.kind, .str d1.text, .lst (List.map encDt d1.list) false]
theorem g_types_of_b_ok {rec : Dt → Option (Ty × Bool)} {d1 : Dt} {r : Ty × Bool} (hrec : ∀ (a0 : Dt) (r : Ty × Bool), rec a0 = some r → PRes (tabOf tabL) 40 [.agg (cDt a0)] (.tup [.agg (cT r.1), .bool r.2])) (hr : g_types_of_b rec d1 = some r) : PRes (tabOf tabL) 40 [.agg (cDt d1)] (.tup [.agg (cT r.1), .bool r.2]) := by
  refine pres_fin t40 ?_
  unfold g_types_of_b at hr
  refine L_seq ?_
  refine L_stmt ?_
  refine L_reg ?_
  refine G_n (B := (kg011 d1)) rfl rfl rfl ?_
  refine G_n (B := kg010) rfl rfl rfl ?_
  refine G_p rfl rfl rfl ?_
  refine G_nil ?_
  refine L_nil ?_
  refine Sm_norm (e2 := [(1, .ptr 0 0), (2, .ptr 1 0)]) (H1 := [(kg011 d1), kg010]) (H2 := [(kg011 d1), kg010]) rfl (by repeat (first | exact rzz | apply rcc rfl | apply rnn rfl)) rfl (?_ : GL _ _ _ _ _)
  refine L_seq ?_
  refine L_stmt ?_
  refine L_seq ?_
  refine L_stmt ?_
  refine L_reg ?_
  refine G_p rfl rfl rfl ?_
  refine G_h rfl rfl rfl (fun _ => rfl) ?_
  refine G_p rfl rfl rfl ?_
  refine G_nil ?_
  refine L_nil ?_
  refine Sm_norm (e2 := [(1, .ptr 0 0), (2, .ptr 1 0), (16, .bool (decide (d1.kind = 1)))]) (H1 := [(kg011 d1), kg010]) (H2 := [(kg011 d1), kg010]) rfl (by repeat (first | exact rzz | apply rcc rfl | apply rnn rfl)) rfl (?_ : GL _ _ _ _ _)
  rcases cond_s hr with ⟨hc16, hr⟩ | ⟨hc16, hr⟩
  · refine L_T rfl hc16 ?_
    refine L_seq ?_
    refine L_reg ?_
    refine G_p rfl rfl rfl ?_
    refine G_h rfl rfl rfl (fun _ => rfl) ?_
    obtain ⟨r3, hr3, hr⟩ := bind_s hr
    refine G_c 48 rfl rfl (CA_of (as := [.str d1.text]) rfl (g_types_word_ok hr3)) ?_
    refine G_p (v := .agg (cT r3.1)) rfl rfl rfl ?_
    refine G_p rfl rfl rfl ?_
    refine G_hn (H' := [(kg011 d1), .cells [.bool r3.1.all, .int .i64 r3.1.flat, .int .i64 r3.1.pair, .lst (List.map encT r3.1.pairs) false, .int .i64 r3.1.fn, .lst (List.map encT r3.1.funs) false]]) rfl rfl rfl (fun _ => rfl) ?_
    refine G_p rfl rfl rfl ?_
    refine G_nil ?_
    refine L_ret ?_
    refine Sm_ret ?_
    have hr := some_s hr
    subst hr
    exact ⟨_, rfl, _, rfl, rfl⟩
  · refine L_F rfl hc16 ?_
    refine L_skip ?_
    refine L_nil ?_
    refine Sm_norm (e2 := [(1, .ptr 0 0), (2, .ptr 1 0)]) (H1 := [(kg011 d1), kg010]) (H2 := [(kg011 d1), kg010]) rfl (by repeat (first | exact rzz | apply rcc rfl | apply rnn rfl)) rfl (?_ : GL _ _ _ _ _)
    refine L_seq ?_
    refine L_stmt ?_
    refine L_seq ?_
    refine L_stmt ?_
    refine L_reg ?_
    refine G_p rfl rfl rfl ?_
    refine G_h rfl rfl rfl (fun _ => rfl) ?_
    refine G_p rfl rfl rfl ?_
    refine G_p rfl rfl rfl ?_
    refine G_or (f := (decide (((List.length d1.list : Nat) : Int) = 0))) [_, _, _, _] rfl rfl ?_ ?_
    · intro hb25
      refine G_p rfl rfl rfl ?_
      refine G_h (v := .lst (List.map encDt d1.list) false) rfl rfl rfl (fun _ => rfl) ?_
      refine G_h rfl rfl rfl (lenL_ev rfl (List.length_map _)) ?_
      refine G_p rfl rfl rfl ?_
      exact G_nil (L_nil ⟨rfl, rfl, rfl⟩)
    · intro vs hvs
      obtain ⟨u26, u27, u28, u29, rfl⟩ := len4 hvs
      dsimp only [junk]
      refine G_p rfl rfl rfl ?_
      obtain ⟨v7, hvv7, hr⟩ := bind_s hr
      refine G_pick false [_, _, _, _, _, _] (v := .bool v7) (vo := .bool true) rfl rfl ?_ ?_ rfl ?_
      · intro hb31
        have hr := condF hb31 hvv7
        refine G_p rfl rfl rfl ?_
        refine G_h (v := .lst (List.map encDt d1.list) false) rfl rfl rfl (fun _ => rfl) ?_
        obtain ⟨e6, he6, hr⟩ := bind_s hr
        refine G_h (v := .ro [.int .i64 e6.kind, .str e6.text, .lst (List.map encDt e6.list) false]) rfl rfl rfl (ia_ev (cells := [.int .i64 e6.kind, .str e6.text, .lst (List.map encDt e6.list) false]) rfl rfl (idx_s he6).1 (map_get (x := e6) (idx_s he6).2) (encDt_flat _) rfl) ?_
        refine G_p (v := .ro [.int .i64 e6.kind, .str e6.text, .lst (List.map encDt e6.list) false]) rfl rfl rfl ?_
        refine G_h rfl rfl rfl (fun _ => rfl) ?_
        refine G_p rfl rfl rfl ?_
        cases hr; exact G_nil (L_nil ⟨rfl, rfl, rfl⟩)
      · intro hb31; exact pickF hvv7 hb31
      · intro vs hvs
        obtain ⟨u32, u33, u34, u35, u36, u37, rfl⟩ := len6 hvs
        dsimp only [junk]
        refine G_nil ?_
        refine L_nil ?_
        refine Sm_norm (e2 := [(1, .ptr 0 0), (2, .ptr 1 0), (38, .bool v7)]) (H1 := [(kg011 d1), kg010]) (H2 := [(kg011 d1), kg010]) rfl (by repeat (first | exact rzz | apply rcc rfl | apply rnn rfl)) rfl (?_ : GL _ _ _ _ _)
        rcases cond_s hr with ⟨hc38, hr⟩ | ⟨hc38, hr⟩
        · refine L_T rfl hc38 ?_
          refine L_seq ?_
          refine L_reg ?_
          refine G_p (v := .agg [.bool false, .int .i64 0, .int .i64 0, .lst [] true, .int .i64 0, .lst [] true]) rfl rfl rfl ?_
          refine G_hn (H' := [(kg011 d1), kg010]) rfl rfl rfl (fun _ => rfl) ?_
          refine G_p rfl rfl rfl ?_
          refine G_nil ?_
          refine L_ret ?_
          refine Sm_ret ?_
          have hr := some_s hr
          subst hr
          exact ⟨_, rfl, _, rfl, rfl⟩
        · refine L_F rfl hc38 ?_
          refine L_skip ?_
          refine L_nil ?_
          refine Sm_norm (e2 := [(1, .ptr 0 0), (2, .ptr 1 0)]) (H1 := [(kg011 d1), kg010]) (H2 := [(kg011 d1), kg010]) rfl (by repeat (first | exact rzz | apply rcc rfl | apply rnn rfl)) rfl (?_ : GL _ _ _ _ _)
          refine L_seq ?_
          refine L_stmt ?_
          refine L_reg ?_
          refine G_p (v := .lst [] true) rfl rfl rfl ?_
          refine G_nil ?_
          refine L_nil ?_
          refine Sm_norm (e2 := [(1, .ptr 0 0), (2, .ptr 1 0), (4, .lst [] true)]) (H1 := [(kg011 d1), kg010]) (H2 := [(kg011 d1), kg010]) rfl (by repeat (first | exact rzz | apply rcc rfl | apply rnn rfl)) rfl (?_ : GL _ _ _ _ _)
          refine L_seq ?_
          refine L_stmtJ (S := List Ty) (fun s => [(1, .ptr 0 0), (2, .ptr 1 0), (4, .lst (List.map encT s) false)]) (fun s => [(kg011 d1), kg010]) (fun s => g_types_of_j4 d1 s = some r) ?_ ?_
          · skip
            refine L_seq ?_
            refine L_stmt ?_
            refine L_reg ?_
            refine G_p rfl rfl rfl ?_
            refine G_h (v := .lst (List.map encDt d1.list) false) rfl rfl rfl (fun _ => rfl) ?_
            obtain ⟨l187, hl187, hr⟩ := bind_s hr
            refine G_h (v := .lst (List.map encDt l187) false) rfl rfl rfl (sub_ev (fl := false) encDt_w1 rfl rfl rfl (.inr ⟨_, rfl⟩) (.inl ⟨rfl, rfl⟩) hl187) ?_
            refine G_h rfl rfl rfl (lenL_ev rfl (List.length_map _)) ?_
            refine G_p rfl rfl rfl ?_
            refine G_nil ?_
            refine L_nil ?_
            refine Sm_norm (e2 := [(1, .ptr 0 0), (2, .ptr 1 0), (4, .lst [] true), (42, .lst (List.map encDt l187) false), (43, .int .i64 ((List.length l187 : Nat) : Int)), (44, .int .i64 0)]) (H1 := [(kg011 d1), kg010]) (H2 := [(kg011 d1), kg010]) rfl (by repeat (first | exact rzz | apply rcc rfl | apply rnn rfl)) rfl (?_ : GL _ _ _ _ _)
            refine L_block ?_
            refine L_seq ?_
            refine L_own (H' := [(kg011 d1), kg010, growM 6 encT []]) rfl ?_
            obtain ⟨hLq206, hr⟩ := guard_s hr
            replace hLq206 := okLen_s hLq206
            refine L_range (X := Dt) (S := List Ty) l187 (fun i208 s => [(4, .gl 2 (List.length s)), (44, .int .i64 ((i208 : Nat) : Int)), (1, .ptr 0 0), (2, .ptr 1 0), (42, .lst (List.map encDt l187) false), (43, .int .i64 ((List.length l187 : Nat) : Int))]) (fun i208 s => [(kg011 d1), kg010, growM 6 encT s]) (fun rest i208 s => g_types_of_l5 rec d1 rest i208 s = some r) ([]) ?_ rfl hr ?_ ?_
            · show restr _ _ = [(4, .gl 2 (List.length [])), (44, .int .i64 ((0 : Nat) : Int)), (1, .ptr 0 0), (2, .ptr 1 0), (42, .lst (List.map encDt l187) false), (43, .int .i64 ((List.length l187 : Nat) : Int))]
              (repeat (first | exact rzz | apply rcc rfl | apply rnn rfl))
            · rintro l196 hr
              show GL _ _ [(4, .gl 2 (List.length l196)), (44, .int .i64 (((List.length l187) : Nat) : Int)), (1, .ptr 0 0), (2, .ptr 1 0), (42, .lst (List.map encDt l187) false), (43, .int .i64 ((List.length l187 : Nat) : Int))] [(kg011 d1), kg010, growM 6 encT l196] _
              replace hr : g_types_of_l5 rec d1 [] (List.length l187) l196 = some r := hr
              rw [g_types_of_l5] at hr
              refine L_seq ?_
              refine L_stmt ?_
              refine L_reg ?_
              refine G_v (.bool false) rfl rfl rfl (congrArg AVal.bool (decide_eq_false (by omega))) ?_
              refine G_nil ?_
              refine L_nil ?_
              refine Sm_norm (e2 := [(1, .ptr 0 0), (2, .ptr 1 0), (4, .gl 2 (List.length l196)), (42, .lst (List.map encDt l187) false), (43, .int .i64 ((List.length l187 : Nat) : Int)), (44, .int .i64 ((List.length l187 : Nat) : Int)), (45, .bool false)]) (H1 := [(kg011 d1), kg010, growM 6 encT l196]) (H2 := [(kg011 d1), kg010, growM 6 encT l196]) rfl (by repeat (first | exact rzz | apply rcc rfl | apply rnn rfl)) rfl (?_ : GL _ _ _ _ _)
              refine L_seq ?_
              refine L_stmt ?_
              refine L_F rfl rfl ?_
              refine L_exit ?_
              refine Sm_exit ?_
              refine Rd_exit ?_
              refine Blk_exit (?_ : GL _ _ _ _ _)
              refine L_nil ?_
              exact Sm_norm (e2 := [(1, .ptr 0 0), (2, .ptr 1 0), (4, .lst (List.map encT l196) false)]) (H1 := [(kg011 d1), kg010, growM 6 encT l196]) (H2 := [(kg011 d1), kg010]) (frz_c (frz_gl rfl rfl) rfl) (by repeat (first | exact rzz | apply rcc rfl | apply rnn rfl)) rfl ⟨l196, rfl, rfl, hr⟩
            · rintro y207 rest209 i208 l196 hy207 hlti208 hr
              show GL _ _ [(4, .gl 2 (List.length l196)), (44, .int .i64 ((i208 : Nat) : Int)), (1, .ptr 0 0), (2, .ptr 1 0), (42, .lst (List.map encDt l187) false), (43, .int .i64 ((List.length l187 : Nat) : Int))] [(kg011 d1), kg010, growM 6 encT l196] _
              replace hr : g_types_of_l5 rec d1 (y207 :: rest209) i208 l196 = some r := hr
              rw [g_types_of_l5] at hr
              refine L_seq ?_
              refine L_stmt ?_
              refine L_reg ?_
              refine G_v (.bool true) rfl rfl rfl (congrArg AVal.bool (decide_eq_true (by omega))) ?_
              refine G_nil ?_
              refine L_nil ?_
              refine Sm_norm (e2 := [(1, .ptr 0 0), (2, .ptr 1 0), (4, .gl 2 (List.length l196)), (42, .lst (List.map encDt l187) false), (43, .int .i64 ((List.length l187 : Nat) : Int)), (44, .int .i64 ((i208 : Nat) : Int)), (45, .bool true)]) (H1 := [(kg011 d1), kg010, growM 6 encT l196]) (H2 := [(kg011 d1), kg010, growM 6 encT l196]) rfl (by repeat (first | exact rzz | apply rcc rfl | apply rnn rfl)) rfl (?_ : GL _ _ _ _ _)
              refine L_seq ?_
              refine L_stmt ?_
              refine L_T rfl rfl ?_
              refine L_skip ?_
              refine L_nil ?_
              refine Sm_norm (e2 := [(1, .ptr 0 0), (2, .ptr 1 0), (4, .gl 2 (List.length l196)), (42, .lst (List.map encDt l187) false), (43, .int .i64 ((List.length l187 : Nat) : Int)), (44, .int .i64 ((i208 : Nat) : Int))]) (H1 := [(kg011 d1), kg010, growM 6 encT l196]) (H2 := [(kg011 d1), kg010, growM 6 encT l196]) rfl (by repeat (first | exact rzz | apply rcc rfl | apply rnn rfl)) rfl (?_ : GL _ _ _ _ _)
              refine L_seq ?_
              refine L_stmt ?_
              refine L_block ?_
              refine L_seq ?_
              refine L_stmt ?_
              refine L_reg ?_
              refine G_h (v := .ro [.int .i64 y207.kind, .str y207.text, .lst (List.map encDt y207.list) false]) rfl rfl rfl (ia_ev (cells := [.int .i64 y207.kind, .str y207.text, .lst (List.map encDt y207.list) false]) rfl rfl (Int.natCast_nonneg _) (map_get (x := y207) (by rw [Int.toNat_natCast]; exact hy207)) (encDt_flat _) rfl) ?_
              refine G_h (v := .agg (cDt y207)) rfl rfl rfl (fun _ => rfl) ?_
              refine G_n (B := .cells [.int .i64 0, .str [], .lst [] true]) rfl rfl rfl ?_
              refine G_hn (H' := [(kg011 d1), kg010, growM 6 encT l196, .cells [.int .i64 y207.kind, .str y207.text, .lst (List.map encDt y207.list) false]]) rfl rfl rfl (fun _ => rfl) ?_
              refine G_nil ?_
              refine L_nil ?_
              refine Sm_norm (e2 := [(1, .ptr 0 0), (2, .ptr 1 0), (4, .gl 2 (List.length l196)), (6, .ptr 3 0), (42, .lst (List.map encDt l187) false), (43, .int .i64 ((List.length l187 : Nat) : Int)), (44, .int .i64 ((i208 : Nat) : Int))]) (H1 := [(kg011 d1), kg010, growM 6 encT l196, .cells [.int .i64 y207.kind, .str y207.text, .lst (List.map encDt y207.list) false]]) (H2 := [(kg011 d1), kg010, growM 6 encT l196, .cells [.int .i64 y207.kind, .str y207.text, .lst (List.map encDt y207.list) false]]) rfl (by repeat (first | exact rzz | apply rcc rfl | apply rnn rfl)) rfl (?_ : GL _ _ _ _ _)
              refine L_seq ?_
              refine L_stmt ?_
              refine L_reg ?_
              refine G_h (v := .agg (cDt y207)) rfl rfl rfl (fun _ => rfl) ?_
              obtain ⟨r212, hr212, hr⟩ := bind_s hr
              refine G_c 40 rfl rfl (CA_of (as := [.agg (cDt y207)]) rfl (hrec _ _ hr212)) ?_
              refine G_p (v := .tup [.agg (cT r212.1), .bool r212.2]) rfl rfl rfl ?_
              refine G_p (v := .agg (cT r212.1)) rfl rfl rfl ?_
              refine G_p rfl rfl rfl ?_
              refine G_n (B := kg010) rfl rfl rfl ?_
              refine G_hn (H' := [(kg011 d1), kg010, growM 6 encT l196, .cells [.int .i64 y207.kind, .str y207.text, .lst (List.map encDt y207.list) false], .cells [.bool r212.1.all, .int .i64 r212.1.flat, .int .i64 r212.1.pair, .lst (List.map encT r212.1.pairs) false, .int .i64 r212.1.fn, .lst (List.map encT r212.1.funs) false]]) rfl rfl rfl (fun _ => rfl) ?_
              refine G_p rfl rfl rfl ?_
              refine G_nil ?_
              refine L_nil ?_
              refine Sm_norm (e2 := [(1, .ptr 0 0), (2, .ptr 1 0), (4, .gl 2 (List.length l196)), (7, .ptr 4 0), (8, .bool r212.2), (42, .lst (List.map encDt l187) false), (43, .int .i64 ((List.length l187 : Nat) : Int)), (44, .int .i64 ((i208 : Nat) : Int))]) (H1 := [(kg011 d1), kg010, growM 6 encT l196, .cells [.int .i64 y207.kind, .str y207.text, .lst (List.map encDt y207.list) false], .cells [.bool r212.1.all, .int .i64 r212.1.flat, .int .i64 r212.1.pair, .lst (List.map encT r212.1.pairs) false, .int .i64 r212.1.fn, .lst (List.map encT r212.1.funs) false]]) (H2 := [(kg011 d1), kg010, growM 6 encT l196, .cells [.int .i64 y207.kind, .str y207.text, .lst (List.map encDt y207.list) false], .cells [.bool r212.1.all, .int .i64 r212.1.flat, .int .i64 r212.1.pair, .lst (List.map encT r212.1.pairs) false, .int .i64 r212.1.fn, .lst (List.map encT r212.1.funs) false]]) rfl (by repeat (first | exact rzz | apply rcc rfl | apply rnn rfl)) rfl (?_ : GL _ _ _ _ _)
              refine L_seq ?_
              refine L_stmt ?_
              refine L_seq ?_
              refine L_stmt ?_
              refine L_reg ?_
              refine G_p rfl rfl rfl ?_
              refine G_p rfl rfl rfl ?_
              refine G_nil ?_
              refine L_nil ?_
              refine Sm_norm (e2 := [(1, .ptr 0 0), (2, .ptr 1 0), (4, .gl 2 (List.length l196)), (7, .ptr 4 0), (42, .lst (List.map encDt l187) false), (43, .int .i64 ((List.length l187 : Nat) : Int)), (44, .int .i64 ((i208 : Nat) : Int)), (54, .bool (!r212.2))]) (H1 := [(kg011 d1), kg010, growM 6 encT l196, .cells [.int .i64 y207.kind, .str y207.text, .lst (List.map encDt y207.list) false], .cells [.bool r212.1.all, .int .i64 r212.1.flat, .int .i64 r212.1.pair, .lst (List.map encT r212.1.pairs) false, .int .i64 r212.1.fn, .lst (List.map encT r212.1.funs) false]]) (H2 := [(kg011 d1), kg010, growM 6 encT l196, .cells [.int .i64 y207.kind, .str y207.text, .lst (List.map encDt y207.list) false], .cells [.bool r212.1.all, .int .i64 r212.1.flat, .int .i64 r212.1.pair, .lst (List.map encT r212.1.pairs) false, .int .i64 r212.1.fn, .lst (List.map encT r212.1.funs) false]]) rfl (by repeat (first | exact rzz | apply rcc rfl | apply rnn rfl)) rfl (?_ : GL _ _ _ _ _)
              rcases cond_s hr with ⟨hc54, hr⟩ | ⟨hc54, hr⟩
              · refine L_T rfl hc54 ?_
                refine L_seq ?_
                refine L_reg ?_
                refine G_p (v := .agg [.bool false, .int .i64 0, .int .i64 0, .lst [] true, .int .i64 0, .lst [] true]) rfl rfl rfl ?_
                refine G_hn (H' := [(kg011 d1), kg010, growM 6 encT l196, .cells [.int .i64 y207.kind, .str y207.text, .lst (List.map encDt y207.list) false], .cells [.bool r212.1.all, .int .i64 r212.1.flat, .int .i64 r212.1.pair, .lst (List.map encT r212.1.pairs) false, .int .i64 r212.1.fn, .lst (List.map encT r212.1.funs) false]]) rfl rfl rfl (fun _ => rfl) ?_
                refine G_p rfl rfl rfl ?_
                refine G_nil ?_
                refine L_ret ?_
                refine Sm_ret ?_
                refine Blk_ret ?_
                refine Sm_ret ?_
                refine Rd_ret ?_
                refine Blk_ret ?_
                refine Sm_ret ?_
                have hr := some_s hr
                subst hr
                exact ⟨_, rfl, _, rfl, rfl⟩
              · refine L_F rfl hc54 ?_
                refine L_skip ?_
                refine L_nil ?_
                refine Sm_norm (e2 := [(1, .ptr 0 0), (2, .ptr 1 0), (4, .gl 2 (List.length l196)), (7, .ptr 4 0), (42, .lst (List.map encDt l187) false), (43, .int .i64 ((List.length l187 : Nat) : Int)), (44, .int .i64 ((i208 : Nat) : Int))]) (H1 := [(kg011 d1), kg010, growM 6 encT l196, .cells [.int .i64 y207.kind, .str y207.text, .lst (List.map encDt y207.list) false], .cells [.bool r212.1.all, .int .i64 r212.1.flat, .int .i64 r212.1.pair, .lst (List.map encT r212.1.pairs) false, .int .i64 r212.1.fn, .lst (List.map encT r212.1.funs) false]]) (H2 := [(kg011 d1), kg010, growM 6 encT l196, .cells [.int .i64 y207.kind, .str y207.text, .lst (List.map encDt y207.list) false], .cells [.bool r212.1.all, .int .i64 r212.1.flat, .int .i64 r212.1.pair, .lst (List.map encT r212.1.pairs) false, .int .i64 r212.1.fn, .lst (List.map encT r212.1.funs) false]]) rfl (by repeat (first | exact rzz | apply rcc rfl | apply rnn rfl)) rfl (?_ : GL _ _ _ _ _)
                refine L_reg ?_
                refine G_p rfl rfl rfl ?_
                refine G_h (v := .agg (cT r212.1)) rfl rfl rfl (fun _ => rfl) ?_
                refine G_h (v := .lst (List.map encT [r212.1]) true) rfl rfl rfl (fun _ => Eq.trans (b := some (Ex.ok (AVal.lst [.agg (cT r212.1)] true), _)) rfl (congrArg (fun z => some (Ex.ok (AVal.lst z true), _)) (by first | rfl | (simp only [List.map_cons, List.map_nil, encT_eq] <;> rfl)))) ?_
                obtain ⟨l213, hl213, hr⟩ := bind_s hr
                refine G_h rfl rfl rfl (appG_ev encT_w1 (by decide) rfl rfl rfl rfl hl213) ?_
                refine G_p rfl rfl rfl ?_
                refine G_nil ?_
                refine L_nil ?_
                refine Blk_norm (?_ : GL _ _ _ _ _)
                refine L_nil ?_
                refine Sm_norm (e2 := [(1, .ptr 0 0), (2, .ptr 1 0), (4, .gl 2 (List.length l213)), (42, .lst (List.map encDt l187) false), (43, .int .i64 ((List.length l187 : Nat) : Int)), (44, .int .i64 ((i208 : Nat) : Int))]) (H1 := [(kg011 d1), kg010, growM 6 encT l213, .cells [.int .i64 y207.kind, .str y207.text, .lst (List.map encDt y207.list) false], .cells [.bool r212.1.all, .int .i64 r212.1.flat, .int .i64 r212.1.pair, .lst (List.map encT r212.1.pairs) false, .int .i64 r212.1.fn, .lst (List.map encT r212.1.funs) false]]) (H2 := [(kg011 d1), kg010, growM 6 encT l213]) rfl (by repeat (first | exact rzz | apply rcc rfl | apply rnn rfl)) rfl (?_ : GL _ _ _ _ _)
                refine L_reg ?_
                refine G_v (.int .i64 ((i208 + 1 : Nat) : Int)) rfl rfl rfl (congrArg _ (wrap_next hLq206 hlti208)) ?_
                refine G_p rfl rfl rfl ?_
                refine G_nil ?_
                refine L_nil ?_
                refine Rd_norm ⟨l213, ?_, rfl, hr⟩
                show restr _ _ = [(4, .gl 2 (List.length l213)), (44, .int .i64 (((i208 + 1) : Nat) : Int)), (1, .ptr 0 0), (2, .ptr 1 0), (42, .lst (List.map encDt l187) false), (43, .int .i64 ((List.length l187 : Nat) : Int))]
                (repeat (first | exact rzz | apply rcc rfl | apply rnn rfl))
          · rintro l35 hr
            show GL _ _ [(1, .ptr 0 0), (2, .ptr 1 0), (4, .lst (List.map encT l35) false)] [(kg011 d1), kg010] _
            replace hr : g_types_of_j4 d1 l35 = some r := hr
            unfold g_types_of_j4 at hr
            refine L_seq ?_
            refine L_stmt ?_
            refine L_reg ?_
            refine G_p (v := .lst (List.map encT l35) false) rfl rfl rfl ?_
            refine G_h rfl rfl rfl (lenL_ev rfl (List.length_map _)) ?_
            refine G_p rfl rfl rfl ?_
            refine G_nil ?_
            refine L_nil ?_
            refine Sm_norm (e2 := [(1, .ptr 0 0), (2, .ptr 1 0), (4, .lst (List.map encT l35) false), (9, .int .i64 ((List.length l35 : Nat) : Int))]) (H1 := [(kg011 d1), kg010]) (H2 := [(kg011 d1), kg010]) rfl (by repeat (first | exact rzz | apply rcc rfl | apply rnn rfl)) rfl (?_ : GL _ _ _ _ _)
            refine L_seq ?_
            refine L_stmtJ (S := Unit) (fun s => [(2, .ptr 1 0)]) (fun s => [(kg011 d1), kg010]) (fun s => g_types_of_j1 = some r) ?_ ?_
            · skip
              refine L_seq ?_
              refine L_stmt ?_
              refine L_reg ?_
              refine G_p rfl rfl rfl ?_
              refine G_h (v := .lst (List.map encDt d1.list) false) rfl rfl rfl (fun _ => rfl) ?_
              obtain ⟨e91, he91, hr⟩ := bind_s hr
              refine G_h (v := .ro [.int .i64 e91.kind, .str e91.text, .lst (List.map encDt e91.list) false]) rfl rfl rfl (ia_ev (cells := [.int .i64 e91.kind, .str e91.text, .lst (List.map encDt e91.list) false]) rfl rfl (idx_s he91).1 (map_get (x := e91) (idx_s he91).2) (encDt_flat _) rfl) ?_
              refine G_p (v := .ro [.str e91.text, .lst (List.map encDt e91.list) false]) rfl rfl rfl ?_
              refine G_h rfl rfl rfl (fun _ => rfl) ?_
              refine G_p rfl rfl rfl ?_
              refine G_nil ?_
              refine L_nil ?_
              refine Sm_norm (e2 := [(2, .ptr 1 0), (4, .lst (List.map encT l35) false), (9, .int .i64 ((List.length l35 : Nat) : Int)), (10, .str e91.text)]) (H1 := [(kg011 d1), kg010]) (H2 := [(kg011 d1), kg010]) rfl (by repeat (first | exact rzz | apply rcc rfl | apply rnn rfl)) rfl (?_ : GL _ _ _ _ _)
              refine L_block ?_
              refine L_seq ?_
              refine L_stmt ?_
              refine L_reg ?_
              refine G_p rfl rfl rfl ?_
              refine G_p rfl rfl rfl ?_
              refine G_p rfl rfl rfl ?_
              refine G_and (f := (decide (((List.length l35 : Nat) : Int) = 2))) [_, _] rfl rfl ?_ ?_
              · intro hb71
                refine G_p rfl rfl rfl ?_
                refine G_p rfl rfl rfl ?_
                exact G_nil (L_nil ⟨rfl, rfl, rfl⟩)
              · intro vs hvs
                obtain ⟨u72, u73, rfl⟩ := len2 hvs
                dsimp only [junk]
                refine G_p rfl rfl rfl ?_
                refine G_nil ?_
                refine L_nil ?_
                refine Sm_norm (e2 := [(2, .ptr 1 0), (4, .lst (List.map encT l35) false), (9, .int .i64 ((List.length l35 : Nat) : Int)), (10, .str e91.text), (68, .bool ((e91.text == ([80, 97, 105, 114] : List UInt8)) && (decide (((List.length l35 : Nat) : Int) = 2))))]) (H1 := [(kg011 d1), kg010]) (H2 := [(kg011 d1), kg010]) rfl (by repeat (first | exact rzz | apply rcc rfl | apply rnn rfl)) rfl (?_ : GL _ _ _ _ _)
                rcases cond_s hr with ⟨hc68, hr⟩ | ⟨hc68, hr⟩
                · refine L_T rfl hc68 ?_
                  refine L_seq ?_
                  refine L_drawS (ops := [_, _, _, _, _, _, _, _, _]) rfl rfl ?_
                  refine G_p (v := .lst (List.map encT l35) false) rfl rfl rfl ?_
                  obtain ⟨e92, he92, hr⟩ := bind_s hr
                  refine G_h (v := .ro [.bool e92.all, .int .i64 e92.flat, .int .i64 e92.pair, .lst (List.map encT e92.pairs) false, .int .i64 e92.fn, .lst (List.map encT e92.funs) false]) rfl rfl rfl (ia_ev (cells := [.bool e92.all, .int .i64 e92.flat, .int .i64 e92.pair, .lst (List.map encT e92.pairs) false, .int .i64 e92.fn, .lst (List.map encT e92.funs) false]) rfl rfl (idx_s he92).1 (map_get (x := e92) (idx_s he92).2) (encT_flat _) rfl) ?_
                  refine G_h (v := .agg (cT e92)) rfl rfl rfl (fun _ => rfl) ?_
                  refine G_p (v := .lst (List.map encT l35) false) rfl rfl rfl ?_
                  obtain ⟨e93, he93, hr⟩ := bind_s hr
                  refine G_h (v := .ro [.bool e93.all, .int .i64 e93.flat, .int .i64 e93.pair, .lst (List.map encT e93.pairs) false, .int .i64 e93.fn, .lst (List.map encT e93.funs) false]) rfl rfl rfl (ia_ev (cells := [.bool e93.all, .int .i64 e93.flat, .int .i64 e93.pair, .lst (List.map encT e93.pairs) false, .int .i64 e93.fn, .lst (List.map encT e93.funs) false]) rfl rfl (idx_s he93).1 (map_get (x := e93) (idx_s he93).2) (encT_flat _) rfl) ?_
                  refine G_h (v := .agg (cT e93)) rfl rfl rfl (fun _ => rfl) ?_
                  obtain ⟨r94, hr94, hr⟩ := bind_s hr
                  refine G_c 25 rfl rfl (CA_of (as := [.agg (cT e92), .agg (cT e93)]) rfl (g_types_Pair_ok hr94)) ?_
                  refine G_hn (H' := [(kg011 d1), .cells [.bool r94.all, .int .i64 r94.flat, .int .i64 r94.pair, .lst (List.map encT r94.pairs) false, .int .i64 r94.fn, .lst (List.map encT r94.funs) false]]) rfl rfl rfl (fun _ => rfl) ?_
                  refine G_p rfl rfl rfl ?_
                  refine G_nil (L_nil ⟨rfl, ?_⟩)
                  refine L_ret ?_
                  refine Blk_ret ?_
                  refine Sm_ret ?_
                  have hr := some_s hr
                  subst hr
                  exact ⟨_, rfl, _, rfl, rfl⟩
                · refine L_F rfl hc68 ?_
                  refine L_seq ?_
                  refine L_stmt ?_
                  refine L_reg ?_
                  refine G_p rfl rfl rfl ?_
                  refine G_p rfl rfl rfl ?_
                  refine G_p rfl rfl rfl ?_
                  refine G_and (f := (decide (((List.length l35 : Nat) : Int) = 1))) [_, _] rfl rfl ?_ ?_
                  · intro hb85
                    refine G_p rfl rfl rfl ?_
                    refine G_p rfl rfl rfl ?_
                    exact G_nil (L_nil ⟨rfl, rfl, rfl⟩)
                  · intro vs hvs
                    obtain ⟨u86, u87, rfl⟩ := len2 hvs
                    dsimp only [junk]
                    refine G_p rfl rfl rfl ?_
                    refine G_nil ?_
                    refine L_nil ?_
                    refine Sm_norm (e2 := [(2, .ptr 1 0), (4, .lst (List.map encT l35) false), (9, .int .i64 ((List.length l35 : Nat) : Int)), (10, .str e91.text), (82, .bool ((e91.text == ([76, 105, 115, 116, 49] : List UInt8)) && (decide (((List.length l35 : Nat) : Int) = 1))))]) (H1 := [(kg011 d1), kg010]) (H2 := [(kg011 d1), kg010]) rfl (by repeat (first | exact rzz | apply rcc rfl | apply rnn rfl)) rfl (?_ : GL _ _ _ _ _)
                    rcases cond_s hr with ⟨hc82, hr⟩ | ⟨hc82, hr⟩
                    · refine L_T rfl hc82 ?_
                      refine L_seq ?_
                      refine L_reg ?_
                      refine G_p (v := .lst (List.map encT l35) false) rfl rfl rfl ?_
                      refine G_p (v := .agg [.bool false, .int .i64 0, .int .i64 2, .lst (List.map encT l35) false, .int .i64 0, .lst [] true]) rfl rfl rfl ?_
                      refine G_hn (H' := [(kg011 d1), .cells [.bool false, .int .i64 0, .int .i64 2, .lst (List.map encT l35) false, .int .i64 0, .lst [] true]]) rfl rfl rfl (fun _ => rfl) ?_
                      refine G_p rfl rfl rfl ?_
                      refine G_nil ?_
                      refine L_ret ?_
                      refine Blk_ret ?_
                      refine Sm_ret ?_
                      have hr := some_s hr
                      subst hr
                      exact ⟨_, rfl, _, rfl, rfl⟩
                    · refine L_F rfl hc82 ?_
                      refine L_seq ?_
                      refine L_stmt ?_
                      refine L_reg ?_
                      refine G_p rfl rfl rfl ?_
                      refine G_p rfl rfl rfl ?_
                      refine G_p rfl rfl rfl ?_
                      refine G_and (f := (decide (((List.length l35 : Nat) : Int) = 1))) [_, _] rfl rfl ?_ ?_
                      · intro hb94
                        refine G_p rfl rfl rfl ?_
                        refine G_p rfl rfl rfl ?_
                        exact G_nil (L_nil ⟨rfl, rfl, rfl⟩)
                      · intro vs hvs
                        obtain ⟨u95, u96, rfl⟩ := len2 hvs
                        dsimp only [junk]
                        refine G_p rfl rfl rfl ?_
                        refine G_nil ?_
                        refine L_nil ?_
                        refine Sm_norm (e2 := [(2, .ptr 1 0), (4, .lst (List.map encT l35) false), (9, .int .i64 ((List.length l35 : Nat) : Int)), (10, .str e91.text), (91, .bool ((e91.text == ([76, 105, 115, 116] : List UInt8)) && (decide (((List.length l35 : Nat) : Int) = 1))))]) (H1 := [(kg011 d1), kg010]) (H2 := [(kg011 d1), kg010]) rfl (by repeat (first | exact rzz | apply rcc rfl | apply rnn rfl)) rfl (?_ : GL _ _ _ _ _)
                        rcases cond_s hr with ⟨hc91, hr⟩ | ⟨hc91, hr⟩
                        · refine L_T rfl hc91 ?_
                          refine L_seq ?_
                          refine L_reg ?_
                          refine G_p (v := .lst (List.map encT l35) false) rfl rfl rfl ?_
                          obtain ⟨e95, he95, hr⟩ := bind_s hr
                          refine G_h (v := .ro [.bool e95.all, .int .i64 e95.flat, .int .i64 e95.pair, .lst (List.map encT e95.pairs) false, .int .i64 e95.fn, .lst (List.map encT e95.funs) false]) rfl rfl rfl (ia_ev (cells := [.bool e95.all, .int .i64 e95.flat, .int .i64 e95.pair, .lst (List.map encT e95.pairs) false, .int .i64 e95.fn, .lst (List.map encT e95.funs) false]) rfl rfl (idx_s he95).1 (map_get (x := e95) (idx_s he95).2) (encT_flat _) rfl) ?_
                          refine G_h (v := .agg (cT e95)) rfl rfl rfl (fun _ => rfl) ?_
                          obtain ⟨r96, hr96, hr⟩ := bind_s hr
                          refine G_c 23 rfl rfl (CA_of (as := [.agg (cT e95)]) rfl (g_types_ListOf_ok hr96)) ?_
                          refine G_hn (H' := [(kg011 d1), .cells [.bool r96.all, .int .i64 r96.flat, .int .i64 r96.pair, .lst (List.map encT r96.pairs) false, .int .i64 r96.fn, .lst (List.map encT r96.funs) false]]) rfl rfl rfl (fun _ => rfl) ?_
                          refine G_p rfl rfl rfl ?_
                          refine G_nil ?_
                          refine L_ret ?_
                          refine Blk_ret ?_
                          refine Sm_ret ?_
                          have hr := some_s hr
                          subst hr
                          exact ⟨_, rfl, _, rfl, rfl⟩
                        · refine L_F rfl hc91 ?_
                          refine L_seq ?_
                          refine L_stmt ?_
                          refine L_reg ?_
                          refine G_p rfl rfl rfl ?_
                          refine G_p rfl rfl rfl ?_
                          refine G_p rfl rfl rfl ?_
                          refine G_and (f := (decide (0 < ((List.length l35 : Nat) : Int)))) [_, _] rfl rfl ?_ ?_
                          · intro hb105
                            refine G_p rfl rfl rfl ?_
                            refine G_p rfl rfl rfl ?_
                            exact G_nil (L_nil ⟨rfl, rfl, rfl⟩)
                          · intro vs hvs
                            obtain ⟨u106, u107, rfl⟩ := len2 hvs
                            dsimp only [junk]
                            refine G_p rfl rfl rfl ?_
                            refine G_nil ?_
                            refine L_nil ?_
                            refine Sm_norm (e2 := [(2, .ptr 1 0), (4, .lst (List.map encT l35) false), (10, .str e91.text), (102, .bool ((e91.text == ([45, 62] : List UInt8)) && (decide (0 < ((List.length l35 : Nat) : Int)))))]) (H1 := [(kg011 d1), kg010]) (H2 := [(kg011 d1), kg010]) rfl (by repeat (first | exact rzz | apply rcc rfl | apply rnn rfl)) rfl (?_ : GL _ _ _ _ _)
                            rcases cond_s hr with ⟨hc102, hr⟩ | ⟨hc102, hr⟩
                            · refine L_T rfl hc102 ?_
                              refine L_seq ?_
                              refine L_reg ?_
                              refine G_p (v := .lst (List.map encT l35) false) rfl rfl rfl ?_
                              refine G_p (v := .agg [.bool false, .int .i64 0, .int .i64 0, .lst [] true, .int .i64 1, .lst (List.map encT l35) false]) rfl rfl rfl ?_
                              refine G_hn (H' := [(kg011 d1), .cells [.bool false, .int .i64 0, .int .i64 0, .lst [] true, .int .i64 1, .lst (List.map encT l35) false]]) rfl rfl rfl (fun _ => rfl) ?_
                              refine G_p rfl rfl rfl ?_
                              refine G_nil ?_
                              refine L_ret ?_
                              refine Blk_ret ?_
                              refine Sm_ret ?_
                              have hr := some_s hr
                              subst hr
                              exact ⟨_, rfl, _, rfl, rfl⟩
                            · refine L_F rfl hc102 ?_
                              refine L_seq ?_
                              refine L_stmt ?_
                              refine L_reg ?_
                              refine G_p rfl rfl rfl ?_
                              refine G_p rfl rfl rfl ?_
                              refine G_p rfl rfl rfl ?_
                              refine G_nil ?_
                              refine L_nil ?_
                              refine Sm_norm (e2 := [(2, .ptr 1 0), (4, .lst (List.map encT l35) false), (111, .bool (e91.text == ([85] : List UInt8)))]) (H1 := [(kg011 d1), kg010]) (H2 := [(kg011 d1), kg010]) rfl (by repeat (first | exact rzz | apply rcc rfl | apply rnn rfl)) rfl (?_ : GL _ _ _ _ _)
                              rcases cond_s hr with ⟨hc111, hr⟩ | ⟨hc111, hr⟩
                              · refine L_T rfl hc111 ?_
                                refine L_seq ?_
                                refine L_stmt ?_
                                refine L_reg ?_
                                refine G_n (B := kg010) rfl rfl rfl ?_
                                refine G_nil ?_
                                refine L_nil ?_
                                refine Sm_norm (e2 := [(2, .ptr 1 0), (4, .lst (List.map encT l35) false), (11, .ptr 2 0)]) (H1 := [(kg011 d1), kg010, kg010]) (H2 := [(kg011 d1), kg010, kg010]) rfl (by repeat (first | exact rzz | apply rcc rfl | apply rnn rfl)) rfl (?_ : GL _ _ _ _ _)
                                refine L_seq ?_
                                refine L_stmtJ (S := Bool × Int × Int × Bool × List Ty × Int × Bool × List Ty) (fun s => [(2, .ptr 1 0), (11, .ptr 2 0)]) (fun s => [(kg011 d1), kg010, .cells [.bool s.1, .int .i64 s.2.1, .int .i64 s.2.2.1, .lst (List.map encT s.2.2.2.2.1) s.2.2.2.1, .int .i64 s.2.2.2.2.2.1, .lst (List.map encT s.2.2.2.2.2.2.2) s.2.2.2.2.2.2.1]]) (fun s => g_types_of_j2 s.1 s.2.1 s.2.2.1 s.2.2.2.1 s.2.2.2.2.1 s.2.2.2.2.2.1 s.2.2.2.2.2.2.1 s.2.2.2.2.2.2.2 = some r) ?_ ?_
                                · skip
                                  refine L_seq ?_
                                  refine L_stmt ?_
                                  refine L_reg ?_
                                  refine G_p (v := .lst (List.map encT l35) false) rfl rfl rfl ?_
                                  refine G_h rfl rfl rfl (lenL_ev rfl (List.length_map _)) ?_
                                  refine G_p rfl rfl rfl ?_
                                  refine G_nil ?_
                                  refine L_nil ?_
                                  refine Sm_norm (e2 := [(2, .ptr 1 0), (11, .ptr 2 0), (114, .lst (List.map encT l35) false), (115, .int .i64 ((List.length l35 : Nat) : Int)), (116, .int .i64 0)]) (H1 := [(kg011 d1), kg010, kg010]) (H2 := [(kg011 d1), kg010, kg010]) rfl (by repeat (first | exact rzz | apply rcc rfl | apply rnn rfl)) rfl (?_ : GL _ _ _ _ _)
                                  refine L_block ?_
                                  obtain ⟨hLq181, hr⟩ := guard_s hr
                                  replace hLq181 := okLen_s hLq181
                                  refine L_range (X := Ty) (S := Bool × Int × Int × Bool × List Ty × Int × Bool × List Ty) l35 (fun i183 s => [(116, .int .i64 ((i183 : Nat) : Int)), (2, .ptr 1 0), (11, .ptr 2 0), (114, .lst (List.map encT l35) false), (115, .int .i64 ((List.length l35 : Nat) : Int))]) (fun i183 s => [(kg011 d1), kg010, .cells [.bool s.1, .int .i64 s.2.1, .int .i64 s.2.2.1, .lst (List.map encT s.2.2.2.2.1) s.2.2.2.1, .int .i64 s.2.2.2.2.2.1, .lst (List.map encT s.2.2.2.2.2.2.2) s.2.2.2.2.2.2.1]]) (fun rest i183 s => g_types_of_l3 rest i183 s.1 s.2.1 s.2.2.1 s.2.2.2.1 s.2.2.2.2.1 s.2.2.2.2.2.1 s.2.2.2.2.2.2.1 s.2.2.2.2.2.2.2 = some r) ((false, 0, 0, true, [], 0, true, [])) ?_ rfl hr ?_ ?_
                                  · show restr _ _ = [(116, .int .i64 ((0 : Nat) : Int)), (2, .ptr 1 0), (11, .ptr 2 0), (114, .lst (List.map encT l35) false), (115, .int .i64 ((List.length l35 : Nat) : Int))]
                                    (repeat (first | exact rzz | apply rcc rfl | apply rnn rfl))
                                  · rintro ⟨b159, a160, a161, f162, l163, a164, f165, l166⟩ hr
                                    show GL _ _ [(116, .int .i64 (((List.length l35) : Nat) : Int)), (2, .ptr 1 0), (11, .ptr 2 0), (114, .lst (List.map encT l35) false), (115, .int .i64 ((List.length l35 : Nat) : Int))] [(kg011 d1), kg010, .cells [.bool b159, .int .i64 a160, .int .i64 a161, .lst (List.map encT l163) f162, .int .i64 a164, .lst (List.map encT l166) f165]] _
                                    replace hr : g_types_of_l3 [] (List.length l35) b159 a160 a161 f162 l163 a164 f165 l166 = some r := hr
                                    rw [g_types_of_l3] at hr
                                    refine L_seq ?_
                                    refine L_stmt ?_
                                    refine L_reg ?_
                                    refine G_v (.bool false) rfl rfl rfl (congrArg AVal.bool (decide_eq_false (by omega))) ?_
                                    refine G_nil ?_
                                    refine L_nil ?_
                                    refine Sm_norm (e2 := [(2, .ptr 1 0), (11, .ptr 2 0), (114, .lst (List.map encT l35) false), (115, .int .i64 ((List.length l35 : Nat) : Int)), (116, .int .i64 ((List.length l35 : Nat) : Int)), (117, .bool false)]) (H1 := [(kg011 d1), kg010, .cells [.bool b159, .int .i64 a160, .int .i64 a161, .lst (List.map encT l163) f162, .int .i64 a164, .lst (List.map encT l166) f165]]) (H2 := [(kg011 d1), kg010, .cells [.bool b159, .int .i64 a160, .int .i64 a161, .lst (List.map encT l163) f162, .int .i64 a164, .lst (List.map encT l166) f165]]) rfl (by repeat (first | exact rzz | apply rcc rfl | apply rnn rfl)) rfl (?_ : GL _ _ _ _ _)
                                    refine L_seq ?_
                                    refine L_stmt ?_
                                    refine L_F rfl rfl ?_
                                    refine L_exit ?_
                                    refine Sm_exit ?_
                                    refine Rd_exit ?_
                                    refine Blk_exit (?_ : GL _ _ _ _ _)
                                    refine L_nil ?_
                                    exact Sm_norm (e2 := [(2, .ptr 1 0), (11, .ptr 2 0)]) (H1 := [(kg011 d1), kg010, .cells [.bool b159, .int .i64 a160, .int .i64 a161, .lst (List.map encT l163) f162, .int .i64 a164, .lst (List.map encT l166) f165]]) (H2 := [(kg011 d1), kg010, .cells [.bool b159, .int .i64 a160, .int .i64 a161, .lst (List.map encT l163) f162, .int .i64 a164, .lst (List.map encT l166) f165]]) rfl (by repeat (first | exact rzz | apply rcc rfl | apply rnn rfl)) rfl ⟨(b159, a160, a161, f162, l163, a164, f165, l166), rfl, rfl, hr⟩
                                  · rintro y182 rest184 i183 ⟨b159, a160, a161, f162, l163, a164, f165, l166⟩ hy182 hlti183 hr
                                    show GL _ _ [(116, .int .i64 ((i183 : Nat) : Int)), (2, .ptr 1 0), (11, .ptr 2 0), (114, .lst (List.map encT l35) false), (115, .int .i64 ((List.length l35 : Nat) : Int))] [(kg011 d1), kg010, .cells [.bool b159, .int .i64 a160, .int .i64 a161, .lst (List.map encT l163) f162, .int .i64 a164, .lst (List.map encT l166) f165]] _
                                    replace hr : g_types_of_l3 (y182 :: rest184) i183 b159 a160 a161 f162 l163 a164 f165 l166 = some r := hr
                                    rw [g_types_of_l3] at hr
                                    refine L_seq ?_
                                    refine L_stmt ?_
                                    refine L_reg ?_
                                    refine G_v (.bool true) rfl rfl rfl (congrArg AVal.bool (decide_eq_true (by omega))) ?_
                                    refine G_nil ?_
                                    refine L_nil ?_
                                    refine Sm_norm (e2 := [(2, .ptr 1 0), (11, .ptr 2 0), (114, .lst (List.map encT l35) false), (115, .int .i64 ((List.length l35 : Nat) : Int)), (116, .int .i64 ((i183 : Nat) : Int)), (117, .bool true)]) (H1 := [(kg011 d1), kg010, .cells [.bool b159, .int .i64 a160, .int .i64 a161, .lst (List.map encT l163) f162, .int .i64 a164, .lst (List.map encT l166) f165]]) (H2 := [(kg011 d1), kg010, .cells [.bool b159, .int .i64 a160, .int .i64 a161, .lst (List.map encT l163) f162, .int .i64 a164, .lst (List.map encT l166) f165]]) rfl (by repeat (first | exact rzz | apply rcc rfl | apply rnn rfl)) rfl (?_ : GL _ _ _ _ _)
                                    refine L_seq ?_
                                    refine L_stmt ?_
                                    refine L_T rfl rfl ?_
                                    refine L_skip ?_
                                    refine L_nil ?_
                                    refine Sm_norm (e2 := [(2, .ptr 1 0), (11, .ptr 2 0), (114, .lst (List.map encT l35) false), (115, .int .i64 ((List.length l35 : Nat) : Int)), (116, .int .i64 ((i183 : Nat) : Int))]) (H1 := [(kg011 d1), kg010, .cells [.bool b159, .int .i64 a160, .int .i64 a161, .lst (List.map encT l163) f162, .int .i64 a164, .lst (List.map encT l166) f165]]) (H2 := [(kg011 d1), kg010, .cells [.bool b159, .int .i64 a160, .int .i64 a161, .lst (List.map encT l163) f162, .int .i64 a164, .lst (List.map encT l166) f165]]) rfl (by repeat (first | exact rzz | apply rcc rfl | apply rnn rfl)) rfl (?_ : GL _ _ _ _ _)
                                    refine L_seq ?_
                                    refine L_stmt ?_
                                    refine L_block ?_
                                    refine L_seq ?_
                                    refine L_stmt ?_
                                    refine L_reg ?_
                                    refine G_h (v := .ro [.bool y182.all, .int .i64 y182.flat, .int .i64 y182.pair, .lst (List.map encT y182.pairs) false, .int .i64 y182.fn, .lst (List.map encT y182.funs) false]) rfl rfl rfl (ia_ev (cells := [.bool y182.all, .int .i64 y182.flat, .int .i64 y182.pair, .lst (List.map encT y182.pairs) false, .int .i64 y182.fn, .lst (List.map encT y182.funs) false]) rfl rfl (Int.natCast_nonneg _) (map_get (x := y182) (by rw [Int.toNat_natCast]; exact hy182)) (encT_flat _) rfl) ?_
                                    refine G_h (v := .agg (cT y182)) rfl rfl rfl (fun _ => rfl) ?_
                                    refine G_n (B := kg010) rfl rfl rfl ?_
                                    refine G_hn (H' := [(kg011 d1), kg010, .cells [.bool b159, .int .i64 a160, .int .i64 a161, .lst (List.map encT l163) f162, .int .i64 a164, .lst (List.map encT l166) f165], .cells [.bool y182.all, .int .i64 y182.flat, .int .i64 y182.pair, .lst (List.map encT y182.pairs) false, .int .i64 y182.fn, .lst (List.map encT y182.funs) false]]) rfl rfl rfl (fun _ => rfl) ?_
                                    refine G_nil ?_
                                    refine L_nil ?_
                                    refine Sm_norm (e2 := [(2, .ptr 1 0), (11, .ptr 2 0), (13, .ptr 3 0), (114, .lst (List.map encT l35) false), (115, .int .i64 ((List.length l35 : Nat) : Int)), (116, .int .i64 ((i183 : Nat) : Int))]) (H1 := [(kg011 d1), kg010, .cells [.bool b159, .int .i64 a160, .int .i64 a161, .lst (List.map encT l163) f162, .int .i64 a164, .lst (List.map encT l166) f165], .cells [.bool y182.all, .int .i64 y182.flat, .int .i64 y182.pair, .lst (List.map encT y182.pairs) false, .int .i64 y182.fn, .lst (List.map encT y182.funs) false]]) (H2 := [(kg011 d1), kg010, .cells [.bool b159, .int .i64 a160, .int .i64 a161, .lst (List.map encT l163) f162, .int .i64 a164, .lst (List.map encT l166) f165], .cells [.bool y182.all, .int .i64 y182.flat, .int .i64 y182.pair, .lst (List.map encT y182.pairs) false, .int .i64 y182.fn, .lst (List.map encT y182.funs) false]]) rfl (by repeat (first | exact rzz | apply rcc rfl | apply rnn rfl)) rfl (?_ : GL _ _ _ _ _)
                                    refine L_reg ?_
                                    refine G_h (v := .agg [.bool b159, .int .i64 a160, .int .i64 a161, .lst (List.map encT l163) f162, .int .i64 a164, .lst (List.map encT l166) f165]) rfl rfl rfl (fun _ => rfl) ?_
                                    refine G_h (v := .agg (cT y182)) rfl rfl rfl (fun _ => rfl) ?_
                                    obtain ⟨r186, hr186, hr⟩ := bind_s hr
                                    refine G_c 18 rfl rfl (CA_of (as := [.agg (cT (Ty.mk b159 a160 a161 l163 a164 l166)), .agg (cT y182)]) rfl (oJoin_ok hr186)) ?_
                                    refine G_hn (H' := [(kg011 d1), kg010, .cells [.bool r186.all, .int .i64 r186.flat, .int .i64 r186.pair, .lst (List.map encT r186.pairs) false, .int .i64 r186.fn, .lst (List.map encT r186.funs) false], .cells [.bool y182.all, .int .i64 y182.flat, .int .i64 y182.pair, .lst (List.map encT y182.pairs) false, .int .i64 y182.fn, .lst (List.map encT y182.funs) false]]) rfl rfl rfl (fun _ => rfl) ?_
                                    refine G_nil ?_
                                    refine L_nil ?_
                                    refine Blk_norm (?_ : GL _ _ _ _ _)
                                    refine L_nil ?_
                                    refine Sm_norm (e2 := [(2, .ptr 1 0), (11, .ptr 2 0), (114, .lst (List.map encT l35) false), (115, .int .i64 ((List.length l35 : Nat) : Int)), (116, .int .i64 ((i183 : Nat) : Int))]) (H1 := [(kg011 d1), kg010, .cells [.bool r186.all, .int .i64 r186.flat, .int .i64 r186.pair, .lst (List.map encT r186.pairs) false, .int .i64 r186.fn, .lst (List.map encT r186.funs) false], .cells [.bool y182.all, .int .i64 y182.flat, .int .i64 y182.pair, .lst (List.map encT y182.pairs) false, .int .i64 y182.fn, .lst (List.map encT y182.funs) false]]) (H2 := [(kg011 d1), kg010, .cells [.bool r186.all, .int .i64 r186.flat, .int .i64 r186.pair, .lst (List.map encT r186.pairs) false, .int .i64 r186.fn, .lst (List.map encT r186.funs) false]]) rfl (by repeat (first | exact rzz | apply rcc rfl | apply rnn rfl)) rfl (?_ : GL _ _ _ _ _)
                                    refine L_reg ?_
                                    refine G_v (.int .i64 ((i183 + 1 : Nat) : Int)) rfl rfl rfl (congrArg _ (wrap_next hLq181 hlti183)) ?_
                                    refine G_p rfl rfl rfl ?_
                                    refine G_nil ?_
                                    refine L_nil ?_
                                    refine Rd_norm ⟨(r186.all, r186.flat, r186.pair, false, r186.pairs, r186.fn, false, r186.funs), ?_, rfl, hr⟩
                                    show restr _ _ = [(116, .int .i64 (((i183 + 1) : Nat) : Int)), (2, .ptr 1 0), (11, .ptr 2 0), (114, .lst (List.map encT l35) false), (115, .int .i64 ((List.length l35 : Nat) : Int))]
                                    (repeat (first | exact rzz | apply rcc rfl | apply rnn rfl))
                                · rintro ⟨b138, a139, a140, f141, l142, a143, f144, l145⟩ hr
                                  show GL _ _ [(2, .ptr 1 0), (11, .ptr 2 0)] [(kg011 d1), kg010, (kg09 b138 a139 a140 l142 f141 a143 l145 f144)] _
                                  replace hr : g_types_of_j2 b138 a139 a140 f141 l142 a143 f144 l145 = some r := hr
                                  unfold g_types_of_j2 at hr
                                  refine L_seq ?_
                                  refine L_reg ?_
                                  refine G_h (v := .agg [.bool b138, .int .i64 a139, .int .i64 a140, .lst (List.map encT l142) f141, .int .i64 a143, .lst (List.map encT l145) f144]) rfl rfl rfl (fun _ => rfl) ?_
                                  refine G_hn (H' := [(kg011 d1), (kg09 b138 a139 a140 l142 f141 a143 l145 f144), (kg09 b138 a139 a140 l142 f141 a143 l145 f144)]) rfl rfl rfl (fun _ => rfl) ?_
                                  refine G_p rfl rfl rfl ?_
                                  refine G_nil ?_
                                  refine L_ret ?_
                                  refine Blk_ret ?_
                                  refine Sm_ret ?_
                                  have hr := some_s hr
                                  subst hr
                                  exact ⟨_, rfl, _, rfl, rfl⟩
                              · refine L_F rfl hc111 ?_
                                refine L_skip ?_
                                refine L_nil ?_
                                refine Blk_norm (?_ : GL _ _ _ _ _)
                                refine L_nil ?_
                                exact Sm_norm (e2 := [(2, .ptr 1 0)]) (H1 := [(kg011 d1), kg010]) (H2 := [(kg011 d1), kg010]) rfl (by repeat (first | exact rzz | apply rcc rfl | apply rnn rfl)) rfl ⟨(), rfl, rfl, hr⟩
            · rintro ⟨⟩ hr
              show GL _ _ [(2, .ptr 1 0)] [(kg011 d1), kg010] _
              replace hr : g_types_of_j1 = some r := hr
              unfold g_types_of_j1 at hr
              refine L_seq ?_
              refine L_reg ?_
              refine G_p (v := .agg [.bool false, .int .i64 0, .int .i64 0, .lst [] true, .int .i64 0, .lst [] true]) rfl rfl rfl ?_
              refine G_hn (H' := [(kg011 d1), kg010]) rfl rfl rfl (fun _ => rfl) ?_
              refine G_p rfl rfl rfl ?_
              refine G_nil ?_
              refine L_ret ?_
              have hr := some_s hr
              subst hr
              exact ⟨_, rfl, _, rfl, rfl⟩
noncomputable def g_types_of : Nat → Dt → Option (Ty × Bool)
  | 0, _ => none
  | n + 1, d1 => g_types_of_b (g_types_of n) d1
theorem g_types_of_ok : ∀ (n : Nat) {d1 : Dt} {r : Ty × Bool} (hr : g_types_of n d1 = some r), PRes (tabOf tabL) 40 [.agg (cDt d1)] (.tup [.agg (cT r.1), .bool r.2])
  | 0, _, _, hr => by cases hr
  | n + 1, _, _, hr => g_types_of_b_ok (fun _ _ h => g_types_of_ok n h) hr
noncomputable def g_types_Read (n : Nat) (d1 : Dt) : Option (Ty × Int) :=
  ((g_types_of n d1).bind fun r2 => (cond (!r2.2) (some ((Ty.mk false 0 0 [] 0 []), 2)) ((oRight r2.1).bind fun r4 => (cond (!r4) (some ((Ty.mk false 0 0 [] 0 []), 13)) (some (r2.1, 0))))))
abbrev kg012 : ABlock := .cells [.bool false, .int .i64 0, .int .i64 0, .lst [] true, .int .i64 0, .lst [] true]
abbrev kg013 (d1 : Dt) : ABlock := .cells [.int .i64 d1.kind, .str d1.text, .lst (List.map encDt d1.list) false]
theorem g_types_Read_ok {n : Nat} {d1 : Dt} {r : Ty × Int} (hr : g_types_Read n d1 = some r) : PRes (tabOf tabL) 29 [.agg (cDt d1)] (.tup [.agg (cT r.1), .int .i64 r.2]) := by
  refine pres_fin t29 ?_
  unfold g_types_Read at hr
  refine L_seq ?_
  refine L_stmt ?_
  refine L_reg ?_
  refine G_n (B := (kg013 d1)) rfl rfl rfl ?_
  refine G_n (B := kg012) rfl rfl rfl ?_
  refine G_p rfl rfl rfl ?_
  refine G_nil ?_
  refine L_nil ?_
  refine Sm_norm (e2 := [(1, .ptr 0 0), (2, .ptr 1 0)]) (H1 := [(kg013 d1), kg012]) (H2 := [(kg013 d1), kg012]) rfl (by repeat (first | exact rzz | apply rcc rfl | apply rnn rfl)) rfl (?_ : GL _ _ _ _ _)
  refine L_seq ?_
  refine L_stmt ?_
  refine L_reg ?_
  refine G_h (v := .agg (cDt d1)) rfl rfl rfl (fun _ => rfl) ?_
  obtain ⟨r2, hr2, hr⟩ := bind_s hr
  refine G_c 40 rfl rfl (CA_of (as := [.agg (cDt d1)]) rfl (g_types_of_ok n hr2)) ?_
  refine G_p (v := .tup [.agg (cT r2.1), .bool r2.2]) rfl rfl rfl ?_
  refine G_p (v := .agg (cT r2.1)) rfl rfl rfl ?_
  refine G_p rfl rfl rfl ?_
  refine G_n (B := kg012) rfl rfl rfl ?_
  refine G_hn (H' := [(kg013 d1), kg012, .cells [.bool r2.1.all, .int .i64 r2.1.flat, .int .i64 r2.1.pair, .lst (List.map encT r2.1.pairs) false, .int .i64 r2.1.fn, .lst (List.map encT r2.1.funs) false]]) rfl rfl rfl (fun _ => rfl) ?_
  refine G_p rfl rfl rfl ?_
  refine G_nil ?_
  refine L_nil ?_
  refine Sm_norm (e2 := [(2, .ptr 1 0), (4, .ptr 2 0), (5, .bool r2.2)]) (H1 := [(kg013 d1), kg012, .cells [.bool r2.1.all, .int .i64 r2.1.flat, .int .i64 r2.1.pair, .lst (List.map encT r2.1.pairs) false, .int .i64 r2.1.fn, .lst (List.map encT r2.1.funs) false]]) (H2 := [(kg013 d1), kg012, .cells [.bool r2.1.all, .int .i64 r2.1.flat, .int .i64 r2.1.pair, .lst (List.map encT r2.1.pairs) false, .int .i64 r2.1.fn, .lst (List.map encT r2.1.funs) false]]) rfl (by repeat (first | exact rzz | apply rcc rfl | apply rnn rfl)) rfl (?_ : GL _ _ _ _ _)
  refine L_seq ?_
  refine L_stmt ?_
  refine L_block ?_
  refine L_seq ?_
  refine L_stmt ?_
  refine L_reg ?_
  refine G_p rfl rfl rfl ?_
  refine G_p rfl rfl rfl ?_
  refine G_p rfl rfl rfl ?_
  refine G_nil ?_
  refine L_nil ?_
  refine Sm_norm (e2 := [(2, .ptr 1 0), (4, .ptr 2 0), (11, .bool (!r2.2))]) (H1 := [(kg013 d1), kg012, .cells [.bool r2.1.all, .int .i64 r2.1.flat, .int .i64 r2.1.pair, .lst (List.map encT r2.1.pairs) false, .int .i64 r2.1.fn, .lst (List.map encT r2.1.funs) false]]) (H2 := [(kg013 d1), kg012, .cells [.bool r2.1.all, .int .i64 r2.1.flat, .int .i64 r2.1.pair, .lst (List.map encT r2.1.pairs) false, .int .i64 r2.1.fn, .lst (List.map encT r2.1.funs) false]]) rfl (by repeat (first | exact rzz | apply rcc rfl | apply rnn rfl)) rfl (?_ : GL _ _ _ _ _)
  rcases cond_s hr with ⟨hc11, hr⟩ | ⟨hc11, hr⟩
  · refine L_T rfl hc11 ?_
    refine L_seq ?_
    refine L_reg ?_
    refine G_p (v := .agg [.bool false, .int .i64 0, .int .i64 0, .lst [] true, .int .i64 0, .lst [] true]) rfl rfl rfl ?_
    refine G_hn (H' := [(kg013 d1), kg012, .cells [.bool r2.1.all, .int .i64 r2.1.flat, .int .i64 r2.1.pair, .lst (List.map encT r2.1.pairs) false, .int .i64 r2.1.fn, .lst (List.map encT r2.1.funs) false]]) rfl rfl rfl (fun _ => rfl) ?_
    refine G_p rfl rfl rfl ?_
    refine G_nil ?_
    refine L_ret ?_
    refine Blk_ret ?_
    refine Sm_ret ?_
    have hr := some_s hr
    subst hr
    exact ⟨_, rfl, _, rfl, rfl⟩
  · refine L_F rfl hc11 ?_
    refine L_seq ?_
    refine L_stmt ?_
    refine L_reg ?_
    refine G_h (v := .agg (cT r2.1)) rfl rfl rfl (fun _ => rfl) ?_
    obtain ⟨r4, hr4, hr⟩ := bind_s hr
    refine G_c 10 rfl rfl (CA_of (as := [.agg (cT r2.1)]) rfl (oRight_ok hr4)) ?_
    refine G_p rfl rfl rfl ?_
    refine G_p rfl rfl rfl ?_
    refine G_nil ?_
    refine L_nil ?_
    refine Sm_norm (e2 := [(2, .ptr 1 0), (4, .ptr 2 0), (15, .bool (!r4))]) (H1 := [(kg013 d1), kg012, .cells [.bool r2.1.all, .int .i64 r2.1.flat, .int .i64 r2.1.pair, .lst (List.map encT r2.1.pairs) false, .int .i64 r2.1.fn, .lst (List.map encT r2.1.funs) false]]) (H2 := [(kg013 d1), kg012, .cells [.bool r2.1.all, .int .i64 r2.1.flat, .int .i64 r2.1.pair, .lst (List.map encT r2.1.pairs) false, .int .i64 r2.1.fn, .lst (List.map encT r2.1.funs) false]]) rfl (by repeat (first | exact rzz | apply rcc rfl | apply rnn rfl)) rfl (?_ : GL _ _ _ _ _)
    rcases cond_s hr with ⟨hc15, hr⟩ | ⟨hc15, hr⟩
    · refine L_T rfl hc15 ?_
      refine L_seq ?_
      refine L_reg ?_
      refine G_p (v := .agg [.bool false, .int .i64 0, .int .i64 0, .lst [] true, .int .i64 0, .lst [] true]) rfl rfl rfl ?_
      refine G_hn (H' := [(kg013 d1), kg012, .cells [.bool r2.1.all, .int .i64 r2.1.flat, .int .i64 r2.1.pair, .lst (List.map encT r2.1.pairs) false, .int .i64 r2.1.fn, .lst (List.map encT r2.1.funs) false]]) rfl rfl rfl (fun _ => rfl) ?_
      refine G_p rfl rfl rfl ?_
      refine G_nil ?_
      refine L_ret ?_
      refine Blk_ret ?_
      refine Sm_ret ?_
      have hr := some_s hr
      subst hr
      exact ⟨_, rfl, _, rfl, rfl⟩
    · refine L_F rfl hc15 ?_
      refine L_skip ?_
      refine L_nil ?_
      refine Blk_norm (?_ : GL _ _ _ _ _)
      refine L_nil ?_
      refine Sm_norm (e2 := [(2, .ptr 1 0), (4, .ptr 2 0)]) (H1 := [(kg013 d1), kg012, .cells [.bool r2.1.all, .int .i64 r2.1.flat, .int .i64 r2.1.pair, .lst (List.map encT r2.1.pairs) false, .int .i64 r2.1.fn, .lst (List.map encT r2.1.funs) false]]) (H2 := [(kg013 d1), kg012, .cells [.bool r2.1.all, .int .i64 r2.1.flat, .int .i64 r2.1.pair, .lst (List.map encT r2.1.pairs) false, .int .i64 r2.1.fn, .lst (List.map encT r2.1.funs) false]]) rfl (by repeat (first | exact rzz | apply rcc rfl | apply rnn rfl)) rfl (?_ : GL _ _ _ _ _)
      refine L_seq ?_
      refine L_reg ?_
      refine G_h (v := .agg (cT r2.1)) rfl rfl rfl (fun _ => rfl) ?_
      refine G_hn (H' := [(kg013 d1), .cells [.bool r2.1.all, .int .i64 r2.1.flat, .int .i64 r2.1.pair, .lst (List.map encT r2.1.pairs) false, .int .i64 r2.1.fn, .lst (List.map encT r2.1.funs) false], .cells [.bool r2.1.all, .int .i64 r2.1.flat, .int .i64 r2.1.pair, .lst (List.map encT r2.1.pairs) false, .int .i64 r2.1.fn, .lst (List.map encT r2.1.funs) false]]) rfl rfl rfl (fun _ => rfl) ?_
      refine G_p rfl rfl rfl ?_
      refine G_nil ?_
      refine L_ret ?_
      have hr := some_s hr
      subst hr
      exact ⟨_, rfl, _, rfl, rfl⟩
noncomputable def g_datum_Word (s1 : List UInt8) : Option Dt :=
  some (Dt.mk 1 s1 [])
theorem g_datum_Word_ok {s1 : List UInt8} {r : Dt} (hr : g_datum_Word s1 = some r) : PRes (tabOf tabL) 44 [.str s1] (.agg (cDt r)) := by
  refine pres_fin t44 ?_
  unfold g_datum_Word at hr
  refine L_seq ?_
  refine L_stmt ?_
  refine L_reg ?_
  refine G_n (B := .cells [.int .i64 0, .str [], .lst [] true]) rfl rfl rfl ?_
  refine G_nil ?_
  refine L_nil ?_
  refine Sm_norm (e2 := [(0, .str s1), (2, .ptr 0 0)]) (H1 := [.cells [.int .i64 0, .str [], .lst [] true]]) (H2 := [.cells [.int .i64 0, .str [], .lst [] true]]) rfl (by repeat (first | exact rzz | apply rcc rfl | apply rnn rfl)) rfl (?_ : GL _ _ _ _ _)
  refine L_seq ?_
  refine L_reg ?_
  refine G_p rfl rfl rfl ?_
  refine G_p (v := .agg [.int .i64 1, .str s1, .lst [] true]) rfl rfl rfl ?_
  refine G_hn (H' := [.cells [.int .i64 1, .str s1, .lst [] true]]) rfl rfl rfl (fun _ => rfl) ?_
  refine G_nil ?_
  refine L_ret ?_
  have hr := some_s hr
  subst hr
  exact ⟨_, rfl, _, rfl, rfl⟩
noncomputable def g_datum_Row (l1 : List Dt) : Option Dt :=
  (cond (okLen l1) (some (Dt.mk 5 [] l1)) none)
theorem g_datum_Row_ok {l1 : List Dt} {r : Dt} (hr : g_datum_Row l1 = some r) : PRes (tabOf tabL) 46 [.lst (List.map encDt l1) false] (.agg (cDt r)) := by
  refine pres_fin t46 ?_
  unfold g_datum_Row at hr
  refine L_seq ?_
  refine L_stmt ?_
  refine L_reg ?_
  refine G_n (B := .cells [.int .i64 0, .str [], .lst [] true]) rfl rfl rfl ?_
  refine G_nil ?_
  refine L_nil ?_
  refine Sm_norm (e2 := [(0, .lst (List.map encDt l1) false), (2, .ptr 0 0)]) (H1 := [.cells [.int .i64 0, .str [], .lst [] true]]) (H2 := [.cells [.int .i64 0, .str [], .lst [] true]]) rfl (by repeat (first | exact rzz | apply rcc rfl | apply rnn rfl)) rfl (?_ : GL _ _ _ _ _)
  refine L_seq ?_
  refine L_reg ?_
  refine G_p (v := .lst (List.map encDt l1) false) rfl rfl rfl ?_
  obtain ⟨hLq2, hr⟩ := guard_s hr
  rcases emp_or l1 with hEq2 | hEq2
  · skip
    refine G_c 51 rfl rfl (CA_raw (clone_e (f := encDt) (ys := l1) t51 encDt_w1 rfl hEq2) (by simp [cutH] <;> rfl)) ?_
    refine G_p (v := .agg [.int .i64 5, .str [], .lst (List.map encDt l1) true]) rfl rfl rfl ?_
    refine G_hn (H' := [.cells [.int .i64 5, .str [], .lst (List.map encDt l1) true]]) rfl rfl rfl (fun _ => rfl) ?_
    refine G_nil ?_
    refine L_ret ?_
    have hr := some_s hr
    subst hr
    exact ⟨_, rfl, _, rfl, rfl⟩
  · skip
    refine G_c 51 rfl rfl (CA_raw (clone_n (f := encDt) (ys := l1) t51 encDt_w1 (by decide) rfl hEq2 hLq2) (by simp [cutH, lowV] <;> rfl)) ?_
    refine G_p (v := .agg [.int .i64 5, .str [], .gl 1 (List.length l1)]) rfl rfl rfl ?_
    refine G_hn (H' := [.cells [.int .i64 5, .str [], .gl 1 (List.length l1)], growM 3 encDt l1]) rfl rfl rfl (fun _ => rfl) ?_
    refine G_nil ?_
    refine L_ret ?_
    have hr := some_s hr
    subst hr
    exact ⟨_, rfl, _, (shutR_agg (shutRL_cons rfl (shutRL_cons rfl (shutRL_cons (shutR_gl rfl) rfl)))), rfl⟩
noncomputable def g_xtold_types_told_1_4_j1 (l44 : List Dt) (l121 : List Dt) : Option (List Dt) :=
  ((g_datum_Row l121).bind fun r122 => ((catL l44 [r122]).bind fun l123 => some l123))
noncomputable def g_xtold_types_told_1_4_l2 (rec : Ty → Option Dt) (l44 : List Dt) : List Ty → Nat → (List Dt) → Option (List Dt)
  | [], _, l132 => g_xtold_types_told_1_4_j1 l44 l132
  | y143 :: rest145, i144, l132 => ((rec y143).bind fun r148 => ((catL l132 [r148]).bind fun l149 => (g_xtold_types_told_1_4_l2 rec l44 rest145 (i144 + 1)) l149))
noncomputable def g_xtold_types_told_1_4 (rec : Ty → Option Dt) (t1 : Ty) (l44 : List Dt) (a45 : Int) (a46 : Int) (a47 : Int) (a48 : Int) (s62 : List UInt8) (l63 : List Ty) : Option (List Dt) :=
  ((g_datum_Word s62).bind fun r94 => (cond (okLen l63) (g_xtold_types_told_1_4_l2 rec l44 l63 0 [r94]) none))
abbrev kg014 (t1 : Ty) (a45 : Int) (a46 : Int) (a47 : Int) : ABlock := .cells [.bool t1.all, .int .i64 a45, .int .i64 a46, .lst (List.map encT t1.pairs) false, .int .i64 a47, .lst (List.map encT t1.funs) false]
theorem g_xtold_types_told_1_4_ok {rec : Ty → Option Dt} {t1 : Ty} {l44 : List Dt} {a45 : Int} {a46 : Int} {a47 : Int} {a48 : Int} {s62 : List UInt8} {l63 : List Ty} {r : List Dt} (hrec : ∀ (a0 : Ty) (r : Dt), rec a0 = some r → PRes (tabOf tabL) 39 [.agg (cT a0)] (.agg (cDt r))) (hr : g_xtold_types_told_1_4 rec t1 l44 a45 a46 a47 a48 s62 l63 = some r) : CA (tabOf tabL) false 45 [.str s62, .lst (List.map encT l63) false, .ptr 2 0] [(kg014 t1 a45 a46 a47), .cells [.int .i64 a48, .str [], .lst [] true], .cells [.gl 3 (List.length l44)], growM 3 encDt l44] (.tup []) [(kg014 t1 a45 a46 a47), .cells [.int .i64 a48, .str [], .lst [] true], .cells [.gl 3 (List.length r)], growM 3 encDt r] := by
  refine ca_fin t45 (Or.inr rfl) ?_
  unfold g_xtold_types_told_1_4 at hr
  refine L_seq ?_
  refine L_stmt ?_
  refine L_reg ?_
  refine G_p rfl rfl rfl ?_
  obtain ⟨r94, hr94, hr⟩ := bind_s hr
  refine G_c 44 rfl rfl (CA_of (as := [.str s62]) rfl (g_datum_Word_ok hr94)) ?_
  refine G_h (v := .lst (List.map encDt [r94]) true) rfl rfl rfl (fun _ => Eq.trans (b := some (Ex.ok (AVal.lst [.agg (cDt r94)] true), _)) rfl (congrArg (fun z => some (Ex.ok (AVal.lst z true), _)) (by first | rfl | (simp only [List.map_cons, List.map_nil, encDt_eq] <;> rfl)))) ?_
  refine G_p (v := .lst (List.map encDt [r94]) true) rfl rfl rfl ?_
  refine G_nil ?_
  refine L_nil ?_
  refine Sm_norm (e2 := [(1, .lst (List.map encT l63) false), (2, .ptr 2 0), (5, .lst (List.map encDt [r94]) true)]) (H1 := [(kg014 t1 a45 a46 a47), .cells [.int .i64 a48, .str [], .lst [] true], .cells [.gl 3 (List.length l44)], growM 3 encDt l44]) (H2 := [(kg014 t1 a45 a46 a47), .cells [.int .i64 a48, .str [], .lst [] true], .cells [.gl 3 (List.length l44)], growM 3 encDt l44]) rfl (by repeat (first | exact rzz | apply rcc rfl | apply rnn rfl)) rfl (?_ : GL _ _ _ _ _)
  refine L_seq ?_
  refine L_stmtJ (S := List Dt) (fun s => [(2, .ptr 2 0), (5, .lst (List.map encDt s) false)]) (fun s => [(kg014 t1 a45 a46 a47), .cells [.int .i64 a48, .str [], .lst [] true], .cells [.gl 3 (List.length l44)], growM 3 encDt l44]) (fun s => g_xtold_types_told_1_4_j1 l44 s = some r) ?_ ?_
  · skip
    refine L_seq ?_
    refine L_stmt ?_
    refine L_reg ?_
    refine G_p (v := .lst (List.map encT l63) false) rfl rfl rfl ?_
    refine G_h rfl rfl rfl (lenL_ev rfl (List.length_map _)) ?_
    refine G_p rfl rfl rfl ?_
    refine G_nil ?_
    refine L_nil ?_
    refine Sm_norm (e2 := [(2, .ptr 2 0), (5, .lst (List.map encDt [r94]) true), (11, .lst (List.map encT l63) false), (12, .int .i64 ((List.length l63 : Nat) : Int)), (13, .int .i64 0)]) (H1 := [(kg014 t1 a45 a46 a47), .cells [.int .i64 a48, .str [], .lst [] true], .cells [.gl 3 (List.length l44)], growM 3 encDt l44]) (H2 := [(kg014 t1 a45 a46 a47), .cells [.int .i64 a48, .str [], .lst [] true], .cells [.gl 3 (List.length l44)], growM 3 encDt l44]) rfl (by repeat (first | exact rzz | apply rcc rfl | apply rnn rfl)) rfl (?_ : GL _ _ _ _ _)
    refine L_block ?_
    refine L_seq ?_
    refine L_own (H' := [(kg014 t1 a45 a46 a47), .cells [.int .i64 a48, .str [], .lst [] true], .cells [.gl 3 (List.length l44)], growM 3 encDt l44, growM 3 encDt [r94]]) (own_l (l := [r94]) encDt_w1 rfl) ?_
    obtain ⟨hLq142, hr⟩ := guard_s hr
    replace hLq142 := okLen_s hLq142
    refine L_range (X := Ty) (S := List Dt) l63 (fun i144 s => [(5, .gl 4 (List.length s)), (13, .int .i64 ((i144 : Nat) : Int)), (2, .ptr 2 0), (11, .lst (List.map encT l63) false), (12, .int .i64 ((List.length l63 : Nat) : Int))]) (fun i144 s => [(kg014 t1 a45 a46 a47), .cells [.int .i64 a48, .str [], .lst [] true], .cells [.gl 3 (List.length l44)], growM 3 encDt l44, growM 3 encDt s]) (fun rest i144 s => g_xtold_types_told_1_4_l2 rec l44 rest i144 s = some r) ([r94]) ?_ rfl hr ?_ ?_
    · show restr _ _ = [(5, .gl 4 (List.length [r94])), (13, .int .i64 ((0 : Nat) : Int)), (2, .ptr 2 0), (11, .lst (List.map encT l63) false), (12, .int .i64 ((List.length l63 : Nat) : Int))]
      (repeat (first | exact rzz | apply rcc rfl | apply rnn rfl))
    · rintro l132 hr
      show GL _ _ [(5, .gl 4 (List.length l132)), (13, .int .i64 (((List.length l63) : Nat) : Int)), (2, .ptr 2 0), (11, .lst (List.map encT l63) false), (12, .int .i64 ((List.length l63 : Nat) : Int))] [(kg014 t1 a45 a46 a47), .cells [.int .i64 a48, .str [], .lst [] true], .cells [.gl 3 (List.length l44)], growM 3 encDt l44, growM 3 encDt l132] _
      replace hr : g_xtold_types_told_1_4_l2 rec l44 [] (List.length l63) l132 = some r := hr
      rw [g_xtold_types_told_1_4_l2] at hr
      refine L_seq ?_
      refine L_stmt ?_
      refine L_reg ?_
      refine G_v (.bool false) rfl rfl rfl (congrArg AVal.bool (decide_eq_false (by omega))) ?_
      refine G_nil ?_
      refine L_nil ?_
      refine Sm_norm (e2 := [(2, .ptr 2 0), (5, .gl 4 (List.length l132)), (11, .lst (List.map encT l63) false), (12, .int .i64 ((List.length l63 : Nat) : Int)), (13, .int .i64 ((List.length l63 : Nat) : Int)), (14, .bool false)]) (H1 := [(kg014 t1 a45 a46 a47), .cells [.int .i64 a48, .str [], .lst [] true], .cells [.gl 3 (List.length l44)], growM 3 encDt l44, growM 3 encDt l132]) (H2 := [(kg014 t1 a45 a46 a47), .cells [.int .i64 a48, .str [], .lst [] true], .cells [.gl 3 (List.length l44)], growM 3 encDt l44, growM 3 encDt l132]) rfl (by repeat (first | exact rzz | apply rcc rfl | apply rnn rfl)) rfl (?_ : GL _ _ _ _ _)
      refine L_seq ?_
      refine L_stmt ?_
      refine L_F rfl rfl ?_
      refine L_exit ?_
      refine Sm_exit ?_
      refine Rd_exit ?_
      refine Blk_exit (?_ : GL _ _ _ _ _)
      refine L_nil ?_
      exact Sm_norm (e2 := [(2, .ptr 2 0), (5, .lst (List.map encDt l132) false)]) (H1 := [(kg014 t1 a45 a46 a47), .cells [.int .i64 a48, .str [], .lst [] true], .cells [.gl 3 (List.length l44)], growM 3 encDt l44, growM 3 encDt l132]) (H2 := [(kg014 t1 a45 a46 a47), .cells [.int .i64 a48, .str [], .lst [] true], .cells [.gl 3 (List.length l44)], growM 3 encDt l44]) (frz_c (frz_gl rfl rfl) rfl) (by repeat (first | exact rzz | apply rcc rfl | apply rnn rfl)) rfl ⟨l132, rfl, rfl, hr⟩
    · rintro y143 rest145 i144 l132 hy143 hlti144 hr
      show GL _ _ [(5, .gl 4 (List.length l132)), (13, .int .i64 ((i144 : Nat) : Int)), (2, .ptr 2 0), (11, .lst (List.map encT l63) false), (12, .int .i64 ((List.length l63 : Nat) : Int))] [(kg014 t1 a45 a46 a47), .cells [.int .i64 a48, .str [], .lst [] true], .cells [.gl 3 (List.length l44)], growM 3 encDt l44, growM 3 encDt l132] _
      replace hr : g_xtold_types_told_1_4_l2 rec l44 (y143 :: rest145) i144 l132 = some r := hr
      rw [g_xtold_types_told_1_4_l2] at hr
      refine L_seq ?_
      refine L_stmt ?_
      refine L_reg ?_
      refine G_v (.bool true) rfl rfl rfl (congrArg AVal.bool (decide_eq_true (by omega))) ?_
      refine G_nil ?_
      refine L_nil ?_
      refine Sm_norm (e2 := [(2, .ptr 2 0), (5, .gl 4 (List.length l132)), (11, .lst (List.map encT l63) false), (12, .int .i64 ((List.length l63 : Nat) : Int)), (13, .int .i64 ((i144 : Nat) : Int)), (14, .bool true)]) (H1 := [(kg014 t1 a45 a46 a47), .cells [.int .i64 a48, .str [], .lst [] true], .cells [.gl 3 (List.length l44)], growM 3 encDt l44, growM 3 encDt l132]) (H2 := [(kg014 t1 a45 a46 a47), .cells [.int .i64 a48, .str [], .lst [] true], .cells [.gl 3 (List.length l44)], growM 3 encDt l44, growM 3 encDt l132]) rfl (by repeat (first | exact rzz | apply rcc rfl | apply rnn rfl)) rfl (?_ : GL _ _ _ _ _)
      refine L_seq ?_
      refine L_stmt ?_
      refine L_T rfl rfl ?_
      refine L_skip ?_
      refine L_nil ?_
      refine Sm_norm (e2 := [(2, .ptr 2 0), (5, .gl 4 (List.length l132)), (11, .lst (List.map encT l63) false), (12, .int .i64 ((List.length l63 : Nat) : Int)), (13, .int .i64 ((i144 : Nat) : Int))]) (H1 := [(kg014 t1 a45 a46 a47), .cells [.int .i64 a48, .str [], .lst [] true], .cells [.gl 3 (List.length l44)], growM 3 encDt l44, growM 3 encDt l132]) (H2 := [(kg014 t1 a45 a46 a47), .cells [.int .i64 a48, .str [], .lst [] true], .cells [.gl 3 (List.length l44)], growM 3 encDt l44, growM 3 encDt l132]) rfl (by repeat (first | exact rzz | apply rcc rfl | apply rnn rfl)) rfl (?_ : GL _ _ _ _ _)
      refine L_seq ?_
      refine L_stmt ?_
      refine L_block ?_
      refine L_seq ?_
      refine L_stmt ?_
      refine L_reg ?_
      refine G_h (v := .ro [.bool y143.all, .int .i64 y143.flat, .int .i64 y143.pair, .lst (List.map encT y143.pairs) false, .int .i64 y143.fn, .lst (List.map encT y143.funs) false]) rfl rfl rfl (ia_ev (cells := [.bool y143.all, .int .i64 y143.flat, .int .i64 y143.pair, .lst (List.map encT y143.pairs) false, .int .i64 y143.fn, .lst (List.map encT y143.funs) false]) rfl rfl (Int.natCast_nonneg _) (map_get (x := y143) (by rw [Int.toNat_natCast]; exact hy143)) (encT_flat _) rfl) ?_
      refine G_h (v := .agg (cT y143)) rfl rfl rfl (fun _ => rfl) ?_
      refine G_n (B := .cells [.bool false, .int .i64 0, .int .i64 0, .lst [] true, .int .i64 0, .lst [] true]) rfl rfl rfl ?_
      refine G_hn (H' := [(kg014 t1 a45 a46 a47), .cells [.int .i64 a48, .str [], .lst [] true], .cells [.gl 3 (List.length l44)], growM 3 encDt l44, growM 3 encDt l132, .cells [.bool y143.all, .int .i64 y143.flat, .int .i64 y143.pair, .lst (List.map encT y143.pairs) false, .int .i64 y143.fn, .lst (List.map encT y143.funs) false]]) rfl rfl rfl (fun _ => rfl) ?_
      refine G_nil ?_
      refine L_nil ?_
      refine Sm_norm (e2 := [(2, .ptr 2 0), (5, .gl 4 (List.length l132)), (7, .ptr 5 0), (11, .lst (List.map encT l63) false), (12, .int .i64 ((List.length l63 : Nat) : Int)), (13, .int .i64 ((i144 : Nat) : Int))]) (H1 := [(kg014 t1 a45 a46 a47), .cells [.int .i64 a48, .str [], .lst [] true], .cells [.gl 3 (List.length l44)], growM 3 encDt l44, growM 3 encDt l132, .cells [.bool y143.all, .int .i64 y143.flat, .int .i64 y143.pair, .lst (List.map encT y143.pairs) false, .int .i64 y143.fn, .lst (List.map encT y143.funs) false]]) (H2 := [(kg014 t1 a45 a46 a47), .cells [.int .i64 a48, .str [], .lst [] true], .cells [.gl 3 (List.length l44)], growM 3 encDt l44, growM 3 encDt l132, .cells [.bool y143.all, .int .i64 y143.flat, .int .i64 y143.pair, .lst (List.map encT y143.pairs) false, .int .i64 y143.fn, .lst (List.map encT y143.funs) false]]) rfl (by repeat (first | exact rzz | apply rcc rfl | apply rnn rfl)) rfl (?_ : GL _ _ _ _ _)
      refine L_reg ?_
      refine G_p rfl rfl rfl ?_
      refine G_h (v := .agg (cT y143)) rfl rfl rfl (fun _ => rfl) ?_
      obtain ⟨r148, hr148, hr⟩ := bind_s hr
      refine G_c 39 rfl rfl (CA_of (as := [.agg (cT y143)]) rfl (hrec _ _ hr148)) ?_
      refine G_h (v := .lst (List.map encDt [r148]) true) rfl rfl rfl (fun _ => Eq.trans (b := some (Ex.ok (AVal.lst [.agg (cDt r148)] true), _)) rfl (congrArg (fun z => some (Ex.ok (AVal.lst z true), _)) (by first | rfl | (simp only [List.map_cons, List.map_nil, encDt_eq] <;> rfl)))) ?_
      obtain ⟨l149, hl149, hr⟩ := bind_s hr
      refine G_h rfl rfl rfl (appG_ev encDt_w1 (by decide) rfl rfl rfl rfl hl149) ?_
      refine G_p rfl rfl rfl ?_
      refine G_nil ?_
      refine L_nil ?_
      refine Blk_norm (?_ : GL _ _ _ _ _)
      refine L_nil ?_
      refine Sm_norm (e2 := [(2, .ptr 2 0), (5, .gl 4 (List.length l149)), (11, .lst (List.map encT l63) false), (12, .int .i64 ((List.length l63 : Nat) : Int)), (13, .int .i64 ((i144 : Nat) : Int))]) (H1 := [(kg014 t1 a45 a46 a47), .cells [.int .i64 a48, .str [], .lst [] true], .cells [.gl 3 (List.length l44)], growM 3 encDt l44, growM 3 encDt l149, .cells [.bool y143.all, .int .i64 y143.flat, .int .i64 y143.pair, .lst (List.map encT y143.pairs) false, .int .i64 y143.fn, .lst (List.map encT y143.funs) false]]) (H2 := [(kg014 t1 a45 a46 a47), .cells [.int .i64 a48, .str [], .lst [] true], .cells [.gl 3 (List.length l44)], growM 3 encDt l44, growM 3 encDt l149]) rfl (by repeat (first | exact rzz | apply rcc rfl | apply rnn rfl)) rfl (?_ : GL _ _ _ _ _)
      refine L_reg ?_
      refine G_v (.int .i64 ((i144 + 1 : Nat) : Int)) rfl rfl rfl (congrArg _ (wrap_next hLq142 hlti144)) ?_
      refine G_p rfl rfl rfl ?_
      refine G_nil ?_
      refine L_nil ?_
      refine Rd_norm ⟨l149, ?_, rfl, hr⟩
      show restr _ _ = [(5, .gl 4 (List.length l149)), (13, .int .i64 (((i144 + 1) : Nat) : Int)), (2, .ptr 2 0), (11, .lst (List.map encT l63) false), (12, .int .i64 ((List.length l63 : Nat) : Int))]
      (repeat (first | exact rzz | apply rcc rfl | apply rnn rfl))
  · rintro l121 hr
    show GL _ _ [(2, .ptr 2 0), (5, .lst (List.map encDt l121) false)] [(kg014 t1 a45 a46 a47), .cells [.int .i64 a48, .str [], .lst [] true], .cells [.gl 3 (List.length l44)], growM 3 encDt l44] _
    replace hr : g_xtold_types_told_1_4_j1 l44 l121 = some r := hr
    unfold g_xtold_types_told_1_4_j1 at hr
    refine L_draw ?_
    refine GD_h (d := some 23) rfl rfl rfl rfl (fun _ => rfl) ?_
    refine GD_p (v := .lst (List.map encDt l121) false) rfl rfl rfl ?_
    obtain ⟨r122, hr122, hr⟩ := bind_s hr
    refine GD_c 46 rfl rfl rfl (CA_of (as := [.lst (List.map encDt l121) false]) rfl (g_datum_Row_ok hr122)) ?_
    refine GD_h (d := some 26) rfl rfl rfl rfl (fun _ => rfl) ?_
    refine GD_h (d := some 27) (v := .lst (List.map encDt [(Dt.mk 0 [] [])]) true) rfl rfl rfl rfl (fun _ => Eq.trans (b := some (Ex.ok (AVal.lst [.agg [.int .i64 0, .str [], .lst [] false]] true), _)) rfl (congrArg (fun z => some (Ex.ok (AVal.lst z true), _)) (by first | rfl | (simp only [List.map_cons, List.map_nil, encDt_eq] <;> rfl)))) ?_
    obtain ⟨l123, hl123, hr⟩ := bind_s hr
    refine GD_o (d := some 28) rfl rfl rfl rfl (appZ_ev encDt_w1 (by decide) rfl rfl rfl rfl hl123 rfl) ?_
    refine GD_h (d := some 29) rfl rfl rfl rfl (iaZ_ev rfl rfl rfl rfl) ?_
    refine GD_h (d := none) (H' := [(kg014 t1 a45 a46 a47), .cells [.int .i64 a48, .str [], .lst [] true], .cells [.gl 3 (List.length l44)], growM 3 encDt l123, .hole]) rfl rfl rfl rfl (staZ_ev (f := encDt) (v := r122) encDt_w1 rfl rfl ⟨rfl, rfl⟩ (by (try simp only [encDt_eq]); rfl) rfl hl123 rfl) ?_
    refine GD_h (d := none) (H' := [(kg014 t1 a45 a46 a47), .cells [.int .i64 a48, .str [], .lst [] true], .cells [.gl 3 (List.length l44 + 1)], growM 3 encDt l123, .hole]) rfl rfl rfl rfl (fun _ => rfl) ?_
    (try rw [← catL_len hl123])
    refine GD_nil2 (by first | rfl | simp [okFs2, okEarlier2, disj, noneIn, notIn, sameOn, partsGls, sameB_self]) ?_
    refine L_nil ?_
    have hr := some_s hr
    subst hr
    exact ⟨_, rfl, rfl, rfl⟩
noncomputable def g_xtold_types_told_1_5_j1 (l40 : List Dt) (l124 : List Dt) : Option (List Dt) :=
  ((g_datum_Row l124).bind fun r125 => ((catL l40 [r125]).bind fun l126 => some l126))
noncomputable def g_xtold_types_told_1_5_l2 (rec : Ty → Option Dt) (l40 : List Dt) : List Ty → Nat → (List Dt) → Option (List Dt)
  | [], _, l135 => g_xtold_types_told_1_5_j1 l40 l135
  | y146 :: rest148, i147, l135 => ((rec y146).bind fun r151 => ((catL l135 [r151]).bind fun l152 => (g_xtold_types_told_1_5_l2 rec l40 rest148 (i147 + 1)) l152))
noncomputable def g_xtold_types_told_1_5 (rec : Ty → Option Dt) (t1 : Ty) (l40 : List Dt) (s65 : List UInt8) (l66 : List Ty) : Option (List Dt) :=
  ((g_datum_Word s65).bind fun r97 => (cond (okLen l66) (g_xtold_types_told_1_5_l2 rec l40 l66 0 [r97]) none))
abbrev kg015 (t1 : Ty) : ABlock := .cells [.bool t1.all, .int .i64 t1.flat, .int .i64 t1.pair, .lst (List.map encT t1.pairs) false, .int .i64 t1.fn, .lst (List.map encT t1.funs) false]
theorem g_xtold_types_told_1_5_ok {rec : Ty → Option Dt} {t1 : Ty} {l40 : List Dt} {s65 : List UInt8} {l66 : List Ty} {r : List Dt} (hrec : ∀ (a0 : Ty) (r : Dt), rec a0 = some r → PRes (tabOf tabL) 39 [.agg (cT a0)] (.agg (cDt r))) (hr : g_xtold_types_told_1_5 rec t1 l40 s65 l66 = some r) : CA (tabOf tabL) false 45 [.str s65, .lst (List.map encT l66) false, .ptr 2 0] [(kg015 t1), .cells [.int .i64 0, .str [], .lst [] true], .cells [.gl 3 (List.length l40)], growM 3 encDt l40] (.tup []) [(kg015 t1), .cells [.int .i64 0, .str [], .lst [] true], .cells [.gl 3 (List.length r)], growM 3 encDt r] := by
  refine ca_fin t45 (Or.inr rfl) ?_
  unfold g_xtold_types_told_1_5 at hr
  refine L_seq ?_
  refine L_stmt ?_
  refine L_reg ?_
  refine G_p rfl rfl rfl ?_
  obtain ⟨r97, hr97, hr⟩ := bind_s hr
  refine G_c 44 rfl rfl (CA_of (as := [.str s65]) rfl (g_datum_Word_ok hr97)) ?_
  refine G_h (v := .lst (List.map encDt [r97]) true) rfl rfl rfl (fun _ => Eq.trans (b := some (Ex.ok (AVal.lst [.agg (cDt r97)] true), _)) rfl (congrArg (fun z => some (Ex.ok (AVal.lst z true), _)) (by first | rfl | (simp only [List.map_cons, List.map_nil, encDt_eq] <;> rfl)))) ?_
  refine G_p (v := .lst (List.map encDt [r97]) true) rfl rfl rfl ?_
  refine G_nil ?_
  refine L_nil ?_
  refine Sm_norm (e2 := [(1, .lst (List.map encT l66) false), (2, .ptr 2 0), (5, .lst (List.map encDt [r97]) true)]) (H1 := [(kg015 t1), .cells [.int .i64 0, .str [], .lst [] true], .cells [.gl 3 (List.length l40)], growM 3 encDt l40]) (H2 := [(kg015 t1), .cells [.int .i64 0, .str [], .lst [] true], .cells [.gl 3 (List.length l40)], growM 3 encDt l40]) rfl (by repeat (first | exact rzz | apply rcc rfl | apply rnn rfl)) rfl (?_ : GL _ _ _ _ _)
  refine L_seq ?_
  refine L_stmtJ (S := List Dt) (fun s => [(2, .ptr 2 0), (5, .lst (List.map encDt s) false)]) (fun s => [(kg015 t1), .cells [.int .i64 0, .str [], .lst [] true], .cells [.gl 3 (List.length l40)], growM 3 encDt l40]) (fun s => g_xtold_types_told_1_5_j1 l40 s = some r) ?_ ?_
  · skip
    refine L_seq ?_
    refine L_stmt ?_
    refine L_reg ?_
    refine G_p (v := .lst (List.map encT l66) false) rfl rfl rfl ?_
    refine G_h rfl rfl rfl (lenL_ev rfl (List.length_map _)) ?_
    refine G_p rfl rfl rfl ?_
    refine G_nil ?_
    refine L_nil ?_
    refine Sm_norm (e2 := [(2, .ptr 2 0), (5, .lst (List.map encDt [r97]) true), (11, .lst (List.map encT l66) false), (12, .int .i64 ((List.length l66 : Nat) : Int)), (13, .int .i64 0)]) (H1 := [(kg015 t1), .cells [.int .i64 0, .str [], .lst [] true], .cells [.gl 3 (List.length l40)], growM 3 encDt l40]) (H2 := [(kg015 t1), .cells [.int .i64 0, .str [], .lst [] true], .cells [.gl 3 (List.length l40)], growM 3 encDt l40]) rfl (by repeat (first | exact rzz | apply rcc rfl | apply rnn rfl)) rfl (?_ : GL _ _ _ _ _)
    refine L_block ?_
    refine L_seq ?_
    refine L_own (H' := [(kg015 t1), .cells [.int .i64 0, .str [], .lst [] true], .cells [.gl 3 (List.length l40)], growM 3 encDt l40, growM 3 encDt [r97]]) (own_l (l := [r97]) encDt_w1 rfl) ?_
    obtain ⟨hLq145, hr⟩ := guard_s hr
    replace hLq145 := okLen_s hLq145
    refine L_range (X := Ty) (S := List Dt) l66 (fun i147 s => [(5, .gl 4 (List.length s)), (13, .int .i64 ((i147 : Nat) : Int)), (2, .ptr 2 0), (11, .lst (List.map encT l66) false), (12, .int .i64 ((List.length l66 : Nat) : Int))]) (fun i147 s => [(kg015 t1), .cells [.int .i64 0, .str [], .lst [] true], .cells [.gl 3 (List.length l40)], growM 3 encDt l40, growM 3 encDt s]) (fun rest i147 s => g_xtold_types_told_1_5_l2 rec l40 rest i147 s = some r) ([r97]) ?_ rfl hr ?_ ?_
    · show restr _ _ = [(5, .gl 4 (List.length [r97])), (13, .int .i64 ((0 : Nat) : Int)), (2, .ptr 2 0), (11, .lst (List.map encT l66) false), (12, .int .i64 ((List.length l66 : Nat) : Int))]
      (repeat (first | exact rzz | apply rcc rfl | apply rnn rfl))
    · rintro l135 hr
      show GL _ _ [(5, .gl 4 (List.length l135)), (13, .int .i64 (((List.length l66) : Nat) : Int)), (2, .ptr 2 0), (11, .lst (List.map encT l66) false), (12, .int .i64 ((List.length l66 : Nat) : Int))] [(kg015 t1), .cells [.int .i64 0, .str [], .lst [] true], .cells [.gl 3 (List.length l40)], growM 3 encDt l40, growM 3 encDt l135] _
      replace hr : g_xtold_types_told_1_5_l2 rec l40 [] (List.length l66) l135 = some r := hr
      rw [g_xtold_types_told_1_5_l2] at hr
      refine L_seq ?_
      refine L_stmt ?_
      refine L_reg ?_
      refine G_v (.bool false) rfl rfl rfl (congrArg AVal.bool (decide_eq_false (by omega))) ?_
      refine G_nil ?_
      refine L_nil ?_
      refine Sm_norm (e2 := [(2, .ptr 2 0), (5, .gl 4 (List.length l135)), (11, .lst (List.map encT l66) false), (12, .int .i64 ((List.length l66 : Nat) : Int)), (13, .int .i64 ((List.length l66 : Nat) : Int)), (14, .bool false)]) (H1 := [(kg015 t1), .cells [.int .i64 0, .str [], .lst [] true], .cells [.gl 3 (List.length l40)], growM 3 encDt l40, growM 3 encDt l135]) (H2 := [(kg015 t1), .cells [.int .i64 0, .str [], .lst [] true], .cells [.gl 3 (List.length l40)], growM 3 encDt l40, growM 3 encDt l135]) rfl (by repeat (first | exact rzz | apply rcc rfl | apply rnn rfl)) rfl (?_ : GL _ _ _ _ _)
      refine L_seq ?_
      refine L_stmt ?_
      refine L_F rfl rfl ?_
      refine L_exit ?_
      refine Sm_exit ?_
      refine Rd_exit ?_
      refine Blk_exit (?_ : GL _ _ _ _ _)
      refine L_nil ?_
      exact Sm_norm (e2 := [(2, .ptr 2 0), (5, .lst (List.map encDt l135) false)]) (H1 := [(kg015 t1), .cells [.int .i64 0, .str [], .lst [] true], .cells [.gl 3 (List.length l40)], growM 3 encDt l40, growM 3 encDt l135]) (H2 := [(kg015 t1), .cells [.int .i64 0, .str [], .lst [] true], .cells [.gl 3 (List.length l40)], growM 3 encDt l40]) (frz_c (frz_gl rfl rfl) rfl) (by repeat (first | exact rzz | apply rcc rfl | apply rnn rfl)) rfl ⟨l135, rfl, rfl, hr⟩
    · rintro y146 rest148 i147 l135 hy146 hlti147 hr
      show GL _ _ [(5, .gl 4 (List.length l135)), (13, .int .i64 ((i147 : Nat) : Int)), (2, .ptr 2 0), (11, .lst (List.map encT l66) false), (12, .int .i64 ((List.length l66 : Nat) : Int))] [(kg015 t1), .cells [.int .i64 0, .str [], .lst [] true], .cells [.gl 3 (List.length l40)], growM 3 encDt l40, growM 3 encDt l135] _
      replace hr : g_xtold_types_told_1_5_l2 rec l40 (y146 :: rest148) i147 l135 = some r := hr
      rw [g_xtold_types_told_1_5_l2] at hr
      refine L_seq ?_
      refine L_stmt ?_
      refine L_reg ?_
      refine G_v (.bool true) rfl rfl rfl (congrArg AVal.bool (decide_eq_true (by omega))) ?_
      refine G_nil ?_
      refine L_nil ?_
      refine Sm_norm (e2 := [(2, .ptr 2 0), (5, .gl 4 (List.length l135)), (11, .lst (List.map encT l66) false), (12, .int .i64 ((List.length l66 : Nat) : Int)), (13, .int .i64 ((i147 : Nat) : Int)), (14, .bool true)]) (H1 := [(kg015 t1), .cells [.int .i64 0, .str [], .lst [] true], .cells [.gl 3 (List.length l40)], growM 3 encDt l40, growM 3 encDt l135]) (H2 := [(kg015 t1), .cells [.int .i64 0, .str [], .lst [] true], .cells [.gl 3 (List.length l40)], growM 3 encDt l40, growM 3 encDt l135]) rfl (by repeat (first | exact rzz | apply rcc rfl | apply rnn rfl)) rfl (?_ : GL _ _ _ _ _)
      refine L_seq ?_
      refine L_stmt ?_
      refine L_T rfl rfl ?_
      refine L_skip ?_
      refine L_nil ?_
      refine Sm_norm (e2 := [(2, .ptr 2 0), (5, .gl 4 (List.length l135)), (11, .lst (List.map encT l66) false), (12, .int .i64 ((List.length l66 : Nat) : Int)), (13, .int .i64 ((i147 : Nat) : Int))]) (H1 := [(kg015 t1), .cells [.int .i64 0, .str [], .lst [] true], .cells [.gl 3 (List.length l40)], growM 3 encDt l40, growM 3 encDt l135]) (H2 := [(kg015 t1), .cells [.int .i64 0, .str [], .lst [] true], .cells [.gl 3 (List.length l40)], growM 3 encDt l40, growM 3 encDt l135]) rfl (by repeat (first | exact rzz | apply rcc rfl | apply rnn rfl)) rfl (?_ : GL _ _ _ _ _)
      refine L_seq ?_
      refine L_stmt ?_
      refine L_block ?_
      refine L_seq ?_
      refine L_stmt ?_
      refine L_reg ?_
      refine G_h (v := .ro [.bool y146.all, .int .i64 y146.flat, .int .i64 y146.pair, .lst (List.map encT y146.pairs) false, .int .i64 y146.fn, .lst (List.map encT y146.funs) false]) rfl rfl rfl (ia_ev (cells := [.bool y146.all, .int .i64 y146.flat, .int .i64 y146.pair, .lst (List.map encT y146.pairs) false, .int .i64 y146.fn, .lst (List.map encT y146.funs) false]) rfl rfl (Int.natCast_nonneg _) (map_get (x := y146) (by rw [Int.toNat_natCast]; exact hy146)) (encT_flat _) rfl) ?_
      refine G_h (v := .agg (cT y146)) rfl rfl rfl (fun _ => rfl) ?_
      refine G_n (B := .cells [.bool false, .int .i64 0, .int .i64 0, .lst [] true, .int .i64 0, .lst [] true]) rfl rfl rfl ?_
      refine G_hn (H' := [(kg015 t1), .cells [.int .i64 0, .str [], .lst [] true], .cells [.gl 3 (List.length l40)], growM 3 encDt l40, growM 3 encDt l135, .cells [.bool y146.all, .int .i64 y146.flat, .int .i64 y146.pair, .lst (List.map encT y146.pairs) false, .int .i64 y146.fn, .lst (List.map encT y146.funs) false]]) rfl rfl rfl (fun _ => rfl) ?_
      refine G_nil ?_
      refine L_nil ?_
      refine Sm_norm (e2 := [(2, .ptr 2 0), (5, .gl 4 (List.length l135)), (7, .ptr 5 0), (11, .lst (List.map encT l66) false), (12, .int .i64 ((List.length l66 : Nat) : Int)), (13, .int .i64 ((i147 : Nat) : Int))]) (H1 := [(kg015 t1), .cells [.int .i64 0, .str [], .lst [] true], .cells [.gl 3 (List.length l40)], growM 3 encDt l40, growM 3 encDt l135, .cells [.bool y146.all, .int .i64 y146.flat, .int .i64 y146.pair, .lst (List.map encT y146.pairs) false, .int .i64 y146.fn, .lst (List.map encT y146.funs) false]]) (H2 := [(kg015 t1), .cells [.int .i64 0, .str [], .lst [] true], .cells [.gl 3 (List.length l40)], growM 3 encDt l40, growM 3 encDt l135, .cells [.bool y146.all, .int .i64 y146.flat, .int .i64 y146.pair, .lst (List.map encT y146.pairs) false, .int .i64 y146.fn, .lst (List.map encT y146.funs) false]]) rfl (by repeat (first | exact rzz | apply rcc rfl | apply rnn rfl)) rfl (?_ : GL _ _ _ _ _)
      refine L_reg ?_
      refine G_p rfl rfl rfl ?_
      refine G_h (v := .agg (cT y146)) rfl rfl rfl (fun _ => rfl) ?_
      obtain ⟨r151, hr151, hr⟩ := bind_s hr
      refine G_c 39 rfl rfl (CA_of (as := [.agg (cT y146)]) rfl (hrec _ _ hr151)) ?_
      refine G_h (v := .lst (List.map encDt [r151]) true) rfl rfl rfl (fun _ => Eq.trans (b := some (Ex.ok (AVal.lst [.agg (cDt r151)] true), _)) rfl (congrArg (fun z => some (Ex.ok (AVal.lst z true), _)) (by first | rfl | (simp only [List.map_cons, List.map_nil, encDt_eq] <;> rfl)))) ?_
      obtain ⟨l152, hl152, hr⟩ := bind_s hr
      refine G_h rfl rfl rfl (appG_ev encDt_w1 (by decide) rfl rfl rfl rfl hl152) ?_
      refine G_p rfl rfl rfl ?_
      refine G_nil ?_
      refine L_nil ?_
      refine Blk_norm (?_ : GL _ _ _ _ _)
      refine L_nil ?_
      refine Sm_norm (e2 := [(2, .ptr 2 0), (5, .gl 4 (List.length l152)), (11, .lst (List.map encT l66) false), (12, .int .i64 ((List.length l66 : Nat) : Int)), (13, .int .i64 ((i147 : Nat) : Int))]) (H1 := [(kg015 t1), .cells [.int .i64 0, .str [], .lst [] true], .cells [.gl 3 (List.length l40)], growM 3 encDt l40, growM 3 encDt l152, .cells [.bool y146.all, .int .i64 y146.flat, .int .i64 y146.pair, .lst (List.map encT y146.pairs) false, .int .i64 y146.fn, .lst (List.map encT y146.funs) false]]) (H2 := [(kg015 t1), .cells [.int .i64 0, .str [], .lst [] true], .cells [.gl 3 (List.length l40)], growM 3 encDt l40, growM 3 encDt l152]) rfl (by repeat (first | exact rzz | apply rcc rfl | apply rnn rfl)) rfl (?_ : GL _ _ _ _ _)
      refine L_reg ?_
      refine G_v (.int .i64 ((i147 + 1 : Nat) : Int)) rfl rfl rfl (congrArg _ (wrap_next hLq145 hlti147)) ?_
      refine G_p rfl rfl rfl ?_
      refine G_nil ?_
      refine L_nil ?_
      refine Rd_norm ⟨l152, ?_, rfl, hr⟩
      show restr _ _ = [(5, .gl 4 (List.length l152)), (13, .int .i64 (((i147 + 1) : Nat) : Int)), (2, .ptr 2 0), (11, .lst (List.map encT l66) false), (12, .int .i64 ((List.length l66 : Nat) : Int))]
      (repeat (first | exact rzz | apply rcc rfl | apply rnn rfl))
  · rintro l124 hr
    show GL _ _ [(2, .ptr 2 0), (5, .lst (List.map encDt l124) false)] [(kg015 t1), .cells [.int .i64 0, .str [], .lst [] true], .cells [.gl 3 (List.length l40)], growM 3 encDt l40] _
    replace hr : g_xtold_types_told_1_5_j1 l40 l124 = some r := hr
    unfold g_xtold_types_told_1_5_j1 at hr
    refine L_draw ?_
    refine GD_h (d := some 23) rfl rfl rfl rfl (fun _ => rfl) ?_
    refine GD_p (v := .lst (List.map encDt l124) false) rfl rfl rfl ?_
    obtain ⟨r125, hr125, hr⟩ := bind_s hr
    refine GD_c 46 rfl rfl rfl (CA_of (as := [.lst (List.map encDt l124) false]) rfl (g_datum_Row_ok hr125)) ?_
    refine GD_h (d := some 26) rfl rfl rfl rfl (fun _ => rfl) ?_
    refine GD_h (d := some 27) (v := .lst (List.map encDt [(Dt.mk 0 [] [])]) true) rfl rfl rfl rfl (fun _ => Eq.trans (b := some (Ex.ok (AVal.lst [.agg [.int .i64 0, .str [], .lst [] false]] true), _)) rfl (congrArg (fun z => some (Ex.ok (AVal.lst z true), _)) (by first | rfl | (simp only [List.map_cons, List.map_nil, encDt_eq] <;> rfl)))) ?_
    obtain ⟨l126, hl126, hr⟩ := bind_s hr
    refine GD_o (d := some 28) rfl rfl rfl rfl (appZ_ev encDt_w1 (by decide) rfl rfl rfl rfl hl126 rfl) ?_
    refine GD_h (d := some 29) rfl rfl rfl rfl (iaZ_ev rfl rfl rfl rfl) ?_
    refine GD_h (d := none) (H' := [(kg015 t1), .cells [.int .i64 0, .str [], .lst [] true], .cells [.gl 3 (List.length l40)], growM 3 encDt l126, .hole]) rfl rfl rfl rfl (staZ_ev (f := encDt) (v := r125) encDt_w1 rfl rfl ⟨rfl, rfl⟩ (by (try simp only [encDt_eq]); rfl) rfl hl126 rfl) ?_
    refine GD_h (d := none) (H' := [(kg015 t1), .cells [.int .i64 0, .str [], .lst [] true], .cells [.gl 3 (List.length l40 + 1)], growM 3 encDt l126, .hole]) rfl rfl rfl rfl (fun _ => rfl) ?_
    (try rw [← catL_len hl126])
    refine GD_nil2 (by first | rfl | simp [okFs2, okEarlier2, disj, noneIn, notIn, sameOn, partsGls, sameB_self]) ?_
    refine L_nil ?_
    have hr := some_s hr
    subst hr
    exact ⟨_, rfl, rfl, rfl⟩
noncomputable def g_types_told_j1 (l52 : List Dt) (l53 : List Dt) : Option Dt :=
  (cond (decide (((List.length l53 : Nat) : Int) = 0)) ((g_datum_Word ([78, 111, 116, 104, 105, 110, 103] : List UInt8)).bind fun r56 => some r56) (cond (decide (((List.length l53 : Nat) : Int) = 1)) ((idx l53 0).bind fun e57 => some e57) ((g_datum_Word ([85] : List UInt8)).bind fun r58 => ((catL [r58] l53).bind fun l59 => ((g_datum_Row l59).bind fun r60 => some r60)))))
noncomputable def g_types_told_j2 (rec : Ty → Option Dt) (t1 : Ty) (l44 : List Dt) (a45 : Int) (a46 : Int) (a47 : Int) (a48 : Int) : Option Dt :=
  (cond (decide (a47 = 1)) ((g_xtold_types_told_1_4 rec t1 l44 a45 a46 a47 a48 ([45, 62] : List UInt8) t1.funs).bind fun r62 => g_types_told_j1 r62 r62) (cond (decide (a47 = 2)) ((g_datum_Word ([80, 114, 111, 99] : List UInt8)).bind fun r63 => ((catL l44 [r63]).bind fun l64 => g_types_told_j1 l64 l64)) (g_types_told_j1 l44 l44)))
noncomputable def g_types_told_j3 (rec : Ty → Option Dt) (t1 : Ty) (l40 : List Dt) : Option Dt :=
  (cond ((decide (t1.pair = 2)) && (!decide ((andB .i64 t1.flat 16) = 0))) ((g_xtold_types_told_1_5 rec t1 l40 ([76, 105, 115, 116] : List UInt8) t1.pairs).bind fun r65 => g_types_told_j2 rec t1 r65 t1.flat t1.pair t1.fn 0) (cond (decide (t1.pair = 2)) ((g_xtold_types_told_1_5 rec t1 l40 ([76, 105, 115, 116, 49] : List UInt8) t1.pairs).bind fun r66 => g_types_told_j2 rec t1 r66 t1.flat t1.pair t1.fn 0) (cond (decide (t1.pair = 1)) ((g_xtold_types_told_1_5 rec t1 l40 ([80, 97, 105, 114] : List UInt8) t1.pairs).bind fun r67 => g_types_told_j2 rec t1 r67 t1.flat t1.pair t1.fn 0) (g_types_told_j2 rec t1 l40 t1.flat t1.pair t1.fn 0))))
noncomputable def g_types_told_j4 (rec : Ty → Option Dt) (t1 : Ty) (l103 : List Dt) : Option Dt :=
  g_types_told_j3 rec t1 l103
noncomputable def g_types_told_j5 (rec : Ty → Option Dt) (t1 : Ty) (l100 : List Dt) : Option Dt :=
  (cond ((!decide ((andB .i64 t1.flat 32) = 0)) && (!(((decide (t1.pair = 2)) && (!decide ((andB .i64 t1.flat 16) = 0))) && false))) ((g_datum_Word ([86, 111, 105, 100] : List UInt8)).bind fun r104 => ((catL l100 [r104]).bind fun l105 => g_types_told_j4 rec t1 l105)) (g_types_told_j4 rec t1 l100))
noncomputable def g_types_told_j6 (rec : Ty → Option Dt) (t1 : Ty) (l97 : List Dt) : Option Dt :=
  (cond ((!decide ((andB .i64 t1.flat 16) = 0)) && (!(((decide (t1.pair = 2)) && (!decide ((andB .i64 t1.flat 16) = 0))) && true))) ((g_datum_Word ([78, 117, 108, 108] : List UInt8)).bind fun r106 => ((catL l97 [r106]).bind fun l107 => g_types_told_j5 rec t1 l107)) (g_types_told_j5 rec t1 l97))
noncomputable def g_types_told_j7 (rec : Ty → Option Dt) (t1 : Ty) (l94 : List Dt) : Option Dt :=
  (cond ((!decide ((andB .i64 t1.flat 8) = 0)) && (!(((decide (t1.pair = 2)) && (!decide ((andB .i64 t1.flat 16) = 0))) && false))) ((g_datum_Word ([83, 121, 109] : List UInt8)).bind fun r108 => ((catL l94 [r108]).bind fun l109 => g_types_told_j6 rec t1 l109)) (g_types_told_j6 rec t1 l94))
noncomputable def g_types_told_j8 (rec : Ty → Option Dt) (t1 : Ty) (l91 : List Dt) : Option Dt :=
  (cond ((!decide ((andB .i64 t1.flat 4) = 0)) && (!(((decide (t1.pair = 2)) && (!decide ((andB .i64 t1.flat 16) = 0))) && false))) ((g_datum_Word ([83, 116, 114] : List UInt8)).bind fun r110 => ((catL l91 [r110]).bind fun l111 => g_types_told_j7 rec t1 l111)) (g_types_told_j7 rec t1 l91))
noncomputable def g_types_told_j9 (rec : Ty → Option Dt) (t1 : Ty) (l88 : List Dt) : Option Dt :=
  (cond ((!decide ((andB .i64 t1.flat 2) = 0)) && (!(((decide (t1.pair = 2)) && (!decide ((andB .i64 t1.flat 16) = 0))) && false))) ((g_datum_Word ([66, 111, 111, 108] : List UInt8)).bind fun r112 => ((catL l88 [r112]).bind fun l113 => g_types_told_j8 rec t1 l113)) (g_types_told_j8 rec t1 l88))
noncomputable def g_types_told_b (rec : Ty → Option Dt) (n : Nat) (t1 : Ty) : Option Dt :=
  (cond t1.all ((g_datum_Word ([65, 110, 121] : List UInt8)).bind fun r3 => some r3) (cond ((!decide ((andB .i64 t1.flat 1) = 0)) && (!(((decide (t1.pair = 2)) && (!decide ((andB .i64 t1.flat 16) = 0))) && false))) ((g_datum_Word ([73, 110, 116] : List UInt8)).bind fun r114 => ((catL [] [r114]).bind fun l115 => g_types_told_j9 rec t1 l115)) (g_types_told_j9 rec t1 [])))
abbrev kg016 (t1 : Ty) : ABlock := .cells [.bool t1.all, .int .i64 t1.flat, .int .i64 t1.pair, .lst (List.map encT t1.pairs) false, .int .i64 t1.fn, .lst (List.map encT t1.funs) false]
abbrev kg017 (t1 : Ty) (a45 : Int) (a46 : Int) (a47 : Int) : ABlock := .cells [.bool t1.all, .int .i64 a45, .int .i64 a46, .lst (List.map encT t1.pairs) false, .int .i64 a47, .lst (List.map encT t1.funs) false]
abbrev kg018 (t1 : Ty) : List (Nat × AVal) := [(1, .ptr 0 0), (2, .ptr 1 0), (3, .ptr 2 0), (4, .fn 45 [.ptr 2 0]), (5, .bool ((decide (t1.pair = 2)) && (!decide ((andB .i64 t1.flat 16) = 0)))), (21, .agg [.str ([73, 110, 116] : List UInt8), .str ([66, 111, 111, 108] : List UInt8), .str ([83, 116, 114] : List UInt8), .str ([83, 121, 109] : List UInt8), .str ([78, 117, 108, 108] : List UInt8), .str ([86, 111, 105, 100] : List UInt8)]), (22, .int .i64 0)]
abbrev kg019 (t1 : Ty) : List (Nat × AVal) := [(1, .ptr 0 0), (2, .ptr 1 0), (3, .ptr 2 0), (4, .fn 45 [.ptr 2 0]), (5, .bool ((decide (t1.pair = 2)) && (!decide ((andB .i64 t1.flat 16) = 0)))), (21, .agg [.str ([73, 110, 116] : List UInt8), .str ([66, 111, 111, 108] : List UInt8), .str ([83, 116, 114] : List UInt8), .str ([83, 121, 109] : List UInt8), .str ([78, 117, 108, 108] : List UInt8), .str ([86, 111, 105, 100] : List UInt8)]), (22, .int .i64 1)]
abbrev kg020 (t1 : Ty) : List (Nat × AVal) := [(1, .ptr 0 0), (2, .ptr 1 0), (3, .ptr 2 0), (4, .fn 45 [.ptr 2 0]), (5, .bool ((decide (t1.pair = 2)) && (!decide ((andB .i64 t1.flat 16) = 0)))), (21, .agg [.str ([73, 110, 116] : List UInt8), .str ([66, 111, 111, 108] : List UInt8), .str ([83, 116, 114] : List UInt8), .str ([83, 121, 109] : List UInt8), .str ([78, 117, 108, 108] : List UInt8), .str ([86, 111, 105, 100] : List UInt8)]), (22, .int .i64 2)]
abbrev kg021 (t1 : Ty) : List (Nat × AVal) := [(1, .ptr 0 0), (2, .ptr 1 0), (3, .ptr 2 0), (4, .fn 45 [.ptr 2 0]), (5, .bool ((decide (t1.pair = 2)) && (!decide ((andB .i64 t1.flat 16) = 0)))), (21, .agg [.str ([73, 110, 116] : List UInt8), .str ([66, 111, 111, 108] : List UInt8), .str ([83, 116, 114] : List UInt8), .str ([83, 121, 109] : List UInt8), .str ([78, 117, 108, 108] : List UInt8), .str ([86, 111, 105, 100] : List UInt8)]), (22, .int .i64 3)]
abbrev kg022 (t1 : Ty) : List (Nat × AVal) := [(1, .ptr 0 0), (2, .ptr 1 0), (3, .ptr 2 0), (4, .fn 45 [.ptr 2 0]), (5, .bool ((decide (t1.pair = 2)) && (!decide ((andB .i64 t1.flat 16) = 0)))), (21, .agg [.str ([73, 110, 116] : List UInt8), .str ([66, 111, 111, 108] : List UInt8), .str ([83, 116, 114] : List UInt8), .str ([83, 121, 109] : List UInt8), .str ([78, 117, 108, 108] : List UInt8), .str ([86, 111, 105, 100] : List UInt8)]), (22, .int .i64 4)]
abbrev kg023 (t1 : Ty) : List (Nat × AVal) := [(1, .ptr 0 0), (2, .ptr 1 0), (3, .ptr 2 0), (4, .fn 45 [.ptr 2 0]), (5, .bool ((decide (t1.pair = 2)) && (!decide ((andB .i64 t1.flat 16) = 0)))), (21, .agg [.str ([73, 110, 116] : List UInt8), .str ([66, 111, 111, 108] : List UInt8), .str ([83, 116, 114] : List UInt8), .str ([83, 121, 109] : List UInt8), .str ([78, 117, 108, 108] : List UInt8), .str ([86, 111, 105, 100] : List UInt8)]), (22, .int .i64 5)]
abbrev kg024 (t1 : Ty) : List (Nat × AVal) := [(1, .ptr 0 0), (2, .ptr 1 0), (3, .ptr 2 0), (4, .fn 45 [.ptr 2 0]), (5, .bool ((decide (t1.pair = 2)) && (!decide ((andB .i64 t1.flat 16) = 0))))]
theorem g_types_told_b_ok {rec : Ty → Option Dt} {n : Nat} {t1 : Ty} {r : Dt} (hrec : ∀ (a0 : Ty) (r : Dt), rec a0 = some r → PRes (tabOf tabL) 39 [.agg (cT a0)] (.agg (cDt r))) (hr : g_types_told_b rec n t1 = some r) : PRes (tabOf tabL) 39 [.agg (cT t1)] (.agg (cDt r)) := by
  refine pres_fin t39 ?_
  unfold g_types_told_b at hr
  refine L_seq ?_
  refine L_stmt ?_
  refine L_reg ?_
  refine G_n (B := (kg016 t1)) rfl rfl rfl ?_
  refine G_n (B := .cells [.int .i64 0, .str [], .lst [] true]) rfl rfl rfl ?_
  refine G_nil ?_
  refine L_nil ?_
  refine Sm_norm (e2 := [(1, .ptr 0 0), (2, .ptr 1 0)]) (H1 := [(kg016 t1), .cells [.int .i64 0, .str [], .lst [] true]]) (H2 := [(kg016 t1), .cells [.int .i64 0, .str [], .lst [] true]]) rfl (by repeat (first | exact rzz | apply rcc rfl | apply rnn rfl)) rfl (?_ : GL _ _ _ _ _)
  refine L_seq ?_
  refine L_stmt ?_
  refine L_seq ?_
  refine L_stmt ?_
  refine L_reg ?_
  refine G_p rfl rfl rfl ?_
  refine G_h rfl rfl rfl (fun _ => rfl) ?_
  refine G_nil ?_
  refine L_nil ?_
  refine Sm_norm (e2 := [(1, .ptr 0 0), (2, .ptr 1 0), (9, .bool t1.all)]) (H1 := [(kg016 t1), .cells [.int .i64 0, .str [], .lst [] true]]) (H2 := [(kg016 t1), .cells [.int .i64 0, .str [], .lst [] true]]) rfl (by repeat (first | exact rzz | apply rcc rfl | apply rnn rfl)) rfl (?_ : GL _ _ _ _ _)
  rcases cond_s hr with ⟨hc9, hr⟩ | ⟨hc9, hr⟩
  · refine L_T rfl hc9 ?_
    refine L_seq ?_
    refine L_reg ?_
    obtain ⟨r3, hr3, hr⟩ := bind_s hr
    refine G_c 44 rfl rfl (CA_of (as := [.str ([65, 110, 121] : List UInt8)]) rfl (g_datum_Word_ok hr3)) ?_
    refine G_hn (H' := [(kg016 t1), .cells [.int .i64 r3.kind, .str r3.text, .lst (List.map encDt r3.list) false]]) rfl rfl rfl (fun _ => rfl) ?_
    refine G_nil ?_
    refine L_ret ?_
    refine Sm_ret ?_
    have hr := some_s hr
    subst hr
    exact ⟨_, rfl, _, rfl, rfl⟩
  · refine L_F rfl hc9 ?_
    refine L_skip ?_
    refine L_nil ?_
    refine Sm_norm (e2 := [(1, .ptr 0 0), (2, .ptr 1 0)]) (H1 := [(kg016 t1), .cells [.int .i64 0, .str [], .lst [] true]]) (H2 := [(kg016 t1), .cells [.int .i64 0, .str [], .lst [] true]]) rfl (by repeat (first | exact rzz | apply rcc rfl | apply rnn rfl)) rfl (?_ : GL _ _ _ _ _)
    refine L_seq ?_
    refine L_stmt ?_
    refine L_reg ?_
    refine G_n (B := .cells [.lst [] true]) rfl rfl rfl ?_
    refine G_nil ?_
    refine L_nil ?_
    refine Sm_norm (e2 := [(1, .ptr 0 0), (2, .ptr 1 0), (3, .ptr 2 0)]) (H1 := [(kg016 t1), .cells [.int .i64 0, .str [], .lst [] true], .cells [.lst [] true]]) (H2 := [(kg016 t1), .cells [.int .i64 0, .str [], .lst [] true], .cells [.lst [] true]]) rfl (by repeat (first | exact rzz | apply rcc rfl | apply rnn rfl)) rfl (?_ : GL _ _ _ _ _)
    refine L_seq ?_
    refine L_stmt ?_
    refine L_reg ?_
    refine G_p rfl rfl rfl ?_
    refine G_p rfl rfl rfl ?_
    refine G_nil ?_
    refine L_nil ?_
    refine Sm_norm (e2 := [(1, .ptr 0 0), (2, .ptr 1 0), (3, .ptr 2 0), (4, .fn 45 [.ptr 2 0])]) (H1 := [(kg016 t1), .cells [.int .i64 0, .str [], .lst [] true], .cells [.lst [] true]]) (H2 := [(kg016 t1), .cells [.int .i64 0, .str [], .lst [] true], .cells [.lst [] true]]) rfl (by repeat (first | exact rzz | apply rcc rfl | apply rnn rfl)) rfl (?_ : GL _ _ _ _ _)
    refine L_seq ?_
    refine L_stmt ?_
    refine L_reg ?_
    refine G_p rfl rfl rfl ?_
    refine G_h rfl rfl rfl (fun _ => rfl) ?_
    refine G_p rfl rfl rfl ?_
    refine G_p rfl rfl rfl ?_
    refine G_and (f := (!decide ((andB .i64 t1.flat 16) = 0))) [_, _, _, _] rfl rfl ?_ ?_
    · intro hb15
      refine G_p rfl rfl rfl ?_
      refine G_h rfl rfl rfl (fun _ => rfl) ?_
      refine G_p rfl rfl rfl ?_
      refine G_p rfl rfl rfl ?_
      exact G_nil (L_nil ⟨rfl, rfl, rfl⟩)
    · intro vs hvs
      obtain ⟨u16, u17, u18, u19, rfl⟩ := len4 hvs
      dsimp only [junk]
      refine G_p rfl rfl rfl ?_
      refine G_nil ?_
      refine L_nil ?_
      refine Sm_norm (e2 := (kg024 t1)) (H1 := [(kg016 t1), .cells [.int .i64 0, .str [], .lst [] true], .cells [.lst [] true]]) (H2 := [(kg016 t1), .cells [.int .i64 0, .str [], .lst [] true], .cells [.lst [] true]]) rfl (by repeat (first | exact rzz | apply rcc rfl | apply rnn rfl)) rfl (?_ : GL _ _ _ _ _)
      refine L_seq ?_
      refine L_stmtJ (S := List Dt) (fun s => (kg024 t1)) (fun s => [(kg016 t1), .cells [.int .i64 0, .str [], .lst [] true], .cells [.gl 3 (List.length s)], growM 3 encDt s]) (fun s => g_types_told_j3 rec t1 s = some r) ?_ ?_
      · skip
        refine L_seq ?_
        refine L_stmt ?_
        refine L_reg ?_
        refine G_c 47 rfl rfl (CA_of (as := []) rfl names_ok) ?_
        refine G_p rfl rfl rfl ?_
        refine G_nil ?_
        refine L_nil ?_
        refine Sm_norm (e2 := (kg018 t1)) (H1 := [(kg016 t1), .cells [.int .i64 0, .str [], .lst [] true], .cells [.lst [] true]]) (H2 := [(kg016 t1), .cells [.int .i64 0, .str [], .lst [] true], .cells [.lst [] true]]) rfl (by repeat (first | exact rzz | apply rcc rfl | apply rnn rfl)) rfl (?_ : GL _ _ _ _ _)
        refine L_block ?_
        refine L_seq ?_
        refine L_own (H' := [(kg016 t1), .cells [.int .i64 0, .str [], .lst [] true], .cells [.gl 3 (List.length [])], growM 3 encDt []]) rfl ?_
        refine L_loop ?_
        refine L_round (e1 := [(22, .int .i64 0), (1, .ptr 0 0), (2, .ptr 1 0), (3, .ptr 2 0), (4, .fn 45 [.ptr 2 0]), (5, .bool ((decide (t1.pair = 2)) && (!decide ((andB .i64 t1.flat 16) = 0)))), (21, .agg [.str ([73, 110, 116] : List UInt8), .str ([66, 111, 111, 108] : List UInt8), .str ([83, 116, 114] : List UInt8), .str ([83, 121, 109] : List UInt8), .str ([78, 117, 108, 108] : List UInt8), .str ([86, 111, 105, 100] : List UInt8)])]) (H1 := [(kg016 t1), .cells [.int .i64 0, .str [], .lst [] true], .cells [.gl 3 (List.length [])], growM 3 encDt []]) (by repeat (first | exact rzz | apply rcc rfl | apply rnn rfl)) rfl ?_
        refine L_seq ?_
        refine L_stmt ?_
        refine L_reg ?_
        refine G_p rfl rfl rfl ?_
        refine G_nil ?_
        refine L_nil ?_
        refine Sm_norm (e2 := [(1, .ptr 0 0), (2, .ptr 1 0), (3, .ptr 2 0), (4, .fn 45 [.ptr 2 0]), (5, .bool ((decide (t1.pair = 2)) && (!decide ((andB .i64 t1.flat 16) = 0)))), (21, .agg [.str ([73, 110, 116] : List UInt8), .str ([66, 111, 111, 108] : List UInt8), .str ([83, 116, 114] : List UInt8), .str ([83, 121, 109] : List UInt8), .str ([78, 117, 108, 108] : List UInt8), .str ([86, 111, 105, 100] : List UInt8)]), (22, .int .i64 0), (23, .bool true)]) (H1 := [(kg016 t1), .cells [.int .i64 0, .str [], .lst [] true], .cells [.gl 3 (List.length [])], growM 3 encDt []]) (H2 := [(kg016 t1), .cells [.int .i64 0, .str [], .lst [] true], .cells [.gl 3 (List.length [])], growM 3 encDt []]) rfl (by repeat (first | exact rzz | apply rcc rfl | apply rnn rfl)) rfl (?_ : GL _ _ _ _ _)
        refine L_seq ?_
        refine L_stmt ?_
        refine L_T rfl rfl ?_
        refine L_skip ?_
        refine L_nil ?_
        refine Sm_norm (e2 := (kg018 t1)) (H1 := [(kg016 t1), .cells [.int .i64 0, .str [], .lst [] true], .cells [.gl 3 (List.length [])], growM 3 encDt []]) (H2 := [(kg016 t1), .cells [.int .i64 0, .str [], .lst [] true], .cells [.gl 3 (List.length [])], growM 3 encDt []]) rfl (by repeat (first | exact rzz | apply rcc rfl | apply rnn rfl)) rfl (?_ : GL _ _ _ _ _)
        refine L_seq ?_
        refine L_stmtJ (S := List Dt) (fun s => (kg018 t1)) (fun s => [(kg016 t1), .cells [.int .i64 0, .str [], .lst [] true], .cells [.gl 3 (List.length s)], growM 3 encDt s]) (fun s => g_types_told_j9 rec t1 s = some r) ?_ ?_
        · skip
          refine L_block ?_
          refine L_seq ?_
          refine L_stmt ?_
          refine L_reg ?_
          refine G_p rfl rfl rfl ?_
          refine G_p rfl rfl rfl ?_
          refine G_p rfl rfl rfl ?_
          refine G_p rfl rfl rfl ?_
          refine G_nil ?_
          refine L_nil ?_
          refine Sm_norm (e2 := [(1, .ptr 0 0), (2, .ptr 1 0), (3, .ptr 2 0), (4, .fn 45 [.ptr 2 0]), (5, .bool ((decide (t1.pair = 2)) && (!decide ((andB .i64 t1.flat 16) = 0)))), (6, .int .i64 0), (7, .str ([73, 110, 116] : List UInt8)), (21, .agg [.str ([73, 110, 116] : List UInt8), .str ([66, 111, 111, 108] : List UInt8), .str ([83, 116, 114] : List UInt8), .str ([83, 121, 109] : List UInt8), .str ([78, 117, 108, 108] : List UInt8), .str ([86, 111, 105, 100] : List UInt8)]), (22, .int .i64 0)]) (H1 := [(kg016 t1), .cells [.int .i64 0, .str [], .lst [] true], .cells [.gl 3 (List.length [])], growM 3 encDt []]) (H2 := [(kg016 t1), .cells [.int .i64 0, .str [], .lst [] true], .cells [.gl 3 (List.length [])], growM 3 encDt []]) rfl (by repeat (first | exact rzz | apply rcc rfl | apply rnn rfl)) rfl (?_ : GL _ _ _ _ _)
          refine L_seq ?_
          refine L_stmt ?_
          refine L_drawS (ops := [_, _, _, _, _, _, _, _, _, _, _, _, _, _, _]) rfl rfl ?_
          refine G_p rfl rfl rfl ?_
          refine G_h rfl rfl rfl (fun _ => rfl) ?_
          refine G_p rfl rfl rfl ?_
          refine G_p rfl rfl rfl ?_
          refine G_p rfl rfl rfl ?_
          refine G_p rfl rfl rfl ?_
          refine G_p rfl rfl rfl ?_
          refine G_and (f := (!(((decide (t1.pair = 2)) && (!decide ((andB .i64 t1.flat 16) = 0))) && false))) [_, _, _, _, _, _, _] rfl rfl ?_ ?_
          · intro hb32
            refine G_p rfl rfl rfl ?_
            refine G_p rfl rfl rfl ?_
            refine G_and (f := false) [_, _, _] rfl rfl ?_ ?_
            · intro hb34
              refine G_p rfl rfl rfl ?_
              refine G_p rfl rfl rfl ?_
              refine G_p rfl rfl rfl ?_
              exact G_nil (L_nil ⟨rfl, rfl, rfl⟩)
            · intro vs hvs
              obtain ⟨u35, u36, u37, rfl⟩ := len3 hvs
              dsimp only [junk]
              refine G_p rfl rfl rfl ?_
              exact G_nil (L_nil ⟨rfl, rfl, rfl⟩)
          · intro vs hvs
            obtain ⟨u33, u34, u35, u36, u37, u38, u39, rfl⟩ := len7 hvs
            dsimp only [junk]
            refine G_nil (L_nil ⟨rfl, ?_⟩)
            refine L_nil ?_
            refine Sm_norm (e2 := [(1, .ptr 0 0), (2, .ptr 1 0), (3, .ptr 2 0), (4, .fn 45 [.ptr 2 0]), (5, .bool ((decide (t1.pair = 2)) && (!decide ((andB .i64 t1.flat 16) = 0)))), (7, .str ([73, 110, 116] : List UInt8)), (21, .agg [.str ([73, 110, 116] : List UInt8), .str ([66, 111, 111, 108] : List UInt8), .str ([83, 116, 114] : List UInt8), .str ([83, 121, 109] : List UInt8), .str ([78, 117, 108, 108] : List UInt8), .str ([86, 111, 105, 100] : List UInt8)]), (22, .int .i64 0), (40, .bool ((!decide ((andB .i64 t1.flat 1) = 0)) && (!(((decide (t1.pair = 2)) && (!decide ((andB .i64 t1.flat 16) = 0))) && false))))]) (H1 := [(kg016 t1), .cells [.int .i64 0, .str [], .lst [] true], .cells [.gl 3 (List.length [])], growM 3 encDt []]) (H2 := [(kg016 t1), .cells [.int .i64 0, .str [], .lst [] true], .cells [.gl 3 (List.length [])], growM 3 encDt []]) rfl (by repeat (first | exact rzz | apply rcc rfl | apply rnn rfl)) rfl (?_ : GL _ _ _ _ _)
            rcases cond_s hr with ⟨hc40, hr⟩ | ⟨hc40, hr⟩
            · refine L_T rfl hc40 ?_
              refine L_draw ?_
              refine GD_h (d := some 41) rfl rfl rfl rfl (fun _ => rfl) ?_
              refine GD_p rfl rfl rfl ?_
              obtain ⟨r114, hr114, hr⟩ := bind_s hr
              refine GD_c 44 rfl rfl rfl (CA_of (as := [.str ([73, 110, 116] : List UInt8)]) rfl (g_datum_Word_ok hr114)) ?_
              refine GD_h (d := some 44) rfl rfl rfl rfl (fun _ => rfl) ?_
              refine GD_h (d := some 45) (v := .lst (List.map encDt [(Dt.mk 0 [] [])]) true) rfl rfl rfl rfl (fun _ => Eq.trans (b := some (Ex.ok (AVal.lst [.agg [.int .i64 0, .str [], .lst [] false]] true), _)) rfl (congrArg (fun z => some (Ex.ok (AVal.lst z true), _)) (by first | rfl | (simp only [List.map_cons, List.map_nil, encDt_eq] <;> rfl)))) ?_
              obtain ⟨l115, hl115, hr⟩ := bind_s hr
              refine GD_o (d := some 46) rfl rfl rfl rfl (appZ_ev encDt_w1 (by decide) rfl rfl rfl rfl hl115 rfl) ?_
              refine GD_h (d := some 47) rfl rfl rfl rfl (iaZ_ev rfl rfl rfl rfl) ?_
              refine GD_h (d := none) (H' := [(kg016 t1), .cells [.int .i64 0, .str [], .lst [] true], .cells [.gl 3 (List.length [])], growM 3 encDt l115, .hole]) rfl rfl rfl rfl (staZ_ev (f := encDt) (v := r114) encDt_w1 rfl rfl ⟨rfl, rfl⟩ (by (try simp only [encDt_eq]); rfl) rfl hl115 rfl) ?_
              refine GD_h (d := none) (H' := [(kg016 t1), .cells [.int .i64 0, .str [], .lst [] true], .cells [.gl 3 (List.length [] + 1)], growM 3 encDt l115, .hole]) rfl rfl rfl rfl (fun _ => rfl) ?_
              (try rw [← catL_len hl115])
              refine GD_nil2 (by first | rfl | simp [okFs2, okEarlier2, disj, noneIn, notIn, sameOn, partsGls, sameB_self]) ?_
              refine L_nil ?_
              refine Blk_norm (?_ : GL _ _ _ _ _)
              refine L_nil ?_
              exact Sm_norm (e2 := (kg018 t1)) (H1 := [(kg016 t1), .cells [.int .i64 0, .str [], .lst [] true], .cells [.gl 3 (List.length l115)], growM 3 encDt l115, .hole]) (H2 := [(kg016 t1), .cells [.int .i64 0, .str [], .lst [] true], .cells [.gl 3 (List.length l115)], growM 3 encDt l115]) rfl (by repeat (first | exact rzz | apply rcc rfl | apply rnn rfl)) rfl ⟨l115, rfl, rfl, hr⟩
            · refine L_F rfl hc40 ?_
              refine L_skip ?_
              refine L_nil ?_
              refine Blk_norm (?_ : GL _ _ _ _ _)
              refine L_nil ?_
              exact Sm_norm (e2 := (kg018 t1)) (H1 := [(kg016 t1), .cells [.int .i64 0, .str [], .lst [] true], .cells [.gl 3 (List.length [])], growM 3 encDt []]) (H2 := [(kg016 t1), .cells [.int .i64 0, .str [], .lst [] true], .cells [.gl 3 (List.length [])], growM 3 encDt []]) rfl (by repeat (first | exact rzz | apply rcc rfl | apply rnn rfl)) rfl ⟨[], rfl, rfl, hr⟩
        · rintro l88 hr
          show GL _ _ (kg018 t1) [(kg016 t1), .cells [.int .i64 0, .str [], .lst [] true], .cells [.gl 3 (List.length l88)], growM 3 encDt l88] _
          replace hr : g_types_told_j9 rec t1 l88 = some r := hr
          unfold g_types_told_j9 at hr
          refine L_reg ?_
          refine G_p rfl rfl rfl ?_
          refine G_p rfl rfl rfl ?_
          refine G_nil ?_
          refine L_nil ?_
          refine Rd_norm ?_
          refine L_round (e1 := [(22, .int .i64 1), (1, .ptr 0 0), (2, .ptr 1 0), (3, .ptr 2 0), (4, .fn 45 [.ptr 2 0]), (5, .bool ((decide (t1.pair = 2)) && (!decide ((andB .i64 t1.flat 16) = 0)))), (21, .agg [.str ([73, 110, 116] : List UInt8), .str ([66, 111, 111, 108] : List UInt8), .str ([83, 116, 114] : List UInt8), .str ([83, 121, 109] : List UInt8), .str ([78, 117, 108, 108] : List UInt8), .str ([86, 111, 105, 100] : List UInt8)])]) (H1 := [(kg016 t1), .cells [.int .i64 0, .str [], .lst [] true], .cells [.gl 3 (List.length l88)], growM 3 encDt l88]) (by repeat (first | exact rzz | apply rcc rfl | apply rnn rfl)) rfl ?_
          refine L_seq ?_
          refine L_stmt ?_
          refine L_reg ?_
          refine G_p rfl rfl rfl ?_
          refine G_nil ?_
          refine L_nil ?_
          refine Sm_norm (e2 := [(1, .ptr 0 0), (2, .ptr 1 0), (3, .ptr 2 0), (4, .fn 45 [.ptr 2 0]), (5, .bool ((decide (t1.pair = 2)) && (!decide ((andB .i64 t1.flat 16) = 0)))), (21, .agg [.str ([73, 110, 116] : List UInt8), .str ([66, 111, 111, 108] : List UInt8), .str ([83, 116, 114] : List UInt8), .str ([83, 121, 109] : List UInt8), .str ([78, 117, 108, 108] : List UInt8), .str ([86, 111, 105, 100] : List UInt8)]), (22, .int .i64 1), (23, .bool true)]) (H1 := [(kg016 t1), .cells [.int .i64 0, .str [], .lst [] true], .cells [.gl 3 (List.length l88)], growM 3 encDt l88]) (H2 := [(kg016 t1), .cells [.int .i64 0, .str [], .lst [] true], .cells [.gl 3 (List.length l88)], growM 3 encDt l88]) rfl (by repeat (first | exact rzz | apply rcc rfl | apply rnn rfl)) rfl (?_ : GL _ _ _ _ _)
          refine L_seq ?_
          refine L_stmt ?_
          refine L_T rfl rfl ?_
          refine L_skip ?_
          refine L_nil ?_
          refine Sm_norm (e2 := (kg019 t1)) (H1 := [(kg016 t1), .cells [.int .i64 0, .str [], .lst [] true], .cells [.gl 3 (List.length l88)], growM 3 encDt l88]) (H2 := [(kg016 t1), .cells [.int .i64 0, .str [], .lst [] true], .cells [.gl 3 (List.length l88)], growM 3 encDt l88]) rfl (by repeat (first | exact rzz | apply rcc rfl | apply rnn rfl)) rfl (?_ : GL _ _ _ _ _)
          refine L_seq ?_
          refine L_stmtJ (S := List Dt) (fun s => (kg019 t1)) (fun s => [(kg016 t1), .cells [.int .i64 0, .str [], .lst [] true], .cells [.gl 3 (List.length s)], growM 3 encDt s]) (fun s => g_types_told_j8 rec t1 s = some r) ?_ ?_
          · skip
            refine L_block ?_
            refine L_seq ?_
            refine L_stmt ?_
            refine L_reg ?_
            refine G_p rfl rfl rfl ?_
            refine G_p rfl rfl rfl ?_
            refine G_p rfl rfl rfl ?_
            refine G_p rfl rfl rfl ?_
            refine G_nil ?_
            refine L_nil ?_
            refine Sm_norm (e2 := [(1, .ptr 0 0), (2, .ptr 1 0), (3, .ptr 2 0), (4, .fn 45 [.ptr 2 0]), (5, .bool ((decide (t1.pair = 2)) && (!decide ((andB .i64 t1.flat 16) = 0)))), (6, .int .i64 1), (7, .str ([66, 111, 111, 108] : List UInt8)), (21, .agg [.str ([73, 110, 116] : List UInt8), .str ([66, 111, 111, 108] : List UInt8), .str ([83, 116, 114] : List UInt8), .str ([83, 121, 109] : List UInt8), .str ([78, 117, 108, 108] : List UInt8), .str ([86, 111, 105, 100] : List UInt8)]), (22, .int .i64 1)]) (H1 := [(kg016 t1), .cells [.int .i64 0, .str [], .lst [] true], .cells [.gl 3 (List.length l88)], growM 3 encDt l88]) (H2 := [(kg016 t1), .cells [.int .i64 0, .str [], .lst [] true], .cells [.gl 3 (List.length l88)], growM 3 encDt l88]) rfl (by repeat (first | exact rzz | apply rcc rfl | apply rnn rfl)) rfl (?_ : GL _ _ _ _ _)
            refine L_seq ?_
            refine L_stmt ?_
            refine L_drawS (ops := [_, _, _, _, _, _, _, _, _, _, _, _, _, _, _]) rfl rfl ?_
            refine G_p rfl rfl rfl ?_
            refine G_h rfl rfl rfl (fun _ => rfl) ?_
            refine G_p rfl rfl rfl ?_
            refine G_p rfl rfl rfl ?_
            refine G_p rfl rfl rfl ?_
            refine G_p rfl rfl rfl ?_
            refine G_p rfl rfl rfl ?_
            refine G_and (f := (!(((decide (t1.pair = 2)) && (!decide ((andB .i64 t1.flat 16) = 0))) && false))) [_, _, _, _, _, _, _] rfl rfl ?_ ?_
            · intro hb32
              refine G_p rfl rfl rfl ?_
              refine G_p rfl rfl rfl ?_
              refine G_and (f := false) [_, _, _] rfl rfl ?_ ?_
              · intro hb34
                refine G_p rfl rfl rfl ?_
                refine G_p rfl rfl rfl ?_
                refine G_p rfl rfl rfl ?_
                exact G_nil (L_nil ⟨rfl, rfl, rfl⟩)
              · intro vs hvs
                obtain ⟨u35, u36, u37, rfl⟩ := len3 hvs
                dsimp only [junk]
                refine G_p rfl rfl rfl ?_
                exact G_nil (L_nil ⟨rfl, rfl, rfl⟩)
            · intro vs hvs
              obtain ⟨u33, u34, u35, u36, u37, u38, u39, rfl⟩ := len7 hvs
              dsimp only [junk]
              refine G_nil (L_nil ⟨rfl, ?_⟩)
              refine L_nil ?_
              refine Sm_norm (e2 := [(1, .ptr 0 0), (2, .ptr 1 0), (3, .ptr 2 0), (4, .fn 45 [.ptr 2 0]), (5, .bool ((decide (t1.pair = 2)) && (!decide ((andB .i64 t1.flat 16) = 0)))), (7, .str ([66, 111, 111, 108] : List UInt8)), (21, .agg [.str ([73, 110, 116] : List UInt8), .str ([66, 111, 111, 108] : List UInt8), .str ([83, 116, 114] : List UInt8), .str ([83, 121, 109] : List UInt8), .str ([78, 117, 108, 108] : List UInt8), .str ([86, 111, 105, 100] : List UInt8)]), (22, .int .i64 1), (40, .bool ((!decide ((andB .i64 t1.flat 2) = 0)) && (!(((decide (t1.pair = 2)) && (!decide ((andB .i64 t1.flat 16) = 0))) && false))))]) (H1 := [(kg016 t1), .cells [.int .i64 0, .str [], .lst [] true], .cells [.gl 3 (List.length l88)], growM 3 encDt l88]) (H2 := [(kg016 t1), .cells [.int .i64 0, .str [], .lst [] true], .cells [.gl 3 (List.length l88)], growM 3 encDt l88]) rfl (by repeat (first | exact rzz | apply rcc rfl | apply rnn rfl)) rfl (?_ : GL _ _ _ _ _)
              rcases cond_s hr with ⟨hc40, hr⟩ | ⟨hc40, hr⟩
              · refine L_T rfl hc40 ?_
                refine L_draw ?_
                refine GD_h (d := some 41) rfl rfl rfl rfl (fun _ => rfl) ?_
                refine GD_p rfl rfl rfl ?_
                obtain ⟨r112, hr112, hr⟩ := bind_s hr
                refine GD_c 44 rfl rfl rfl (CA_of (as := [.str ([66, 111, 111, 108] : List UInt8)]) rfl (g_datum_Word_ok hr112)) ?_
                refine GD_h (d := some 44) rfl rfl rfl rfl (fun _ => rfl) ?_
                refine GD_h (d := some 45) (v := .lst (List.map encDt [(Dt.mk 0 [] [])]) true) rfl rfl rfl rfl (fun _ => Eq.trans (b := some (Ex.ok (AVal.lst [.agg [.int .i64 0, .str [], .lst [] false]] true), _)) rfl (congrArg (fun z => some (Ex.ok (AVal.lst z true), _)) (by first | rfl | (simp only [List.map_cons, List.map_nil, encDt_eq] <;> rfl)))) ?_
                obtain ⟨l113, hl113, hr⟩ := bind_s hr
                refine GD_o (d := some 46) rfl rfl rfl rfl (appZ_ev encDt_w1 (by decide) rfl rfl rfl rfl hl113 rfl) ?_
                refine GD_h (d := some 47) rfl rfl rfl rfl (iaZ_ev rfl rfl rfl rfl) ?_
                refine GD_h (d := none) (H' := [(kg016 t1), .cells [.int .i64 0, .str [], .lst [] true], .cells [.gl 3 (List.length l88)], growM 3 encDt l113, .hole]) rfl rfl rfl rfl (staZ_ev (f := encDt) (v := r112) encDt_w1 rfl rfl ⟨rfl, rfl⟩ (by (try simp only [encDt_eq]); rfl) rfl hl113 rfl) ?_
                refine GD_h (d := none) (H' := [(kg016 t1), .cells [.int .i64 0, .str [], .lst [] true], .cells [.gl 3 (List.length l88 + 1)], growM 3 encDt l113, .hole]) rfl rfl rfl rfl (fun _ => rfl) ?_
                (try rw [← catL_len hl113])
                refine GD_nil2 (by first | rfl | simp [okFs2, okEarlier2, disj, noneIn, notIn, sameOn, partsGls, sameB_self]) ?_
                refine L_nil ?_
                refine Blk_norm (?_ : GL _ _ _ _ _)
                refine L_nil ?_
                exact Sm_norm (e2 := (kg019 t1)) (H1 := [(kg016 t1), .cells [.int .i64 0, .str [], .lst [] true], .cells [.gl 3 (List.length l113)], growM 3 encDt l113, .hole]) (H2 := [(kg016 t1), .cells [.int .i64 0, .str [], .lst [] true], .cells [.gl 3 (List.length l113)], growM 3 encDt l113]) rfl (by repeat (first | exact rzz | apply rcc rfl | apply rnn rfl)) rfl ⟨l113, rfl, rfl, hr⟩
              · refine L_F rfl hc40 ?_
                refine L_skip ?_
                refine L_nil ?_
                refine Blk_norm (?_ : GL _ _ _ _ _)
                refine L_nil ?_
                exact Sm_norm (e2 := (kg019 t1)) (H1 := [(kg016 t1), .cells [.int .i64 0, .str [], .lst [] true], .cells [.gl 3 (List.length l88)], growM 3 encDt l88]) (H2 := [(kg016 t1), .cells [.int .i64 0, .str [], .lst [] true], .cells [.gl 3 (List.length l88)], growM 3 encDt l88]) rfl (by repeat (first | exact rzz | apply rcc rfl | apply rnn rfl)) rfl ⟨l88, rfl, rfl, hr⟩
          · rintro l91 hr
            show GL _ _ (kg019 t1) [(kg016 t1), .cells [.int .i64 0, .str [], .lst [] true], .cells [.gl 3 (List.length l91)], growM 3 encDt l91] _
            replace hr : g_types_told_j8 rec t1 l91 = some r := hr
            unfold g_types_told_j8 at hr
            refine L_reg ?_
            refine G_p rfl rfl rfl ?_
            refine G_p rfl rfl rfl ?_
            refine G_nil ?_
            refine L_nil ?_
            refine Rd_norm ?_
            refine L_round (e1 := [(22, .int .i64 2), (1, .ptr 0 0), (2, .ptr 1 0), (3, .ptr 2 0), (4, .fn 45 [.ptr 2 0]), (5, .bool ((decide (t1.pair = 2)) && (!decide ((andB .i64 t1.flat 16) = 0)))), (21, .agg [.str ([73, 110, 116] : List UInt8), .str ([66, 111, 111, 108] : List UInt8), .str ([83, 116, 114] : List UInt8), .str ([83, 121, 109] : List UInt8), .str ([78, 117, 108, 108] : List UInt8), .str ([86, 111, 105, 100] : List UInt8)])]) (H1 := [(kg016 t1), .cells [.int .i64 0, .str [], .lst [] true], .cells [.gl 3 (List.length l91)], growM 3 encDt l91]) (by repeat (first | exact rzz | apply rcc rfl | apply rnn rfl)) rfl ?_
            refine L_seq ?_
            refine L_stmt ?_
            refine L_reg ?_
            refine G_p rfl rfl rfl ?_
            refine G_nil ?_
            refine L_nil ?_
            refine Sm_norm (e2 := [(1, .ptr 0 0), (2, .ptr 1 0), (3, .ptr 2 0), (4, .fn 45 [.ptr 2 0]), (5, .bool ((decide (t1.pair = 2)) && (!decide ((andB .i64 t1.flat 16) = 0)))), (21, .agg [.str ([73, 110, 116] : List UInt8), .str ([66, 111, 111, 108] : List UInt8), .str ([83, 116, 114] : List UInt8), .str ([83, 121, 109] : List UInt8), .str ([78, 117, 108, 108] : List UInt8), .str ([86, 111, 105, 100] : List UInt8)]), (22, .int .i64 2), (23, .bool true)]) (H1 := [(kg016 t1), .cells [.int .i64 0, .str [], .lst [] true], .cells [.gl 3 (List.length l91)], growM 3 encDt l91]) (H2 := [(kg016 t1), .cells [.int .i64 0, .str [], .lst [] true], .cells [.gl 3 (List.length l91)], growM 3 encDt l91]) rfl (by repeat (first | exact rzz | apply rcc rfl | apply rnn rfl)) rfl (?_ : GL _ _ _ _ _)
            refine L_seq ?_
            refine L_stmt ?_
            refine L_T rfl rfl ?_
            refine L_skip ?_
            refine L_nil ?_
            refine Sm_norm (e2 := (kg020 t1)) (H1 := [(kg016 t1), .cells [.int .i64 0, .str [], .lst [] true], .cells [.gl 3 (List.length l91)], growM 3 encDt l91]) (H2 := [(kg016 t1), .cells [.int .i64 0, .str [], .lst [] true], .cells [.gl 3 (List.length l91)], growM 3 encDt l91]) rfl (by repeat (first | exact rzz | apply rcc rfl | apply rnn rfl)) rfl (?_ : GL _ _ _ _ _)
            refine L_seq ?_
            refine L_stmtJ (S := List Dt) (fun s => (kg020 t1)) (fun s => [(kg016 t1), .cells [.int .i64 0, .str [], .lst [] true], .cells [.gl 3 (List.length s)], growM 3 encDt s]) (fun s => g_types_told_j7 rec t1 s = some r) ?_ ?_
            · skip
              refine L_block ?_
              refine L_seq ?_
              refine L_stmt ?_
              refine L_reg ?_
              refine G_p rfl rfl rfl ?_
              refine G_p rfl rfl rfl ?_
              refine G_p rfl rfl rfl ?_
              refine G_p rfl rfl rfl ?_
              refine G_nil ?_
              refine L_nil ?_
              refine Sm_norm (e2 := [(1, .ptr 0 0), (2, .ptr 1 0), (3, .ptr 2 0), (4, .fn 45 [.ptr 2 0]), (5, .bool ((decide (t1.pair = 2)) && (!decide ((andB .i64 t1.flat 16) = 0)))), (6, .int .i64 2), (7, .str ([83, 116, 114] : List UInt8)), (21, .agg [.str ([73, 110, 116] : List UInt8), .str ([66, 111, 111, 108] : List UInt8), .str ([83, 116, 114] : List UInt8), .str ([83, 121, 109] : List UInt8), .str ([78, 117, 108, 108] : List UInt8), .str ([86, 111, 105, 100] : List UInt8)]), (22, .int .i64 2)]) (H1 := [(kg016 t1), .cells [.int .i64 0, .str [], .lst [] true], .cells [.gl 3 (List.length l91)], growM 3 encDt l91]) (H2 := [(kg016 t1), .cells [.int .i64 0, .str [], .lst [] true], .cells [.gl 3 (List.length l91)], growM 3 encDt l91]) rfl (by repeat (first | exact rzz | apply rcc rfl | apply rnn rfl)) rfl (?_ : GL _ _ _ _ _)
              refine L_seq ?_
              refine L_stmt ?_
              refine L_drawS (ops := [_, _, _, _, _, _, _, _, _, _, _, _, _, _, _]) rfl rfl ?_
              refine G_p rfl rfl rfl ?_
              refine G_h rfl rfl rfl (fun _ => rfl) ?_
              refine G_p rfl rfl rfl ?_
              refine G_p rfl rfl rfl ?_
              refine G_p rfl rfl rfl ?_
              refine G_p rfl rfl rfl ?_
              refine G_p rfl rfl rfl ?_
              refine G_and (f := (!(((decide (t1.pair = 2)) && (!decide ((andB .i64 t1.flat 16) = 0))) && false))) [_, _, _, _, _, _, _] rfl rfl ?_ ?_
              · intro hb32
                refine G_p rfl rfl rfl ?_
                refine G_p rfl rfl rfl ?_
                refine G_and (f := false) [_, _, _] rfl rfl ?_ ?_
                · intro hb34
                  refine G_p rfl rfl rfl ?_
                  refine G_p rfl rfl rfl ?_
                  refine G_p rfl rfl rfl ?_
                  exact G_nil (L_nil ⟨rfl, rfl, rfl⟩)
                · intro vs hvs
                  obtain ⟨u35, u36, u37, rfl⟩ := len3 hvs
                  dsimp only [junk]
                  refine G_p rfl rfl rfl ?_
                  exact G_nil (L_nil ⟨rfl, rfl, rfl⟩)
              · intro vs hvs
                obtain ⟨u33, u34, u35, u36, u37, u38, u39, rfl⟩ := len7 hvs
                dsimp only [junk]
                refine G_nil (L_nil ⟨rfl, ?_⟩)
                refine L_nil ?_
                refine Sm_norm (e2 := [(1, .ptr 0 0), (2, .ptr 1 0), (3, .ptr 2 0), (4, .fn 45 [.ptr 2 0]), (5, .bool ((decide (t1.pair = 2)) && (!decide ((andB .i64 t1.flat 16) = 0)))), (7, .str ([83, 116, 114] : List UInt8)), (21, .agg [.str ([73, 110, 116] : List UInt8), .str ([66, 111, 111, 108] : List UInt8), .str ([83, 116, 114] : List UInt8), .str ([83, 121, 109] : List UInt8), .str ([78, 117, 108, 108] : List UInt8), .str ([86, 111, 105, 100] : List UInt8)]), (22, .int .i64 2), (40, .bool ((!decide ((andB .i64 t1.flat 4) = 0)) && (!(((decide (t1.pair = 2)) && (!decide ((andB .i64 t1.flat 16) = 0))) && false))))]) (H1 := [(kg016 t1), .cells [.int .i64 0, .str [], .lst [] true], .cells [.gl 3 (List.length l91)], growM 3 encDt l91]) (H2 := [(kg016 t1), .cells [.int .i64 0, .str [], .lst [] true], .cells [.gl 3 (List.length l91)], growM 3 encDt l91]) rfl (by repeat (first | exact rzz | apply rcc rfl | apply rnn rfl)) rfl (?_ : GL _ _ _ _ _)
                rcases cond_s hr with ⟨hc40, hr⟩ | ⟨hc40, hr⟩
                · refine L_T rfl hc40 ?_
                  refine L_draw ?_
                  refine GD_h (d := some 41) rfl rfl rfl rfl (fun _ => rfl) ?_
                  refine GD_p rfl rfl rfl ?_
                  obtain ⟨r110, hr110, hr⟩ := bind_s hr
                  refine GD_c 44 rfl rfl rfl (CA_of (as := [.str ([83, 116, 114] : List UInt8)]) rfl (g_datum_Word_ok hr110)) ?_
                  refine GD_h (d := some 44) rfl rfl rfl rfl (fun _ => rfl) ?_
                  refine GD_h (d := some 45) (v := .lst (List.map encDt [(Dt.mk 0 [] [])]) true) rfl rfl rfl rfl (fun _ => Eq.trans (b := some (Ex.ok (AVal.lst [.agg [.int .i64 0, .str [], .lst [] false]] true), _)) rfl (congrArg (fun z => some (Ex.ok (AVal.lst z true), _)) (by first | rfl | (simp only [List.map_cons, List.map_nil, encDt_eq] <;> rfl)))) ?_
                  obtain ⟨l111, hl111, hr⟩ := bind_s hr
                  refine GD_o (d := some 46) rfl rfl rfl rfl (appZ_ev encDt_w1 (by decide) rfl rfl rfl rfl hl111 rfl) ?_
                  refine GD_h (d := some 47) rfl rfl rfl rfl (iaZ_ev rfl rfl rfl rfl) ?_
                  refine GD_h (d := none) (H' := [(kg016 t1), .cells [.int .i64 0, .str [], .lst [] true], .cells [.gl 3 (List.length l91)], growM 3 encDt l111, .hole]) rfl rfl rfl rfl (staZ_ev (f := encDt) (v := r110) encDt_w1 rfl rfl ⟨rfl, rfl⟩ (by (try simp only [encDt_eq]); rfl) rfl hl111 rfl) ?_
                  refine GD_h (d := none) (H' := [(kg016 t1), .cells [.int .i64 0, .str [], .lst [] true], .cells [.gl 3 (List.length l91 + 1)], growM 3 encDt l111, .hole]) rfl rfl rfl rfl (fun _ => rfl) ?_
                  (try rw [← catL_len hl111])
                  refine GD_nil2 (by first | rfl | simp [okFs2, okEarlier2, disj, noneIn, notIn, sameOn, partsGls, sameB_self]) ?_
                  refine L_nil ?_
                  refine Blk_norm (?_ : GL _ _ _ _ _)
                  refine L_nil ?_
                  exact Sm_norm (e2 := (kg020 t1)) (H1 := [(kg016 t1), .cells [.int .i64 0, .str [], .lst [] true], .cells [.gl 3 (List.length l111)], growM 3 encDt l111, .hole]) (H2 := [(kg016 t1), .cells [.int .i64 0, .str [], .lst [] true], .cells [.gl 3 (List.length l111)], growM 3 encDt l111]) rfl (by repeat (first | exact rzz | apply rcc rfl | apply rnn rfl)) rfl ⟨l111, rfl, rfl, hr⟩
                · refine L_F rfl hc40 ?_
                  refine L_skip ?_
                  refine L_nil ?_
                  refine Blk_norm (?_ : GL _ _ _ _ _)
                  refine L_nil ?_
                  exact Sm_norm (e2 := (kg020 t1)) (H1 := [(kg016 t1), .cells [.int .i64 0, .str [], .lst [] true], .cells [.gl 3 (List.length l91)], growM 3 encDt l91]) (H2 := [(kg016 t1), .cells [.int .i64 0, .str [], .lst [] true], .cells [.gl 3 (List.length l91)], growM 3 encDt l91]) rfl (by repeat (first | exact rzz | apply rcc rfl | apply rnn rfl)) rfl ⟨l91, rfl, rfl, hr⟩
            · rintro l94 hr
              show GL _ _ (kg020 t1) [(kg016 t1), .cells [.int .i64 0, .str [], .lst [] true], .cells [.gl 3 (List.length l94)], growM 3 encDt l94] _
              replace hr : g_types_told_j7 rec t1 l94 = some r := hr
              unfold g_types_told_j7 at hr
              refine L_reg ?_
              refine G_p rfl rfl rfl ?_
              refine G_p rfl rfl rfl ?_
              refine G_nil ?_
              refine L_nil ?_
              refine Rd_norm ?_
              refine L_round (e1 := [(22, .int .i64 3), (1, .ptr 0 0), (2, .ptr 1 0), (3, .ptr 2 0), (4, .fn 45 [.ptr 2 0]), (5, .bool ((decide (t1.pair = 2)) && (!decide ((andB .i64 t1.flat 16) = 0)))), (21, .agg [.str ([73, 110, 116] : List UInt8), .str ([66, 111, 111, 108] : List UInt8), .str ([83, 116, 114] : List UInt8), .str ([83, 121, 109] : List UInt8), .str ([78, 117, 108, 108] : List UInt8), .str ([86, 111, 105, 100] : List UInt8)])]) (H1 := [(kg016 t1), .cells [.int .i64 0, .str [], .lst [] true], .cells [.gl 3 (List.length l94)], growM 3 encDt l94]) (by repeat (first | exact rzz | apply rcc rfl | apply rnn rfl)) rfl ?_
              refine L_seq ?_
              refine L_stmt ?_
              refine L_reg ?_
              refine G_p rfl rfl rfl ?_
              refine G_nil ?_
              refine L_nil ?_
              refine Sm_norm (e2 := [(1, .ptr 0 0), (2, .ptr 1 0), (3, .ptr 2 0), (4, .fn 45 [.ptr 2 0]), (5, .bool ((decide (t1.pair = 2)) && (!decide ((andB .i64 t1.flat 16) = 0)))), (21, .agg [.str ([73, 110, 116] : List UInt8), .str ([66, 111, 111, 108] : List UInt8), .str ([83, 116, 114] : List UInt8), .str ([83, 121, 109] : List UInt8), .str ([78, 117, 108, 108] : List UInt8), .str ([86, 111, 105, 100] : List UInt8)]), (22, .int .i64 3), (23, .bool true)]) (H1 := [(kg016 t1), .cells [.int .i64 0, .str [], .lst [] true], .cells [.gl 3 (List.length l94)], growM 3 encDt l94]) (H2 := [(kg016 t1), .cells [.int .i64 0, .str [], .lst [] true], .cells [.gl 3 (List.length l94)], growM 3 encDt l94]) rfl (by repeat (first | exact rzz | apply rcc rfl | apply rnn rfl)) rfl (?_ : GL _ _ _ _ _)
              refine L_seq ?_
              refine L_stmt ?_
              refine L_T rfl rfl ?_
              refine L_skip ?_
              refine L_nil ?_
              refine Sm_norm (e2 := (kg021 t1)) (H1 := [(kg016 t1), .cells [.int .i64 0, .str [], .lst [] true], .cells [.gl 3 (List.length l94)], growM 3 encDt l94]) (H2 := [(kg016 t1), .cells [.int .i64 0, .str [], .lst [] true], .cells [.gl 3 (List.length l94)], growM 3 encDt l94]) rfl (by repeat (first | exact rzz | apply rcc rfl | apply rnn rfl)) rfl (?_ : GL _ _ _ _ _)
              refine L_seq ?_
              refine L_stmtJ (S := List Dt) (fun s => (kg021 t1)) (fun s => [(kg016 t1), .cells [.int .i64 0, .str [], .lst [] true], .cells [.gl 3 (List.length s)], growM 3 encDt s]) (fun s => g_types_told_j6 rec t1 s = some r) ?_ ?_
              · skip
                refine L_block ?_
                refine L_seq ?_
                refine L_stmt ?_
                refine L_reg ?_
                refine G_p rfl rfl rfl ?_
                refine G_p rfl rfl rfl ?_
                refine G_p rfl rfl rfl ?_
                refine G_p rfl rfl rfl ?_
                refine G_nil ?_
                refine L_nil ?_
                refine Sm_norm (e2 := [(1, .ptr 0 0), (2, .ptr 1 0), (3, .ptr 2 0), (4, .fn 45 [.ptr 2 0]), (5, .bool ((decide (t1.pair = 2)) && (!decide ((andB .i64 t1.flat 16) = 0)))), (6, .int .i64 3), (7, .str ([83, 121, 109] : List UInt8)), (21, .agg [.str ([73, 110, 116] : List UInt8), .str ([66, 111, 111, 108] : List UInt8), .str ([83, 116, 114] : List UInt8), .str ([83, 121, 109] : List UInt8), .str ([78, 117, 108, 108] : List UInt8), .str ([86, 111, 105, 100] : List UInt8)]), (22, .int .i64 3)]) (H1 := [(kg016 t1), .cells [.int .i64 0, .str [], .lst [] true], .cells [.gl 3 (List.length l94)], growM 3 encDt l94]) (H2 := [(kg016 t1), .cells [.int .i64 0, .str [], .lst [] true], .cells [.gl 3 (List.length l94)], growM 3 encDt l94]) rfl (by repeat (first | exact rzz | apply rcc rfl | apply rnn rfl)) rfl (?_ : GL _ _ _ _ _)
                refine L_seq ?_
                refine L_stmt ?_
                refine L_drawS (ops := [_, _, _, _, _, _, _, _, _, _, _, _, _, _, _]) rfl rfl ?_
                refine G_p rfl rfl rfl ?_
                refine G_h rfl rfl rfl (fun _ => rfl) ?_
                refine G_p rfl rfl rfl ?_
                refine G_p rfl rfl rfl ?_
                refine G_p rfl rfl rfl ?_
                refine G_p rfl rfl rfl ?_
                refine G_p rfl rfl rfl ?_
                refine G_and (f := (!(((decide (t1.pair = 2)) && (!decide ((andB .i64 t1.flat 16) = 0))) && false))) [_, _, _, _, _, _, _] rfl rfl ?_ ?_
                · intro hb32
                  refine G_p rfl rfl rfl ?_
                  refine G_p rfl rfl rfl ?_
                  refine G_and (f := false) [_, _, _] rfl rfl ?_ ?_
                  · intro hb34
                    refine G_p rfl rfl rfl ?_
                    refine G_p rfl rfl rfl ?_
                    refine G_p rfl rfl rfl ?_
                    exact G_nil (L_nil ⟨rfl, rfl, rfl⟩)
                  · intro vs hvs
                    obtain ⟨u35, u36, u37, rfl⟩ := len3 hvs
                    dsimp only [junk]
                    refine G_p rfl rfl rfl ?_
                    exact G_nil (L_nil ⟨rfl, rfl, rfl⟩)
                · intro vs hvs
                  obtain ⟨u33, u34, u35, u36, u37, u38, u39, rfl⟩ := len7 hvs
                  dsimp only [junk]
                  refine G_nil (L_nil ⟨rfl, ?_⟩)
                  refine L_nil ?_
                  refine Sm_norm (e2 := [(1, .ptr 0 0), (2, .ptr 1 0), (3, .ptr 2 0), (4, .fn 45 [.ptr 2 0]), (5, .bool ((decide (t1.pair = 2)) && (!decide ((andB .i64 t1.flat 16) = 0)))), (7, .str ([83, 121, 109] : List UInt8)), (21, .agg [.str ([73, 110, 116] : List UInt8), .str ([66, 111, 111, 108] : List UInt8), .str ([83, 116, 114] : List UInt8), .str ([83, 121, 109] : List UInt8), .str ([78, 117, 108, 108] : List UInt8), .str ([86, 111, 105, 100] : List UInt8)]), (22, .int .i64 3), (40, .bool ((!decide ((andB .i64 t1.flat 8) = 0)) && (!(((decide (t1.pair = 2)) && (!decide ((andB .i64 t1.flat 16) = 0))) && false))))]) (H1 := [(kg016 t1), .cells [.int .i64 0, .str [], .lst [] true], .cells [.gl 3 (List.length l94)], growM 3 encDt l94]) (H2 := [(kg016 t1), .cells [.int .i64 0, .str [], .lst [] true], .cells [.gl 3 (List.length l94)], growM 3 encDt l94]) rfl (by repeat (first | exact rzz | apply rcc rfl | apply rnn rfl)) rfl (?_ : GL _ _ _ _ _)
                  rcases cond_s hr with ⟨hc40, hr⟩ | ⟨hc40, hr⟩
                  · refine L_T rfl hc40 ?_
                    refine L_draw ?_
                    refine GD_h (d := some 41) rfl rfl rfl rfl (fun _ => rfl) ?_
                    refine GD_p rfl rfl rfl ?_
                    obtain ⟨r108, hr108, hr⟩ := bind_s hr
                    refine GD_c 44 rfl rfl rfl (CA_of (as := [.str ([83, 121, 109] : List UInt8)]) rfl (g_datum_Word_ok hr108)) ?_
                    refine GD_h (d := some 44) rfl rfl rfl rfl (fun _ => rfl) ?_
                    refine GD_h (d := some 45) (v := .lst (List.map encDt [(Dt.mk 0 [] [])]) true) rfl rfl rfl rfl (fun _ => Eq.trans (b := some (Ex.ok (AVal.lst [.agg [.int .i64 0, .str [], .lst [] false]] true), _)) rfl (congrArg (fun z => some (Ex.ok (AVal.lst z true), _)) (by first | rfl | (simp only [List.map_cons, List.map_nil, encDt_eq] <;> rfl)))) ?_
                    obtain ⟨l109, hl109, hr⟩ := bind_s hr
                    refine GD_o (d := some 46) rfl rfl rfl rfl (appZ_ev encDt_w1 (by decide) rfl rfl rfl rfl hl109 rfl) ?_
                    refine GD_h (d := some 47) rfl rfl rfl rfl (iaZ_ev rfl rfl rfl rfl) ?_
                    refine GD_h (d := none) (H' := [(kg016 t1), .cells [.int .i64 0, .str [], .lst [] true], .cells [.gl 3 (List.length l94)], growM 3 encDt l109, .hole]) rfl rfl rfl rfl (staZ_ev (f := encDt) (v := r108) encDt_w1 rfl rfl ⟨rfl, rfl⟩ (by (try simp only [encDt_eq]); rfl) rfl hl109 rfl) ?_
                    refine GD_h (d := none) (H' := [(kg016 t1), .cells [.int .i64 0, .str [], .lst [] true], .cells [.gl 3 (List.length l94 + 1)], growM 3 encDt l109, .hole]) rfl rfl rfl rfl (fun _ => rfl) ?_
                    (try rw [← catL_len hl109])
                    refine GD_nil2 (by first | rfl | simp [okFs2, okEarlier2, disj, noneIn, notIn, sameOn, partsGls, sameB_self]) ?_
                    refine L_nil ?_
                    refine Blk_norm (?_ : GL _ _ _ _ _)
                    refine L_nil ?_
                    exact Sm_norm (e2 := (kg021 t1)) (H1 := [(kg016 t1), .cells [.int .i64 0, .str [], .lst [] true], .cells [.gl 3 (List.length l109)], growM 3 encDt l109, .hole]) (H2 := [(kg016 t1), .cells [.int .i64 0, .str [], .lst [] true], .cells [.gl 3 (List.length l109)], growM 3 encDt l109]) rfl (by repeat (first | exact rzz | apply rcc rfl | apply rnn rfl)) rfl ⟨l109, rfl, rfl, hr⟩
                  · refine L_F rfl hc40 ?_
                    refine L_skip ?_
                    refine L_nil ?_
                    refine Blk_norm (?_ : GL _ _ _ _ _)
                    refine L_nil ?_
                    exact Sm_norm (e2 := (kg021 t1)) (H1 := [(kg016 t1), .cells [.int .i64 0, .str [], .lst [] true], .cells [.gl 3 (List.length l94)], growM 3 encDt l94]) (H2 := [(kg016 t1), .cells [.int .i64 0, .str [], .lst [] true], .cells [.gl 3 (List.length l94)], growM 3 encDt l94]) rfl (by repeat (first | exact rzz | apply rcc rfl | apply rnn rfl)) rfl ⟨l94, rfl, rfl, hr⟩
              · rintro l97 hr
                show GL _ _ (kg021 t1) [(kg016 t1), .cells [.int .i64 0, .str [], .lst [] true], .cells [.gl 3 (List.length l97)], growM 3 encDt l97] _
                replace hr : g_types_told_j6 rec t1 l97 = some r := hr
                unfold g_types_told_j6 at hr
                refine L_reg ?_
                refine G_p rfl rfl rfl ?_
                refine G_p rfl rfl rfl ?_
                refine G_nil ?_
                refine L_nil ?_
                refine Rd_norm ?_
                refine L_round (e1 := [(22, .int .i64 4), (1, .ptr 0 0), (2, .ptr 1 0), (3, .ptr 2 0), (4, .fn 45 [.ptr 2 0]), (5, .bool ((decide (t1.pair = 2)) && (!decide ((andB .i64 t1.flat 16) = 0)))), (21, .agg [.str ([73, 110, 116] : List UInt8), .str ([66, 111, 111, 108] : List UInt8), .str ([83, 116, 114] : List UInt8), .str ([83, 121, 109] : List UInt8), .str ([78, 117, 108, 108] : List UInt8), .str ([86, 111, 105, 100] : List UInt8)])]) (H1 := [(kg016 t1), .cells [.int .i64 0, .str [], .lst [] true], .cells [.gl 3 (List.length l97)], growM 3 encDt l97]) (by repeat (first | exact rzz | apply rcc rfl | apply rnn rfl)) rfl ?_
                refine L_seq ?_
                refine L_stmt ?_
                refine L_reg ?_
                refine G_p rfl rfl rfl ?_
                refine G_nil ?_
                refine L_nil ?_
                refine Sm_norm (e2 := [(1, .ptr 0 0), (2, .ptr 1 0), (3, .ptr 2 0), (4, .fn 45 [.ptr 2 0]), (5, .bool ((decide (t1.pair = 2)) && (!decide ((andB .i64 t1.flat 16) = 0)))), (21, .agg [.str ([73, 110, 116] : List UInt8), .str ([66, 111, 111, 108] : List UInt8), .str ([83, 116, 114] : List UInt8), .str ([83, 121, 109] : List UInt8), .str ([78, 117, 108, 108] : List UInt8), .str ([86, 111, 105, 100] : List UInt8)]), (22, .int .i64 4), (23, .bool true)]) (H1 := [(kg016 t1), .cells [.int .i64 0, .str [], .lst [] true], .cells [.gl 3 (List.length l97)], growM 3 encDt l97]) (H2 := [(kg016 t1), .cells [.int .i64 0, .str [], .lst [] true], .cells [.gl 3 (List.length l97)], growM 3 encDt l97]) rfl (by repeat (first | exact rzz | apply rcc rfl | apply rnn rfl)) rfl (?_ : GL _ _ _ _ _)
                refine L_seq ?_
                refine L_stmt ?_
                refine L_T rfl rfl ?_
                refine L_skip ?_
                refine L_nil ?_
                refine Sm_norm (e2 := (kg022 t1)) (H1 := [(kg016 t1), .cells [.int .i64 0, .str [], .lst [] true], .cells [.gl 3 (List.length l97)], growM 3 encDt l97]) (H2 := [(kg016 t1), .cells [.int .i64 0, .str [], .lst [] true], .cells [.gl 3 (List.length l97)], growM 3 encDt l97]) rfl (by repeat (first | exact rzz | apply rcc rfl | apply rnn rfl)) rfl (?_ : GL _ _ _ _ _)
                refine L_seq ?_
                refine L_stmtJ (S := List Dt) (fun s => (kg022 t1)) (fun s => [(kg016 t1), .cells [.int .i64 0, .str [], .lst [] true], .cells [.gl 3 (List.length s)], growM 3 encDt s]) (fun s => g_types_told_j5 rec t1 s = some r) ?_ ?_
                · skip
                  refine L_block ?_
                  refine L_seq ?_
                  refine L_stmt ?_
                  refine L_reg ?_
                  refine G_p rfl rfl rfl ?_
                  refine G_p rfl rfl rfl ?_
                  refine G_p rfl rfl rfl ?_
                  refine G_p rfl rfl rfl ?_
                  refine G_nil ?_
                  refine L_nil ?_
                  refine Sm_norm (e2 := [(1, .ptr 0 0), (2, .ptr 1 0), (3, .ptr 2 0), (4, .fn 45 [.ptr 2 0]), (5, .bool ((decide (t1.pair = 2)) && (!decide ((andB .i64 t1.flat 16) = 0)))), (6, .int .i64 4), (7, .str ([78, 117, 108, 108] : List UInt8)), (21, .agg [.str ([73, 110, 116] : List UInt8), .str ([66, 111, 111, 108] : List UInt8), .str ([83, 116, 114] : List UInt8), .str ([83, 121, 109] : List UInt8), .str ([78, 117, 108, 108] : List UInt8), .str ([86, 111, 105, 100] : List UInt8)]), (22, .int .i64 4)]) (H1 := [(kg016 t1), .cells [.int .i64 0, .str [], .lst [] true], .cells [.gl 3 (List.length l97)], growM 3 encDt l97]) (H2 := [(kg016 t1), .cells [.int .i64 0, .str [], .lst [] true], .cells [.gl 3 (List.length l97)], growM 3 encDt l97]) rfl (by repeat (first | exact rzz | apply rcc rfl | apply rnn rfl)) rfl (?_ : GL _ _ _ _ _)
                  refine L_seq ?_
                  refine L_stmt ?_
                  refine L_drawS (ops := [_, _, _, _, _, _, _, _, _, _, _, _, _, _, _]) rfl rfl ?_
                  refine G_p rfl rfl rfl ?_
                  refine G_h rfl rfl rfl (fun _ => rfl) ?_
                  refine G_p rfl rfl rfl ?_
                  refine G_p rfl rfl rfl ?_
                  refine G_p rfl rfl rfl ?_
                  refine G_p rfl rfl rfl ?_
                  refine G_p rfl rfl rfl ?_
                  refine G_and (f := (!(((decide (t1.pair = 2)) && (!decide ((andB .i64 t1.flat 16) = 0))) && true))) [_, _, _, _, _, _, _] rfl rfl ?_ ?_
                  · intro hb32
                    refine G_p rfl rfl rfl ?_
                    refine G_p rfl rfl rfl ?_
                    refine G_and (f := true) [_, _, _] rfl rfl ?_ ?_
                    · intro hb34
                      refine G_p rfl rfl rfl ?_
                      refine G_p rfl rfl rfl ?_
                      refine G_p rfl rfl rfl ?_
                      exact G_nil (L_nil ⟨rfl, rfl, rfl⟩)
                    · intro vs hvs
                      obtain ⟨u35, u36, u37, rfl⟩ := len3 hvs
                      dsimp only [junk]
                      refine G_p rfl rfl rfl ?_
                      exact G_nil (L_nil ⟨rfl, rfl, rfl⟩)
                  · intro vs hvs
                    obtain ⟨u33, u34, u35, u36, u37, u38, u39, rfl⟩ := len7 hvs
                    dsimp only [junk]
                    refine G_nil (L_nil ⟨rfl, ?_⟩)
                    refine L_nil ?_
                    refine Sm_norm (e2 := [(1, .ptr 0 0), (2, .ptr 1 0), (3, .ptr 2 0), (4, .fn 45 [.ptr 2 0]), (5, .bool ((decide (t1.pair = 2)) && (!decide ((andB .i64 t1.flat 16) = 0)))), (7, .str ([78, 117, 108, 108] : List UInt8)), (21, .agg [.str ([73, 110, 116] : List UInt8), .str ([66, 111, 111, 108] : List UInt8), .str ([83, 116, 114] : List UInt8), .str ([83, 121, 109] : List UInt8), .str ([78, 117, 108, 108] : List UInt8), .str ([86, 111, 105, 100] : List UInt8)]), (22, .int .i64 4), (40, .bool ((!decide ((andB .i64 t1.flat 16) = 0)) && (!(((decide (t1.pair = 2)) && (!decide ((andB .i64 t1.flat 16) = 0))) && true))))]) (H1 := [(kg016 t1), .cells [.int .i64 0, .str [], .lst [] true], .cells [.gl 3 (List.length l97)], growM 3 encDt l97]) (H2 := [(kg016 t1), .cells [.int .i64 0, .str [], .lst [] true], .cells [.gl 3 (List.length l97)], growM 3 encDt l97]) rfl (by repeat (first | exact rzz | apply rcc rfl | apply rnn rfl)) rfl (?_ : GL _ _ _ _ _)
                    rcases cond_s hr with ⟨hc40, hr⟩ | ⟨hc40, hr⟩
                    · refine L_T rfl hc40 ?_
                      refine L_draw ?_
                      refine GD_h (d := some 41) rfl rfl rfl rfl (fun _ => rfl) ?_
                      refine GD_p rfl rfl rfl ?_
                      obtain ⟨r106, hr106, hr⟩ := bind_s hr
                      refine GD_c 44 rfl rfl rfl (CA_of (as := [.str ([78, 117, 108, 108] : List UInt8)]) rfl (g_datum_Word_ok hr106)) ?_
                      refine GD_h (d := some 44) rfl rfl rfl rfl (fun _ => rfl) ?_
                      refine GD_h (d := some 45) (v := .lst (List.map encDt [(Dt.mk 0 [] [])]) true) rfl rfl rfl rfl (fun _ => Eq.trans (b := some (Ex.ok (AVal.lst [.agg [.int .i64 0, .str [], .lst [] false]] true), _)) rfl (congrArg (fun z => some (Ex.ok (AVal.lst z true), _)) (by first | rfl | (simp only [List.map_cons, List.map_nil, encDt_eq] <;> rfl)))) ?_
                      obtain ⟨l107, hl107, hr⟩ := bind_s hr
                      refine GD_o (d := some 46) rfl rfl rfl rfl (appZ_ev encDt_w1 (by decide) rfl rfl rfl rfl hl107 rfl) ?_
                      refine GD_h (d := some 47) rfl rfl rfl rfl (iaZ_ev rfl rfl rfl rfl) ?_
                      refine GD_h (d := none) (H' := [(kg016 t1), .cells [.int .i64 0, .str [], .lst [] true], .cells [.gl 3 (List.length l97)], growM 3 encDt l107, .hole]) rfl rfl rfl rfl (staZ_ev (f := encDt) (v := r106) encDt_w1 rfl rfl ⟨rfl, rfl⟩ (by (try simp only [encDt_eq]); rfl) rfl hl107 rfl) ?_
                      refine GD_h (d := none) (H' := [(kg016 t1), .cells [.int .i64 0, .str [], .lst [] true], .cells [.gl 3 (List.length l97 + 1)], growM 3 encDt l107, .hole]) rfl rfl rfl rfl (fun _ => rfl) ?_
                      (try rw [← catL_len hl107])
                      refine GD_nil2 (by first | rfl | simp [okFs2, okEarlier2, disj, noneIn, notIn, sameOn, partsGls, sameB_self]) ?_
                      refine L_nil ?_
                      refine Blk_norm (?_ : GL _ _ _ _ _)
                      refine L_nil ?_
                      exact Sm_norm (e2 := (kg022 t1)) (H1 := [(kg016 t1), .cells [.int .i64 0, .str [], .lst [] true], .cells [.gl 3 (List.length l107)], growM 3 encDt l107, .hole]) (H2 := [(kg016 t1), .cells [.int .i64 0, .str [], .lst [] true], .cells [.gl 3 (List.length l107)], growM 3 encDt l107]) rfl (by repeat (first | exact rzz | apply rcc rfl | apply rnn rfl)) rfl ⟨l107, rfl, rfl, hr⟩
                    · refine L_F rfl hc40 ?_
                      refine L_skip ?_
                      refine L_nil ?_
                      refine Blk_norm (?_ : GL _ _ _ _ _)
                      refine L_nil ?_
                      exact Sm_norm (e2 := (kg022 t1)) (H1 := [(kg016 t1), .cells [.int .i64 0, .str [], .lst [] true], .cells [.gl 3 (List.length l97)], growM 3 encDt l97]) (H2 := [(kg016 t1), .cells [.int .i64 0, .str [], .lst [] true], .cells [.gl 3 (List.length l97)], growM 3 encDt l97]) rfl (by repeat (first | exact rzz | apply rcc rfl | apply rnn rfl)) rfl ⟨l97, rfl, rfl, hr⟩
                · rintro l100 hr
                  show GL _ _ (kg022 t1) [(kg016 t1), .cells [.int .i64 0, .str [], .lst [] true], .cells [.gl 3 (List.length l100)], growM 3 encDt l100] _
                  replace hr : g_types_told_j5 rec t1 l100 = some r := hr
                  unfold g_types_told_j5 at hr
                  refine L_reg ?_
                  refine G_p rfl rfl rfl ?_
                  refine G_p rfl rfl rfl ?_
                  refine G_nil ?_
                  refine L_nil ?_
                  refine Rd_norm ?_
                  refine L_round (e1 := [(22, .int .i64 5), (1, .ptr 0 0), (2, .ptr 1 0), (3, .ptr 2 0), (4, .fn 45 [.ptr 2 0]), (5, .bool ((decide (t1.pair = 2)) && (!decide ((andB .i64 t1.flat 16) = 0)))), (21, .agg [.str ([73, 110, 116] : List UInt8), .str ([66, 111, 111, 108] : List UInt8), .str ([83, 116, 114] : List UInt8), .str ([83, 121, 109] : List UInt8), .str ([78, 117, 108, 108] : List UInt8), .str ([86, 111, 105, 100] : List UInt8)])]) (H1 := [(kg016 t1), .cells [.int .i64 0, .str [], .lst [] true], .cells [.gl 3 (List.length l100)], growM 3 encDt l100]) (by repeat (first | exact rzz | apply rcc rfl | apply rnn rfl)) rfl ?_
                  refine L_seq ?_
                  refine L_stmt ?_
                  refine L_reg ?_
                  refine G_p rfl rfl rfl ?_
                  refine G_nil ?_
                  refine L_nil ?_
                  refine Sm_norm (e2 := [(1, .ptr 0 0), (2, .ptr 1 0), (3, .ptr 2 0), (4, .fn 45 [.ptr 2 0]), (5, .bool ((decide (t1.pair = 2)) && (!decide ((andB .i64 t1.flat 16) = 0)))), (21, .agg [.str ([73, 110, 116] : List UInt8), .str ([66, 111, 111, 108] : List UInt8), .str ([83, 116, 114] : List UInt8), .str ([83, 121, 109] : List UInt8), .str ([78, 117, 108, 108] : List UInt8), .str ([86, 111, 105, 100] : List UInt8)]), (22, .int .i64 5), (23, .bool true)]) (H1 := [(kg016 t1), .cells [.int .i64 0, .str [], .lst [] true], .cells [.gl 3 (List.length l100)], growM 3 encDt l100]) (H2 := [(kg016 t1), .cells [.int .i64 0, .str [], .lst [] true], .cells [.gl 3 (List.length l100)], growM 3 encDt l100]) rfl (by repeat (first | exact rzz | apply rcc rfl | apply rnn rfl)) rfl (?_ : GL _ _ _ _ _)
                  refine L_seq ?_
                  refine L_stmt ?_
                  refine L_T rfl rfl ?_
                  refine L_skip ?_
                  refine L_nil ?_
                  refine Sm_norm (e2 := (kg023 t1)) (H1 := [(kg016 t1), .cells [.int .i64 0, .str [], .lst [] true], .cells [.gl 3 (List.length l100)], growM 3 encDt l100]) (H2 := [(kg016 t1), .cells [.int .i64 0, .str [], .lst [] true], .cells [.gl 3 (List.length l100)], growM 3 encDt l100]) rfl (by repeat (first | exact rzz | apply rcc rfl | apply rnn rfl)) rfl (?_ : GL _ _ _ _ _)
                  refine L_seq ?_
                  refine L_stmtJ (S := List Dt) (fun s => (kg023 t1)) (fun s => [(kg016 t1), .cells [.int .i64 0, .str [], .lst [] true], .cells [.gl 3 (List.length s)], growM 3 encDt s]) (fun s => g_types_told_j4 rec t1 s = some r) ?_ ?_
                  · skip
                    refine L_block ?_
                    refine L_seq ?_
                    refine L_stmt ?_
                    refine L_reg ?_
                    refine G_p rfl rfl rfl ?_
                    refine G_p rfl rfl rfl ?_
                    refine G_p rfl rfl rfl ?_
                    refine G_p rfl rfl rfl ?_
                    refine G_nil ?_
                    refine L_nil ?_
                    refine Sm_norm (e2 := [(1, .ptr 0 0), (2, .ptr 1 0), (3, .ptr 2 0), (4, .fn 45 [.ptr 2 0]), (5, .bool ((decide (t1.pair = 2)) && (!decide ((andB .i64 t1.flat 16) = 0)))), (6, .int .i64 5), (7, .str ([86, 111, 105, 100] : List UInt8)), (21, .agg [.str ([73, 110, 116] : List UInt8), .str ([66, 111, 111, 108] : List UInt8), .str ([83, 116, 114] : List UInt8), .str ([83, 121, 109] : List UInt8), .str ([78, 117, 108, 108] : List UInt8), .str ([86, 111, 105, 100] : List UInt8)]), (22, .int .i64 5)]) (H1 := [(kg016 t1), .cells [.int .i64 0, .str [], .lst [] true], .cells [.gl 3 (List.length l100)], growM 3 encDt l100]) (H2 := [(kg016 t1), .cells [.int .i64 0, .str [], .lst [] true], .cells [.gl 3 (List.length l100)], growM 3 encDt l100]) rfl (by repeat (first | exact rzz | apply rcc rfl | apply rnn rfl)) rfl (?_ : GL _ _ _ _ _)
                    refine L_seq ?_
                    refine L_stmt ?_
                    refine L_drawS (ops := [_, _, _, _, _, _, _, _, _, _, _, _, _, _, _]) rfl rfl ?_
                    refine G_p rfl rfl rfl ?_
                    refine G_h rfl rfl rfl (fun _ => rfl) ?_
                    refine G_p rfl rfl rfl ?_
                    refine G_p rfl rfl rfl ?_
                    refine G_p rfl rfl rfl ?_
                    refine G_p rfl rfl rfl ?_
                    refine G_p rfl rfl rfl ?_
                    refine G_and (f := (!(((decide (t1.pair = 2)) && (!decide ((andB .i64 t1.flat 16) = 0))) && false))) [_, _, _, _, _, _, _] rfl rfl ?_ ?_
                    · intro hb32
                      refine G_p rfl rfl rfl ?_
                      refine G_p rfl rfl rfl ?_
                      refine G_and (f := false) [_, _, _] rfl rfl ?_ ?_
                      · intro hb34
                        refine G_p rfl rfl rfl ?_
                        refine G_p rfl rfl rfl ?_
                        refine G_p rfl rfl rfl ?_
                        exact G_nil (L_nil ⟨rfl, rfl, rfl⟩)
                      · intro vs hvs
                        obtain ⟨u35, u36, u37, rfl⟩ := len3 hvs
                        dsimp only [junk]
                        refine G_p rfl rfl rfl ?_
                        exact G_nil (L_nil ⟨rfl, rfl, rfl⟩)
                    · intro vs hvs
                      obtain ⟨u33, u34, u35, u36, u37, u38, u39, rfl⟩ := len7 hvs
                      dsimp only [junk]
                      refine G_nil (L_nil ⟨rfl, ?_⟩)
                      refine L_nil ?_
                      refine Sm_norm (e2 := [(1, .ptr 0 0), (2, .ptr 1 0), (3, .ptr 2 0), (4, .fn 45 [.ptr 2 0]), (5, .bool ((decide (t1.pair = 2)) && (!decide ((andB .i64 t1.flat 16) = 0)))), (7, .str ([86, 111, 105, 100] : List UInt8)), (21, .agg [.str ([73, 110, 116] : List UInt8), .str ([66, 111, 111, 108] : List UInt8), .str ([83, 116, 114] : List UInt8), .str ([83, 121, 109] : List UInt8), .str ([78, 117, 108, 108] : List UInt8), .str ([86, 111, 105, 100] : List UInt8)]), (22, .int .i64 5), (40, .bool ((!decide ((andB .i64 t1.flat 32) = 0)) && (!(((decide (t1.pair = 2)) && (!decide ((andB .i64 t1.flat 16) = 0))) && false))))]) (H1 := [(kg016 t1), .cells [.int .i64 0, .str [], .lst [] true], .cells [.gl 3 (List.length l100)], growM 3 encDt l100]) (H2 := [(kg016 t1), .cells [.int .i64 0, .str [], .lst [] true], .cells [.gl 3 (List.length l100)], growM 3 encDt l100]) rfl (by repeat (first | exact rzz | apply rcc rfl | apply rnn rfl)) rfl (?_ : GL _ _ _ _ _)
                      rcases cond_s hr with ⟨hc40, hr⟩ | ⟨hc40, hr⟩
                      · refine L_T rfl hc40 ?_
                        refine L_draw ?_
                        refine GD_h (d := some 41) rfl rfl rfl rfl (fun _ => rfl) ?_
                        refine GD_p rfl rfl rfl ?_
                        obtain ⟨r104, hr104, hr⟩ := bind_s hr
                        refine GD_c 44 rfl rfl rfl (CA_of (as := [.str ([86, 111, 105, 100] : List UInt8)]) rfl (g_datum_Word_ok hr104)) ?_
                        refine GD_h (d := some 44) rfl rfl rfl rfl (fun _ => rfl) ?_
                        refine GD_h (d := some 45) (v := .lst (List.map encDt [(Dt.mk 0 [] [])]) true) rfl rfl rfl rfl (fun _ => Eq.trans (b := some (Ex.ok (AVal.lst [.agg [.int .i64 0, .str [], .lst [] false]] true), _)) rfl (congrArg (fun z => some (Ex.ok (AVal.lst z true), _)) (by first | rfl | (simp only [List.map_cons, List.map_nil, encDt_eq] <;> rfl)))) ?_
                        obtain ⟨l105, hl105, hr⟩ := bind_s hr
                        refine GD_o (d := some 46) rfl rfl rfl rfl (appZ_ev encDt_w1 (by decide) rfl rfl rfl rfl hl105 rfl) ?_
                        refine GD_h (d := some 47) rfl rfl rfl rfl (iaZ_ev rfl rfl rfl rfl) ?_
                        refine GD_h (d := none) (H' := [(kg016 t1), .cells [.int .i64 0, .str [], .lst [] true], .cells [.gl 3 (List.length l100)], growM 3 encDt l105, .hole]) rfl rfl rfl rfl (staZ_ev (f := encDt) (v := r104) encDt_w1 rfl rfl ⟨rfl, rfl⟩ (by (try simp only [encDt_eq]); rfl) rfl hl105 rfl) ?_
                        refine GD_h (d := none) (H' := [(kg016 t1), .cells [.int .i64 0, .str [], .lst [] true], .cells [.gl 3 (List.length l100 + 1)], growM 3 encDt l105, .hole]) rfl rfl rfl rfl (fun _ => rfl) ?_
                        (try rw [← catL_len hl105])
                        refine GD_nil2 (by first | rfl | simp [okFs2, okEarlier2, disj, noneIn, notIn, sameOn, partsGls, sameB_self]) ?_
                        refine L_nil ?_
                        refine Blk_norm (?_ : GL _ _ _ _ _)
                        refine L_nil ?_
                        exact Sm_norm (e2 := (kg023 t1)) (H1 := [(kg016 t1), .cells [.int .i64 0, .str [], .lst [] true], .cells [.gl 3 (List.length l105)], growM 3 encDt l105, .hole]) (H2 := [(kg016 t1), .cells [.int .i64 0, .str [], .lst [] true], .cells [.gl 3 (List.length l105)], growM 3 encDt l105]) rfl (by repeat (first | exact rzz | apply rcc rfl | apply rnn rfl)) rfl ⟨l105, rfl, rfl, hr⟩
                      · refine L_F rfl hc40 ?_
                        refine L_skip ?_
                        refine L_nil ?_
                        refine Blk_norm (?_ : GL _ _ _ _ _)
                        refine L_nil ?_
                        exact Sm_norm (e2 := (kg023 t1)) (H1 := [(kg016 t1), .cells [.int .i64 0, .str [], .lst [] true], .cells [.gl 3 (List.length l100)], growM 3 encDt l100]) (H2 := [(kg016 t1), .cells [.int .i64 0, .str [], .lst [] true], .cells [.gl 3 (List.length l100)], growM 3 encDt l100]) rfl (by repeat (first | exact rzz | apply rcc rfl | apply rnn rfl)) rfl ⟨l100, rfl, rfl, hr⟩
                  · rintro l103 hr
                    show GL _ _ (kg023 t1) [(kg016 t1), .cells [.int .i64 0, .str [], .lst [] true], .cells [.gl 3 (List.length l103)], growM 3 encDt l103] _
                    replace hr : g_types_told_j4 rec t1 l103 = some r := hr
                    unfold g_types_told_j4 at hr
                    refine L_reg ?_
                    refine G_p rfl rfl rfl ?_
                    refine G_p rfl rfl rfl ?_
                    refine G_nil ?_
                    refine L_nil ?_
                    refine Rd_norm ?_
                    refine L_round (e1 := [(22, .int .i64 6), (1, .ptr 0 0), (2, .ptr 1 0), (3, .ptr 2 0), (4, .fn 45 [.ptr 2 0]), (5, .bool ((decide (t1.pair = 2)) && (!decide ((andB .i64 t1.flat 16) = 0)))), (21, .agg [.str ([73, 110, 116] : List UInt8), .str ([66, 111, 111, 108] : List UInt8), .str ([83, 116, 114] : List UInt8), .str ([83, 121, 109] : List UInt8), .str ([78, 117, 108, 108] : List UInt8), .str ([86, 111, 105, 100] : List UInt8)])]) (H1 := [(kg016 t1), .cells [.int .i64 0, .str [], .lst [] true], .cells [.gl 3 (List.length l103)], growM 3 encDt l103]) (by repeat (first | exact rzz | apply rcc rfl | apply rnn rfl)) rfl ?_
                    refine L_seq ?_
                    refine L_stmt ?_
                    refine L_reg ?_
                    refine G_p rfl rfl rfl ?_
                    refine G_nil ?_
                    refine L_nil ?_
                    refine Sm_norm (e2 := [(1, .ptr 0 0), (2, .ptr 1 0), (3, .ptr 2 0), (4, .fn 45 [.ptr 2 0]), (5, .bool ((decide (t1.pair = 2)) && (!decide ((andB .i64 t1.flat 16) = 0)))), (21, .agg [.str ([73, 110, 116] : List UInt8), .str ([66, 111, 111, 108] : List UInt8), .str ([83, 116, 114] : List UInt8), .str ([83, 121, 109] : List UInt8), .str ([78, 117, 108, 108] : List UInt8), .str ([86, 111, 105, 100] : List UInt8)]), (22, .int .i64 6), (23, .bool false)]) (H1 := [(kg016 t1), .cells [.int .i64 0, .str [], .lst [] true], .cells [.gl 3 (List.length l103)], growM 3 encDt l103]) (H2 := [(kg016 t1), .cells [.int .i64 0, .str [], .lst [] true], .cells [.gl 3 (List.length l103)], growM 3 encDt l103]) rfl (by repeat (first | exact rzz | apply rcc rfl | apply rnn rfl)) rfl (?_ : GL _ _ _ _ _)
                    refine L_seq ?_
                    refine L_stmt ?_
                    refine L_F rfl rfl ?_
                    refine L_exit ?_
                    refine Sm_exit ?_
                    refine Rd_exit ?_
                    refine Blk_exit (?_ : GL _ _ _ _ _)
                    refine L_nil ?_
                    exact Sm_norm (e2 := (kg024 t1)) (H1 := [(kg016 t1), .cells [.int .i64 0, .str [], .lst [] true], .cells [.gl 3 (List.length l103)], growM 3 encDt l103]) (H2 := [(kg016 t1), .cells [.int .i64 0, .str [], .lst [] true], .cells [.gl 3 (List.length l103)], growM 3 encDt l103]) rfl (by repeat (first | exact rzz | apply rcc rfl | apply rnn rfl)) rfl ⟨l103, rfl, rfl, hr⟩
      · rintro l40 hr
        show GL _ _ (kg024 t1) [(kg016 t1), .cells [.int .i64 0, .str [], .lst [] true], .cells [.gl 3 (List.length l40)], growM 3 encDt l40] _
        replace hr : g_types_told_j3 rec t1 l40 = some r := hr
        unfold g_types_told_j3 at hr
        refine L_seq ?_
        refine L_stmtJ (S := List Dt × Int × Int × Int × Int) (fun s => [(1, .ptr 0 0), (2, .ptr 1 0), (3, .ptr 2 0), (4, .fn 45 [.ptr 2 0])]) (fun s => [.cells [.bool t1.all, .int .i64 s.2.1, .int .i64 s.2.2.1, .lst (List.map encT t1.pairs) false, .int .i64 s.2.2.2.1, .lst (List.map encT t1.funs) false], .cells [.int .i64 s.2.2.2.2, .str [], .lst [] true], .cells [.gl 3 (List.length s.1)], growM 3 encDt s.1]) (fun s => g_types_told_j2 rec t1 s.1 s.2.1 s.2.2.1 s.2.2.2.1 s.2.2.2.2 = some r) ?_ ?_
        · skip
          refine L_block ?_
          refine L_seq ?_
          refine L_stmt ?_
          refine L_reg ?_
          refine G_p rfl rfl rfl ?_
          refine G_p rfl rfl rfl ?_
          refine G_nil ?_
          refine L_nil ?_
          refine Sm_norm (e2 := [(1, .ptr 0 0), (2, .ptr 1 0), (3, .ptr 2 0), (4, .fn 45 [.ptr 2 0]), (49, .bool ((decide (t1.pair = 2)) && (!decide ((andB .i64 t1.flat 16) = 0))))]) (H1 := [(kg016 t1), .cells [.int .i64 0, .str [], .lst [] true], .cells [.gl 3 (List.length l40)], growM 3 encDt l40]) (H2 := [(kg016 t1), .cells [.int .i64 0, .str [], .lst [] true], .cells [.gl 3 (List.length l40)], growM 3 encDt l40]) rfl (by repeat (first | exact rzz | apply rcc rfl | apply rnn rfl)) rfl (?_ : GL _ _ _ _ _)
          rcases cond_s hr with ⟨hc49, hr⟩ | ⟨hc49, hr⟩
          · refine L_T rfl hc49 ?_
            refine L_reg ?_
            refine G_p rfl rfl rfl ?_
            refine G_p rfl rfl rfl ?_
            refine G_h (v := .lst (List.map encT t1.pairs) false) rfl rfl rfl (fun _ => rfl) ?_
            obtain ⟨r65, hr65, hr⟩ := bind_s hr
            refine G_cv rfl rfl rfl (g_xtold_types_told_1_5_ok hrec hr65) ?_
            refine G_nil ?_
            refine L_nil ?_
            refine Blk_norm (?_ : GL _ _ _ _ _)
            refine L_nil ?_
            exact Sm_norm (e2 := [(1, .ptr 0 0), (2, .ptr 1 0), (3, .ptr 2 0), (4, .fn 45 [.ptr 2 0])]) (H1 := [(kg016 t1), .cells [.int .i64 0, .str [], .lst [] true], .cells [.gl 3 (List.length r65)], growM 3 encDt r65]) (H2 := [(kg016 t1), .cells [.int .i64 0, .str [], .lst [] true], .cells [.gl 3 (List.length r65)], growM 3 encDt r65]) rfl (by repeat (first | exact rzz | apply rcc rfl | apply rnn rfl)) rfl ⟨(r65, t1.flat, t1.pair, t1.fn, 0), rfl, rfl, hr⟩
          · refine L_F rfl hc49 ?_
            refine L_seq ?_
            refine L_stmt ?_
            refine L_reg ?_
            refine G_p rfl rfl rfl ?_
            refine G_h rfl rfl rfl (fun _ => rfl) ?_
            refine G_p rfl rfl rfl ?_
            refine G_p rfl rfl rfl ?_
            refine G_nil ?_
            refine L_nil ?_
            refine Sm_norm (e2 := [(1, .ptr 0 0), (2, .ptr 1 0), (3, .ptr 2 0), (4, .fn 45 [.ptr 2 0]), (55, .bool (decide (t1.pair = 2)))]) (H1 := [(kg016 t1), .cells [.int .i64 0, .str [], .lst [] true], .cells [.gl 3 (List.length l40)], growM 3 encDt l40]) (H2 := [(kg016 t1), .cells [.int .i64 0, .str [], .lst [] true], .cells [.gl 3 (List.length l40)], growM 3 encDt l40]) rfl (by repeat (first | exact rzz | apply rcc rfl | apply rnn rfl)) rfl (?_ : GL _ _ _ _ _)
            rcases cond_s hr with ⟨hc55, hr⟩ | ⟨hc55, hr⟩
            · refine L_T rfl hc55 ?_
              refine L_reg ?_
              refine G_p rfl rfl rfl ?_
              refine G_p rfl rfl rfl ?_
              refine G_h (v := .lst (List.map encT t1.pairs) false) rfl rfl rfl (fun _ => rfl) ?_
              obtain ⟨r66, hr66, hr⟩ := bind_s hr
              refine G_cv rfl rfl rfl (g_xtold_types_told_1_5_ok hrec hr66) ?_
              refine G_nil ?_
              refine L_nil ?_
              refine Blk_norm (?_ : GL _ _ _ _ _)
              refine L_nil ?_
              exact Sm_norm (e2 := [(1, .ptr 0 0), (2, .ptr 1 0), (3, .ptr 2 0), (4, .fn 45 [.ptr 2 0])]) (H1 := [(kg016 t1), .cells [.int .i64 0, .str [], .lst [] true], .cells [.gl 3 (List.length r66)], growM 3 encDt r66]) (H2 := [(kg016 t1), .cells [.int .i64 0, .str [], .lst [] true], .cells [.gl 3 (List.length r66)], growM 3 encDt r66]) rfl (by repeat (first | exact rzz | apply rcc rfl | apply rnn rfl)) rfl ⟨(r66, t1.flat, t1.pair, t1.fn, 0), rfl, rfl, hr⟩
            · refine L_F rfl hc55 ?_
              refine L_seq ?_
              refine L_stmt ?_
              refine L_reg ?_
              refine G_p rfl rfl rfl ?_
              refine G_h rfl rfl rfl (fun _ => rfl) ?_
              refine G_p rfl rfl rfl ?_
              refine G_p rfl rfl rfl ?_
              refine G_nil ?_
              refine L_nil ?_
              refine Sm_norm (e2 := [(1, .ptr 0 0), (2, .ptr 1 0), (3, .ptr 2 0), (4, .fn 45 [.ptr 2 0]), (63, .bool (decide (t1.pair = 1)))]) (H1 := [(kg016 t1), .cells [.int .i64 0, .str [], .lst [] true], .cells [.gl 3 (List.length l40)], growM 3 encDt l40]) (H2 := [(kg016 t1), .cells [.int .i64 0, .str [], .lst [] true], .cells [.gl 3 (List.length l40)], growM 3 encDt l40]) rfl (by repeat (first | exact rzz | apply rcc rfl | apply rnn rfl)) rfl (?_ : GL _ _ _ _ _)
              rcases cond_s hr with ⟨hc63, hr⟩ | ⟨hc63, hr⟩
              · refine L_T rfl hc63 ?_
                refine L_reg ?_
                refine G_p rfl rfl rfl ?_
                refine G_p rfl rfl rfl ?_
                refine G_h (v := .lst (List.map encT t1.pairs) false) rfl rfl rfl (fun _ => rfl) ?_
                obtain ⟨r67, hr67, hr⟩ := bind_s hr
                refine G_cv rfl rfl rfl (g_xtold_types_told_1_5_ok hrec hr67) ?_
                refine G_nil ?_
                refine L_nil ?_
                refine Blk_norm (?_ : GL _ _ _ _ _)
                refine L_nil ?_
                exact Sm_norm (e2 := [(1, .ptr 0 0), (2, .ptr 1 0), (3, .ptr 2 0), (4, .fn 45 [.ptr 2 0])]) (H1 := [(kg016 t1), .cells [.int .i64 0, .str [], .lst [] true], .cells [.gl 3 (List.length r67)], growM 3 encDt r67]) (H2 := [(kg016 t1), .cells [.int .i64 0, .str [], .lst [] true], .cells [.gl 3 (List.length r67)], growM 3 encDt r67]) rfl (by repeat (first | exact rzz | apply rcc rfl | apply rnn rfl)) rfl ⟨(r67, t1.flat, t1.pair, t1.fn, 0), rfl, rfl, hr⟩
              · refine L_F rfl hc63 ?_
                refine L_skip ?_
                refine L_nil ?_
                refine Blk_norm (?_ : GL _ _ _ _ _)
                refine L_nil ?_
                exact Sm_norm (e2 := [(1, .ptr 0 0), (2, .ptr 1 0), (3, .ptr 2 0), (4, .fn 45 [.ptr 2 0])]) (H1 := [(kg016 t1), .cells [.int .i64 0, .str [], .lst [] true], .cells [.gl 3 (List.length l40)], growM 3 encDt l40]) (H2 := [(kg016 t1), .cells [.int .i64 0, .str [], .lst [] true], .cells [.gl 3 (List.length l40)], growM 3 encDt l40]) rfl (by repeat (first | exact rzz | apply rcc rfl | apply rnn rfl)) rfl ⟨(l40, t1.flat, t1.pair, t1.fn, 0), rfl, rfl, hr⟩
        · rintro ⟨l44, a45, a46, a47, a48⟩ hr
          show GL _ _ [(1, .ptr 0 0), (2, .ptr 1 0), (3, .ptr 2 0), (4, .fn 45 [.ptr 2 0])] [(kg017 t1 a45 a46 a47), .cells [.int .i64 a48, .str [], .lst [] true], .cells [.gl 3 (List.length l44)], growM 3 encDt l44] _
          replace hr : g_types_told_j2 rec t1 l44 a45 a46 a47 a48 = some r := hr
          unfold g_types_told_j2 at hr
          refine L_seq ?_
          refine L_stmtJ (S := List Dt × List Dt) (fun s => [(2, .ptr 1 0), (3, .ptr 2 0)]) (fun s => [(kg017 t1 a45 a46 a47), .cells [.int .i64 a48, .str [], .lst [] true], .cells [.lst (List.map encDt s.2) false], growM 3 encDt s.1]) (fun s => g_types_told_j1 s.1 s.2 = some r) ?_ ?_
          · skip
            refine L_seq ?_
            refine L_stmt ?_
            refine L_reg ?_
            refine G_p rfl rfl rfl ?_
            refine G_h rfl rfl rfl (fun _ => rfl) ?_
            refine G_nil ?_
            refine L_nil ?_
            refine Sm_norm (e2 := [(1, .ptr 0 0), (2, .ptr 1 0), (3, .ptr 2 0), (4, .fn 45 [.ptr 2 0]), (72, .int .i64 a47)]) (H1 := [(kg017 t1 a45 a46 a47), .cells [.int .i64 a48, .str [], .lst [] true], .cells [.gl 3 (List.length l44)], growM 3 encDt l44]) (H2 := [(kg017 t1 a45 a46 a47), .cells [.int .i64 a48, .str [], .lst [] true], .cells [.gl 3 (List.length l44)], growM 3 encDt l44]) rfl (by repeat (first | exact rzz | apply rcc rfl | apply rnn rfl)) rfl (?_ : GL _ _ _ _ _)
            refine L_block ?_
            refine L_seq ?_
            refine L_stmt ?_
            refine L_reg ?_
            refine G_p rfl rfl rfl ?_
            refine G_p rfl rfl rfl ?_
            refine G_nil ?_
            refine L_nil ?_
            refine Sm_norm (e2 := [(1, .ptr 0 0), (2, .ptr 1 0), (3, .ptr 2 0), (4, .fn 45 [.ptr 2 0]), (72, .int .i64 a47), (73, .bool (decide (a47 = 1)))]) (H1 := [(kg017 t1 a45 a46 a47), .cells [.int .i64 a48, .str [], .lst [] true], .cells [.gl 3 (List.length l44)], growM 3 encDt l44]) (H2 := [(kg017 t1 a45 a46 a47), .cells [.int .i64 a48, .str [], .lst [] true], .cells [.gl 3 (List.length l44)], growM 3 encDt l44]) rfl (by repeat (first | exact rzz | apply rcc rfl | apply rnn rfl)) rfl (?_ : GL _ _ _ _ _)
            rcases cond_s hr with ⟨hc73, hr⟩ | ⟨hc73, hr⟩
            · refine L_T rfl hc73 ?_
              refine L_reg ?_
              refine G_p rfl rfl rfl ?_
              refine G_p rfl rfl rfl ?_
              refine G_h (v := .lst (List.map encT t1.funs) false) rfl rfl rfl (fun _ => rfl) ?_
              obtain ⟨r62, hr62, hr⟩ := bind_s hr
              refine G_cv rfl rfl rfl (g_xtold_types_told_1_4_ok hrec hr62) ?_
              refine G_nil ?_
              refine L_nil ?_
              refine Blk_norm (?_ : GL _ _ _ _ _)
              refine L_nil ?_
              exact Sm_norm (e2 := [(2, .ptr 1 0), (3, .ptr 2 0)]) (H1 := [(kg017 t1 a45 a46 a47), .cells [.int .i64 a48, .str [], .lst [] true], .cells [.lst (List.map encDt r62) false], growM 3 encDt r62]) (H2 := [(kg017 t1 a45 a46 a47), .cells [.int .i64 a48, .str [], .lst [] true], .cells [.lst (List.map encDt r62) false], growM 3 encDt r62]) (frz_c (frz_glC (H2 := [(kg017 t1 a45 a46 a47), .cells [.int .i64 a48, .str [], .lst [] true], .cells [.lst (List.map encDt r62) false], growM 3 encDt r62]) rfl rfl rfl rfl rfl) rfl) (by repeat (first | exact rzz | apply rcc rfl | apply rnn rfl)) rfl ⟨(r62, r62), rfl, rfl, hr⟩
            · refine L_F rfl hc73 ?_
              refine L_seq ?_
              refine L_stmt ?_
              refine L_reg ?_
              refine G_p rfl rfl rfl ?_
              refine G_p rfl rfl rfl ?_
              refine G_nil ?_
              refine L_nil ?_
              refine Sm_norm (e2 := [(2, .ptr 1 0), (3, .ptr 2 0), (79, .bool (decide (a47 = 2)))]) (H1 := [(kg017 t1 a45 a46 a47), .cells [.int .i64 a48, .str [], .lst [] true], .cells [.gl 3 (List.length l44)], growM 3 encDt l44]) (H2 := [(kg017 t1 a45 a46 a47), .cells [.int .i64 a48, .str [], .lst [] true], .cells [.gl 3 (List.length l44)], growM 3 encDt l44]) rfl (by repeat (first | exact rzz | apply rcc rfl | apply rnn rfl)) rfl (?_ : GL _ _ _ _ _)
              rcases cond_s hr with ⟨hc79, hr⟩ | ⟨hc79, hr⟩
              · refine L_T rfl hc79 ?_
                refine L_draw ?_
                refine GD_h (d := some 81) rfl rfl rfl rfl (fun _ => rfl) ?_
                obtain ⟨r63, hr63, hr⟩ := bind_s hr
                refine GD_c 44 rfl rfl rfl (CA_of (as := [.str ([80, 114, 111, 99] : List UInt8)]) rfl (g_datum_Word_ok hr63)) ?_
                refine GD_h (d := some 83) rfl rfl rfl rfl (fun _ => rfl) ?_
                refine GD_h (d := some 84) (v := .lst (List.map encDt [(Dt.mk 0 [] [])]) true) rfl rfl rfl rfl (fun _ => Eq.trans (b := some (Ex.ok (AVal.lst [.agg [.int .i64 0, .str [], .lst [] false]] true), _)) rfl (congrArg (fun z => some (Ex.ok (AVal.lst z true), _)) (by first | rfl | (simp only [List.map_cons, List.map_nil, encDt_eq] <;> rfl)))) ?_
                obtain ⟨l64, hl64, hr⟩ := bind_s hr
                refine GD_o (d := some 85) rfl rfl rfl rfl (appZ_ev encDt_w1 (by decide) rfl rfl rfl rfl hl64 rfl) ?_
                refine GD_h (d := some 86) rfl rfl rfl rfl (iaZ_ev rfl rfl rfl rfl) ?_
                refine GD_h (d := none) (H' := [(kg017 t1 a45 a46 a47), .cells [.int .i64 a48, .str [], .lst [] true], .cells [.gl 3 (List.length l44)], growM 3 encDt l64, .hole]) rfl rfl rfl rfl (staZ_ev (f := encDt) (v := r63) encDt_w1 rfl rfl ⟨rfl, rfl⟩ (by (try simp only [encDt_eq]); rfl) rfl hl64 rfl) ?_
                refine GD_h (d := none) (H' := [(kg017 t1 a45 a46 a47), .cells [.int .i64 a48, .str [], .lst [] true], .cells [.gl 3 (List.length l44 + 1)], growM 3 encDt l64, .hole]) rfl rfl rfl rfl (fun _ => rfl) ?_
                (try rw [← catL_len hl64])
                refine GD_nil2 (by first | rfl | simp [okFs2, okEarlier2, disj, noneIn, notIn, sameOn, partsGls, sameB_self]) ?_
                refine L_nil ?_
                refine Blk_norm (?_ : GL _ _ _ _ _)
                refine L_nil ?_
                exact Sm_norm (e2 := [(2, .ptr 1 0), (3, .ptr 2 0)]) (H1 := [(kg017 t1 a45 a46 a47), .cells [.int .i64 a48, .str [], .lst [] true], .cells [.lst (List.map encDt l64) false], growM 3 encDt l64, .hole]) (H2 := [(kg017 t1 a45 a46 a47), .cells [.int .i64 a48, .str [], .lst [] true], .cells [.lst (List.map encDt l64) false], growM 3 encDt l64]) (frz_c (frz_glC (H2 := [(kg017 t1 a45 a46 a47), .cells [.int .i64 a48, .str [], .lst [] true], .cells [.lst (List.map encDt l64) false], growM 3 encDt l64, .hole]) rfl rfl rfl rfl rfl) rfl) (by repeat (first | exact rzz | apply rcc rfl | apply rnn rfl)) rfl ⟨(l64, l64), rfl, rfl, hr⟩
              · refine L_F rfl hc79 ?_
                refine L_skip ?_
                refine L_nil ?_
                refine Blk_norm (?_ : GL _ _ _ _ _)
                refine L_nil ?_
                exact Sm_norm (e2 := [(2, .ptr 1 0), (3, .ptr 2 0)]) (H1 := [(kg017 t1 a45 a46 a47), .cells [.int .i64 a48, .str [], .lst [] true], .cells [.lst (List.map encDt l44) false], growM 3 encDt l44]) (H2 := [(kg017 t1 a45 a46 a47), .cells [.int .i64 a48, .str [], .lst [] true], .cells [.lst (List.map encDt l44) false], growM 3 encDt l44]) (frz_c (frz_glC (H2 := [(kg017 t1 a45 a46 a47), .cells [.int .i64 a48, .str [], .lst [] true], .cells [.lst (List.map encDt l44) false], growM 3 encDt l44]) rfl rfl rfl rfl rfl) rfl) (by repeat (first | exact rzz | apply rcc rfl | apply rnn rfl)) rfl ⟨(l44, l44), rfl, rfl, hr⟩
          · rintro ⟨l52, l53⟩ hr
            show GL _ _ [(2, .ptr 1 0), (3, .ptr 2 0)] [(kg017 t1 a45 a46 a47), .cells [.int .i64 a48, .str [], .lst [] true], .cells [.lst (List.map encDt l53) false], growM 3 encDt l52] _
            replace hr : g_types_told_j1 l52 l53 = some r := hr
            unfold g_types_told_j1 at hr
            refine L_seq ?_
            refine L_stmt ?_
            refine L_seq ?_
            refine L_stmt ?_
            refine L_reg ?_
            refine G_h (v := .lst (List.map encDt l53) false) rfl rfl rfl (fun _ => rfl) ?_
            refine G_h rfl rfl rfl (lenL_ev rfl (List.length_map _)) ?_
            refine G_nil ?_
            refine L_nil ?_
            refine Sm_norm (e2 := [(2, .ptr 1 0), (3, .ptr 2 0), (88, .int .i64 ((List.length l53 : Nat) : Int))]) (H1 := [(kg017 t1 a45 a46 a47), .cells [.int .i64 a48, .str [], .lst [] true], .cells [.lst (List.map encDt l53) false], growM 3 encDt l52]) (H2 := [(kg017 t1 a45 a46 a47), .cells [.int .i64 a48, .str [], .lst [] true], .cells [.lst (List.map encDt l53) false], growM 3 encDt l52]) rfl (by repeat (first | exact rzz | apply rcc rfl | apply rnn rfl)) rfl (?_ : GL _ _ _ _ _)
            refine L_block ?_
            refine L_seq ?_
            refine L_stmt ?_
            refine L_reg ?_
            refine G_p rfl rfl rfl ?_
            refine G_p rfl rfl rfl ?_
            refine G_nil ?_
            refine L_nil ?_
            refine Sm_norm (e2 := [(2, .ptr 1 0), (3, .ptr 2 0), (88, .int .i64 ((List.length l53 : Nat) : Int)), (89, .bool (decide (((List.length l53 : Nat) : Int) = 0)))]) (H1 := [(kg017 t1 a45 a46 a47), .cells [.int .i64 a48, .str [], .lst [] true], .cells [.lst (List.map encDt l53) false], growM 3 encDt l52]) (H2 := [(kg017 t1 a45 a46 a47), .cells [.int .i64 a48, .str [], .lst [] true], .cells [.lst (List.map encDt l53) false], growM 3 encDt l52]) rfl (by repeat (first | exact rzz | apply rcc rfl | apply rnn rfl)) rfl (?_ : GL _ _ _ _ _)
            rcases cond_s hr with ⟨hc89, hr⟩ | ⟨hc89, hr⟩
            · refine L_T rfl hc89 ?_
              refine L_seq ?_
              refine L_reg ?_
              obtain ⟨r56, hr56, hr⟩ := bind_s hr
              refine G_c 44 rfl rfl (CA_of (as := [.str ([78, 111, 116, 104, 105, 110, 103] : List UInt8)]) rfl (g_datum_Word_ok hr56)) ?_
              refine G_hn (H' := [(kg017 t1 a45 a46 a47), .cells [.int .i64 r56.kind, .str r56.text, .lst (List.map encDt r56.list) false], .cells [.lst (List.map encDt l53) false], growM 3 encDt l52]) rfl rfl rfl (fun _ => rfl) ?_
              refine G_nil ?_
              refine L_ret ?_
              refine Blk_ret ?_
              refine Sm_ret ?_
              have hr := some_s hr
              subst hr
              exact ⟨_, rfl, _, rfl, rfl⟩
            · refine L_F rfl hc89 ?_
              refine L_seq ?_
              refine L_stmt ?_
              refine L_reg ?_
              refine G_p rfl rfl rfl ?_
              refine G_p rfl rfl rfl ?_
              refine G_nil ?_
              refine L_nil ?_
              refine Sm_norm (e2 := [(2, .ptr 1 0), (3, .ptr 2 0), (92, .bool (decide (((List.length l53 : Nat) : Int) = 1)))]) (H1 := [(kg017 t1 a45 a46 a47), .cells [.int .i64 a48, .str [], .lst [] true], .cells [.lst (List.map encDt l53) false], growM 3 encDt l52]) (H2 := [(kg017 t1 a45 a46 a47), .cells [.int .i64 a48, .str [], .lst [] true], .cells [.lst (List.map encDt l53) false], growM 3 encDt l52]) rfl (by repeat (first | exact rzz | apply rcc rfl | apply rnn rfl)) rfl (?_ : GL _ _ _ _ _)
              rcases cond_s hr with ⟨hc92, hr⟩ | ⟨hc92, hr⟩
              · refine L_T rfl hc92 ?_
                refine L_seq ?_
                refine L_reg ?_
                refine G_h (v := .lst (List.map encDt l53) false) rfl rfl rfl (fun _ => rfl) ?_
                obtain ⟨e57, he57, hr⟩ := bind_s hr
                refine G_h (v := .ro [.int .i64 e57.kind, .str e57.text, .lst (List.map encDt e57.list) false]) rfl rfl rfl (ia_ev (cells := [.int .i64 e57.kind, .str e57.text, .lst (List.map encDt e57.list) false]) rfl rfl (idx_s he57).1 (map_get (x := e57) (idx_s he57).2) (encDt_flat _) rfl) ?_
                refine G_h (v := .agg (cDt e57)) rfl rfl rfl (fun _ => rfl) ?_
                refine G_hn (H' := [(kg017 t1 a45 a46 a47), .cells [.int .i64 e57.kind, .str e57.text, .lst (List.map encDt e57.list) false], .cells [.lst (List.map encDt l53) false], growM 3 encDt l52]) rfl rfl rfl (fun _ => rfl) ?_
                refine G_nil ?_
                refine L_ret ?_
                refine Blk_ret ?_
                refine Sm_ret ?_
                have hr := some_s hr
                subst hr
                exact ⟨_, rfl, _, rfl, rfl⟩
              · refine L_F rfl hc92 ?_
                refine L_skip ?_
                refine L_nil ?_
                refine Blk_norm (?_ : GL _ _ _ _ _)
                refine L_nil ?_
                refine Sm_norm (e2 := [(2, .ptr 1 0), (3, .ptr 2 0)]) (H1 := [(kg017 t1 a45 a46 a47), .cells [.int .i64 a48, .str [], .lst [] true], .cells [.lst (List.map encDt l53) false], growM 3 encDt l52]) (H2 := [(kg017 t1 a45 a46 a47), .cells [.int .i64 a48, .str [], .lst [] true], .cells [.lst (List.map encDt l53) false], growM 3 encDt l52]) rfl (by repeat (first | exact rzz | apply rcc rfl | apply rnn rfl)) rfl (?_ : GL _ _ _ _ _)
                refine L_seq ?_
                refine L_draw ?_
                obtain ⟨r58, hr58, hr⟩ := bind_s hr
                refine GD_c 44 rfl rfl rfl (CA_of (as := [.str ([85] : List UInt8)]) rfl (g_datum_Word_ok hr58)) ?_
                refine GD_h (d := some 98) (v := .lst (List.map encDt [r58]) true) rfl rfl rfl rfl (fun _ => Eq.trans (b := some (Ex.ok (AVal.lst [.agg (cDt r58)] true), _)) rfl (congrArg (fun z => some (Ex.ok (AVal.lst z true), _)) (by first | rfl | (simp only [List.map_cons, List.map_nil, encDt_eq] <;> rfl)))) ?_
                refine GD_h (d := some 99) (v := .lst (List.map encDt l53) false) rfl rfl rfl rfl (fun _ => rfl) ?_
                obtain ⟨l59, hl59, hr⟩ := bind_s hr
                rcases emp_or l53 with hEl59 | hEl59
                · skip
                  refine GD_o (d := some 100) rfl rfl rfl rfl (appO_ev encDt_w1 rfl rfl rfl hEl59 hl59) ?_
                  obtain ⟨r60, hr60, hr⟩ := bind_s hr
                  refine GD_c 46 rfl rfl rfl (CA_of (as := [.lst (List.map encDt l59) false]) rfl (g_datum_Row_ok hr60)) ?_
                  refine GD_h (d := none) (H' := [(kg017 t1 a45 a46 a47), .cells [.int .i64 r60.kind, .str r60.text, .lst (List.map encDt r60.list) false], .cells [.lst (List.map encDt l53) false], growM 3 encDt l52, .hole]) rfl rfl rfl rfl (fun _ => rfl) ?_
                  refine GD_nil2 (by first | rfl | simp [okFs2, okEarlier2, disj, noneIn, notIn, sameOn, partsGls, sameB_self]) ?_
                  refine L_ret ?_
                  have hr := some_s hr
                  subst hr
                  exact ⟨_, rfl, _, rfl, rfl⟩
                · skip
                  refine GD_o (d := some 100) rfl rfl rfl rfl (appM_ev encDt_w1 (by decide) rfl rfl rfl hEl59 hl59 rfl) ?_
                  obtain ⟨r61, hr61, hr⟩ := bind_s hr
                  refine GD_c 46 rfl rfl (shutL_cons (shutV_gl rfl) rfl) (CA_of (as := [.lst (List.map encDt l59) false]) (shutL_cons (shutV_gl rfl) rfl) (g_datum_Row_ok hr61)) ?_
                  refine GD_h (d := none) (H' := [(kg017 t1 a45 a46 a47), .cells [.int .i64 r61.kind, .str r61.text, .lst (List.map encDt r61.list) false], .cells [.lst (List.map encDt l53) false], growM 3 encDt l52, growM 3 encDt l59]) rfl rfl rfl rfl (fun _ => rfl) ?_
                  refine GD_nil2 (by first | rfl | simp [okFs2, okEarlier2, disj, noneIn, notIn, sameOn, partsGls, sameB_self]) ?_
                  refine L_ret ?_
                  have hr := some_s hr
                  subst hr
                  exact ⟨_, rfl, _, rfl, rfl⟩
noncomputable def g_types_told : Nat → Ty → Option Dt
  | 0, _ => none
  | n + 1, t1 => g_types_told_b (g_types_told n) n t1
theorem g_types_told_ok : ∀ (n : Nat) {t1 : Ty} {r : Dt} (hr : g_types_told n t1 = some r), PRes (tabOf tabL) 39 [.agg (cT t1)] (.agg (cDt r))
  | 0, _, _, hr => by cases hr
  | n + 1, _, _, hr => g_types_told_b_ok (fun _ _ h => g_types_told_ok n h) hr
noncomputable def g_types_Datum (n : Nat) (t1 : Ty) : Option (Dt × Int) :=
  ((oRight t1).bind fun r3 => (cond (!r3) (some ((Dt.mk 0 [] []), 1)) ((g_types_told n t1).bind fun r4 => some (r4, 0))))
abbrev kg025 (t1 : Ty) : ABlock := .cells [.bool t1.all, .int .i64 t1.flat, .int .i64 t1.pair, .lst (List.map encT t1.pairs) false, .int .i64 t1.fn, .lst (List.map encT t1.funs) false]
theorem g_types_Datum_ok {n : Nat} {t1 : Ty} {r : Dt × Int} (hr : g_types_Datum n t1 = some r) : PRes (tabOf tabL) 28 [.agg (cT t1)] (.tup [.agg (cDt r.1), .int .i64 r.2]) := by
  refine pres_fin t28 ?_
  unfold g_types_Datum at hr
  refine L_seq ?_
  refine L_stmt ?_
  refine L_reg ?_
  refine G_n (B := (kg025 t1)) rfl rfl rfl ?_
  refine G_n (B := .cells [.int .i64 0, .str [], .lst [] true]) rfl rfl rfl ?_
  refine G_p rfl rfl rfl ?_
  refine G_nil ?_
  refine L_nil ?_
  refine Sm_norm (e2 := [(1, .ptr 0 0), (2, .ptr 1 0)]) (H1 := [(kg025 t1), .cells [.int .i64 0, .str [], .lst [] true]]) (H2 := [(kg025 t1), .cells [.int .i64 0, .str [], .lst [] true]]) rfl (by repeat (first | exact rzz | apply rcc rfl | apply rnn rfl)) rfl (?_ : GL _ _ _ _ _)
  refine L_seq ?_
  refine L_stmt ?_
  refine L_seq ?_
  refine L_stmt ?_
  refine L_reg ?_
  refine G_h (v := .agg (cT t1)) rfl rfl rfl (fun _ => rfl) ?_
  obtain ⟨r3, hr3, hr⟩ := bind_s hr
  refine G_c 10 rfl rfl (CA_of (as := [.agg (cT t1)]) rfl (oRight_ok hr3)) ?_
  refine G_p rfl rfl rfl ?_
  refine G_nil ?_
  refine L_nil ?_
  refine Sm_norm (e2 := [(1, .ptr 0 0), (2, .ptr 1 0), (6, .bool (!r3))]) (H1 := [(kg025 t1), .cells [.int .i64 0, .str [], .lst [] true]]) (H2 := [(kg025 t1), .cells [.int .i64 0, .str [], .lst [] true]]) rfl (by repeat (first | exact rzz | apply rcc rfl | apply rnn rfl)) rfl (?_ : GL _ _ _ _ _)
  rcases cond_s hr with ⟨hc6, hr⟩ | ⟨hc6, hr⟩
  · refine L_T rfl hc6 ?_
    refine L_seq ?_
    refine L_reg ?_
    refine G_p (v := .agg [.int .i64 0, .str [], .lst [] true]) rfl rfl rfl ?_
    refine G_hn (H' := [(kg025 t1), .cells [.int .i64 0, .str [], .lst [] true]]) rfl rfl rfl (fun _ => rfl) ?_
    refine G_p rfl rfl rfl ?_
    refine G_nil ?_
    refine L_ret ?_
    refine Sm_ret ?_
    have hr := some_s hr
    subst hr
    exact ⟨_, rfl, _, rfl, rfl⟩
  · refine L_F rfl hc6 ?_
    refine L_skip ?_
    refine L_nil ?_
    refine Sm_norm (e2 := [(1, .ptr 0 0), (2, .ptr 1 0)]) (H1 := [(kg025 t1), .cells [.int .i64 0, .str [], .lst [] true]]) (H2 := [(kg025 t1), .cells [.int .i64 0, .str [], .lst [] true]]) rfl (by repeat (first | exact rzz | apply rcc rfl | apply rnn rfl)) rfl (?_ : GL _ _ _ _ _)
    refine L_seq ?_
    refine L_reg ?_
    refine G_h (v := .agg (cT t1)) rfl rfl rfl (fun _ => rfl) ?_
    obtain ⟨r4, hr4, hr⟩ := bind_s hr
    refine G_c 39 rfl rfl (CA_of (as := [.agg (cT t1)]) rfl (g_types_told_ok n hr4)) ?_
    refine G_hn (H' := [(kg025 t1), .cells [.int .i64 r4.kind, .str r4.text, .lst (List.map encDt r4.list) false]]) rfl rfl rfl (fun _ => rfl) ?_
    refine G_p rfl rfl rfl ?_
    refine G_nil ?_
    refine L_ret ?_
    have hr := some_s hr
    subst hr
    exact ⟨_, rfl, _, rfl, rfl⟩
noncomputable def g_w05_TypesBack (n : Nat) (t1 : Ty) : Option Bool :=
  ((oAwake).bind fun r2 => ((oLightT t1).bind fun r3 => (cond (!r3) (some r2) ((g_types_Datum n t1).bind fun r4 => ((oRight t1).bind fun r6 => (cond (!r6) (some (r2 && (decide (r4.2 = 1)))) ((g_types_Read n r4.1).bind fun r7 => ((oSameT t1 r7.1).bind fun r8 => some (((r2 && (decide (r4.2 = 0))) && (decide (r7.2 = 0))) && r8)))))))))
abbrev kg026 (t1 : Ty) : ABlock := .cells [.bool t1.all, .int .i64 t1.flat, .int .i64 t1.pair, .lst (List.map encT t1.pairs) false, .int .i64 t1.fn, .lst (List.map encT t1.funs) false]
end Go.Ev.Seat
