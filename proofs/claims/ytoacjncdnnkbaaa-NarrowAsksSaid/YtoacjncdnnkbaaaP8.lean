/-
  Part 8 of a proof: NarrowAsks: for every input the law returns true, and what it was given reads behind the call as before. No conditions.
-/
import Derived.Test.YtoacjncdnnkbaaaP7
namespace Go.Ev.Seat
set_option linter.unusedVariables false
set_option linter.unusedSimpArgs false
open Go Go.Ev
set_option maxRecDepth 20000
attribute [local irreducible] pcall callF
noncomputable def y37 (a23 : Int) : Option Int :=
  some a23
noncomputable def y1f (v2 : Int) : List Fct → Nat → Int → Option Int
  | [], _, a30 => y37 a30
  | y39 :: rest41, i40, a30 => (cond (decide (y39.var = v2)) ((g_r06_low y39.tags).bind fun r44 => (y1f v2 rest41 (i40 + 1)) (andB .i64 a30 r44)) ((y1f v2 rest41 (i40 + 1)) a30))
noncomputable def y2q (f1 : Fts) (v2 : Int) : Option Int :=
  (cond (okLen f1.l) (y1f v2 f1.l 0 255) none)
theorem y3x {f1 : Fts} {v2 : Int} {r : Int} (hr : y2q f1 v2 = some r) : PRes (tabOf tabL) 41 [.agg (cFts f1), .int .i64 v2] (.int .i64 r) := by
  refine pres_fin t41 ?_
  unfold y2q at hr
  refine L_seq ?_
  refine L_stmt ?_
  refine L_reg ?_
  refine G_n (B := .cells [.bool f1.never, .lst (List.map encFct f1.l) false]) rfl rfl rfl ?_
  refine G_p rfl rfl rfl ?_
  refine G_nil ?_
  refine L_nil ?_
  refine Sm_norm (e2 := [(1, .int .i64 v2), (2, .ptr 0 0)]) (H1 := [.cells [.bool f1.never, .lst (List.map encFct f1.l) false]]) (H2 := [.cells [.bool f1.never, .lst (List.map encFct f1.l) false]]) rfl (by repeat (first | exact rzz | apply rcc rfl | apply rnn rfl)) rfl (?_ : GL _ _ _ _ _)
  refine L_seq ?_
  refine L_stmt ?_
  refine L_reg ?_
  refine G_p rfl rfl rfl ?_
  refine G_nil ?_
  refine L_nil ?_
  refine Sm_norm (e2 := [(1, .int .i64 v2), (2, .ptr 0 0), (5, .int .i64 255)]) (H1 := [.cells [.bool f1.never, .lst (List.map encFct f1.l) false]]) (H2 := [.cells [.bool f1.never, .lst (List.map encFct f1.l) false]]) rfl (by repeat (first | exact rzz | apply rcc rfl | apply rnn rfl)) rfl (?_ : GL _ _ _ _ _)
  refine L_seq ?_
  refine L_stmtJ (S := Int) (fun s => [(5, .int .i64 s)]) (fun s => [.cells [.bool f1.never, .lst (List.map encFct f1.l) false]]) (fun s => y37 s = some r) ?_ ?_
  · skip
    refine L_seq ?_
    refine L_stmt ?_
    refine L_reg ?_
    refine G_p rfl rfl rfl ?_
    refine G_nil ?_
    refine L_nil ?_
    refine Sm_norm (e2 := [(1, .int .i64 v2), (2, .ptr 0 0), (5, .int .i64 255), (6, .int .i64 0)]) (H1 := [.cells [.bool f1.never, .lst (List.map encFct f1.l) false]]) (H2 := [.cells [.bool f1.never, .lst (List.map encFct f1.l) false]]) rfl (by repeat (first | exact rzz | apply rcc rfl | apply rnn rfl)) rfl (?_ : GL _ _ _ _ _)
    refine L_block ?_
    obtain ⟨hLq38, hr⟩ := guard_s hr
    replace hLq38 := okLen_s hLq38
    refine L_range (X := Fct) (S := Int) f1.l (fun i40 s => [(5, .int .i64 s), (6, .int .i64 ((i40 : Nat) : Int)), (1, .int .i64 v2), (2, .ptr 0 0)]) (fun i40 s => [.cells [.bool f1.never, .lst (List.map encFct f1.l) false]]) (fun rest i40 s => y1f v2 rest i40 s = some r) (255) ?_ rfl hr ?_ ?_
    · show restr _ _ = [(5, .int .i64 255), (6, .int .i64 ((0 : Nat) : Int)), (1, .int .i64 v2), (2, .ptr 0 0)]
      (repeat (first | exact rzz | apply rcc rfl | apply rnn rfl))
    · rintro a30 hr
      show GL _ _ [(5, .int .i64 a30), (6, .int .i64 (((List.length f1.l) : Nat) : Int)), (1, .int .i64 v2), (2, .ptr 0 0)] [.cells [.bool f1.never, .lst (List.map encFct f1.l) false]] _
      replace hr : y1f v2 [] (List.length f1.l) a30 = some r := hr
      rw [y1f] at hr
      refine L_seq ?_
      refine L_stmt ?_
      refine L_seq ?_
      refine L_stmt ?_
      refine L_reg ?_
      refine G_p rfl rfl rfl ?_
      refine G_p rfl rfl rfl ?_
      refine G_h (v := .lst (List.map encFct f1.l) false) rfl rfl rfl (fun _ => rfl) ?_
      refine G_h rfl rfl rfl (lenL_ev rfl (List.length_map _)) ?_
      refine G_v (.bool false) rfl rfl rfl (congrArg AVal.bool (decide_eq_false (by omega))) ?_
      refine G_nil ?_
      refine L_nil ?_
      refine Sm_norm (e2 := [(1, .int .i64 v2), (2, .ptr 0 0), (5, .int .i64 a30), (6, .int .i64 ((List.length f1.l : Nat) : Int)), (11, .bool false)]) (H1 := [.cells [.bool f1.never, .lst (List.map encFct f1.l) false]]) (H2 := [.cells [.bool f1.never, .lst (List.map encFct f1.l) false]]) rfl (by repeat (first | exact rzz | apply rcc rfl | apply rnn rfl)) rfl (?_ : GL _ _ _ _ _)
      refine L_F rfl rfl ?_
      refine L_exit ?_
      refine Sm_exit ?_
      refine Rd_exit ?_
      refine Blk_exit (?_ : GL _ _ _ _ _)
      refine L_nil ?_
      exact Sm_norm (e2 := [(5, .int .i64 a30)]) (H1 := [.cells [.bool f1.never, .lst (List.map encFct f1.l) false]]) (H2 := [.cells [.bool f1.never, .lst (List.map encFct f1.l) false]]) rfl (by repeat (first | exact rzz | apply rcc rfl | apply rnn rfl)) rfl ⟨a30, rfl, rfl, hr⟩
    · rintro y39 rest41 i40 a30 hy39 hlti40 hr
      show GL _ _ [(5, .int .i64 a30), (6, .int .i64 ((i40 : Nat) : Int)), (1, .int .i64 v2), (2, .ptr 0 0)] [.cells [.bool f1.never, .lst (List.map encFct f1.l) false]] _
      replace hr : y1f v2 (y39 :: rest41) i40 a30 = some r := hr
      rw [y1f] at hr
      refine L_seq ?_
      refine L_stmt ?_
      refine L_seq ?_
      refine L_stmt ?_
      refine L_reg ?_
      refine G_p rfl rfl rfl ?_
      refine G_p rfl rfl rfl ?_
      refine G_h (v := .lst (List.map encFct f1.l) false) rfl rfl rfl (fun _ => rfl) ?_
      refine G_h rfl rfl rfl (lenL_ev rfl (List.length_map _)) ?_
      refine G_v (.bool true) rfl rfl rfl (congrArg AVal.bool (decide_eq_true (by omega))) ?_
      refine G_nil ?_
      refine L_nil ?_
      refine Sm_norm (e2 := [(1, .int .i64 v2), (2, .ptr 0 0), (5, .int .i64 a30), (6, .int .i64 ((i40 : Nat) : Int)), (11, .bool true)]) (H1 := [.cells [.bool f1.never, .lst (List.map encFct f1.l) false]]) (H2 := [.cells [.bool f1.never, .lst (List.map encFct f1.l) false]]) rfl (by repeat (first | exact rzz | apply rcc rfl | apply rnn rfl)) rfl (?_ : GL _ _ _ _ _)
      refine L_T rfl rfl ?_
      refine L_skip ?_
      refine L_nil ?_
      refine Sm_norm (e2 := [(1, .int .i64 v2), (2, .ptr 0 0), (5, .int .i64 a30), (6, .int .i64 ((i40 : Nat) : Int))]) (H1 := [.cells [.bool f1.never, .lst (List.map encFct f1.l) false]]) (H2 := [.cells [.bool f1.never, .lst (List.map encFct f1.l) false]]) rfl (by repeat (first | exact rzz | apply rcc rfl | apply rnn rfl)) rfl (?_ : GL _ _ _ _ _)
      refine L_seq ?_
      refine L_stmt ?_
      refine L_block ?_
      refine L_seq ?_
      refine L_stmt ?_
      refine L_reg ?_
      refine G_p rfl rfl rfl ?_
      refine G_h (v := .lst (List.map encFct f1.l) false) rfl rfl rfl (fun _ => rfl) ?_
      refine G_p rfl rfl rfl ?_
      refine G_h (v := .ro [.int .i64 y39.var, .int .i64 y39.tags]) rfl rfl rfl (ia_ev (cells := [.int .i64 y39.var, .int .i64 y39.tags]) rfl rfl (Int.natCast_nonneg _) (map_get (x := y39) (by rw [Int.toNat_natCast]; exact hy39)) (y05 _) rfl) ?_
      refine G_p (v := .ro [.int .i64 y39.var, .int .i64 y39.tags]) rfl rfl rfl ?_
      refine G_h rfl rfl rfl (fun _ => rfl) ?_
      refine G_p rfl rfl rfl ?_
      refine G_p rfl rfl rfl ?_
      refine G_nil ?_
      refine L_nil ?_
      refine Sm_norm (e2 := [(1, .int .i64 v2), (2, .ptr 0 0), (5, .int .i64 a30), (6, .int .i64 ((i40 : Nat) : Int)), (21, .bool (decide (y39.var = v2)))]) (H1 := [.cells [.bool f1.never, .lst (List.map encFct f1.l) false]]) (H2 := [.cells [.bool f1.never, .lst (List.map encFct f1.l) false]]) rfl (by repeat (first | exact rzz | apply rcc rfl | apply rnn rfl)) rfl (?_ : GL _ _ _ _ _)
      rcases cond_s hr with ⟨hc21, hr⟩ | ⟨hc21, hr⟩
      · refine L_T rfl hc21 ?_
        refine L_reg ?_
        refine G_p rfl rfl rfl ?_
        refine G_p rfl rfl rfl ?_
        refine G_h (v := .lst (List.map encFct f1.l) false) rfl rfl rfl (fun _ => rfl) ?_
        refine G_p rfl rfl rfl ?_
        refine G_h (v := .ro [.int .i64 y39.var, .int .i64 y39.tags]) rfl rfl rfl (ia_ev (cells := [.int .i64 y39.var, .int .i64 y39.tags]) rfl rfl (Int.natCast_nonneg _) (map_get (x := y39) (by rw [Int.toNat_natCast]; exact hy39)) (y05 _) rfl) ?_
        refine G_p (v := .ro [.int .i64 y39.tags]) rfl rfl rfl ?_
        refine G_h rfl rfl rfl (fun _ => rfl) ?_
        obtain ⟨r44, hr44, hr⟩ := bind_s hr
        refine G_c 50 rfl rfl (CA_of (as := [.int .i64 y39.tags]) rfl (y52 hr44)) ?_
        refine G_p rfl rfl rfl ?_
        refine G_p rfl rfl rfl ?_
        refine G_nil ?_
        refine L_nil ?_
        refine Blk_norm (?_ : GL _ _ _ _ _)
        refine L_nil ?_
        refine Sm_norm (e2 := [(1, .int .i64 v2), (2, .ptr 0 0), (5, .int .i64 (andB .i64 a30 r44)), (6, .int .i64 ((i40 : Nat) : Int))]) (H1 := [.cells [.bool f1.never, .lst (List.map encFct f1.l) false]]) (H2 := [.cells [.bool f1.never, .lst (List.map encFct f1.l) false]]) rfl (by repeat (first | exact rzz | apply rcc rfl | apply rnn rfl)) rfl (?_ : GL _ _ _ _ _)
        refine L_reg ?_
        refine G_p rfl rfl rfl ?_
        refine G_v (.int .i64 ((i40 + 1 : Nat) : Int)) rfl rfl rfl (congrArg _ (wrap_next hLq38 hlti40)) ?_
        refine G_p rfl rfl rfl ?_
        refine G_nil ?_
        refine L_nil ?_
        refine Rd_norm ⟨(andB .i64 a30 r44), ?_, rfl, hr⟩
        show restr _ _ = [(5, .int .i64 (andB .i64 a30 r44)), (6, .int .i64 (((i40 + 1) : Nat) : Int)), (1, .int .i64 v2), (2, .ptr 0 0)]
        (repeat (first | exact rzz | apply rcc rfl | apply rnn rfl))
      · refine L_F rfl hc21 ?_
        refine L_skip ?_
        refine L_nil ?_
        refine Blk_norm (?_ : GL _ _ _ _ _)
        refine L_nil ?_
        refine Sm_norm (e2 := [(1, .int .i64 v2), (2, .ptr 0 0), (5, .int .i64 a30), (6, .int .i64 ((i40 : Nat) : Int))]) (H1 := [.cells [.bool f1.never, .lst (List.map encFct f1.l) false]]) (H2 := [.cells [.bool f1.never, .lst (List.map encFct f1.l) false]]) rfl (by repeat (first | exact rzz | apply rcc rfl | apply rnn rfl)) rfl (?_ : GL _ _ _ _ _)
        refine L_reg ?_
        refine G_p rfl rfl rfl ?_
        refine G_v (.int .i64 ((i40 + 1 : Nat) : Int)) rfl rfl rfl (congrArg _ (wrap_next hLq38 hlti40)) ?_
        refine G_p rfl rfl rfl ?_
        refine G_nil ?_
        refine L_nil ?_
        refine Rd_norm ⟨a30, ?_, rfl, hr⟩
        show restr _ _ = [(5, .int .i64 a30), (6, .int .i64 (((i40 + 1) : Nat) : Int)), (1, .int .i64 v2), (2, .ptr 0 0)]
        (repeat (first | exact rzz | apply rcc rfl | apply rnn rfl))
  · rintro a23 hr
    show GL _ _ [(5, .int .i64 a23)] [.cells [.bool f1.never, .lst (List.map encFct f1.l) false]] _
    replace hr : y37 a23 = some r := hr
    unfold y37 at hr
    refine L_seq ?_
    refine L_reg ?_
    refine G_p rfl rfl rfl ?_
    refine G_p rfl rfl rfl ?_
    refine G_nil ?_
    refine L_ret ?_
    have hr := some_s hr
    subst hr
    exact ⟨_, rfl, _, rfl, rfl⟩
noncomputable def y3d : Option Bool :=
  some false
noncomputable def y1o (v2 : Int) : List Fct → Nat → Option Bool
  | [], _ => y3d
  | y22 :: rest24, i23 => (cond (decide (y22.var = v2)) (some true) ((y1o v2 rest24 (i23 + 1))))
noncomputable def g_r06_has (f1 : Fts) (v2 : Int) : Option Bool :=
  (cond (okLen f1.l) (y1o v2 f1.l 0) none)
theorem y5v {f1 : Fts} {v2 : Int} {r : Bool} (hr : g_r06_has f1 v2 = some r) : PRes (tabOf tabL) 44 [.agg (cFts f1), .int .i64 v2] (.bool r) := by
  refine pres_fin t44 ?_
  unfold g_r06_has at hr
  refine L_seq ?_
  refine L_stmt ?_
  refine L_reg ?_
  refine G_n (B := .cells [.bool f1.never, .lst (List.map encFct f1.l) false]) rfl rfl rfl ?_
  refine G_p rfl rfl rfl ?_
  refine G_nil ?_
  refine L_nil ?_
  refine Sm_norm (e2 := [(1, .int .i64 v2), (2, .ptr 0 0)]) (H1 := [.cells [.bool f1.never, .lst (List.map encFct f1.l) false]]) (H2 := [.cells [.bool f1.never, .lst (List.map encFct f1.l) false]]) rfl (by repeat (first | exact rzz | apply rcc rfl | apply rnn rfl)) rfl (?_ : GL _ _ _ _ _)
  refine L_seq ?_
  refine L_stmtJ (S := Unit) (fun s => []) (fun s => [.cells [.bool f1.never, .lst (List.map encFct f1.l) false]]) (fun s => y3d = some r) ?_ ?_
  · skip
    refine L_seq ?_
    refine L_stmt ?_
    refine L_reg ?_
    refine G_p rfl rfl rfl ?_
    refine G_nil ?_
    refine L_nil ?_
    refine Sm_norm (e2 := [(1, .int .i64 v2), (2, .ptr 0 0), (5, .int .i64 0)]) (H1 := [.cells [.bool f1.never, .lst (List.map encFct f1.l) false]]) (H2 := [.cells [.bool f1.never, .lst (List.map encFct f1.l) false]]) rfl (by repeat (first | exact rzz | apply rcc rfl | apply rnn rfl)) rfl (?_ : GL _ _ _ _ _)
    refine L_block ?_
    obtain ⟨hLq21, hr⟩ := guard_s hr
    replace hLq21 := okLen_s hLq21
    refine L_range (X := Fct) (S := Unit) f1.l (fun i23 s => [(5, .int .i64 ((i23 : Nat) : Int)), (1, .int .i64 v2), (2, .ptr 0 0)]) (fun i23 s => [.cells [.bool f1.never, .lst (List.map encFct f1.l) false]]) (fun rest i23 s => y1o v2 rest i23 = some r) (()) ?_ rfl hr ?_ ?_
    · show restr _ _ = [(5, .int .i64 ((0 : Nat) : Int)), (1, .int .i64 v2), (2, .ptr 0 0)]
      (repeat (first | exact rzz | apply rcc rfl | apply rnn rfl))
    · rintro ⟨⟩ hr
      show GL _ _ [(5, .int .i64 (((List.length f1.l) : Nat) : Int)), (1, .int .i64 v2), (2, .ptr 0 0)] [.cells [.bool f1.never, .lst (List.map encFct f1.l) false]] _
      replace hr : y1o v2 [] (List.length f1.l) = some r := hr
      rw [y1o] at hr
      refine L_seq ?_
      refine L_stmt ?_
      refine L_seq ?_
      refine L_stmt ?_
      refine L_reg ?_
      refine G_p rfl rfl rfl ?_
      refine G_p rfl rfl rfl ?_
      refine G_h (v := .lst (List.map encFct f1.l) false) rfl rfl rfl (fun _ => rfl) ?_
      refine G_h rfl rfl rfl (lenL_ev rfl (List.length_map _)) ?_
      refine G_v (.bool false) rfl rfl rfl (congrArg AVal.bool (decide_eq_false (by omega))) ?_
      refine G_nil ?_
      refine L_nil ?_
      refine Sm_norm (e2 := [(1, .int .i64 v2), (2, .ptr 0 0), (5, .int .i64 ((List.length f1.l : Nat) : Int)), (10, .bool false)]) (H1 := [.cells [.bool f1.never, .lst (List.map encFct f1.l) false]]) (H2 := [.cells [.bool f1.never, .lst (List.map encFct f1.l) false]]) rfl (by repeat (first | exact rzz | apply rcc rfl | apply rnn rfl)) rfl (?_ : GL _ _ _ _ _)
      refine L_F rfl rfl ?_
      refine L_exit ?_
      refine Sm_exit ?_
      refine Rd_exit ?_
      refine Blk_exit (?_ : GL _ _ _ _ _)
      refine L_nil ?_
      exact Sm_norm (e2 := []) (H1 := [.cells [.bool f1.never, .lst (List.map encFct f1.l) false]]) (H2 := [.cells [.bool f1.never, .lst (List.map encFct f1.l) false]]) rfl (by repeat (first | exact rzz | apply rcc rfl | apply rnn rfl)) rfl ⟨(), rfl, rfl, hr⟩
    · rintro y22 rest24 i23 ⟨⟩ hy22 hlti23 hr
      show GL _ _ [(5, .int .i64 ((i23 : Nat) : Int)), (1, .int .i64 v2), (2, .ptr 0 0)] [.cells [.bool f1.never, .lst (List.map encFct f1.l) false]] _
      replace hr : y1o v2 (y22 :: rest24) i23 = some r := hr
      rw [y1o] at hr
      refine L_seq ?_
      refine L_stmt ?_
      refine L_seq ?_
      refine L_stmt ?_
      refine L_reg ?_
      refine G_p rfl rfl rfl ?_
      refine G_p rfl rfl rfl ?_
      refine G_h (v := .lst (List.map encFct f1.l) false) rfl rfl rfl (fun _ => rfl) ?_
      refine G_h rfl rfl rfl (lenL_ev rfl (List.length_map _)) ?_
      refine G_v (.bool true) rfl rfl rfl (congrArg AVal.bool (decide_eq_true (by omega))) ?_
      refine G_nil ?_
      refine L_nil ?_
      refine Sm_norm (e2 := [(1, .int .i64 v2), (2, .ptr 0 0), (5, .int .i64 ((i23 : Nat) : Int)), (10, .bool true)]) (H1 := [.cells [.bool f1.never, .lst (List.map encFct f1.l) false]]) (H2 := [.cells [.bool f1.never, .lst (List.map encFct f1.l) false]]) rfl (by repeat (first | exact rzz | apply rcc rfl | apply rnn rfl)) rfl (?_ : GL _ _ _ _ _)
      refine L_T rfl rfl ?_
      refine L_skip ?_
      refine L_nil ?_
      refine Sm_norm (e2 := [(1, .int .i64 v2), (2, .ptr 0 0), (5, .int .i64 ((i23 : Nat) : Int))]) (H1 := [.cells [.bool f1.never, .lst (List.map encFct f1.l) false]]) (H2 := [.cells [.bool f1.never, .lst (List.map encFct f1.l) false]]) rfl (by repeat (first | exact rzz | apply rcc rfl | apply rnn rfl)) rfl (?_ : GL _ _ _ _ _)
      refine L_seq ?_
      refine L_stmt ?_
      refine L_block ?_
      refine L_seq ?_
      refine L_stmt ?_
      refine L_reg ?_
      refine G_p rfl rfl rfl ?_
      refine G_h (v := .lst (List.map encFct f1.l) false) rfl rfl rfl (fun _ => rfl) ?_
      refine G_p rfl rfl rfl ?_
      refine G_h (v := .ro [.int .i64 y22.var, .int .i64 y22.tags]) rfl rfl rfl (ia_ev (cells := [.int .i64 y22.var, .int .i64 y22.tags]) rfl rfl (Int.natCast_nonneg _) (map_get (x := y22) (by rw [Int.toNat_natCast]; exact hy22)) (y05 _) rfl) ?_
      refine G_p (v := .ro [.int .i64 y22.var, .int .i64 y22.tags]) rfl rfl rfl ?_
      refine G_h rfl rfl rfl (fun _ => rfl) ?_
      refine G_p rfl rfl rfl ?_
      refine G_p rfl rfl rfl ?_
      refine G_nil ?_
      refine L_nil ?_
      refine Sm_norm (e2 := [(1, .int .i64 v2), (2, .ptr 0 0), (5, .int .i64 ((i23 : Nat) : Int)), (20, .bool (decide (y22.var = v2)))]) (H1 := [.cells [.bool f1.never, .lst (List.map encFct f1.l) false]]) (H2 := [.cells [.bool f1.never, .lst (List.map encFct f1.l) false]]) rfl (by repeat (first | exact rzz | apply rcc rfl | apply rnn rfl)) rfl (?_ : GL _ _ _ _ _)
      rcases cond_s hr with ⟨hc20, hr⟩ | ⟨hc20, hr⟩
      · refine L_T rfl hc20 ?_
        refine L_seq ?_
        refine L_reg ?_
        refine G_p rfl rfl rfl ?_
        refine G_nil ?_
        refine L_ret ?_
        refine Blk_ret ?_
        refine Sm_ret ?_
        refine Rd_ret ?_
        refine Blk_ret ?_
        refine Sm_ret ?_
        have hr := some_s hr
        subst hr
        exact ⟨_, rfl, _, rfl, rfl⟩
      · refine L_F rfl hc20 ?_
        refine L_skip ?_
        refine L_nil ?_
        refine Blk_norm (?_ : GL _ _ _ _ _)
        refine L_nil ?_
        refine Sm_norm (e2 := [(1, .int .i64 v2), (2, .ptr 0 0), (5, .int .i64 ((i23 : Nat) : Int))]) (H1 := [.cells [.bool f1.never, .lst (List.map encFct f1.l) false]]) (H2 := [.cells [.bool f1.never, .lst (List.map encFct f1.l) false]]) rfl (by repeat (first | exact rzz | apply rcc rfl | apply rnn rfl)) rfl (?_ : GL _ _ _ _ _)
        refine L_reg ?_
        refine G_p rfl rfl rfl ?_
        refine G_v (.int .i64 ((i23 + 1 : Nat) : Int)) rfl rfl rfl (congrArg _ (wrap_next hLq21 hlti23)) ?_
        refine G_p rfl rfl rfl ?_
        refine G_nil ?_
        refine L_nil ?_
        refine Rd_norm ⟨(), ?_, rfl, hr⟩
        show restr _ _ = [(5, .int .i64 (((i23 + 1) : Nat) : Int)), (1, .int .i64 v2), (2, .ptr 0 0)]
        (repeat (first | exact rzz | apply rcc rfl | apply rnn rfl))
  · rintro ⟨⟩ hr
    show GL _ _ [] [.cells [.bool f1.never, .lst (List.map encFct f1.l) false]] _
    replace hr : y3d = some r := hr
    unfold y3d at hr
    refine L_seq ?_
    refine L_reg ?_
    refine G_p rfl rfl rfl ?_
    refine G_nil ?_
    refine L_ret ?_
    have hr := some_s hr
    subst hr
    exact ⟨_, rfl, _, rfl, rfl⟩
noncomputable def y38 (l106 : List Int) : Option (List Int) :=
  some l106
noncomputable def y1u (K11 : (List Int) → Option (List Int)) (l205 : List Int) : Option (List Int) :=
  K11 l205
noncomputable def y28 (l120 : List Int) (y170 : Fct) (K11 : (List Int) → Option (List Int)) (a227 : Int) : Option (List Int) :=
  ((cond (decide (a227 = ((List.length l120 : Nat) : Int))) (some true) (((idx l120 a227).bind fun e228 => some (!decide (e228 = y170.var))))).bind fun v229 => (cond v229 ((subL l120 0 a227).bind fun l230 => (cond (okLen l230) (((catL l230 [y170.var]).bind fun l232 => ((subL l120 a227 (List.length l120 : Nat)).bind fun l233 => ((catL l232 l233).bind fun l234 => y1u K11 l234)))) none)) (y1u K11 l120)))
noncomputable def y1k (l120 : List Int) (y170 : Fct) (K11 : (List Int) → Option (List Int)) : List Int → Nat → Option (List Int)
  | [], _ => y28 l120 y170 K11 ((List.length l120 : Nat) : Int)
  | y256 :: rest258, i257 => (cond (decide (y256 < y170.var)) ((y1k l120 y170 K11 rest258 (i257 + 1))) (y28 l120 y170 K11 ((i257 : Nat) : Int)))
noncomputable def y0r : List Fct → Nat → (List Int) → Option (List Int)
  | [], _, l120 => y38 l120
  | y170 :: rest172, i171, l120 => (cond (okLen l120) (y1k l120 y170 (y0r rest172 (i171 + 1)) l120 0) none)
noncomputable def y3a (l6 : List Fct) : Option (List Int) :=
  (cond (okLen l6) (y0r l6 0 []) none)
noncomputable def y3m (n : Nat) (a1 : Fts) (b2 : Fts) : Option (List Int) :=
  (cond (okLen a1.l) (((catL a1.l b2.l).bind fun l260 => y3a l260)) none)
theorem y5l {n : Nat} {a1 : Fts} {b2 : Fts} {r : List Int} (hr : y3m n a1 b2 = some r) : PRes (tabOf tabL) 40 [.agg (cFts a1), .agg (cFts b2)] (.lst (List.map (AVal.int .i64) r) false) := by
  refine pres_fin t40 ?_
  unfold y3m at hr
  refine L_seq ?_
  refine L_stmt ?_
  refine L_reg ?_
  refine G_n (B := .cells [.bool a1.never, .lst (List.map encFct a1.l) false]) rfl rfl rfl ?_
  refine G_n (B := .cells [.bool b2.never, .lst (List.map encFct b2.l) false]) rfl rfl rfl ?_
  refine G_p (v := .lst [] true) rfl rfl rfl ?_
  refine G_nil ?_
  refine L_nil ?_
  refine Sm_norm (e2 := [(2, .ptr 0 0), (3, .ptr 1 0)]) (H1 := [.cells [.bool a1.never, .lst (List.map encFct a1.l) false], .cells [.bool b2.never, .lst (List.map encFct b2.l) false]]) (H2 := [.cells [.bool a1.never, .lst (List.map encFct a1.l) false], .cells [.bool b2.never, .lst (List.map encFct b2.l) false]]) rfl (by repeat (first | exact rzz | apply rcc rfl | apply rnn rfl)) rfl (?_ : GL _ _ _ _ _)
  refine L_seq ?_
  refine L_stmt ?_
  refine L_reg ?_
  refine G_p (v := .lst [] true) rfl rfl rfl ?_
  refine G_nil ?_
  refine L_nil ?_
  refine Sm_norm (e2 := [(2, .ptr 0 0), (3, .ptr 1 0), (5, .lst [] false)]) (H1 := [.cells [.bool a1.never, .lst (List.map encFct a1.l) false], .cells [.bool b2.never, .lst (List.map encFct b2.l) false]]) (H2 := [.cells [.bool a1.never, .lst (List.map encFct a1.l) false], .cells [.bool b2.never, .lst (List.map encFct b2.l) false]]) (frz_c (frz_lst rfl) rfl) (by repeat (first | exact rzz | apply rcc rfl | apply rnn rfl)) rfl (?_ : GL _ _ _ _ _)
  refine L_seq ?_
  refine L_stmtJ (S := List Fct) (fun s => [(5, .lst [] false), (6, .lst (List.map encFct s) false)]) (fun s => [.cells [.bool a1.never, .lst (List.map encFct a1.l) false], .cells [.bool b2.never, .lst (List.map encFct b2.l) false]]) (fun s => y3a s = some r) ?_ ?_
  · skip
    refine L_draw ?_
    refine GD_h (d := some 9) (v := .lst [] true) rfl rfl rfl rfl (fun _ => rfl) ?_
    refine GD_p rfl rfl rfl ?_
    refine GD_h (d := some 11) (v := .lst (List.map encFct a1.l) false) rfl rfl rfl rfl (fun _ => rfl) ?_
    obtain ⟨hLq259, hr⟩ := guard_s hr
    rcases emp_or a1.l with hEq259 | hEq259
    · skip
      refine GD_o (d := some 12) (H' := [.cells [.bool a1.never, .lst (List.map encFct a1.l) false], .cells [.bool b2.never, .lst (List.map encFct b2.l) false], .hole, .hole]) rfl rfl rfl rfl (appE_ev (es := 2) (ys := a1.l) encFct_w1 rfl rfl rfl hEq259) ?_
      refine GD_p rfl rfl rfl ?_
      refine GD_h (d := some 14) (v := .lst (List.map encFct b2.l) false) rfl rfl rfl rfl (fun _ => rfl) ?_
      obtain ⟨l260, hl260, hr⟩ := bind_s hr
      rcases emp_or b2.l with hEl260 | hEl260
      · skip
        refine GD_o (d := some 15) (H' := [.cells [.bool a1.never, .lst (List.map encFct a1.l) false], .cells [.bool b2.never, .lst (List.map encFct b2.l) false], .hole, .hole]) rfl rfl rfl rfl (appO_ev (es := 2) encFct_w1 rfl rfl rfl hEl260 hl260) ?_
        refine GD_p (v := .lst (List.map encFct l260) true) rfl rfl rfl ?_
        refine GD_nil2 (by first | (simp [okFs2, y15, disj, noneIn, notIn, y16, sameOn, partsGls, y17, AOpd.ev, Env.get, Env.put, glsV, glsL]; done) | rfl) ?_
        refine L_nil ?_
        exact Sm_norm (e2 := [(5, .lst [] false), (6, .lst (List.map encFct l260) false)]) (H1 := [.cells [.bool a1.never, .lst (List.map encFct a1.l) false], .cells [.bool b2.never, .lst (List.map encFct b2.l) false], .hole, .hole]) (H2 := [.cells [.bool a1.never, .lst (List.map encFct a1.l) false], .cells [.bool b2.never, .lst (List.map encFct b2.l) false]]) (frz_c (frz_lst rfl) rfl) (by repeat (first | exact rzz | apply rcc rfl | apply rnn rfl)) rfl ⟨l260, rfl, rfl, hr⟩
      · skip
        refine GD_o (d := some 15) (H' := [.cells [.bool a1.never, .lst (List.map encFct a1.l) false], .cells [.bool b2.never, .lst (List.map encFct b2.l) false], .hole, growM 2 encFct l260]) rfl rfl rfl rfl (appM_ev (es := 2) encFct_w1 (show (16 : Nat) ≤ 1400 from by decide) rfl rfl rfl hEl260 hl260 rfl) ?_
        refine GD_p rfl rfl rfl ?_
        refine GD_nil2 (by first | (simp [okFs2, y15, disj, noneIn, notIn, y16, sameOn, partsGls, y17, AOpd.ev, Env.get, Env.put, glsV, glsL]; done) | rfl) ?_
        refine L_nil ?_
        exact Sm_norm (e2 := [(5, .lst [] false), (6, .lst (List.map encFct l260) false)]) (H1 := [.cells [.bool a1.never, .lst (List.map encFct a1.l) false], .cells [.bool b2.never, .lst (List.map encFct b2.l) false], .hole, growM 2 encFct l260]) (H2 := [.cells [.bool a1.never, .lst (List.map encFct a1.l) false], .cells [.bool b2.never, .lst (List.map encFct b2.l) false]]) (frz_c (frz_gl rfl rfl) rfl) (by repeat (first | exact rzz | apply rcc rfl | apply rnn rfl)) rfl ⟨l260, rfl, rfl, hr⟩
    · skip
      refine GD_o (d := some 12) (H' := [.cells [.bool a1.never, .lst (List.map encFct a1.l) false], .cells [.bool b2.never, .lst (List.map encFct b2.l) false], growM 2 encFct a1.l, .hole]) rfl rfl rfl rfl (appN_ev (es := 2) (ys := a1.l) encFct_w1 (show (16 : Nat) ≤ 1400 from by decide) rfl rfl rfl hEq259 hLq259 rfl) ?_
      refine GD_p rfl rfl rfl ?_
      refine GD_h (d := some 14) (v := .lst (List.map encFct b2.l) false) rfl rfl rfl rfl (fun _ => rfl) ?_
      obtain ⟨l261, hl261, hr⟩ := bind_s hr
      refine GD_o (d := some 15) (H' := [.cells [.bool a1.never, .lst (List.map encFct a1.l) false], .cells [.bool b2.never, .lst (List.map encFct b2.l) false], growM 2 encFct l261, .hole]) rfl rfl rfl rfl (appG2_ev (es := 2) encFct_w1 (show (16 : Nat) ≤ 1400 from by decide) rfl rfl rfl rfl hl261 rfl) ?_
      refine GD_p rfl rfl rfl ?_
      refine GD_nil2 (by first | (simp [okFs2, y15, disj, noneIn, notIn, y16, sameOn, partsGls, y17, AOpd.ev, Env.get, Env.put, glsV, glsL]; done) | rfl) ?_
      refine L_nil ?_
      exact Sm_norm (e2 := [(5, .lst [] false), (6, .lst (List.map encFct l261) false)]) (H1 := [.cells [.bool a1.never, .lst (List.map encFct a1.l) false], .cells [.bool b2.never, .lst (List.map encFct b2.l) false], growM 2 encFct l261, .hole]) (H2 := [.cells [.bool a1.never, .lst (List.map encFct a1.l) false], .cells [.bool b2.never, .lst (List.map encFct b2.l) false]]) (frz_c (frz_gl rfl rfl) rfl) (by repeat (first | exact rzz | apply rcc rfl | apply rnn rfl)) rfl ⟨l261, rfl, rfl, hr⟩
  · rintro l6 hr
    show GL _ _ [(5, .lst [] false), (6, .lst (List.map encFct l6) false)] [.cells [.bool a1.never, .lst (List.map encFct a1.l) false], .cells [.bool b2.never, .lst (List.map encFct b2.l) false]] _
    replace hr : y3a l6 = some r := hr
    unfold y3a at hr
    refine L_seq ?_
    refine L_stmtJ (S := List Int) (fun s => [(5, .lst (List.map (AVal.int .i64) s) false)]) (fun s => [.cells [.bool a1.never, .lst (List.map encFct a1.l) false], .cells [.bool b2.never, .lst (List.map encFct b2.l) false]]) (fun s => y38 s = some r) ?_ ?_
    · skip
      refine L_seq ?_
      refine L_stmt ?_
      refine L_reg ?_
      refine G_p rfl rfl rfl ?_
      refine G_nil ?_
      refine L_nil ?_
      refine Sm_norm (e2 := [(5, .lst [] false), (6, .lst (List.map encFct l6) false), (7, .int .i64 0)]) (H1 := [.cells [.bool a1.never, .lst (List.map encFct a1.l) false], .cells [.bool b2.never, .lst (List.map encFct b2.l) false]]) (H2 := [.cells [.bool a1.never, .lst (List.map encFct a1.l) false], .cells [.bool b2.never, .lst (List.map encFct b2.l) false]]) rfl (by repeat (first | exact rzz | apply rcc rfl | apply rnn rfl)) rfl (?_ : GL _ _ _ _ _)
      refine L_block ?_
      obtain ⟨hLq169, hr⟩ := guard_s hr
      replace hLq169 := okLen_s hLq169
      refine L_range (X := Fct) (S := List Int) l6 (fun i171 s => [(5, .lst (List.map (AVal.int .i64) s) false), (7, .int .i64 ((i171 : Nat) : Int)), (6, .lst (List.map encFct l6) false)]) (fun i171 s => [.cells [.bool a1.never, .lst (List.map encFct a1.l) false], .cells [.bool b2.never, .lst (List.map encFct b2.l) false]]) (fun rest i171 s => y0r rest i171 s = some r) ([]) ?_ rfl hr ?_ ?_
      · show restr _ _ = [(5, .lst (List.map (AVal.int .i64) []) false), (7, .int .i64 ((0 : Nat) : Int)), (6, .lst (List.map encFct l6) false)]
        (repeat (first | exact rzz | apply rcc rfl | apply rnn rfl))
      · rintro l120 hr
        show GL _ _ [(5, .lst (List.map (AVal.int .i64) l120) false), (7, .int .i64 (((List.length l6) : Nat) : Int)), (6, .lst (List.map encFct l6) false)] [.cells [.bool a1.never, .lst (List.map encFct a1.l) false], .cells [.bool b2.never, .lst (List.map encFct b2.l) false]] _
        replace hr : y0r [] (List.length l6) l120 = some r := hr
        rw [y0r] at hr
        refine L_seq ?_
        refine L_stmt ?_
        refine L_seq ?_
        refine L_stmt ?_
        refine L_reg ?_
        refine G_p rfl rfl rfl ?_
        refine G_p (v := .lst (List.map encFct l6) false) rfl rfl rfl ?_
        refine G_h rfl rfl rfl (lenL_ev rfl (List.length_map _)) ?_
        refine G_v (.bool false) rfl rfl rfl (congrArg AVal.bool (decide_eq_false (by omega))) ?_
        refine G_nil ?_
        refine L_nil ?_
        refine Sm_norm (e2 := [(5, .lst (List.map (AVal.int .i64) l120) false), (6, .lst (List.map encFct l6) false), (7, .int .i64 ((List.length l6 : Nat) : Int)), (19, .bool false)]) (H1 := [.cells [.bool a1.never, .lst (List.map encFct a1.l) false], .cells [.bool b2.never, .lst (List.map encFct b2.l) false]]) (H2 := [.cells [.bool a1.never, .lst (List.map encFct a1.l) false], .cells [.bool b2.never, .lst (List.map encFct b2.l) false]]) rfl (by repeat (first | exact rzz | apply rcc rfl | apply rnn rfl)) rfl (?_ : GL _ _ _ _ _)
        refine L_F rfl rfl ?_
        refine L_exit ?_
        refine Sm_exit ?_
        refine Rd_exit ?_
        refine Blk_exit (?_ : GL _ _ _ _ _)
        refine L_nil ?_
        exact Sm_norm (e2 := [(5, .lst (List.map (AVal.int .i64) l120) false)]) (H1 := [.cells [.bool a1.never, .lst (List.map encFct a1.l) false], .cells [.bool b2.never, .lst (List.map encFct b2.l) false]]) (H2 := [.cells [.bool a1.never, .lst (List.map encFct a1.l) false], .cells [.bool b2.never, .lst (List.map encFct b2.l) false]]) (frz_c (frz_lst rfl) rfl) (by repeat (first | exact rzz | apply rcc rfl | apply rnn rfl)) rfl ⟨l120, rfl, rfl, hr⟩
      · rintro y170 rest172 i171 l120 hy170 hlti171 hr
        show GL _ _ [(5, .lst (List.map (AVal.int .i64) l120) false), (7, .int .i64 ((i171 : Nat) : Int)), (6, .lst (List.map encFct l6) false)] [.cells [.bool a1.never, .lst (List.map encFct a1.l) false], .cells [.bool b2.never, .lst (List.map encFct b2.l) false]] _
        replace hr : y0r (y170 :: rest172) i171 l120 = some r := hr
        rw [y0r] at hr
        refine L_seq ?_
        refine L_stmt ?_
        refine L_seq ?_
        refine L_stmt ?_
        refine L_reg ?_
        refine G_p rfl rfl rfl ?_
        refine G_p (v := .lst (List.map encFct l6) false) rfl rfl rfl ?_
        refine G_h rfl rfl rfl (lenL_ev rfl (List.length_map _)) ?_
        refine G_v (.bool true) rfl rfl rfl (congrArg AVal.bool (decide_eq_true (by omega))) ?_
        refine G_nil ?_
        refine L_nil ?_
        refine Sm_norm (e2 := [(5, .lst (List.map (AVal.int .i64) l120) false), (6, .lst (List.map encFct l6) false), (7, .int .i64 ((i171 : Nat) : Int)), (19, .bool true)]) (H1 := [.cells [.bool a1.never, .lst (List.map encFct a1.l) false], .cells [.bool b2.never, .lst (List.map encFct b2.l) false]]) (H2 := [.cells [.bool a1.never, .lst (List.map encFct a1.l) false], .cells [.bool b2.never, .lst (List.map encFct b2.l) false]]) rfl (by repeat (first | exact rzz | apply rcc rfl | apply rnn rfl)) rfl (?_ : GL _ _ _ _ _)
        refine L_T rfl rfl ?_
        refine L_skip ?_
        refine L_nil ?_
        refine Sm_norm (e2 := [(5, .lst (List.map (AVal.int .i64) l120) false), (6, .lst (List.map encFct l6) false), (7, .int .i64 ((i171 : Nat) : Int))]) (H1 := [.cells [.bool a1.never, .lst (List.map encFct a1.l) false], .cells [.bool b2.never, .lst (List.map encFct b2.l) false]]) (H2 := [.cells [.bool a1.never, .lst (List.map encFct a1.l) false], .cells [.bool b2.never, .lst (List.map encFct b2.l) false]]) rfl (by repeat (first | exact rzz | apply rcc rfl | apply rnn rfl)) rfl (?_ : GL _ _ _ _ _)
        refine L_seq ?_
        refine L_stmtJ (S := List Int) (fun s => [(5, .lst (List.map (AVal.int .i64) s) false), (6, .lst (List.map encFct l6) false), (7, .int .i64 ((i171 : Nat) : Int))]) (fun s => [.cells [.bool a1.never, .lst (List.map encFct a1.l) false], .cells [.bool b2.never, .lst (List.map encFct b2.l) false]]) (fun s => y1u (y0r rest172 (i171 + 1)) s = some r) ?_ ?_
        · skip
          refine L_block ?_
          refine L_seq ?_
          refine L_stmt ?_
          refine L_reg ?_
          refine G_p rfl rfl rfl ?_
          refine G_nil ?_
          refine L_nil ?_
          refine Sm_norm (e2 := [(5, .lst (List.map (AVal.int .i64) l120) false), (6, .lst (List.map encFct l6) false), (7, .int .i64 ((i171 : Nat) : Int)), (8, .int .i64 0)]) (H1 := [.cells [.bool a1.never, .lst (List.map encFct a1.l) false], .cells [.bool b2.never, .lst (List.map encFct b2.l) false]]) (H2 := [.cells [.bool a1.never, .lst (List.map encFct a1.l) false], .cells [.bool b2.never, .lst (List.map encFct b2.l) false]]) rfl (by repeat (first | exact rzz | apply rcc rfl | apply rnn rfl)) rfl (?_ : GL _ _ _ _ _)
          refine L_seq ?_
          refine L_stmtJ (S := Int) (fun s => [(5, .lst (List.map (AVal.int .i64) l120) false), (6, .lst (List.map encFct l6) false), (7, .int .i64 ((i171 : Nat) : Int)), (8, .int .i64 s)]) (fun s => [.cells [.bool a1.never, .lst (List.map encFct a1.l) false], .cells [.bool b2.never, .lst (List.map encFct b2.l) false]]) (fun s => y28 l120 y170 (y0r rest172 (i171 + 1)) s = some r) ?_ ?_
          · skip
            refine L_block ?_
            obtain ⟨hLq255, hr⟩ := guard_s hr
            replace hLq255 := okLen_s hLq255
            refine L_range (X := Int) (S := Unit) l120 (fun i257 s => [(8, .int .i64 ((i257 : Nat) : Int)), (5, .lst (List.map (AVal.int .i64) l120) false), (6, .lst (List.map encFct l6) false), (7, .int .i64 ((i171 : Nat) : Int))]) (fun i257 s => [.cells [.bool a1.never, .lst (List.map encFct a1.l) false], .cells [.bool b2.never, .lst (List.map encFct b2.l) false]]) (fun rest i257 s => y1k l120 y170 (y0r rest172 (i171 + 1)) rest i257 = some r) (()) ?_ rfl hr ?_ ?_
            · show restr _ _ = [(8, .int .i64 ((0 : Nat) : Int)), (5, .lst (List.map (AVal.int .i64) l120) false), (6, .lst (List.map encFct l6) false), (7, .int .i64 ((i171 : Nat) : Int))]
              (repeat (first | exact rzz | apply rcc rfl | apply rnn rfl))
            · rintro ⟨⟩ hr
              show GL _ _ [(8, .int .i64 (((List.length l120) : Nat) : Int)), (5, .lst (List.map (AVal.int .i64) l120) false), (6, .lst (List.map encFct l6) false), (7, .int .i64 ((i171 : Nat) : Int))] [.cells [.bool a1.never, .lst (List.map encFct a1.l) false], .cells [.bool b2.never, .lst (List.map encFct b2.l) false]] _
              replace hr : y1k l120 y170 (y0r rest172 (i171 + 1)) [] (List.length l120) = some r := hr
              rw [y1k] at hr
              refine L_seq ?_
              refine L_stmt ?_
              refine L_seq ?_
              refine L_stmt ?_
              refine L_drawS (ops := [_, _, _, _, _, _, _, _, _, _, _, _, _, _, _, _]) rfl rfl ?_
              refine G_p rfl rfl rfl ?_
              refine G_p (v := .lst (List.map (AVal.int .i64) l120) false) rfl rfl rfl ?_
              refine G_h rfl rfl rfl (lenL_ev rfl (List.length_map _)) ?_
              refine G_v (.bool false) rfl rfl rfl (congrArg AVal.bool (decide_eq_false (by omega))) ?_
              refine G_p rfl rfl rfl ?_
              refine G_s rfl ?_
              refine G_s rfl ?_
              refine G_s rfl ?_
              refine G_s rfl ?_
              refine G_s rfl ?_
              refine G_s rfl ?_
              refine G_s rfl ?_
              refine G_s rfl ?_
              refine G_s rfl ?_
              refine G_s rfl ?_
              refine G_p rfl rfl rfl ?_
              refine G_nil (L_nil ⟨rfl, ?_⟩)
              refine L_nil ?_
              refine Sm_norm (e2 := [(5, .lst (List.map (AVal.int .i64) l120) false), (6, .lst (List.map encFct l6) false), (7, .int .i64 ((i171 : Nat) : Int)), (8, .int .i64 ((List.length l120 : Nat) : Int)), (37, .bool false)]) (H1 := [.cells [.bool a1.never, .lst (List.map encFct a1.l) false], .cells [.bool b2.never, .lst (List.map encFct b2.l) false]]) (H2 := [.cells [.bool a1.never, .lst (List.map encFct a1.l) false], .cells [.bool b2.never, .lst (List.map encFct b2.l) false]]) rfl (by repeat (first | exact rzz | apply rcc rfl | apply rnn rfl)) rfl (?_ : GL _ _ _ _ _)
              refine L_F rfl rfl ?_
              refine L_exit ?_
              refine Sm_exit ?_
              refine Rd_exit ?_
              refine Blk_exit (?_ : GL _ _ _ _ _)
              refine L_nil ?_
              exact Sm_norm (e2 := [(5, .lst (List.map (AVal.int .i64) l120) false), (6, .lst (List.map encFct l6) false), (7, .int .i64 ((i171 : Nat) : Int)), (8, .int .i64 ((List.length l120 : Nat) : Int))]) (H1 := [.cells [.bool a1.never, .lst (List.map encFct a1.l) false], .cells [.bool b2.never, .lst (List.map encFct b2.l) false]]) (H2 := [.cells [.bool a1.never, .lst (List.map encFct a1.l) false], .cells [.bool b2.never, .lst (List.map encFct b2.l) false]]) rfl (by repeat (first | exact rzz | apply rcc rfl | apply rnn rfl)) rfl ⟨((List.length l120 : Nat) : Int), rfl, rfl, hr⟩
            · rintro y256 rest258 i257 ⟨⟩ hy256 hlti257 hr
              show GL _ _ [(8, .int .i64 ((i257 : Nat) : Int)), (5, .lst (List.map (AVal.int .i64) l120) false), (6, .lst (List.map encFct l6) false), (7, .int .i64 ((i171 : Nat) : Int))] [.cells [.bool a1.never, .lst (List.map encFct a1.l) false], .cells [.bool b2.never, .lst (List.map encFct b2.l) false]] _
              replace hr : y1k l120 y170 (y0r rest172 (i171 + 1)) (y256 :: rest258) i257 = some r := hr
              rw [y1k] at hr
              refine L_seq ?_
              refine L_stmt ?_
              refine L_seq ?_
              refine L_stmt ?_
              refine L_drawS (ops := [_, _, _, _, _, _, _, _, _, _, _, _, _, _, _, _]) rfl rfl ?_
              refine G_p rfl rfl rfl ?_
              refine G_p (v := .lst (List.map (AVal.int .i64) l120) false) rfl rfl rfl ?_
              refine G_h rfl rfl rfl (lenL_ev rfl (List.length_map _)) ?_
              refine G_v (.bool true) rfl rfl rfl (congrArg AVal.bool (decide_eq_true (by omega))) ?_
              refine G_p rfl rfl rfl ?_
              refine G_p (v := .lst (List.map (AVal.int .i64) l120) false) rfl rfl rfl ?_
              refine G_p rfl rfl rfl ?_
              refine G_h (v := .ro [.int .i64 y256]) rfl rfl rfl (ia_ev (cells := [.int .i64 y256]) rfl rfl (Int.natCast_nonneg _) (map_get (x := y256) (by rw [Int.toNat_natCast]; exact hy256)) rfl rfl) ?_
              refine G_h rfl rfl rfl (fun _ => rfl) ?_
              refine G_p (v := .lst (List.map encFct l6) false) rfl rfl rfl ?_
              refine G_p rfl rfl rfl ?_
              refine G_h (v := .ro [.int .i64 y170.var, .int .i64 y170.tags]) rfl rfl rfl (ia_ev (cells := [.int .i64 y170.var, .int .i64 y170.tags]) rfl rfl (Int.natCast_nonneg _) (map_get (x := y170) (by rw [Int.toNat_natCast]; exact hy170)) (y05 _) rfl) ?_
              refine G_p (v := .ro [.int .i64 y170.var, .int .i64 y170.tags]) rfl rfl rfl ?_
              refine G_h rfl rfl rfl (fun _ => rfl) ?_
              refine G_p rfl rfl rfl ?_
              refine G_p rfl rfl rfl ?_
              refine G_nil (L_nil ⟨rfl, ?_⟩)
              refine L_nil ?_
              refine Sm_norm (e2 := [(5, .lst (List.map (AVal.int .i64) l120) false), (6, .lst (List.map encFct l6) false), (7, .int .i64 ((i171 : Nat) : Int)), (8, .int .i64 ((i257 : Nat) : Int)), (37, .bool (decide (y256 < y170.var)))]) (H1 := [.cells [.bool a1.never, .lst (List.map encFct a1.l) false], .cells [.bool b2.never, .lst (List.map encFct b2.l) false]]) (H2 := [.cells [.bool a1.never, .lst (List.map encFct a1.l) false], .cells [.bool b2.never, .lst (List.map encFct b2.l) false]]) rfl (by repeat (first | exact rzz | apply rcc rfl | apply rnn rfl)) rfl (?_ : GL _ _ _ _ _)
              rcases cond_s hr with ⟨hc37, hr⟩ | ⟨hc37, hr⟩
              · refine L_T rfl hc37 ?_
                refine L_skip ?_
                refine L_nil ?_
                refine Sm_norm (e2 := [(5, .lst (List.map (AVal.int .i64) l120) false), (6, .lst (List.map encFct l6) false), (7, .int .i64 ((i171 : Nat) : Int)), (8, .int .i64 ((i257 : Nat) : Int))]) (H1 := [.cells [.bool a1.never, .lst (List.map encFct a1.l) false], .cells [.bool b2.never, .lst (List.map encFct b2.l) false]]) (H2 := [.cells [.bool a1.never, .lst (List.map encFct a1.l) false], .cells [.bool b2.never, .lst (List.map encFct b2.l) false]]) rfl (by repeat (first | exact rzz | apply rcc rfl | apply rnn rfl)) rfl (?_ : GL _ _ _ _ _)
                refine L_block ?_
                refine L_reg ?_
                refine G_p rfl rfl rfl ?_
                refine G_v (.int .i64 ((i257 + 1 : Nat) : Int)) rfl rfl rfl (congrArg _ (wrap_next hLq255 hlti257)) ?_
                refine G_p rfl rfl rfl ?_
                refine G_nil ?_
                refine L_nil ?_
                refine Blk_norm (?_ : GL _ _ _ _ _)
                refine L_nil ?_
                refine Rd_norm ⟨(), ?_, rfl, hr⟩
                show restr _ _ = [(8, .int .i64 (((i257 + 1) : Nat) : Int)), (5, .lst (List.map (AVal.int .i64) l120) false), (6, .lst (List.map encFct l6) false), (7, .int .i64 ((i171 : Nat) : Int))]
                (repeat (first | exact rzz | apply rcc rfl | apply rnn rfl))
              · refine L_F rfl hc37 ?_
                refine L_exit ?_
                refine Sm_exit ?_
                refine Rd_exit ?_
                refine Blk_exit (?_ : GL _ _ _ _ _)
                refine L_nil ?_
                exact Sm_norm (e2 := [(5, .lst (List.map (AVal.int .i64) l120) false), (6, .lst (List.map encFct l6) false), (7, .int .i64 ((i171 : Nat) : Int)), (8, .int .i64 ((i257 : Nat) : Int))]) (H1 := [.cells [.bool a1.never, .lst (List.map encFct a1.l) false], .cells [.bool b2.never, .lst (List.map encFct b2.l) false]]) (H2 := [.cells [.bool a1.never, .lst (List.map encFct a1.l) false], .cells [.bool b2.never, .lst (List.map encFct b2.l) false]]) rfl (by repeat (first | exact rzz | apply rcc rfl | apply rnn rfl)) rfl ⟨((i257 : Nat) : Int), rfl, rfl, hr⟩
          · rintro a227 hr
            show GL _ _ [(5, .lst (List.map (AVal.int .i64) l120) false), (6, .lst (List.map encFct l6) false), (7, .int .i64 ((i171 : Nat) : Int)), (8, .int .i64 a227)] [.cells [.bool a1.never, .lst (List.map encFct a1.l) false], .cells [.bool b2.never, .lst (List.map encFct b2.l) false]] _
            replace hr : y28 l120 y170 (y0r rest172 (i171 + 1)) a227 = some r := hr
            unfold y28 at hr
            refine L_seq ?_
            refine L_stmt ?_
            refine L_drawS (ops := [_, _, _, _, _, _, _, _, _, _, _, _, _, _, _, _]) rfl rfl ?_
            refine G_p rfl rfl rfl ?_
            refine G_p (v := .lst (List.map (AVal.int .i64) l120) false) rfl rfl rfl ?_
            refine G_h rfl rfl rfl (lenL_ev rfl (List.length_map _)) ?_
            refine G_p rfl rfl rfl ?_
            refine G_p rfl rfl rfl ?_
            obtain ⟨v229, hvv229, hr⟩ := bind_s hr
            refine G_pick false [_, _, _, _, _, _, _, _, _, _] (v := .bool v229) (vo := .bool true) rfl rfl ?_ ?_ rfl ?_
            · intro hb44
              have hr := condF hb44 hvv229
              refine G_p (v := .lst (List.map (AVal.int .i64) l120) false) rfl rfl rfl ?_
              refine G_p rfl rfl rfl ?_
              obtain ⟨e228, he228, hr⟩ := bind_s hr
              refine G_h (v := .ro [.int .i64 e228]) rfl rfl rfl (ia_ev (cells := [.int .i64 e228]) rfl rfl (idx_s he228).1 (map_get (x := e228) (idx_s he228).2) rfl rfl) ?_
              refine G_h rfl rfl rfl (fun _ => rfl) ?_
              refine G_p (v := .lst (List.map encFct l6) false) rfl rfl rfl ?_
              refine G_p rfl rfl rfl ?_
              refine G_h (v := .ro [.int .i64 y170.var, .int .i64 y170.tags]) rfl rfl rfl (ia_ev (cells := [.int .i64 y170.var, .int .i64 y170.tags]) rfl rfl (Int.natCast_nonneg _) (map_get (x := y170) (by rw [Int.toNat_natCast]; exact hy170)) (y05 _) rfl) ?_
              refine G_p (v := .ro [.int .i64 y170.var, .int .i64 y170.tags]) rfl rfl rfl ?_
              refine G_h rfl rfl rfl (fun _ => rfl) ?_
              refine G_p rfl rfl rfl ?_
              cases hr; exact G_nil (L_nil ⟨rfl, rfl, rfl⟩)
            · intro hb44; exact pickF hvv229 hb44
            · intro vs hvs
              obtain ⟨u45, u46, u47, u48, u49, u50, u51, u52, u53, u54, rfl⟩ := len10 hvs
              dsimp only [junk]
              refine G_nil (L_nil ⟨rfl, ?_⟩)
              refine L_nil ?_
              refine Sm_norm (e2 := [(5, .lst (List.map (AVal.int .i64) l120) false), (6, .lst (List.map encFct l6) false), (7, .int .i64 ((i171 : Nat) : Int)), (8, .int .i64 a227), (55, .bool v229)]) (H1 := [.cells [.bool a1.never, .lst (List.map encFct a1.l) false], .cells [.bool b2.never, .lst (List.map encFct b2.l) false]]) (H2 := [.cells [.bool a1.never, .lst (List.map encFct a1.l) false], .cells [.bool b2.never, .lst (List.map encFct b2.l) false]]) rfl (by repeat (first | exact rzz | apply rcc rfl | apply rnn rfl)) rfl (?_ : GL _ _ _ _ _)
              rcases cond_s hr with ⟨hc55, hr⟩ | ⟨hc55, hr⟩
              · refine L_T rfl hc55 ?_
                refine L_draw ?_
                refine GD_h (d := some 56) (v := .lst [] true) rfl rfl rfl rfl (fun _ => rfl) ?_
                refine GD_p (v := .lst (List.map (AVal.int .i64) l120) false) rfl rfl rfl ?_
                refine GD_p rfl rfl rfl ?_
                obtain ⟨l230, hl230, hr⟩ := bind_s hr
                refine GD_h (d := some 59) (v := .lst (List.map (AVal.int .i64) l230) false) rfl rfl rfl rfl (sub_ev (fl := false) (fun _ => rfl) rfl rfl rfl (.inl ⟨rfl, rfl⟩) (.inr ⟨_, rfl⟩) hl230) ?_
                obtain ⟨hLq231, hr⟩ := guard_s hr
                rcases emp_or l230 with hEq231 | hEq231
                · skip
                  refine GD_o (d := some 60) (H' := [.cells [.bool a1.never, .lst (List.map encFct a1.l) false], .cells [.bool b2.never, .lst (List.map encFct b2.l) false], .hole, .hole, .hole]) rfl rfl rfl rfl (appE_ev (es := 1) (ys := l230) (fun _ => rfl) rfl rfl rfl hEq231) ?_
                  refine GD_p (v := .lst (List.map encFct l6) false) rfl rfl rfl ?_
                  refine GD_p rfl rfl rfl ?_
                  refine GD_h (d := some 63) (v := .ro [.int .i64 y170.var, .int .i64 y170.tags]) rfl rfl rfl rfl (ia_ev (cells := [.int .i64 y170.var, .int .i64 y170.tags]) rfl rfl (Int.natCast_nonneg _) (map_get (x := y170) (by rw [Int.toNat_natCast]; exact hy170)) (y05 _) rfl) ?_
                  refine GD_p (v := .ro [.int .i64 y170.var, .int .i64 y170.tags]) rfl rfl rfl ?_
                  refine GD_h (d := some 65) rfl rfl rfl rfl (fun _ => rfl) ?_
                  refine GD_h (d := some 66) (v := .lst (List.map (AVal.int .i64) [y170.var]) true) rfl rfl rfl rfl (fun _ => rfl) ?_
                  obtain ⟨l232, hl232, hr⟩ := bind_s hr
                  refine GD_o (d := some 67) (H' := [.cells [.bool a1.never, .lst (List.map encFct a1.l) false], .cells [.bool b2.never, .lst (List.map encFct b2.l) false], .hole, growM 1 (AVal.int .i64) l232, .hole]) rfl rfl rfl rfl (appM_ev (es := 1) (fun _ => rfl) (show (8 : Nat) ≤ 1400 from by decide) rfl rfl rfl rfl hl232 rfl) ?_
                  refine GD_p (v := .lst (List.map (AVal.int .i64) l120) false) rfl rfl rfl ?_
                  refine GD_p rfl rfl rfl ?_
                  obtain ⟨l233, hl233, hr⟩ := bind_s hr
                  refine GD_h (d := some 70) (v := .lst (List.map (AVal.int .i64) l233) false) rfl rfl rfl rfl (sub_ev (fl := false) (fun _ => rfl) rfl rfl rfl (.inr ⟨_, rfl⟩) (.inl ⟨rfl, rfl⟩) hl233) ?_
                  obtain ⟨l234, hl234, hr⟩ := bind_s hr
                  refine GD_o (d := some 71) (H' := [.cells [.bool a1.never, .lst (List.map encFct a1.l) false], .cells [.bool b2.never, .lst (List.map encFct b2.l) false], .hole, growM 1 (AVal.int .i64) l234, .hole]) rfl rfl rfl rfl (appG2_ev (es := 1) (fun _ => rfl) (show (8 : Nat) ≤ 1400 from by decide) rfl rfl rfl rfl hl234 rfl) ?_
                  refine GD_p rfl rfl rfl ?_
                  refine GD_nil2 (by first | (simp [okFs2, y15, disj, noneIn, notIn, y16, sameOn, partsGls, y17, AOpd.ev, Env.get, Env.put, glsV, glsL]; done) | rfl) ?_
                  refine L_nil ?_
                  refine Blk_norm (?_ : GL _ _ _ _ _)
                  refine L_nil ?_
                  exact Sm_norm (e2 := [(5, .lst (List.map (AVal.int .i64) l234) false), (6, .lst (List.map encFct l6) false), (7, .int .i64 ((i171 : Nat) : Int))]) (H1 := [.cells [.bool a1.never, .lst (List.map encFct a1.l) false], .cells [.bool b2.never, .lst (List.map encFct b2.l) false], .hole, growM 1 (AVal.int .i64) l234, .hole]) (H2 := [.cells [.bool a1.never, .lst (List.map encFct a1.l) false], .cells [.bool b2.never, .lst (List.map encFct b2.l) false]]) (frz_c (frz_gl rfl rfl) rfl) (by repeat (first | exact rzz | apply rcc rfl | apply rnn rfl)) rfl ⟨l234, rfl, rfl, hr⟩
                · skip
                  refine GD_o (d := some 60) (H' := [.cells [.bool a1.never, .lst (List.map encFct a1.l) false], .cells [.bool b2.never, .lst (List.map encFct b2.l) false], growM 1 (AVal.int .i64) l230, .hole, .hole]) rfl rfl rfl rfl (appN_ev (es := 1) (ys := l230) (fun _ => rfl) (show (8 : Nat) ≤ 1400 from by decide) rfl rfl rfl hEq231 hLq231 rfl) ?_
                  refine GD_p (v := .lst (List.map encFct l6) false) rfl rfl rfl ?_
                  refine GD_p rfl rfl rfl ?_
                  refine GD_h (d := some 63) (v := .ro [.int .i64 y170.var, .int .i64 y170.tags]) rfl rfl rfl rfl (ia_ev (cells := [.int .i64 y170.var, .int .i64 y170.tags]) rfl rfl (Int.natCast_nonneg _) (map_get (x := y170) (by rw [Int.toNat_natCast]; exact hy170)) (y05 _) rfl) ?_
                  refine GD_p (v := .ro [.int .i64 y170.var, .int .i64 y170.tags]) rfl rfl rfl ?_
                  refine GD_h (d := some 65) rfl rfl rfl rfl (fun _ => rfl) ?_
                  refine GD_h (d := some 66) (v := .lst (List.map (AVal.int .i64) [y170.var]) true) rfl rfl rfl rfl (fun _ => rfl) ?_
                  obtain ⟨l235, hl235, hr⟩ := bind_s hr
                  refine GD_o (d := some 67) (H' := [.cells [.bool a1.never, .lst (List.map encFct a1.l) false], .cells [.bool b2.never, .lst (List.map encFct b2.l) false], growM 1 (AVal.int .i64) l235, .hole, .hole]) rfl rfl rfl rfl (appG2_ev (es := 1) (fun _ => rfl) (show (8 : Nat) ≤ 1400 from by decide) rfl rfl rfl rfl hl235 rfl) ?_
                  refine GD_p (v := .lst (List.map (AVal.int .i64) l120) false) rfl rfl rfl ?_
                  refine GD_p rfl rfl rfl ?_
                  obtain ⟨l236, hl236, hr⟩ := bind_s hr
                  refine GD_h (d := some 70) (v := .lst (List.map (AVal.int .i64) l236) false) rfl rfl rfl rfl (sub_ev (fl := false) (fun _ => rfl) rfl rfl rfl (.inr ⟨_, rfl⟩) (.inl ⟨rfl, rfl⟩) hl236) ?_
                  obtain ⟨l237, hl237, hr⟩ := bind_s hr
                  refine GD_o (d := some 71) (H' := [.cells [.bool a1.never, .lst (List.map encFct a1.l) false], .cells [.bool b2.never, .lst (List.map encFct b2.l) false], growM 1 (AVal.int .i64) l237, .hole, .hole]) rfl rfl rfl rfl (appG2_ev (es := 1) (fun _ => rfl) (show (8 : Nat) ≤ 1400 from by decide) rfl rfl rfl rfl hl237 rfl) ?_
                  refine GD_p rfl rfl rfl ?_
                  refine GD_nil2 (by first | (simp [okFs2, y15, disj, noneIn, notIn, y16, sameOn, partsGls, y17, AOpd.ev, Env.get, Env.put, glsV, glsL]; done) | rfl) ?_
                  refine L_nil ?_
                  refine Blk_norm (?_ : GL _ _ _ _ _)
                  refine L_nil ?_
                  exact Sm_norm (e2 := [(5, .lst (List.map (AVal.int .i64) l237) false), (6, .lst (List.map encFct l6) false), (7, .int .i64 ((i171 : Nat) : Int))]) (H1 := [.cells [.bool a1.never, .lst (List.map encFct a1.l) false], .cells [.bool b2.never, .lst (List.map encFct b2.l) false], growM 1 (AVal.int .i64) l237, .hole, .hole]) (H2 := [.cells [.bool a1.never, .lst (List.map encFct a1.l) false], .cells [.bool b2.never, .lst (List.map encFct b2.l) false]]) (frz_c (frz_gl rfl rfl) rfl) (by repeat (first | exact rzz | apply rcc rfl | apply rnn rfl)) rfl ⟨l237, rfl, rfl, hr⟩
              · refine L_F rfl hc55 ?_
                refine L_skip ?_
                refine L_nil ?_
                refine Blk_norm (?_ : GL _ _ _ _ _)
                refine L_nil ?_
                exact Sm_norm (e2 := [(5, .lst (List.map (AVal.int .i64) l120) false), (6, .lst (List.map encFct l6) false), (7, .int .i64 ((i171 : Nat) : Int))]) (H1 := [.cells [.bool a1.never, .lst (List.map encFct a1.l) false], .cells [.bool b2.never, .lst (List.map encFct b2.l) false]]) (H2 := [.cells [.bool a1.never, .lst (List.map encFct a1.l) false], .cells [.bool b2.never, .lst (List.map encFct b2.l) false]]) (frz_c (frz_lst rfl) rfl) (by repeat (first | exact rzz | apply rcc rfl | apply rnn rfl)) rfl ⟨l120, rfl, rfl, hr⟩
        · rintro l205 hr
          show GL _ _ [(5, .lst (List.map (AVal.int .i64) l205) false), (6, .lst (List.map encFct l6) false), (7, .int .i64 ((i171 : Nat) : Int))] [.cells [.bool a1.never, .lst (List.map encFct a1.l) false], .cells [.bool b2.never, .lst (List.map encFct b2.l) false]] _
          replace hr : y1u (y0r rest172 (i171 + 1)) l205 = some r := hr
          unfold y1u at hr
          refine L_reg ?_
          refine G_p rfl rfl rfl ?_
          refine G_v (.int .i64 ((i171 + 1 : Nat) : Int)) rfl rfl rfl (congrArg _ (wrap_next hLq169 hlti171)) ?_
          refine G_p rfl rfl rfl ?_
          refine G_nil ?_
          refine L_nil ?_
          refine Rd_norm ⟨l205, ?_, rfl, hr⟩
          show restr _ _ = [(5, .lst (List.map (AVal.int .i64) l205) false), (7, .int .i64 (((i171 + 1) : Nat) : Int)), (6, .lst (List.map encFct l6) false)]
          (repeat (first | exact rzz | apply rcc rfl | apply rnn rfl))
    · rintro l106 hr
      show GL _ _ [(5, .lst (List.map (AVal.int .i64) l106) false)] [.cells [.bool a1.never, .lst (List.map encFct a1.l) false], .cells [.bool b2.never, .lst (List.map encFct b2.l) false]] _
      replace hr : y38 l106 = some r := hr
      unfold y38 at hr
      refine L_seq ?_
      refine L_reg ?_
      refine G_p (v := .lst (List.map (AVal.int .i64) l106) false) rfl rfl rfl ?_
      refine G_p (v := .lst (List.map (AVal.int .i64) l106) false) rfl rfl rfl ?_
      refine G_nil ?_
      refine L_ret ?_
      have hr := some_s hr
      subst hr
      exact ⟨_, rfl, _, rfl, rfl⟩
noncomputable def y3e (l32 : List Fct) : Option Fts :=
  some (Fts.mk false l32)
noncomputable def y2d (K16 : (List Fct) → Option Fts) (l60 : List Fct) : Option Fts :=
  K16 l60
noncomputable def y18 (a1 : Fts) (b2 : Fts) : List Int → Nat → (List Fct) → Option Fts
  | [], _, l42 => y3e l42
  | y54 :: rest56, i55, l42 => ((y2q a1 y54).bind fun r61 => ((y2q b2 y54).bind fun r62 => (cond (!decide ((andB .i64 r61 r62) = 255)) ((catL l42 [(Fct.mk y54 (andB .i64 r61 r62))]).bind fun l63 => y2d (y18 a1 b2 rest56 (i55 + 1)) l63) (y2d (y18 a1 b2 rest56 (i55 + 1)) l42))))
noncomputable def g_r06_And (n : Nat) (a1 : Fts) (b2 : Fts) : Option Fts :=
  (cond (a1.never || b2.never) (some (Fts.mk true [])) ((y3m n a1 b2).bind fun r3 => (cond (okLen r3) (y18 a1 b2 r3 0 []) none)))
theorem y21 {n : Nat} {a1 : Fts} {b2 : Fts} {r : Fts} (hr : g_r06_And n a1 b2 = some r) : PRes (tabOf tabL) 12 [.agg (cFts a1), .agg (cFts b2)] (.agg (cFts r)) := by
  refine pres_fin t12 ?_
  unfold g_r06_And at hr
  refine L_seq ?_
  refine L_stmt ?_
  refine L_reg ?_
  refine G_n (B := .cells [.bool a1.never, .lst (List.map encFct a1.l) false]) rfl rfl rfl ?_
  refine G_n (B := .cells [.bool b2.never, .lst (List.map encFct b2.l) false]) rfl rfl rfl ?_
  refine G_n (B := .cells [.bool false, .lst [] true]) rfl rfl rfl ?_
  refine G_nil ?_
  refine L_nil ?_
  refine Sm_norm (e2 := [(2, .ptr 0 0), (3, .ptr 1 0), (4, .ptr 2 0)]) (H1 := [.cells [.bool a1.never, .lst (List.map encFct a1.l) false], .cells [.bool b2.never, .lst (List.map encFct b2.l) false], .cells [.bool false, .lst [] true]]) (H2 := [.cells [.bool a1.never, .lst (List.map encFct a1.l) false], .cells [.bool b2.never, .lst (List.map encFct b2.l) false], .cells [.bool false, .lst [] true]]) rfl (by repeat (first | exact rzz | apply rcc rfl | apply rnn rfl)) rfl (?_ : GL _ _ _ _ _)
  refine L_seq ?_
  refine L_stmt ?_
  refine L_seq ?_
  refine L_stmt ?_
  refine L_reg ?_
  refine G_p rfl rfl rfl ?_
  refine G_h rfl rfl rfl (fun _ => rfl) ?_
  refine G_p rfl rfl rfl ?_
  refine G_or (f := b2.never) [_, _] rfl rfl ?_ ?_
  · intro hb11
    refine G_p rfl rfl rfl ?_
    refine G_h rfl rfl rfl (fun _ => rfl) ?_
    exact G_nil (L_nil ⟨rfl, rfl, rfl⟩)
  · intro vs hvs
    obtain ⟨u12, u13, rfl⟩ := len2 hvs
    dsimp only [junk]
    refine G_nil ?_
    refine L_nil ?_
    refine Sm_norm (e2 := [(2, .ptr 0 0), (3, .ptr 1 0), (4, .ptr 2 0), (14, .bool (a1.never || b2.never))]) (H1 := [.cells [.bool a1.never, .lst (List.map encFct a1.l) false], .cells [.bool b2.never, .lst (List.map encFct b2.l) false], .cells [.bool false, .lst [] true]]) (H2 := [.cells [.bool a1.never, .lst (List.map encFct a1.l) false], .cells [.bool b2.never, .lst (List.map encFct b2.l) false], .cells [.bool false, .lst [] true]]) rfl (by repeat (first | exact rzz | apply rcc rfl | apply rnn rfl)) rfl (?_ : GL _ _ _ _ _)
    rcases cond_s hr with ⟨hc14, hr⟩ | ⟨hc14, hr⟩
    · refine L_T rfl hc14 ?_
      refine L_seq ?_
      refine L_reg ?_
      refine G_p (v := .agg [.bool true, .lst [] true]) rfl rfl rfl ?_
      refine G_hn (H' := [.cells [.bool a1.never, .lst (List.map encFct a1.l) false], .cells [.bool b2.never, .lst (List.map encFct b2.l) false], .cells [.bool true, .lst [] true]]) rfl rfl rfl (fun _ => rfl) ?_
      refine G_nil ?_
      refine L_ret ?_
      refine Sm_ret ?_
      have hr := some_s hr
      subst hr
      exact ⟨_, rfl, _, rfl, rfl⟩
    · refine L_F rfl hc14 ?_
      refine L_skip ?_
      refine L_nil ?_
      refine Sm_norm (e2 := [(2, .ptr 0 0), (3, .ptr 1 0), (4, .ptr 2 0)]) (H1 := [.cells [.bool a1.never, .lst (List.map encFct a1.l) false], .cells [.bool b2.never, .lst (List.map encFct b2.l) false], .cells [.bool false, .lst [] true]]) (H2 := [.cells [.bool a1.never, .lst (List.map encFct a1.l) false], .cells [.bool b2.never, .lst (List.map encFct b2.l) false], .cells [.bool false, .lst [] true]]) rfl (by repeat (first | exact rzz | apply rcc rfl | apply rnn rfl)) rfl (?_ : GL _ _ _ _ _)
      refine L_seq ?_
      refine L_stmt ?_
      refine L_reg ?_
      refine G_n (B := .cells [.bool false, .lst [] true]) rfl rfl rfl ?_
      refine G_nil ?_
      refine L_nil ?_
      refine Sm_norm (e2 := [(2, .ptr 0 0), (3, .ptr 1 0), (4, .ptr 2 0), (5, .ptr 3 0)]) (H1 := [.cells [.bool a1.never, .lst (List.map encFct a1.l) false], .cells [.bool b2.never, .lst (List.map encFct b2.l) false], .cells [.bool false, .lst [] true], .cells [.bool false, .lst [] true]]) (H2 := [.cells [.bool a1.never, .lst (List.map encFct a1.l) false], .cells [.bool b2.never, .lst (List.map encFct b2.l) false], .cells [.bool false, .lst [] true], .cells [.bool false, .lst [] true]]) rfl (by repeat (first | exact rzz | apply rcc rfl | apply rnn rfl)) rfl (?_ : GL _ _ _ _ _)
      refine L_seq ?_
      refine L_stmt ?_
      refine L_reg ?_
      refine G_h (v := .agg (cFts a1)) rfl rfl rfl (fun _ => rfl) ?_
      refine G_h (v := .agg (cFts b2)) rfl rfl rfl (fun _ => rfl) ?_
      obtain ⟨r3, hr3, hr⟩ := bind_s hr
      refine G_c 40 rfl rfl (CA_of (as := [.agg (cFts a1), .agg (cFts b2)]) rfl (y5l hr3)) ?_
      refine G_p (v := .lst (List.map (AVal.int .i64) r3) false) rfl rfl rfl ?_
      refine G_nil ?_
      refine L_nil ?_
      refine Sm_norm (e2 := [(2, .ptr 0 0), (3, .ptr 1 0), (4, .ptr 2 0), (5, .ptr 3 0), (6, .lst (List.map (AVal.int .i64) r3) false)]) (H1 := [.cells [.bool a1.never, .lst (List.map encFct a1.l) false], .cells [.bool b2.never, .lst (List.map encFct b2.l) false], .cells [.bool false, .lst [] true], .cells [.bool false, .lst [] true]]) (H2 := [.cells [.bool a1.never, .lst (List.map encFct a1.l) false], .cells [.bool b2.never, .lst (List.map encFct b2.l) false], .cells [.bool false, .lst [] true], .cells [.bool false, .lst [] true]]) (frz_c (frz_lst rfl) rfl) (by repeat (first | exact rzz | apply rcc rfl | apply rnn rfl)) rfl (?_ : GL _ _ _ _ _)
      refine L_seq ?_
      refine L_stmtJ (S := List Fct) (fun s => [(4, .ptr 2 0), (5, .ptr 3 0)]) (fun s => [.cells [.bool a1.never, .lst (List.map encFct a1.l) false], .cells [.bool b2.never, .lst (List.map encFct b2.l) false], .cells [.bool false, .lst [] true], .cells [.bool false, .lst (List.map encFct s) false]]) (fun s => y3e s = some r) ?_ ?_
      · skip
        refine L_seq ?_
        refine L_stmt ?_
        refine L_reg ?_
        refine G_p rfl rfl rfl ?_
        refine G_nil ?_
        refine L_nil ?_
        refine Sm_norm (e2 := [(2, .ptr 0 0), (3, .ptr 1 0), (4, .ptr 2 0), (5, .ptr 3 0), (6, .lst (List.map (AVal.int .i64) r3) false), (7, .int .i64 0)]) (H1 := [.cells [.bool a1.never, .lst (List.map encFct a1.l) false], .cells [.bool b2.never, .lst (List.map encFct b2.l) false], .cells [.bool false, .lst [] true], .cells [.bool false, .lst [] true]]) (H2 := [.cells [.bool a1.never, .lst (List.map encFct a1.l) false], .cells [.bool b2.never, .lst (List.map encFct b2.l) false], .cells [.bool false, .lst [] true], .cells [.bool false, .lst [] true]]) rfl (by repeat (first | exact rzz | apply rcc rfl | apply rnn rfl)) rfl (?_ : GL _ _ _ _ _)
        refine L_block ?_
        refine L_seq ?_
        refine L_own (H' := [.cells [.bool a1.never, .lst (List.map encFct a1.l) false], .cells [.bool b2.never, .lst (List.map encFct b2.l) false], .cells [.bool false, .lst [] true], .cells [.bool false, .gl 4 (List.length [])], growM 2 encFct []]) rfl ?_
        obtain ⟨hLq53, hr⟩ := guard_s hr
        replace hLq53 := okLen_s hLq53
        refine L_range (X := Int) (S := List Fct) r3 (fun i55 s => [(7, .int .i64 ((i55 : Nat) : Int)), (2, .ptr 0 0), (3, .ptr 1 0), (4, .ptr 2 0), (5, .ptr 3 0), (6, .lst (List.map (AVal.int .i64) r3) false)]) (fun i55 s => [.cells [.bool a1.never, .lst (List.map encFct a1.l) false], .cells [.bool b2.never, .lst (List.map encFct b2.l) false], .cells [.bool false, .lst [] true], .cells [.bool false, .gl 4 (List.length s)], growM 2 encFct s]) (fun rest i55 s => y18 a1 b2 rest i55 s = some r) ([]) ?_ rfl hr ?_ ?_
        · show restr _ _ = [(7, .int .i64 ((0 : Nat) : Int)), (2, .ptr 0 0), (3, .ptr 1 0), (4, .ptr 2 0), (5, .ptr 3 0), (6, .lst (List.map (AVal.int .i64) r3) false)]
          (repeat (first | exact rzz | apply rcc rfl | apply rnn rfl))
        · rintro l42 hr
          show GL _ _ [(7, .int .i64 (((List.length r3) : Nat) : Int)), (2, .ptr 0 0), (3, .ptr 1 0), (4, .ptr 2 0), (5, .ptr 3 0), (6, .lst (List.map (AVal.int .i64) r3) false)] [.cells [.bool a1.never, .lst (List.map encFct a1.l) false], .cells [.bool b2.never, .lst (List.map encFct b2.l) false], .cells [.bool false, .lst [] true], .cells [.bool false, .gl 4 (List.length l42)], growM 2 encFct l42] _
          replace hr : y18 a1 b2 [] (List.length r3) l42 = some r := hr
          rw [y18] at hr
          refine L_seq ?_
          refine L_stmt ?_
          refine L_seq ?_
          refine L_stmt ?_
          refine L_reg ?_
          refine G_p rfl rfl rfl ?_
          refine G_p (v := .lst (List.map (AVal.int .i64) r3) false) rfl rfl rfl ?_
          refine G_h rfl rfl rfl (lenL_ev rfl (List.length_map _)) ?_
          refine G_v (.bool false) rfl rfl rfl (congrArg AVal.bool (decide_eq_false (by omega))) ?_
          refine G_nil ?_
          refine L_nil ?_
          refine Sm_norm (e2 := [(2, .ptr 0 0), (3, .ptr 1 0), (4, .ptr 2 0), (5, .ptr 3 0), (6, .lst (List.map (AVal.int .i64) r3) false), (7, .int .i64 ((List.length r3 : Nat) : Int)), (22, .bool false)]) (H1 := [.cells [.bool a1.never, .lst (List.map encFct a1.l) false], .cells [.bool b2.never, .lst (List.map encFct b2.l) false], .cells [.bool false, .lst [] true], .cells [.bool false, .gl 4 (List.length l42)], growM 2 encFct l42]) (H2 := [.cells [.bool a1.never, .lst (List.map encFct a1.l) false], .cells [.bool b2.never, .lst (List.map encFct b2.l) false], .cells [.bool false, .lst [] true], .cells [.bool false, .gl 4 (List.length l42)], growM 2 encFct l42]) rfl (by repeat (first | exact rzz | apply rcc rfl | apply rnn rfl)) rfl (?_ : GL _ _ _ _ _)
          refine L_F rfl rfl ?_
          refine L_exit ?_
          refine Sm_exit ?_
          refine Rd_exit ?_
          refine Blk_exit (?_ : GL _ _ _ _ _)
          refine L_nil ?_
          exact Sm_norm (e2 := [(4, .ptr 2 0), (5, .ptr 3 0)]) (H1 := [.cells [.bool a1.never, .lst (List.map encFct a1.l) false], .cells [.bool b2.never, .lst (List.map encFct b2.l) false], .cells [.bool false, .lst [] true], .cells [.bool false, .lst (List.map encFct l42) false], growM 2 encFct l42]) (H2 := [.cells [.bool a1.never, .lst (List.map encFct a1.l) false], .cells [.bool b2.never, .lst (List.map encFct b2.l) false], .cells [.bool false, .lst [] true], .cells [.bool false, .lst (List.map encFct l42) false]]) (frz_c (frz_glC (H2 := [.cells [.bool a1.never, .lst (List.map encFct a1.l) false], .cells [.bool b2.never, .lst (List.map encFct b2.l) false], .cells [.bool false, .lst [] true], .cells [.bool false, .lst (List.map encFct l42) false], growM 2 encFct l42]) rfl rfl rfl rfl rfl) rfl) (by repeat (first | exact rzz | apply rcc rfl | apply rnn rfl)) rfl ⟨l42, rfl, rfl, hr⟩
        · rintro y54 rest56 i55 l42 hy54 hlti55 hr
          show GL _ _ [(7, .int .i64 ((i55 : Nat) : Int)), (2, .ptr 0 0), (3, .ptr 1 0), (4, .ptr 2 0), (5, .ptr 3 0), (6, .lst (List.map (AVal.int .i64) r3) false)] [.cells [.bool a1.never, .lst (List.map encFct a1.l) false], .cells [.bool b2.never, .lst (List.map encFct b2.l) false], .cells [.bool false, .lst [] true], .cells [.bool false, .gl 4 (List.length l42)], growM 2 encFct l42] _
          replace hr : y18 a1 b2 (y54 :: rest56) i55 l42 = some r := hr
          rw [y18] at hr
          refine L_seq ?_
          refine L_stmt ?_
          refine L_seq ?_
          refine L_stmt ?_
          refine L_reg ?_
          refine G_p rfl rfl rfl ?_
          refine G_p (v := .lst (List.map (AVal.int .i64) r3) false) rfl rfl rfl ?_
          refine G_h rfl rfl rfl (lenL_ev rfl (List.length_map _)) ?_
          refine G_v (.bool true) rfl rfl rfl (congrArg AVal.bool (decide_eq_true (by omega))) ?_
          refine G_nil ?_
          refine L_nil ?_
          refine Sm_norm (e2 := [(2, .ptr 0 0), (3, .ptr 1 0), (4, .ptr 2 0), (5, .ptr 3 0), (6, .lst (List.map (AVal.int .i64) r3) false), (7, .int .i64 ((i55 : Nat) : Int)), (22, .bool true)]) (H1 := [.cells [.bool a1.never, .lst (List.map encFct a1.l) false], .cells [.bool b2.never, .lst (List.map encFct b2.l) false], .cells [.bool false, .lst [] true], .cells [.bool false, .gl 4 (List.length l42)], growM 2 encFct l42]) (H2 := [.cells [.bool a1.never, .lst (List.map encFct a1.l) false], .cells [.bool b2.never, .lst (List.map encFct b2.l) false], .cells [.bool false, .lst [] true], .cells [.bool false, .gl 4 (List.length l42)], growM 2 encFct l42]) rfl (by repeat (first | exact rzz | apply rcc rfl | apply rnn rfl)) rfl (?_ : GL _ _ _ _ _)
          refine L_T rfl rfl ?_
          refine L_skip ?_
          refine L_nil ?_
          refine Sm_norm (e2 := [(2, .ptr 0 0), (3, .ptr 1 0), (4, .ptr 2 0), (5, .ptr 3 0), (6, .lst (List.map (AVal.int .i64) r3) false), (7, .int .i64 ((i55 : Nat) : Int))]) (H1 := [.cells [.bool a1.never, .lst (List.map encFct a1.l) false], .cells [.bool b2.never, .lst (List.map encFct b2.l) false], .cells [.bool false, .lst [] true], .cells [.bool false, .gl 4 (List.length l42)], growM 2 encFct l42]) (H2 := [.cells [.bool a1.never, .lst (List.map encFct a1.l) false], .cells [.bool b2.never, .lst (List.map encFct b2.l) false], .cells [.bool false, .lst [] true], .cells [.bool false, .gl 4 (List.length l42)], growM 2 encFct l42]) rfl (by repeat (first | exact rzz | apply rcc rfl | apply rnn rfl)) rfl (?_ : GL _ _ _ _ _)
          refine L_seq ?_
          refine L_stmtJ (S := List Fct) (fun s => [(2, .ptr 0 0), (3, .ptr 1 0), (4, .ptr 2 0), (5, .ptr 3 0), (6, .lst (List.map (AVal.int .i64) r3) false), (7, .int .i64 ((i55 : Nat) : Int))]) (fun s => [.cells [.bool a1.never, .lst (List.map encFct a1.l) false], .cells [.bool b2.never, .lst (List.map encFct b2.l) false], .cells [.bool false, .lst [] true], .cells [.bool false, .gl 4 (List.length s)], growM 2 encFct s]) (fun s => y2d (y18 a1 b2 rest56 (i55 + 1)) s = some r) ?_ ?_
          · skip
            refine L_block ?_
            refine L_seq ?_
            refine L_stmt ?_
            refine L_drawT [] rfl ?_
            refine GS_h (d := some 25) (v := .agg (cFts a1)) rfl rfl rfl rfl (fun _ => rfl) ?_
            refine GS_p (v := .lst (List.map (AVal.int .i64) r3) false) rfl rfl rfl ?_
            refine GS_p rfl rfl rfl ?_
            refine GS_h (d := some 28) (v := .ro [.int .i64 y54]) rfl rfl rfl rfl (ia_ev (cells := [.int .i64 y54]) rfl rfl (Int.natCast_nonneg _) (map_get (x := y54) (by rw [Int.toNat_natCast]; exact hy54)) rfl rfl) ?_
            refine GS_h (d := some 29) rfl rfl rfl rfl (fun _ => rfl) ?_
            obtain ⟨r61, hr61, hr⟩ := bind_s hr
            refine GS_c 41 rfl rfl rfl (CA_of (as := [.agg (cFts a1), .int .i64 y54]) rfl (y3x hr61)) ?_
            refine GS_h (d := some 31) (v := .agg (cFts b2)) rfl rfl rfl rfl (fun _ => rfl) ?_
            refine GS_p (v := .lst (List.map (AVal.int .i64) r3) false) rfl rfl rfl ?_
            refine GS_p rfl rfl rfl ?_
            refine GS_h (d := some 34) (v := .ro [.int .i64 y54]) rfl rfl rfl rfl (ia_ev (cells := [.int .i64 y54]) rfl rfl (Int.natCast_nonneg _) (map_get (x := y54) (by rw [Int.toNat_natCast]; exact hy54)) rfl rfl) ?_
            refine GS_h (d := some 35) rfl rfl rfl rfl (fun _ => rfl) ?_
            obtain ⟨r62, hr62, hr⟩ := bind_s hr
            refine GS_c 41 rfl rfl rfl (CA_of (as := [.agg (cFts b2), .int .i64 y54]) rfl (y3x hr62)) ?_
            refine GS_p rfl rfl rfl ?_
            refine GS_p rfl rfl rfl ?_
            refine GS_nil ?_
            refine L_nil ?_
            refine Sm_norm (e2 := [(2, .ptr 0 0), (3, .ptr 1 0), (4, .ptr 2 0), (5, .ptr 3 0), (6, .lst (List.map (AVal.int .i64) r3) false), (7, .int .i64 ((i55 : Nat) : Int)), (8, .int .i64 (andB .i64 r61 r62))]) (H1 := [.cells [.bool a1.never, .lst (List.map encFct a1.l) false], .cells [.bool b2.never, .lst (List.map encFct b2.l) false], .cells [.bool false, .lst [] true], .cells [.bool false, .gl 4 (List.length l42)], growM 2 encFct l42]) (H2 := [.cells [.bool a1.never, .lst (List.map encFct a1.l) false], .cells [.bool b2.never, .lst (List.map encFct b2.l) false], .cells [.bool false, .lst [] true], .cells [.bool false, .gl 4 (List.length l42)], growM 2 encFct l42]) rfl (by repeat (first | exact rzz | apply rcc rfl | apply rnn rfl)) rfl (?_ : GL _ _ _ _ _)
            refine L_seq ?_
            refine L_stmt ?_
            refine L_reg ?_
            refine G_p rfl rfl rfl ?_
            refine G_p rfl rfl rfl ?_
            refine G_nil ?_
            refine L_nil ?_
            refine Sm_norm (e2 := [(2, .ptr 0 0), (3, .ptr 1 0), (4, .ptr 2 0), (5, .ptr 3 0), (6, .lst (List.map (AVal.int .i64) r3) false), (7, .int .i64 ((i55 : Nat) : Int)), (8, .int .i64 (andB .i64 r61 r62)), (39, .bool (!decide ((andB .i64 r61 r62) = 255)))]) (H1 := [.cells [.bool a1.never, .lst (List.map encFct a1.l) false], .cells [.bool b2.never, .lst (List.map encFct b2.l) false], .cells [.bool false, .lst [] true], .cells [.bool false, .gl 4 (List.length l42)], growM 2 encFct l42]) (H2 := [.cells [.bool a1.never, .lst (List.map encFct a1.l) false], .cells [.bool b2.never, .lst (List.map encFct b2.l) false], .cells [.bool false, .lst [] true], .cells [.bool false, .gl 4 (List.length l42)], growM 2 encFct l42]) rfl (by repeat (first | exact rzz | apply rcc rfl | apply rnn rfl)) rfl (?_ : GL _ _ _ _ _)
            rcases cond_s hr with ⟨hc39, hr⟩ | ⟨hc39, hr⟩
            · refine L_T rfl hc39 ?_
              refine L_draw ?_
              refine GD_p rfl rfl rfl ?_
              refine GD_h (d := some 41) rfl rfl rfl rfl (fun _ => rfl) ?_
              refine GD_p (v := .lst (List.map (AVal.int .i64) r3) false) rfl rfl rfl ?_
              refine GD_p rfl rfl rfl ?_
              refine GD_h (d := some 44) (v := .ro [.int .i64 y54]) rfl rfl rfl rfl (ia_ev (cells := [.int .i64 y54]) rfl rfl (Int.natCast_nonneg _) (map_get (x := y54) (by rw [Int.toNat_natCast]; exact hy54)) rfl rfl) ?_
              refine GD_h (d := some 45) rfl rfl rfl rfl (fun _ => rfl) ?_
              refine GD_p rfl rfl rfl ?_
              refine GD_p (v := .agg [.int .i64 y54, .int .i64 (andB .i64 r61 r62)]) rfl rfl rfl ?_
              refine GD_h (d := some 48) (v := .lst (List.map encFct [(Fct.mk y54 (andB .i64 r61 r62))]) true) rfl rfl rfl rfl (fun _ => Eq.trans (b := some (Ex.ok (AVal.lst [.agg [.int .i64 y54, .int .i64 (andB .i64 r61 r62)]] true), _)) rfl (congrArg (fun z => some (Ex.ok (AVal.lst z true), _)) (by first | rfl | (simp only [List.map_cons, List.map_nil, encFct_eq] <;> rfl)))) ?_
              obtain ⟨l63, hl63, hr⟩ := bind_s hr
              refine GD_o (d := some 49) (H' := [.cells [.bool a1.never, .lst (List.map encFct a1.l) false], .cells [.bool b2.never, .lst (List.map encFct b2.l) false], .cells [.bool false, .lst [] true], .cells [.bool false, .gl 4 (List.length l42)], growM 2 encFct l63, .hole]) rfl rfl rfl rfl (appG2_ev (es := 2) encFct_w1 (show (16 : Nat) ≤ 1400 from by decide) rfl rfl rfl rfl hl63 rfl) ?_
              refine GD_p rfl rfl rfl ?_
              refine GD_h (d := none) (H' := [.cells [.bool a1.never, .lst (List.map encFct a1.l) false], .cells [.bool b2.never, .lst (List.map encFct b2.l) false], .cells [.bool false, .lst [] true], .cells [.bool false, .gl 4 (List.length l63)], growM 2 encFct l63, .hole]) rfl rfl rfl rfl (fun _ => rfl) ?_
              refine GD_nil2 (by first | (simp [okFs2, y15, disj, noneIn, notIn, y16, sameOn, partsGls, y17, AOpd.ev, Env.get, Env.put, glsV, glsL]; done) | rfl) ?_
              refine L_nil ?_
              refine Blk_norm (?_ : GL _ _ _ _ _)
              refine L_nil ?_
              exact Sm_norm (e2 := [(2, .ptr 0 0), (3, .ptr 1 0), (4, .ptr 2 0), (5, .ptr 3 0), (6, .lst (List.map (AVal.int .i64) r3) false), (7, .int .i64 ((i55 : Nat) : Int))]) (H1 := [.cells [.bool a1.never, .lst (List.map encFct a1.l) false], .cells [.bool b2.never, .lst (List.map encFct b2.l) false], .cells [.bool false, .lst [] true], .cells [.bool false, .gl 4 (List.length l63)], growM 2 encFct l63, .hole]) (H2 := [.cells [.bool a1.never, .lst (List.map encFct a1.l) false], .cells [.bool b2.never, .lst (List.map encFct b2.l) false], .cells [.bool false, .lst [] true], .cells [.bool false, .gl 4 (List.length l63)], growM 2 encFct l63]) rfl (by repeat (first | exact rzz | apply rcc rfl | apply rnn rfl)) rfl ⟨l63, rfl, rfl, hr⟩
            · refine L_F rfl hc39 ?_
              refine L_skip ?_
              refine L_nil ?_
              refine Blk_norm (?_ : GL _ _ _ _ _)
              refine L_nil ?_
              exact Sm_norm (e2 := [(2, .ptr 0 0), (3, .ptr 1 0), (4, .ptr 2 0), (5, .ptr 3 0), (6, .lst (List.map (AVal.int .i64) r3) false), (7, .int .i64 ((i55 : Nat) : Int))]) (H1 := [.cells [.bool a1.never, .lst (List.map encFct a1.l) false], .cells [.bool b2.never, .lst (List.map encFct b2.l) false], .cells [.bool false, .lst [] true], .cells [.bool false, .gl 4 (List.length l42)], growM 2 encFct l42]) (H2 := [.cells [.bool a1.never, .lst (List.map encFct a1.l) false], .cells [.bool b2.never, .lst (List.map encFct b2.l) false], .cells [.bool false, .lst [] true], .cells [.bool false, .gl 4 (List.length l42)], growM 2 encFct l42]) rfl (by repeat (first | exact rzz | apply rcc rfl | apply rnn rfl)) rfl ⟨l42, rfl, rfl, hr⟩
          · rintro l60 hr
            show GL _ _ [(2, .ptr 0 0), (3, .ptr 1 0), (4, .ptr 2 0), (5, .ptr 3 0), (6, .lst (List.map (AVal.int .i64) r3) false), (7, .int .i64 ((i55 : Nat) : Int))] [.cells [.bool a1.never, .lst (List.map encFct a1.l) false], .cells [.bool b2.never, .lst (List.map encFct b2.l) false], .cells [.bool false, .lst [] true], .cells [.bool false, .gl 4 (List.length l60)], growM 2 encFct l60] _
            replace hr : y2d (y18 a1 b2 rest56 (i55 + 1)) l60 = some r := hr
            unfold y2d at hr
            refine L_reg ?_
            refine G_p rfl rfl rfl ?_
            refine G_v (.int .i64 ((i55 + 1 : Nat) : Int)) rfl rfl rfl (congrArg _ (wrap_next hLq53 hlti55)) ?_
            refine G_p rfl rfl rfl ?_
            refine G_nil ?_
            refine L_nil ?_
            refine Rd_norm ⟨l60, ?_, rfl, hr⟩
            show restr _ _ = [(7, .int .i64 (((i55 + 1) : Nat) : Int)), (2, .ptr 0 0), (3, .ptr 1 0), (4, .ptr 2 0), (5, .ptr 3 0), (6, .lst (List.map (AVal.int .i64) r3) false)]
            (repeat (first | exact rzz | apply rcc rfl | apply rnn rfl))
      · rintro l32 hr
        show GL _ _ [(4, .ptr 2 0), (5, .ptr 3 0)] [.cells [.bool a1.never, .lst (List.map encFct a1.l) false], .cells [.bool b2.never, .lst (List.map encFct b2.l) false], .cells [.bool false, .lst [] true], .cells [.bool false, .lst (List.map encFct l32) false]] _
        replace hr : y3e l32 = some r := hr
        unfold y3e at hr
        refine L_seq ?_
        refine L_reg ?_
        refine G_h (v := .agg [.bool false, .lst (List.map encFct l32) false]) rfl rfl rfl (fun _ => rfl) ?_
        refine G_hn (H' := [.cells [.bool a1.never, .lst (List.map encFct a1.l) false], .cells [.bool b2.never, .lst (List.map encFct b2.l) false], .cells [.bool false, .lst (List.map encFct l32) false], .cells [.bool false, .lst (List.map encFct l32) false]]) rfl rfl rfl (fun _ => rfl) ?_
        refine G_nil ?_
        refine L_ret ?_
        have hr := some_s hr
        subst hr
        exact ⟨_, rfl, _, rfl, rfl⟩
noncomputable def y3u (l49 : List Fct) : Option Fts :=
  some (Fts.mk false l49)
noncomputable def y2a (K18 : (List Fct) → Option Fts) (l90 : List Fct) : Option Fts :=
  K18 l90
noncomputable def y1h (a1 : Fts) (b2 : Fts) : List Int → Nat → (List Fct) → Option Fts
  | [], _, l64 => y3u l64
  | y81 :: rest83, i82, l64 => ((y2q a1 y81).bind fun r91 => ((y2q b2 y81).bind fun r92 => ((g_r06_has a1 y81).bind fun r93 => ((cond r93 (((g_r06_has b2 y81).bind fun r94 => some r94)) (some false)).bind fun v95 => (cond (v95 && (!decide ((orB .i64 r91 r92) = 255))) ((catL l64 [(Fct.mk y81 (orB .i64 r91 r92))]).bind fun l96 => y2a (y1h a1 b2 rest83 (i82 + 1)) l96) (y2a (y1h a1 b2 rest83 (i82 + 1)) l64))))))
noncomputable def g_r06_Or (n : Nat) (a1 : Fts) (b2 : Fts) : Option Fts :=
  (cond a1.never ((g_r06_And n b2 (Fts.mk false [])).bind fun r4 => some r4) (cond b2.never ((g_r06_And n a1 (Fts.mk false [])).bind fun r6 => some r6) ((y3m n a1 b2).bind fun r7 => (cond (okLen r7) (y1h a1 b2 r7 0 []) none))))
theorem y6n {n : Nat} {a1 : Fts} {b2 : Fts} {r : Fts} (hr : g_r06_Or n a1 b2 = some r) : PRes (tabOf tabL) 14 [.agg (cFts a1), .agg (cFts b2)] (.agg (cFts r)) := by
  refine pres_fin t14 ?_
  unfold g_r06_Or at hr
  refine L_seq ?_
  refine L_stmt ?_
  refine L_reg ?_
  refine G_n (B := .cells [.bool a1.never, .lst (List.map encFct a1.l) false]) rfl rfl rfl ?_
  refine G_n (B := .cells [.bool b2.never, .lst (List.map encFct b2.l) false]) rfl rfl rfl ?_
  refine G_n (B := .cells [.bool false, .lst [] true]) rfl rfl rfl ?_
  refine G_nil ?_
  refine L_nil ?_
  refine Sm_norm (e2 := [(2, .ptr 0 0), (3, .ptr 1 0), (4, .ptr 2 0)]) (H1 := [.cells [.bool a1.never, .lst (List.map encFct a1.l) false], .cells [.bool b2.never, .lst (List.map encFct b2.l) false], .cells [.bool false, .lst [] true]]) (H2 := [.cells [.bool a1.never, .lst (List.map encFct a1.l) false], .cells [.bool b2.never, .lst (List.map encFct b2.l) false], .cells [.bool false, .lst [] true]]) rfl (by repeat (first | exact rzz | apply rcc rfl | apply rnn rfl)) rfl (?_ : GL _ _ _ _ _)
  refine L_seq ?_
  refine L_stmt ?_
  refine L_seq ?_
  refine L_stmt ?_
  refine L_reg ?_
  refine G_p rfl rfl rfl ?_
  refine G_h rfl rfl rfl (fun _ => rfl) ?_
  refine G_nil ?_
  refine L_nil ?_
  refine Sm_norm (e2 := [(2, .ptr 0 0), (3, .ptr 1 0), (4, .ptr 2 0), (10, .bool a1.never)]) (H1 := [.cells [.bool a1.never, .lst (List.map encFct a1.l) false], .cells [.bool b2.never, .lst (List.map encFct b2.l) false], .cells [.bool false, .lst [] true]]) (H2 := [.cells [.bool a1.never, .lst (List.map encFct a1.l) false], .cells [.bool b2.never, .lst (List.map encFct b2.l) false], .cells [.bool false, .lst [] true]]) rfl (by repeat (first | exact rzz | apply rcc rfl | apply rnn rfl)) rfl (?_ : GL _ _ _ _ _)
  rcases cond_s hr with ⟨hc10, hr⟩ | ⟨hc10, hr⟩
  · refine L_T rfl hc10 ?_
    refine L_seq ?_
    refine L_reg ?_
    refine G_h (v := .agg (cFts b2)) rfl rfl rfl (fun _ => rfl) ?_
    refine G_p (v := .agg [.bool false, .lst [] true]) rfl rfl rfl ?_
    obtain ⟨r4, hr4, hr⟩ := bind_s hr
    refine G_c 12 rfl rfl (CA_of (as := [.agg (cFts b2), .agg (cFts (Fts.mk false []))]) rfl (y21 hr4)) ?_
    refine G_hn (H' := [.cells [.bool a1.never, .lst (List.map encFct a1.l) false], .cells [.bool b2.never, .lst (List.map encFct b2.l) false], .cells [.bool r4.never, .lst (List.map encFct r4.l) false]]) rfl rfl rfl (fun _ => rfl) ?_
    refine G_nil ?_
    refine L_ret ?_
    refine Sm_ret ?_
    have hr := some_s hr
    subst hr
    exact ⟨_, rfl, _, rfl, rfl⟩
  · refine L_F rfl hc10 ?_
    refine L_skip ?_
    refine L_nil ?_
    refine Sm_norm (e2 := [(2, .ptr 0 0), (3, .ptr 1 0), (4, .ptr 2 0)]) (H1 := [.cells [.bool a1.never, .lst (List.map encFct a1.l) false], .cells [.bool b2.never, .lst (List.map encFct b2.l) false], .cells [.bool false, .lst [] true]]) (H2 := [.cells [.bool a1.never, .lst (List.map encFct a1.l) false], .cells [.bool b2.never, .lst (List.map encFct b2.l) false], .cells [.bool false, .lst [] true]]) rfl (by repeat (first | exact rzz | apply rcc rfl | apply rnn rfl)) rfl (?_ : GL _ _ _ _ _)
    refine L_seq ?_
    refine L_stmt ?_
    refine L_seq ?_
    refine L_stmt ?_
    refine L_reg ?_
    refine G_p rfl rfl rfl ?_
    refine G_h rfl rfl rfl (fun _ => rfl) ?_
    refine G_nil ?_
    refine L_nil ?_
    refine Sm_norm (e2 := [(2, .ptr 0 0), (3, .ptr 1 0), (4, .ptr 2 0), (15, .bool b2.never)]) (H1 := [.cells [.bool a1.never, .lst (List.map encFct a1.l) false], .cells [.bool b2.never, .lst (List.map encFct b2.l) false], .cells [.bool false, .lst [] true]]) (H2 := [.cells [.bool a1.never, .lst (List.map encFct a1.l) false], .cells [.bool b2.never, .lst (List.map encFct b2.l) false], .cells [.bool false, .lst [] true]]) rfl (by repeat (first | exact rzz | apply rcc rfl | apply rnn rfl)) rfl (?_ : GL _ _ _ _ _)
    rcases cond_s hr with ⟨hc15, hr⟩ | ⟨hc15, hr⟩
    · refine L_T rfl hc15 ?_
      refine L_seq ?_
      refine L_reg ?_
      refine G_h (v := .agg (cFts a1)) rfl rfl rfl (fun _ => rfl) ?_
      refine G_p (v := .agg [.bool false, .lst [] true]) rfl rfl rfl ?_
      obtain ⟨r6, hr6, hr⟩ := bind_s hr
      refine G_c 12 rfl rfl (CA_of (as := [.agg (cFts a1), .agg (cFts (Fts.mk false []))]) rfl (y21 hr6)) ?_
      refine G_hn (H' := [.cells [.bool a1.never, .lst (List.map encFct a1.l) false], .cells [.bool b2.never, .lst (List.map encFct b2.l) false], .cells [.bool r6.never, .lst (List.map encFct r6.l) false]]) rfl rfl rfl (fun _ => rfl) ?_
      refine G_nil ?_
      refine L_ret ?_
      refine Sm_ret ?_
      have hr := some_s hr
      subst hr
      exact ⟨_, rfl, _, rfl, rfl⟩
    · refine L_F rfl hc15 ?_
      refine L_skip ?_
      refine L_nil ?_
      refine Sm_norm (e2 := [(2, .ptr 0 0), (3, .ptr 1 0), (4, .ptr 2 0)]) (H1 := [.cells [.bool a1.never, .lst (List.map encFct a1.l) false], .cells [.bool b2.never, .lst (List.map encFct b2.l) false], .cells [.bool false, .lst [] true]]) (H2 := [.cells [.bool a1.never, .lst (List.map encFct a1.l) false], .cells [.bool b2.never, .lst (List.map encFct b2.l) false], .cells [.bool false, .lst [] true]]) rfl (by repeat (first | exact rzz | apply rcc rfl | apply rnn rfl)) rfl (?_ : GL _ _ _ _ _)
      refine L_seq ?_
      refine L_stmt ?_
      refine L_reg ?_
      refine G_n (B := .cells [.bool false, .lst [] true]) rfl rfl rfl ?_
      refine G_nil ?_
      refine L_nil ?_
      refine Sm_norm (e2 := [(2, .ptr 0 0), (3, .ptr 1 0), (4, .ptr 2 0), (5, .ptr 3 0)]) (H1 := [.cells [.bool a1.never, .lst (List.map encFct a1.l) false], .cells [.bool b2.never, .lst (List.map encFct b2.l) false], .cells [.bool false, .lst [] true], .cells [.bool false, .lst [] true]]) (H2 := [.cells [.bool a1.never, .lst (List.map encFct a1.l) false], .cells [.bool b2.never, .lst (List.map encFct b2.l) false], .cells [.bool false, .lst [] true], .cells [.bool false, .lst [] true]]) rfl (by repeat (first | exact rzz | apply rcc rfl | apply rnn rfl)) rfl (?_ : GL _ _ _ _ _)
      refine L_seq ?_
      refine L_stmt ?_
      refine L_reg ?_
      refine G_h (v := .agg (cFts a1)) rfl rfl rfl (fun _ => rfl) ?_
      refine G_h (v := .agg (cFts b2)) rfl rfl rfl (fun _ => rfl) ?_
      obtain ⟨r7, hr7, hr⟩ := bind_s hr
      refine G_c 40 rfl rfl (CA_of (as := [.agg (cFts a1), .agg (cFts b2)]) rfl (y5l hr7)) ?_
      refine G_p (v := .lst (List.map (AVal.int .i64) r7) false) rfl rfl rfl ?_
      refine G_nil ?_
      refine L_nil ?_
      refine Sm_norm (e2 := [(2, .ptr 0 0), (3, .ptr 1 0), (4, .ptr 2 0), (5, .ptr 3 0), (6, .lst (List.map (AVal.int .i64) r7) false)]) (H1 := [.cells [.bool a1.never, .lst (List.map encFct a1.l) false], .cells [.bool b2.never, .lst (List.map encFct b2.l) false], .cells [.bool false, .lst [] true], .cells [.bool false, .lst [] true]]) (H2 := [.cells [.bool a1.never, .lst (List.map encFct a1.l) false], .cells [.bool b2.never, .lst (List.map encFct b2.l) false], .cells [.bool false, .lst [] true], .cells [.bool false, .lst [] true]]) (frz_c (frz_lst rfl) rfl) (by repeat (first | exact rzz | apply rcc rfl | apply rnn rfl)) rfl (?_ : GL _ _ _ _ _)
      refine L_seq ?_
      refine L_stmtJ (S := List Fct) (fun s => [(4, .ptr 2 0), (5, .ptr 3 0)]) (fun s => [.cells [.bool a1.never, .lst (List.map encFct a1.l) false], .cells [.bool b2.never, .lst (List.map encFct b2.l) false], .cells [.bool false, .lst [] true], .cells [.bool false, .lst (List.map encFct s) false]]) (fun s => y3u s = some r) ?_ ?_
      · skip
        refine L_seq ?_
        refine L_stmt ?_
        refine L_reg ?_
        refine G_p rfl rfl rfl ?_
        refine G_nil ?_
        refine L_nil ?_
        refine Sm_norm (e2 := [(2, .ptr 0 0), (3, .ptr 1 0), (4, .ptr 2 0), (5, .ptr 3 0), (6, .lst (List.map (AVal.int .i64) r7) false), (7, .int .i64 0)]) (H1 := [.cells [.bool a1.never, .lst (List.map encFct a1.l) false], .cells [.bool b2.never, .lst (List.map encFct b2.l) false], .cells [.bool false, .lst [] true], .cells [.bool false, .lst [] true]]) (H2 := [.cells [.bool a1.never, .lst (List.map encFct a1.l) false], .cells [.bool b2.never, .lst (List.map encFct b2.l) false], .cells [.bool false, .lst [] true], .cells [.bool false, .lst [] true]]) rfl (by repeat (first | exact rzz | apply rcc rfl | apply rnn rfl)) rfl (?_ : GL _ _ _ _ _)
        refine L_block ?_
        refine L_seq ?_
        refine L_own (H' := [.cells [.bool a1.never, .lst (List.map encFct a1.l) false], .cells [.bool b2.never, .lst (List.map encFct b2.l) false], .cells [.bool false, .lst [] true], .cells [.bool false, .gl 4 (List.length [])], growM 2 encFct []]) rfl ?_
        obtain ⟨hLq80, hr⟩ := guard_s hr
        replace hLq80 := okLen_s hLq80
        refine L_range (X := Int) (S := List Fct) r7 (fun i82 s => [(7, .int .i64 ((i82 : Nat) : Int)), (2, .ptr 0 0), (3, .ptr 1 0), (4, .ptr 2 0), (5, .ptr 3 0), (6, .lst (List.map (AVal.int .i64) r7) false)]) (fun i82 s => [.cells [.bool a1.never, .lst (List.map encFct a1.l) false], .cells [.bool b2.never, .lst (List.map encFct b2.l) false], .cells [.bool false, .lst [] true], .cells [.bool false, .gl 4 (List.length s)], growM 2 encFct s]) (fun rest i82 s => y1h a1 b2 rest i82 s = some r) ([]) ?_ rfl hr ?_ ?_
        · show restr _ _ = [(7, .int .i64 ((0 : Nat) : Int)), (2, .ptr 0 0), (3, .ptr 1 0), (4, .ptr 2 0), (5, .ptr 3 0), (6, .lst (List.map (AVal.int .i64) r7) false)]
          (repeat (first | exact rzz | apply rcc rfl | apply rnn rfl))
        · rintro l64 hr
          show GL _ _ [(7, .int .i64 (((List.length r7) : Nat) : Int)), (2, .ptr 0 0), (3, .ptr 1 0), (4, .ptr 2 0), (5, .ptr 3 0), (6, .lst (List.map (AVal.int .i64) r7) false)] [.cells [.bool a1.never, .lst (List.map encFct a1.l) false], .cells [.bool b2.never, .lst (List.map encFct b2.l) false], .cells [.bool false, .lst [] true], .cells [.bool false, .gl 4 (List.length l64)], growM 2 encFct l64] _
          replace hr : y1h a1 b2 [] (List.length r7) l64 = some r := hr
          rw [y1h] at hr
          refine L_seq ?_
          refine L_stmt ?_
          refine L_seq ?_
          refine L_stmt ?_
          refine L_reg ?_
          refine G_p rfl rfl rfl ?_
          refine G_p (v := .lst (List.map (AVal.int .i64) r7) false) rfl rfl rfl ?_
          refine G_h rfl rfl rfl (lenL_ev rfl (List.length_map _)) ?_
          refine G_v (.bool false) rfl rfl rfl (congrArg AVal.bool (decide_eq_false (by omega))) ?_
          refine G_nil ?_
          refine L_nil ?_
          refine Sm_norm (e2 := [(2, .ptr 0 0), (3, .ptr 1 0), (4, .ptr 2 0), (5, .ptr 3 0), (6, .lst (List.map (AVal.int .i64) r7) false), (7, .int .i64 ((List.length r7 : Nat) : Int)), (25, .bool false)]) (H1 := [.cells [.bool a1.never, .lst (List.map encFct a1.l) false], .cells [.bool b2.never, .lst (List.map encFct b2.l) false], .cells [.bool false, .lst [] true], .cells [.bool false, .gl 4 (List.length l64)], growM 2 encFct l64]) (H2 := [.cells [.bool a1.never, .lst (List.map encFct a1.l) false], .cells [.bool b2.never, .lst (List.map encFct b2.l) false], .cells [.bool false, .lst [] true], .cells [.bool false, .gl 4 (List.length l64)], growM 2 encFct l64]) rfl (by repeat (first | exact rzz | apply rcc rfl | apply rnn rfl)) rfl (?_ : GL _ _ _ _ _)
          refine L_F rfl rfl ?_
          refine L_exit ?_
          refine Sm_exit ?_
          refine Rd_exit ?_
          refine Blk_exit (?_ : GL _ _ _ _ _)
          refine L_nil ?_
          exact Sm_norm (e2 := [(4, .ptr 2 0), (5, .ptr 3 0)]) (H1 := [.cells [.bool a1.never, .lst (List.map encFct a1.l) false], .cells [.bool b2.never, .lst (List.map encFct b2.l) false], .cells [.bool false, .lst [] true], .cells [.bool false, .lst (List.map encFct l64) false], growM 2 encFct l64]) (H2 := [.cells [.bool a1.never, .lst (List.map encFct a1.l) false], .cells [.bool b2.never, .lst (List.map encFct b2.l) false], .cells [.bool false, .lst [] true], .cells [.bool false, .lst (List.map encFct l64) false]]) (frz_c (frz_glC (H2 := [.cells [.bool a1.never, .lst (List.map encFct a1.l) false], .cells [.bool b2.never, .lst (List.map encFct b2.l) false], .cells [.bool false, .lst [] true], .cells [.bool false, .lst (List.map encFct l64) false], growM 2 encFct l64]) rfl rfl rfl rfl rfl) rfl) (by repeat (first | exact rzz | apply rcc rfl | apply rnn rfl)) rfl ⟨l64, rfl, rfl, hr⟩
        · rintro y81 rest83 i82 l64 hy81 hlti82 hr
          show GL _ _ [(7, .int .i64 ((i82 : Nat) : Int)), (2, .ptr 0 0), (3, .ptr 1 0), (4, .ptr 2 0), (5, .ptr 3 0), (6, .lst (List.map (AVal.int .i64) r7) false)] [.cells [.bool a1.never, .lst (List.map encFct a1.l) false], .cells [.bool b2.never, .lst (List.map encFct b2.l) false], .cells [.bool false, .lst [] true], .cells [.bool false, .gl 4 (List.length l64)], growM 2 encFct l64] _
          replace hr : y1h a1 b2 (y81 :: rest83) i82 l64 = some r := hr
          rw [y1h] at hr
          refine L_seq ?_
          refine L_stmt ?_
          refine L_seq ?_
          refine L_stmt ?_
          refine L_reg ?_
          refine G_p rfl rfl rfl ?_
          refine G_p (v := .lst (List.map (AVal.int .i64) r7) false) rfl rfl rfl ?_
          refine G_h rfl rfl rfl (lenL_ev rfl (List.length_map _)) ?_
          refine G_v (.bool true) rfl rfl rfl (congrArg AVal.bool (decide_eq_true (by omega))) ?_
          refine G_nil ?_
          refine L_nil ?_
          refine Sm_norm (e2 := [(2, .ptr 0 0), (3, .ptr 1 0), (4, .ptr 2 0), (5, .ptr 3 0), (6, .lst (List.map (AVal.int .i64) r7) false), (7, .int .i64 ((i82 : Nat) : Int)), (25, .bool true)]) (H1 := [.cells [.bool a1.never, .lst (List.map encFct a1.l) false], .cells [.bool b2.never, .lst (List.map encFct b2.l) false], .cells [.bool false, .lst [] true], .cells [.bool false, .gl 4 (List.length l64)], growM 2 encFct l64]) (H2 := [.cells [.bool a1.never, .lst (List.map encFct a1.l) false], .cells [.bool b2.never, .lst (List.map encFct b2.l) false], .cells [.bool false, .lst [] true], .cells [.bool false, .gl 4 (List.length l64)], growM 2 encFct l64]) rfl (by repeat (first | exact rzz | apply rcc rfl | apply rnn rfl)) rfl (?_ : GL _ _ _ _ _)
          refine L_T rfl rfl ?_
          refine L_skip ?_
          refine L_nil ?_
          refine Sm_norm (e2 := [(2, .ptr 0 0), (3, .ptr 1 0), (4, .ptr 2 0), (5, .ptr 3 0), (6, .lst (List.map (AVal.int .i64) r7) false), (7, .int .i64 ((i82 : Nat) : Int))]) (H1 := [.cells [.bool a1.never, .lst (List.map encFct a1.l) false], .cells [.bool b2.never, .lst (List.map encFct b2.l) false], .cells [.bool false, .lst [] true], .cells [.bool false, .gl 4 (List.length l64)], growM 2 encFct l64]) (H2 := [.cells [.bool a1.never, .lst (List.map encFct a1.l) false], .cells [.bool b2.never, .lst (List.map encFct b2.l) false], .cells [.bool false, .lst [] true], .cells [.bool false, .gl 4 (List.length l64)], growM 2 encFct l64]) rfl (by repeat (first | exact rzz | apply rcc rfl | apply rnn rfl)) rfl (?_ : GL _ _ _ _ _)
          refine L_seq ?_
          refine L_stmtJ (S := List Fct) (fun s => [(2, .ptr 0 0), (3, .ptr 1 0), (4, .ptr 2 0), (5, .ptr 3 0), (6, .lst (List.map (AVal.int .i64) r7) false), (7, .int .i64 ((i82 : Nat) : Int))]) (fun s => [.cells [.bool a1.never, .lst (List.map encFct a1.l) false], .cells [.bool b2.never, .lst (List.map encFct b2.l) false], .cells [.bool false, .lst [] true], .cells [.bool false, .gl 4 (List.length s)], growM 2 encFct s]) (fun s => y2a (y1h a1 b2 rest83 (i82 + 1)) s = some r) ?_ ?_
          · skip
            refine L_block ?_
            refine L_seq ?_
            refine L_stmt ?_
            refine L_drawT [] rfl ?_
            refine GS_h (d := some 28) (v := .agg (cFts a1)) rfl rfl rfl rfl (fun _ => rfl) ?_
            refine GS_p (v := .lst (List.map (AVal.int .i64) r7) false) rfl rfl rfl ?_
            refine GS_p rfl rfl rfl ?_
            refine GS_h (d := some 31) (v := .ro [.int .i64 y81]) rfl rfl rfl rfl (ia_ev (cells := [.int .i64 y81]) rfl rfl (Int.natCast_nonneg _) (map_get (x := y81) (by rw [Int.toNat_natCast]; exact hy81)) rfl rfl) ?_
            refine GS_h (d := some 32) rfl rfl rfl rfl (fun _ => rfl) ?_
            obtain ⟨r91, hr91, hr⟩ := bind_s hr
            refine GS_c 41 rfl rfl rfl (CA_of (as := [.agg (cFts a1), .int .i64 y81]) rfl (y3x hr91)) ?_
            refine GS_h (d := some 34) (v := .agg (cFts b2)) rfl rfl rfl rfl (fun _ => rfl) ?_
            refine GS_p (v := .lst (List.map (AVal.int .i64) r7) false) rfl rfl rfl ?_
            refine GS_p rfl rfl rfl ?_
            refine GS_h (d := some 37) (v := .ro [.int .i64 y81]) rfl rfl rfl rfl (ia_ev (cells := [.int .i64 y81]) rfl rfl (Int.natCast_nonneg _) (map_get (x := y81) (by rw [Int.toNat_natCast]; exact hy81)) rfl rfl) ?_
            refine GS_h (d := some 38) rfl rfl rfl rfl (fun _ => rfl) ?_
            obtain ⟨r92, hr92, hr⟩ := bind_s hr
            refine GS_c 41 rfl rfl rfl (CA_of (as := [.agg (cFts b2), .int .i64 y81]) rfl (y3x hr92)) ?_
            refine GS_p rfl rfl rfl ?_
            refine GS_p rfl rfl rfl ?_
            refine GS_nil ?_
            refine L_nil ?_
            refine Sm_norm (e2 := [(2, .ptr 0 0), (3, .ptr 1 0), (4, .ptr 2 0), (5, .ptr 3 0), (6, .lst (List.map (AVal.int .i64) r7) false), (7, .int .i64 ((i82 : Nat) : Int)), (8, .int .i64 (orB .i64 r91 r92))]) (H1 := [.cells [.bool a1.never, .lst (List.map encFct a1.l) false], .cells [.bool b2.never, .lst (List.map encFct b2.l) false], .cells [.bool false, .lst [] true], .cells [.bool false, .gl 4 (List.length l64)], growM 2 encFct l64]) (H2 := [.cells [.bool a1.never, .lst (List.map encFct a1.l) false], .cells [.bool b2.never, .lst (List.map encFct b2.l) false], .cells [.bool false, .lst [] true], .cells [.bool false, .gl 4 (List.length l64)], growM 2 encFct l64]) rfl (by repeat (first | exact rzz | apply rcc rfl | apply rnn rfl)) rfl (?_ : GL _ _ _ _ _)
            refine L_seq ?_
            refine L_stmt ?_
            refine L_drawS (ops := [_, _, _, _, _, _, _, _, _, _, _, _, _, _, _, _, _, _]) rfl rfl ?_
            refine G_h (v := .agg (cFts a1)) rfl rfl rfl (fun _ => rfl) ?_
            refine G_p (v := .lst (List.map (AVal.int .i64) r7) false) rfl rfl rfl ?_
            refine G_p rfl rfl rfl ?_
            refine G_h (v := .ro [.int .i64 y81]) rfl rfl rfl (ia_ev (cells := [.int .i64 y81]) rfl rfl (Int.natCast_nonneg _) (map_get (x := y81) (by rw [Int.toNat_natCast]; exact hy81)) rfl rfl) ?_
            refine G_h rfl rfl rfl (fun _ => rfl) ?_
            obtain ⟨r93, hr93, hr⟩ := bind_s hr
            refine G_c 44 rfl rfl (CA_of (as := [.agg (cFts a1), .int .i64 y81]) rfl (y5v hr93)) ?_
            refine G_p rfl rfl rfl ?_
            obtain ⟨v95, hvv95, hr⟩ := bind_s hr
            refine G_pick true [_, _, _, _, _, _] (v := .bool v95) (vo := .bool false) rfl rfl ?_ ?_ rfl ?_
            · intro hb47
              have hr := condT hb47 hvv95
              refine G_h (v := .agg (cFts b2)) rfl rfl rfl (fun _ => rfl) ?_
              refine G_p (v := .lst (List.map (AVal.int .i64) r7) false) rfl rfl rfl ?_
              refine G_p rfl rfl rfl ?_
              refine G_h (v := .ro [.int .i64 y81]) rfl rfl rfl (ia_ev (cells := [.int .i64 y81]) rfl rfl (Int.natCast_nonneg _) (map_get (x := y81) (by rw [Int.toNat_natCast]; exact hy81)) rfl rfl) ?_
              refine G_h rfl rfl rfl (fun _ => rfl) ?_
              obtain ⟨r94, hr94, hr⟩ := bind_s hr
              refine G_c 44 rfl rfl (CA_of (as := [.agg (cFts b2), .int .i64 y81]) rfl (y5v hr94)) ?_
              cases hr; exact G_nil (L_nil ⟨rfl, rfl, rfl⟩)
            · intro hb47; exact pickT hvv95 hb47
            · intro vs hvs
              obtain ⟨u48, u49, u50, u51, u52, u53, rfl⟩ := len6 hvs
              dsimp only [junk]
              refine G_p rfl rfl rfl ?_
              refine G_and (f := (!decide ((orB .i64 r91 r92) = 255))) [_, _] rfl rfl ?_ ?_
              · intro hb55
                refine G_p rfl rfl rfl ?_
                refine G_p rfl rfl rfl ?_
                exact G_nil (L_nil ⟨rfl, rfl, rfl⟩)
              · intro vs hvs
                obtain ⟨u56, u57, rfl⟩ := len2 hvs
                dsimp only [junk]
                refine G_nil (L_nil ⟨rfl, ?_⟩)
                refine L_nil ?_
                refine Sm_norm (e2 := [(2, .ptr 0 0), (3, .ptr 1 0), (4, .ptr 2 0), (5, .ptr 3 0), (6, .lst (List.map (AVal.int .i64) r7) false), (7, .int .i64 ((i82 : Nat) : Int)), (8, .int .i64 (orB .i64 r91 r92)), (58, .bool (v95 && (!decide ((orB .i64 r91 r92) = 255))))]) (H1 := [.cells [.bool a1.never, .lst (List.map encFct a1.l) false], .cells [.bool b2.never, .lst (List.map encFct b2.l) false], .cells [.bool false, .lst [] true], .cells [.bool false, .gl 4 (List.length l64)], growM 2 encFct l64]) (H2 := [.cells [.bool a1.never, .lst (List.map encFct a1.l) false], .cells [.bool b2.never, .lst (List.map encFct b2.l) false], .cells [.bool false, .lst [] true], .cells [.bool false, .gl 4 (List.length l64)], growM 2 encFct l64]) rfl (by repeat (first | exact rzz | apply rcc rfl | apply rnn rfl)) rfl (?_ : GL _ _ _ _ _)
                rcases cond_s hr with ⟨hc58, hr⟩ | ⟨hc58, hr⟩
                · refine L_T rfl hc58 ?_
                  refine L_draw ?_
                  refine GD_p rfl rfl rfl ?_
                  refine GD_h (d := some 60) rfl rfl rfl rfl (fun _ => rfl) ?_
                  refine GD_p (v := .lst (List.map (AVal.int .i64) r7) false) rfl rfl rfl ?_
                  refine GD_p rfl rfl rfl ?_
                  refine GD_h (d := some 63) (v := .ro [.int .i64 y81]) rfl rfl rfl rfl (ia_ev (cells := [.int .i64 y81]) rfl rfl (Int.natCast_nonneg _) (map_get (x := y81) (by rw [Int.toNat_natCast]; exact hy81)) rfl rfl) ?_
                  refine GD_h (d := some 64) rfl rfl rfl rfl (fun _ => rfl) ?_
                  refine GD_p rfl rfl rfl ?_
                  refine GD_p (v := .agg [.int .i64 y81, .int .i64 (orB .i64 r91 r92)]) rfl rfl rfl ?_
                  refine GD_h (d := some 67) (v := .lst (List.map encFct [(Fct.mk y81 (orB .i64 r91 r92))]) true) rfl rfl rfl rfl (fun _ => Eq.trans (b := some (Ex.ok (AVal.lst [.agg [.int .i64 y81, .int .i64 (orB .i64 r91 r92)]] true), _)) rfl (congrArg (fun z => some (Ex.ok (AVal.lst z true), _)) (by first | rfl | (simp only [List.map_cons, List.map_nil, encFct_eq] <;> rfl)))) ?_
                  obtain ⟨l96, hl96, hr⟩ := bind_s hr
                  refine GD_o (d := some 68) (H' := [.cells [.bool a1.never, .lst (List.map encFct a1.l) false], .cells [.bool b2.never, .lst (List.map encFct b2.l) false], .cells [.bool false, .lst [] true], .cells [.bool false, .gl 4 (List.length l64)], growM 2 encFct l96, .hole]) rfl rfl rfl rfl (appG2_ev (es := 2) encFct_w1 (show (16 : Nat) ≤ 1400 from by decide) rfl rfl rfl rfl hl96 rfl) ?_
                  refine GD_p rfl rfl rfl ?_
                  refine GD_h (d := none) (H' := [.cells [.bool a1.never, .lst (List.map encFct a1.l) false], .cells [.bool b2.never, .lst (List.map encFct b2.l) false], .cells [.bool false, .lst [] true], .cells [.bool false, .gl 4 (List.length l96)], growM 2 encFct l96, .hole]) rfl rfl rfl rfl (fun _ => rfl) ?_
                  refine GD_nil2 (by first | (simp [okFs2, y15, disj, noneIn, notIn, y16, sameOn, partsGls, y17, AOpd.ev, Env.get, Env.put, glsV, glsL]; done) | rfl) ?_
                  refine L_nil ?_
                  refine Blk_norm (?_ : GL _ _ _ _ _)
                  refine L_nil ?_
                  exact Sm_norm (e2 := [(2, .ptr 0 0), (3, .ptr 1 0), (4, .ptr 2 0), (5, .ptr 3 0), (6, .lst (List.map (AVal.int .i64) r7) false), (7, .int .i64 ((i82 : Nat) : Int))]) (H1 := [.cells [.bool a1.never, .lst (List.map encFct a1.l) false], .cells [.bool b2.never, .lst (List.map encFct b2.l) false], .cells [.bool false, .lst [] true], .cells [.bool false, .gl 4 (List.length l96)], growM 2 encFct l96, .hole]) (H2 := [.cells [.bool a1.never, .lst (List.map encFct a1.l) false], .cells [.bool b2.never, .lst (List.map encFct b2.l) false], .cells [.bool false, .lst [] true], .cells [.bool false, .gl 4 (List.length l96)], growM 2 encFct l96]) rfl (by repeat (first | exact rzz | apply rcc rfl | apply rnn rfl)) rfl ⟨l96, rfl, rfl, hr⟩
                · refine L_F rfl hc58 ?_
                  refine L_skip ?_
                  refine L_nil ?_
                  refine Blk_norm (?_ : GL _ _ _ _ _)
                  refine L_nil ?_
                  exact Sm_norm (e2 := [(2, .ptr 0 0), (3, .ptr 1 0), (4, .ptr 2 0), (5, .ptr 3 0), (6, .lst (List.map (AVal.int .i64) r7) false), (7, .int .i64 ((i82 : Nat) : Int))]) (H1 := [.cells [.bool a1.never, .lst (List.map encFct a1.l) false], .cells [.bool b2.never, .lst (List.map encFct b2.l) false], .cells [.bool false, .lst [] true], .cells [.bool false, .gl 4 (List.length l64)], growM 2 encFct l64]) (H2 := [.cells [.bool a1.never, .lst (List.map encFct a1.l) false], .cells [.bool b2.never, .lst (List.map encFct b2.l) false], .cells [.bool false, .lst [] true], .cells [.bool false, .gl 4 (List.length l64)], growM 2 encFct l64]) rfl (by repeat (first | exact rzz | apply rcc rfl | apply rnn rfl)) rfl ⟨l64, rfl, rfl, hr⟩
          · rintro l90 hr
            show GL _ _ [(2, .ptr 0 0), (3, .ptr 1 0), (4, .ptr 2 0), (5, .ptr 3 0), (6, .lst (List.map (AVal.int .i64) r7) false), (7, .int .i64 ((i82 : Nat) : Int))] [.cells [.bool a1.never, .lst (List.map encFct a1.l) false], .cells [.bool b2.never, .lst (List.map encFct b2.l) false], .cells [.bool false, .lst [] true], .cells [.bool false, .gl 4 (List.length l90)], growM 2 encFct l90] _
            replace hr : y2a (y1h a1 b2 rest83 (i82 + 1)) l90 = some r := hr
            unfold y2a at hr
            refine L_reg ?_
            refine G_p rfl rfl rfl ?_
            refine G_v (.int .i64 ((i82 + 1 : Nat) : Int)) rfl rfl rfl (congrArg _ (wrap_next hLq80 hlti82)) ?_
            refine G_p rfl rfl rfl ?_
            refine G_nil ?_
            refine L_nil ?_
            refine Rd_norm ⟨l90, ?_, rfl, hr⟩
            show restr _ _ = [(7, .int .i64 (((i82 + 1) : Nat) : Int)), (2, .ptr 0 0), (3, .ptr 1 0), (4, .ptr 2 0), (5, .ptr 3 0), (6, .lst (List.map (AVal.int .i64) r7) false)]
            (repeat (first | exact rzz | apply rcc rfl | apply rnn rfl))
      · rintro l49 hr
        show GL _ _ [(4, .ptr 2 0), (5, .ptr 3 0)] [.cells [.bool a1.never, .lst (List.map encFct a1.l) false], .cells [.bool b2.never, .lst (List.map encFct b2.l) false], .cells [.bool false, .lst [] true], .cells [.bool false, .lst (List.map encFct l49) false]] _
        replace hr : y3u l49 = some r := hr
        unfold y3u at hr
        refine L_seq ?_
        refine L_reg ?_
        refine G_h (v := .agg [.bool false, .lst (List.map encFct l49) false]) rfl rfl rfl (fun _ => rfl) ?_
        refine G_hn (H' := [.cells [.bool a1.never, .lst (List.map encFct a1.l) false], .cells [.bool b2.never, .lst (List.map encFct b2.l) false], .cells [.bool false, .lst (List.map encFct l49) false], .cells [.bool false, .lst (List.map encFct l49) false]]) rfl rfl rfl (fun _ => rfl) ?_
        refine G_nil ?_
        refine L_ret ?_
        have hr := some_s hr
        subst hr
        exact ⟨_, rfl, _, rfl, rfl⟩
noncomputable def g_r06_Is (n : Nat) (v1 : Int) (g2 : Int) : Option Prp :=
  ((g_r06_low g2).bind fun r3 => ((g_r06_And n (Fts.mk false [(Fct.mk v1 r3)]) (Fts.mk false [])).bind fun r4 => ((g_r06_low g2).bind fun r5 => ((g_r06_And n (Fts.mk false [(Fct.mk v1 (IntKind.wrap .i64 (255 - r5)))]) (Fts.mk false [])).bind fun r6 => some (Prp.mk r4 r6)))))
abbrev kg31 : ABlock := .cells [.bool false, .lst [] true, .bool false, .lst [] true]
theorem y8e {n : Nat} {v1 : Int} {g2 : Int} {r : Prp} (hr : g_r06_Is n v1 g2 = some r) : PRes (tabOf tabL) 54 [.int .i64 v1, .int .i64 g2] (.agg (cPrp r)) := by
  refine pres_fin t54 ?_
  unfold g_r06_Is at hr
  refine L_seq ?_
  refine L_stmt ?_
  refine L_reg ?_
  refine G_n (B := kg31) rfl rfl rfl ?_
  refine G_nil ?_
  refine L_nil ?_
  refine Sm_norm (e2 := [(0, .int .i64 v1), (1, .int .i64 g2), (4, .ptr 0 0)]) (H1 := [kg31]) (H2 := [kg31]) rfl (by repeat (first | exact rzz | apply rcc rfl | apply rnn rfl)) rfl (?_ : GL _ _ _ _ _)
  refine L_seq ?_
  refine L_reg ?_
  refine G_p rfl rfl rfl ?_
  refine G_p rfl rfl rfl ?_
  obtain ⟨r3, hr3, hr⟩ := bind_s hr
  refine G_c 50 rfl rfl (CA_of (as := [.int .i64 g2]) rfl (y52 hr3)) ?_
  refine G_p (v := .agg [.int .i64 v1, .int .i64 r3]) rfl rfl rfl ?_
  refine G_h (v := .lst (List.map encFct [(Fct.mk v1 r3)]) true) rfl rfl rfl (fun _ => Eq.trans (b := some (Ex.ok (AVal.lst [.agg [.int .i64 v1, .int .i64 r3]] true), _)) rfl (congrArg (fun z => some (Ex.ok (AVal.lst z true), _)) (by first | rfl | (simp only [List.map_cons, List.map_nil, encFct_eq] <;> rfl)))) ?_
  refine G_p (v := .agg [.bool false, .lst (List.map encFct [(Fct.mk v1 r3)]) true]) rfl rfl rfl ?_
  refine G_p (v := .agg [.bool false, .lst [] true]) rfl rfl rfl ?_
  obtain ⟨r4, hr4, hr⟩ := bind_s hr
  refine G_c 12 rfl rfl (CA_of (as := [.agg (cFts (Fts.mk false [(Fct.mk v1 r3)])), .agg (cFts (Fts.mk false []))]) rfl (y21 hr4)) ?_
  refine G_p rfl rfl rfl ?_
  refine G_p rfl rfl rfl ?_
  obtain ⟨r5, hr5, hr⟩ := bind_s hr
  refine G_c 50 rfl rfl (CA_of (as := [.int .i64 g2]) rfl (y52 hr5)) ?_
  refine G_p rfl rfl rfl ?_
  refine G_p (v := .agg [.int .i64 v1, .int .i64 (IntKind.wrap .i64 (255 - r5))]) rfl rfl rfl ?_
  refine G_h (v := .lst (List.map encFct [(Fct.mk v1 (IntKind.wrap .i64 (255 - r5)))]) true) rfl rfl rfl (fun _ => Eq.trans (b := some (Ex.ok (AVal.lst [.agg [.int .i64 v1, .int .i64 (IntKind.wrap .i64 (255 - r5))]] true), _)) rfl (congrArg (fun z => some (Ex.ok (AVal.lst z true), _)) (by first | rfl | (simp only [List.map_cons, List.map_nil, encFct_eq] <;> rfl)))) ?_
  refine G_p (v := .agg [.bool false, .lst (List.map encFct [(Fct.mk v1 (IntKind.wrap .i64 (255 - r5)))]) true]) rfl rfl rfl ?_
  refine G_p (v := .agg [.bool false, .lst [] true]) rfl rfl rfl ?_
  obtain ⟨r6, hr6, hr⟩ := bind_s hr
  refine G_c 12 rfl rfl (CA_of (as := [.agg (cFts (Fts.mk false [(Fct.mk v1 (IntKind.wrap .i64 (255 - r5)))])), .agg (cFts (Fts.mk false []))]) rfl (y21 hr6)) ?_
  refine G_p (v := .agg [.bool r4.never, .lst (List.map encFct r4.l) false, .bool r6.never, .lst (List.map encFct r6.l) false]) rfl rfl rfl ?_
  refine G_hn (H' := [.cells [.bool r4.never, .lst (List.map encFct r4.l) false, .bool r6.never, .lst (List.map encFct r6.l) false]]) rfl rfl rfl (fun _ => rfl) ?_
  refine G_nil ?_
  refine L_ret ?_
  have hr := some_s hr
  subst hr
  exact ⟨_, rfl, _, rfl, rfl⟩
noncomputable def y4p (v1 : Int) : Option Prp :=
  some (Prp.mk (Fts.mk false []) (Fts.mk false [(Fct.mk v1 2)]))
abbrev kg32 : ABlock := .cells [.bool false, .lst [] true, .bool false, .lst [] true]
theorem y7s {v1 : Int} {r : Prp} (hr : y4p v1 = some r) : PRes (tabOf tabL) 55 [.int .i64 v1] (.agg (cPrp r)) := by
  refine pres_fin t55 ?_
  unfold y4p at hr
  refine L_seq ?_
  refine L_stmt ?_
  refine L_reg ?_
  refine G_n (B := kg32) rfl rfl rfl ?_
  refine G_nil ?_
  refine L_nil ?_
  refine Sm_norm (e2 := [(0, .int .i64 v1), (2, .ptr 0 0)]) (H1 := [kg32]) (H2 := [kg32]) rfl (by repeat (first | exact rzz | apply rcc rfl | apply rnn rfl)) rfl (?_ : GL _ _ _ _ _)
  refine L_seq ?_
  refine L_reg ?_
  refine G_p rfl rfl rfl ?_
  refine G_p (v := .agg [.int .i64 v1, .int .i64 2]) rfl rfl rfl ?_
  refine G_h (v := .lst (List.map encFct [(Fct.mk v1 2)]) true) rfl rfl rfl (fun _ => Eq.trans (b := some (Ex.ok (AVal.lst [.agg [.int .i64 v1, .int .i64 2]] true), _)) rfl (congrArg (fun z => some (Ex.ok (AVal.lst z true), _)) (by first | rfl | (simp only [List.map_cons, List.map_nil, encFct_eq] <;> rfl)))) ?_
  refine G_p (v := .agg [.bool false, .lst (List.map encFct [(Fct.mk v1 2)]) true]) rfl rfl rfl ?_
  refine G_p (v := .agg [.bool false, .lst [] true, .bool false, .lst (List.map encFct [(Fct.mk v1 2)]) true]) rfl rfl rfl ?_
  refine G_hn (H' := [.cells [.bool false, .lst [] true, .bool false, .lst (List.map encFct [(Fct.mk v1 2)]) true]]) rfl rfl rfl (fun _ => rfl) ?_
  refine G_nil ?_
  refine L_ret ?_
  have hr := some_s hr
  subst hr
  exact ⟨_, rfl, _, rfl, rfl⟩
noncomputable def y4q (is1 : Bool) : Option Prp :=
  some (Prp.mk (Fts.mk (!is1) []) (Fts.mk is1 []))
abbrev kg33 : ABlock := .cells [.bool false, .lst [] true, .bool false, .lst [] true]
theorem y7m {is1 : Bool} {r : Prp} (hr : y4q is1 = some r) : PRes (tabOf tabL) 56 [.bool is1] (.agg (cPrp r)) := by
  refine pres_fin t56 ?_
  unfold y4q at hr
  refine L_seq ?_
  refine L_stmt ?_
  refine L_reg ?_
  refine G_n (B := kg33) rfl rfl rfl ?_
  refine G_nil ?_
  refine L_nil ?_
  refine Sm_norm (e2 := [(0, .bool is1), (2, .ptr 0 0)]) (H1 := [kg33]) (H2 := [kg33]) rfl (by repeat (first | exact rzz | apply rcc rfl | apply rnn rfl)) rfl (?_ : GL _ _ _ _ _)
  refine L_seq ?_
  refine L_reg ?_
  refine G_p rfl rfl rfl ?_
  refine G_p rfl rfl rfl ?_
  refine G_p (v := .agg [.bool (!is1), .lst [] true]) rfl rfl rfl ?_
  refine G_p rfl rfl rfl ?_
  refine G_p (v := .agg [.bool is1, .lst [] true]) rfl rfl rfl ?_
  refine G_p (v := .agg [.bool (!is1), .lst [] true, .bool is1, .lst [] true]) rfl rfl rfl ?_
  refine G_hn (H' := [.cells [.bool (!is1), .lst [] true, .bool is1, .lst [] true]]) rfl rfl rfl (fun _ => rfl) ?_
  refine G_nil ?_
  refine L_ret ?_
  have hr := some_s hr
  subst hr
  exact ⟨_, rfl, _, rfl, rfl⟩
noncomputable def g_r06_Not (p1 : Prp) : Option Prp :=
  some (Prp.mk p1.els p1.thn)
abbrev kg34 (p1 : Prp) : ABlock := .cells [.bool p1.thn.never, .lst (List.map encFct p1.thn.l) false, .bool p1.els.never, .lst (List.map encFct p1.els.l) false]
abbrev kg35 : ABlock := .cells [.bool false, .lst [] true, .bool false, .lst [] true]
theorem y82 {p1 : Prp} {r : Prp} (hr : g_r06_Not p1 = some r) : PRes (tabOf tabL) 57 [.agg (cPrp p1)] (.agg (cPrp r)) := by
  refine pres_fin t57 ?_
  unfold g_r06_Not at hr
  refine L_seq ?_
  refine L_stmt ?_
  refine L_reg ?_
  refine G_n (B := (kg34 p1)) rfl rfl rfl ?_
  refine G_n (B := kg35) rfl rfl rfl ?_
  refine G_nil ?_
  refine L_nil ?_
  refine Sm_norm (e2 := [(1, .ptr 0 0), (2, .ptr 1 0)]) (H1 := [(kg34 p1), kg35]) (H2 := [(kg34 p1), kg35]) rfl (by repeat (first | exact rzz | apply rcc rfl | apply rnn rfl)) rfl (?_ : GL _ _ _ _ _)
  refine L_seq ?_
  refine L_reg ?_
  refine G_p rfl rfl rfl ?_
  refine G_h (v := .agg (cFts p1.els)) rfl rfl rfl (fun _ => rfl) ?_
  refine G_p rfl rfl rfl ?_
  refine G_h (v := .agg (cFts p1.thn)) rfl rfl rfl (fun _ => rfl) ?_
  refine G_p (v := .agg [.bool p1.els.never, .lst (List.map encFct p1.els.l) false, .bool p1.thn.never, .lst (List.map encFct p1.thn.l) false]) rfl rfl rfl ?_
  refine G_hn (H' := [(kg34 p1), .cells [.bool p1.els.never, .lst (List.map encFct p1.els.l) false, .bool p1.thn.never, .lst (List.map encFct p1.thn.l) false]]) rfl rfl rfl (fun _ => rfl) ?_
  refine G_nil ?_
  refine L_ret ?_
  have hr := some_s hr
  subst hr
  exact ⟨_, rfl, _, rfl, rfl⟩
noncomputable def g_r06_If (n : Nat) (a1 : Prp) (b2 : Prp) (c3 : Prp) : Option Prp :=
  ((g_r06_And n a1.thn b2.thn).bind fun r4 => ((g_r06_And n a1.els c3.thn).bind fun r5 => ((g_r06_Or n r4 r5).bind fun r6 => ((g_r06_And n a1.thn b2.els).bind fun r7 => ((g_r06_And n a1.els c3.els).bind fun r8 => ((g_r06_Or n r7 r8).bind fun r9 => some (Prp.mk r6 r9)))))))
abbrev kg36 (a1 : Prp) : ABlock := .cells [.bool a1.thn.never, .lst (List.map encFct a1.thn.l) false, .bool a1.els.never, .lst (List.map encFct a1.els.l) false]
abbrev kg37 (b2 : Prp) : ABlock := .cells [.bool b2.thn.never, .lst (List.map encFct b2.thn.l) false, .bool b2.els.never, .lst (List.map encFct b2.els.l) false]
abbrev kg38 (c3 : Prp) : ABlock := .cells [.bool c3.thn.never, .lst (List.map encFct c3.thn.l) false, .bool c3.els.never, .lst (List.map encFct c3.els.l) false]
abbrev kg39 : ABlock := .cells [.bool false, .lst [] true, .bool false, .lst [] true]
theorem y8i {n : Nat} {a1 : Prp} {b2 : Prp} {c3 : Prp} {r : Prp} (hr : g_r06_If n a1 b2 c3 = some r) : PRes (tabOf tabL) 58 [.agg (cPrp a1), .agg (cPrp b2), .agg (cPrp c3)] (.agg (cPrp r)) := by
  refine pres_fin t58 ?_
  unfold g_r06_If at hr
  refine L_seq ?_
  refine L_stmt ?_
  refine L_reg ?_
  refine G_n (B := (kg36 a1)) rfl rfl rfl ?_
  refine G_n (B := (kg37 b2)) rfl rfl rfl ?_
  refine G_n (B := (kg38 c3)) rfl rfl rfl ?_
  refine G_n (B := kg39) rfl rfl rfl ?_
  refine G_nil ?_
  refine L_nil ?_
  refine Sm_norm (e2 := [(3, .ptr 0 0), (4, .ptr 1 0), (5, .ptr 2 0), (6, .ptr 3 0)]) (H1 := [(kg36 a1), (kg37 b2), (kg38 c3), kg39]) (H2 := [(kg36 a1), (kg37 b2), (kg38 c3), kg39]) rfl (by repeat (first | exact rzz | apply rcc rfl | apply rnn rfl)) rfl (?_ : GL _ _ _ _ _)
  refine L_seq ?_
  refine L_drawT [] rfl ?_
  refine GS_p rfl rfl rfl ?_
  refine GS_h (d := some 8) (v := .agg (cFts a1.thn)) rfl rfl rfl rfl (fun _ => rfl) ?_
  refine GS_p rfl rfl rfl ?_
  refine GS_h (d := some 10) (v := .agg (cFts b2.thn)) rfl rfl rfl rfl (fun _ => rfl) ?_
  obtain ⟨r4, hr4, hr⟩ := bind_s hr
  refine GS_c 12 rfl rfl rfl (CA_of (as := [.agg (cFts a1.thn), .agg (cFts b2.thn)]) rfl (y21 hr4)) ?_
  refine GS_p rfl rfl rfl ?_
  refine GS_h (d := some 13) (v := .agg (cFts a1.els)) rfl rfl rfl rfl (fun _ => rfl) ?_
  refine GS_p rfl rfl rfl ?_
  refine GS_h (d := some 15) (v := .agg (cFts c3.thn)) rfl rfl rfl rfl (fun _ => rfl) ?_
  obtain ⟨r5, hr5, hr⟩ := bind_s hr
  refine GS_c 12 rfl rfl rfl (CA_of (as := [.agg (cFts a1.els), .agg (cFts c3.thn)]) rfl (y21 hr5)) ?_
  obtain ⟨r6, hr6, hr⟩ := bind_s hr
  refine GS_c 14 rfl rfl rfl (CA_of (as := [.agg (cFts r4), .agg (cFts r5)]) rfl (y6n hr6)) ?_
  refine GS_p rfl rfl rfl ?_
  refine GS_h (d := some 19) (v := .agg (cFts a1.thn)) rfl rfl rfl rfl (fun _ => rfl) ?_
  refine GS_p rfl rfl rfl ?_
  refine GS_h (d := some 21) (v := .agg (cFts b2.els)) rfl rfl rfl rfl (fun _ => rfl) ?_
  obtain ⟨r7, hr7, hr⟩ := bind_s hr
  refine GS_c 12 rfl rfl rfl (CA_of (as := [.agg (cFts a1.thn), .agg (cFts b2.els)]) rfl (y21 hr7)) ?_
  refine GS_p rfl rfl rfl ?_
  refine GS_h (d := some 24) (v := .agg (cFts a1.els)) rfl rfl rfl rfl (fun _ => rfl) ?_
  refine GS_p rfl rfl rfl ?_
  refine GS_h (d := some 26) (v := .agg (cFts c3.els)) rfl rfl rfl rfl (fun _ => rfl) ?_
  obtain ⟨r8, hr8, hr⟩ := bind_s hr
  refine GS_c 12 rfl rfl rfl (CA_of (as := [.agg (cFts a1.els), .agg (cFts c3.els)]) rfl (y21 hr8)) ?_
  obtain ⟨r9, hr9, hr⟩ := bind_s hr
  refine GS_c 14 rfl rfl rfl (CA_of (as := [.agg (cFts r7), .agg (cFts r8)]) rfl (y6n hr9)) ?_
  refine GS_p (v := .agg [.bool r6.never, .lst (List.map encFct r6.l) false, .bool r9.never, .lst (List.map encFct r9.l) false]) rfl rfl rfl ?_
  refine GS_h (d := none) (H' := [(kg36 a1), (kg37 b2), (kg38 c3), .cells [.bool r6.never, .lst (List.map encFct r6.l) false, .bool r9.never, .lst (List.map encFct r9.l) false]]) rfl rfl rfl rfl (fun _ => rfl) ?_
  refine GS_nil ?_
  refine L_ret ?_
  have hr := some_s hr
  subst hr
  exact ⟨_, rfl, _, rfl, rfl⟩
noncomputable def y34 : Option Bool :=
  some true
noncomputable def y1l (b2 : Fts) : List Fct → Nat → Option Bool
  | [], _ => y34
  | y32 :: rest34, i33 => ((idx b2.l ((i33 : Nat) : Int)).bind fun e36 => (cond (!(decide (y32.var = e36.var) && (decide (y32.tags = e36.tags) && true))) (some false) ((y1l b2 rest34 (i33 + 1)))))
noncomputable def y3l (a1 : Fts) (b2 : Fts) : Option Bool :=
  (cond ((!(a1.never == b2.never)) || (!decide (((List.length a1.l : Nat) : Int) = ((List.length b2.l : Nat) : Int)))) (some false) (cond (okLen a1.l) (y1l b2 a1.l 0) none))
theorem y5r {a1 : Fts} {b2 : Fts} {r : Bool} (hr : y3l a1 b2 = some r) : PRes (tabOf tabL) 9 [.agg (cFts a1), .agg (cFts b2)] (.bool r) := by
  refine pres_fin t9 ?_
  unfold y3l at hr
  refine L_seq ?_
  refine L_stmt ?_
  refine L_reg ?_
  refine G_n (B := .cells [.bool a1.never, .lst (List.map encFct a1.l) false]) rfl rfl rfl ?_
  refine G_n (B := .cells [.bool b2.never, .lst (List.map encFct b2.l) false]) rfl rfl rfl ?_
  refine G_p rfl rfl rfl ?_
  refine G_nil ?_
  refine L_nil ?_
  refine Sm_norm (e2 := [(2, .ptr 0 0), (3, .ptr 1 0)]) (H1 := [.cells [.bool a1.never, .lst (List.map encFct a1.l) false], .cells [.bool b2.never, .lst (List.map encFct b2.l) false]]) (H2 := [.cells [.bool a1.never, .lst (List.map encFct a1.l) false], .cells [.bool b2.never, .lst (List.map encFct b2.l) false]]) rfl (by repeat (first | exact rzz | apply rcc rfl | apply rnn rfl)) rfl (?_ : GL _ _ _ _ _)
  refine L_seq ?_
  refine L_stmt ?_
  refine L_seq ?_
  refine L_stmt ?_
  refine L_reg ?_
  refine G_p rfl rfl rfl ?_
  refine G_h rfl rfl rfl (fun _ => rfl) ?_
  refine G_p rfl rfl rfl ?_
  refine G_h rfl rfl rfl (fun _ => rfl) ?_
  refine G_p rfl rfl rfl ?_
  refine G_p rfl rfl rfl ?_
  refine G_or (f := (!decide (((List.length a1.l : Nat) : Int) = ((List.length b2.l : Nat) : Int)))) [_, _, _, _, _, _, _] rfl rfl ?_ ?_
  · intro hb11
    refine G_p rfl rfl rfl ?_
    refine G_h (v := .lst (List.map encFct a1.l) false) rfl rfl rfl (fun _ => rfl) ?_
    refine G_h rfl rfl rfl (lenL_ev rfl (List.length_map _)) ?_
    refine G_p rfl rfl rfl ?_
    refine G_h (v := .lst (List.map encFct b2.l) false) rfl rfl rfl (fun _ => rfl) ?_
    refine G_h rfl rfl rfl (lenL_ev rfl (List.length_map _)) ?_
    refine G_p rfl rfl rfl ?_
    exact G_nil (L_nil ⟨rfl, rfl, rfl⟩)
  · intro vs hvs
    obtain ⟨u12, u13, u14, u15, u16, u17, u18, rfl⟩ := len7 hvs
    dsimp only [junk]
    refine G_nil ?_
    refine L_nil ?_
    refine Sm_norm (e2 := [(2, .ptr 0 0), (3, .ptr 1 0), (19, .bool ((!(a1.never == b2.never)) || (!decide (((List.length a1.l : Nat) : Int) = ((List.length b2.l : Nat) : Int)))))]) (H1 := [.cells [.bool a1.never, .lst (List.map encFct a1.l) false], .cells [.bool b2.never, .lst (List.map encFct b2.l) false]]) (H2 := [.cells [.bool a1.never, .lst (List.map encFct a1.l) false], .cells [.bool b2.never, .lst (List.map encFct b2.l) false]]) rfl (by repeat (first | exact rzz | apply rcc rfl | apply rnn rfl)) rfl (?_ : GL _ _ _ _ _)
    rcases cond_s hr with ⟨hc19, hr⟩ | ⟨hc19, hr⟩
    · refine L_T rfl hc19 ?_
      refine L_seq ?_
      refine L_reg ?_
      refine G_p rfl rfl rfl ?_
      refine G_nil ?_
      refine L_ret ?_
      refine Sm_ret ?_
      have hr := some_s hr
      subst hr
      exact ⟨_, rfl, _, rfl, rfl⟩
    · refine L_F rfl hc19 ?_
      refine L_skip ?_
      refine L_nil ?_
      refine Sm_norm (e2 := [(2, .ptr 0 0), (3, .ptr 1 0)]) (H1 := [.cells [.bool a1.never, .lst (List.map encFct a1.l) false], .cells [.bool b2.never, .lst (List.map encFct b2.l) false]]) (H2 := [.cells [.bool a1.never, .lst (List.map encFct a1.l) false], .cells [.bool b2.never, .lst (List.map encFct b2.l) false]]) rfl (by repeat (first | exact rzz | apply rcc rfl | apply rnn rfl)) rfl (?_ : GL _ _ _ _ _)
      refine L_seq ?_
      refine L_stmtJ (S := Unit) (fun s => []) (fun s => [.cells [.bool a1.never, .lst (List.map encFct a1.l) false], .cells [.bool b2.never, .lst (List.map encFct b2.l) false]]) (fun s => y34 = some r) ?_ ?_
      · skip
        refine L_seq ?_
        refine L_stmt ?_
        refine L_reg ?_
        refine G_p rfl rfl rfl ?_
        refine G_nil ?_
        refine L_nil ?_
        refine Sm_norm (e2 := [(2, .ptr 0 0), (3, .ptr 1 0), (5, .int .i64 0)]) (H1 := [.cells [.bool a1.never, .lst (List.map encFct a1.l) false], .cells [.bool b2.never, .lst (List.map encFct b2.l) false]]) (H2 := [.cells [.bool a1.never, .lst (List.map encFct a1.l) false], .cells [.bool b2.never, .lst (List.map encFct b2.l) false]]) rfl (by repeat (first | exact rzz | apply rcc rfl | apply rnn rfl)) rfl (?_ : GL _ _ _ _ _)
        refine L_block ?_
        obtain ⟨hLq31, hr⟩ := guard_s hr
        replace hLq31 := okLen_s hLq31
        refine L_range (X := Fct) (S := Unit) a1.l (fun i33 s => [(5, .int .i64 ((i33 : Nat) : Int)), (2, .ptr 0 0), (3, .ptr 1 0)]) (fun i33 s => [.cells [.bool a1.never, .lst (List.map encFct a1.l) false], .cells [.bool b2.never, .lst (List.map encFct b2.l) false]]) (fun rest i33 s => y1l b2 rest i33 = some r) (()) ?_ rfl hr ?_ ?_
        · show restr _ _ = [(5, .int .i64 ((0 : Nat) : Int)), (2, .ptr 0 0), (3, .ptr 1 0)]
          (repeat (first | exact rzz | apply rcc rfl | apply rnn rfl))
        · rintro ⟨⟩ hr
          show GL _ _ [(5, .int .i64 (((List.length a1.l) : Nat) : Int)), (2, .ptr 0 0), (3, .ptr 1 0)] [.cells [.bool a1.never, .lst (List.map encFct a1.l) false], .cells [.bool b2.never, .lst (List.map encFct b2.l) false]] _
          replace hr : y1l b2 [] (List.length a1.l) = some r := hr
          rw [y1l] at hr
          refine L_seq ?_
          refine L_stmt ?_
          refine L_seq ?_
          refine L_stmt ?_
          refine L_reg ?_
          refine G_p rfl rfl rfl ?_
          refine G_p rfl rfl rfl ?_
          refine G_h (v := .lst (List.map encFct a1.l) false) rfl rfl rfl (fun _ => rfl) ?_
          refine G_h rfl rfl rfl (lenL_ev rfl (List.length_map _)) ?_
          refine G_v (.bool false) rfl rfl rfl (congrArg AVal.bool (decide_eq_false (by omega))) ?_
          refine G_nil ?_
          refine L_nil ?_
          refine Sm_norm (e2 := [(2, .ptr 0 0), (3, .ptr 1 0), (5, .int .i64 ((List.length a1.l : Nat) : Int)), (24, .bool false)]) (H1 := [.cells [.bool a1.never, .lst (List.map encFct a1.l) false], .cells [.bool b2.never, .lst (List.map encFct b2.l) false]]) (H2 := [.cells [.bool a1.never, .lst (List.map encFct a1.l) false], .cells [.bool b2.never, .lst (List.map encFct b2.l) false]]) rfl (by repeat (first | exact rzz | apply rcc rfl | apply rnn rfl)) rfl (?_ : GL _ _ _ _ _)
          refine L_F rfl rfl ?_
          refine L_exit ?_
          refine Sm_exit ?_
          refine Rd_exit ?_
          refine Blk_exit (?_ : GL _ _ _ _ _)
          refine L_nil ?_
          exact Sm_norm (e2 := []) (H1 := [.cells [.bool a1.never, .lst (List.map encFct a1.l) false], .cells [.bool b2.never, .lst (List.map encFct b2.l) false]]) (H2 := [.cells [.bool a1.never, .lst (List.map encFct a1.l) false], .cells [.bool b2.never, .lst (List.map encFct b2.l) false]]) rfl (by repeat (first | exact rzz | apply rcc rfl | apply rnn rfl)) rfl ⟨(), rfl, rfl, hr⟩
        · rintro y32 rest34 i33 ⟨⟩ hy32 hlti33 hr
          show GL _ _ [(5, .int .i64 ((i33 : Nat) : Int)), (2, .ptr 0 0), (3, .ptr 1 0)] [.cells [.bool a1.never, .lst (List.map encFct a1.l) false], .cells [.bool b2.never, .lst (List.map encFct b2.l) false]] _
          replace hr : y1l b2 (y32 :: rest34) i33 = some r := hr
          rw [y1l] at hr
          refine L_seq ?_
          refine L_stmt ?_
          refine L_seq ?_
          refine L_stmt ?_
          refine L_reg ?_
          refine G_p rfl rfl rfl ?_
          refine G_p rfl rfl rfl ?_
          refine G_h (v := .lst (List.map encFct a1.l) false) rfl rfl rfl (fun _ => rfl) ?_
          refine G_h rfl rfl rfl (lenL_ev rfl (List.length_map _)) ?_
          refine G_v (.bool true) rfl rfl rfl (congrArg AVal.bool (decide_eq_true (by omega))) ?_
          refine G_nil ?_
          refine L_nil ?_
          refine Sm_norm (e2 := [(2, .ptr 0 0), (3, .ptr 1 0), (5, .int .i64 ((i33 : Nat) : Int)), (24, .bool true)]) (H1 := [.cells [.bool a1.never, .lst (List.map encFct a1.l) false], .cells [.bool b2.never, .lst (List.map encFct b2.l) false]]) (H2 := [.cells [.bool a1.never, .lst (List.map encFct a1.l) false], .cells [.bool b2.never, .lst (List.map encFct b2.l) false]]) rfl (by repeat (first | exact rzz | apply rcc rfl | apply rnn rfl)) rfl (?_ : GL _ _ _ _ _)
          refine L_T rfl rfl ?_
          refine L_skip ?_
          refine L_nil ?_
          refine Sm_norm (e2 := [(2, .ptr 0 0), (3, .ptr 1 0), (5, .int .i64 ((i33 : Nat) : Int))]) (H1 := [.cells [.bool a1.never, .lst (List.map encFct a1.l) false], .cells [.bool b2.never, .lst (List.map encFct b2.l) false]]) (H2 := [.cells [.bool a1.never, .lst (List.map encFct a1.l) false], .cells [.bool b2.never, .lst (List.map encFct b2.l) false]]) rfl (by repeat (first | exact rzz | apply rcc rfl | apply rnn rfl)) rfl (?_ : GL _ _ _ _ _)
          refine L_seq ?_
          refine L_stmt ?_
          refine L_block ?_
          refine L_seq ?_
          refine L_stmt ?_
          refine L_drawS (ops := [_, _, _, _, _, _, _, _, _, _, _]) rfl rfl ?_
          refine G_p rfl rfl rfl ?_
          refine G_h (v := .lst (List.map encFct a1.l) false) rfl rfl rfl (fun _ => rfl) ?_
          refine G_p rfl rfl rfl ?_
          refine G_h (v := .ro [.int .i64 y32.var, .int .i64 y32.tags]) rfl rfl rfl (ia_ev (cells := [.int .i64 y32.var, .int .i64 y32.tags]) rfl rfl (Int.natCast_nonneg _) (map_get (x := y32) (by rw [Int.toNat_natCast]; exact hy32)) (y05 _) rfl) ?_
          refine G_h (v := .agg (cFct y32)) rfl rfl rfl (fun _ => rfl) ?_
          refine G_p rfl rfl rfl ?_
          refine G_h (v := .lst (List.map encFct b2.l) false) rfl rfl rfl (fun _ => rfl) ?_
          refine G_p rfl rfl rfl ?_
          obtain ⟨e36, he36, hr⟩ := bind_s hr
          refine G_h (v := .ro [.int .i64 e36.var, .int .i64 e36.tags]) rfl rfl rfl (ia_ev (cells := [.int .i64 e36.var, .int .i64 e36.tags]) rfl rfl (idx_s he36).1 (map_get (x := e36) (idx_s he36).2) (y05 _) rfl) ?_
          refine G_h (v := .agg (cFct e36)) rfl rfl rfl (fun _ => rfl) ?_
          refine G_p rfl rfl rfl ?_
          refine G_nil (L_nil ⟨rfl, ?_⟩)
          refine L_nil ?_
          refine Sm_norm (e2 := [(2, .ptr 0 0), (3, .ptr 1 0), (5, .int .i64 ((i33 : Nat) : Int)), (37, .bool (!(decide (y32.var = e36.var) && (decide (y32.tags = e36.tags) && true))))]) (H1 := [.cells [.bool a1.never, .lst (List.map encFct a1.l) false], .cells [.bool b2.never, .lst (List.map encFct b2.l) false]]) (H2 := [.cells [.bool a1.never, .lst (List.map encFct a1.l) false], .cells [.bool b2.never, .lst (List.map encFct b2.l) false]]) rfl (by repeat (first | exact rzz | apply rcc rfl | apply rnn rfl)) rfl (?_ : GL _ _ _ _ _)
          rcases cond_s hr with ⟨hc37, hr⟩ | ⟨hc37, hr⟩
          · refine L_T rfl hc37 ?_
            refine L_seq ?_
            refine L_reg ?_
            refine G_p rfl rfl rfl ?_
            refine G_nil ?_
            refine L_ret ?_
            refine Blk_ret ?_
            refine Sm_ret ?_
            refine Rd_ret ?_
            refine Blk_ret ?_
            refine Sm_ret ?_
            have hr := some_s hr
            subst hr
            exact ⟨_, rfl, _, rfl, rfl⟩
          · refine L_F rfl hc37 ?_
            refine L_skip ?_
            refine L_nil ?_
            refine Blk_norm (?_ : GL _ _ _ _ _)
            refine L_nil ?_
            refine Sm_norm (e2 := [(2, .ptr 0 0), (3, .ptr 1 0), (5, .int .i64 ((i33 : Nat) : Int))]) (H1 := [.cells [.bool a1.never, .lst (List.map encFct a1.l) false], .cells [.bool b2.never, .lst (List.map encFct b2.l) false]]) (H2 := [.cells [.bool a1.never, .lst (List.map encFct a1.l) false], .cells [.bool b2.never, .lst (List.map encFct b2.l) false]]) rfl (by repeat (first | exact rzz | apply rcc rfl | apply rnn rfl)) rfl (?_ : GL _ _ _ _ _)
            refine L_reg ?_
            refine G_p rfl rfl rfl ?_
            refine G_v (.int .i64 ((i33 + 1 : Nat) : Int)) rfl rfl rfl (congrArg _ (wrap_next hLq31 hlti33)) ?_
            refine G_p rfl rfl rfl ?_
            refine G_nil ?_
            refine L_nil ?_
            refine Rd_norm ⟨(), ?_, rfl, hr⟩
            show restr _ _ = [(5, .int .i64 (((i33 + 1) : Nat) : Int)), (2, .ptr 0 0), (3, .ptr 1 0)]
            (repeat (first | exact rzz | apply rcc rfl | apply rnn rfl))
      · rintro ⟨⟩ hr
        show GL _ _ [] [.cells [.bool a1.never, .lst (List.map encFct a1.l) false], .cells [.bool b2.never, .lst (List.map encFct b2.l) false]] _
        replace hr : y34 = some r := hr
        unfold y34 at hr
        refine L_seq ?_
        refine L_reg ?_
        refine G_p rfl rfl rfl ?_
        refine G_nil ?_
        refine L_ret ?_
        have hr := some_s hr
        subst hr
        exact ⟨_, rfl, _, rfl, rfl⟩
noncomputable def y2x : Option Bool :=
  some true
noncomputable def y1j (rec : Tst → Int → Option Bool) (left2 : Int) : List Tst → Nat → Option Bool
  | [], _ => y2x
  | y32 :: rest34, i33 => ((rec y32 (IntKind.wrap .i64 (left2 - 1))).bind fun r36 => (cond (!r36) (some false) ((y1j rec left2 rest34 (i33 + 1)))))
noncomputable def y36 (rec : Tst → Int → Option Bool) (t1 : Tst) (left2 : Int) : Option Bool :=
  (cond ((decide (left2 = 0)) || (decide (5 < ((List.length t1.of : Nat) : Int)))) (some false) (cond (okLen t1.of) (y1j rec left2 t1.of 0) none))
abbrev kg310 (t1 : Tst) : ABlock := .cells [.int .i64 t1.op, .int .i64 t1.var, .int .i64 t1.tags, .bool t1.yes, .lst (List.map encTst t1.of) false]
theorem y6w {rec : Tst → Int → Option Bool} {t1 : Tst} {left2 : Int} {r : Bool} (hrec : ∀ (a0 : Tst) (a1 : Int) (r : Bool), rec a0 a1 = some r → PRes (tabOf tabL) 24 [.agg (cTst a0), .int .i64 a1] (.bool r)) (hr : y36 rec t1 left2 = some r) : PRes (tabOf tabL) 24 [.agg (cTst t1), .int .i64 left2] (.bool r) := by
  refine pres_fin t24 ?_
  unfold y36 at hr
  refine L_seq ?_
  refine L_stmt ?_
  refine L_reg ?_
  refine G_n (B := (kg310 t1)) rfl rfl rfl ?_
  refine G_p rfl rfl rfl ?_
  refine G_nil ?_
  refine L_nil ?_
  refine Sm_norm (e2 := [(1, .int .i64 left2), (2, .ptr 0 0)]) (H1 := [(kg310 t1)]) (H2 := [(kg310 t1)]) rfl (by repeat (first | exact rzz | apply rcc rfl | apply rnn rfl)) rfl (?_ : GL _ _ _ _ _)
  refine L_seq ?_
  refine L_stmt ?_
  refine L_seq ?_
  refine L_stmt ?_
  refine L_reg ?_
  refine G_p rfl rfl rfl ?_
  refine G_p rfl rfl rfl ?_
  refine G_p rfl rfl rfl ?_
  refine G_or (f := (decide (5 < ((List.length t1.of : Nat) : Int)))) [_, _, _, _] rfl rfl ?_ ?_
  · intro hb8
    refine G_p rfl rfl rfl ?_
    refine G_h (v := .lst (List.map encTst t1.of) false) rfl rfl rfl (fun _ => rfl) ?_
    refine G_h rfl rfl rfl (lenL_ev rfl (List.length_map _)) ?_
    refine G_p rfl rfl rfl ?_
    exact G_nil (L_nil ⟨rfl, rfl, rfl⟩)
  · intro vs hvs
    obtain ⟨u9, u10, u11, u12, rfl⟩ := len4 hvs
    dsimp only [junk]
    refine G_nil ?_
    refine L_nil ?_
    refine Sm_norm (e2 := [(1, .int .i64 left2), (2, .ptr 0 0), (13, .bool ((decide (left2 = 0)) || (decide (5 < ((List.length t1.of : Nat) : Int)))))]) (H1 := [(kg310 t1)]) (H2 := [(kg310 t1)]) rfl (by repeat (first | exact rzz | apply rcc rfl | apply rnn rfl)) rfl (?_ : GL _ _ _ _ _)
    rcases cond_s hr with ⟨hc13, hr⟩ | ⟨hc13, hr⟩
    · refine L_T rfl hc13 ?_
      refine L_seq ?_
      refine L_reg ?_
      refine G_p rfl rfl rfl ?_
      refine G_nil ?_
      refine L_ret ?_
      refine Sm_ret ?_
      have hr := some_s hr
      subst hr
      exact ⟨_, rfl, _, rfl, rfl⟩
    · refine L_F rfl hc13 ?_
      refine L_skip ?_
      refine L_nil ?_
      refine Sm_norm (e2 := [(1, .int .i64 left2), (2, .ptr 0 0)]) (H1 := [(kg310 t1)]) (H2 := [(kg310 t1)]) rfl (by repeat (first | exact rzz | apply rcc rfl | apply rnn rfl)) rfl (?_ : GL _ _ _ _ _)
      refine L_seq ?_
      refine L_stmtJ (S := Unit) (fun s => []) (fun s => [(kg310 t1)]) (fun s => y2x = some r) ?_ ?_
      · skip
        refine L_seq ?_
        refine L_stmt ?_
        refine L_reg ?_
        refine G_p rfl rfl rfl ?_
        refine G_nil ?_
        refine L_nil ?_
        refine Sm_norm (e2 := [(1, .int .i64 left2), (2, .ptr 0 0), (5, .int .i64 0)]) (H1 := [(kg310 t1)]) (H2 := [(kg310 t1)]) rfl (by repeat (first | exact rzz | apply rcc rfl | apply rnn rfl)) rfl (?_ : GL _ _ _ _ _)
        refine L_block ?_
        obtain ⟨hLq31, hr⟩ := guard_s hr
        replace hLq31 := okLen_s hLq31
        refine L_range (X := Tst) (S := Unit) t1.of (fun i33 s => [(5, .int .i64 ((i33 : Nat) : Int)), (1, .int .i64 left2), (2, .ptr 0 0)]) (fun i33 s => [(kg310 t1)]) (fun rest i33 s => y1j rec left2 rest i33 = some r) (()) ?_ rfl hr ?_ ?_
        · show restr _ _ = [(5, .int .i64 ((0 : Nat) : Int)), (1, .int .i64 left2), (2, .ptr 0 0)]
          (repeat (first | exact rzz | apply rcc rfl | apply rnn rfl))
        · rintro ⟨⟩ hr
          show GL _ _ [(5, .int .i64 (((List.length t1.of) : Nat) : Int)), (1, .int .i64 left2), (2, .ptr 0 0)] [(kg310 t1)] _
          replace hr : y1j rec left2 [] (List.length t1.of) = some r := hr
          rw [y1j] at hr
          refine L_seq ?_
          refine L_stmt ?_
          refine L_seq ?_
          refine L_stmt ?_
          refine L_reg ?_
          refine G_p rfl rfl rfl ?_
          refine G_p rfl rfl rfl ?_
          refine G_h (v := .lst (List.map encTst t1.of) false) rfl rfl rfl (fun _ => rfl) ?_
          refine G_h rfl rfl rfl (lenL_ev rfl (List.length_map _)) ?_
          refine G_v (.bool false) rfl rfl rfl (congrArg AVal.bool (decide_eq_false (by omega))) ?_
          refine G_nil ?_
          refine L_nil ?_
          refine Sm_norm (e2 := [(1, .int .i64 left2), (2, .ptr 0 0), (5, .int .i64 ((List.length t1.of : Nat) : Int)), (18, .bool false)]) (H1 := [(kg310 t1)]) (H2 := [(kg310 t1)]) rfl (by repeat (first | exact rzz | apply rcc rfl | apply rnn rfl)) rfl (?_ : GL _ _ _ _ _)
          refine L_F rfl rfl ?_
          refine L_exit ?_
          refine Sm_exit ?_
          refine Rd_exit ?_
          refine Blk_exit (?_ : GL _ _ _ _ _)
          refine L_nil ?_
          exact Sm_norm (e2 := []) (H1 := [(kg310 t1)]) (H2 := [(kg310 t1)]) rfl (by repeat (first | exact rzz | apply rcc rfl | apply rnn rfl)) rfl ⟨(), rfl, rfl, hr⟩
        · rintro y32 rest34 i33 ⟨⟩ hy32 hlti33 hr
          show GL _ _ [(5, .int .i64 ((i33 : Nat) : Int)), (1, .int .i64 left2), (2, .ptr 0 0)] [(kg310 t1)] _
          replace hr : y1j rec left2 (y32 :: rest34) i33 = some r := hr
          rw [y1j] at hr
          refine L_seq ?_
          refine L_stmt ?_
          refine L_seq ?_
          refine L_stmt ?_
          refine L_reg ?_
          refine G_p rfl rfl rfl ?_
          refine G_p rfl rfl rfl ?_
          refine G_h (v := .lst (List.map encTst t1.of) false) rfl rfl rfl (fun _ => rfl) ?_
          refine G_h rfl rfl rfl (lenL_ev rfl (List.length_map _)) ?_
          refine G_v (.bool true) rfl rfl rfl (congrArg AVal.bool (decide_eq_true (by omega))) ?_
          refine G_nil ?_
          refine L_nil ?_
          refine Sm_norm (e2 := [(1, .int .i64 left2), (2, .ptr 0 0), (5, .int .i64 ((i33 : Nat) : Int)), (18, .bool true)]) (H1 := [(kg310 t1)]) (H2 := [(kg310 t1)]) rfl (by repeat (first | exact rzz | apply rcc rfl | apply rnn rfl)) rfl (?_ : GL _ _ _ _ _)
          refine L_T rfl rfl ?_
          refine L_skip ?_
          refine L_nil ?_
          refine Sm_norm (e2 := [(1, .int .i64 left2), (2, .ptr 0 0), (5, .int .i64 ((i33 : Nat) : Int))]) (H1 := [(kg310 t1)]) (H2 := [(kg310 t1)]) rfl (by repeat (first | exact rzz | apply rcc rfl | apply rnn rfl)) rfl (?_ : GL _ _ _ _ _)
          refine L_seq ?_
          refine L_stmt ?_
          refine L_block ?_
          refine L_seq ?_
          refine L_stmt ?_
          refine L_reg ?_
          refine G_p rfl rfl rfl ?_
          refine G_h (v := .lst (List.map encTst t1.of) false) rfl rfl rfl (fun _ => rfl) ?_
          refine G_p rfl rfl rfl ?_
          refine G_h (v := .ro [.int .i64 y32.op, .int .i64 y32.var, .int .i64 y32.tags, .bool y32.yes, .lst (List.map encTst y32.of) false]) rfl rfl rfl (ia_ev (cells := [.int .i64 y32.op, .int .i64 y32.var, .int .i64 y32.tags, .bool y32.yes, .lst (List.map encTst y32.of) false]) rfl rfl (Int.natCast_nonneg _) (map_get (x := y32) (by rw [Int.toNat_natCast]; exact hy32)) (y20 _) rfl) ?_
          refine G_h (v := .agg (cTst y32)) rfl rfl rfl (fun _ => rfl) ?_
          refine G_p rfl rfl rfl ?_
          refine G_p rfl rfl rfl ?_
          obtain ⟨r36, hr36, hr⟩ := bind_s hr
          refine G_c 24 rfl rfl (CA_of (as := [.agg (cTst y32), .int .i64 (IntKind.wrap .i64 (left2 - 1))]) rfl (hrec _ _ _ hr36)) ?_
          refine G_p rfl rfl rfl ?_
          refine G_nil ?_
          refine L_nil ?_
          refine Sm_norm (e2 := [(1, .int .i64 left2), (2, .ptr 0 0), (5, .int .i64 ((i33 : Nat) : Int)), (29, .bool (!r36))]) (H1 := [(kg310 t1)]) (H2 := [(kg310 t1)]) rfl (by repeat (first | exact rzz | apply rcc rfl | apply rnn rfl)) rfl (?_ : GL _ _ _ _ _)
          rcases cond_s hr with ⟨hc29, hr⟩ | ⟨hc29, hr⟩
          · refine L_T rfl hc29 ?_
            refine L_seq ?_
            refine L_reg ?_
            refine G_p rfl rfl rfl ?_
            refine G_nil ?_
            refine L_ret ?_
            refine Blk_ret ?_
            refine Sm_ret ?_
            refine Rd_ret ?_
            refine Blk_ret ?_
            refine Sm_ret ?_
            have hr := some_s hr
            subst hr
            exact ⟨_, rfl, _, rfl, rfl⟩
          · refine L_F rfl hc29 ?_
            refine L_skip ?_
            refine L_nil ?_
            refine Blk_norm (?_ : GL _ _ _ _ _)
            refine L_nil ?_
            refine Sm_norm (e2 := [(1, .int .i64 left2), (2, .ptr 0 0), (5, .int .i64 ((i33 : Nat) : Int))]) (H1 := [(kg310 t1)]) (H2 := [(kg310 t1)]) rfl (by repeat (first | exact rzz | apply rcc rfl | apply rnn rfl)) rfl (?_ : GL _ _ _ _ _)
            refine L_reg ?_
            refine G_p rfl rfl rfl ?_
            refine G_v (.int .i64 ((i33 + 1 : Nat) : Int)) rfl rfl rfl (congrArg _ (wrap_next hLq31 hlti33)) ?_
            refine G_p rfl rfl rfl ?_
            refine G_nil ?_
            refine L_nil ?_
            refine Rd_norm ⟨(), ?_, rfl, hr⟩
            show restr _ _ = [(5, .int .i64 (((i33 + 1) : Nat) : Int)), (1, .int .i64 left2), (2, .ptr 0 0)]
            (repeat (first | exact rzz | apply rcc rfl | apply rnn rfl))
      · rintro ⟨⟩ hr
        show GL _ _ [] [(kg310 t1)] _
        replace hr : y2x = some r := hr
        unfold y2x at hr
        refine L_seq ?_
        refine L_reg ?_
        refine G_p rfl rfl rfl ?_
        refine G_nil ?_
        refine L_ret ?_
        have hr := some_s hr
        subst hr
        exact ⟨_, rfl, _, rfl, rfl⟩
noncomputable def y2b : Nat → Tst → Int → Option Bool
  | 0, _, _ => none
  | n + 1, t1, left2 => y36 (y2b n) t1 left2
theorem y5d : ∀ (n : Nat) {t1 : Tst} {left2 : Int} {r : Bool} (hr : y2b n t1 left2 = some r), PRes (tabOf tabL) 24 [.agg (cTst t1), .int .i64 left2] (.bool r)
  | 0, _, _, _, hr => by cases hr
  | n + 1, _, _, _, hr => y6w (fun _ _ _ h => y5d n h) hr
noncomputable def y4o (rec : Tst → Option Prp) (n : Nat) (t1 : Tst) : Option Prp :=
  (cond (decide (t1.op = 0)) ((g_r06_Is n t1.var t1.tags).bind fun r15 => some r15) (cond (decide (t1.op = 1)) ((y4p t1.var).bind fun r16 => some r16) (cond (decide (t1.op = 2)) ((y4q t1.yes).bind fun r17 => some r17) (cond (decide (t1.op = 3)) (cond (decide (0 < ((List.length t1.of : Nat) : Int))) ((idx t1.of 0).bind fun e18 => ((rec e18).bind fun r19 => ((g_r06_Not r19).bind fun r20 => some r20))) (some (Prp.mk (Fts.mk false []) (Fts.mk false [])))) (cond (decide (t1.op = 4)) (cond (decide (2 < ((List.length t1.of : Nat) : Int))) ((idx t1.of 0).bind fun e21 => ((rec e21).bind fun r22 => ((idx t1.of 1).bind fun e23 => ((rec e23).bind fun r24 => ((idx t1.of 2).bind fun e25 => ((rec e25).bind fun r26 => ((g_r06_If n r22 r24 r26).bind fun r27 => some r27))))))) (some (Prp.mk (Fts.mk false []) (Fts.mk false [])))) (some (Prp.mk (Fts.mk false []) (Fts.mk false []))))))))
abbrev kg313 (t1 : Tst) : ABlock := .cells [.int .i64 t1.op, .int .i64 t1.var, .int .i64 t1.tags, .bool t1.yes, .lst (List.map encTst t1.of) false]
abbrev kg314 : ABlock := .cells [.bool false, .lst [] true, .bool false, .lst [] true]
theorem y7r {rec : Tst → Option Prp} {n : Nat} {t1 : Tst} {r : Prp} (hrec : ∀ (a0 : Tst) (r : Prp), rec a0 = some r → PRes (tabOf tabL) 27 [.agg (cTst a0)] (.agg (cPrp r))) (hr : y4o rec n t1 = some r) : PRes (tabOf tabL) 27 [.agg (cTst t1)] (.agg (cPrp r)) := by
  refine pres_fin t27 ?_
  unfold y4o at hr
  refine L_seq ?_
  refine L_stmt ?_
  refine L_reg ?_
  refine G_n (B := (kg313 t1)) rfl rfl rfl ?_
  refine G_n (B := kg314) rfl rfl rfl ?_
  refine G_nil ?_
  refine L_nil ?_
  refine Sm_norm (e2 := [(1, .ptr 0 0), (2, .ptr 1 0)]) (H1 := [(kg313 t1), kg314]) (H2 := [(kg313 t1), kg314]) rfl (by repeat (first | exact rzz | apply rcc rfl | apply rnn rfl)) rfl (?_ : GL _ _ _ _ _)
  refine L_seq ?_
  refine L_stmt ?_
  refine L_seq ?_
  refine L_stmt ?_
  refine L_reg ?_
  refine G_p rfl rfl rfl ?_
  refine G_h rfl rfl rfl (fun _ => rfl) ?_
  refine G_nil ?_
  refine L_nil ?_
  refine Sm_norm (e2 := [(1, .ptr 0 0), (2, .ptr 1 0), (4, .int .i64 t1.op)]) (H1 := [(kg313 t1), kg314]) (H2 := [(kg313 t1), kg314]) rfl (by repeat (first | exact rzz | apply rcc rfl | apply rnn rfl)) rfl (?_ : GL _ _ _ _ _)
  refine L_block ?_
  refine L_seq ?_
  refine L_stmt ?_
  refine L_reg ?_
  refine G_p rfl rfl rfl ?_
  refine G_p rfl rfl rfl ?_
  refine G_nil ?_
  refine L_nil ?_
  refine Sm_norm (e2 := [(1, .ptr 0 0), (2, .ptr 1 0), (4, .int .i64 t1.op), (5, .bool (decide (t1.op = 0)))]) (H1 := [(kg313 t1), kg314]) (H2 := [(kg313 t1), kg314]) rfl (by repeat (first | exact rzz | apply rcc rfl | apply rnn rfl)) rfl (?_ : GL _ _ _ _ _)
  rcases cond_s hr with ⟨hc5, hr⟩ | ⟨hc5, hr⟩
  · refine L_T rfl hc5 ?_
    refine L_seq ?_
    refine L_reg ?_
    refine G_p rfl rfl rfl ?_
    refine G_h rfl rfl rfl (fun _ => rfl) ?_
    refine G_p rfl rfl rfl ?_
    refine G_h rfl rfl rfl (fun _ => rfl) ?_
    obtain ⟨r15, hr15, hr⟩ := bind_s hr
    refine G_c 54 rfl rfl (CA_of (as := [.int .i64 t1.var, .int .i64 t1.tags]) rfl (y8e hr15)) ?_
    refine G_hn (H' := [(kg313 t1), .cells [.bool r15.thn.never, .lst (List.map encFct r15.thn.l) false, .bool r15.els.never, .lst (List.map encFct r15.els.l) false]]) rfl rfl rfl (fun _ => rfl) ?_
    refine G_nil ?_
    refine L_ret ?_
    refine Blk_ret ?_
    refine Sm_ret ?_
    have hr := some_s hr
    subst hr
    exact ⟨_, rfl, _, rfl, rfl⟩
  · refine L_F rfl hc5 ?_
    refine L_seq ?_
    refine L_stmt ?_
    refine L_reg ?_
    refine G_p rfl rfl rfl ?_
    refine G_p rfl rfl rfl ?_
    refine G_nil ?_
    refine L_nil ?_
    refine Sm_norm (e2 := [(1, .ptr 0 0), (2, .ptr 1 0), (4, .int .i64 t1.op), (12, .bool (decide (t1.op = 1)))]) (H1 := [(kg313 t1), kg314]) (H2 := [(kg313 t1), kg314]) rfl (by repeat (first | exact rzz | apply rcc rfl | apply rnn rfl)) rfl (?_ : GL _ _ _ _ _)
    rcases cond_s hr with ⟨hc12, hr⟩ | ⟨hc12, hr⟩
    · refine L_T rfl hc12 ?_
      refine L_seq ?_
      refine L_reg ?_
      refine G_p rfl rfl rfl ?_
      refine G_h rfl rfl rfl (fun _ => rfl) ?_
      obtain ⟨r16, hr16, hr⟩ := bind_s hr
      refine G_c 55 rfl rfl (CA_of (as := [.int .i64 t1.var]) rfl (y7s hr16)) ?_
      refine G_hn (H' := [(kg313 t1), .cells [.bool r16.thn.never, .lst (List.map encFct r16.thn.l) false, .bool r16.els.never, .lst (List.map encFct r16.els.l) false]]) rfl rfl rfl (fun _ => rfl) ?_
      refine G_nil ?_
      refine L_ret ?_
      refine Blk_ret ?_
      refine Sm_ret ?_
      have hr := some_s hr
      subst hr
      exact ⟨_, rfl, _, rfl, rfl⟩
    · refine L_F rfl hc12 ?_
      refine L_seq ?_
      refine L_stmt ?_
      refine L_reg ?_
      refine G_p rfl rfl rfl ?_
      refine G_p rfl rfl rfl ?_
      refine G_nil ?_
      refine L_nil ?_
      refine Sm_norm (e2 := [(1, .ptr 0 0), (2, .ptr 1 0), (4, .int .i64 t1.op), (17, .bool (decide (t1.op = 2)))]) (H1 := [(kg313 t1), kg314]) (H2 := [(kg313 t1), kg314]) rfl (by repeat (first | exact rzz | apply rcc rfl | apply rnn rfl)) rfl (?_ : GL _ _ _ _ _)
      rcases cond_s hr with ⟨hc17, hr⟩ | ⟨hc17, hr⟩
      · refine L_T rfl hc17 ?_
        refine L_seq ?_
        refine L_reg ?_
        refine G_p rfl rfl rfl ?_
        refine G_h rfl rfl rfl (fun _ => rfl) ?_
        obtain ⟨r17, hr17, hr⟩ := bind_s hr
        refine G_c 56 rfl rfl (CA_of (as := [.bool t1.yes]) rfl (y7m hr17)) ?_
        refine G_hn (H' := [(kg313 t1), .cells [.bool r17.thn.never, .lst (List.map encFct r17.thn.l) false, .bool r17.els.never, .lst (List.map encFct r17.els.l) false]]) rfl rfl rfl (fun _ => rfl) ?_
        refine G_nil ?_
        refine L_ret ?_
        refine Blk_ret ?_
        refine Sm_ret ?_
        have hr := some_s hr
        subst hr
        exact ⟨_, rfl, _, rfl, rfl⟩
      · refine L_F rfl hc17 ?_
        refine L_seq ?_
        refine L_stmt ?_
        refine L_reg ?_
        refine G_p rfl rfl rfl ?_
        refine G_p rfl rfl rfl ?_
        refine G_nil ?_
        refine L_nil ?_
        refine Sm_norm (e2 := [(1, .ptr 0 0), (2, .ptr 1 0), (4, .int .i64 t1.op), (22, .bool (decide (t1.op = 3)))]) (H1 := [(kg313 t1), kg314]) (H2 := [(kg313 t1), kg314]) rfl (by repeat (first | exact rzz | apply rcc rfl | apply rnn rfl)) rfl (?_ : GL _ _ _ _ _)
        rcases cond_s hr with ⟨hc22, hr⟩ | ⟨hc22, hr⟩
        · refine L_T rfl hc22 ?_
          refine L_seq ?_
          refine L_stmt ?_
          refine L_reg ?_
          refine G_p rfl rfl rfl ?_
          refine G_h (v := .lst (List.map encTst t1.of) false) rfl rfl rfl (fun _ => rfl) ?_
          refine G_h rfl rfl rfl (lenL_ev rfl (List.length_map _)) ?_
          refine G_p rfl rfl rfl ?_
          refine G_nil ?_
          refine L_nil ?_
          refine Sm_norm (e2 := [(1, .ptr 0 0), (2, .ptr 1 0), (27, .bool (decide (0 < ((List.length t1.of : Nat) : Int))))]) (H1 := [(kg313 t1), kg314]) (H2 := [(kg313 t1), kg314]) rfl (by repeat (first | exact rzz | apply rcc rfl | apply rnn rfl)) rfl (?_ : GL _ _ _ _ _)
          rcases cond_s hr with ⟨hc27, hr⟩ | ⟨hc27, hr⟩
          · refine L_T rfl hc27 ?_
            refine L_seq ?_
            refine L_reg ?_
            refine G_p rfl rfl rfl ?_
            refine G_h (v := .lst (List.map encTst t1.of) false) rfl rfl rfl (fun _ => rfl) ?_
            obtain ⟨e18, he18, hr⟩ := bind_s hr
            refine G_h (v := .ro [.int .i64 e18.op, .int .i64 e18.var, .int .i64 e18.tags, .bool e18.yes, .lst (List.map encTst e18.of) false]) rfl rfl rfl (ia_ev (cells := [.int .i64 e18.op, .int .i64 e18.var, .int .i64 e18.tags, .bool e18.yes, .lst (List.map encTst e18.of) false]) rfl rfl (idx_s he18).1 (map_get (x := e18) (idx_s he18).2) (y20 _) rfl) ?_
            refine G_h (v := .agg (cTst e18)) rfl rfl rfl (fun _ => rfl) ?_
            obtain ⟨r19, hr19, hr⟩ := bind_s hr
            refine G_c 27 rfl rfl (CA_of (as := [.agg (cTst e18)]) rfl (hrec _ _ hr19)) ?_
            obtain ⟨r20, hr20, hr⟩ := bind_s hr
            refine G_c 57 rfl rfl (CA_of (as := [.agg (cPrp r19)]) rfl (y82 hr20)) ?_
            refine G_hn (H' := [(kg313 t1), .cells [.bool r20.thn.never, .lst (List.map encFct r20.thn.l) false, .bool r20.els.never, .lst (List.map encFct r20.els.l) false]]) rfl rfl rfl (fun _ => rfl) ?_
            refine G_nil ?_
            refine L_ret ?_
            refine Blk_ret ?_
            refine Sm_ret ?_
            have hr := some_s hr
            subst hr
            exact ⟨_, rfl, _, rfl, rfl⟩
          · refine L_F rfl hc27 ?_
            refine L_skip ?_
            refine L_nil ?_
            refine Blk_norm (?_ : GL _ _ _ _ _)
            refine L_nil ?_
            refine Sm_norm (e2 := [(2, .ptr 1 0)]) (H1 := [(kg313 t1), kg314]) (H2 := [(kg313 t1), kg314]) rfl (by repeat (first | exact rzz | apply rcc rfl | apply rnn rfl)) rfl (?_ : GL _ _ _ _ _)
            refine L_seq ?_
            refine L_reg ?_
            refine G_p (v := .agg [.bool false, .lst [] true, .bool false, .lst [] true]) rfl rfl rfl ?_
            refine G_hn (H' := [(kg313 t1), kg314]) rfl rfl rfl (fun _ => rfl) ?_
            refine G_nil ?_
            refine L_ret ?_
            have hr := some_s hr
            subst hr
            exact ⟨_, rfl, _, rfl, rfl⟩
        · refine L_F rfl hc22 ?_
          refine L_seq ?_
          refine L_stmt ?_
          refine L_reg ?_
          refine G_p rfl rfl rfl ?_
          refine G_p rfl rfl rfl ?_
          refine G_nil ?_
          refine L_nil ?_
          refine Sm_norm (e2 := [(1, .ptr 0 0), (2, .ptr 1 0), (34, .bool (decide (t1.op = 4)))]) (H1 := [(kg313 t1), kg314]) (H2 := [(kg313 t1), kg314]) rfl (by repeat (first | exact rzz | apply rcc rfl | apply rnn rfl)) rfl (?_ : GL _ _ _ _ _)
          rcases cond_s hr with ⟨hc34, hr⟩ | ⟨hc34, hr⟩
          · refine L_T rfl hc34 ?_
            refine L_seq ?_
            refine L_stmt ?_
            refine L_reg ?_
            refine G_p rfl rfl rfl ?_
            refine G_h (v := .lst (List.map encTst t1.of) false) rfl rfl rfl (fun _ => rfl) ?_
            refine G_h rfl rfl rfl (lenL_ev rfl (List.length_map _)) ?_
            refine G_p rfl rfl rfl ?_
            refine G_nil ?_
            refine L_nil ?_
            refine Sm_norm (e2 := [(1, .ptr 0 0), (2, .ptr 1 0), (39, .bool (decide (2 < ((List.length t1.of : Nat) : Int))))]) (H1 := [(kg313 t1), kg314]) (H2 := [(kg313 t1), kg314]) rfl (by repeat (first | exact rzz | apply rcc rfl | apply rnn rfl)) rfl (?_ : GL _ _ _ _ _)
            rcases cond_s hr with ⟨hc39, hr⟩ | ⟨hc39, hr⟩
            · refine L_T rfl hc39 ?_
              refine L_seq ?_
              refine L_drawT [] rfl ?_
              refine GS_p rfl rfl rfl ?_
              refine GS_h (d := some 41) (v := .lst (List.map encTst t1.of) false) rfl rfl rfl rfl (fun _ => rfl) ?_
              obtain ⟨e21, he21, hr⟩ := bind_s hr
              refine GS_h (d := some 42) (v := .ro [.int .i64 e21.op, .int .i64 e21.var, .int .i64 e21.tags, .bool e21.yes, .lst (List.map encTst e21.of) false]) rfl rfl rfl rfl (ia_ev (cells := [.int .i64 e21.op, .int .i64 e21.var, .int .i64 e21.tags, .bool e21.yes, .lst (List.map encTst e21.of) false]) rfl rfl (idx_s he21).1 (map_get (x := e21) (idx_s he21).2) (y20 _) rfl) ?_
              refine GS_h (d := some 43) (v := .agg (cTst e21)) rfl rfl rfl rfl (fun _ => rfl) ?_
              obtain ⟨r22, hr22, hr⟩ := bind_s hr
              refine GS_c 27 rfl rfl rfl (CA_of (as := [.agg (cTst e21)]) rfl (hrec _ _ hr22)) ?_
              refine GS_p rfl rfl rfl ?_
              refine GS_h (d := some 46) (v := .lst (List.map encTst t1.of) false) rfl rfl rfl rfl (fun _ => rfl) ?_
              obtain ⟨e23, he23, hr⟩ := bind_s hr
              refine GS_h (d := some 47) (v := .ro [.int .i64 e23.op, .int .i64 e23.var, .int .i64 e23.tags, .bool e23.yes, .lst (List.map encTst e23.of) false]) rfl rfl rfl rfl (ia_ev (cells := [.int .i64 e23.op, .int .i64 e23.var, .int .i64 e23.tags, .bool e23.yes, .lst (List.map encTst e23.of) false]) rfl rfl (idx_s he23).1 (map_get (x := e23) (idx_s he23).2) (y20 _) rfl) ?_
              refine GS_h (d := some 48) (v := .agg (cTst e23)) rfl rfl rfl rfl (fun _ => rfl) ?_
              obtain ⟨r24, hr24, hr⟩ := bind_s hr
              refine GS_c 27 rfl rfl rfl (CA_of (as := [.agg (cTst e23)]) rfl (hrec _ _ hr24)) ?_
              refine GS_p rfl rfl rfl ?_
              refine GS_h (d := some 51) (v := .lst (List.map encTst t1.of) false) rfl rfl rfl rfl (fun _ => rfl) ?_
              obtain ⟨e25, he25, hr⟩ := bind_s hr
              refine GS_h (d := some 52) (v := .ro [.int .i64 e25.op, .int .i64 e25.var, .int .i64 e25.tags, .bool e25.yes, .lst (List.map encTst e25.of) false]) rfl rfl rfl rfl (ia_ev (cells := [.int .i64 e25.op, .int .i64 e25.var, .int .i64 e25.tags, .bool e25.yes, .lst (List.map encTst e25.of) false]) rfl rfl (idx_s he25).1 (map_get (x := e25) (idx_s he25).2) (y20 _) rfl) ?_
              refine GS_h (d := some 53) (v := .agg (cTst e25)) rfl rfl rfl rfl (fun _ => rfl) ?_
              obtain ⟨r26, hr26, hr⟩ := bind_s hr
              refine GS_c 27 rfl rfl rfl (CA_of (as := [.agg (cTst e25)]) rfl (hrec _ _ hr26)) ?_
              obtain ⟨r27, hr27, hr⟩ := bind_s hr
              refine GS_c 58 rfl rfl rfl (CA_of (as := [.agg (cPrp r22), .agg (cPrp r24), .agg (cPrp r26)]) rfl (y8i hr27)) ?_
              refine GS_h (d := none) (H' := [(kg313 t1), .cells [.bool r27.thn.never, .lst (List.map encFct r27.thn.l) false, .bool r27.els.never, .lst (List.map encFct r27.els.l) false]]) rfl rfl rfl rfl (fun _ => rfl) ?_
              refine GS_nil ?_
              refine L_ret ?_
              refine Blk_ret ?_
              refine Sm_ret ?_
              have hr := some_s hr
              subst hr
              exact ⟨_, rfl, _, rfl, rfl⟩
            · refine L_F rfl hc39 ?_
              refine L_skip ?_
              refine L_nil ?_
              refine Blk_norm (?_ : GL _ _ _ _ _)
              refine L_nil ?_
              refine Sm_norm (e2 := [(2, .ptr 1 0)]) (H1 := [(kg313 t1), kg314]) (H2 := [(kg313 t1), kg314]) rfl (by repeat (first | exact rzz | apply rcc rfl | apply rnn rfl)) rfl (?_ : GL _ _ _ _ _)
              refine L_seq ?_
              refine L_reg ?_
              refine G_p (v := .agg [.bool false, .lst [] true, .bool false, .lst [] true]) rfl rfl rfl ?_
              refine G_hn (H' := [(kg313 t1), kg314]) rfl rfl rfl (fun _ => rfl) ?_
              refine G_nil ?_
              refine L_ret ?_
              have hr := some_s hr
              subst hr
              exact ⟨_, rfl, _, rfl, rfl⟩
          · refine L_F rfl hc34 ?_
            refine L_skip ?_
            refine L_nil ?_
            refine Blk_norm (?_ : GL _ _ _ _ _)
            refine L_nil ?_
            refine Sm_norm (e2 := [(2, .ptr 1 0)]) (H1 := [(kg313 t1), kg314]) (H2 := [(kg313 t1), kg314]) rfl (by repeat (first | exact rzz | apply rcc rfl | apply rnn rfl)) rfl (?_ : GL _ _ _ _ _)
            refine L_seq ?_
            refine L_reg ?_
            refine G_p (v := .agg [.bool false, .lst [] true, .bool false, .lst [] true]) rfl rfl rfl ?_
            refine G_hn (H' := [(kg313 t1), kg314]) rfl rfl rfl (fun _ => rfl) ?_
            refine G_nil ?_
            refine L_ret ?_
            have hr := some_s hr
            subst hr
            exact ⟨_, rfl, _, rfl, rfl⟩
noncomputable def g_w06_own : Nat → Tst → Option Prp
  | 0, _ => none
  | n + 1, t1 => y4o (g_w06_own n) n t1
theorem y63 : ∀ (n : Nat) {t1 : Tst} {r : Prp} (hr : g_w06_own n t1 = some r), PRes (tabOf tabL) 27 [.agg (cTst t1)] (.agg (cPrp r))
  | 0, _, _, hr => by cases hr
  | n + 1, _, _, hr => y7r (fun _ _ h => y63 n h) hr
noncomputable def y2i (v1 : Int) (tags2 : Int) : Option Fts :=
  (cond (decide (v1 = v1) && (decide ((andB .i64 tags2 255) = 255) && true)) (some (Fts.mk false [])) (some (Fts.mk false [(Fct.mk v1 (andB .i64 tags2 255))])))
theorem y45 {v1 : Int} {tags2 : Int} {r : Fts} (hr : y2i v1 tags2 = some r) : PRes (tabOf tabL) 67 [.int .i64 v1, .int .i64 tags2] (.agg (cFts r)) := by
  refine pres_fin t67 ?_
  unfold y2i at hr
  refine L_seq ?_
  refine L_stmt ?_
  refine L_reg ?_
  refine G_n (B := .cells [.bool false, .lst [] true]) rfl rfl rfl ?_
  refine G_nil ?_
  refine L_nil ?_
  refine Sm_norm (e2 := [(0, .int .i64 v1), (1, .int .i64 tags2), (4, .ptr 0 0)]) (H1 := [.cells [.bool false, .lst [] true]]) (H2 := [.cells [.bool false, .lst [] true]]) rfl (by repeat (first | exact rzz | apply rcc rfl | apply rnn rfl)) rfl (?_ : GL _ _ _ _ _)
  refine L_seq ?_
  refine L_stmt ?_
  refine L_reg ?_
  refine G_p rfl rfl rfl ?_
  refine G_p rfl rfl rfl ?_
  refine G_p rfl rfl rfl ?_
  refine G_p (v := .agg [.int .i64 v1, .int .i64 (andB .i64 tags2 255)]) rfl rfl rfl ?_
  refine G_n (B := .cells [.int .i64 0, .int .i64 0]) rfl rfl rfl ?_
  refine G_hn (H' := [.cells [.bool false, .lst [] true], .cells [.int .i64 v1, .int .i64 (andB .i64 tags2 255)]]) rfl rfl rfl (fun _ => rfl) ?_
  refine G_nil ?_
  refine L_nil ?_
  refine Sm_norm (e2 := [(0, .int .i64 v1), (4, .ptr 0 0), (5, .ptr 1 0)]) (H1 := [.cells [.bool false, .lst [] true], .cells [.int .i64 v1, .int .i64 (andB .i64 tags2 255)]]) (H2 := [.cells [.bool false, .lst [] true], .cells [.int .i64 v1, .int .i64 (andB .i64 tags2 255)]]) rfl (by repeat (first | exact rzz | apply rcc rfl | apply rnn rfl)) rfl (?_ : GL _ _ _ _ _)
  refine L_seq ?_
  refine L_stmt ?_
  refine L_seq ?_
  refine L_stmt ?_
  refine L_reg ?_
  refine G_h (v := .agg [.int .i64 v1, .int .i64 (andB .i64 tags2 255)]) rfl rfl rfl (fun _ => rfl) ?_
  refine G_p rfl rfl rfl ?_
  refine G_p (v := .agg [.int .i64 v1, .int .i64 255]) rfl rfl rfl ?_
  refine G_p rfl rfl rfl ?_
  refine G_nil ?_
  refine L_nil ?_
  refine Sm_norm (e2 := [(4, .ptr 0 0), (5, .ptr 1 0), (13, .bool (decide (v1 = v1) && (decide ((andB .i64 tags2 255) = 255) && true)))]) (H1 := [.cells [.bool false, .lst [] true], .cells [.int .i64 v1, .int .i64 (andB .i64 tags2 255)]]) (H2 := [.cells [.bool false, .lst [] true], .cells [.int .i64 v1, .int .i64 (andB .i64 tags2 255)]]) rfl (by repeat (first | exact rzz | apply rcc rfl | apply rnn rfl)) rfl (?_ : GL _ _ _ _ _)
  rcases cond_s hr with ⟨hc13, hr⟩ | ⟨hc13, hr⟩
  · refine L_T rfl hc13 ?_
    refine L_seq ?_
    refine L_reg ?_
    refine G_p (v := .agg [.bool false, .lst [] true]) rfl rfl rfl ?_
    refine G_hn (H' := [.cells [.bool false, .lst [] true], .cells [.int .i64 v1, .int .i64 (andB .i64 tags2 255)]]) rfl rfl rfl (fun _ => rfl) ?_
    refine G_nil ?_
    refine L_ret ?_
    refine Sm_ret ?_
    have hr := some_s hr
    subst hr
    exact ⟨_, rfl, _, rfl, rfl⟩
  · refine L_F rfl hc13 ?_
    refine L_skip ?_
    refine L_nil ?_
    refine Sm_norm (e2 := [(4, .ptr 0 0), (5, .ptr 1 0)]) (H1 := [.cells [.bool false, .lst [] true], .cells [.int .i64 v1, .int .i64 (andB .i64 tags2 255)]]) (H2 := [.cells [.bool false, .lst [] true], .cells [.int .i64 v1, .int .i64 (andB .i64 tags2 255)]]) rfl (by repeat (first | exact rzz | apply rcc rfl | apply rnn rfl)) rfl (?_ : GL _ _ _ _ _)
    refine L_seq ?_
    refine L_reg ?_
    refine G_h (v := .agg [.int .i64 v1, .int .i64 (andB .i64 tags2 255)]) rfl rfl rfl (fun _ => rfl) ?_
    refine G_h (v := .lst (List.map encFct [(Fct.mk v1 (andB .i64 tags2 255))]) true) rfl rfl rfl (fun _ => Eq.trans (b := some (Ex.ok (AVal.lst [.agg [.int .i64 v1, .int .i64 (andB .i64 tags2 255)]] true), _)) rfl (congrArg (fun z => some (Ex.ok (AVal.lst z true), _)) (by first | rfl | (simp only [List.map_cons, List.map_nil, encFct_eq] <;> rfl)))) ?_
    refine G_p (v := .agg [.bool false, .lst (List.map encFct [(Fct.mk v1 (andB .i64 tags2 255))]) true]) rfl rfl rfl ?_
    refine G_hn (H' := [.cells [.bool false, .lst (List.map encFct [(Fct.mk v1 (andB .i64 tags2 255))]) true], .cells [.int .i64 v1, .int .i64 (andB .i64 tags2 255)]]) rfl rfl rfl (fun _ => rfl) ?_
    refine G_nil ?_
    refine L_ret ?_
    have hr := some_s hr
    subst hr
    exact ⟨_, rfl, _, rfl, rfl⟩
noncomputable def y3s (v1 : Int) (tags2 : Int) : Option Prp :=
  ((y2i v1 tags2).bind fun r3 => ((y2i v1 (notB .i64 tags2)).bind fun r4 => some (Prp.mk r3 r4)))
abbrev kg315 : ABlock := .cells [.bool false, .lst [] true, .bool false, .lst [] true]
theorem y7n {v1 : Int} {tags2 : Int} {r : Prp} (hr : y3s v1 tags2 = some r) : PRes (tabOf tabL) 34 [.int .i64 v1, .int .i64 tags2] (.agg (cPrp r)) := by
  refine pres_fin t34 ?_
  unfold y3s at hr
  refine L_seq ?_
  refine L_stmt ?_
  refine L_reg ?_
  refine G_n (B := kg315) rfl rfl rfl ?_
  refine G_nil ?_
  refine L_nil ?_
  refine Sm_norm (e2 := [(0, .int .i64 v1), (1, .int .i64 tags2), (4, .ptr 0 0)]) (H1 := [kg315]) (H2 := [kg315]) rfl (by repeat (first | exact rzz | apply rcc rfl | apply rnn rfl)) rfl (?_ : GL _ _ _ _ _)
  refine L_seq ?_
  refine L_reg ?_
  refine G_p rfl rfl rfl ?_
  refine G_p rfl rfl rfl ?_
  obtain ⟨r3, hr3, hr⟩ := bind_s hr
  refine G_c 67 rfl rfl (CA_of (as := [.int .i64 v1, .int .i64 tags2]) rfl (y45 hr3)) ?_
  refine G_p rfl rfl rfl ?_
  refine G_p rfl rfl rfl ?_
  refine G_p rfl rfl rfl ?_
  obtain ⟨r4, hr4, hr⟩ := bind_s hr
  refine G_c 67 rfl rfl (CA_of (as := [.int .i64 v1, .int .i64 (notB .i64 tags2)]) rfl (y45 hr4)) ?_
  refine G_p (v := .agg [.bool r3.never, .lst (List.map encFct r3.l) false, .bool r4.never, .lst (List.map encFct r4.l) false]) rfl rfl rfl ?_
  refine G_hn (H' := [.cells [.bool r3.never, .lst (List.map encFct r3.l) false, .bool r4.never, .lst (List.map encFct r4.l) false]]) rfl rfl rfl (fun _ => rfl) ?_
  refine G_nil ?_
  refine L_ret ?_
  have hr := some_s hr
  subst hr
  exact ⟨_, rfl, _, rfl, rfl⟩
noncomputable def y2z (v1 : Int) : Option Prp :=
  ((y2i v1 2).bind fun r2 => some (Prp.mk (Fts.mk false []) r2))
abbrev kg316 : ABlock := .cells [.bool false, .lst [] true, .bool false, .lst [] true]
theorem y69 {v1 : Int} {r : Prp} (hr : y2z v1 = some r) : PRes (tabOf tabL) 51 [.int .i64 v1] (.agg (cPrp r)) := by
  refine pres_fin t51 ?_
  unfold y2z at hr
  refine L_seq ?_
  refine L_stmt ?_
  refine L_reg ?_
  refine G_n (B := kg316) rfl rfl rfl ?_
  refine G_nil ?_
  refine L_nil ?_
  refine Sm_norm (e2 := [(0, .int .i64 v1), (2, .ptr 0 0)]) (H1 := [kg316]) (H2 := [kg316]) rfl (by repeat (first | exact rzz | apply rcc rfl | apply rnn rfl)) rfl (?_ : GL _ _ _ _ _)
  refine L_seq ?_
  refine L_reg ?_
  refine G_p rfl rfl rfl ?_
  obtain ⟨r2, hr2, hr⟩ := bind_s hr
  refine G_c 67 rfl rfl (CA_of (as := [.int .i64 v1, .int .i64 2]) rfl (y45 hr2)) ?_
  refine G_p (v := .agg [.bool false, .lst [] true, .bool r2.never, .lst (List.map encFct r2.l) false]) rfl rfl rfl ?_
  refine G_hn (H' := [.cells [.bool false, .lst [] true, .bool r2.never, .lst (List.map encFct r2.l) false]]) rfl rfl rfl (fun _ => rfl) ?_
  refine G_nil ?_
  refine L_ret ?_
  have hr := some_s hr
  subst hr
  exact ⟨_, rfl, _, rfl, rfl⟩
noncomputable def y3j (is1 : Bool) : Option Prp :=
  some (Prp.mk (Fts.mk (!is1) []) (Fts.mk is1 []))
abbrev kg317 : ABlock := .cells [.bool false, .lst [] true, .bool false, .lst [] true]
theorem y68 {is1 : Bool} {r : Prp} (hr : y3j is1 = some r) : PRes (tabOf tabL) 35 [.bool is1] (.agg (cPrp r)) := by
  refine pres_fin t35 ?_
  unfold y3j at hr
  refine L_seq ?_
  refine L_stmt ?_
  refine L_reg ?_
  refine G_n (B := kg317) rfl rfl rfl ?_
  refine G_nil ?_
  refine L_nil ?_
  refine Sm_norm (e2 := [(0, .bool is1), (2, .ptr 0 0)]) (H1 := [kg317]) (H2 := [kg317]) rfl (by repeat (first | exact rzz | apply rcc rfl | apply rnn rfl)) rfl (?_ : GL _ _ _ _ _)
  refine L_seq ?_
  refine L_reg ?_
  refine G_p rfl rfl rfl ?_
  refine G_p rfl rfl rfl ?_
  refine G_p (v := .agg [.bool (!is1), .lst [] true]) rfl rfl rfl ?_
  refine G_p rfl rfl rfl ?_
  refine G_p (v := .agg [.bool is1, .lst [] true]) rfl rfl rfl ?_
  refine G_p (v := .agg [.bool (!is1), .lst [] true, .bool is1, .lst [] true]) rfl rfl rfl ?_
  refine G_hn (H' := [.cells [.bool (!is1), .lst [] true, .bool is1, .lst [] true]]) rfl rfl rfl (fun _ => rfl) ?_
  refine G_nil ?_
  refine L_ret ?_
  have hr := some_s hr
  subst hr
  exact ⟨_, rfl, _, rfl, rfl⟩
noncomputable def y1t : Option Prp :=
  some (Prp.mk (Fts.mk false []) (Fts.mk false []))
abbrev kg318 : ABlock := .cells [.bool false, .lst [] true, .bool false, .lst [] true]
theorem y3z {r : Prp} (hr : y1t = some r) : PRes (tabOf tabL) 53 [] (.agg (cPrp r)) := by
  refine pres_fin t53 ?_
  unfold y1t at hr
  refine L_seq ?_
  refine L_stmt ?_
  refine L_reg ?_
  refine G_n (B := kg318) rfl rfl rfl ?_
  refine G_nil ?_
  refine L_nil ?_
  refine Sm_norm (e2 := [(0, .ptr 0 0)]) (H1 := [kg318]) (H2 := [kg318]) rfl (by repeat (first | exact rzz | apply rcc rfl | apply rnn rfl)) rfl (?_ : GL _ _ _ _ _)
  refine L_seq ?_
  refine L_reg ?_
  refine G_p (v := .agg [.bool false, .lst [] true, .bool false, .lst [] true]) rfl rfl rfl ?_
  refine G_hn (H' := [kg318]) rfl rfl rfl (fun _ => rfl) ?_
  refine G_nil ?_
  refine L_ret ?_
  have hr := some_s hr
  subst hr
  exact ⟨_, rfl, _, rfl, rfl⟩
noncomputable def y4b (p1 : Prp) : Option Prp :=
  some (Prp.mk p1.els p1.thn)
abbrev kg319 (p1 : Prp) : ABlock := .cells [.bool p1.thn.never, .lst (List.map encFct p1.thn.l) false, .bool p1.els.never, .lst (List.map encFct p1.els.l) false]
abbrev kg320 : ABlock := .cells [.bool false, .lst [] true, .bool false, .lst [] true]
theorem y73 {p1 : Prp} {r : Prp} (hr : y4b p1 = some r) : PRes (tabOf tabL) 52 [.agg (cPrp p1)] (.agg (cPrp r)) := by
  refine pres_fin t52 ?_
  unfold y4b at hr
  refine L_seq ?_
  refine L_stmt ?_
  refine L_reg ?_
  refine G_n (B := (kg319 p1)) rfl rfl rfl ?_
  refine G_n (B := kg320) rfl rfl rfl ?_
  refine G_nil ?_
  refine L_nil ?_
  refine Sm_norm (e2 := [(1, .ptr 0 0), (2, .ptr 1 0)]) (H1 := [(kg319 p1), kg320]) (H2 := [(kg319 p1), kg320]) rfl (by repeat (first | exact rzz | apply rcc rfl | apply rnn rfl)) rfl (?_ : GL _ _ _ _ _)
  refine L_seq ?_
  refine L_reg ?_
  refine G_p rfl rfl rfl ?_
  refine G_h (v := .agg (cFts p1.els)) rfl rfl rfl (fun _ => rfl) ?_
  refine G_p rfl rfl rfl ?_
  refine G_h (v := .agg (cFts p1.thn)) rfl rfl rfl (fun _ => rfl) ?_
  refine G_p (v := .agg [.bool p1.els.never, .lst (List.map encFct p1.els.l) false, .bool p1.thn.never, .lst (List.map encFct p1.thn.l) false]) rfl rfl rfl ?_
  refine G_hn (H' := [(kg319 p1), .cells [.bool p1.els.never, .lst (List.map encFct p1.els.l) false, .bool p1.thn.never, .lst (List.map encFct p1.thn.l) false]]) rfl rfl rfl (fun _ => rfl) ?_
  refine G_nil ?_
  refine L_ret ?_
  have hr := some_s hr
  subst hr
  exact ⟨_, rfl, _, rfl, rfl⟩
end Go.Ev.Seat
namespace Go.Ev.Seat
set_option linter.unusedVariables false
set_option linter.unusedSimpArgs false
open Go Go.Ev
theorem tags_l2 (v : Int) : ∀ (l : List Fct) (i : Nat) (a : Nat), a < 256 → y1f v l i (a : Nat) = some (((a &&& tgN l v : Nat) : Nat) : Int)
  | [], i, a, h => by rw [y1f, y37]; simp only [tgN, and255 h]
  | f :: l, i, a, h => by
    rw [y1f]
    by_cases hc : f.var = v
    · have h2 : a &&& lowN f.tags < 256 := Nat.lt_of_le_of_lt Nat.and_le_left h
      rw [decide_eq_true hc, cond_true, g_r06_low, Option.bind_some, low_eq, and_nat h (lowN_lt _), tags_l2 v l (i + 1) _ h2]
      simp only [tgN, if_pos hc, Nat.and_assoc]
    · rw [decide_eq_false hc, cond_false, tags_l2 v l (i + 1) a h]
      simp only [tgN, if_neg hc]
theorem tags_r (f : Fts) (v : Int) (h : f.l.length < 10000000000) : y2q f v = some ((tgN f.l v : Nat) : Int) := by
  unfold y2q
  rw [okLen_of (by omega), cond_true]
  have := tags_l2 v f.l 0 255 (by decide)
  rw [Nat.and_comm, and255 (tgN_lt _ _)] at this
  exact this
theorem has_l2 (v : Int) : ∀ (l : List Fct) (i : Nat), y1o v l i = some (decide (v ∈ l.map (·.var)))
  | [], i => by rw [y1o, y3d]; simp
  | f :: l, i => by
    rw [y1o]
    by_cases hc : f.var = v
    · rw [decide_eq_true hc, cond_true]; simp [hc]
    · rw [decide_eq_false hc, cond_false, has_l2 v l (i + 1)]
      congr 1
      apply decide_eq_decide.2
      rw [List.map_cons, List.mem_cons]
      constructor
      · exact .inr
      · rintro (h | h)
        · exact absurd h.symm hc
        · exact h
theorem has_r (f : Fts) (v : Int) (h : f.l.length < 10000000000) : g_r06_has f v = some (decide (v ∈ f.l.map (·.var))) := by
  unfold g_r06_has
  rw [okLen_of (by omega), cond_true]; exact has_l2 v f.l 0
theorem subL_of {α : Type} (A B : List α) : subL (A ++ B) 0 ((A.length : Nat) : Int) = some A ∧ subL (A ++ B) ((A.length : Nat) : Int) ((List.length (A ++ B) : Nat) : Int) = some B := by
  constructor
  · unfold subL; rw [if_pos ⟨by omega, by omega, by simp; omega⟩]; simp
  · unfold subL; rw [if_pos ⟨by omega, by simp; omega, by omega⟩, Int.toNat_natCast, Int.toNat_natCast, List.take_length, List.drop_left]
theorem ins_l5 (y : Fct) (K : List Int → Option (List Int)) (l : List Int) (hl : l.length < 10000000000) : ∀ (rest P : List Int), l = P ++ rest → y1k l y K rest P.length = K (P ++ insV y.var rest)
  | [], P, h => by
    simp only [List.append_nil] at h
    subst h
    have h1 := (subL_of l []).1
    have h2 := (subL_of l []).2
    simp only [List.append_nil] at h1 h2
    rw [y1k, y28, decide_eq_true rfl, cond_true, Option.bind_some, cond_true, h1, Option.bind_some, okLen_of (by omega), cond_true, catL_of (by simp; omega), Option.bind_some, h2, Option.bind_some, catL_of (by simp; omega), Option.bind_some, y1u]
    simp [insV]
  | w :: rest, P, h => by
    subst h
    rw [y1k]
    simp only [List.length_append, List.length_cons] at hl
    by_cases hw : w < y.var
    · rw [decide_eq_true hw, cond_true]
      have := ins_l5 y K (P ++ w :: rest) (by simp; omega) rest (P ++ [w]) (by simp)
      have e4 : ((P ++ [w]).length : Nat) = P.length + 1 := by simp
      rw [e4] at this
      rw [this]
      congr 1
      have h1 : ¬ y.var < w := by omega
      have h2 : ¬ y.var = w := by omega
      simp [insV, h1, h2]
    · have e1 : decide (((P.length : Nat) : Int) = ((List.length (P ++ w :: rest) : Nat) : Int)) = false := by simp; omega
      rw [decide_eq_false hw, cond_false, y28, e1, cond_false, idx_at (A := P) (B := rest) rfl rfl, Option.bind_some, Option.bind_some]
      by_cases he : w = y.var
      · subst he
        rw [decide_eq_true rfl, Bool.not_true, cond_false, y1u]
        simp [insV]
      · have h1 := (subL_of P (w :: rest)).1
        have h2 := (subL_of P (w :: rest)).2
        rw [decide_eq_false he, Bool.not_false, cond_true, h1, Option.bind_some, okLen_of (by omega), cond_true, catL_of (by simp; omega), Option.bind_some, h2, Option.bind_some, catL_of (by simp; omega), Option.bind_some, y1u]
        have h3 : y.var < w := by omega
        simp [insV, h3]
theorem vars_l2 : ∀ (l : List Fct) (i : Nat) (acc : List Int), acc.length + l.length < 10000000000 → y0r l i acc = some (l.foldl (fun a f => insV f.var a) acc)
  | [], i, acc, h => by rw [y0r, y38]; rfl
  | f :: l, i, acc, h => by
    simp only [List.length_cons] at h
    have := insV_len f.var acc
    have h5 := ins_l5 f (y0r l (i + 1)) acc (by omega) acc [] rfl
    rw [List.length_nil, List.nil_append] at h5
    rw [y0r, okLen_of (by omega), cond_true, h5, vars_l2 l (i + 1) _ (by omega)]; rfl
theorem foldV_mem : ∀ (l : List Fct) (acc : List Int) (x : Int), x ∈ l.foldl (fun a f => insV f.var a) acc ↔ x ∈ acc ∨ x ∈ l.map (·.var)
  | [], acc, x => by simp
  | f :: l, acc, x => by
    rw [List.foldl_cons, foldV_mem l _ x, insV_mem, List.map_cons, List.mem_cons]
    constructor
    · rintro ((h | h) | h) <;> simp [h]
    · rintro (h | h | h) <;> simp [h]
theorem foldV_ris : ∀ (l : List Fct) (acc : List Int), Ris acc → Ris (l.foldl (fun a f => insV f.var a) acc)
  | [], acc, h => h
  | f :: l, acc, h => foldV_ris l _ (insV_ris _ h)
theorem vars_r (a b : Fts) (n : Nat) (h : a.l.length + b.l.length ≤ 1000000) : y3m n a b = some (vsF (a.l ++ b.l)) := by
  unfold y3m
  rw [okLen_of (by omega), cond_true, catL_of (by omega), Option.bind_some, y3a, okLen_of (by simp; omega), cond_true, vars_l2 _ 0 [] (by simp; omega)]
  congr 1
  exact ris_eq (foldV_ris _ _ List.Pairwise.nil) (vsF_ris _) fun v => by rw [foldV_mem, vsF_mem]; simp
theorem and_l2 (a b : Fts) (ha : a.l.length < 10000000000) (hb : b.l.length < 10000000000) : ∀ (vs : List Int) (i : Nat) (acc : List Fct), acc.length + vs.length < 10000000000 →
    y18 a b vs i acc = some ⟨false, acc ++ sayF (vs.map fun v => ⟨v, ((tgN (a.l ++ b.l) v : Nat) : Int)⟩)⟩
  | [], i, acc, h => by rw [y18, y3e]; simp [sayF]
  | v :: vs, i, acc, h => by
    simp only [List.length_cons] at h
    rw [y18, tags_r a v ha, Option.bind_some, tags_r b v hb, Option.bind_some, and_nat (tgN_lt _ _) (tgN_lt _ _), ← tgN_app]
    by_cases hc : ((tgN (a.l ++ b.l) v : Nat) : Int) = 255
    · rw [decide_eq_true hc, Bool.not_true, cond_false, y2d, and_l2 a b ha hb vs (i + 1) acc (by omega)]
      congr 3
      simp [sayF, hc]
    · rw [decide_eq_false hc, Bool.not_false, cond_true, catL_of (by simp; omega), Option.bind_some, y2d, and_l2 a b ha hb vs (i + 1) _ (by simp; omega)]
      congr 2
      simp [sayF, hc]
theorem and_r (a b : Fts) (n : Nat) (h : a.l.length + b.l.length ≤ 1000000) : g_r06_And n a b = some (andF a b) := by
  unfold g_r06_And andF
  cases hv : (a.never || b.never) with
  | true => simp
  | false =>
    have hl := vsF_len (a.l ++ b.l)
    rw [List.length_append] at hl
    rw [cond_false, if_neg (by simp), vars_r a b n h, Option.bind_some, okLen_of (by omega), cond_true, and_l2 a b (by omega) (by omega) _ 0 [] (by simp; omega)]
    rfl
theorem or_l2 (a b : Fts) (ha : a.l.length < 10000000000) (hb : b.l.length < 10000000000) : ∀ (vs : List Int) (i : Nat) (acc : List Fct), acc.length + vs.length < 10000000000 →
    y1h a b vs i acc = some ⟨false, acc ++ sayF ((vs.filter fun v => decide (v ∈ a.l.map (·.var)) && decide (v ∈ b.l.map (·.var))).map fun v => ⟨v, ((tgN a.l v ||| tgN b.l v : Nat) : Int)⟩)⟩
  | [], i, acc, h => by rw [y1h, y3u]; simp [sayF]
  | v :: vs, i, acc, h => by
    simp only [List.length_cons] at h
    rw [y1h, tags_r a v ha, Option.bind_some, tags_r b v hb, Option.bind_some, has_r a v ha, Option.bind_some, has_r b v hb, Option.bind_some, or_nat (tgN_lt _ _) (tgN_lt _ _)]
    have hcd : (cond (decide (v ∈ a.l.map (·.var))) (some (decide (v ∈ b.l.map (·.var)))) (some false)) = some (decide (v ∈ a.l.map (·.var)) && decide (v ∈ b.l.map (·.var))) := by
      cases decide (v ∈ a.l.map (·.var)) <;> rfl
    rw [hcd, Option.bind_some]
    cases hh : (decide (v ∈ a.l.map (·.var)) && decide (v ∈ b.l.map (·.var))) with
    | false =>
      rw [Bool.false_and, cond_false, y2a, or_l2 a b ha hb vs (i + 1) acc (by omega), List.filter_cons, hh]; rfl
    | true =>
      rw [Bool.true_and, List.filter_cons, hh, if_pos rfl, List.map_cons]
      by_cases hc : ((tgN a.l v ||| tgN b.l v : Nat) : Int) = 255
      · rw [decide_eq_true hc, Bool.not_true, cond_false, y2a, or_l2 a b ha hb vs (i + 1) acc (by omega)]
        congr 3
        rw [sayF, sayF, List.filter_cons, decide_eq_true hc]; rfl
      · rw [decide_eq_false hc, Bool.not_false, cond_true, catL_of (by simp; omega), Option.bind_some, y2a, or_l2 a b ha hb vs (i + 1) _ (by simp; omega)]
        congr 2
        rw [sayF, sayF, List.filter_cons, decide_eq_false hc]; simp
theorem or_r (a b : Fts) (n : Nat) (h : a.l.length + b.l.length ≤ 1000000) : g_r06_Or n a b = some (orF a b) := by
  unfold g_r06_Or orF
  cases ha : a.never with
  | true => rw [cond_true, and_r b ⟨false, []⟩ n (by simp; omega)]; simp
  | false =>
    rw [cond_false, if_neg (by simp)]
    cases hb : b.never with
    | true => rw [cond_true, and_r a ⟨false, []⟩ n (by simp; omega)]; simp
    | false =>
      have hl := vsF_len (a.l ++ b.l)
      rw [List.length_append] at hl
      rw [cond_false, if_neg (by simp), vars_r a b n h, Option.bind_some, okLen_of (by omega), cond_true, or_l2 a b (by omega) (by omega) _ 0 [] (by simp; omega)]
      congr 4
      rw [show ([] : List Fct) ++ sayF ((List.filter (fun v => decide (v ∈ a.l.map (·.var)) && decide (v ∈ b.l.map (·.var))) (vsF (a.l ++ b.l))).map fun v => ⟨v, ((tgN a.l v ||| tgN b.l v : Nat) : Int)⟩) = sayF ((List.filter (fun v => decide (v ∈ a.l.map (·.var)) && decide (v ∈ b.l.map (·.var))) (vsF (a.l ++ b.l))).map fun v => ⟨v, ((tgN a.l v ||| tgN b.l v : Nat) : Int)⟩) from List.nil_append _]
      congr 2
      refine ris_eq ((vsF_ris _).sublist List.filter_sublist) ((vsF_ris _).sublist List.filter_sublist) fun v => ?_
      simp only [List.mem_filter, vsF_mem, List.map_append, List.mem_append, Bool.and_eq_true, decide_eq_true_eq]
      constructor
      · rintro ⟨_, h1, h2⟩; exact ⟨h1, h2⟩
      · rintro ⟨h1, h2⟩; exact ⟨.inl h1, h1, h2⟩
def okTwo (a b : Fts) : Bool := decide (a.l.length + b.l.length ≤ 1000000)
def oAnd (a b : Fts) : Option Fts := if okTwo a b then some (andF a b) else none
def oOr (a b : Fts) : Option Fts := if okTwo a b then some (orF a b) else none
theorem oTwo {a b r F : Fts} (h : (if okTwo a b then some F else none) = some r) : a.l.length + b.l.length ≤ 1000000 ∧ F = r := by
  split at h
  · rename_i hc; cases h; exact ⟨of_decide_eq_true hc, rfl⟩
  · cases h
theorem oAnd_ok {a b r : Fts} (h : oAnd a b = some r) : PRes (tabOf tabL) 11 [.agg (cFts a), .agg (cFts b)] (.agg (cFts r)) := by
  obtain ⟨h1, rfl⟩ := oTwo h
  exact y42 (and_p a b (a.l.length + b.l.length + 11) h1 (by omega))
theorem oOr_ok {a b r : Fts} (h : oOr a b = some r) : PRes (tabOf tabL) 13 [.agg (cFts a), .agg (cFts b)] (.agg (cFts r)) := by
  obtain ⟨h1, rfl⟩ := oTwo h
  exact y7t (or_p a b (a.l.length + b.l.length + 11) h1 (by omega))
theorem andF_len (a b : Fts) : (andF a b).l.length ≤ a.l.length + b.l.length := by
  unfold andF; split
  · simp
  · have := canF_len (a.l ++ b.l)
    rw [List.length_append] at this
    exact Nat.le_trans (List.length_filter_le _ _) this
theorem orF_len (a b : Fts) : (orF a b).l.length ≤ max a.l.length b.l.length := by
  unfold orF; split
  · have := andF_len b ⟨false, []⟩; simp at this; omega
  · split
    · have := andF_len a ⟨false, []⟩; simp at this; omega
    · refine Nat.le_trans (List.length_filter_le _ _) ?_
      rw [List.length_map]
      have := List.length_filter_le (fun v => decide (v ∈ vsF b.l)) (vsF a.l)
      have := vsF_len a.l
      omega
end Go.Ev.Seat
namespace Go.Ev.Seat
set_option linter.unusedVariables false
set_option linter.unusedSimpArgs false
open Go Go.Ev
set_option maxRecDepth 20000
attribute [local irreducible] pcall callF
noncomputable def y1v (a1 : Prp) (b2 : Prp) (c3 : Prp) (x4 : Fts) (y5 : Fts) : Option Fts :=
  ((oAnd a1.thn x4).bind fun r9 => ((oAnd a1.els y5).bind fun r10 => ((oOr r9 r10).bind fun r11 => some r11)))
abbrev kg41 (a1 : Prp) : ABlock := .cells [.bool a1.thn.never, .lst (List.map encFct a1.thn.l) false, .bool a1.els.never, .lst (List.map encFct a1.els.l) false]
abbrev kg42 (b2 : Prp) : ABlock := .cells [.bool b2.thn.never, .lst (List.map encFct b2.thn.l) false, .bool b2.els.never, .lst (List.map encFct b2.els.l) false]
abbrev kg43 (c3 : Prp) : ABlock := .cells [.bool c3.thn.never, .lst (List.map encFct c3.thn.l) false, .bool c3.els.never, .lst (List.map encFct c3.els.l) false]
abbrev kg44 : ABlock := .cells [.bool false, .lst [] true, .bool false, .lst [] true]
theorem y3q {a1 : Prp} {b2 : Prp} {c3 : Prp} {x4 : Fts} {y5 : Fts} {r : Fts} (hr : y1v a1 b2 c3 x4 y5 = some r) : CA (tabOf tabL) false 66 [.agg (cFts x4), .agg (cFts y5), .ptr 0 0] [(kg41 a1), (kg42 b2), (kg43 c3), kg44] (.agg (cFts r)) [(kg41 a1), (kg42 b2), (kg43 c3), kg44] := by
  refine ca_fin t66 (Or.inr rfl) ?_
  unfold y1v at hr
  refine L_seq ?_
  refine L_stmt ?_
  refine L_reg ?_
  refine G_n (B := .cells [.bool x4.never, .lst (List.map encFct x4.l) false]) rfl rfl rfl ?_
  refine G_n (B := .cells [.bool y5.never, .lst (List.map encFct y5.l) false]) rfl rfl rfl ?_
  refine G_n (B := .cells [.bool false, .lst [] true]) rfl rfl rfl ?_
  refine G_nil ?_
  refine L_nil ?_
  refine Sm_norm (e2 := [(2, .ptr 0 0), (3, .ptr 4 0), (4, .ptr 5 0), (5, .ptr 6 0)]) (H1 := [(kg41 a1), (kg42 b2), (kg43 c3), kg44, .cells [.bool x4.never, .lst (List.map encFct x4.l) false], .cells [.bool y5.never, .lst (List.map encFct y5.l) false], .cells [.bool false, .lst [] true]]) (H2 := [(kg41 a1), (kg42 b2), (kg43 c3), kg44, .cells [.bool x4.never, .lst (List.map encFct x4.l) false], .cells [.bool y5.never, .lst (List.map encFct y5.l) false], .cells [.bool false, .lst [] true]]) rfl (by repeat (first | exact rzz | apply rcc rfl | apply rnn rfl)) rfl (?_ : GL _ _ _ _ _)
  refine L_seq ?_
  refine L_drawT [] rfl ?_
  refine GS_p rfl rfl rfl ?_
  refine GS_h (d := some 7) (v := .agg (cFts a1.thn)) rfl rfl rfl rfl (fun _ => rfl) ?_
  refine GS_h (d := some 8) (v := .agg (cFts x4)) rfl rfl rfl rfl (fun _ => rfl) ?_
  obtain ⟨r9, hr9, hr⟩ := bind_s hr
  refine GS_c 11 rfl rfl rfl (CA_of (as := [.agg (cFts a1.thn), .agg (cFts x4)]) rfl (oAnd_ok hr9)) ?_
  refine GS_p rfl rfl rfl ?_
  refine GS_h (d := some 11) (v := .agg (cFts a1.els)) rfl rfl rfl rfl (fun _ => rfl) ?_
  refine GS_h (d := some 12) (v := .agg (cFts y5)) rfl rfl rfl rfl (fun _ => rfl) ?_
  obtain ⟨r10, hr10, hr⟩ := bind_s hr
  refine GS_c 11 rfl rfl rfl (CA_of (as := [.agg (cFts a1.els), .agg (cFts y5)]) rfl (oAnd_ok hr10)) ?_
  obtain ⟨r11, hr11, hr⟩ := bind_s hr
  refine GS_c 13 rfl rfl rfl (CA_of (as := [.agg (cFts r9), .agg (cFts r10)]) rfl (oOr_ok hr11)) ?_
  refine GS_h (d := none) (H' := [(kg41 a1), (kg42 b2), (kg43 c3), kg44, .cells [.bool x4.never, .lst (List.map encFct x4.l) false], .cells [.bool y5.never, .lst (List.map encFct y5.l) false], .cells [.bool r11.never, .lst (List.map encFct r11.l) false]]) rfl rfl rfl rfl (fun _ => rfl) ?_
  refine GS_nil ?_
  refine L_ret ?_
  have hr := some_s hr
  subst hr
  exact ⟨_, rfl, rfl, rfl⟩
noncomputable def y3p (a1 : Prp) (b2 : Prp) (c3 : Prp) : Option Prp :=
  ((y1v a1 b2 c3 b2.thn c3.thn).bind fun r4 => ((y1v a1 b2 c3 b2.els c3.els).bind fun r5 => some (Prp.mk r4 r5)))
abbrev kg45 (a1 : Prp) : ABlock := .cells [.bool a1.thn.never, .lst (List.map encFct a1.thn.l) false, .bool a1.els.never, .lst (List.map encFct a1.els.l) false]
abbrev kg46 (b2 : Prp) : ABlock := .cells [.bool b2.thn.never, .lst (List.map encFct b2.thn.l) false, .bool b2.els.never, .lst (List.map encFct b2.els.l) false]
abbrev kg47 (c3 : Prp) : ABlock := .cells [.bool c3.thn.never, .lst (List.map encFct c3.thn.l) false, .bool c3.els.never, .lst (List.map encFct c3.els.l) false]
abbrev kg48 : ABlock := .cells [.bool false, .lst [] true, .bool false, .lst [] true]
theorem y7q {a1 : Prp} {b2 : Prp} {c3 : Prp} {r : Prp} (hr : y3p a1 b2 c3 = some r) : PRes (tabOf tabL) 33 [.agg (cPrp a1), .agg (cPrp b2), .agg (cPrp c3)] (.agg (cPrp r)) := by
  refine pres_fin t33 ?_
  unfold y3p at hr
  refine L_seq ?_
  refine L_stmt ?_
  refine L_reg ?_
  refine G_n (B := (kg45 a1)) rfl rfl rfl ?_
  refine G_n (B := (kg46 b2)) rfl rfl rfl ?_
  refine G_n (B := (kg47 c3)) rfl rfl rfl ?_
  refine G_n (B := kg48) rfl rfl rfl ?_
  refine G_nil ?_
  refine L_nil ?_
  refine Sm_norm (e2 := [(3, .ptr 0 0), (4, .ptr 1 0), (5, .ptr 2 0), (6, .ptr 3 0)]) (H1 := [(kg45 a1), (kg46 b2), (kg47 c3), kg48]) (H2 := [(kg45 a1), (kg46 b2), (kg47 c3), kg48]) rfl (by repeat (first | exact rzz | apply rcc rfl | apply rnn rfl)) rfl (?_ : GL _ _ _ _ _)
  refine L_seq ?_
  refine L_stmt ?_
  refine L_reg ?_
  refine G_p rfl rfl rfl ?_
  refine G_p rfl rfl rfl ?_
  refine G_nil ?_
  refine L_nil ?_
  refine Sm_norm (e2 := [(4, .ptr 1 0), (5, .ptr 2 0), (6, .ptr 3 0), (7, .fn 66 [.ptr 0 0])]) (H1 := [(kg45 a1), (kg46 b2), (kg47 c3), kg48]) (H2 := [(kg45 a1), (kg46 b2), (kg47 c3), kg48]) rfl (by repeat (first | exact rzz | apply rcc rfl | apply rnn rfl)) rfl (?_ : GL _ _ _ _ _)
  refine L_seq ?_
  refine L_draw0 ?_
  refine GD_p rfl rfl rfl ?_
  refine GD_p rfl rfl rfl ?_
  refine GD_h (d := some 11) (v := .agg (cFts b2.thn)) rfl rfl rfl rfl (fun _ => rfl) ?_
  refine GD_p rfl rfl rfl ?_
  refine GD_h (d := some 13) (v := .agg (cFts c3.thn)) rfl rfl rfl rfl (fun _ => rfl) ?_
  obtain ⟨r4, hr4, hr⟩ := bind_s hr
  refine GD_cvr rfl rfl rfl (Or.inr rfl) (y3q hr4) ?_
  refine GD_p rfl rfl rfl ?_
  refine GD_p rfl rfl rfl ?_
  refine GD_h (d := some 17) (v := .agg (cFts b2.els)) rfl rfl rfl rfl (fun _ => rfl) ?_
  refine GD_p rfl rfl rfl ?_
  refine GD_h (d := some 19) (v := .agg (cFts c3.els)) rfl rfl rfl rfl (fun _ => rfl) ?_
  obtain ⟨r5, hr5, hr⟩ := bind_s hr
  refine GD_cvr rfl rfl rfl (Or.inr rfl) (y3q hr5) ?_
  refine GD_p (v := .agg [.bool r4.never, .lst (List.map encFct r4.l) false, .bool r5.never, .lst (List.map encFct r5.l) false]) rfl rfl rfl ?_
  refine GD_h (d := none) (H' := [(kg45 a1), (kg46 b2), (kg47 c3), .cells [.bool r4.never, .lst (List.map encFct r4.l) false, .bool r5.never, .lst (List.map encFct r5.l) false]]) rfl rfl rfl rfl (fun _ => rfl) ?_
  refine GD_nil2 (by first | (simp [okFs2, y15, disj, noneIn, notIn, y16, sameOn, partsGls, y17, AOpd.ev, Env.get, Env.put, glsV, glsL]; done) | rfl) ?_
  refine L_ret ?_
  have hr := some_s hr
  subst hr
  exact ⟨_, rfl, _, rfl, rfl⟩
noncomputable def y4a (rec : Tst → Option Prp) (t1 : Tst) : Option Prp :=
  (cond (decide (t1.op = 0)) ((y3s t1.var t1.tags).bind fun r16 => some r16) (cond (decide (t1.op = 1)) ((y2z t1.var).bind fun r17 => some r17) (cond (decide (t1.op = 2)) ((y3j t1.yes).bind fun r18 => some r18) (cond (decide (t1.op = 3)) (cond (decide (0 < ((List.length t1.of : Nat) : Int))) ((idx t1.of 0).bind fun e19 => ((rec e19).bind fun r20 => ((y4b r20).bind fun r21 => some r21))) ((y1t).bind fun r22 => some r22)) (cond (decide (t1.op = 4)) (cond (decide (2 < ((List.length t1.of : Nat) : Int))) ((idx t1.of 0).bind fun e23 => ((rec e23).bind fun r24 => ((idx t1.of 1).bind fun e25 => ((rec e25).bind fun r26 => ((idx t1.of 2).bind fun e27 => ((rec e27).bind fun r28 => ((y3p r24 r26 r28).bind fun r29 => some r29))))))) ((y1t).bind fun r30 => some r30)) ((y1t).bind fun r31 => some r31))))))
abbrev kg49 (t1 : Tst) : ABlock := .cells [.int .i64 t1.op, .int .i64 t1.var, .int .i64 t1.tags, .bool t1.yes, .lst (List.map encTst t1.of) false]
abbrev kg410 : ABlock := .cells [.bool false, .lst [] true, .bool false, .lst [] true]
theorem y7h {rec : Tst → Option Prp} {t1 : Tst} {r : Prp} (hrec : ∀ (a0 : Tst) (r : Prp), rec a0 = some r → PRes (tabOf tabL) 26 [.agg (cTst a0)] (.agg (cPrp r))) (hr : y4a rec t1 = some r) : PRes (tabOf tabL) 26 [.agg (cTst t1)] (.agg (cPrp r)) := by
  refine pres_fin t26 ?_
  unfold y4a at hr
  refine L_seq ?_
  refine L_stmt ?_
  refine L_reg ?_
  refine G_n (B := (kg49 t1)) rfl rfl rfl ?_
  refine G_n (B := kg410) rfl rfl rfl ?_
  refine G_nil ?_
  refine L_nil ?_
  refine Sm_norm (e2 := [(1, .ptr 0 0), (2, .ptr 1 0)]) (H1 := [(kg49 t1), kg410]) (H2 := [(kg49 t1), kg410]) rfl (by repeat (first | exact rzz | apply rcc rfl | apply rnn rfl)) rfl (?_ : GL _ _ _ _ _)
  refine L_seq ?_
  refine L_stmt ?_
  refine L_seq ?_
  refine L_stmt ?_
  refine L_reg ?_
  refine G_p rfl rfl rfl ?_
  refine G_h rfl rfl rfl (fun _ => rfl) ?_
  refine G_nil ?_
  refine L_nil ?_
  refine Sm_norm (e2 := [(1, .ptr 0 0), (2, .ptr 1 0), (4, .int .i64 t1.op)]) (H1 := [(kg49 t1), kg410]) (H2 := [(kg49 t1), kg410]) rfl (by repeat (first | exact rzz | apply rcc rfl | apply rnn rfl)) rfl (?_ : GL _ _ _ _ _)
  refine L_block ?_
  refine L_seq ?_
  refine L_stmt ?_
  refine L_reg ?_
  refine G_p rfl rfl rfl ?_
  refine G_p rfl rfl rfl ?_
  refine G_nil ?_
  refine L_nil ?_
  refine Sm_norm (e2 := [(1, .ptr 0 0), (2, .ptr 1 0), (4, .int .i64 t1.op), (5, .bool (decide (t1.op = 0)))]) (H1 := [(kg49 t1), kg410]) (H2 := [(kg49 t1), kg410]) rfl (by repeat (first | exact rzz | apply rcc rfl | apply rnn rfl)) rfl (?_ : GL _ _ _ _ _)
  rcases cond_s hr with ⟨hc5, hr⟩ | ⟨hc5, hr⟩
  · refine L_T rfl hc5 ?_
    refine L_seq ?_
    refine L_reg ?_
    refine G_p rfl rfl rfl ?_
    refine G_h rfl rfl rfl (fun _ => rfl) ?_
    refine G_p rfl rfl rfl ?_
    refine G_h rfl rfl rfl (fun _ => rfl) ?_
    obtain ⟨r16, hr16, hr⟩ := bind_s hr
    refine G_c 34 rfl rfl (CA_of (as := [.int .i64 t1.var, .int .i64 t1.tags]) rfl (y7n hr16)) ?_
    refine G_hn (H' := [(kg49 t1), .cells [.bool r16.thn.never, .lst (List.map encFct r16.thn.l) false, .bool r16.els.never, .lst (List.map encFct r16.els.l) false]]) rfl rfl rfl (fun _ => rfl) ?_
    refine G_nil ?_
    refine L_ret ?_
    refine Blk_ret ?_
    refine Sm_ret ?_
    have hr := some_s hr
    subst hr
    exact ⟨_, rfl, _, rfl, rfl⟩
  · refine L_F rfl hc5 ?_
    refine L_seq ?_
    refine L_stmt ?_
    refine L_reg ?_
    refine G_p rfl rfl rfl ?_
    refine G_p rfl rfl rfl ?_
    refine G_nil ?_
    refine L_nil ?_
    refine Sm_norm (e2 := [(1, .ptr 0 0), (2, .ptr 1 0), (4, .int .i64 t1.op), (12, .bool (decide (t1.op = 1)))]) (H1 := [(kg49 t1), kg410]) (H2 := [(kg49 t1), kg410]) rfl (by repeat (first | exact rzz | apply rcc rfl | apply rnn rfl)) rfl (?_ : GL _ _ _ _ _)
    rcases cond_s hr with ⟨hc12, hr⟩ | ⟨hc12, hr⟩
    · refine L_T rfl hc12 ?_
      refine L_seq ?_
      refine L_reg ?_
      refine G_p rfl rfl rfl ?_
      refine G_h rfl rfl rfl (fun _ => rfl) ?_
      obtain ⟨r17, hr17, hr⟩ := bind_s hr
      refine G_c 51 rfl rfl (CA_of (as := [.int .i64 t1.var]) rfl (y69 hr17)) ?_
      refine G_hn (H' := [(kg49 t1), .cells [.bool r17.thn.never, .lst (List.map encFct r17.thn.l) false, .bool r17.els.never, .lst (List.map encFct r17.els.l) false]]) rfl rfl rfl (fun _ => rfl) ?_
      refine G_nil ?_
      refine L_ret ?_
      refine Blk_ret ?_
      refine Sm_ret ?_
      have hr := some_s hr
      subst hr
      exact ⟨_, rfl, _, rfl, rfl⟩
    · refine L_F rfl hc12 ?_
      refine L_seq ?_
      refine L_stmt ?_
      refine L_reg ?_
      refine G_p rfl rfl rfl ?_
      refine G_p rfl rfl rfl ?_
      refine G_nil ?_
      refine L_nil ?_
      refine Sm_norm (e2 := [(1, .ptr 0 0), (2, .ptr 1 0), (4, .int .i64 t1.op), (17, .bool (decide (t1.op = 2)))]) (H1 := [(kg49 t1), kg410]) (H2 := [(kg49 t1), kg410]) rfl (by repeat (first | exact rzz | apply rcc rfl | apply rnn rfl)) rfl (?_ : GL _ _ _ _ _)
      rcases cond_s hr with ⟨hc17, hr⟩ | ⟨hc17, hr⟩
      · refine L_T rfl hc17 ?_
        refine L_seq ?_
        refine L_reg ?_
        refine G_p rfl rfl rfl ?_
        refine G_h rfl rfl rfl (fun _ => rfl) ?_
        obtain ⟨r18, hr18, hr⟩ := bind_s hr
        refine G_c 35 rfl rfl (CA_of (as := [.bool t1.yes]) rfl (y68 hr18)) ?_
        refine G_hn (H' := [(kg49 t1), .cells [.bool r18.thn.never, .lst (List.map encFct r18.thn.l) false, .bool r18.els.never, .lst (List.map encFct r18.els.l) false]]) rfl rfl rfl (fun _ => rfl) ?_
        refine G_nil ?_
        refine L_ret ?_
        refine Blk_ret ?_
        refine Sm_ret ?_
        have hr := some_s hr
        subst hr
        exact ⟨_, rfl, _, rfl, rfl⟩
      · refine L_F rfl hc17 ?_
        refine L_seq ?_
        refine L_stmt ?_
        refine L_reg ?_
        refine G_p rfl rfl rfl ?_
        refine G_p rfl rfl rfl ?_
        refine G_nil ?_
        refine L_nil ?_
        refine Sm_norm (e2 := [(1, .ptr 0 0), (2, .ptr 1 0), (4, .int .i64 t1.op), (22, .bool (decide (t1.op = 3)))]) (H1 := [(kg49 t1), kg410]) (H2 := [(kg49 t1), kg410]) rfl (by repeat (first | exact rzz | apply rcc rfl | apply rnn rfl)) rfl (?_ : GL _ _ _ _ _)
        rcases cond_s hr with ⟨hc22, hr⟩ | ⟨hc22, hr⟩
        · refine L_T rfl hc22 ?_
          refine L_seq ?_
          refine L_stmt ?_
          refine L_reg ?_
          refine G_p rfl rfl rfl ?_
          refine G_h (v := .lst (List.map encTst t1.of) false) rfl rfl rfl (fun _ => rfl) ?_
          refine G_h rfl rfl rfl (lenL_ev rfl (List.length_map _)) ?_
          refine G_p rfl rfl rfl ?_
          refine G_nil ?_
          refine L_nil ?_
          refine Sm_norm (e2 := [(1, .ptr 0 0), (2, .ptr 1 0), (27, .bool (decide (0 < ((List.length t1.of : Nat) : Int))))]) (H1 := [(kg49 t1), kg410]) (H2 := [(kg49 t1), kg410]) rfl (by repeat (first | exact rzz | apply rcc rfl | apply rnn rfl)) rfl (?_ : GL _ _ _ _ _)
          rcases cond_s hr with ⟨hc27, hr⟩ | ⟨hc27, hr⟩
          · refine L_T rfl hc27 ?_
            refine L_seq ?_
            refine L_reg ?_
            refine G_p rfl rfl rfl ?_
            refine G_h (v := .lst (List.map encTst t1.of) false) rfl rfl rfl (fun _ => rfl) ?_
            obtain ⟨e19, he19, hr⟩ := bind_s hr
            refine G_h (v := .ro [.int .i64 e19.op, .int .i64 e19.var, .int .i64 e19.tags, .bool e19.yes, .lst (List.map encTst e19.of) false]) rfl rfl rfl (ia_ev (cells := [.int .i64 e19.op, .int .i64 e19.var, .int .i64 e19.tags, .bool e19.yes, .lst (List.map encTst e19.of) false]) rfl rfl (idx_s he19).1 (map_get (x := e19) (idx_s he19).2) (y20 _) rfl) ?_
            refine G_h (v := .agg (cTst e19)) rfl rfl rfl (fun _ => rfl) ?_
            obtain ⟨r20, hr20, hr⟩ := bind_s hr
            refine G_c 26 rfl rfl (CA_of (as := [.agg (cTst e19)]) rfl (hrec _ _ hr20)) ?_
            obtain ⟨r21, hr21, hr⟩ := bind_s hr
            refine G_c 52 rfl rfl (CA_of (as := [.agg (cPrp r20)]) rfl (y73 hr21)) ?_
            refine G_hn (H' := [(kg49 t1), .cells [.bool r21.thn.never, .lst (List.map encFct r21.thn.l) false, .bool r21.els.never, .lst (List.map encFct r21.els.l) false]]) rfl rfl rfl (fun _ => rfl) ?_
            refine G_nil ?_
            refine L_ret ?_
            refine Blk_ret ?_
            refine Sm_ret ?_
            have hr := some_s hr
            subst hr
            exact ⟨_, rfl, _, rfl, rfl⟩
          · refine L_F rfl hc27 ?_
            refine L_skip ?_
            refine L_nil ?_
            refine Blk_norm (?_ : GL _ _ _ _ _)
            refine L_nil ?_
            refine Sm_norm (e2 := [(2, .ptr 1 0)]) (H1 := [(kg49 t1), kg410]) (H2 := [(kg49 t1), kg410]) rfl (by repeat (first | exact rzz | apply rcc rfl | apply rnn rfl)) rfl (?_ : GL _ _ _ _ _)
            refine L_seq ?_
            refine L_reg ?_
            obtain ⟨r22, hr22, hr⟩ := bind_s hr
            refine G_c 53 rfl rfl (CA_of (as := []) rfl (y3z hr22)) ?_
            refine G_hn (H' := [(kg49 t1), .cells [.bool r22.thn.never, .lst (List.map encFct r22.thn.l) false, .bool r22.els.never, .lst (List.map encFct r22.els.l) false]]) rfl rfl rfl (fun _ => rfl) ?_
            refine G_nil ?_
            refine L_ret ?_
            have hr := some_s hr
            subst hr
            exact ⟨_, rfl, _, rfl, rfl⟩
        · refine L_F rfl hc22 ?_
          refine L_seq ?_
          refine L_stmt ?_
          refine L_reg ?_
          refine G_p rfl rfl rfl ?_
          refine G_p rfl rfl rfl ?_
          refine G_nil ?_
          refine L_nil ?_
          refine Sm_norm (e2 := [(1, .ptr 0 0), (2, .ptr 1 0), (34, .bool (decide (t1.op = 4)))]) (H1 := [(kg49 t1), kg410]) (H2 := [(kg49 t1), kg410]) rfl (by repeat (first | exact rzz | apply rcc rfl | apply rnn rfl)) rfl (?_ : GL _ _ _ _ _)
          rcases cond_s hr with ⟨hc34, hr⟩ | ⟨hc34, hr⟩
          · refine L_T rfl hc34 ?_
            refine L_seq ?_
            refine L_stmt ?_
            refine L_reg ?_
            refine G_p rfl rfl rfl ?_
            refine G_h (v := .lst (List.map encTst t1.of) false) rfl rfl rfl (fun _ => rfl) ?_
            refine G_h rfl rfl rfl (lenL_ev rfl (List.length_map _)) ?_
            refine G_p rfl rfl rfl ?_
            refine G_nil ?_
            refine L_nil ?_
            refine Sm_norm (e2 := [(1, .ptr 0 0), (2, .ptr 1 0), (39, .bool (decide (2 < ((List.length t1.of : Nat) : Int))))]) (H1 := [(kg49 t1), kg410]) (H2 := [(kg49 t1), kg410]) rfl (by repeat (first | exact rzz | apply rcc rfl | apply rnn rfl)) rfl (?_ : GL _ _ _ _ _)
            rcases cond_s hr with ⟨hc39, hr⟩ | ⟨hc39, hr⟩
            · refine L_T rfl hc39 ?_
              refine L_seq ?_
              refine L_drawT [] rfl ?_
              refine GS_p rfl rfl rfl ?_
              refine GS_h (d := some 41) (v := .lst (List.map encTst t1.of) false) rfl rfl rfl rfl (fun _ => rfl) ?_
              obtain ⟨e23, he23, hr⟩ := bind_s hr
              refine GS_h (d := some 42) (v := .ro [.int .i64 e23.op, .int .i64 e23.var, .int .i64 e23.tags, .bool e23.yes, .lst (List.map encTst e23.of) false]) rfl rfl rfl rfl (ia_ev (cells := [.int .i64 e23.op, .int .i64 e23.var, .int .i64 e23.tags, .bool e23.yes, .lst (List.map encTst e23.of) false]) rfl rfl (idx_s he23).1 (map_get (x := e23) (idx_s he23).2) (y20 _) rfl) ?_
              refine GS_h (d := some 43) (v := .agg (cTst e23)) rfl rfl rfl rfl (fun _ => rfl) ?_
              obtain ⟨r24, hr24, hr⟩ := bind_s hr
              refine GS_c 26 rfl rfl rfl (CA_of (as := [.agg (cTst e23)]) rfl (hrec _ _ hr24)) ?_
              refine GS_p rfl rfl rfl ?_
              refine GS_h (d := some 46) (v := .lst (List.map encTst t1.of) false) rfl rfl rfl rfl (fun _ => rfl) ?_
              obtain ⟨e25, he25, hr⟩ := bind_s hr
              refine GS_h (d := some 47) (v := .ro [.int .i64 e25.op, .int .i64 e25.var, .int .i64 e25.tags, .bool e25.yes, .lst (List.map encTst e25.of) false]) rfl rfl rfl rfl (ia_ev (cells := [.int .i64 e25.op, .int .i64 e25.var, .int .i64 e25.tags, .bool e25.yes, .lst (List.map encTst e25.of) false]) rfl rfl (idx_s he25).1 (map_get (x := e25) (idx_s he25).2) (y20 _) rfl) ?_
              refine GS_h (d := some 48) (v := .agg (cTst e25)) rfl rfl rfl rfl (fun _ => rfl) ?_
              obtain ⟨r26, hr26, hr⟩ := bind_s hr
              refine GS_c 26 rfl rfl rfl (CA_of (as := [.agg (cTst e25)]) rfl (hrec _ _ hr26)) ?_
              refine GS_p rfl rfl rfl ?_
              refine GS_h (d := some 51) (v := .lst (List.map encTst t1.of) false) rfl rfl rfl rfl (fun _ => rfl) ?_
              obtain ⟨e27, he27, hr⟩ := bind_s hr
              refine GS_h (d := some 52) (v := .ro [.int .i64 e27.op, .int .i64 e27.var, .int .i64 e27.tags, .bool e27.yes, .lst (List.map encTst e27.of) false]) rfl rfl rfl rfl (ia_ev (cells := [.int .i64 e27.op, .int .i64 e27.var, .int .i64 e27.tags, .bool e27.yes, .lst (List.map encTst e27.of) false]) rfl rfl (idx_s he27).1 (map_get (x := e27) (idx_s he27).2) (y20 _) rfl) ?_
              refine GS_h (d := some 53) (v := .agg (cTst e27)) rfl rfl rfl rfl (fun _ => rfl) ?_
              obtain ⟨r28, hr28, hr⟩ := bind_s hr
              refine GS_c 26 rfl rfl rfl (CA_of (as := [.agg (cTst e27)]) rfl (hrec _ _ hr28)) ?_
              obtain ⟨r29, hr29, hr⟩ := bind_s hr
              refine GS_c 33 rfl rfl rfl (CA_of (as := [.agg (cPrp r24), .agg (cPrp r26), .agg (cPrp r28)]) rfl (y7q hr29)) ?_
              refine GS_h (d := none) (H' := [(kg49 t1), .cells [.bool r29.thn.never, .lst (List.map encFct r29.thn.l) false, .bool r29.els.never, .lst (List.map encFct r29.els.l) false]]) rfl rfl rfl rfl (fun _ => rfl) ?_
              refine GS_nil ?_
              refine L_ret ?_
              refine Blk_ret ?_
              refine Sm_ret ?_
              have hr := some_s hr
              subst hr
              exact ⟨_, rfl, _, rfl, rfl⟩
            · refine L_F rfl hc39 ?_
              refine L_skip ?_
              refine L_nil ?_
              refine Blk_norm (?_ : GL _ _ _ _ _)
              refine L_nil ?_
              refine Sm_norm (e2 := [(2, .ptr 1 0)]) (H1 := [(kg49 t1), kg410]) (H2 := [(kg49 t1), kg410]) rfl (by repeat (first | exact rzz | apply rcc rfl | apply rnn rfl)) rfl (?_ : GL _ _ _ _ _)
              refine L_seq ?_
              refine L_reg ?_
              obtain ⟨r30, hr30, hr⟩ := bind_s hr
              refine G_c 53 rfl rfl (CA_of (as := []) rfl (y3z hr30)) ?_
              refine G_hn (H' := [(kg49 t1), .cells [.bool r30.thn.never, .lst (List.map encFct r30.thn.l) false, .bool r30.els.never, .lst (List.map encFct r30.els.l) false]]) rfl rfl rfl (fun _ => rfl) ?_
              refine G_nil ?_
              refine L_ret ?_
              have hr := some_s hr
              subst hr
              exact ⟨_, rfl, _, rfl, rfl⟩
          · refine L_F rfl hc34 ?_
            refine L_skip ?_
            refine L_nil ?_
            refine Blk_norm (?_ : GL _ _ _ _ _)
            refine L_nil ?_
            refine Sm_norm (e2 := [(2, .ptr 1 0)]) (H1 := [(kg49 t1), kg410]) (H2 := [(kg49 t1), kg410]) rfl (by repeat (first | exact rzz | apply rcc rfl | apply rnn rfl)) rfl (?_ : GL _ _ _ _ _)
            refine L_seq ?_
            refine L_reg ?_
            obtain ⟨r31, hr31, hr⟩ := bind_s hr
            refine G_c 53 rfl rfl (CA_of (as := []) rfl (y3z hr31)) ?_
            refine G_hn (H' := [(kg49 t1), .cells [.bool r31.thn.never, .lst (List.map encFct r31.thn.l) false, .bool r31.els.never, .lst (List.map encFct r31.els.l) false]]) rfl rfl rfl (fun _ => rfl) ?_
            refine G_nil ?_
            refine L_ret ?_
            have hr := some_s hr
            subst hr
            exact ⟨_, rfl, _, rfl, rfl⟩
noncomputable def y48 : Nat → Tst → Option Prp
  | 0, _ => none
  | n + 1, t1 => y4a (y48 n) t1
theorem y5n : ∀ (n : Nat) {t1 : Tst} {r : Prp} (hr : y48 n t1 = some r), PRes (tabOf tabL) 26 [.agg (cTst t1)] (.agg (cPrp r))
  | 0, _, _, hr => by cases hr
  | n + 1, _, _, hr => y7h (fun _ _ h => y5n n h) hr
noncomputable def y4x (p1 : Prp) (q2 : Prp) : Option Bool :=
  ((g_w06_to p1.thn).bind fun r3 => ((y3l r3 q2.thn).bind fun r4 => ((g_w06_to p1.els).bind fun r5 => ((y3l r5 q2.els).bind fun r6 => some (r4 && r6)))))
abbrev kg411 (p1 : Prp) : ABlock := .cells [.bool p1.thn.never, .lst (List.map encFct p1.thn.l) false, .bool p1.els.never, .lst (List.map encFct p1.els.l) false]
abbrev kg412 (q2 : Prp) : ABlock := .cells [.bool q2.thn.never, .lst (List.map encFct q2.thn.l) false, .bool q2.els.never, .lst (List.map encFct q2.els.l) false]
theorem y7y {p1 : Prp} {q2 : Prp} {r : Bool} (hr : y4x p1 q2 = some r) : PRes (tabOf tabL) 25 [.agg (cPrp p1), .agg (cPrp q2)] (.bool r) := by
  refine pres_fin t25 ?_
  unfold y4x at hr
  refine L_seq ?_
  refine L_stmt ?_
  refine L_reg ?_
  refine G_n (B := (kg411 p1)) rfl rfl rfl ?_
  refine G_n (B := (kg412 q2)) rfl rfl rfl ?_
  refine G_p rfl rfl rfl ?_
  refine G_nil ?_
  refine L_nil ?_
  refine Sm_norm (e2 := [(2, .ptr 0 0), (3, .ptr 1 0)]) (H1 := [(kg411 p1), (kg412 q2)]) (H2 := [(kg411 p1), (kg412 q2)]) rfl (by repeat (first | exact rzz | apply rcc rfl | apply rnn rfl)) rfl (?_ : GL _ _ _ _ _)
  refine L_seq ?_
  refine L_stmt ?_
  refine L_drawT [] rfl ?_
  refine GS_p rfl rfl rfl ?_
  refine GS_h (d := some 8) (v := .agg (cFts p1.thn)) rfl rfl rfl rfl (fun _ => rfl) ?_
  obtain ⟨r3, hr3, hr⟩ := bind_s hr
  refine GS_c 10 rfl rfl rfl (CA_of (as := [.agg (cFts p1.thn)]) rfl (y6b hr3)) ?_
  refine GS_p rfl rfl rfl ?_
  refine GS_h (d := some 11) (v := .agg (cFts q2.thn)) rfl rfl rfl rfl (fun _ => rfl) ?_
  obtain ⟨r4, hr4, hr⟩ := bind_s hr
  refine GS_c 9 rfl rfl rfl (CA_of (as := [.agg (cFts r3), .agg (cFts q2.thn)]) rfl (y5r hr4)) ?_
  refine GS_p rfl rfl rfl ?_
  refine GS_nil ?_
  refine L_nil ?_
  refine Sm_norm (e2 := [(2, .ptr 0 0), (3, .ptr 1 0), (5, .bool r4)]) (H1 := [(kg411 p1), (kg412 q2)]) (H2 := [(kg411 p1), (kg412 q2)]) rfl (by repeat (first | exact rzz | apply rcc rfl | apply rnn rfl)) rfl (?_ : GL _ _ _ _ _)
  refine L_seq ?_
  refine L_stmt ?_
  refine L_drawT [] rfl ?_
  refine GS_p rfl rfl rfl ?_
  refine GS_h (d := some 14) (v := .agg (cFts p1.els)) rfl rfl rfl rfl (fun _ => rfl) ?_
  obtain ⟨r5, hr5, hr⟩ := bind_s hr
  refine GS_c 10 rfl rfl rfl (CA_of (as := [.agg (cFts p1.els)]) rfl (y6b hr5)) ?_
  refine GS_p rfl rfl rfl ?_
  refine GS_h (d := some 17) (v := .agg (cFts q2.els)) rfl rfl rfl rfl (fun _ => rfl) ?_
  obtain ⟨r6, hr6, hr⟩ := bind_s hr
  refine GS_c 9 rfl rfl rfl (CA_of (as := [.agg (cFts r5), .agg (cFts q2.els)]) rfl (y5r hr6)) ?_
  refine GS_p rfl rfl rfl ?_
  refine GS_nil ?_
  refine L_nil ?_
  refine Sm_norm (e2 := [(5, .bool r4), (6, .bool r6)]) (H1 := [(kg411 p1), (kg412 q2)]) (H2 := [(kg411 p1), (kg412 q2)]) rfl (by repeat (first | exact rzz | apply rcc rfl | apply rnn rfl)) rfl (?_ : GL _ _ _ _ _)
  refine L_seq ?_
  refine L_reg ?_
  refine G_p rfl rfl rfl ?_
  refine G_p rfl rfl rfl ?_
  refine G_and (f := r6) [_] rfl rfl ?_ ?_
  · intro hb20
    refine G_p rfl rfl rfl ?_
    exact G_nil (L_nil ⟨rfl, rfl, rfl⟩)
  · intro vs hvs
    obtain ⟨u21, rfl⟩ := len1 hvs
    dsimp only [junk]
    refine G_p rfl rfl rfl ?_
    refine G_nil ?_
    refine L_ret ?_
    have hr := some_s hr
    subst hr
    exact ⟨_, rfl, _, rfl, rfl⟩
noncomputable def y31 (n : Nat) (t1 : Tst) : Option Bool :=
  ((oAwake).bind fun r2 => ((y2b n t1 6).bind fun r3 => (cond (!r3) (some r2) ((y48 n t1).bind fun r4 => ((g_w06_own n t1).bind fun r5 => ((y4x r4 r5).bind fun r6 => some (r2 && r6)))))))
abbrev kg413 (t1 : Tst) : ABlock := .cells [.int .i64 t1.op, .int .i64 t1.var, .int .i64 t1.tags, .bool t1.yes, .lst (List.map encTst t1.of) false]
theorem y5u {n : Nat} {t1 : Tst} {r : Bool} (hr : y31 n t1 = some r) : PRes (tabOf tabL) 5 [.agg (cTst t1)] (.bool r) := by
  refine pres_fin t5 ?_
  unfold y31 at hr
  refine L_seq ?_
  refine L_stmt ?_
  refine L_reg ?_
  refine G_n (B := (kg413 t1)) rfl rfl rfl ?_
  refine G_p rfl rfl rfl ?_
  refine G_nil ?_
  refine L_nil ?_
  refine Sm_norm (e2 := [(1, .ptr 0 0)]) (H1 := [(kg413 t1)]) (H2 := [(kg413 t1)]) rfl (by repeat (first | exact rzz | apply rcc rfl | apply rnn rfl)) rfl (?_ : GL _ _ _ _ _)
  refine L_seq ?_
  refine L_stmt ?_
  refine L_reg ?_
  obtain ⟨r2, hr2, hr⟩ := bind_s hr
  refine G_c 8 rfl rfl (CA_of (as := []) rfl (oAwake_ok hr2)) ?_
  refine G_p rfl rfl rfl ?_
  refine G_nil ?_
  refine L_nil ?_
  refine Sm_norm (e2 := [(1, .ptr 0 0), (3, .bool r2)]) (H1 := [(kg413 t1)]) (H2 := [(kg413 t1)]) rfl (by repeat (first | exact rzz | apply rcc rfl | apply rnn rfl)) rfl (?_ : GL _ _ _ _ _)
  refine L_seq ?_
  refine L_stmt ?_
  refine L_reg ?_
  refine G_h (v := .agg (cTst t1)) rfl rfl rfl (fun _ => rfl) ?_
  obtain ⟨r3, hr3, hr⟩ := bind_s hr
  refine G_c 24 rfl rfl (CA_of (as := [.agg (cTst t1), .int .i64 6]) rfl (y5d n hr3)) ?_
  refine G_p rfl rfl rfl ?_
  refine G_nil ?_
  refine L_nil ?_
  refine Sm_norm (e2 := [(1, .ptr 0 0), (3, .bool r2), (4, .bool r3)]) (H1 := [(kg413 t1)]) (H2 := [(kg413 t1)]) rfl (by repeat (first | exact rzz | apply rcc rfl | apply rnn rfl)) rfl (?_ : GL _ _ _ _ _)
  refine L_seq ?_
  refine L_stmt ?_
  refine L_seq ?_
  refine L_stmt ?_
  refine L_reg ?_
  refine G_p rfl rfl rfl ?_
  refine G_p rfl rfl rfl ?_
  refine G_nil ?_
  refine L_nil ?_
  refine Sm_norm (e2 := [(1, .ptr 0 0), (3, .bool r2), (10, .bool (!r3))]) (H1 := [(kg413 t1)]) (H2 := [(kg413 t1)]) rfl (by repeat (first | exact rzz | apply rcc rfl | apply rnn rfl)) rfl (?_ : GL _ _ _ _ _)
  rcases cond_s hr with ⟨hc10, hr⟩ | ⟨hc10, hr⟩
  · refine L_T rfl hc10 ?_
    refine L_seq ?_
    refine L_reg ?_
    refine G_p rfl rfl rfl ?_
    refine G_p rfl rfl rfl ?_
    refine G_nil ?_
    refine L_ret ?_
    refine Sm_ret ?_
    have hr := some_s hr
    subst hr
    exact ⟨_, rfl, _, rfl, rfl⟩
  · refine L_F rfl hc10 ?_
    refine L_skip ?_
    refine L_nil ?_
    refine Sm_norm (e2 := [(1, .ptr 0 0), (3, .bool r2)]) (H1 := [(kg413 t1)]) (H2 := [(kg413 t1)]) rfl (by repeat (first | exact rzz | apply rcc rfl | apply rnn rfl)) rfl (?_ : GL _ _ _ _ _)
    refine L_seq ?_
    refine L_stmt ?_
    refine L_drawT [] rfl ?_
    refine GS_h (d := some 12) (v := .agg (cTst t1)) rfl rfl rfl rfl (fun _ => rfl) ?_
    obtain ⟨r4, hr4, hr⟩ := bind_s hr
    refine GS_c 26 rfl rfl rfl (CA_of (as := [.agg (cTst t1)]) rfl (y5n n hr4)) ?_
    refine GS_h (d := some 14) (v := .agg (cTst t1)) rfl rfl rfl rfl (fun _ => rfl) ?_
    obtain ⟨r5, hr5, hr⟩ := bind_s hr
    refine GS_c 27 rfl rfl rfl (CA_of (as := [.agg (cTst t1)]) rfl (y63 n hr5)) ?_
    obtain ⟨r6, hr6, hr⟩ := bind_s hr
    refine GS_c 25 rfl rfl rfl (CA_of (as := [.agg (cPrp r4), .agg (cPrp r5)]) rfl (y7y hr6)) ?_
    refine GS_p rfl rfl rfl ?_
    refine GS_nil ?_
    refine L_nil ?_
    refine Sm_norm (e2 := [(3, .bool r2), (5, .bool r6)]) (H1 := [(kg413 t1)]) (H2 := [(kg413 t1)]) rfl (by repeat (first | exact rzz | apply rcc rfl | apply rnn rfl)) rfl (?_ : GL _ _ _ _ _)
    refine L_seq ?_
    refine L_reg ?_
    refine G_p rfl rfl rfl ?_
    refine G_p rfl rfl rfl ?_
    refine G_and (f := r6) [_] rfl rfl ?_ ?_
    · intro hb18
      refine G_p rfl rfl rfl ?_
      exact G_nil (L_nil ⟨rfl, rfl, rfl⟩)
    · intro vs hvs
      obtain ⟨u19, rfl⟩ := len1 hvs
      dsimp only [junk]
      refine G_p rfl rfl rfl ?_
      refine G_nil ?_
      refine L_ret ?_
      have hr := some_s hr
      subst hr
      exact ⟨_, rfl, _, rfl, rfl⟩
end Go.Ev.Seat
namespace Go.Ev.Seat
set_option linter.unusedVariables false
set_option linter.unusedSimpArgs false
open Go Go.Ev
theorem to_fl (f : Fts) : ∀ (fs : List Fct) (i : Nat) (acc : List Fct), acc.length + fs.length < 10000000000 → y1p f fs i acc = some ⟨f.never, acc ++ fs⟩
  | [], i, acc, _ => by rw [y1p, y3n, List.append_nil]
  | x :: fs, i, acc, h => by
    have : catL acc [x] = some (acc ++ [x]) := catL_of (by simp at h ⊢; omega)
    rw [y1p, this, Option.bind_some, to_fl f fs (i + 1) (acc ++ [x]) (by simp at h ⊢; omega)]
    simp
theorem to_f (f : Fts) (h : f.l.length < 10000000000) : g_w06_to f = some f := by
  unfold g_w06_to
  rw [okLen_of (by omega), cond_true, to_fl f f.l 0 [] (by simpa using h)]; rfl
theorem same_l (f : Fts) : ∀ (rest P : List Fct), f.l = P ++ rest → y1l f rest P.length = some true
  | [], P, h => by rw [y1l, y34]
  | x :: rest, P, h => by
    have := same_l f rest (P ++ [x]) (by simpa using h)
    have e4 : ((P ++ [x]).length : Nat) = P.length + 1 := by simp
    rw [e4] at this
    rw [y1l, idx_at (A := P) (B := rest) h rfl, Option.bind_some]
    simpa using this
theorem same_f (f : Fts) (h : f.l.length < 10000000000) : y3l f f = some true := by
  unfold y3l
  have : ((!(f.never == f.never)) || (!decide (((List.length f.l : Nat) : Int) = ((List.length f.l : Nat) : Int)))) = false := by simp
  rw [this, cond_false, okLen_of (by omega), cond_true]
  exact same_l f f.l [] rfl
def LightP : Nat → Tst → Prop
  | 0, _ => False
  | k + 1, t => t.of.length ≤ 5 ∧ ∀ x, x ∈ t.of → LightP k x
theorem light_p : ∀ (k n : Nat) (t : Tst), k < n → k < 100 → ∃ b, y2b n t (k : Nat) = some b ∧ (b = true → LightP k t) := by
  intro k
  induction k with
  | zero =>
    intro n t hn _
    obtain ⟨n, rfl⟩ : ∃ m, n = m + 1 := ⟨n - 1, by omega⟩
    refine ⟨false, ?_, by simp⟩
    rw [y2b, y36]; simp
  | succ k ih =>
    intro n t hn hk
    obtain ⟨n, rfl⟩ : ∃ m, n = m + 1 := ⟨n - 1, by omega⟩
    rw [y2b, y36]
    have e0 : decide (((k + 1 : Nat) : Int) = 0) = false := by simp; omega
    by_cases hl : 5 < t.of.length
    · have e1 : decide (5 < ((List.length t.of : Nat) : Int)) = true := by simp; omega
      exact ⟨false, by rw [e0, e1]; rfl, by simp⟩
    · have e1 : decide (5 < ((List.length t.of : Nat) : Int)) = false := by simp; omega
      have ew : IntKind.i64.wrap (((k + 1 : Nat) : Int) - 1) = ((k : Nat) : Int) := by rw [wI (by omega) (by omega)]; omega
      have loop : ∀ (l : List Tst) (i : Nat), ∃ b, y1j (y2b n) ((k + 1 : Nat) : Int) l i = some b ∧ (b = true → ∀ x, x ∈ l → LightP k x) := by
        intro l
        induction l with
        | nil => intro i; exact ⟨true, by rw [y1j, y2x], fun _ x hx => by simp at hx⟩
        | cons x l ihl =>
          intro i
          obtain ⟨b, b1, b2⟩ := ih n x (by omega) (by omega)
          rw [y1j, ew, b1, Option.bind_some]
          cases b with
          | false => exact ⟨false, rfl, by simp⟩
          | true =>
            obtain ⟨c, c1, c2⟩ := ihl (i + 1)
            refine ⟨c, c1, fun hc y hy => ?_⟩
            rcases List.mem_cons.1 hy with rfl | hy
            · exact b2 rfl
            · exact c2 hc y hy
      obtain ⟨b, b1, b2⟩ := loop t.of 0
      refine ⟨b, ?_, fun hb => ⟨by omega, b2 hb⟩⟩
      rw [e0, e1, okLen_of (by omega)]; exact b1
def oneF (v : Int) (x : Nat) : Fts := if x = 255 then ⟨false, []⟩ else ⟨false, [⟨v, ((x : Nat) : Int)⟩]⟩
theorem one_p (v g : Int) : y2i v g = some (oneF v (lowN g)) := by
  unfold y2i oneF
  rw [low_eq]
  by_cases h : lowN g = 255
  · simp [h]
  · have : ¬ ((lowN g : Nat) : Int) = 255 := by omega
    simp [h, this]
theorem and_one (v : Int) (x : Int) : andF ⟨false, [⟨v, x⟩]⟩ ⟨false, []⟩ = oneF v (lowN x) := by
  have e1 : tgN [⟨v, x⟩] v = lowN x := by simp only [tgN, if_true]; exact and255 (lowN_lt x)
  unfold andF oneF
  simp only [Bool.or_false, Bool.false_eq_true, if_false, List.append_nil, canF, vsF, insV, List.map_cons, List.map_nil, e1]
  by_cases h : lowN x = 255
  · simp [sayF, h]
  · have : ¬ ((lowN x : Nat) : Int) = 255 := by omega
    simp [sayF, h, this]
theorem y6z (x : BitVec 64) : BitVec.ofInt 64 (IntKind.i64.wrap (x.toNat : Int)) = x := by
  have h := x.isLt
  apply BitVec.eq_of_toNat_eq
  rw [kw_i64, BitVec.toNat_ofInt]
  omega
theorem and_mod (X : BitVec 64) : (X &&& 255#64).toNat = X.toNat % 256 := by
  rw [BitVec.toNat_and]
  exact Nat.and_two_pow_sub_one_eq_mod X.toNat 8
theorem low_mod (g : Int) : lowN g = (BitVec.ofInt 64 g).toNat % 256 := and_mod _
theorem low_not (g : Int) : lowN (notB .i64 g) = 255 - lowN g := by
  have h1 : BitVec.ofInt 64 (notB .i64 g) = ~~~ BitVec.ofInt 64 g := by
    show BitVec.ofInt 64 (IntKind.i64.wrap ((BitVec.ofInt 64 (-1) ^^^ BitVec.ofInt 64 g).toNat : Int)) = _
    rw [y6z]
    rw [show BitVec.ofInt 64 (-1) = BitVec.allOnes 64 by decide, BitVec.allOnes_xor]
  rw [low_mod, low_mod, h1, BitVec.toNat_not]
  have := (BitVec.ofInt 64 g).isLt
  omega
theorem low_nat {x : Nat} (h : x < 256) : lowN (x : Int) = x := by
  rw [low_mod, ofInt_nat h]; exact Nat.mod_eq_of_lt h
theorem is_eq (v g : Int) (n : Nat) : y3s v g = some ⟨oneF v (lowN g), oneF v (255 - lowN g)⟩ ∧ g_r06_Is n v g = some ⟨oneF v (lowN g), oneF v (255 - lowN g)⟩ := by
  have h := lowN_lt g
  constructor
  · unfold y3s
    rw [one_p, Option.bind_some, one_p, Option.bind_some, low_not]
  · unfold g_r06_Is g_r06_low
    simp only [Option.bind_some, low_eq]
    have ew : IntKind.i64.wrap (255 - ((lowN g : Nat) : Int)) = ((255 - lowN g : Nat) : Int) := by rw [wI (by omega) (by omega)]; omega
    rw [ew, and_r _ _ _ (by simp), Option.bind_some, and_r _ _ _ (by simp), Option.bind_some, and_one, and_one, low_nat h, low_nat (by omega)]
theorem truth_eq (v : Int) : y2z v = some ⟨⟨false, []⟩, ⟨false, [⟨v, 2⟩]⟩⟩ := by
  unfold y2z
  rw [one_p, Option.bind_some]; rfl
def ifF (a b c : Prp) : Prp := ⟨orF (andF a.thn b.thn) (andF a.els c.thn), orF (andF a.thn b.els) (andF a.els c.els)⟩
def Few (k : Nat) (p : Prp) : Prop := p.thn.l.length ≤ k ∧ p.els.l.length ≤ k
theorem if_few {k : Nat} {a b c : Prp} (ha : Few k a) (hb : Few k b) (hc : Few k c) : Few (2 * k) (ifF a b c) := by
  obtain ⟨a1, a2⟩ := ha
  obtain ⟨b1, b2⟩ := hb
  obtain ⟨c1, c2⟩ := hc
  have h1 := andF_len a.thn b.thn
  have h2 := andF_len a.els c.thn
  have h3 := andF_len a.thn b.els
  have h4 := andF_len a.els c.els
  have h5 := orF_len (andF a.thn b.thn) (andF a.els c.thn)
  have h6 := orF_len (andF a.thn b.els) (andF a.els c.els)
  constructor
  · show (orF (andF a.thn b.thn) (andF a.els c.thn)).l.length ≤ _
    omega
  · show (orF (andF a.thn b.els) (andF a.els c.els)).l.length ≤ _
    omega
theorem if_eq {a b c : Prp} (ha : Few 1000 a) (hb : Few 1000 b) (hc : Few 1000 c) (n : Nat) : y3p a b c = some (ifF a b c) ∧ g_r06_If n a b c = some (ifF a b c) := by
  obtain ⟨a1, a2⟩ := ha
  obtain ⟨b1, b2⟩ := hb
  obtain ⟨c1, c2⟩ := hc
  have h1 := andF_len a.thn b.thn
  have h2 := andF_len a.els c.thn
  have h3 := andF_len a.thn b.els
  have h4 := andF_len a.els c.els
  constructor
  · have tt1 : okTwo a.thn b.thn = true := decide_eq_true (by omega)
    have tt2 : okTwo a.els c.thn = true := decide_eq_true (by omega)
    have tt3 : okTwo a.thn b.els = true := decide_eq_true (by omega)
    have tt4 : okTwo a.els c.els = true := decide_eq_true (by omega)
    have tt5 : okTwo (andF a.thn b.thn) (andF a.els c.thn) = true := decide_eq_true (by omega)
    have tt6 : okTwo (andF a.thn b.els) (andF a.els c.els) = true := decide_eq_true (by omega)
    simp only [y3p, y1v, oAnd, oOr, tt1, tt2, tt3, tt4, tt5, tt6, if_true, Option.bind_some]
    rfl
  · simp only [g_r06_If, and_r a.thn b.thn n (by omega), and_r a.els c.thn n (by omega), and_r a.thn b.els n (by omega), and_r a.els c.els n (by omega), or_r (andF a.thn b.thn) (andF a.els c.thn) n (by omega), or_r (andF a.thn b.els) (andF a.els c.els) n (by omega), Option.bind_some]
    rfl
theorem few_le {j k : Nat} {p : Prp} (h : Few j p) (hjk : j ≤ k) : Few k p := ⟨Nat.le_trans h.1 hjk, Nat.le_trans h.2 hjk⟩
theorem oneF_len (v : Int) (x : Nat) : (oneF v x).l.length ≤ 1 := by unfold oneF; split <;> simp
theorem idx_ok {l : List Tst} {i : Nat} (h : i < l.length) : idx l ((i : Nat) : Int) = some l[i] := by rw [idx_nat, List.getElem?_eq_getElem h]
theorem prop_own : ∀ (k : Nat) (t : Tst), LightP k t → k ≤ 8 → ∀ (n : Nat), k ≤ n → ∃ p, y48 n t = some p ∧ g_w06_own n t = some p ∧ Few (2 ^ k) p := by
  intro k
  induction k with
  | zero => intro t h; exact h.elim
  | succ k ih =>
    intro t h hk n hn
    obtain ⟨n, rfl⟩ : ∃ m, n = m + 1 := ⟨n - 1, by omega⟩
    obtain ⟨hl, hs⟩ := h
    have h2 : 1 ≤ 2 ^ (k + 1) := Nat.one_le_two_pow
    have hnone : Few (2 ^ (k + 1)) ⟨⟨false, []⟩, ⟨false, []⟩⟩ := ⟨Nat.zero_le _, Nat.zero_le _⟩
    simp only [y48, y4a, g_w06_own, y4o]
    by_cases o0 : t.op = 0
    · obtain ⟨e1, e2⟩ := is_eq t.var t.tags n
      refine ⟨⟨oneF t.var (lowN t.tags), oneF t.var (255 - lowN t.tags)⟩, ?_, ?_, few_le (j := 1) ⟨oneF_len _ _, oneF_len _ _⟩ h2⟩
      · rw [decide_eq_true o0, cond_true, e1, Option.bind_some]
      · rw [decide_eq_true o0, cond_true, e2, Option.bind_some]
    rw [decide_eq_false o0, cond_false, cond_false]
    by_cases o1 : t.op = 1
    · refine ⟨⟨⟨false, []⟩, ⟨false, [⟨t.var, 2⟩]⟩⟩, ?_, ?_, few_le (j := 1) ⟨by simp, by simp⟩ h2⟩
      · rw [decide_eq_true o1, cond_true, truth_eq, Option.bind_some]
      · rw [decide_eq_true o1, cond_true, y4p, Option.bind_some]
    rw [decide_eq_false o1, cond_false, cond_false]
    by_cases o2 : t.op = 2
    · refine ⟨⟨⟨!t.yes, []⟩, ⟨t.yes, []⟩⟩, ?_, ?_, few_le (j := 1) ⟨by simp, by simp⟩ h2⟩
      · rw [decide_eq_true o2, cond_true, y3j, Option.bind_some]
      · rw [decide_eq_true o2, cond_true, y4q, Option.bind_some]
    rw [decide_eq_false o2, cond_false, cond_false]
    by_cases o3 : t.op = 3
    · rw [decide_eq_true o3, cond_true, cond_true]
      by_cases hz : 0 < t.of.length
      · have e0 : decide (0 < ((List.length t.of : Nat) : Int)) = true := by simp; omega
        obtain ⟨p, p1, p2, p3⟩ := ih t.of[0] (hs _ (List.getElem_mem _)) (by omega) n (by omega)
        refine ⟨⟨p.els, p.thn⟩, ?_, ?_, few_le (j := 2 ^ k) ⟨p3.2, p3.1⟩ (Nat.pow_le_pow_right (by decide) (Nat.le_succ k))⟩
        · have i0 : idx t.of 0 = some t.of[0] := idx_ok (i := 0) hz
          rw [e0, cond_true, i0, Option.bind_some, p1, Option.bind_some, y4b, Option.bind_some]
        · have i0 : idx t.of 0 = some t.of[0] := idx_ok (i := 0) hz
          rw [e0, cond_true, i0, Option.bind_some, p2, Option.bind_some, g_r06_Not, Option.bind_some]
      · have e0 : decide (0 < ((List.length t.of : Nat) : Int)) = false := decide_eq_false (by omega)
        exact ⟨_, by rw [e0, cond_false, y1t, Option.bind_some], by rw [e0, cond_false], hnone⟩
    rw [decide_eq_false o3, cond_false, cond_false]
    by_cases o4 : t.op = 4
    · rw [decide_eq_true o4, cond_true, cond_true]
      by_cases hz : 2 < t.of.length
      · have e0 : decide (2 < ((List.length t.of : Nat) : Int)) = true := by simp; omega
        obtain ⟨p, p1, p2, p3⟩ := ih t.of[0] (hs _ (List.getElem_mem _)) (by omega) n (by omega)
        obtain ⟨q, q1, q2, q3⟩ := ih t.of[1] (hs _ (List.getElem_mem _)) (by omega) n (by omega)
        obtain ⟨r, r1, r2, r3⟩ := ih t.of[2] (hs _ (List.getElem_mem _)) (by omega) n (by omega)
        have hk2 : 2 ^ k ≤ 1000 := Nat.le_trans (Nat.pow_le_pow_right (by decide) (show k ≤ 8 by omega)) (by decide)
        obtain ⟨f1, f2⟩ := if_eq (few_le p3 hk2) (few_le q3 hk2) (few_le r3 hk2) n
        have i0 : idx t.of 0 = some t.of[0] := idx_ok (i := 0) (by omega)
        have i1 : idx t.of 1 = some t.of[1] := idx_ok (i := 1) (by omega)
        have i2 : idx t.of 2 = some t.of[2] := idx_ok (i := 2) (by omega)
        refine ⟨ifF p q r, ?_, ?_, ?_⟩
        · rw [e0, cond_true, i0, Option.bind_some, p1, Option.bind_some, i1, Option.bind_some, q1, Option.bind_some, i2, Option.bind_some, r1, Option.bind_some, f1, Option.bind_some]
        · rw [e0, cond_true, i0, Option.bind_some, p2, Option.bind_some, i1, Option.bind_some, q2, Option.bind_some, i2, Option.bind_some, r2, Option.bind_some, f2, Option.bind_some]
        · have := if_few p3 q3 r3
          rwa [Nat.pow_succ, Nat.mul_comm]
      · have e0 : decide (2 < ((List.length t.of : Nat) : Int)) = false := by simp; omega
        exact ⟨_, by rw [e0, cond_false, y1t, Option.bind_some], by rw [e0, cond_false], hnone⟩
    rw [decide_eq_false o4, cond_false, cond_false]
    exact ⟨_, by rw [y1t, Option.bind_some], rfl, hnone⟩
theorem asks_t (t : Tst) : y31 100 t = some true := by
  unfold y31 oAwake
  rw [Option.bind_some]
  obtain ⟨b, b1, b2⟩ := light_p 6 100 t (by decide) (by decide)
  have b1 : y2b 100 t 6 = some b := b1
  rw [b1, Option.bind_some]
  cases b with
  | false => rfl
  | true =>
    obtain ⟨p, p1, p2, p3⟩ := prop_own 6 t (b2 rfl) (by decide) 100 (by decide)
    have h1 : p.thn.l.length < 10000000000 := Nat.lt_of_le_of_lt p3.1 (by decide)
    have h2 : p.els.l.length < 10000000000 := Nat.lt_of_le_of_lt p3.2 (by decide)
    rw [Bool.not_true, cond_false, p1, Option.bind_some, p2, Option.bind_some, y4x, to_f _ h1, Option.bind_some, same_f _ h1, Option.bind_some, to_f _ h2, Option.bind_some, same_f _ h2]
    rfl
theorem nasks (t : Tst) : ∃ n, pcall (tabOf tabL) n 5 [vTst t] = some (.ok (.bool true)) := (y5u (asks_t t)).get
end Go.Ev.Seat
