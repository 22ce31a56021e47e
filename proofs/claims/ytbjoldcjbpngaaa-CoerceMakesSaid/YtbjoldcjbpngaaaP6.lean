/-
  Part 6 of a proof: CoerceMakes: for every input the law returns true, and what it was given reads behind the call as before. No conditions.
-/
import Derived.Test.YtbjoldcjbpngaaaP5
import Derived.KernelRfl
namespace Go.Ev.Seat
set_option linter.unusedVariables false
set_option linter.unusedSimpArgs false
open Go Go.Ev
set_option maxRecDepth 20000
attribute [local irreducible] pcall callF
theorem g_r07_Compose_b_ok {rec : Co → Co → Option Co} {c1 : Co} {d2 : Co} {r : Co} (hrec : ∀ (a0 : Co) (a1 : Co) (r : Co), rec a0 a1 = some r → PRes (tabOf tabL) 19 [.agg (cC a0), .agg (cC a1)] (.agg (cC r))) (hr : g_r07_Compose_b rec c1 d2 = some r) : PRes (tabOf tabL) 19 [.agg (cC c1), .agg (cC d2)] (.agg (cC r)) := by
  refine pres_fin t19 ?_
  unfold g_r07_Compose_b at hr
  refine L_seq ?_
  refine L_stmt ?_
  refine L_reg ?_
  refine G_n (B := (kg053 c1)) rfl rfl rfl ?_
  refine G_n (B := (kg054 d2)) rfl rfl rfl ?_
  refine G_n (B := kg071) rfl rfl rfl ?_
  refine G_nil ?_
  refine L_nil ?_
  refine Sm_norm (e2 := [(2, .ptr 0 0), (3, .ptr 1 0), (4, .ptr 2 0)]) (H1 := [(kg053 c1), (kg054 d2), kg071]) (H2 := [(kg053 c1), (kg054 d2), kg071]) rfl (by repeat (first | exact rzz | apply rcc rfl | apply rnn rfl)) rfl (?_ : GL _ _ _ _ _)
  refine L_seq ?_
  refine L_stmt ?_
  refine L_reg ?_
  refine G_p (v := .agg [.int .i64 0, .int .i64 0, .int .i64 0, .int .i64 0, .int .i64 0, .int .i64 0, .int .i64 0, .int .i64 0, .lst [] true, .int .i64 0, .int .i64 0, .lst [] true]) rfl rfl rfl ?_
  refine G_n (B := kg071) rfl rfl rfl ?_
  refine G_hn (H' := [(kg053 c1), (kg054 d2), kg071, kg071]) rfl rfl rfl (fun _ => rfl) ?_
  refine G_nil ?_
  refine L_nil ?_
  refine Sm_norm (e2 := [(2, .ptr 0 0), (3, .ptr 1 0), (4, .ptr 2 0), (5, .ptr 3 0)]) (H1 := [(kg053 c1), (kg054 d2), kg071, kg071]) (H2 := [(kg053 c1), (kg054 d2), kg071, kg071]) rfl (by repeat (first | exact rzz | apply rcc rfl | apply rnn rfl)) rfl (?_ : GL _ _ _ _ _)
  refine L_seq ?_
  refine L_stmtJ (S := Int × Int × Int × Int × Int × Int) (fun s => [(2, .ptr 0 0), (3, .ptr 1 0), (4, .ptr 2 0), (5, .ptr 3 0)]) (fun s => [(kg053 c1), (kg054 d2), kg071, .cells [.int .i64 s.1, .int .i64 s.2.1, .int .i64 s.2.2.1, .int .i64 s.2.2.2.1, .int .i64 s.2.2.2.2.1, .int .i64 s.2.2.2.2.2, .int .i64 0, .int .i64 0, .lst [] true, .int .i64 0, .int .i64 0, .lst [] true]]) (fun s => g_r07_Compose_j7 rec c1 d2 s.1 s.2.1 s.2.2.1 s.2.2.2.1 s.2.2.2.2.1 s.2.2.2.2.2 = some r) ?_ ?_
  · skip
    refine L_seq ?_
    refine L_stmt ?_
    refine L_reg ?_
    refine G_p rfl rfl rfl ?_
    refine G_nil ?_
    refine L_nil ?_
    refine Sm_norm (e2 := kg073) (H1 := [(kg053 c1), (kg054 d2), kg071, kg071]) (H2 := [(kg053 c1), (kg054 d2), kg071, kg071]) rfl (by repeat (first | exact rzz | apply rcc rfl | apply rnn rfl)) rfl (?_ : GL _ _ _ _ _)
    refine L_block ?_
    refine L_loop ?_
    refine L_round (e1 := [(6, .int .i64 0), (2, .ptr 0 0), (3, .ptr 1 0), (4, .ptr 2 0), (5, .ptr 3 0)]) (H1 := [(kg053 c1), (kg054 d2), kg071, kg071]) (by repeat (first | exact rzz | apply rcc rfl | apply rnn rfl)) rfl ?_
    refine L_seq ?_
    refine L_stmt ?_
    refine L_seq ?_
    refine L_stmt ?_
    refine L_reg ?_
    refine G_p rfl rfl rfl ?_
    refine G_p rfl rfl rfl ?_
    refine G_nil ?_
    refine L_nil ?_
    refine Sm_norm (e2 := [(2, .ptr 0 0), (3, .ptr 1 0), (4, .ptr 2 0), (5, .ptr 3 0), (6, .int .i64 0), (13, .bool true)]) (H1 := [(kg053 c1), (kg054 d2), kg071, kg071]) (H2 := [(kg053 c1), (kg054 d2), kg071, kg071]) rfl (by repeat (first | exact rzz | apply rcc rfl | apply rnn rfl)) rfl (?_ : GL _ _ _ _ _)
    refine L_T rfl rfl ?_
    refine L_skip ?_
    refine L_nil ?_
    refine Sm_norm (e2 := kg073) (H1 := [(kg053 c1), (kg054 d2), kg071, kg071]) (H2 := [(kg053 c1), (kg054 d2), kg071, kg071]) rfl (by repeat (first | exact rzz | apply rcc rfl | apply rnn rfl)) rfl (?_ : GL _ _ _ _ _)
    refine L_seq ?_
    refine L_stmt ?_
    refine L_block ?_
    refine L_drawT [] rfl ?_
    refine GS_p rfl rfl rfl ?_
    refine GS_p rfl rfl rfl ?_
    refine GS_p rfl rfl rfl ?_
    refine GS_p rfl rfl rfl ?_
    refine GS_h (d := some 20) rfl rfl rfl rfl (fun _ => rfl) ?_
    refine GS_p rfl rfl rfl ?_
    refine GS_p rfl rfl rfl ?_
    refine GS_p rfl rfl rfl ?_
    refine GS_h (d := some 24) rfl rfl rfl rfl (fun _ => rfl) ?_
    obtain ⟨r201, hr201, hr⟩ := bind_s hr
    refine GS_c 49 rfl rfl rfl (CA_of (as := [.int .i64 (c1.flat 0), .int .i64 (d2.flat 0)]) rfl (g_r07_either_ok hr201)) ?_
    refine GS_p rfl rfl rfl ?_
    refine GS_p rfl rfl rfl ?_
    refine GS_h (d := none) (H' := [(kg053 c1), (kg054 d2), kg071, .cells [.int .i64 r201, .int .i64 0, .int .i64 0, .int .i64 0, .int .i64 0, .int .i64 0, .int .i64 0, .int .i64 0, .lst [] true, .int .i64 0, .int .i64 0, .lst [] true]]) rfl rfl rfl rfl (fun _ => rfl) ?_
    refine GS_nil ?_
    refine L_nil ?_
    refine Blk_norm (?_ : GL _ _ _ _ _)
    refine L_nil ?_
    refine Sm_norm (e2 := kg073) (H1 := [(kg053 c1), (kg054 d2), kg071, .cells [.int .i64 r201, .int .i64 0, .int .i64 0, .int .i64 0, .int .i64 0, .int .i64 0, .int .i64 0, .int .i64 0, .lst [] true, .int .i64 0, .int .i64 0, .lst [] true]]) (H2 := [(kg053 c1), (kg054 d2), kg071, .cells [.int .i64 r201, .int .i64 0, .int .i64 0, .int .i64 0, .int .i64 0, .int .i64 0, .int .i64 0, .int .i64 0, .lst [] true, .int .i64 0, .int .i64 0, .lst [] true]]) rfl (by repeat (first | exact rzz | apply rcc rfl | apply rnn rfl)) rfl (?_ : GL _ _ _ _ _)
    refine L_reg ?_
    refine G_p rfl rfl rfl ?_
    refine G_p rfl rfl rfl ?_
    refine G_p rfl rfl rfl ?_
    refine G_nil ?_
    refine L_nil ?_
    refine Rd_norm ?_
    refine L_round (e1 := [(6, .int .i64 1), (2, .ptr 0 0), (3, .ptr 1 0), (4, .ptr 2 0), (5, .ptr 3 0)]) (H1 := [(kg053 c1), (kg054 d2), kg071, .cells [.int .i64 r201, .int .i64 0, .int .i64 0, .int .i64 0, .int .i64 0, .int .i64 0, .int .i64 0, .int .i64 0, .lst [] true, .int .i64 0, .int .i64 0, .lst [] true]]) (by repeat (first | exact rzz | apply rcc rfl | apply rnn rfl)) rfl ?_
    refine L_seq ?_
    refine L_stmt ?_
    refine L_seq ?_
    refine L_stmt ?_
    refine L_reg ?_
    refine G_p rfl rfl rfl ?_
    refine G_p rfl rfl rfl ?_
    refine G_nil ?_
    refine L_nil ?_
    refine Sm_norm (e2 := [(2, .ptr 0 0), (3, .ptr 1 0), (4, .ptr 2 0), (5, .ptr 3 0), (6, .int .i64 1), (13, .bool true)]) (H1 := [(kg053 c1), (kg054 d2), kg071, .cells [.int .i64 r201, .int .i64 0, .int .i64 0, .int .i64 0, .int .i64 0, .int .i64 0, .int .i64 0, .int .i64 0, .lst [] true, .int .i64 0, .int .i64 0, .lst [] true]]) (H2 := [(kg053 c1), (kg054 d2), kg071, .cells [.int .i64 r201, .int .i64 0, .int .i64 0, .int .i64 0, .int .i64 0, .int .i64 0, .int .i64 0, .int .i64 0, .lst [] true, .int .i64 0, .int .i64 0, .lst [] true]]) rfl (by repeat (first | exact rzz | apply rcc rfl | apply rnn rfl)) rfl (?_ : GL _ _ _ _ _)
    refine L_T rfl rfl ?_
    refine L_skip ?_
    refine L_nil ?_
    refine Sm_norm (e2 := [(2, .ptr 0 0), (3, .ptr 1 0), (4, .ptr 2 0), (5, .ptr 3 0), (6, .int .i64 1)]) (H1 := [(kg053 c1), (kg054 d2), kg071, .cells [.int .i64 r201, .int .i64 0, .int .i64 0, .int .i64 0, .int .i64 0, .int .i64 0, .int .i64 0, .int .i64 0, .lst [] true, .int .i64 0, .int .i64 0, .lst [] true]]) (H2 := [(kg053 c1), (kg054 d2), kg071, .cells [.int .i64 r201, .int .i64 0, .int .i64 0, .int .i64 0, .int .i64 0, .int .i64 0, .int .i64 0, .int .i64 0, .lst [] true, .int .i64 0, .int .i64 0, .lst [] true]]) rfl (by repeat (first | exact rzz | apply rcc rfl | apply rnn rfl)) rfl (?_ : GL _ _ _ _ _)
    refine L_seq ?_
    refine L_stmt ?_
    refine L_block ?_
    refine L_drawT [] rfl ?_
    refine GS_p rfl rfl rfl ?_
    refine GS_p rfl rfl rfl ?_
    refine GS_p rfl rfl rfl ?_
    refine GS_p rfl rfl rfl ?_
    refine GS_h (d := some 20) rfl rfl rfl rfl (fun _ => rfl) ?_
    refine GS_p rfl rfl rfl ?_
    refine GS_p rfl rfl rfl ?_
    refine GS_p rfl rfl rfl ?_
    refine GS_h (d := some 24) rfl rfl rfl rfl (fun _ => rfl) ?_
    obtain ⟨r203, hr203, hr⟩ := bind_s hr
    refine GS_c 49 rfl rfl rfl (CA_of (as := [.int .i64 (c1.flat 1), .int .i64 (d2.flat 1)]) rfl (g_r07_either_ok hr203)) ?_
    refine GS_p rfl rfl rfl ?_
    refine GS_p rfl rfl rfl ?_
    refine GS_h (d := none) (H' := [(kg053 c1), (kg054 d2), kg071, .cells [.int .i64 r201, .int .i64 r203, .int .i64 0, .int .i64 0, .int .i64 0, .int .i64 0, .int .i64 0, .int .i64 0, .lst [] true, .int .i64 0, .int .i64 0, .lst [] true]]) rfl rfl rfl rfl (fun _ => rfl) ?_
    refine GS_nil ?_
    refine L_nil ?_
    refine Blk_norm (?_ : GL _ _ _ _ _)
    refine L_nil ?_
    refine Sm_norm (e2 := [(2, .ptr 0 0), (3, .ptr 1 0), (4, .ptr 2 0), (5, .ptr 3 0), (6, .int .i64 1)]) (H1 := [(kg053 c1), (kg054 d2), kg071, .cells [.int .i64 r201, .int .i64 r203, .int .i64 0, .int .i64 0, .int .i64 0, .int .i64 0, .int .i64 0, .int .i64 0, .lst [] true, .int .i64 0, .int .i64 0, .lst [] true]]) (H2 := [(kg053 c1), (kg054 d2), kg071, .cells [.int .i64 r201, .int .i64 r203, .int .i64 0, .int .i64 0, .int .i64 0, .int .i64 0, .int .i64 0, .int .i64 0, .lst [] true, .int .i64 0, .int .i64 0, .lst [] true]]) rfl (by repeat (first | exact rzz | apply rcc rfl | apply rnn rfl)) rfl (?_ : GL _ _ _ _ _)
    refine L_reg ?_
    refine G_p rfl rfl rfl ?_
    refine G_p rfl rfl rfl ?_
    refine G_p rfl rfl rfl ?_
    refine G_nil ?_
    refine L_nil ?_
    refine Rd_norm ?_
    refine L_round (e1 := [(6, .int .i64 2), (2, .ptr 0 0), (3, .ptr 1 0), (4, .ptr 2 0), (5, .ptr 3 0)]) (H1 := [(kg053 c1), (kg054 d2), kg071, .cells [.int .i64 r201, .int .i64 r203, .int .i64 0, .int .i64 0, .int .i64 0, .int .i64 0, .int .i64 0, .int .i64 0, .lst [] true, .int .i64 0, .int .i64 0, .lst [] true]]) (by repeat (first | exact rzz | apply rcc rfl | apply rnn rfl)) rfl ?_
    refine L_seq ?_
    refine L_stmt ?_
    refine L_seq ?_
    refine L_stmt ?_
    refine L_reg ?_
    refine G_p rfl rfl rfl ?_
    refine G_p rfl rfl rfl ?_
    refine G_nil ?_
    refine L_nil ?_
    refine Sm_norm (e2 := [(2, .ptr 0 0), (3, .ptr 1 0), (4, .ptr 2 0), (5, .ptr 3 0), (6, .int .i64 2), (13, .bool true)]) (H1 := [(kg053 c1), (kg054 d2), kg071, .cells [.int .i64 r201, .int .i64 r203, .int .i64 0, .int .i64 0, .int .i64 0, .int .i64 0, .int .i64 0, .int .i64 0, .lst [] true, .int .i64 0, .int .i64 0, .lst [] true]]) (H2 := [(kg053 c1), (kg054 d2), kg071, .cells [.int .i64 r201, .int .i64 r203, .int .i64 0, .int .i64 0, .int .i64 0, .int .i64 0, .int .i64 0, .int .i64 0, .lst [] true, .int .i64 0, .int .i64 0, .lst [] true]]) rfl (by repeat (first | exact rzz | apply rcc rfl | apply rnn rfl)) rfl (?_ : GL _ _ _ _ _)
    refine L_T rfl rfl ?_
    refine L_skip ?_
    refine L_nil ?_
    refine Sm_norm (e2 := [(2, .ptr 0 0), (3, .ptr 1 0), (4, .ptr 2 0), (5, .ptr 3 0), (6, .int .i64 2)]) (H1 := [(kg053 c1), (kg054 d2), kg071, .cells [.int .i64 r201, .int .i64 r203, .int .i64 0, .int .i64 0, .int .i64 0, .int .i64 0, .int .i64 0, .int .i64 0, .lst [] true, .int .i64 0, .int .i64 0, .lst [] true]]) (H2 := [(kg053 c1), (kg054 d2), kg071, .cells [.int .i64 r201, .int .i64 r203, .int .i64 0, .int .i64 0, .int .i64 0, .int .i64 0, .int .i64 0, .int .i64 0, .lst [] true, .int .i64 0, .int .i64 0, .lst [] true]]) rfl (by repeat (first | exact rzz | apply rcc rfl | apply rnn rfl)) rfl (?_ : GL _ _ _ _ _)
    refine L_seq ?_
    refine L_stmt ?_
    refine L_block ?_
    refine L_drawT [] rfl ?_
    refine GS_p rfl rfl rfl ?_
    refine GS_p rfl rfl rfl ?_
    refine GS_p rfl rfl rfl ?_
    refine GS_p rfl rfl rfl ?_
    refine GS_h (d := some 20) rfl rfl rfl rfl (fun _ => rfl) ?_
    refine GS_p rfl rfl rfl ?_
    refine GS_p rfl rfl rfl ?_
    refine GS_p rfl rfl rfl ?_
    refine GS_h (d := some 24) rfl rfl rfl rfl (fun _ => rfl) ?_
    obtain ⟨r205, hr205, hr⟩ := bind_s hr
    refine GS_c 49 rfl rfl rfl (CA_of (as := [.int .i64 (c1.flat 2), .int .i64 (d2.flat 2)]) rfl (g_r07_either_ok hr205)) ?_
    refine GS_p rfl rfl rfl ?_
    refine GS_p rfl rfl rfl ?_
    refine GS_h (d := none) (H' := [(kg053 c1), (kg054 d2), kg071, .cells [.int .i64 r201, .int .i64 r203, .int .i64 r205, .int .i64 0, .int .i64 0, .int .i64 0, .int .i64 0, .int .i64 0, .lst [] true, .int .i64 0, .int .i64 0, .lst [] true]]) rfl rfl rfl rfl (fun _ => rfl) ?_
    refine GS_nil ?_
    refine L_nil ?_
    refine Blk_norm (?_ : GL _ _ _ _ _)
    refine L_nil ?_
    refine Sm_norm (e2 := [(2, .ptr 0 0), (3, .ptr 1 0), (4, .ptr 2 0), (5, .ptr 3 0), (6, .int .i64 2)]) (H1 := [(kg053 c1), (kg054 d2), kg071, .cells [.int .i64 r201, .int .i64 r203, .int .i64 r205, .int .i64 0, .int .i64 0, .int .i64 0, .int .i64 0, .int .i64 0, .lst [] true, .int .i64 0, .int .i64 0, .lst [] true]]) (H2 := [(kg053 c1), (kg054 d2), kg071, .cells [.int .i64 r201, .int .i64 r203, .int .i64 r205, .int .i64 0, .int .i64 0, .int .i64 0, .int .i64 0, .int .i64 0, .lst [] true, .int .i64 0, .int .i64 0, .lst [] true]]) rfl (by repeat (first | exact rzz | apply rcc rfl | apply rnn rfl)) rfl (?_ : GL _ _ _ _ _)
    refine L_reg ?_
    refine G_p rfl rfl rfl ?_
    refine G_p rfl rfl rfl ?_
    refine G_p rfl rfl rfl ?_
    refine G_nil ?_
    refine L_nil ?_
    refine Rd_norm ?_
    refine L_round (e1 := [(6, .int .i64 3), (2, .ptr 0 0), (3, .ptr 1 0), (4, .ptr 2 0), (5, .ptr 3 0)]) (H1 := [(kg053 c1), (kg054 d2), kg071, .cells [.int .i64 r201, .int .i64 r203, .int .i64 r205, .int .i64 0, .int .i64 0, .int .i64 0, .int .i64 0, .int .i64 0, .lst [] true, .int .i64 0, .int .i64 0, .lst [] true]]) (by repeat (first | exact rzz | apply rcc rfl | apply rnn rfl)) rfl ?_
    refine L_seq ?_
    refine L_stmt ?_
    refine L_seq ?_
    refine L_stmt ?_
    refine L_reg ?_
    refine G_p rfl rfl rfl ?_
    refine G_p rfl rfl rfl ?_
    refine G_nil ?_
    refine L_nil ?_
    refine Sm_norm (e2 := [(2, .ptr 0 0), (3, .ptr 1 0), (4, .ptr 2 0), (5, .ptr 3 0), (6, .int .i64 3), (13, .bool true)]) (H1 := [(kg053 c1), (kg054 d2), kg071, .cells [.int .i64 r201, .int .i64 r203, .int .i64 r205, .int .i64 0, .int .i64 0, .int .i64 0, .int .i64 0, .int .i64 0, .lst [] true, .int .i64 0, .int .i64 0, .lst [] true]]) (H2 := [(kg053 c1), (kg054 d2), kg071, .cells [.int .i64 r201, .int .i64 r203, .int .i64 r205, .int .i64 0, .int .i64 0, .int .i64 0, .int .i64 0, .int .i64 0, .lst [] true, .int .i64 0, .int .i64 0, .lst [] true]]) rfl (by repeat (first | exact rzz | apply rcc rfl | apply rnn rfl)) rfl (?_ : GL _ _ _ _ _)
    refine L_T rfl rfl ?_
    refine L_skip ?_
    refine L_nil ?_
    refine Sm_norm (e2 := [(2, .ptr 0 0), (3, .ptr 1 0), (4, .ptr 2 0), (5, .ptr 3 0), (6, .int .i64 3)]) (H1 := [(kg053 c1), (kg054 d2), kg071, .cells [.int .i64 r201, .int .i64 r203, .int .i64 r205, .int .i64 0, .int .i64 0, .int .i64 0, .int .i64 0, .int .i64 0, .lst [] true, .int .i64 0, .int .i64 0, .lst [] true]]) (H2 := [(kg053 c1), (kg054 d2), kg071, .cells [.int .i64 r201, .int .i64 r203, .int .i64 r205, .int .i64 0, .int .i64 0, .int .i64 0, .int .i64 0, .int .i64 0, .lst [] true, .int .i64 0, .int .i64 0, .lst [] true]]) rfl (by repeat (first | exact rzz | apply rcc rfl | apply rnn rfl)) rfl (?_ : GL _ _ _ _ _)
    refine L_seq ?_
    refine L_stmt ?_
    refine L_block ?_
    refine L_drawT [] rfl ?_
    refine GS_p rfl rfl rfl ?_
    refine GS_p rfl rfl rfl ?_
    refine GS_p rfl rfl rfl ?_
    refine GS_p rfl rfl rfl ?_
    refine GS_h (d := some 20) rfl rfl rfl rfl (fun _ => rfl) ?_
    refine GS_p rfl rfl rfl ?_
    refine GS_p rfl rfl rfl ?_
    refine GS_p rfl rfl rfl ?_
    refine GS_h (d := some 24) rfl rfl rfl rfl (fun _ => rfl) ?_
    obtain ⟨r207, hr207, hr⟩ := bind_s hr
    refine GS_c 49 rfl rfl rfl (CA_of (as := [.int .i64 (c1.flat 3), .int .i64 (d2.flat 3)]) rfl (g_r07_either_ok hr207)) ?_
    refine GS_p rfl rfl rfl ?_
    refine GS_p rfl rfl rfl ?_
    refine GS_h (d := none) (H' := [(kg053 c1), (kg054 d2), kg071, .cells [.int .i64 r201, .int .i64 r203, .int .i64 r205, .int .i64 r207, .int .i64 0, .int .i64 0, .int .i64 0, .int .i64 0, .lst [] true, .int .i64 0, .int .i64 0, .lst [] true]]) rfl rfl rfl rfl (fun _ => rfl) ?_
    refine GS_nil ?_
    refine L_nil ?_
    refine Blk_norm (?_ : GL _ _ _ _ _)
    refine L_nil ?_
    refine Sm_norm (e2 := [(2, .ptr 0 0), (3, .ptr 1 0), (4, .ptr 2 0), (5, .ptr 3 0), (6, .int .i64 3)]) (H1 := [(kg053 c1), (kg054 d2), kg071, .cells [.int .i64 r201, .int .i64 r203, .int .i64 r205, .int .i64 r207, .int .i64 0, .int .i64 0, .int .i64 0, .int .i64 0, .lst [] true, .int .i64 0, .int .i64 0, .lst [] true]]) (H2 := [(kg053 c1), (kg054 d2), kg071, .cells [.int .i64 r201, .int .i64 r203, .int .i64 r205, .int .i64 r207, .int .i64 0, .int .i64 0, .int .i64 0, .int .i64 0, .lst [] true, .int .i64 0, .int .i64 0, .lst [] true]]) rfl (by repeat (first | exact rzz | apply rcc rfl | apply rnn rfl)) rfl (?_ : GL _ _ _ _ _)
    refine L_reg ?_
    refine G_p rfl rfl rfl ?_
    refine G_p rfl rfl rfl ?_
    refine G_p rfl rfl rfl ?_
    refine G_nil ?_
    refine L_nil ?_
    refine Rd_norm ?_
    refine L_round (e1 := [(6, .int .i64 4), (2, .ptr 0 0), (3, .ptr 1 0), (4, .ptr 2 0), (5, .ptr 3 0)]) (H1 := [(kg053 c1), (kg054 d2), kg071, .cells [.int .i64 r201, .int .i64 r203, .int .i64 r205, .int .i64 r207, .int .i64 0, .int .i64 0, .int .i64 0, .int .i64 0, .lst [] true, .int .i64 0, .int .i64 0, .lst [] true]]) (by repeat (first | exact rzz | apply rcc rfl | apply rnn rfl)) rfl ?_
    refine L_seq ?_
    refine L_stmt ?_
    refine L_seq ?_
    refine L_stmt ?_
    refine L_reg ?_
    refine G_p rfl rfl rfl ?_
    refine G_p rfl rfl rfl ?_
    refine G_nil ?_
    refine L_nil ?_
    refine Sm_norm (e2 := [(2, .ptr 0 0), (3, .ptr 1 0), (4, .ptr 2 0), (5, .ptr 3 0), (6, .int .i64 4), (13, .bool true)]) (H1 := [(kg053 c1), (kg054 d2), kg071, .cells [.int .i64 r201, .int .i64 r203, .int .i64 r205, .int .i64 r207, .int .i64 0, .int .i64 0, .int .i64 0, .int .i64 0, .lst [] true, .int .i64 0, .int .i64 0, .lst [] true]]) (H2 := [(kg053 c1), (kg054 d2), kg071, .cells [.int .i64 r201, .int .i64 r203, .int .i64 r205, .int .i64 r207, .int .i64 0, .int .i64 0, .int .i64 0, .int .i64 0, .lst [] true, .int .i64 0, .int .i64 0, .lst [] true]]) rfl (by repeat (first | exact rzz | apply rcc rfl | apply rnn rfl)) rfl (?_ : GL _ _ _ _ _)
    refine L_T rfl rfl ?_
    refine L_skip ?_
    refine L_nil ?_
    refine Sm_norm (e2 := [(2, .ptr 0 0), (3, .ptr 1 0), (4, .ptr 2 0), (5, .ptr 3 0), (6, .int .i64 4)]) (H1 := [(kg053 c1), (kg054 d2), kg071, .cells [.int .i64 r201, .int .i64 r203, .int .i64 r205, .int .i64 r207, .int .i64 0, .int .i64 0, .int .i64 0, .int .i64 0, .lst [] true, .int .i64 0, .int .i64 0, .lst [] true]]) (H2 := [(kg053 c1), (kg054 d2), kg071, .cells [.int .i64 r201, .int .i64 r203, .int .i64 r205, .int .i64 r207, .int .i64 0, .int .i64 0, .int .i64 0, .int .i64 0, .lst [] true, .int .i64 0, .int .i64 0, .lst [] true]]) rfl (by repeat (first | exact rzz | apply rcc rfl | apply rnn rfl)) rfl (?_ : GL _ _ _ _ _)
    refine L_seq ?_
    refine L_stmt ?_
    refine L_block ?_
    refine L_drawT [] rfl ?_
    refine GS_p rfl rfl rfl ?_
    refine GS_p rfl rfl rfl ?_
    refine GS_p rfl rfl rfl ?_
    refine GS_p rfl rfl rfl ?_
    refine GS_h (d := some 20) rfl rfl rfl rfl (fun _ => rfl) ?_
    refine GS_p rfl rfl rfl ?_
    refine GS_p rfl rfl rfl ?_
    refine GS_p rfl rfl rfl ?_
    refine GS_h (d := some 24) rfl rfl rfl rfl (fun _ => rfl) ?_
    obtain ⟨r209, hr209, hr⟩ := bind_s hr
    refine GS_c 49 rfl rfl rfl (CA_of (as := [.int .i64 (c1.flat 4), .int .i64 (d2.flat 4)]) rfl (g_r07_either_ok hr209)) ?_
    refine GS_p rfl rfl rfl ?_
    refine GS_p rfl rfl rfl ?_
    refine GS_h (d := none) (H' := [(kg053 c1), (kg054 d2), kg071, .cells [.int .i64 r201, .int .i64 r203, .int .i64 r205, .int .i64 r207, .int .i64 r209, .int .i64 0, .int .i64 0, .int .i64 0, .lst [] true, .int .i64 0, .int .i64 0, .lst [] true]]) rfl rfl rfl rfl (fun _ => rfl) ?_
    refine GS_nil ?_
    refine L_nil ?_
    refine Blk_norm (?_ : GL _ _ _ _ _)
    refine L_nil ?_
    refine Sm_norm (e2 := [(2, .ptr 0 0), (3, .ptr 1 0), (4, .ptr 2 0), (5, .ptr 3 0), (6, .int .i64 4)]) (H1 := [(kg053 c1), (kg054 d2), kg071, .cells [.int .i64 r201, .int .i64 r203, .int .i64 r205, .int .i64 r207, .int .i64 r209, .int .i64 0, .int .i64 0, .int .i64 0, .lst [] true, .int .i64 0, .int .i64 0, .lst [] true]]) (H2 := [(kg053 c1), (kg054 d2), kg071, .cells [.int .i64 r201, .int .i64 r203, .int .i64 r205, .int .i64 r207, .int .i64 r209, .int .i64 0, .int .i64 0, .int .i64 0, .lst [] true, .int .i64 0, .int .i64 0, .lst [] true]]) rfl (by repeat (first | exact rzz | apply rcc rfl | apply rnn rfl)) rfl (?_ : GL _ _ _ _ _)
    refine L_reg ?_
    refine G_p rfl rfl rfl ?_
    refine G_p rfl rfl rfl ?_
    refine G_p rfl rfl rfl ?_
    refine G_nil ?_
    refine L_nil ?_
    refine Rd_norm ?_
    refine L_round (e1 := [(6, .int .i64 5), (2, .ptr 0 0), (3, .ptr 1 0), (4, .ptr 2 0), (5, .ptr 3 0)]) (H1 := [(kg053 c1), (kg054 d2), kg071, .cells [.int .i64 r201, .int .i64 r203, .int .i64 r205, .int .i64 r207, .int .i64 r209, .int .i64 0, .int .i64 0, .int .i64 0, .lst [] true, .int .i64 0, .int .i64 0, .lst [] true]]) (by repeat (first | exact rzz | apply rcc rfl | apply rnn rfl)) rfl ?_
    refine L_seq ?_
    refine L_stmt ?_
    refine L_seq ?_
    refine L_stmt ?_
    refine L_reg ?_
    refine G_p rfl rfl rfl ?_
    refine G_p rfl rfl rfl ?_
    refine G_nil ?_
    refine L_nil ?_
    refine Sm_norm (e2 := [(2, .ptr 0 0), (3, .ptr 1 0), (4, .ptr 2 0), (5, .ptr 3 0), (6, .int .i64 5), (13, .bool true)]) (H1 := [(kg053 c1), (kg054 d2), kg071, .cells [.int .i64 r201, .int .i64 r203, .int .i64 r205, .int .i64 r207, .int .i64 r209, .int .i64 0, .int .i64 0, .int .i64 0, .lst [] true, .int .i64 0, .int .i64 0, .lst [] true]]) (H2 := [(kg053 c1), (kg054 d2), kg071, .cells [.int .i64 r201, .int .i64 r203, .int .i64 r205, .int .i64 r207, .int .i64 r209, .int .i64 0, .int .i64 0, .int .i64 0, .lst [] true, .int .i64 0, .int .i64 0, .lst [] true]]) rfl (by repeat (first | exact rzz | apply rcc rfl | apply rnn rfl)) rfl (?_ : GL _ _ _ _ _)
    refine L_T rfl rfl ?_
    refine L_skip ?_
    refine L_nil ?_
    refine Sm_norm (e2 := [(2, .ptr 0 0), (3, .ptr 1 0), (4, .ptr 2 0), (5, .ptr 3 0), (6, .int .i64 5)]) (H1 := [(kg053 c1), (kg054 d2), kg071, .cells [.int .i64 r201, .int .i64 r203, .int .i64 r205, .int .i64 r207, .int .i64 r209, .int .i64 0, .int .i64 0, .int .i64 0, .lst [] true, .int .i64 0, .int .i64 0, .lst [] true]]) (H2 := [(kg053 c1), (kg054 d2), kg071, .cells [.int .i64 r201, .int .i64 r203, .int .i64 r205, .int .i64 r207, .int .i64 r209, .int .i64 0, .int .i64 0, .int .i64 0, .lst [] true, .int .i64 0, .int .i64 0, .lst [] true]]) rfl (by repeat (first | exact rzz | apply rcc rfl | apply rnn rfl)) rfl (?_ : GL _ _ _ _ _)
    refine L_seq ?_
    refine L_stmt ?_
    refine L_block ?_
    refine L_drawT [] rfl ?_
    refine GS_p rfl rfl rfl ?_
    refine GS_p rfl rfl rfl ?_
    refine GS_p rfl rfl rfl ?_
    refine GS_p rfl rfl rfl ?_
    refine GS_h (d := some 20) rfl rfl rfl rfl (fun _ => rfl) ?_
    refine GS_p rfl rfl rfl ?_
    refine GS_p rfl rfl rfl ?_
    refine GS_p rfl rfl rfl ?_
    refine GS_h (d := some 24) rfl rfl rfl rfl (fun _ => rfl) ?_
    obtain ⟨r211, hr211, hr⟩ := bind_s hr
    refine GS_c 49 rfl rfl rfl (CA_of (as := [.int .i64 (c1.flat 5), .int .i64 (d2.flat 5)]) rfl (g_r07_either_ok hr211)) ?_
    refine GS_p rfl rfl rfl ?_
    refine GS_p rfl rfl rfl ?_
    refine GS_h (d := none) (H' := [(kg053 c1), (kg054 d2), kg071, .cells [.int .i64 r201, .int .i64 r203, .int .i64 r205, .int .i64 r207, .int .i64 r209, .int .i64 r211, .int .i64 0, .int .i64 0, .lst [] true, .int .i64 0, .int .i64 0, .lst [] true]]) rfl rfl rfl rfl (fun _ => rfl) ?_
    refine GS_nil ?_
    refine L_nil ?_
    refine Blk_norm (?_ : GL _ _ _ _ _)
    refine L_nil ?_
    refine Sm_norm (e2 := [(2, .ptr 0 0), (3, .ptr 1 0), (4, .ptr 2 0), (5, .ptr 3 0), (6, .int .i64 5)]) (H1 := [(kg053 c1), (kg054 d2), kg071, .cells [.int .i64 r201, .int .i64 r203, .int .i64 r205, .int .i64 r207, .int .i64 r209, .int .i64 r211, .int .i64 0, .int .i64 0, .lst [] true, .int .i64 0, .int .i64 0, .lst [] true]]) (H2 := [(kg053 c1), (kg054 d2), kg071, .cells [.int .i64 r201, .int .i64 r203, .int .i64 r205, .int .i64 r207, .int .i64 r209, .int .i64 r211, .int .i64 0, .int .i64 0, .lst [] true, .int .i64 0, .int .i64 0, .lst [] true]]) rfl (by repeat (first | exact rzz | apply rcc rfl | apply rnn rfl)) rfl (?_ : GL _ _ _ _ _)
    refine L_reg ?_
    refine G_p rfl rfl rfl ?_
    refine G_p rfl rfl rfl ?_
    refine G_p rfl rfl rfl ?_
    refine G_nil ?_
    refine L_nil ?_
    refine Rd_norm ?_
    refine L_round (e1 := [(6, .int .i64 6), (2, .ptr 0 0), (3, .ptr 1 0), (4, .ptr 2 0), (5, .ptr 3 0)]) (H1 := [(kg053 c1), (kg054 d2), kg071, .cells [.int .i64 r201, .int .i64 r203, .int .i64 r205, .int .i64 r207, .int .i64 r209, .int .i64 r211, .int .i64 0, .int .i64 0, .lst [] true, .int .i64 0, .int .i64 0, .lst [] true]]) (by repeat (first | exact rzz | apply rcc rfl | apply rnn rfl)) rfl ?_
    refine L_seq ?_
    refine L_stmt ?_
    refine L_seq ?_
    refine L_stmt ?_
    refine L_reg ?_
    refine G_p rfl rfl rfl ?_
    refine G_p rfl rfl rfl ?_
    refine G_nil ?_
    refine L_nil ?_
    refine Sm_norm (e2 := [(2, .ptr 0 0), (3, .ptr 1 0), (4, .ptr 2 0), (5, .ptr 3 0), (6, .int .i64 6), (13, .bool false)]) (H1 := [(kg053 c1), (kg054 d2), kg071, .cells [.int .i64 r201, .int .i64 r203, .int .i64 r205, .int .i64 r207, .int .i64 r209, .int .i64 r211, .int .i64 0, .int .i64 0, .lst [] true, .int .i64 0, .int .i64 0, .lst [] true]]) (H2 := [(kg053 c1), (kg054 d2), kg071, .cells [.int .i64 r201, .int .i64 r203, .int .i64 r205, .int .i64 r207, .int .i64 r209, .int .i64 r211, .int .i64 0, .int .i64 0, .lst [] true, .int .i64 0, .int .i64 0, .lst [] true]]) rfl (by repeat (first | exact rzz | apply rcc rfl | apply rnn rfl)) rfl (?_ : GL _ _ _ _ _)
    refine L_F rfl rfl ?_
    refine L_exit ?_
    refine Sm_exit ?_
    refine Rd_exit ?_
    refine Blk_exit (?_ : GL _ _ _ _ _)
    refine L_nil ?_
    exact Sm_norm (e2 := [(2, .ptr 0 0), (3, .ptr 1 0), (4, .ptr 2 0), (5, .ptr 3 0)]) (H1 := [(kg053 c1), (kg054 d2), kg071, .cells [.int .i64 r201, .int .i64 r203, .int .i64 r205, .int .i64 r207, .int .i64 r209, .int .i64 r211, .int .i64 0, .int .i64 0, .lst [] true, .int .i64 0, .int .i64 0, .lst [] true]]) (H2 := [(kg053 c1), (kg054 d2), kg071, .cells [.int .i64 r201, .int .i64 r203, .int .i64 r205, .int .i64 r207, .int .i64 r209, .int .i64 r211, .int .i64 0, .int .i64 0, .lst [] true, .int .i64 0, .int .i64 0, .lst [] true]]) rfl (by repeat (first | exact rzz | apply rcc rfl | apply rnn rfl)) rfl ⟨(r201, r203, r205, r207, r209, r211), rfl, rfl, hr⟩
  · rintro ⟨a27, a28, a29, a30, a31, a32⟩ hr
    show GL _ _ [(2, .ptr 0 0), (3, .ptr 1 0), (4, .ptr 2 0), (5, .ptr 3 0)] [(kg053 c1), (kg054 d2), kg071, (kg070 a27 a28 a29 a30 a31 a32)] _
    replace hr : g_r07_Compose_j7 rec c1 d2 a27 a28 a29 a30 a31 a32 = some r := hr
    unfold g_r07_Compose_j7 at hr
    refine L_seq ?_
    refine L_stmt ?_
    refine L_reg ?_
    refine G_h (v := .agg (cC c1)) rfl rfl rfl (fun _ => rfl) ?_
    refine G_n (B := kg071) rfl rfl rfl ?_
    refine G_hn (H' := [(kg053 c1), (kg054 d2), kg071, (kg070 a27 a28 a29 a30 a31 a32), (kg053 c1)]) rfl rfl rfl (fun _ => rfl) ?_
    refine G_nil ?_
    refine L_nil ?_
    refine Sm_norm (e2 := kg074) (H1 := [(kg053 c1), (kg054 d2), kg071, (kg070 a27 a28 a29 a30 a31 a32), (kg053 c1)]) (H2 := [(kg053 c1), (kg054 d2), kg071, (kg070 a27 a28 a29 a30 a31 a32), (kg053 c1)]) rfl (by repeat (first | exact rzz | apply rcc rfl | apply rnn rfl)) rfl (?_ : GL _ _ _ _ _)
    refine L_seq ?_
    refine L_stmtJ (S := Int × Int × Int × Int × Int × Int × Int × Int × List Co × Int × Int × List Co) (fun s => kg074) (fun s => [(kg053 c1), (kg054 d2), kg071, (kg070 a27 a28 a29 a30 a31 a32), .cells [.int .i64 s.1, .int .i64 s.2.1, .int .i64 s.2.2.1, .int .i64 s.2.2.2.1, .int .i64 s.2.2.2.2.1, .int .i64 s.2.2.2.2.2.1, .int .i64 s.2.2.2.2.2.2.1, .int .i64 s.2.2.2.2.2.2.2.1, .lst (List.map encC s.2.2.2.2.2.2.2.2.1) false, .int .i64 s.2.2.2.2.2.2.2.2.2.1, .int .i64 s.2.2.2.2.2.2.2.2.2.2.1, .lst (List.map encC s.2.2.2.2.2.2.2.2.2.2.2) false]]) (fun s => g_r07_Compose_j6 rec c1 d2 a27 a28 a29 a30 a31 a32 s.1 s.2.1 s.2.2.1 s.2.2.2.1 s.2.2.2.2.1 s.2.2.2.2.2.1 s.2.2.2.2.2.2.1 s.2.2.2.2.2.2.2.1 s.2.2.2.2.2.2.2.2.1 s.2.2.2.2.2.2.2.2.2.1 s.2.2.2.2.2.2.2.2.2.2.1 s.2.2.2.2.2.2.2.2.2.2.2 = some r) ?_ ?_
    · skip
      refine L_seq ?_
      refine L_stmt ?_
      refine L_reg ?_
      refine G_p rfl rfl rfl ?_
      refine G_h rfl rfl rfl (fun _ => rfl) ?_
      refine G_p rfl rfl rfl ?_
      refine G_p rfl rfl rfl ?_
      refine G_and (f := (!decide (d2.pair = 0))) [_, _, _] rfl rfl ?_ ?_
      · intro hb32
        refine G_p rfl rfl rfl ?_
        refine G_h rfl rfl rfl (fun _ => rfl) ?_
        refine G_p rfl rfl rfl ?_
        exact G_nil (L_nil ⟨rfl, rfl, rfl⟩)
      · intro vs hvs
        obtain ⟨u33, u34, u35, rfl⟩ := len3 hvs
        dsimp only [junk]
        refine G_nil ?_
        refine L_nil ?_
        refine Sm_norm (e2 := [(2, .ptr 0 0), (3, .ptr 1 0), (4, .ptr 2 0), (5, .ptr 3 0), (7, .ptr 4 0), (36, .bool ((!decide (c1.pair = 1)) && (!decide (d2.pair = 0))))]) (H1 := [(kg053 c1), (kg054 d2), kg071, (kg070 a27 a28 a29 a30 a31 a32), (kg053 c1)]) (H2 := [(kg053 c1), (kg054 d2), kg071, (kg070 a27 a28 a29 a30 a31 a32), (kg053 c1)]) rfl (by repeat (first | exact rzz | apply rcc rfl | apply rnn rfl)) rfl (?_ : GL _ _ _ _ _)
        rcases cond_s hr with ⟨hc36, hr⟩ | ⟨hc36, hr⟩
        · refine L_T rfl hc36 ?_
          refine L_reg ?_
          refine G_h (v := .agg (cC d2)) rfl rfl rfl (fun _ => rfl) ?_
          refine G_hn (H' := [(kg053 c1), (kg054 d2), kg071, (kg070 a27 a28 a29 a30 a31 a32), (kg054 d2)]) rfl rfl rfl (fun _ => rfl) ?_
          refine G_nil ?_
          refine L_nil ?_
          exact Sm_norm (e2 := kg074) (H1 := [(kg053 c1), (kg054 d2), kg071, (kg070 a27 a28 a29 a30 a31 a32), (kg054 d2)]) (H2 := [(kg053 c1), (kg054 d2), kg071, (kg070 a27 a28 a29 a30 a31 a32), (kg054 d2)]) rfl (by repeat (first | exact rzz | apply rcc rfl | apply rnn rfl)) rfl ⟨((d2.flat 0), (d2.flat 1), (d2.flat 2), (d2.flat 3), (d2.flat 4), (d2.flat 5), d2.pair, d2.plab, d2.pairs, d2.fn, d2.flab, d2.funs), rfl, rfl, hr⟩
        · refine L_F rfl hc36 ?_
          refine L_skip ?_
          refine L_nil ?_
          exact Sm_norm (e2 := kg074) (H1 := [(kg053 c1), (kg054 d2), kg071, (kg070 a27 a28 a29 a30 a31 a32), (kg053 c1)]) (H2 := [(kg053 c1), (kg054 d2), kg071, (kg070 a27 a28 a29 a30 a31 a32), (kg053 c1)]) rfl (by repeat (first | exact rzz | apply rcc rfl | apply rnn rfl)) rfl ⟨((c1.flat 0), (c1.flat 1), (c1.flat 2), (c1.flat 3), (c1.flat 4), (c1.flat 5), c1.pair, c1.plab, c1.pairs, c1.fn, c1.flab, c1.funs), rfl, rfl, hr⟩
    · rintro ⟨a33, a34, a35, a36, a37, a38, a39, a40, l41, a42, a43, l44⟩ hr
      show GL _ _ kg074 [(kg053 c1), (kg054 d2), kg071, (kg070 a27 a28 a29 a30 a31 a32), (kg056 a33 a34 a35 a36 a37 a38 a39 a40 l41 a42 a43 l44)] _
      replace hr : g_r07_Compose_j6 rec c1 d2 a27 a28 a29 a30 a31 a32 a33 a34 a35 a36 a37 a38 a39 a40 l41 a42 a43 l44 = some r := hr
      unfold g_r07_Compose_j6 at hr
      refine L_seq ?_
      refine L_stmt ?_
      refine L_reg ?_
      refine G_p rfl rfl rfl ?_
      refine G_h rfl rfl rfl (fun _ => rfl) ?_
      refine G_p rfl rfl rfl ?_
      refine G_hn (H' := [(kg053 c1), (kg054 d2), kg071, (kg069 a27 a28 a29 a30 a31 a32 a39), (kg056 a33 a34 a35 a36 a37 a38 a39 a40 l41 a42 a43 l44)]) rfl rfl rfl (fun _ => rfl) ?_
      refine G_nil ?_
      refine L_nil ?_
      refine Sm_norm (e2 := kg074) (H1 := [(kg053 c1), (kg054 d2), kg071, (kg069 a27 a28 a29 a30 a31 a32 a39), (kg056 a33 a34 a35 a36 a37 a38 a39 a40 l41 a42 a43 l44)]) (H2 := [(kg053 c1), (kg054 d2), kg071, (kg069 a27 a28 a29 a30 a31 a32 a39), (kg056 a33 a34 a35 a36 a37 a38 a39 a40 l41 a42 a43 l44)]) rfl (by repeat (first | exact rzz | apply rcc rfl | apply rnn rfl)) rfl (?_ : GL _ _ _ _ _)
      refine L_seq ?_
      refine L_stmt ?_
      refine L_reg ?_
      refine G_p rfl rfl rfl ?_
      refine G_h rfl rfl rfl (fun _ => rfl) ?_
      refine G_p rfl rfl rfl ?_
      refine G_hn (H' := [(kg053 c1), (kg054 d2), kg071, (kg068 a27 a28 a29 a30 a31 a32 a39 a40), (kg056 a33 a34 a35 a36 a37 a38 a39 a40 l41 a42 a43 l44)]) rfl rfl rfl (fun _ => rfl) ?_
      refine G_nil ?_
      refine L_nil ?_
      refine Sm_norm (e2 := kg074) (H1 := [(kg053 c1), (kg054 d2), kg071, (kg068 a27 a28 a29 a30 a31 a32 a39 a40), (kg056 a33 a34 a35 a36 a37 a38 a39 a40 l41 a42 a43 l44)]) (H2 := [(kg053 c1), (kg054 d2), kg071, (kg068 a27 a28 a29 a30 a31 a32 a39 a40), (kg056 a33 a34 a35 a36 a37 a38 a39 a40 l41 a42 a43 l44)]) rfl (by repeat (first | exact rzz | apply rcc rfl | apply rnn rfl)) rfl (?_ : GL _ _ _ _ _)
      refine L_seq ?_
      refine L_stmt ?_
      refine L_reg ?_
      refine G_p rfl rfl rfl ?_
      refine G_h (v := .lst (List.map encC l41) false) rfl rfl rfl (fun _ => rfl) ?_
      refine G_p rfl rfl rfl ?_
      refine G_hn (H' := [(kg053 c1), (kg054 d2), kg071, (kg064 a27 a28 a29 a30 a31 a32 a39 a40 l41), (kg056 a33 a34 a35 a36 a37 a38 a39 a40 l41 a42 a43 l44)]) rfl rfl rfl (fun _ => rfl) ?_
      refine G_nil ?_
      refine L_nil ?_
      refine Sm_norm (e2 := [(2, .ptr 0 0), (3, .ptr 1 0), (4, .ptr 2 0), (5, .ptr 3 0)]) (H1 := [(kg053 c1), (kg054 d2), kg071, (kg064 a27 a28 a29 a30 a31 a32 a39 a40 l41), (kg056 a33 a34 a35 a36 a37 a38 a39 a40 l41 a42 a43 l44)]) (H2 := [(kg053 c1), (kg054 d2), kg071, (kg064 a27 a28 a29 a30 a31 a32 a39 a40 l41), (kg056 a33 a34 a35 a36 a37 a38 a39 a40 l41 a42 a43 l44)]) rfl (by repeat (first | exact rzz | apply rcc rfl | apply rnn rfl)) rfl (?_ : GL _ _ _ _ _)
      refine L_seq ?_
      refine L_stmtJ (S := Int × Int × List Co) (fun s => [(2, .ptr 0 0), (3, .ptr 1 0), (4, .ptr 2 0), (5, .ptr 3 0)]) (fun s => [(kg053 c1), (kg054 d2), kg071, .cells [.int .i64 a27, .int .i64 a28, .int .i64 a29, .int .i64 a30, .int .i64 a31, .int .i64 a32, .int .i64 s.1, .int .i64 s.2.1, .lst (List.map encC s.2.2) false, .int .i64 0, .int .i64 0, .lst [] true], (kg056 a33 a34 a35 a36 a37 a38 a39 a40 l41 a42 a43 l44)]) (fun s => g_r07_Compose_j5 rec c1 d2 a27 a28 a29 a30 a31 a32 s.1 s.2.1 s.2.2 = some r) ?_ ?_
      · skip
        refine L_seq ?_
        refine L_stmt ?_
        refine L_reg ?_
        refine G_p rfl rfl rfl ?_
        refine G_h rfl rfl rfl (fun _ => rfl) ?_
        refine G_p rfl rfl rfl ?_
        refine G_p rfl rfl rfl ?_
        refine G_and (f := (decide (2 ≤ d2.pair))) [_, _, _] rfl rfl ?_ ?_
        · intro hb50
          refine G_p rfl rfl rfl ?_
          refine G_h rfl rfl rfl (fun _ => rfl) ?_
          refine G_p rfl rfl rfl ?_
          exact G_nil (L_nil ⟨rfl, rfl, rfl⟩)
        · intro vs hvs
          obtain ⟨u51, u52, u53, rfl⟩ := len3 hvs
          dsimp only [junk]
          refine G_nil ?_
          refine L_nil ?_
          refine Sm_norm (e2 := [(2, .ptr 0 0), (3, .ptr 1 0), (4, .ptr 2 0), (5, .ptr 3 0), (54, .bool ((decide (2 ≤ c1.pair)) && (decide (2 ≤ d2.pair))))]) (H1 := [(kg053 c1), (kg054 d2), kg071, (kg064 a27 a28 a29 a30 a31 a32 a39 a40 l41), (kg056 a33 a34 a35 a36 a37 a38 a39 a40 l41 a42 a43 l44)]) (H2 := [(kg053 c1), (kg054 d2), kg071, (kg064 a27 a28 a29 a30 a31 a32 a39 a40 l41), (kg056 a33 a34 a35 a36 a37 a38 a39 a40 l41 a42 a43 l44)]) rfl (by repeat (first | exact rzz | apply rcc rfl | apply rnn rfl)) rfl (?_ : GL _ _ _ _ _)
          rcases cond_s hr with ⟨hc54, hr⟩ | ⟨hc54, hr⟩
          · refine L_T rfl hc54 ?_
            refine L_seq ?_
            refine L_stmt ?_
            refine L_reg ?_
            refine G_p rfl rfl rfl ?_
            refine G_hn (H' := [(kg053 c1), (kg054 d2), kg071, (kg066 a27 a28 a29 a30 a31 a32 a39 l41), (kg056 a33 a34 a35 a36 a37 a38 a39 a40 l41 a42 a43 l44)]) rfl rfl rfl (fun _ => rfl) ?_
            refine G_nil ?_
            refine L_nil ?_
            refine Sm_norm (e2 := [(2, .ptr 0 0), (3, .ptr 1 0), (4, .ptr 2 0), (5, .ptr 3 0)]) (H1 := [(kg053 c1), (kg054 d2), kg071, (kg066 a27 a28 a29 a30 a31 a32 a39 l41), (kg056 a33 a34 a35 a36 a37 a38 a39 a40 l41 a42 a43 l44)]) (H2 := [(kg053 c1), (kg054 d2), kg071, (kg066 a27 a28 a29 a30 a31 a32 a39 l41), (kg056 a33 a34 a35 a36 a37 a38 a39 a40 l41 a42 a43 l44)]) rfl (by repeat (first | exact rzz | apply rcc rfl | apply rnn rfl)) rfl (?_ : GL _ _ _ _ _)
            refine L_seq ?_
            refine L_stmt ?_
            refine L_reg ?_
            refine G_p rfl rfl rfl ?_
            refine G_hn (H' := [(kg053 c1), (kg054 d2), kg071, (kg067 a27 a28 a29 a30 a31 a32 l41), (kg056 a33 a34 a35 a36 a37 a38 a39 a40 l41 a42 a43 l44)]) rfl rfl rfl (fun _ => rfl) ?_
            refine G_nil ?_
            refine L_nil ?_
            refine Sm_norm (e2 := [(2, .ptr 0 0), (3, .ptr 1 0), (4, .ptr 2 0), (5, .ptr 3 0)]) (H1 := [(kg053 c1), (kg054 d2), kg071, (kg067 a27 a28 a29 a30 a31 a32 l41), (kg056 a33 a34 a35 a36 a37 a38 a39 a40 l41 a42 a43 l44)]) (H2 := [(kg053 c1), (kg054 d2), kg071, (kg067 a27 a28 a29 a30 a31 a32 l41), (kg056 a33 a34 a35 a36 a37 a38 a39 a40 l41 a42 a43 l44)]) rfl (by repeat (first | exact rzz | apply rcc rfl | apply rnn rfl)) rfl (?_ : GL _ _ _ _ _)
            refine L_seq ?_
            refine L_stmt ?_
            refine L_drawT [] rfl ?_
            refine GS_h (d := some 57) (v := .agg (cC c1)) rfl rfl rfl rfl (fun _ => rfl) ?_
            obtain ⟨r181, hr181, hr⟩ := bind_s hr
            refine GS_c 32 rfl rfl rfl (CA_of (as := [.agg (cC c1)]) rfl (g_r07_Car_ok hr181)) ?_
            refine GS_h (d := some 59) (v := .agg (cC d2)) rfl rfl rfl rfl (fun _ => rfl) ?_
            obtain ⟨r182, hr182, hr⟩ := bind_s hr
            refine GS_c 32 rfl rfl rfl (CA_of (as := [.agg (cC d2)]) rfl (g_r07_Car_ok hr182)) ?_
            obtain ⟨r183, hr183, hr⟩ := bind_s hr
            refine GS_c 19 rfl rfl rfl (CA_of (as := [.agg (cC r181), .agg (cC r182)]) rfl (hrec _ _ _ hr183)) ?_
            refine GS_h (d := some 62) (v := .lst (List.map encC [r183]) true) rfl rfl rfl rfl (fun _ => Eq.trans (b := some (Ex.ok (AVal.lst [.agg (cC r183)] true), _)) rfl (congrArg (fun z => some (Ex.ok (AVal.lst z true), _)) (by first | rfl | (simp only [List.map_cons, List.map_nil, encC_eq] <;> rfl)))) ?_
            refine GS_p rfl rfl rfl ?_
            refine GS_h (d := none) (H' := [(kg053 c1), (kg054 d2), kg071, .cells [.int .i64 a27, .int .i64 a28, .int .i64 a29, .int .i64 a30, .int .i64 a31, .int .i64 a32, .int .i64 2, .int .i64 0, .lst (List.map encC [r183]) true, .int .i64 0, .int .i64 0, .lst [] true], (kg056 a33 a34 a35 a36 a37 a38 a39 a40 l41 a42 a43 l44)]) rfl rfl rfl rfl (fun _ => rfl) ?_
            refine GS_nil ?_
            refine L_nil ?_
            refine Sm_norm (e2 := [(2, .ptr 0 0), (3, .ptr 1 0), (4, .ptr 2 0), (5, .ptr 3 0)]) (H1 := [(kg053 c1), (kg054 d2), kg071, .cells [.int .i64 a27, .int .i64 a28, .int .i64 a29, .int .i64 a30, .int .i64 a31, .int .i64 a32, .int .i64 2, .int .i64 0, .lst (List.map encC [r183]) true, .int .i64 0, .int .i64 0, .lst [] true], (kg056 a33 a34 a35 a36 a37 a38 a39 a40 l41 a42 a43 l44)]) (H2 := [(kg053 c1), (kg054 d2), kg071, .cells [.int .i64 a27, .int .i64 a28, .int .i64 a29, .int .i64 a30, .int .i64 a31, .int .i64 a32, .int .i64 2, .int .i64 0, .lst (List.map encC [r183]) true, .int .i64 0, .int .i64 0, .lst [] true], (kg056 a33 a34 a35 a36 a37 a38 a39 a40 l41 a42 a43 l44)]) rfl (by repeat (first | exact rzz | apply rcc rfl | apply rnn rfl)) rfl (?_ : GL _ _ _ _ _)
            refine L_seq ?_
            refine L_stmt ?_
            refine L_reg ?_
            refine G_p rfl rfl rfl ?_
            refine G_h rfl rfl rfl (fun _ => rfl) ?_
            refine G_p rfl rfl rfl ?_
            refine G_p rfl rfl rfl ?_
            refine G_and (f := (decide (d2.pair = 3))) [_, _, _] rfl rfl ?_ ?_
            · intro hb67
              refine G_p rfl rfl rfl ?_
              refine G_h rfl rfl rfl (fun _ => rfl) ?_
              refine G_p rfl rfl rfl ?_
              exact G_nil (L_nil ⟨rfl, rfl, rfl⟩)
            · intro vs hvs
              obtain ⟨u68, u69, u70, rfl⟩ := len3 hvs
              dsimp only [junk]
              refine G_nil ?_
              refine L_nil ?_
              refine Sm_norm (e2 := [(2, .ptr 0 0), (3, .ptr 1 0), (4, .ptr 2 0), (5, .ptr 3 0), (71, .bool ((decide (c1.pair = 3)) && (decide (d2.pair = 3))))]) (H1 := [(kg053 c1), (kg054 d2), kg071, .cells [.int .i64 a27, .int .i64 a28, .int .i64 a29, .int .i64 a30, .int .i64 a31, .int .i64 a32, .int .i64 2, .int .i64 0, .lst (List.map encC [r183]) true, .int .i64 0, .int .i64 0, .lst [] true], (kg056 a33 a34 a35 a36 a37 a38 a39 a40 l41 a42 a43 l44)]) (H2 := [(kg053 c1), (kg054 d2), kg071, .cells [.int .i64 a27, .int .i64 a28, .int .i64 a29, .int .i64 a30, .int .i64 a31, .int .i64 a32, .int .i64 2, .int .i64 0, .lst (List.map encC [r183]) true, .int .i64 0, .int .i64 0, .lst [] true], (kg056 a33 a34 a35 a36 a37 a38 a39 a40 l41 a42 a43 l44)]) rfl (by repeat (first | exact rzz | apply rcc rfl | apply rnn rfl)) rfl (?_ : GL _ _ _ _ _)
              rcases cond_s hr with ⟨hc71, hr⟩ | ⟨hc71, hr⟩
              · refine L_T rfl hc71 ?_
                refine L_seq ?_
                refine L_stmt ?_
                refine L_reg ?_
                refine G_p rfl rfl rfl ?_
                refine G_hn (H' := [(kg053 c1), (kg054 d2), kg071, .cells [.int .i64 a27, .int .i64 a28, .int .i64 a29, .int .i64 a30, .int .i64 a31, .int .i64 a32, .int .i64 3, .int .i64 0, .lst (List.map encC [r183]) true, .int .i64 0, .int .i64 0, .lst [] true], (kg056 a33 a34 a35 a36 a37 a38 a39 a40 l41 a42 a43 l44)]) rfl rfl rfl (fun _ => rfl) ?_
                refine G_nil ?_
                refine L_nil ?_
                refine Sm_norm (e2 := [(2, .ptr 0 0), (3, .ptr 1 0), (4, .ptr 2 0), (5, .ptr 3 0)]) (H1 := [(kg053 c1), (kg054 d2), kg071, .cells [.int .i64 a27, .int .i64 a28, .int .i64 a29, .int .i64 a30, .int .i64 a31, .int .i64 a32, .int .i64 3, .int .i64 0, .lst (List.map encC [r183]) true, .int .i64 0, .int .i64 0, .lst [] true], (kg056 a33 a34 a35 a36 a37 a38 a39 a40 l41 a42 a43 l44)]) (H2 := [(kg053 c1), (kg054 d2), kg071, .cells [.int .i64 a27, .int .i64 a28, .int .i64 a29, .int .i64 a30, .int .i64 a31, .int .i64 a32, .int .i64 3, .int .i64 0, .lst (List.map encC [r183]) true, .int .i64 0, .int .i64 0, .lst [] true], (kg056 a33 a34 a35 a36 a37 a38 a39 a40 l41 a42 a43 l44)]) rfl (by repeat (first | exact rzz | apply rcc rfl | apply rnn rfl)) rfl (?_ : GL _ _ _ _ _)
                refine L_reg ?_
                refine G_p rfl rfl rfl ?_
                refine G_h rfl rfl rfl (fun _ => rfl) ?_
                refine G_p rfl rfl rfl ?_
                refine G_h rfl rfl rfl (fun _ => rfl) ?_
                obtain ⟨r184, hr184, hr⟩ := bind_s hr
                refine G_c 49 rfl rfl (CA_of (as := [.int .i64 c1.plab, .int .i64 d2.plab]) rfl (g_r07_either_ok hr184)) ?_
                refine G_p rfl rfl rfl ?_
                refine G_hn (H' := [(kg053 c1), (kg054 d2), kg071, .cells [.int .i64 a27, .int .i64 a28, .int .i64 a29, .int .i64 a30, .int .i64 a31, .int .i64 a32, .int .i64 3, .int .i64 r184, .lst (List.map encC [r183]) true, .int .i64 0, .int .i64 0, .lst [] true], (kg056 a33 a34 a35 a36 a37 a38 a39 a40 l41 a42 a43 l44)]) rfl rfl rfl (fun _ => rfl) ?_
                refine G_nil ?_
                refine L_nil ?_
                exact Sm_norm (e2 := [(2, .ptr 0 0), (3, .ptr 1 0), (4, .ptr 2 0), (5, .ptr 3 0)]) (H1 := [(kg053 c1), (kg054 d2), kg071, .cells [.int .i64 a27, .int .i64 a28, .int .i64 a29, .int .i64 a30, .int .i64 a31, .int .i64 a32, .int .i64 3, .int .i64 r184, .lst (List.map encC [r183]) false, .int .i64 0, .int .i64 0, .lst [] true], (kg056 a33 a34 a35 a36 a37 a38 a39 a40 l41 a42 a43 l44)]) (H2 := [(kg053 c1), (kg054 d2), kg071, .cells [.int .i64 a27, .int .i64 a28, .int .i64 a29, .int .i64 a30, .int .i64 a31, .int .i64 a32, .int .i64 3, .int .i64 r184, .lst (List.map encC [r183]) false, .int .i64 0, .int .i64 0, .lst [] true], (kg056 a33 a34 a35 a36 a37 a38 a39 a40 l41 a42 a43 l44)]) (frz_c (frz_lstC (H2 := [(kg053 c1), (kg054 d2), kg071, .cells [.int .i64 a27, .int .i64 a28, .int .i64 a29, .int .i64 a30, .int .i64 a31, .int .i64 a32, .int .i64 3, .int .i64 r184, .lst (List.map encC [r183]) false, .int .i64 0, .int .i64 0, .lst [] true], (kg056 a33 a34 a35 a36 a37 a38 a39 a40 l41 a42 a43 l44)]) rfl rfl rfl rfl) rfl) (by repeat (first | exact rzz | apply rcc rfl | apply rnn rfl)) rfl ⟨(3, r184, [r183]), rfl, rfl, hr⟩
              · refine L_F rfl hc71 ?_
                refine L_draw ?_
                refine GD_p rfl rfl rfl ?_
                refine GD_h (d := some 80) (v := .lst (List.map encC [r183]) true) rfl rfl rfl rfl (fun _ => rfl) ?_
                refine GD_h (d := some 81) (v := .agg (cC c1)) rfl rfl rfl rfl (fun _ => rfl) ?_
                obtain ⟨r185, hr185, hr⟩ := bind_s hr
                refine GD_c 34 rfl rfl rfl (CA_of (as := [.agg (cC c1)]) rfl (g_r07_Cdr_ok hr185)) ?_
                refine GD_h (d := some 83) (v := .agg (cC d2)) rfl rfl rfl rfl (fun _ => rfl) ?_
                obtain ⟨r186, hr186, hr⟩ := bind_s hr
                refine GD_c 34 rfl rfl rfl (CA_of (as := [.agg (cC d2)]) rfl (g_r07_Cdr_ok hr186)) ?_
                obtain ⟨r187, hr187, hr⟩ := bind_s hr
                refine GD_c 19 rfl rfl rfl (CA_of (as := [.agg (cC r185), .agg (cC r186)]) rfl (hrec _ _ _ hr187)) ?_
                refine GD_h (d := some 86) (v := .lst (List.map encC [r187]) true) rfl rfl rfl rfl (fun _ => Eq.trans (b := some (Ex.ok (AVal.lst [.agg (cC r187)] true), _)) rfl (congrArg (fun z => some (Ex.ok (AVal.lst z true), _)) (by first | rfl | (simp only [List.map_cons, List.map_nil, encC_eq] <;> rfl)))) ?_
                refine GD_o (d := some 87) rfl rfl rfl rfl (appL_ev (m := [r183]) (ys := [r187]) encC_w1 (by decide) rfl rfl rfl rfl (okLen_of (by simp)) rfl) ?_
                refine GD_p rfl rfl rfl ?_
                refine GD_h (d := none) (H' := [(kg053 c1), (kg054 d2), kg071, .cells [.int .i64 a27, .int .i64 a28, .int .i64 a29, .int .i64 a30, .int .i64 a31, .int .i64 a32, .int .i64 2, .int .i64 0, .gl 5 (List.length [r183, r187]), .int .i64 0, .int .i64 0, .lst [] true], (kg056 a33 a34 a35 a36 a37 a38 a39 a40 l41 a42 a43 l44), growM 12 encC [r183, r187]]) rfl rfl rfl rfl (fun _ => rfl) ?_
                refine GD_nil2 rfl ?_
                refine L_nil ?_
                exact Sm_norm (e2 := [(2, .ptr 0 0), (3, .ptr 1 0), (4, .ptr 2 0), (5, .ptr 3 0)]) (H1 := [(kg053 c1), (kg054 d2), kg071, .cells [.int .i64 a27, .int .i64 a28, .int .i64 a29, .int .i64 a30, .int .i64 a31, .int .i64 a32, .int .i64 2, .int .i64 0, .lst (List.map encC [r183, r187]) false, .int .i64 0, .int .i64 0, .lst [] true], (kg056 a33 a34 a35 a36 a37 a38 a39 a40 l41 a42 a43 l44), growM 12 encC [r183, r187]]) (H2 := [(kg053 c1), (kg054 d2), kg071, .cells [.int .i64 a27, .int .i64 a28, .int .i64 a29, .int .i64 a30, .int .i64 a31, .int .i64 a32, .int .i64 2, .int .i64 0, .lst (List.map encC [r183, r187]) false, .int .i64 0, .int .i64 0, .lst [] true], (kg056 a33 a34 a35 a36 a37 a38 a39 a40 l41 a42 a43 l44)]) (frz_c (frz_glC (H2 := [(kg053 c1), (kg054 d2), kg071, .cells [.int .i64 a27, .int .i64 a28, .int .i64 a29, .int .i64 a30, .int .i64 a31, .int .i64 a32, .int .i64 2, .int .i64 0, .lst (List.map encC [r183, r187]) false, .int .i64 0, .int .i64 0, .lst [] true], (kg056 a33 a34 a35 a36 a37 a38 a39 a40 l41 a42 a43 l44), growM 12 encC [r183, r187]]) rfl rfl rfl rfl rfl) rfl) (by repeat (first | exact rzz | apply rcc rfl | apply rnn rfl)) rfl ⟨(2, 0, [r183, r187]), rfl, rfl, hr⟩
          · refine L_F rfl hc54 ?_
            refine L_skip ?_
            refine L_nil ?_
            exact Sm_norm (e2 := [(2, .ptr 0 0), (3, .ptr 1 0), (4, .ptr 2 0), (5, .ptr 3 0)]) (H1 := [(kg053 c1), (kg054 d2), kg071, (kg064 a27 a28 a29 a30 a31 a32 a39 a40 l41), (kg056 a33 a34 a35 a36 a37 a38 a39 a40 l41 a42 a43 l44)]) (H2 := [(kg053 c1), (kg054 d2), kg071, (kg064 a27 a28 a29 a30 a31 a32 a39 a40 l41), (kg056 a33 a34 a35 a36 a37 a38 a39 a40 l41 a42 a43 l44)]) (frz_c (frz_lstC (H2 := [(kg053 c1), (kg054 d2), kg071, (kg064 a27 a28 a29 a30 a31 a32 a39 a40 l41), (kg056 a33 a34 a35 a36 a37 a38 a39 a40 l41 a42 a43 l44)]) rfl rfl rfl rfl) rfl) (by repeat (first | exact rzz | apply rcc rfl | apply rnn rfl)) rfl ⟨(a39, a40, l41), rfl, rfl, hr⟩
      · rintro ⟨a52, a53, l54⟩ hr
        show GL _ _ [(2, .ptr 0 0), (3, .ptr 1 0), (4, .ptr 2 0), (5, .ptr 3 0)] [(kg053 c1), (kg054 d2), kg071, (kg065 a27 a28 a29 a30 a31 a32 a52 a53 l54), (kg056 a33 a34 a35 a36 a37 a38 a39 a40 l41 a42 a43 l44)] _
        replace hr : g_r07_Compose_j5 rec c1 d2 a27 a28 a29 a30 a31 a32 a52 a53 l54 = some r := hr
        unfold g_r07_Compose_j5 at hr
        refine L_seq ?_
        refine L_stmt ?_
        refine L_reg ?_
        refine G_h (v := .agg (cC c1)) rfl rfl rfl (fun _ => rfl) ?_
        refine G_n (B := kg071) rfl rfl rfl ?_
        refine G_hn (H' := [(kg053 c1), (kg054 d2), kg071, (kg065 a27 a28 a29 a30 a31 a32 a52 a53 l54), (kg056 a33 a34 a35 a36 a37 a38 a39 a40 l41 a42 a43 l44), (kg053 c1)]) rfl rfl rfl (fun _ => rfl) ?_
        refine G_nil ?_
        refine L_nil ?_
        refine Sm_norm (e2 := kg075) (H1 := [(kg053 c1), (kg054 d2), kg071, (kg065 a27 a28 a29 a30 a31 a32 a52 a53 l54), (kg056 a33 a34 a35 a36 a37 a38 a39 a40 l41 a42 a43 l44), (kg053 c1)]) (H2 := [(kg053 c1), (kg054 d2), kg071, (kg065 a27 a28 a29 a30 a31 a32 a52 a53 l54), (kg056 a33 a34 a35 a36 a37 a38 a39 a40 l41 a42 a43 l44), (kg053 c1)]) rfl (by repeat (first | exact rzz | apply rcc rfl | apply rnn rfl)) rfl (?_ : GL _ _ _ _ _)
        refine L_seq ?_
        refine L_stmtJ (S := Int × Int × Int × Int × Int × Int × Int × Int × List Co × Int × Int × List Co) (fun s => kg075) (fun s => [(kg053 c1), (kg054 d2), kg071, (kg065 a27 a28 a29 a30 a31 a32 a52 a53 l54), (kg056 a33 a34 a35 a36 a37 a38 a39 a40 l41 a42 a43 l44), .cells [.int .i64 s.1, .int .i64 s.2.1, .int .i64 s.2.2.1, .int .i64 s.2.2.2.1, .int .i64 s.2.2.2.2.1, .int .i64 s.2.2.2.2.2.1, .int .i64 s.2.2.2.2.2.2.1, .int .i64 s.2.2.2.2.2.2.2.1, .lst (List.map encC s.2.2.2.2.2.2.2.2.1) false, .int .i64 s.2.2.2.2.2.2.2.2.2.1, .int .i64 s.2.2.2.2.2.2.2.2.2.2.1, .lst (List.map encC s.2.2.2.2.2.2.2.2.2.2.2) false]]) (fun s => g_r07_Compose_j4 rec c1 d2 a27 a28 a29 a30 a31 a32 a52 a53 l54 s.1 s.2.1 s.2.2.1 s.2.2.2.1 s.2.2.2.2.1 s.2.2.2.2.2.1 s.2.2.2.2.2.2.1 s.2.2.2.2.2.2.2.1 s.2.2.2.2.2.2.2.2.1 s.2.2.2.2.2.2.2.2.2.1 s.2.2.2.2.2.2.2.2.2.2.1 s.2.2.2.2.2.2.2.2.2.2.2 = some r) ?_ ?_
        · skip
          refine L_seq ?_
          refine L_stmt ?_
          refine L_reg ?_
          refine G_p rfl rfl rfl ?_
          refine G_h rfl rfl rfl (fun _ => rfl) ?_
          refine G_p rfl rfl rfl ?_
          refine G_p rfl rfl rfl ?_
          refine G_and (f := (!decide (d2.fn = 0))) [_, _, _] rfl rfl ?_ ?_
          · intro hb93
            refine G_p rfl rfl rfl ?_
            refine G_h rfl rfl rfl (fun _ => rfl) ?_
            refine G_p rfl rfl rfl ?_
            exact G_nil (L_nil ⟨rfl, rfl, rfl⟩)
          · intro vs hvs
            obtain ⟨u94, u95, u96, rfl⟩ := len3 hvs
            dsimp only [junk]
            refine G_nil ?_
            refine L_nil ?_
            refine Sm_norm (e2 := [(2, .ptr 0 0), (3, .ptr 1 0), (4, .ptr 2 0), (5, .ptr 3 0), (8, .ptr 5 0), (97, .bool ((!decide (c1.fn = 1)) && (!decide (d2.fn = 0))))]) (H1 := [(kg053 c1), (kg054 d2), kg071, (kg065 a27 a28 a29 a30 a31 a32 a52 a53 l54), (kg056 a33 a34 a35 a36 a37 a38 a39 a40 l41 a42 a43 l44), (kg053 c1)]) (H2 := [(kg053 c1), (kg054 d2), kg071, (kg065 a27 a28 a29 a30 a31 a32 a52 a53 l54), (kg056 a33 a34 a35 a36 a37 a38 a39 a40 l41 a42 a43 l44), (kg053 c1)]) rfl (by repeat (first | exact rzz | apply rcc rfl | apply rnn rfl)) rfl (?_ : GL _ _ _ _ _)
            rcases cond_s hr with ⟨hc97, hr⟩ | ⟨hc97, hr⟩
            · refine L_T rfl hc97 ?_
              refine L_reg ?_
              refine G_h (v := .agg (cC d2)) rfl rfl rfl (fun _ => rfl) ?_
              refine G_hn (H' := [(kg053 c1), (kg054 d2), kg071, (kg065 a27 a28 a29 a30 a31 a32 a52 a53 l54), (kg056 a33 a34 a35 a36 a37 a38 a39 a40 l41 a42 a43 l44), (kg054 d2)]) rfl rfl rfl (fun _ => rfl) ?_
              refine G_nil ?_
              refine L_nil ?_
              exact Sm_norm (e2 := kg075) (H1 := [(kg053 c1), (kg054 d2), kg071, (kg065 a27 a28 a29 a30 a31 a32 a52 a53 l54), (kg056 a33 a34 a35 a36 a37 a38 a39 a40 l41 a42 a43 l44), (kg054 d2)]) (H2 := [(kg053 c1), (kg054 d2), kg071, (kg065 a27 a28 a29 a30 a31 a32 a52 a53 l54), (kg056 a33 a34 a35 a36 a37 a38 a39 a40 l41 a42 a43 l44), (kg054 d2)]) rfl (by repeat (first | exact rzz | apply rcc rfl | apply rnn rfl)) rfl ⟨((d2.flat 0), (d2.flat 1), (d2.flat 2), (d2.flat 3), (d2.flat 4), (d2.flat 5), d2.pair, d2.plab, d2.pairs, d2.fn, d2.flab, d2.funs), rfl, rfl, hr⟩
            · refine L_F rfl hc97 ?_
              refine L_skip ?_
              refine L_nil ?_
              exact Sm_norm (e2 := kg075) (H1 := [(kg053 c1), (kg054 d2), kg071, (kg065 a27 a28 a29 a30 a31 a32 a52 a53 l54), (kg056 a33 a34 a35 a36 a37 a38 a39 a40 l41 a42 a43 l44), (kg053 c1)]) (H2 := [(kg053 c1), (kg054 d2), kg071, (kg065 a27 a28 a29 a30 a31 a32 a52 a53 l54), (kg056 a33 a34 a35 a36 a37 a38 a39 a40 l41 a42 a43 l44), (kg053 c1)]) rfl (by repeat (first | exact rzz | apply rcc rfl | apply rnn rfl)) rfl ⟨((c1.flat 0), (c1.flat 1), (c1.flat 2), (c1.flat 3), (c1.flat 4), (c1.flat 5), c1.pair, c1.plab, c1.pairs, c1.fn, c1.flab, c1.funs), rfl, rfl, hr⟩
        · rintro ⟨a55, a56, a57, a58, a59, a60, a61, a62, l63, a64, a65, l66⟩ hr
          show GL _ _ kg075 [(kg053 c1), (kg054 d2), kg071, (kg065 a27 a28 a29 a30 a31 a32 a52 a53 l54), (kg056 a33 a34 a35 a36 a37 a38 a39 a40 l41 a42 a43 l44), (kg057 a55 a56 a57 a58 a59 a60 a61 a62 l63 a64 a65 l66)] _
          replace hr : g_r07_Compose_j4 rec c1 d2 a27 a28 a29 a30 a31 a32 a52 a53 l54 a55 a56 a57 a58 a59 a60 a61 a62 l63 a64 a65 l66 = some r := hr
          unfold g_r07_Compose_j4 at hr
          refine L_seq ?_
          refine L_stmt ?_
          refine L_reg ?_
          refine G_p rfl rfl rfl ?_
          refine G_h rfl rfl rfl (fun _ => rfl) ?_
          refine G_p rfl rfl rfl ?_
          refine G_hn (H' := [(kg053 c1), (kg054 d2), kg071, (kg061 a27 a28 a29 a30 a31 a32 a52 a53 l54 a64), (kg056 a33 a34 a35 a36 a37 a38 a39 a40 l41 a42 a43 l44), (kg057 a55 a56 a57 a58 a59 a60 a61 a62 l63 a64 a65 l66)]) rfl rfl rfl (fun _ => rfl) ?_
          refine G_nil ?_
          refine L_nil ?_
          refine Sm_norm (e2 := kg075) (H1 := [(kg053 c1), (kg054 d2), kg071, (kg061 a27 a28 a29 a30 a31 a32 a52 a53 l54 a64), (kg056 a33 a34 a35 a36 a37 a38 a39 a40 l41 a42 a43 l44), (kg057 a55 a56 a57 a58 a59 a60 a61 a62 l63 a64 a65 l66)]) (H2 := [(kg053 c1), (kg054 d2), kg071, (kg061 a27 a28 a29 a30 a31 a32 a52 a53 l54 a64), (kg056 a33 a34 a35 a36 a37 a38 a39 a40 l41 a42 a43 l44), (kg057 a55 a56 a57 a58 a59 a60 a61 a62 l63 a64 a65 l66)]) rfl (by repeat (first | exact rzz | apply rcc rfl | apply rnn rfl)) rfl (?_ : GL _ _ _ _ _)
          refine L_seq ?_
          refine L_stmt ?_
          refine L_reg ?_
          refine G_p rfl rfl rfl ?_
          refine G_h rfl rfl rfl (fun _ => rfl) ?_
          refine G_p rfl rfl rfl ?_
          refine G_hn (H' := [(kg053 c1), (kg054 d2), kg071, (kg060 a27 a28 a29 a30 a31 a32 a52 a53 l54 a64 a65), (kg056 a33 a34 a35 a36 a37 a38 a39 a40 l41 a42 a43 l44), (kg057 a55 a56 a57 a58 a59 a60 a61 a62 l63 a64 a65 l66)]) rfl rfl rfl (fun _ => rfl) ?_
          refine G_nil ?_
          refine L_nil ?_
          refine Sm_norm (e2 := kg075) (H1 := [(kg053 c1), (kg054 d2), kg071, (kg060 a27 a28 a29 a30 a31 a32 a52 a53 l54 a64 a65), (kg056 a33 a34 a35 a36 a37 a38 a39 a40 l41 a42 a43 l44), (kg057 a55 a56 a57 a58 a59 a60 a61 a62 l63 a64 a65 l66)]) (H2 := [(kg053 c1), (kg054 d2), kg071, (kg060 a27 a28 a29 a30 a31 a32 a52 a53 l54 a64 a65), (kg056 a33 a34 a35 a36 a37 a38 a39 a40 l41 a42 a43 l44), (kg057 a55 a56 a57 a58 a59 a60 a61 a62 l63 a64 a65 l66)]) rfl (by repeat (first | exact rzz | apply rcc rfl | apply rnn rfl)) rfl (?_ : GL _ _ _ _ _)
          refine L_seq ?_
          refine L_stmt ?_
          refine L_reg ?_
          refine G_p rfl rfl rfl ?_
          refine G_h (v := .lst (List.map encC l66) false) rfl rfl rfl (fun _ => rfl) ?_
          refine G_p rfl rfl rfl ?_
          refine G_hn (H' := [(kg053 c1), (kg054 d2), kg071, (kg058 a27 a28 a29 a30 a31 a32 a52 a53 l54 a64 a65 l66), (kg056 a33 a34 a35 a36 a37 a38 a39 a40 l41 a42 a43 l44), (kg057 a55 a56 a57 a58 a59 a60 a61 a62 l63 a64 a65 l66)]) rfl rfl rfl (fun _ => rfl) ?_
          refine G_nil ?_
          refine L_nil ?_
          refine Sm_norm (e2 := [(2, .ptr 0 0), (3, .ptr 1 0), (4, .ptr 2 0), (5, .ptr 3 0)]) (H1 := [(kg053 c1), (kg054 d2), kg071, (kg058 a27 a28 a29 a30 a31 a32 a52 a53 l54 a64 a65 l66), (kg056 a33 a34 a35 a36 a37 a38 a39 a40 l41 a42 a43 l44), (kg057 a55 a56 a57 a58 a59 a60 a61 a62 l63 a64 a65 l66)]) (H2 := [(kg053 c1), (kg054 d2), kg071, (kg058 a27 a28 a29 a30 a31 a32 a52 a53 l54 a64 a65 l66), (kg056 a33 a34 a35 a36 a37 a38 a39 a40 l41 a42 a43 l44), (kg057 a55 a56 a57 a58 a59 a60 a61 a62 l63 a64 a65 l66)]) rfl (by repeat (first | exact rzz | apply rcc rfl | apply rnn rfl)) rfl (?_ : GL _ _ _ _ _)
          refine L_seq ?_
          refine L_stmtJ (S := Int × List Co) (fun s => [(4, .ptr 2 0), (5, .ptr 3 0)]) (fun s => [(kg053 c1), (kg054 d2), kg071, .cells [.int .i64 a27, .int .i64 a28, .int .i64 a29, .int .i64 a30, .int .i64 a31, .int .i64 a32, .int .i64 a52, .int .i64 a53, .lst (List.map encC l54) false, .int .i64 s.1, .int .i64 a65, .lst (List.map encC s.2) false], (kg056 a33 a34 a35 a36 a37 a38 a39 a40 l41 a42 a43 l44), (kg057 a55 a56 a57 a58 a59 a60 a61 a62 l63 a64 a65 l66)]) (fun s => g_r07_Compose_j1 a27 a28 a29 a30 a31 a32 a52 a53 l54 a65 s.1 s.2 = some r) ?_ ?_
          · skip
            refine L_seq ?_
            refine L_stmt ?_
            refine L_reg ?_
            refine G_p rfl rfl rfl ?_
            refine G_h rfl rfl rfl (fun _ => rfl) ?_
            refine G_p rfl rfl rfl ?_
            refine G_p rfl rfl rfl ?_
            refine G_and (f := (decide (2 ≤ d2.fn))) [_, _, _] rfl rfl ?_ ?_
            · intro hb111
              refine G_p rfl rfl rfl ?_
              refine G_h rfl rfl rfl (fun _ => rfl) ?_
              refine G_p rfl rfl rfl ?_
              exact G_nil (L_nil ⟨rfl, rfl, rfl⟩)
            · intro vs hvs
              obtain ⟨u112, u113, u114, rfl⟩ := len3 hvs
              dsimp only [junk]
              refine G_nil ?_
              refine L_nil ?_
              refine Sm_norm (e2 := [(2, .ptr 0 0), (3, .ptr 1 0), (4, .ptr 2 0), (5, .ptr 3 0), (115, .bool ((decide (2 ≤ c1.fn)) && (decide (2 ≤ d2.fn))))]) (H1 := [(kg053 c1), (kg054 d2), kg071, (kg058 a27 a28 a29 a30 a31 a32 a52 a53 l54 a64 a65 l66), (kg056 a33 a34 a35 a36 a37 a38 a39 a40 l41 a42 a43 l44), (kg057 a55 a56 a57 a58 a59 a60 a61 a62 l63 a64 a65 l66)]) (H2 := [(kg053 c1), (kg054 d2), kg071, (kg058 a27 a28 a29 a30 a31 a32 a52 a53 l54 a64 a65 l66), (kg056 a33 a34 a35 a36 a37 a38 a39 a40 l41 a42 a43 l44), (kg057 a55 a56 a57 a58 a59 a60 a61 a62 l63 a64 a65 l66)]) rfl (by repeat (first | exact rzz | apply rcc rfl | apply rnn rfl)) rfl (?_ : GL _ _ _ _ _)
              rcases cond_s hr with ⟨hc115, hr⟩ | ⟨hc115, hr⟩
              · refine L_T rfl hc115 ?_
                refine L_seq ?_
                refine L_stmt ?_
                refine L_reg ?_
                refine G_p rfl rfl rfl ?_
                refine G_hn (H' := [(kg053 c1), (kg054 d2), kg071, (kg059 a27 a28 a29 a30 a31 a32 a52 a53 l54 a65 l66), (kg056 a33 a34 a35 a36 a37 a38 a39 a40 l41 a42 a43 l44), (kg057 a55 a56 a57 a58 a59 a60 a61 a62 l63 a64 a65 l66)]) rfl rfl rfl (fun _ => rfl) ?_
                refine G_nil ?_
                refine L_nil ?_
                refine Sm_norm (e2 := [(2, .ptr 0 0), (3, .ptr 1 0), (4, .ptr 2 0), (5, .ptr 3 0)]) (H1 := [(kg053 c1), (kg054 d2), kg071, (kg059 a27 a28 a29 a30 a31 a32 a52 a53 l54 a65 l66), (kg056 a33 a34 a35 a36 a37 a38 a39 a40 l41 a42 a43 l44), (kg057 a55 a56 a57 a58 a59 a60 a61 a62 l63 a64 a65 l66)]) (H2 := [(kg053 c1), (kg054 d2), kg071, (kg059 a27 a28 a29 a30 a31 a32 a52 a53 l54 a65 l66), (kg056 a33 a34 a35 a36 a37 a38 a39 a40 l41 a42 a43 l44), (kg057 a55 a56 a57 a58 a59 a60 a61 a62 l63 a64 a65 l66)]) rfl (by repeat (first | exact rzz | apply rcc rfl | apply rnn rfl)) rfl (?_ : GL _ _ _ _ _)
                refine L_seq ?_
                refine L_stmt ?_
                refine L_reg ?_
                refine G_p rfl rfl rfl ?_
                refine G_hn (H' := [(kg053 c1), (kg054 d2), kg071, (kg062 a27 a28 a29 a30 a31 a32 a52 a53 l54 a65), (kg056 a33 a34 a35 a36 a37 a38 a39 a40 l41 a42 a43 l44), (kg057 a55 a56 a57 a58 a59 a60 a61 a62 l63 a64 a65 l66)]) rfl rfl rfl (fun _ => rfl) ?_
                refine G_nil ?_
                refine L_nil ?_
                refine Sm_norm (e2 := [(2, .ptr 0 0), (3, .ptr 1 0), (4, .ptr 2 0), (5, .ptr 3 0)]) (H1 := [(kg053 c1), (kg054 d2), kg071, (kg062 a27 a28 a29 a30 a31 a32 a52 a53 l54 a65), (kg056 a33 a34 a35 a36 a37 a38 a39 a40 l41 a42 a43 l44), (kg057 a55 a56 a57 a58 a59 a60 a61 a62 l63 a64 a65 l66)]) (H2 := [(kg053 c1), (kg054 d2), kg071, (kg062 a27 a28 a29 a30 a31 a32 a52 a53 l54 a65), (kg056 a33 a34 a35 a36 a37 a38 a39 a40 l41 a42 a43 l44), (kg057 a55 a56 a57 a58 a59 a60 a61 a62 l63 a64 a65 l66)]) rfl (by repeat (first | exact rzz | apply rcc rfl | apply rnn rfl)) rfl (?_ : GL _ _ _ _ _)
                refine L_seq ?_
                refine L_stmt ?_
                refine L_reg ?_
                refine G_p rfl rfl rfl ?_
                refine G_h rfl rfl rfl (fun _ => rfl) ?_
                refine G_p rfl rfl rfl ?_
                refine G_p rfl rfl rfl ?_
                refine G_and (f := (decide (d2.fn = 2))) [_, _, _] rfl rfl ?_ ?_
                · intro hb121
                  refine G_p rfl rfl rfl ?_
                  refine G_h rfl rfl rfl (fun _ => rfl) ?_
                  refine G_p rfl rfl rfl ?_
                  exact G_nil (L_nil ⟨rfl, rfl, rfl⟩)
                · intro vs hvs
                  obtain ⟨u122, u123, u124, rfl⟩ := len3 hvs
                  dsimp only [junk]
                  refine G_p rfl rfl rfl ?_
                  refine G_and (f := (decide (((List.length c1.funs : Nat) : Int) = ((List.length d2.funs : Nat) : Int)))) [_, _, _, _, _, _, _] rfl rfl ?_ ?_
                  · intro hb126
                    refine G_p rfl rfl rfl ?_
                    refine G_h (v := .lst (List.map encC c1.funs) false) rfl rfl rfl (fun _ => rfl) ?_
                    refine G_h rfl rfl rfl (lenL_ev rfl (List.length_map _)) ?_
                    refine G_p rfl rfl rfl ?_
                    refine G_h (v := .lst (List.map encC d2.funs) false) rfl rfl rfl (fun _ => rfl) ?_
                    refine G_h rfl rfl rfl (lenL_ev rfl (List.length_map _)) ?_
                    refine G_p rfl rfl rfl ?_
                    exact G_nil (L_nil ⟨rfl, rfl, rfl⟩)
                  · intro vs hvs
                    obtain ⟨u127, u128, u129, u130, u131, u132, u133, rfl⟩ := len7 hvs
                    dsimp only [junk]
                    refine G_nil ?_
                    refine L_nil ?_
                    refine Sm_norm (e2 := [(2, .ptr 0 0), (3, .ptr 1 0), (4, .ptr 2 0), (5, .ptr 3 0), (134, .bool (((decide (c1.fn = 2)) && (decide (d2.fn = 2))) && (decide (((List.length c1.funs : Nat) : Int) = ((List.length d2.funs : Nat) : Int)))))]) (H1 := [(kg053 c1), (kg054 d2), kg071, (kg062 a27 a28 a29 a30 a31 a32 a52 a53 l54 a65), (kg056 a33 a34 a35 a36 a37 a38 a39 a40 l41 a42 a43 l44), (kg057 a55 a56 a57 a58 a59 a60 a61 a62 l63 a64 a65 l66)]) (H2 := [(kg053 c1), (kg054 d2), kg071, (kg062 a27 a28 a29 a30 a31 a32 a52 a53 l54 a65), (kg056 a33 a34 a35 a36 a37 a38 a39 a40 l41 a42 a43 l44), (kg057 a55 a56 a57 a58 a59 a60 a61 a62 l63 a64 a65 l66)]) rfl (by repeat (first | exact rzz | apply rcc rfl | apply rnn rfl)) rfl (?_ : GL _ _ _ _ _)
                    rcases cond_s hr with ⟨hc134, hr⟩ | ⟨hc134, hr⟩
                    · refine L_T rfl hc134 ?_
                      refine L_seq ?_
                      refine L_stmt ?_
                      refine L_reg ?_
                      refine G_p rfl rfl rfl ?_
                      refine G_hn (H' := [(kg053 c1), (kg054 d2), kg071, (kg063 a27 a28 a29 a30 a31 a32 a52 a53 l54 a65), (kg056 a33 a34 a35 a36 a37 a38 a39 a40 l41 a42 a43 l44), (kg057 a55 a56 a57 a58 a59 a60 a61 a62 l63 a64 a65 l66)]) rfl rfl rfl (fun _ => rfl) ?_
                      refine G_nil ?_
                      refine L_nil ?_
                      refine Sm_norm (e2 := [(2, .ptr 0 0), (3, .ptr 1 0), (4, .ptr 2 0), (5, .ptr 3 0)]) (H1 := [(kg053 c1), (kg054 d2), kg071, (kg063 a27 a28 a29 a30 a31 a32 a52 a53 l54 a65), (kg056 a33 a34 a35 a36 a37 a38 a39 a40 l41 a42 a43 l44), (kg057 a55 a56 a57 a58 a59 a60 a61 a62 l63 a64 a65 l66)]) (H2 := [(kg053 c1), (kg054 d2), kg071, (kg063 a27 a28 a29 a30 a31 a32 a52 a53 l54 a65), (kg056 a33 a34 a35 a36 a37 a38 a39 a40 l41 a42 a43 l44), (kg057 a55 a56 a57 a58 a59 a60 a61 a62 l63 a64 a65 l66)]) rfl (by repeat (first | exact rzz | apply rcc rfl | apply rnn rfl)) rfl (?_ : GL _ _ _ _ _)
                      refine L_seq ?_
                      refine L_stmt ?_
                      refine L_reg ?_
                      refine G_p rfl rfl rfl ?_
                      refine G_h (v := .lst (List.map encC c1.funs) false) rfl rfl rfl (fun _ => rfl) ?_
                      refine G_h rfl rfl rfl (lenL_ev rfl (List.length_map _)) ?_
                      refine G_p rfl rfl rfl ?_
                      refine G_p rfl rfl rfl ?_
                      refine G_nil ?_
                      refine L_nil ?_
                      refine Sm_norm (e2 := (kg072 c1)) (H1 := [(kg053 c1), (kg054 d2), kg071, (kg063 a27 a28 a29 a30 a31 a32 a52 a53 l54 a65), (kg056 a33 a34 a35 a36 a37 a38 a39 a40 l41 a42 a43 l44), (kg057 a55 a56 a57 a58 a59 a60 a61 a62 l63 a64 a65 l66)]) (H2 := [(kg053 c1), (kg054 d2), kg071, (kg063 a27 a28 a29 a30 a31 a32 a52 a53 l54 a65), (kg056 a33 a34 a35 a36 a37 a38 a39 a40 l41 a42 a43 l44), (kg057 a55 a56 a57 a58 a59 a60 a61 a62 l63 a64 a65 l66)]) rfl (by repeat (first | exact rzz | apply rcc rfl | apply rnn rfl)) rfl (?_ : GL _ _ _ _ _)
                      refine L_seq ?_
                      refine L_stmtJ (S := List Co) (fun s => (kg072 c1)) (fun s => [(kg053 c1), (kg054 d2), kg071, .cells [.int .i64 a27, .int .i64 a28, .int .i64 a29, .int .i64 a30, .int .i64 a31, .int .i64 a32, .int .i64 a52, .int .i64 a53, .lst (List.map encC l54) false, .int .i64 2, .int .i64 a65, .gl 6 (List.length s)], (kg056 a33 a34 a35 a36 a37 a38 a39 a40 l41 a42 a43 l44), (kg057 a55 a56 a57 a58 a59 a60 a61 a62 l63 a64 a65 l66), growM 12 encC s]) (fun s => g_r07_Compose_j2 rec c1 d2 a27 a28 a29 a30 a31 a32 a52 a53 l54 a65 s = some r) ?_ ?_
                      · skip
                        refine L_seq ?_
                        refine L_stmt ?_
                        refine L_reg ?_
                        refine G_p rfl rfl rfl ?_
                        refine G_nil ?_
                        refine L_nil ?_
                        refine Sm_norm (e2 := [(2, .ptr 0 0), (3, .ptr 1 0), (4, .ptr 2 0), (5, .ptr 3 0), (9, .int .i64 (IntKind.wrap .i64 (((List.length c1.funs : Nat) : Int) - 1))), (10, .int .i64 0)]) (H1 := [(kg053 c1), (kg054 d2), kg071, (kg063 a27 a28 a29 a30 a31 a32 a52 a53 l54 a65), (kg056 a33 a34 a35 a36 a37 a38 a39 a40 l41 a42 a43 l44), (kg057 a55 a56 a57 a58 a59 a60 a61 a62 l63 a64 a65 l66)]) (H2 := [(kg053 c1), (kg054 d2), kg071, (kg063 a27 a28 a29 a30 a31 a32 a52 a53 l54 a65), (kg056 a33 a34 a35 a36 a37 a38 a39 a40 l41 a42 a43 l44), (kg057 a55 a56 a57 a58 a59 a60 a61 a62 l63 a64 a65 l66)]) rfl (by repeat (first | exact rzz | apply rcc rfl | apply rnn rfl)) rfl (?_ : GL _ _ _ _ _)
                        refine L_block ?_
                        refine L_seq ?_
                        refine L_own (H' := [(kg053 c1), (kg054 d2), kg071, .cells [.int .i64 a27, .int .i64 a28, .int .i64 a29, .int .i64 a30, .int .i64 a31, .int .i64 a32, .int .i64 a52, .int .i64 a53, .lst (List.map encC l54) false, .int .i64 2, .int .i64 a65, .gl 6 (List.length [])], (kg056 a33 a34 a35 a36 a37 a38 a39 a40 l41 a42 a43 l44), (kg057 a55 a56 a57 a58 a59 a60 a61 a62 l63 a64 a65 l66), growM 12 encC []]) rfl ?_
                        obtain ⟨hLq169, hr⟩ := guard_s hr
                        replace hLq169 := okLen_s hLq169
                        refine L_range (X := Nat) (S := List Co) (List.range (Int.toNat (IntKind.wrap .i64 (((List.length c1.funs : Nat) : Int) - 1)))) (fun i171 s => [(10, .int .i64 ((i171 : Nat) : Int)), (2, .ptr 0 0), (3, .ptr 1 0), (4, .ptr 2 0), (5, .ptr 3 0), (9, .int .i64 (IntKind.wrap .i64 (((List.length c1.funs : Nat) : Int) - 1)))]) (fun i171 s => [(kg053 c1), (kg054 d2), kg071, .cells [.int .i64 a27, .int .i64 a28, .int .i64 a29, .int .i64 a30, .int .i64 a31, .int .i64 a32, .int .i64 a52, .int .i64 a53, .lst (List.map encC l54) false, .int .i64 2, .int .i64 a65, .gl 6 (List.length s)], (kg056 a33 a34 a35 a36 a37 a38 a39 a40 l41 a42 a43 l44), (kg057 a55 a56 a57 a58 a59 a60 a61 a62 l63 a64 a65 l66), growM 12 encC s]) (fun rest i171 s => g_r07_Compose_l3 rec c1 d2 a27 a28 a29 a30 a31 a32 a52 a53 l54 a65 rest i171 s = some r) ([]) ?_ rfl hr ?_ ?_
                        · show restr _ _ = [(10, .int .i64 ((0 : Nat) : Int)), (2, .ptr 0 0), (3, .ptr 1 0), (4, .ptr 2 0), (5, .ptr 3 0), (9, .int .i64 (IntKind.wrap .i64 (((List.length c1.funs : Nat) : Int) - 1)))]
                          (repeat (first | exact rzz | apply rcc rfl | apply rnn rfl))
                        · rintro l157 hr
                          show GL _ _ [(10, .int .i64 (((List.length (List.range (Int.toNat (IntKind.wrap .i64 (((List.length c1.funs : Nat) : Int) - 1))))) : Nat) : Int)), (2, .ptr 0 0), (3, .ptr 1 0), (4, .ptr 2 0), (5, .ptr 3 0), (9, .int .i64 (IntKind.wrap .i64 (((List.length c1.funs : Nat) : Int) - 1)))] [(kg053 c1), (kg054 d2), kg071, .cells [.int .i64 a27, .int .i64 a28, .int .i64 a29, .int .i64 a30, .int .i64 a31, .int .i64 a32, .int .i64 a52, .int .i64 a53, .lst (List.map encC l54) false, .int .i64 2, .int .i64 a65, .gl 6 (List.length l157)], (kg056 a33 a34 a35 a36 a37 a38 a39 a40 l41 a42 a43 l44), (kg057 a55 a56 a57 a58 a59 a60 a61 a62 l63 a64 a65 l66), growM 12 encC l157] _
                          replace hr : g_r07_Compose_l3 rec c1 d2 a27 a28 a29 a30 a31 a32 a52 a53 l54 a65 [] (List.length (List.range (Int.toNat (IntKind.wrap .i64 (((List.length c1.funs : Nat) : Int) - 1))))) l157 = some r := hr
                          rw [g_r07_Compose_l3] at hr
                          refine L_seq ?_
                          refine L_stmt ?_
                          refine L_seq ?_
                          refine L_stmt ?_
                          refine L_reg ?_
                          refine G_p rfl rfl rfl ?_
                          refine G_p rfl rfl rfl ?_
                          refine G_v (.bool false) rfl rfl rfl (congrArg AVal.bool (decide_eq_false (by simp only [List.length_range]; omega))) ?_
                          refine G_nil ?_
                          refine L_nil ?_
                          refine Sm_norm (e2 := [(2, .ptr 0 0), (3, .ptr 1 0), (4, .ptr 2 0), (5, .ptr 3 0), (9, .int .i64 (IntKind.wrap .i64 (((List.length c1.funs : Nat) : Int) - 1))), (10, .int .i64 ((List.length (List.range (Int.toNat (IntKind.wrap .i64 (((List.length c1.funs : Nat) : Int) - 1)))) : Nat) : Int)), (142, .bool false)]) (H1 := [(kg053 c1), (kg054 d2), kg071, .cells [.int .i64 a27, .int .i64 a28, .int .i64 a29, .int .i64 a30, .int .i64 a31, .int .i64 a32, .int .i64 a52, .int .i64 a53, .lst (List.map encC l54) false, .int .i64 2, .int .i64 a65, .gl 6 (List.length l157)], (kg056 a33 a34 a35 a36 a37 a38 a39 a40 l41 a42 a43 l44), (kg057 a55 a56 a57 a58 a59 a60 a61 a62 l63 a64 a65 l66), growM 12 encC l157]) (H2 := [(kg053 c1), (kg054 d2), kg071, .cells [.int .i64 a27, .int .i64 a28, .int .i64 a29, .int .i64 a30, .int .i64 a31, .int .i64 a32, .int .i64 a52, .int .i64 a53, .lst (List.map encC l54) false, .int .i64 2, .int .i64 a65, .gl 6 (List.length l157)], (kg056 a33 a34 a35 a36 a37 a38 a39 a40 l41 a42 a43 l44), (kg057 a55 a56 a57 a58 a59 a60 a61 a62 l63 a64 a65 l66), growM 12 encC l157]) rfl (by repeat (first | exact rzz | apply rcc rfl | apply rnn rfl)) rfl (?_ : GL _ _ _ _ _)
                          refine L_F rfl rfl ?_
                          refine L_exit ?_
                          refine Sm_exit ?_
                          refine Rd_exit ?_
                          refine Blk_exit (?_ : GL _ _ _ _ _)
                          refine L_nil ?_
                          exact Sm_norm (e2 := (kg072 c1)) (H1 := [(kg053 c1), (kg054 d2), kg071, .cells [.int .i64 a27, .int .i64 a28, .int .i64 a29, .int .i64 a30, .int .i64 a31, .int .i64 a32, .int .i64 a52, .int .i64 a53, .lst (List.map encC l54) false, .int .i64 2, .int .i64 a65, .gl 6 (List.length l157)], (kg056 a33 a34 a35 a36 a37 a38 a39 a40 l41 a42 a43 l44), (kg057 a55 a56 a57 a58 a59 a60 a61 a62 l63 a64 a65 l66), growM 12 encC l157]) (H2 := [(kg053 c1), (kg054 d2), kg071, .cells [.int .i64 a27, .int .i64 a28, .int .i64 a29, .int .i64 a30, .int .i64 a31, .int .i64 a32, .int .i64 a52, .int .i64 a53, .lst (List.map encC l54) false, .int .i64 2, .int .i64 a65, .gl 6 (List.length l157)], (kg056 a33 a34 a35 a36 a37 a38 a39 a40 l41 a42 a43 l44), (kg057 a55 a56 a57 a58 a59 a60 a61 a62 l63 a64 a65 l66), growM 12 encC l157]) rfl (by repeat (first | exact rzz | apply rcc rfl | apply rnn rfl)) rfl ⟨l157, rfl, rfl, hr⟩
                        · rintro y170 rest172 i171 l157 hy170 hlti171 hr
                          show GL _ _ [(10, .int .i64 ((i171 : Nat) : Int)), (2, .ptr 0 0), (3, .ptr 1 0), (4, .ptr 2 0), (5, .ptr 3 0), (9, .int .i64 (IntKind.wrap .i64 (((List.length c1.funs : Nat) : Int) - 1)))] [(kg053 c1), (kg054 d2), kg071, .cells [.int .i64 a27, .int .i64 a28, .int .i64 a29, .int .i64 a30, .int .i64 a31, .int .i64 a32, .int .i64 a52, .int .i64 a53, .lst (List.map encC l54) false, .int .i64 2, .int .i64 a65, .gl 6 (List.length l157)], (kg056 a33 a34 a35 a36 a37 a38 a39 a40 l41 a42 a43 l44), (kg057 a55 a56 a57 a58 a59 a60 a61 a62 l63 a64 a65 l66), growM 12 encC l157] _
                          replace hr : g_r07_Compose_l3 rec c1 d2 a27 a28 a29 a30 a31 a32 a52 a53 l54 a65 (y170 :: rest172) i171 l157 = some r := hr
                          rw [g_r07_Compose_l3] at hr
                          refine L_seq ?_
                          refine L_stmt ?_
                          refine L_seq ?_
                          refine L_stmt ?_
                          refine L_reg ?_
                          refine G_p rfl rfl rfl ?_
                          refine G_p rfl rfl rfl ?_
                          refine G_v (.bool true) rfl rfl rfl (congrArg AVal.bool (decide_eq_true (by have h0 := hlti171; simp only [List.length_range] at h0; omega))) ?_
                          refine G_nil ?_
                          refine L_nil ?_
                          refine Sm_norm (e2 := [(2, .ptr 0 0), (3, .ptr 1 0), (4, .ptr 2 0), (5, .ptr 3 0), (9, .int .i64 (IntKind.wrap .i64 (((List.length c1.funs : Nat) : Int) - 1))), (10, .int .i64 ((i171 : Nat) : Int)), (142, .bool true)]) (H1 := [(kg053 c1), (kg054 d2), kg071, .cells [.int .i64 a27, .int .i64 a28, .int .i64 a29, .int .i64 a30, .int .i64 a31, .int .i64 a32, .int .i64 a52, .int .i64 a53, .lst (List.map encC l54) false, .int .i64 2, .int .i64 a65, .gl 6 (List.length l157)], (kg056 a33 a34 a35 a36 a37 a38 a39 a40 l41 a42 a43 l44), (kg057 a55 a56 a57 a58 a59 a60 a61 a62 l63 a64 a65 l66), growM 12 encC l157]) (H2 := [(kg053 c1), (kg054 d2), kg071, .cells [.int .i64 a27, .int .i64 a28, .int .i64 a29, .int .i64 a30, .int .i64 a31, .int .i64 a32, .int .i64 a52, .int .i64 a53, .lst (List.map encC l54) false, .int .i64 2, .int .i64 a65, .gl 6 (List.length l157)], (kg056 a33 a34 a35 a36 a37 a38 a39 a40 l41 a42 a43 l44), (kg057 a55 a56 a57 a58 a59 a60 a61 a62 l63 a64 a65 l66), growM 12 encC l157]) rfl (by repeat (first | exact rzz | apply rcc rfl | apply rnn rfl)) rfl (?_ : GL _ _ _ _ _)
                          refine L_T rfl rfl ?_
                          refine L_skip ?_
                          refine L_nil ?_
                          refine Sm_norm (e2 := [(2, .ptr 0 0), (3, .ptr 1 0), (4, .ptr 2 0), (5, .ptr 3 0), (9, .int .i64 (IntKind.wrap .i64 (((List.length c1.funs : Nat) : Int) - 1))), (10, .int .i64 ((i171 : Nat) : Int))]) (H1 := [(kg053 c1), (kg054 d2), kg071, .cells [.int .i64 a27, .int .i64 a28, .int .i64 a29, .int .i64 a30, .int .i64 a31, .int .i64 a32, .int .i64 a52, .int .i64 a53, .lst (List.map encC l54) false, .int .i64 2, .int .i64 a65, .gl 6 (List.length l157)], (kg056 a33 a34 a35 a36 a37 a38 a39 a40 l41 a42 a43 l44), (kg057 a55 a56 a57 a58 a59 a60 a61 a62 l63 a64 a65 l66), growM 12 encC l157]) (H2 := [(kg053 c1), (kg054 d2), kg071, .cells [.int .i64 a27, .int .i64 a28, .int .i64 a29, .int .i64 a30, .int .i64 a31, .int .i64 a32, .int .i64 a52, .int .i64 a53, .lst (List.map encC l54) false, .int .i64 2, .int .i64 a65, .gl 6 (List.length l157)], (kg056 a33 a34 a35 a36 a37 a38 a39 a40 l41 a42 a43 l44), (kg057 a55 a56 a57 a58 a59 a60 a61 a62 l63 a64 a65 l66), growM 12 encC l157]) rfl (by repeat (first | exact rzz | apply rcc rfl | apply rnn rfl)) rfl (?_ : GL _ _ _ _ _)
                          refine L_seq ?_
                          refine L_stmt ?_
                          refine L_block ?_
                          refine L_draw ?_
                          refine GD_p rfl rfl rfl ?_
                          refine GD_h (d := some 146) rfl rfl rfl rfl (fun _ => rfl) ?_
                          refine GD_p rfl rfl rfl ?_
                          refine GD_h (d := some 148) (v := .lst (List.map encC d2.funs) false) rfl rfl rfl rfl (fun _ => rfl) ?_
                          refine GD_p rfl rfl rfl ?_
                          obtain ⟨e177, he177, hr⟩ := bind_s hr
                          refine GD_h (d := some 150) (v := .ro [.int .i64 (e177.flat 0), .int .i64 (e177.flat 1), .int .i64 (e177.flat 2), .int .i64 (e177.flat 3), .int .i64 (e177.flat 4), .int .i64 (e177.flat 5), .int .i64 e177.pair, .int .i64 e177.plab, .lst (List.map encC e177.pairs) false, .int .i64 e177.fn, .int .i64 e177.flab, .lst (List.map encC e177.funs) false]) rfl rfl rfl rfl (ia_ev (cells := [.int .i64 (e177.flat 0), .int .i64 (e177.flat 1), .int .i64 (e177.flat 2), .int .i64 (e177.flat 3), .int .i64 (e177.flat 4), .int .i64 (e177.flat 5), .int .i64 e177.pair, .int .i64 e177.plab, .lst (List.map encC e177.pairs) false, .int .i64 e177.fn, .int .i64 e177.flab, .lst (List.map encC e177.funs) false]) rfl rfl (idx_s he177).1 (map_get (x := e177) (idx_s he177).2) (encC_flat _) rfl) ?_
                          refine GD_h (d := some 151) (v := .agg (cC e177)) rfl rfl rfl rfl (fun _ => rfl) ?_
                          refine GD_p rfl rfl rfl ?_
                          refine GD_h (d := some 153) (v := .lst (List.map encC c1.funs) false) rfl rfl rfl rfl (fun _ => rfl) ?_
                          refine GD_p rfl rfl rfl ?_
                          obtain ⟨e178, he178, hr⟩ := bind_s hr
                          refine GD_h (d := some 155) (v := .ro [.int .i64 (e178.flat 0), .int .i64 (e178.flat 1), .int .i64 (e178.flat 2), .int .i64 (e178.flat 3), .int .i64 (e178.flat 4), .int .i64 (e178.flat 5), .int .i64 e178.pair, .int .i64 e178.plab, .lst (List.map encC e178.pairs) false, .int .i64 e178.fn, .int .i64 e178.flab, .lst (List.map encC e178.funs) false]) rfl rfl rfl rfl (ia_ev (cells := [.int .i64 (e178.flat 0), .int .i64 (e178.flat 1), .int .i64 (e178.flat 2), .int .i64 (e178.flat 3), .int .i64 (e178.flat 4), .int .i64 (e178.flat 5), .int .i64 e178.pair, .int .i64 e178.plab, .lst (List.map encC e178.pairs) false, .int .i64 e178.fn, .int .i64 e178.flab, .lst (List.map encC e178.funs) false]) rfl rfl (idx_s he178).1 (map_get (x := e178) (idx_s he178).2) (encC_flat _) rfl) ?_
                          refine GD_h (d := some 156) (v := .agg (cC e178)) rfl rfl rfl rfl (fun _ => rfl) ?_
                          obtain ⟨r179, hr179, hr⟩ := bind_s hr
                          refine GD_c 19 rfl rfl rfl (CA_of (as := [.agg (cC e177), .agg (cC e178)]) rfl (hrec _ _ _ hr179)) ?_
                          refine GD_h (d := some 158) (v := .lst (List.map encC [r179]) true) rfl rfl rfl rfl (fun _ => Eq.trans (b := some (Ex.ok (AVal.lst [.agg (cC r179)] true), _)) rfl (congrArg (fun z => some (Ex.ok (AVal.lst z true), _)) (by first | rfl | (simp only [List.map_cons, List.map_nil, encC_eq] <;> rfl)))) ?_
                          obtain ⟨l180, hl180, hr⟩ := bind_s hr
                          refine GD_o (d := some 159) rfl rfl rfl rfl (appG_ev encC_w1 (by decide) rfl rfl rfl rfl hl180) ?_
                          refine GD_p rfl rfl rfl ?_
                          refine GD_h (d := none) (H' := [(kg053 c1), (kg054 d2), kg071, .cells [.int .i64 a27, .int .i64 a28, .int .i64 a29, .int .i64 a30, .int .i64 a31, .int .i64 a32, .int .i64 a52, .int .i64 a53, .lst (List.map encC l54) false, .int .i64 2, .int .i64 a65, .gl 6 (List.length l180)], (kg056 a33 a34 a35 a36 a37 a38 a39 a40 l41 a42 a43 l44), (kg057 a55 a56 a57 a58 a59 a60 a61 a62 l63 a64 a65 l66), growM 12 encC l180, .hole]) rfl rfl rfl rfl (fun _ => rfl) ?_
                          refine GD_nil2 rfl ?_
                          refine L_nil ?_
                          refine Blk_norm (?_ : GL _ _ _ _ _)
                          refine L_nil ?_
                          refine Sm_norm (e2 := [(2, .ptr 0 0), (3, .ptr 1 0), (4, .ptr 2 0), (5, .ptr 3 0), (9, .int .i64 (IntKind.wrap .i64 (((List.length c1.funs : Nat) : Int) - 1))), (10, .int .i64 ((i171 : Nat) : Int))]) (H1 := [(kg053 c1), (kg054 d2), kg071, .cells [.int .i64 a27, .int .i64 a28, .int .i64 a29, .int .i64 a30, .int .i64 a31, .int .i64 a32, .int .i64 a52, .int .i64 a53, .lst (List.map encC l54) false, .int .i64 2, .int .i64 a65, .gl 6 (List.length l180)], (kg056 a33 a34 a35 a36 a37 a38 a39 a40 l41 a42 a43 l44), (kg057 a55 a56 a57 a58 a59 a60 a61 a62 l63 a64 a65 l66), growM 12 encC l180, .hole]) (H2 := [(kg053 c1), (kg054 d2), kg071, .cells [.int .i64 a27, .int .i64 a28, .int .i64 a29, .int .i64 a30, .int .i64 a31, .int .i64 a32, .int .i64 a52, .int .i64 a53, .lst (List.map encC l54) false, .int .i64 2, .int .i64 a65, .gl 6 (List.length l180)], (kg056 a33 a34 a35 a36 a37 a38 a39 a40 l41 a42 a43 l44), (kg057 a55 a56 a57 a58 a59 a60 a61 a62 l63 a64 a65 l66), growM 12 encC l180]) rfl (by repeat (first | exact rzz | apply rcc rfl | apply rnn rfl)) rfl (?_ : GL _ _ _ _ _)
                          refine L_reg ?_
                          refine G_p rfl rfl rfl ?_
                          refine G_v (.int .i64 ((i171 + 1 : Nat) : Int)) rfl rfl rfl (congrArg _ (wrap_next hLq169 hlti171)) ?_
                          refine G_p rfl rfl rfl ?_
                          refine G_nil ?_
                          refine L_nil ?_
                          refine Rd_norm ⟨l180, ?_, rfl, hr⟩
                          show restr _ _ = [(10, .int .i64 (((i171 + 1) : Nat) : Int)), (2, .ptr 0 0), (3, .ptr 1 0), (4, .ptr 2 0), (5, .ptr 3 0), (9, .int .i64 (IntKind.wrap .i64 (((List.length c1.funs : Nat) : Int) - 1)))]
                          (repeat (first | exact rzz | apply rcc rfl | apply rnn rfl))
                      · rintro l142 hr
                        show GL _ _ (kg072 c1) [(kg053 c1), (kg054 d2), kg071, .cells [.int .i64 a27, .int .i64 a28, .int .i64 a29, .int .i64 a30, .int .i64 a31, .int .i64 a32, .int .i64 a52, .int .i64 a53, .lst (List.map encC l54) false, .int .i64 2, .int .i64 a65, .gl 6 (List.length l142)], (kg056 a33 a34 a35 a36 a37 a38 a39 a40 l41 a42 a43 l44), (kg057 a55 a56 a57 a58 a59 a60 a61 a62 l63 a64 a65 l66), growM 12 encC l142] _
                        replace hr : g_r07_Compose_j2 rec c1 d2 a27 a28 a29 a30 a31 a32 a52 a53 l54 a65 l142 = some r := hr
                        unfold g_r07_Compose_j2 at hr
                        refine L_draw ?_
                        refine GD_p rfl rfl rfl ?_
                        refine GD_h (d := some 162) rfl rfl rfl rfl (fun _ => rfl) ?_
                        refine GD_p rfl rfl rfl ?_
                        refine GD_h (d := some 164) (v := .lst (List.map encC c1.funs) false) rfl rfl rfl rfl (fun _ => rfl) ?_
                        refine GD_p rfl rfl rfl ?_
                        obtain ⟨e143, he143, hr⟩ := bind_s hr
                        refine GD_h (d := some 166) (v := .ro [.int .i64 (e143.flat 0), .int .i64 (e143.flat 1), .int .i64 (e143.flat 2), .int .i64 (e143.flat 3), .int .i64 (e143.flat 4), .int .i64 (e143.flat 5), .int .i64 e143.pair, .int .i64 e143.plab, .lst (List.map encC e143.pairs) false, .int .i64 e143.fn, .int .i64 e143.flab, .lst (List.map encC e143.funs) false]) rfl rfl rfl rfl (ia_ev (cells := [.int .i64 (e143.flat 0), .int .i64 (e143.flat 1), .int .i64 (e143.flat 2), .int .i64 (e143.flat 3), .int .i64 (e143.flat 4), .int .i64 (e143.flat 5), .int .i64 e143.pair, .int .i64 e143.plab, .lst (List.map encC e143.pairs) false, .int .i64 e143.fn, .int .i64 e143.flab, .lst (List.map encC e143.funs) false]) rfl rfl (idx_s he143).1 (map_get (x := e143) (idx_s he143).2) (encC_flat _) rfl) ?_
                        refine GD_h (d := some 167) (v := .agg (cC e143)) rfl rfl rfl rfl (fun _ => rfl) ?_
                        refine GD_p rfl rfl rfl ?_
                        refine GD_h (d := some 169) (v := .lst (List.map encC d2.funs) false) rfl rfl rfl rfl (fun _ => rfl) ?_
                        refine GD_p rfl rfl rfl ?_
                        obtain ⟨e144, he144, hr⟩ := bind_s hr
                        refine GD_h (d := some 171) (v := .ro [.int .i64 (e144.flat 0), .int .i64 (e144.flat 1), .int .i64 (e144.flat 2), .int .i64 (e144.flat 3), .int .i64 (e144.flat 4), .int .i64 (e144.flat 5), .int .i64 e144.pair, .int .i64 e144.plab, .lst (List.map encC e144.pairs) false, .int .i64 e144.fn, .int .i64 e144.flab, .lst (List.map encC e144.funs) false]) rfl rfl rfl rfl (ia_ev (cells := [.int .i64 (e144.flat 0), .int .i64 (e144.flat 1), .int .i64 (e144.flat 2), .int .i64 (e144.flat 3), .int .i64 (e144.flat 4), .int .i64 (e144.flat 5), .int .i64 e144.pair, .int .i64 e144.plab, .lst (List.map encC e144.pairs) false, .int .i64 e144.fn, .int .i64 e144.flab, .lst (List.map encC e144.funs) false]) rfl rfl (idx_s he144).1 (map_get (x := e144) (idx_s he144).2) (encC_flat _) rfl) ?_
                        refine GD_h (d := some 172) (v := .agg (cC e144)) rfl rfl rfl rfl (fun _ => rfl) ?_
                        obtain ⟨r145, hr145, hr⟩ := bind_s hr
                        refine GD_c 19 rfl rfl rfl (CA_of (as := [.agg (cC e143), .agg (cC e144)]) rfl (hrec _ _ _ hr145)) ?_
                        refine GD_h (d := some 174) (v := .lst (List.map encC [r145]) true) rfl rfl rfl rfl (fun _ => Eq.trans (b := some (Ex.ok (AVal.lst [.agg (cC r145)] true), _)) rfl (congrArg (fun z => some (Ex.ok (AVal.lst z true), _)) (by first | rfl | (simp only [List.map_cons, List.map_nil, encC_eq] <;> rfl)))) ?_
                        obtain ⟨l146, hl146, hr⟩ := bind_s hr
                        refine GD_o (d := some 175) rfl rfl rfl rfl (appG_ev encC_w1 (by decide) rfl rfl rfl rfl hl146) ?_
                        refine GD_p rfl rfl rfl ?_
                        refine GD_h (d := none) (H' := [(kg053 c1), (kg054 d2), kg071, .cells [.int .i64 a27, .int .i64 a28, .int .i64 a29, .int .i64 a30, .int .i64 a31, .int .i64 a32, .int .i64 a52, .int .i64 a53, .lst (List.map encC l54) false, .int .i64 2, .int .i64 a65, .gl 6 (List.length l146)], (kg056 a33 a34 a35 a36 a37 a38 a39 a40 l41 a42 a43 l44), (kg057 a55 a56 a57 a58 a59 a60 a61 a62 l63 a64 a65 l66), growM 12 encC l146, .hole]) rfl rfl rfl rfl (fun _ => rfl) ?_
                        refine GD_nil2 rfl ?_
                        refine L_nil ?_
                        exact Sm_norm (e2 := [(4, .ptr 2 0), (5, .ptr 3 0)]) (H1 := [(kg053 c1), (kg054 d2), kg071, .cells [.int .i64 a27, .int .i64 a28, .int .i64 a29, .int .i64 a30, .int .i64 a31, .int .i64 a32, .int .i64 a52, .int .i64 a53, .lst (List.map encC l54) false, .int .i64 2, .int .i64 a65, .lst (List.map encC l146) false], (kg056 a33 a34 a35 a36 a37 a38 a39 a40 l41 a42 a43 l44), (kg057 a55 a56 a57 a58 a59 a60 a61 a62 l63 a64 a65 l66), growM 12 encC l146, .hole]) (H2 := [(kg053 c1), (kg054 d2), kg071, .cells [.int .i64 a27, .int .i64 a28, .int .i64 a29, .int .i64 a30, .int .i64 a31, .int .i64 a32, .int .i64 a52, .int .i64 a53, .lst (List.map encC l54) false, .int .i64 2, .int .i64 a65, .lst (List.map encC l146) false], (kg056 a33 a34 a35 a36 a37 a38 a39 a40 l41 a42 a43 l44), (kg057 a55 a56 a57 a58 a59 a60 a61 a62 l63 a64 a65 l66)]) (frz_c (frz_glC (H2 := [(kg053 c1), (kg054 d2), kg071, .cells [.int .i64 a27, .int .i64 a28, .int .i64 a29, .int .i64 a30, .int .i64 a31, .int .i64 a32, .int .i64 a52, .int .i64 a53, .lst (List.map encC l54) false, .int .i64 2, .int .i64 a65, .lst (List.map encC l146) false], (kg056 a33 a34 a35 a36 a37 a38 a39 a40 l41 a42 a43 l44), (kg057 a55 a56 a57 a58 a59 a60 a61 a62 l63 a64 a65 l66), growM 12 encC l146, .hole]) rfl rfl rfl rfl rfl) rfl) (by repeat (first | exact rzz | apply rcc rfl | apply rnn rfl)) rfl ⟨(2, l146), rfl, rfl, hr⟩
                    · refine L_F rfl hc134 ?_
                      refine L_skip ?_
                      refine L_nil ?_
                      exact Sm_norm (e2 := [(4, .ptr 2 0), (5, .ptr 3 0)]) (H1 := [(kg053 c1), (kg054 d2), kg071, .cells [.int .i64 a27, .int .i64 a28, .int .i64 a29, .int .i64 a30, .int .i64 a31, .int .i64 a32, .int .i64 a52, .int .i64 a53, .lst (List.map encC l54) false, .int .i64 3, .int .i64 a65, .lst [] false], (kg056 a33 a34 a35 a36 a37 a38 a39 a40 l41 a42 a43 l44), (kg057 a55 a56 a57 a58 a59 a60 a61 a62 l63 a64 a65 l66)]) (H2 := [(kg053 c1), (kg054 d2), kg071, .cells [.int .i64 a27, .int .i64 a28, .int .i64 a29, .int .i64 a30, .int .i64 a31, .int .i64 a32, .int .i64 a52, .int .i64 a53, .lst (List.map encC l54) false, .int .i64 3, .int .i64 a65, .lst (List.map encC []) false], (kg056 a33 a34 a35 a36 a37 a38 a39 a40 l41 a42 a43 l44), (kg057 a55 a56 a57 a58 a59 a60 a61 a62 l63 a64 a65 l66)]) (frz_c (frz_lstC (H2 := [(kg053 c1), (kg054 d2), kg071, .cells [.int .i64 a27, .int .i64 a28, .int .i64 a29, .int .i64 a30, .int .i64 a31, .int .i64 a32, .int .i64 a52, .int .i64 a53, .lst (List.map encC l54) false, .int .i64 3, .int .i64 a65, .lst [] false], (kg056 a33 a34 a35 a36 a37 a38 a39 a40 l41 a42 a43 l44), (kg057 a55 a56 a57 a58 a59 a60 a61 a62 l63 a64 a65 l66)]) rfl rfl rfl rfl) rfl) (by repeat (first | exact rzz | apply rcc rfl | apply rnn rfl)) rfl ⟨(3, []), rfl, rfl, hr⟩
              · refine L_F rfl hc115 ?_
                refine L_skip ?_
                refine L_nil ?_
                exact Sm_norm (e2 := [(4, .ptr 2 0), (5, .ptr 3 0)]) (H1 := [(kg053 c1), (kg054 d2), kg071, (kg058 a27 a28 a29 a30 a31 a32 a52 a53 l54 a64 a65 l66), (kg056 a33 a34 a35 a36 a37 a38 a39 a40 l41 a42 a43 l44), (kg057 a55 a56 a57 a58 a59 a60 a61 a62 l63 a64 a65 l66)]) (H2 := [(kg053 c1), (kg054 d2), kg071, (kg058 a27 a28 a29 a30 a31 a32 a52 a53 l54 a64 a65 l66), (kg056 a33 a34 a35 a36 a37 a38 a39 a40 l41 a42 a43 l44), (kg057 a55 a56 a57 a58 a59 a60 a61 a62 l63 a64 a65 l66)]) (frz_c (frz_lstC (H2 := [(kg053 c1), (kg054 d2), kg071, (kg058 a27 a28 a29 a30 a31 a32 a52 a53 l54 a64 a65 l66), (kg056 a33 a34 a35 a36 a37 a38 a39 a40 l41 a42 a43 l44), (kg057 a55 a56 a57 a58 a59 a60 a61 a62 l63 a64 a65 l66)]) rfl rfl rfl rfl) rfl) (by repeat (first | exact rzz | apply rcc rfl | apply rnn rfl)) rfl ⟨(a64, l66), rfl, rfl, hr⟩
          · rintro ⟨a106, l107⟩ hr
            show GL _ _ [(4, .ptr 2 0), (5, .ptr 3 0)] [(kg053 c1), (kg054 d2), kg071, (kg055 a27 a28 a29 a30 a31 a32 a52 a53 l54 a106 a65 l107), (kg056 a33 a34 a35 a36 a37 a38 a39 a40 l41 a42 a43 l44), (kg057 a55 a56 a57 a58 a59 a60 a61 a62 l63 a64 a65 l66)] _
            replace hr : g_r07_Compose_j1 a27 a28 a29 a30 a31 a32 a52 a53 l54 a65 a106 l107 = some r := hr
            unfold g_r07_Compose_j1 at hr
            refine L_seq ?_
            refine L_reg ?_
            refine G_h (v := .agg [.int .i64 a27, .int .i64 a28, .int .i64 a29, .int .i64 a30, .int .i64 a31, .int .i64 a32, .int .i64 a52, .int .i64 a53, .lst (List.map encC l54) false, .int .i64 a106, .int .i64 a65, .lst (List.map encC l107) false]) rfl rfl rfl (fun _ => rfl) ?_
            refine G_hn (H' := [(kg053 c1), (kg054 d2), (kg055 a27 a28 a29 a30 a31 a32 a52 a53 l54 a106 a65 l107), (kg055 a27 a28 a29 a30 a31 a32 a52 a53 l54 a106 a65 l107), (kg056 a33 a34 a35 a36 a37 a38 a39 a40 l41 a42 a43 l44), (kg057 a55 a56 a57 a58 a59 a60 a61 a62 l63 a64 a65 l66)]) rfl rfl rfl (fun _ => rfl) ?_
            refine G_nil ?_
            refine L_ret ?_
            have hr := some_s hr
            subst hr
            exact ⟨_, rfl, _, rfl, rfl⟩
def g_r07_Compose : Nat → Co → Co → Option Co
  | 0, _, _ => none
  | n + 1, c1, d2 => g_r07_Compose_b (g_r07_Compose n) c1 d2
theorem g_r07_Compose_ok : ∀ (n : Nat) {c1 : Co} {d2 : Co} {r : Co} (hr : g_r07_Compose n c1 d2 = some r), PRes (tabOf tabL) 19 [.agg (cC c1), .agg (cC d2)] (.agg (cC r))
  | 0, _, _, _, hr => by cases hr
  | n + 1, _, _, _, hr => g_r07_Compose_b_ok (fun _ _ _ h => g_r07_Compose_ok n h) hr
end Go.Ev.Seat
namespace Go.Ev
set_option linter.unusedVariables false
set_option linter.unusedSimpArgs false
open Go
def orI (x y : Int) : Int := if x = 0 then y else x
def orL : List Int → Int
  | [] => 0
  | x :: xs => if x = 0 then orL xs else x
def encI (n : Int) : AVal := .int .i64 n
theorem encI_get {l : List Int} {i : Nat} {x : Int} (h : l[i]? = some x) : (l.map encI)[((i : Nat) : Int).toNat]? = some (encI x) := by rw [Int.toNat_natCast, List.getElem?_map, h]; rfl
theorem orL_two (x y : Int) : orL [x, y] = orI x y := by
  simp only [orL, orI]; split <;> (try rfl) <;> split <;> simp_all
def pairP (f : Co → Co → Co) (a b : Co) : Int × Int × List Co :=
  if a.pair = 1 ∨ b.pair = 0 then (a.pair, a.plab, a.pairs)
  else if b.pair = 1 ∨ a.pair = 0 then (b.pair, b.plab, b.pairs)
  else if a.pair = 3 ∧ b.pair = 3 then (3, orI a.plab b.plab, [f (carC a) (carC b)])
  else (2, 0, [f (carC a) (carC b), f (cdrC a) (cdrC b)])
def mixF (f : Co → Co → Co) : List Co → List Co → List Co
  | [], _ => []
  | _ :: _, [] => []
  | x :: xs, y :: ys => (if xs.length = 0 then f x y else f y x) :: mixF f xs ys
def funP (f : Co → Co → Co) (a b : Co) : Int × Int × List Co :=
  if a.fn = 1 ∨ b.fn = 0 then (a.fn, a.flab, a.funs)
  else if b.fn = 1 ∨ a.fn = 0 then (b.fn, b.flab, b.funs)
  else if a.fn = 3 ∨ b.fn = 3 ∨ a.funs.length ≠ b.funs.length then (3, a.flab, [])
  else (a.fn, a.flab, mixF f a.funs b.funs)
def compC : Nat → Co → Co → Co
  | 0, a, _ => a
  | k + 1, a, b => .mk (fun i => orI (a.flat i) (b.flat i)) (pairP (compC k) a b).1 (pairP (compC k) a b).2.1 (pairP (compC k) a b).2.2 (funP (compC k) a b).1 (funP (compC k) a b).2.1 (funP (compC k) a b).2.2
theorem mixF_len (f : Co → Co → Co) : ∀ (l m : List Co), l.length = m.length → (mixF f l m).length = l.length
  | [], _, _ => rfl
  | _ :: _, [], h => by simp at h
  | x :: xs, y :: ys, h => by simp only [mixF, List.length_cons]; rw [mixF_len f xs ys (by simpa using h)]
theorem mixF_get (f : Co → Co → Co) : ∀ (l m : List Co) (i : Nat) (x y : Co), l[i]? = some x → m[i]? = some y → (mixF f l m)[i]? = some (if i + 1 = l.length then f x y else f y x)
  | [], _, _, _, _, h, _ => by simp at h
  | _ :: _, [], _, _, _, _, h => by simp at h
  | a :: l, b :: m, 0, x, y, h1, h2 => by
    simp at h1 h2; subst h1; subst h2
    simp only [mixF, List.getElem?_cons_zero, List.length_cons]
    by_cases h : l.length = 0
    · rw [if_pos h, if_pos (by omega)]
    · rw [if_neg h, if_neg (by omega)]
  | a :: l, b :: m, i + 1, x, y, h1, h2 => by
    simp only [mixF, List.getElem?_cons_succ, List.length_cons] at h1 h2 ⊢
    rw [mixF_get f l m i x y h1 h2]
    congr 1
    by_cases h : i + 1 = l.length
    · rw [if_pos h, if_pos (by omega)]
    · rw [if_neg h, if_neg (by omega)]
def RtC (c : Co) : Prop := ∃ d, rightC c d = true
theorem RtC.ok {c : Co} (h : RtC c) : okC c = true := by obtain ⟨d, h⟩ := h; exact rightC_ok h
theorem RtC.pairs {c x : Co} (h : RtC c) (hx : x ∈ c.pairs) : RtC x := by
  obtain ⟨d, h⟩ := h
  cases d with
  | zero => rw [rightC_zero] at h; cases h
  | succ d => rw [rightC_succ] at h; simp only [Bool.and_eq_true] at h; exact ⟨d, rightCs_mem h.1.2 hx⟩
theorem RtC.funs {c x : Co} (h : RtC c) (hx : x ∈ c.funs) : RtC x := by
  obtain ⟨d, h⟩ := h
  cases d with
  | zero => rw [rightC_zero] at h; cases h
  | succ d => rw [rightC_succ] at h; simp only [Bool.and_eq_true] at h; exact ⟨d, rightCs_mem h.2 hx⟩
theorem lab_iff {n : Int} : lab n = true ↔ 0 ≤ n ∧ n ≤ 99 := by simp [lab]
theorem okC_lists {x : Co} {l : Int} (hl : lab l = true) (h : l ≠ 0 ∨ passC x = false) : okC (listsC x l) = true := by
  rw [okC_iff]
  refine ⟨?_, hl, hl, ?_⟩
  · refine six_all fun i _ => ?_
    show lab (if i = 4 then 0 else l) = true
    split
    · rfl
    · exact hl
  · show (0 : Int) ≤ 3 ∧ (3 : Int) ≤ 3 ∧ (0 : Int) ≤ (if l = 0 then 0 else 1) ∧ (if l = 0 then (0 : Int) else 1) ≤ 3 ∧ (([x].length : Nat) : Int) = pcntC 3 ∧ ((3 : Int) = 0 → l = 0) ∧ ((3 : Int) = 1 → l ≠ 0) ∧ ((3 : Int) = 2 → l = 0 ∧ anyA [x] = true) ∧ ((3 : Int) = 3 → l ≠ 0 ∨ anyA [x] = true) ∧ ((if l = 0 then (0 : Int) else 1) = 2 → ([] : List Co).length ≤ 9 ∧ anyA [] = true) ∧ ((if l = 0 then (0 : Int) else 1) ≠ 2 → ([] : List Co).length = 0) ∧ ((if l = 0 then (0 : Int) else 1) = 1 ↔ l ≠ 0)
    have ha : anyA [x] = !passC x := by simp [anyA]
    rw [ha]
    by_cases h0 : l = 0
    · simp [h0] at h
      simp [h0, h, pcntC]
    · simp [h0, pcntC]
theorem RtC.car {c : Co} (h : RtC c) (hp : 2 ≤ c.pair) : RtC (carC c) ∧ szC (carC c) < szC c := by
  have hm : carC c ∈ c.pairs := by
    have hf := okC_facts h.ok
    unfold carC; rw [if_neg (by omega)]
    rcases (show c.pair = 2 ∨ c.pair = 3 by omega) with q | q
    · obtain ⟨x, y, e⟩ := pairs2 h.ok q; rw [e]; simp
    · obtain ⟨x, e⟩ := pairs3 h.ok q; rw [e]; simp
  exact ⟨h.pairs hm, szC_pairs hm⟩
theorem cdr3_eq {c : Co} (h : RtC c) (hp : c.pair = 3) : ∃ x, c.pairs = [x] ∧ cdrC c = listsC x c.plab ∧ (c.plab ≠ 0 ∨ passC x = false) ∧ lab c.plab = true := by
  obtain ⟨x, e⟩ := pairs3 h.ok hp
  obtain ⟨q1, q2, q3, q4, q5, q6, q7, q8, q9, q10, q11, q12, _⟩ := (okC_iff c).1 h.ok
  refine ⟨x, e, ?_, ?_, q2⟩
  · unfold cdrC; rw [if_neg (by omega), if_pos hp, e]; rfl
  · have := q12 hp
    rw [e] at this
    simpa [anyA] using this
theorem RtC.cdr {c : Co} (h : RtC c) (hp : 2 ≤ c.pair) : RtC (cdrC c) ∧ szC (cdrC c) ≤ szC c ∧ (c.pair = 2 → szC (cdrC c) < szC c) := by
  have hf := okC_facts h.ok
  rcases (show c.pair = 2 ∨ c.pair = 3 by omega) with q | q
  · obtain ⟨x, y, e⟩ := pairs2 h.ok q
    have e2 : cdrC c = y := by unfold cdrC; rw [if_pos q, e]; rfl
    have hm : y ∈ c.pairs := by rw [e]; simp
    rw [e2]
    exact ⟨h.pairs hm, Nat.le_of_lt (szC_pairs hm), fun _ => szC_pairs hm⟩
  · obtain ⟨x, e, e2, e3, e4⟩ := cdr3_eq h q
    have hm : x ∈ c.pairs := by rw [e]; simp
    refine ⟨?_, ?_, fun q2 => by omega⟩
    · rw [e2]
      obtain ⟨d, hd⟩ := h
      cases d with
      | zero => rw [rightC_zero] at hd; cases hd
      | succ d =>
        refine ⟨d + 1, ?_⟩
        rw [rightC_succ] at hd ⊢
        simp only [Bool.and_eq_true] at hd ⊢
        refine ⟨⟨okC_lists e4 e3, ?_⟩, rfl⟩
        show rightCs [x] d = true
        rw [← e]; exact hd.1.2
    · rw [e2]
      have e5 : szC (listsC x c.plab) = 1 + (szC x + 0) + 0 := rfl
      have e6 : szCs c.pairs = szC x + 0 := by rw [e]; rfl
      rw [e5, szC_eq c, e6]; omega
end Go.Ev
namespace Go.Ev
set_option linter.unusedVariables false
set_option linter.unusedSimpArgs false
open Go
def bit0 (f : Int) (i : Nat) : Bool := decide (f / 2 ^ i % 2 = 0)
def pairG (up : Bool) (l p : Int) (qs : List Co) : Int × Int × List Co :=
  if p = 0 then (if up then (1, l, []) else (0, 0, []))
  else if p = 1 then (if anyA qs then (2, 0, qs) else (0, 0, []))
  else if up then (3, l, qs) else if anyA qs then (3, 0, qs) else (0, 0, [])
def funG (up : Bool) (l g : Int) (ds : List Co) : Int × Int × List Co :=
  if g = 0 then (if up then (1, l, []) else (0, 0, []))
  else if g = 1 then (if anyA ds then (2, 0, ds) else (0, 0, []))
  else (0, 0, [])
def flatG (up : Bool) (l f : Int) (i : Nat) : Int := if up && bit0 f i then l else 0
def goK (up : Bool) (l : Int) (a : Bool) (f p : Int) (qs : List Co) (g : Int) (ds : List Co) : Co :=
  if up && a then zeroC else .mk (flatG up l f) (pairG up l p qs).1 (pairG up l p qs).2.1 (pairG up l p qs).2.2 (funG up l g ds).1 (funG up l g ds).2.1 (funG up l g ds).2.2
mutual
def goC : Bool → Int → Ty → Co
  | up, l, .mk a f p ps g gs => goK up l a f p (goCs up l ps) g (goFs up l gs)
def goCs : Bool → Int → List Ty → List Co
  | _, _, [] => []
  | up, l, x :: xs => goC up l x :: goCs up l xs
def goFs : Bool → Int → List Ty → List Co
  | _, _, [] => []
  | up, l, x :: xs => (if xs.length = 0 then goC up l x else goC (!up) l x) :: goFs up l xs
end
theorem goC_eq (up : Bool) (l : Int) (t : Ty) : goC up l t = goK up l t.all t.flat t.pair (goCs up l t.pairs) t.fn (goFs up l t.funs) := by cases t; rfl
theorem goCs_map (up : Bool) (l : Int) : ∀ ts : List Ty, goCs up l ts = ts.map (goC up l)
  | [] => rfl
  | x :: xs => by simp only [goCs, List.map_cons, goCs_map up l xs]
theorem goFs_len (up : Bool) (l : Int) : ∀ ts : List Ty, (goFs up l ts).length = ts.length
  | [] => rfl
  | x :: xs => by simp only [goFs, List.length_cons, goFs_len up l xs]
theorem goFs_get (up : Bool) (l : Int) : ∀ (ts : List Ty) (i : Nat) (x : Ty), ts[i]? = some x → (goFs up l ts)[i]? = some (if i + 1 = ts.length then goC up l x else goC (!up) l x)
  | [], _, _, h => by simp at h
  | y :: ys, 0, x, h => by
    simp at h; subst h
    simp only [goFs, List.getElem?_cons_zero, List.length_cons]
    by_cases h : ys.length = 0
    · rw [if_pos h, if_pos (by omega)]
    · rw [if_neg h, if_neg (by omega)]
  | y :: ys, i + 1, x, h => by
    simp only [goFs, List.getElem?_cons_succ, List.length_cons] at h ⊢
    rw [goFs_get up l ys i x h]
    congr 1
    by_cases h : i + 1 = ys.length
    · rw [if_pos h, if_pos (by omega)]
    · rw [if_neg h, if_neg (by omega)]
theorem goFs_mem (up : Bool) (l : Int) : ∀ {ts : List Ty} {c : Co}, c ∈ goFs up l ts → ∃ x, x ∈ ts ∧ ∃ u, c = goC u l x
  | x :: xs, c, h => by
    simp only [goFs, List.mem_cons] at h
    rcases h with rfl | h
    · split
      · exact ⟨x, by simp, _, rfl⟩
      · exact ⟨x, by simp, _, rfl⟩
    · obtain ⟨y, hy, u, e⟩ := goFs_mem up l h
      exact ⟨y, by simp [hy], u, e⟩
theorem lab_l {l : Int} (h : 1 ≤ l ∧ l ≤ 99) : lab l = true := by rw [lab_iff]; omega
theorem okC_zero : okC zeroC = true := by rfl
theorem pairG_ok {t : Ty} (ht : okT t = true) (up : Bool) {l : Int} (hl : 1 ≤ l ∧ l ≤ 99) (qs : List Co) (hq : qs.length = t.pairs.length) :
    lab (pairG up l t.pair qs).2.1 = true ∧ 0 ≤ (pairG up l t.pair qs).1 ∧ (pairG up l t.pair qs).1 ≤ 3 ∧ ((pairG up l t.pair qs).2.2.length : Int) = pcntC (pairG up l t.pair qs).1 ∧
      ((pairG up l t.pair qs).1 = 0 → (pairG up l t.pair qs).2.1 = 0) ∧ ((pairG up l t.pair qs).1 = 1 → (pairG up l t.pair qs).2.1 ≠ 0) ∧
      ((pairG up l t.pair qs).1 = 2 → (pairG up l t.pair qs).2.1 = 0 ∧ anyA (pairG up l t.pair qs).2.2 = true) ∧ ((pairG up l t.pair qs).1 = 3 → (pairG up l t.pair qs).2.1 ≠ 0 ∨ anyA (pairG up l t.pair qs).2.2 = true) := by
  have hf := okT_facts ht
  have hlab := lab_l hl
  rcases (show t.pair = 0 ∨ t.pair = 1 ∨ t.pair = 2 by omega) with h | h | h
  · cases up <;> simp [pairG, h, pcntC, hlab, lab] <;> omega
  · obtain ⟨x, y, e⟩ := hf.2.2.2.2.2.1 h
    rw [e] at hq
    by_cases ha : anyA qs = true
    · simp [pairG, h, ha, pcntC, hq, lab]
    · simp [pairG, h, ha, pcntC, lab]
  · obtain ⟨x, e⟩ := hf.2.2.2.2.2.2.1 h
    rw [e] at hq
    cases up
    · by_cases ha : anyA qs = true
      · simp [pairG, h, ha, pcntC, hq, lab]
      · simp [pairG, h, ha, pcntC, lab]
    · simp [pairG, h, pcntC, hq, hlab]; omega
theorem funG_ok {t : Ty} (ht : okT t = true) (up : Bool) {l : Int} (hl : 1 ≤ l ∧ l ≤ 99) (ds : List Co) (hd : ds.length = t.funs.length) :
    lab (funG up l t.fn ds).2.1 = true ∧ 0 ≤ (funG up l t.fn ds).1 ∧ (funG up l t.fn ds).1 ≤ 3 ∧
      ((funG up l t.fn ds).1 = 2 → (funG up l t.fn ds).2.2.length ≤ 9 ∧ anyA (funG up l t.fn ds).2.2 = true) ∧ ((funG up l t.fn ds).1 ≠ 2 → (funG up l t.fn ds).2.2.length = 0) ∧ ((funG up l t.fn ds).1 = 1 ↔ (funG up l t.fn ds).2.1 ≠ 0) := by
  have hf := okT_facts ht
  have hlab := lab_l hl
  rcases (show t.fn = 0 ∨ t.fn = 1 ∨ t.fn = 2 by omega) with h | h | h
  · cases up <;> simp [funG, h, hlab, lab] <;> omega
  · have := (hf.2.2.2.2.2.2.2.1 h).2
    by_cases ha : anyA ds = true
    · simp [funG, h, ha, lab]; omega
    · simp [funG, h, ha, lab]
  · simp [funG, h, lab]
theorem goC_ok {t : Ty} (ht : okT t = true) (up : Bool) {l : Int} (hl : 1 ≤ l ∧ l ≤ 99) : okC (goC up l t) = true := by
  rw [goC_eq, goK]
  split
  · exact okC_zero
  · obtain ⟨p1, p2, p3, p4, p5, p6, p7, p8⟩ := pairG_ok ht up hl (goCs up l t.pairs) (by rw [goCs_map, List.length_map])
    obtain ⟨f1, f2, f3, f4, f5, f6⟩ := funG_ok ht up hl (goFs up l t.funs) (goFs_len up l t.funs)
    rw [okC_iff]
    refine ⟨six_all fun i _ => ?_, p1, f1, p2, p3, f2, f3, p4, p5, p6, p7, p8, f4, f5, f6⟩
    show lab (flatG up l t.flat i) = true
    unfold flatG; split
    · exact lab_l hl
    · rfl
theorem pairG_mem {up : Bool} {l p : Int} {qs : List Co} {c : Co} (h : c ∈ (pairG up l p qs).2.2) : c ∈ qs := by
  revert h; unfold pairG
  split
  · split <;> simp
  · split
    · split <;> simp
    · split
      · simp
      · split <;> simp
theorem and_bit0 {f : Int} (h0 : 0 ≤ f) (h1 : f ≤ 63) {i : Nat} (hi : i < 6) : decide (IntKind.i64.wrap (((BitVec.ofInt IntKind.i64.bits f &&& BitVec.ofInt IntKind.i64.bits (2 ^ i)).toNat : Nat) : Int) = 0) = bit0 f i := by
  obtain ⟨k, rfl⟩ : ∃ k : Fin 64, f = (k.val : Int) := ⟨⟨f.toNat, by omega⟩, by simp; omega⟩
  have key : ∀ (k : Fin 64) (i : Fin 6), decide (IntKind.i64.wrap (((BitVec.ofInt IntKind.i64.bits (k.val : Int) &&& BitVec.ofInt IntKind.i64.bits (2 ^ i.val)).toNat : Nat) : Int) = 0) = bit0 (k.val : Int) i.val := by decide +kernel
  exact key k ⟨i, hi⟩
end Go.Ev
namespace Go.Ev.Seat
set_option linter.unusedVariables false
set_option linter.unusedSimpArgs false
open Go Go.Ev
set_option maxRecDepth 20000
def Sim (a b : Co) : Prop := encC a = encC b
theorem Sim.refl (a : Co) : Sim a a := rfl
theorem Sim.cells {a b : Co} (h : Sim a b) : cC a = cC b := by
  unfold Sim at h; rw [encC_eq, encC_eq] at h; exact AVal.agg.inj h
theorem Sim.of {a b : Co} (h : cC a = cC b) : Sim a b := by unfold Sim; rw [encC_eq, encC_eq]; exact congrArg AVal.agg h
theorem Sim.iff {a b : Co} : Sim a b ↔ (a.flat 0 = b.flat 0 ∧ a.flat 1 = b.flat 1 ∧ a.flat 2 = b.flat 2 ∧ a.flat 3 = b.flat 3 ∧ a.flat 4 = b.flat 4 ∧ a.flat 5 = b.flat 5) ∧ a.pair = b.pair ∧ a.plab = b.plab ∧ a.pairs.map encC = b.pairs.map encC ∧ a.fn = b.fn ∧ a.flab = b.flab ∧ a.funs.map encC = b.funs.map encC := by
  constructor
  · intro h
    have := h.cells
    simp only [cC, List.cons.injEq, AVal.int.injEq, AVal.lst.injEq, true_and, and_true] at this
    obtain ⟨h0, h1, h2, h3, h4, h5, h6, h7, h8, h9, h10, h11⟩ := this
    exact ⟨⟨h0, h1, h2, h3, h4, h5⟩, h6, h7, h8, h9, h10, h11⟩
  · rintro ⟨⟨h0, h1, h2, h3, h4, h5⟩, h6, h7, h8, h9, h10, h11⟩
    apply Sim.of
    simp only [cC, h0, h1, h2, h3, h4, h5, h6, h7, h8, h9, h10, h11]
theorem map_len {l m : List Co} (h : l.map encC = m.map encC) : l.length = m.length := by simpa using congrArg List.length h
theorem map_at {l m : List Co} (h : l.map encC = m.map encC) {i : Nat} {x : Co} (hx : l[i]? = some x) : ∃ y, m[i]? = some y ∧ Sim x y := by
  have h2 := congrArg (fun q : List AVal => q[i]?) h
  simp only [List.getElem?_map, hx, Option.map_some] at h2
  cases hy : m[i]? with
  | none => rw [hy] at h2; cases h2
  | some y => rw [hy] at h2; exact ⟨y, rfl, Option.some.inj h2⟩
theorem Sim.pass {a b : Co} (h : Sim a b) : passC a = passC b := by
  obtain ⟨⟨h0, h1, h2, h3, h4, h5⟩, h6, h7, h8, h9, h10, h11⟩ := Sim.iff.1 h
  simp only [passC, six, h0, h1, h2, h3, h4, h5, h6, h7, h9, h10, map_len h8, map_len h11]
theorem gEither (a b : Int) : g_r07_either a b = some (orI a b) := by
  unfold g_r07_either orI
  by_cases h : a = 0 <;> simp [h]
theorem gFlats (c : Co) : g_r07_flats c = some (six fun i => decide (c.flat i = 0)) := by
  unfold g_r07_flats g_r07_flats_j1 six
  by_cases h0 : c.flat 0 = 0 <;> by_cases h1 : c.flat 1 = 0 <;> by_cases h2 : c.flat 2 = 0 <;> by_cases h3 : c.flat 3 = 0 <;> by_cases h4 : c.flat 4 = 0 <;> by_cases h5 : c.flat 5 = 0 <;> simp [h0, h1, h2, h3, h4, h5]
theorem gPass (c : Co) : g_r07_Pass c = some (passC c) := by
  unfold g_r07_Pass
  rw [gFlats]
  unfold passC
  simp [Bool.and_assoc]
theorem gAll (l : List Co) (h : l.length < 100000000000) : g_r07_all l = some (l.all passC) := by
  have key : ∀ (l : List Co) (i : Nat), g_r07_all_l2 l i = some (l.all passC) := by
    intro l
    induction l with
    | nil => intro i; rfl
    | cons x xs ih =>
      intro i
      rw [g_r07_all_l2, gPass, List.all_cons]
      cases h : passC x
      · simp
      · simpa using ih (i + 1)
  unfold g_r07_all
  rw [okLen_of h, key]; rfl
theorem bitQ {f : Int} (h0 : 0 ≤ f) (h1 : f ≤ 63) (p : Int) (i : Nat) (hp : p = 2 ^ i) (hi : i < 6) : decide (Int.tmod (IntKind.wrap .i64 (Int.tdiv f p)) 2 = 0) = bit0 f i := by
  have h2 := two_pow_lt hi
  rw [← hp] at h2
  have e0 : Int.tdiv f p = f / p := Int.tdiv_eq_ediv_of_nonneg h0
  have e1 : 0 ≤ f / p := Int.ediv_nonneg h0 (by omega)
  have e2 : f / p ≤ f := Int.ediv_le_self _ h0
  rw [e0, kw_i64_id (by omega) (by omega), Int.tmod_eq_emod_of_nonneg e1]
  unfold bit0
  rw [hp]
theorem idx0 {α : Type} (x : α) (l : List α) : idx (x :: l) 0 = some x := rfl
theorem idx1 {α : Type} (x y : α) (l : List α) : idx (x :: y :: l) 1 = some y := rfl
section
variable {F1 F2 : Ty → Int → Option Co} {t : Ty} {lb : Int}
theorem gTo_flats (hf : 0 ≤ t.flat ∧ t.flat ≤ 63) (ha : t.all = false) : g_r07_To_b F1 F2 t lb = g_r07_To_j6 F1 F2 t lb (flatG true lb t.flat 0) (flatG true lb t.flat 1) (flatG true lb t.flat 2) (flatG true lb t.flat 3) (flatG true lb t.flat 4) (flatG true lb t.flat 5) := by
  have e : ∀ i, flatG true lb t.flat i = cond (bit0 t.flat i) lb 0 := by intro i; unfold flatG; cases bit0 t.flat i <;> rfl
  unfold g_r07_To_b g_r07_To_j12 g_r07_To_j11 g_r07_To_j10 g_r07_To_j9 g_r07_To_j8 g_r07_To_j7
  simp only [ha, cond_false, bitQ hf.1 hf.2 1 0 rfl (by omega), bitQ hf.1 hf.2 2 1 rfl (by omega), bitQ hf.1 hf.2 4 2 rfl (by omega), bitQ hf.1 hf.2 8 3 rfl (by omega), bitQ hf.1 hf.2 16 4 rfl (by omega), bitQ hf.1 hf.2 32 5 rfl (by omega), e]
  cases bit0 t.flat 0 <;> cases bit0 t.flat 1 <;> cases bit0 t.flat 2 <;> cases bit0 t.flat 3 <;> cases bit0 t.flat 4 <;> cases bit0 t.flat 5 <;> rfl
theorem takeS {l : List Co} {i : Nat} {x : Co} (h : l[i]? = some x) : (l.take (i + 1)).map encC = (l.take i).map encC ++ [encC x] := by
  rw [List.take_add_one, h]; simp
theorem simAny {l m : List Co} (h : l.map encC = m.map encC) : anyA l = anyA m := by
  unfold anyA
  induction l generalizing m with
  | nil => cases m with
    | nil => rfl
    | cons => simp at h
  | cons x l ih => cases m with
    | nil => simp at h
    | cons y m =>
      simp only [List.map_cons, List.cons.injEq] at h
      have e := Sim.pass (a := x) (b := y) h.1
      simp only [List.any_cons, ih h.2, e]
theorem all_any (l : List Co) : l.all passC = !anyA l := by
  unfold anyA; rw [List.all_eq_not_any_not]
variable {a0 a1 a2 a3 a4 a5 p q : Int} {ps : List Co}
theorem gTo_funs (hok : okT t = true) (h1 : ∀ x, x ∈ t.funs → ∃ r, F1 x lb = some r ∧ Sim r (goC true lb x)) (h2 : ∀ x, x ∈ t.funs → ∃ r, F2 x lb = some r ∧ Sim r (goC false lb x)) :
    ∃ f m gs, g_r07_To_j5 F1 F2 t lb a0 a1 a2 a3 a4 a5 p q ps = some (.mk (sixF a0 a1 a2 a3 a4 a5) p q ps f m gs) ∧ f = (funG true lb t.fn (goFs true lb t.funs)).1 ∧ m = (funG true lb t.fn (goFs true lb t.funs)).2.1 ∧ gs.map encC = (funG true lb t.fn (goFs true lb t.funs)).2.2.map encC := by
  have hf := okT_facts hok
  have hL := goFs_len true lb t.funs
  unfold g_r07_To_j5 g_r07_To_j4
  rcases (show t.fn = 0 ∨ t.fn = 1 ∨ t.fn = 2 by omega) with h | h | h
  · exact ⟨1, lb, [], by simp [h, g_r07_To_j1], by simp [h, funG], by simp [h, funG], by simp [h, funG]⟩
  · have hl := hf.2.2.2.2.2.2.2.1 h
    have hw : Int.toNat (IntKind.wrap .i64 (((List.length t.funs : Nat) : Int) - 1)) = t.funs.length - 1 := by rw [kw_i64_id (by omega) (by omega)]; omega
    have loop : ∀ (rest : List Nat) (i : Nat) (acc : List Co), i + rest.length = t.funs.length - 1 → acc.map encC = ((goFs true lb t.funs).take i).map encC →
        ∃ acc', acc'.map encC = ((goFs true lb t.funs).take (t.funs.length - 1)).map encC ∧ g_r07_To_l3 F1 F2 t lb a0 a1 a2 a3 a4 a5 p q ps 0 0 rest i acc = g_r07_To_j2 F1 t lb a0 a1 a2 a3 a4 a5 p q ps 0 0 acc' := by
      intro rest
      induction rest with
      | nil => intro i acc hi he; simp at hi; subst hi; exact ⟨acc, he, rfl⟩
      | cons y rest ih =>
        intro i acc hi he
        simp only [List.length_cons] at hi
        obtain ⟨x, hx⟩ : ∃ x, t.funs[i]? = some x := ⟨_, List.getElem?_eq_getElem (by omega)⟩
        obtain ⟨z, hz, hs⟩ := h2 x (List.mem_of_getElem? hx)
        have hg := goFs_get true lb _ i x hx
        rw [if_neg (by omega)] at hg
        have hacc : acc.length ≤ 10 := by have := congrArg List.length he; simp at this; omega
        obtain ⟨acc', k1, k2⟩ := ih (i + 1) (acc ++ [z]) (by omega) (by rw [List.map_append, he, takeS hg]; exact congrArg (fun q => _ ++ [q]) hs)
        refine ⟨acc', k1, ?_⟩
        rw [g_r07_To_l3, idx_nat, hx, Option.bind_some, hz, Option.bind_some, catL_of (by simp; omega), Option.bind_some]
        exact k2
    obtain ⟨acc, k1, k2⟩ := loop (List.range (t.funs.length - 1)) 0 [] (by simp) (by simp)
    obtain ⟨x, hx⟩ : ∃ x, t.funs[t.funs.length - 1]? = some x := ⟨_, List.getElem?_eq_getElem (by omega)⟩
    obtain ⟨z, hz, hs⟩ := h1 x (List.mem_of_getElem? hx)
    have hg := goFs_get true lb _ _ x hx
    rw [if_pos (by omega)] at hg
    have hacc : acc.length ≤ 10 := by have := congrArg List.length k1; simp at this; omega
    have hfull : (acc ++ [z]).map encC = (goFs true lb t.funs).map encC := by
      have e : (goFs true lb t.funs) = (goFs true lb t.funs).take (t.funs.length - 1 + 1) := by rw [List.take_of_length_le (by omega)]
      rw [e, takeS hg, List.map_append, k1]
      exact congrArg (fun q => _ ++ [q]) hs
    have hi2 : idx t.funs (IntKind.wrap .i64 (((List.length t.funs : Nat) : Int) - 1)) = some x := by
      rw [show IntKind.wrap .i64 (((List.length t.funs : Nat) : Int) - 1) = ((t.funs.length - 1 : Nat) : Int) by rw [kw_i64_id (by omega) (by omega)]; omega, idx_nat, hx]
    have hany := simAny hfull
    have hj2 : g_r07_To_j2 F1 t lb a0 a1 a2 a3 a4 a5 p q ps 0 0 acc = cond (anyA (acc ++ [z])) (g_r07_To_j1 a0 a1 a2 a3 a4 a5 p q ps 0 2 (acc ++ [z])) (g_r07_To_j1 a0 a1 a2 a3 a4 a5 p q ps 0 0 []) := by
      unfold g_r07_To_j2
      rw [hi2, Option.bind_some, hz, Option.bind_some, catL_of (by simp; omega), Option.bind_some, gAll _ (by simp; omega), Option.bind_some, all_any, Bool.not_not]
    have h0 : t.fn ≠ 0 := by omega
    have hgo : (okLen (List.range (t.funs.length - 1))) = true := okLen_of (by simp; omega)
    simp only [h, hw, hgo, k2, hj2]
    cases ha : anyA (acc ++ [z]) with
    | true =>
      rw [ha] at hany
      exact ⟨2, 0, acc ++ [z], by simp [g_r07_To_j1], by simp [funG, ← hany], by simp [funG, ← hany], by simpa [funG, ← hany] using hfull⟩
    | false =>
      rw [ha] at hany
      exact ⟨0, 0, [], by simp [g_r07_To_j1], by simp [funG, ← hany], by simp [funG, ← hany], by simp [funG, ← hany]⟩
  · exact ⟨0, 0, [], by simp [h, g_r07_To_j1], by simp [h, funG], by simp [h, funG], by simp [h, funG]⟩
theorem sim_mk {f : Nat → Int} {p q f' m : Int} {ps qs gs hs : List Co} (h1 : ps.map encC = qs.map encC) (h2 : gs.map encC = hs.map encC) : Sim (.mk (sixF (f 0) (f 1) (f 2) (f 3) (f 4) (f 5)) p q ps f' m gs) (.mk f p q qs f' m hs) :=
  Sim.iff.2 ⟨⟨rfl, rfl, rfl, rfl, rfl, rfl⟩, rfl, rfl, h1, rfl, rfl, h2⟩
theorem goC_mk {up : Bool} {l : Int} {t : Ty} (h : (up && t.all) = false) : goC up l t = .mk (flatG up l t.flat) (pairG up l t.pair (goCs up l t.pairs)).1 (pairG up l t.pair (goCs up l t.pairs)).2.1 (pairG up l t.pair (goCs up l t.pairs)).2.2 (funG up l t.fn (goFs up l t.funs)).1 (funG up l t.fn (goFs up l t.funs)).2.1 (funG up l t.fn (goFs up l t.funs)).2.2 := by
  rw [goC_eq, goK, h]; rfl
theorem gTo (hok : okT t = true) (h1 : ∀ x, (x ∈ t.pairs ∨ x ∈ t.funs) → ∃ r, F1 x lb = some r ∧ Sim r (goC true lb x)) (h2 : ∀ x, x ∈ t.funs → ∃ r, F2 x lb = some r ∧ Sim r (goC false lb x)) :
    ∃ r, g_r07_To_b F1 F2 t lb = some r ∧ Sim r (goC true lb t) := by
  have hf := okT_facts hok
  cases ha : t.all with
  | true =>
    refine ⟨_, by unfold g_r07_To_b; rw [ha]; rfl, ?_⟩
    rw [goC_eq]; simp only [goK, ha]
    exact Sim.iff.2 ⟨⟨rfl, rfl, rfl, rfl, rfl, rfl⟩, rfl, rfl, rfl, rfl, rfl, rfl⟩
  | false =>
    rw [gTo_flats hf.1 ha, goC_mk (by rw [ha]; rfl)]
    have fin : ∀ (p q : Int) (ps : List Co), p = (pairG true lb t.pair (goCs true lb t.pairs)).1 → q = (pairG true lb t.pair (goCs true lb t.pairs)).2.1 → ps.map encC = (pairG true lb t.pair (goCs true lb t.pairs)).2.2.map encC →
        ∃ r, g_r07_To_j5 F1 F2 t lb (flatG true lb t.flat 0) (flatG true lb t.flat 1) (flatG true lb t.flat 2) (flatG true lb t.flat 3) (flatG true lb t.flat 4) (flatG true lb t.flat 5) p q ps = some r ∧ Sim r (.mk (flatG true lb t.flat) (pairG true lb t.pair (goCs true lb t.pairs)).1 (pairG true lb t.pair (goCs true lb t.pairs)).2.1 (pairG true lb t.pair (goCs true lb t.pairs)).2.2 (funG true lb t.fn (goFs true lb t.funs)).1 (funG true lb t.fn (goFs true lb t.funs)).2.1 (funG true lb t.fn (goFs true lb t.funs)).2.2) := by
      rintro p q ps rfl rfl h5
      obtain ⟨f, m, gs, k1, rfl, rfl, k4⟩ := gTo_funs (lb := lb) (a0 := flatG true lb t.flat 0) (a1 := flatG true lb t.flat 1) (a2 := flatG true lb t.flat 2) (a3 := flatG true lb t.flat 3) (a4 := flatG true lb t.flat 4) (a5 := flatG true lb t.flat 5) (p := (pairG true lb t.pair (goCs true lb t.pairs)).1) (q := (pairG true lb t.pair (goCs true lb t.pairs)).2.1) (ps := ps) hok (fun x hx => h1 x (.inr hx)) h2
      exact ⟨_, k1, sim_mk h5 k4⟩
    unfold g_r07_To_j6
    rcases (show t.pair = 0 ∨ t.pair = 1 ∨ t.pair = 2 by omega) with h | h | h
    · simp only [h]
      obtain ⟨r, k1, k2⟩ := fin 1 lb [] (by simp [h, pairG]) (by simp [h, pairG]) (by simp [h, pairG])
      exact ⟨r, by simpa using k1, by simpa [h] using k2⟩
    · obtain ⟨x, y, e⟩ := hf.2.2.2.2.2.1 h
      obtain ⟨rx, x1, x2⟩ := h1 x (.inl (by rw [e]; simp))
      obtain ⟨ry, y1, y2⟩ := h1 y (.inl (by rw [e]; simp))
      have hm : ([rx, ry] : List Co).map encC = (goCs true lb t.pairs).map encC := by rw [e, goCs_map]; simp only [List.map_cons, List.map_nil]; rw [show encC rx = _ from x2, show encC ry = _ from y2]
      have hany := simAny hm
      simp only [h, e, idx0, idx1, Option.bind_some, x1, y1, gAll [rx, ry] (by simp), all_any]
      cases ha2 : anyA [rx, ry] with
      | true =>
        rw [ha2] at hany
        obtain ⟨r, k1, k2⟩ := fin 2 0 [rx, ry] (by simp [h, pairG, ← hany]) (by simp [h, pairG, ← hany]) (by simpa [h, pairG, ← hany] using hm)
        exact ⟨r, by simpa using k1, by simpa [h, e] using k2⟩
      | false =>
        rw [ha2] at hany
        obtain ⟨r, k1, k2⟩ := fin 0 0 [] (by simp [h, pairG, ← hany]) (by simp [h, pairG, ← hany]) (by simp [h, pairG, ← hany])
        exact ⟨r, by simpa using k1, by simpa [h, e] using k2⟩
    · obtain ⟨x, e⟩ := hf.2.2.2.2.2.2.1 h
      obtain ⟨rx, x1, x2⟩ := h1 x (.inl (by rw [e]; simp))
      have hm : ([rx] : List Co).map encC = (goCs true lb t.pairs).map encC := by rw [e, goCs_map]; simp only [List.map_cons, List.map_nil]; rw [show encC rx = _ from x2]
      simp only [h, e, idx0, Option.bind_some, x1]
      obtain ⟨r, k1, k2⟩ := fin 3 lb [rx] (by simp [h, pairG]) (by simp [h, pairG]) (by simpa [h, pairG] using hm)
      exact ⟨r, by simpa using k1, by simpa [h, e] using k2⟩
theorem gFrom_funs (hok : okT t = true) (h1 : ∀ x, x ∈ t.funs → ∃ r, F1 x lb = some r ∧ Sim r (goC true lb x)) (h2 : ∀ x, x ∈ t.funs → ∃ r, F2 x lb = some r ∧ Sim r (goC false lb x)) :
    ∃ f gs, g_r07_From_j4 F1 F2 t lb p ps = some (.mk (sixF 0 0 0 0 0 0) p 0 ps f 0 gs) ∧ f = (funG false lb t.fn (goFs false lb t.funs)).1 ∧ 0 = (funG false lb t.fn (goFs false lb t.funs)).2.1 ∧ gs.map encC = (funG false lb t.fn (goFs false lb t.funs)).2.2.map encC := by
  have hf := okT_facts hok
  have hL := goFs_len false lb t.funs
  unfold g_r07_From_j4
  rcases (show t.fn = 0 ∨ t.fn = 1 ∨ t.fn = 2 by omega) with h | h | h
  · exact ⟨0, [], by simp [h, g_r07_From_j1], by simp [h, funG], by simp [h, funG], by simp [h, funG]⟩
  · have hl := hf.2.2.2.2.2.2.2.1 h
    have hw : Int.toNat (IntKind.wrap .i64 (((List.length t.funs : Nat) : Int) - 1)) = t.funs.length - 1 := by rw [kw_i64_id (by omega) (by omega)]; omega
    have loop : ∀ (rest : List Nat) (i : Nat) (acc : List Co), i + rest.length = t.funs.length - 1 → acc.map encC = ((goFs false lb t.funs).take i).map encC →
        ∃ acc', acc'.map encC = ((goFs false lb t.funs).take (t.funs.length - 1)).map encC ∧ g_r07_From_l3 F1 F2 t lb p ps rest i acc = g_r07_From_j2 F2 t lb p ps acc' := by
      intro rest
      induction rest with
      | nil => intro i acc hi he; simp at hi; subst hi; exact ⟨acc, he, rfl⟩
      | cons y rest ih =>
        intro i acc hi he
        simp only [List.length_cons] at hi
        obtain ⟨x, hx⟩ : ∃ x, t.funs[i]? = some x := ⟨_, List.getElem?_eq_getElem (by omega)⟩
        obtain ⟨z, hz, hs⟩ := h1 x (List.mem_of_getElem? hx)
        have hg := goFs_get false lb _ i x hx
        rw [if_neg (by omega)] at hg
        have hacc : acc.length ≤ 10 := by have := congrArg List.length he; simp at this; omega
        obtain ⟨acc', k1, k2⟩ := ih (i + 1) (acc ++ [z]) (by omega) (by rw [List.map_append, he, takeS hg]; exact congrArg (fun q => _ ++ [q]) hs)
        refine ⟨acc', k1, ?_⟩
        rw [g_r07_From_l3, idx_nat, hx, Option.bind_some, hz, Option.bind_some, catL_of (by simp; omega), Option.bind_some]
        exact k2
    obtain ⟨acc, k1, k2⟩ := loop (List.range (t.funs.length - 1)) 0 [] (by simp) (by simp)
    obtain ⟨x, hx⟩ : ∃ x, t.funs[t.funs.length - 1]? = some x := ⟨_, List.getElem?_eq_getElem (by omega)⟩
    obtain ⟨z, hz, hs⟩ := h2 x (List.mem_of_getElem? hx)
    have hg := goFs_get false lb _ _ x hx
    rw [if_pos (by omega)] at hg
    have hacc : acc.length ≤ 10 := by have := congrArg List.length k1; simp at this; omega
    have hfull : (acc ++ [z]).map encC = (goFs false lb t.funs).map encC := by
      have e : (goFs false lb t.funs) = (goFs false lb t.funs).take (t.funs.length - 1 + 1) := by rw [List.take_of_length_le (by omega)]
      rw [e, takeS hg, List.map_append, k1]
      exact congrArg (fun q => _ ++ [q]) hs
    have hi2 : idx t.funs (IntKind.wrap .i64 (((List.length t.funs : Nat) : Int) - 1)) = some x := by
      rw [show IntKind.wrap .i64 (((List.length t.funs : Nat) : Int) - 1) = ((t.funs.length - 1 : Nat) : Int) by rw [kw_i64_id (by omega) (by omega)]; omega, idx_nat, hx]
    have hany := simAny hfull
    have hj2 : g_r07_From_j2 F2 t lb p ps acc = cond (anyA (acc ++ [z])) (g_r07_From_j1 p ps 2 (acc ++ [z])) (g_r07_From_j1 p ps 0 []) := by
      unfold g_r07_From_j2
      rw [hi2, Option.bind_some, hz, Option.bind_some, catL_of (by simp; omega), Option.bind_some, gAll _ (by simp; omega), Option.bind_some, all_any, Bool.not_not]
    have hgo : (okLen (List.range (t.funs.length - 1))) = true := okLen_of (by simp; omega)
    simp only [h, hw, hgo, k2, hj2]
    cases ha : anyA (acc ++ [z]) with
    | true =>
      rw [ha] at hany
      exact ⟨2, acc ++ [z], by simp [g_r07_From_j1], by simp [funG, ← hany], by simp [funG, ← hany], by simpa [funG, ← hany] using hfull⟩
    | false =>
      rw [ha] at hany
      exact ⟨0, [], by simp [g_r07_From_j1], by simp [funG, ← hany], by simp [funG, ← hany], by simp [funG, ← hany]⟩
  · exact ⟨0, [], by simp [h, g_r07_From_j1], by simp [h, funG], by simp [h, funG], by simp [h, funG]⟩
theorem gFrom (hok : okT t = true) (h1 : ∀ x, x ∈ t.funs → ∃ r, F1 x lb = some r ∧ Sim r (goC true lb x)) (h2 : ∀ x, (x ∈ t.pairs ∨ x ∈ t.funs) → ∃ r, F2 x lb = some r ∧ Sim r (goC false lb x)) :
    ∃ r, g_r07_From_b F1 F2 t lb = some r ∧ Sim r (goC false lb t) := by
  have hf := okT_facts hok
  rw [goC_mk (by rfl)]
  have fl : ∀ i, flatG false lb t.flat i = 0 := fun i => rfl
  have fin : ∀ (p : Int) (ps : List Co), p = (pairG false lb t.pair (goCs false lb t.pairs)).1 → 0 = (pairG false lb t.pair (goCs false lb t.pairs)).2.1 → ps.map encC = (pairG false lb t.pair (goCs false lb t.pairs)).2.2.map encC →
      ∃ r, g_r07_From_j4 F1 F2 t lb p ps = some r ∧ Sim r (.mk (flatG false lb t.flat) (pairG false lb t.pair (goCs false lb t.pairs)).1 (pairG false lb t.pair (goCs false lb t.pairs)).2.1 (pairG false lb t.pair (goCs false lb t.pairs)).2.2 (funG false lb t.fn (goFs false lb t.funs)).1 (funG false lb t.fn (goFs false lb t.funs)).2.1 (funG false lb t.fn (goFs false lb t.funs)).2.2) := by
    rintro p ps rfl h4 h5
    obtain ⟨f, gs, k1, rfl, k3, k4⟩ := gFrom_funs (lb := lb) (p := (pairG false lb t.pair (goCs false lb t.pairs)).1) (ps := ps) hok h1 (fun x hx => h2 x (.inr hx))
    exact ⟨_, k1, by rw [← h4, ← k3]; exact sim_mk (f := flatG false lb t.flat) h5 k4⟩
  unfold g_r07_From_b g_r07_From_j5
  rcases (show t.pair = 0 ∨ t.pair = 1 ∨ t.pair = 2 by omega) with h | h | h
  · simp only [h]
    obtain ⟨r, k1, k2⟩ := fin 0 [] (by simp [h, pairG]) (by simp [h, pairG]) (by simp [h, pairG])
    exact ⟨r, by simpa using k1, by simpa [h] using k2⟩
  · obtain ⟨x, y, e⟩ := hf.2.2.2.2.2.1 h
    obtain ⟨rx, x1, x2⟩ := h2 x (.inl (by rw [e]; simp))
    obtain ⟨ry, y1, y2⟩ := h2 y (.inl (by rw [e]; simp))
    have hm : ([rx, ry] : List Co).map encC = (goCs false lb t.pairs).map encC := by rw [e, goCs_map]; simp only [List.map_cons, List.map_nil]; rw [show encC rx = _ from x2, show encC ry = _ from y2]
    have hany := simAny hm
    simp only [h, e, idx0, idx1, Option.bind_some, x1, y1, gAll [rx, ry] (by simp), all_any]
    cases ha2 : anyA [rx, ry] with
    | true =>
      rw [ha2] at hany
      obtain ⟨r, k1, k2⟩ := fin 2 [rx, ry] (by simp [h, pairG, ← hany]) (by simp [h, pairG, ← hany]) (by simpa [h, pairG, ← hany] using hm)
      exact ⟨r, by simpa using k1, by simpa [h, e] using k2⟩
    | false =>
      rw [ha2] at hany
      obtain ⟨r, k1, k2⟩ := fin 0 [] (by simp [h, pairG, ← hany]) (by simp [h, pairG, ← hany]) (by simp [h, pairG, ← hany])
      exact ⟨r, by simpa using k1, by simpa [h, e] using k2⟩
  · obtain ⟨x, e⟩ := hf.2.2.2.2.2.2.1 h
    obtain ⟨rx, x1, x2⟩ := h2 x (.inl (by rw [e]; simp))
    have hm : ([rx] : List Co).map encC = (goCs false lb t.pairs).map encC := by rw [e, goCs_map]; simp only [List.map_cons, List.map_nil]; rw [show encC rx = _ from x2]
    have hany := simAny hm
    have ha1 : anyA [rx] = !passC rx := by simp [anyA]
    rw [ha1] at hany
    simp only [h, e, idx0, Option.bind_some, x1, gPass]
    cases ha2 : passC rx with
    | false =>
      rw [ha2] at hany
      obtain ⟨r, k1, k2⟩ := fin 3 [rx] (by simp [h, pairG, ← hany]) (by simp [h, pairG, ← hany]) (by simpa [h, pairG, ← hany] using hm)
      exact ⟨r, by simpa using k1, by simpa [h, e] using k2⟩
    | true =>
      rw [ha2] at hany
      obtain ⟨r, k1, k2⟩ := fin 0 [] (by simp [h, pairG, ← hany]) (by simp [h, pairG, ← hany]) (by simp [h, pairG, ← hany])
      exact ⟨r, by simpa using k1, by simpa [h, e] using k2⟩
end
theorem gGo (lb : Int) : ∀ (k : Nat) (t : Ty), szT t ≤ k → Rt t → (∃ r, (g_c_To_From k).1 t lb = some r ∧ Sim r (goC true lb t)) ∧ (∃ r, (g_c_To_From k).2 t lb = some r ∧ Sim r (goC false lb t))
  | 0, t, h, _ => by have := szT_pos t; omega
  | k + 1, t, h, rt => by
    have step : ∀ x, (x ∈ t.pairs ∨ x ∈ t.funs) → szT x ≤ k ∧ Rt x := by
      intro x hx
      rcases hx with hx | hx
      · exact ⟨by have := szT_pairs hx; omega, rt.pairs hx⟩
      · exact ⟨by have := szT_funs hx; omega, rt.funs hx⟩
    refine ⟨gTo rt.ok (fun x hx => (gGo lb k x (step x hx).1 (step x hx).2).1) (fun x hx => (gGo lb k x (step x (.inr hx)).1 (step x (.inr hx)).2).2), gFrom rt.ok (fun x hx => (gGo lb k x (step x (.inr hx)).1 (step x (.inr hx)).2).1) (fun x hx => (gGo lb k x (step x hx).1 (step x hx).2).2)⟩
end Go.Ev.Seat
namespace Go.Ev.Seat
set_option linter.unusedVariables false
set_option linter.unusedSimpArgs false
open Go Go.Ev
set_option maxRecDepth 20000
theorem gCar {c c' : Co} (h : Sim c c') (hr : RtC c') (hp : 2 ≤ c'.pair) : ∃ x, g_r07_Car c = some x ∧ Sim x (carC c') := by
  obtain ⟨_, h6, h7, h8, _⟩ := Sim.iff.1 h
  obtain ⟨_, _, _, q1, q2, _, _, q3, _⟩ := (okC_iff c').1 hr.ok
  have hl : 0 < c'.pairs.length := by
    rcases (show c'.pair = 2 ∨ c'.pair = 3 by omega) with e | e <;> rw [e] at q3 <;> simp [pcntC] at q3 <;> omega
  obtain ⟨y, hy⟩ : ∃ y, c'.pairs[0]? = some y := ⟨_, List.getElem?_eq_getElem hl⟩
  obtain ⟨x, hx, hs⟩ := map_at h8.symm hy
  refine ⟨x, ?_, ?_⟩
  · unfold g_r07_Car
    rw [show decide (c.pair < 2) = false from decide_eq_false (by omega), cond_false, show (0 : Int) = ((0 : Nat) : Int) from rfl, idx_nat, hx]; rfl
  · unfold carC
    rw [if_neg (by omega)]
    cases hc : c'.pairs with
    | nil => rw [hc] at hl; simp at hl
    | cons z zs => rw [hc] at hy; simp at hy; subst hy; exact hs.symm
theorem gLists {x x' : Co} {l : Int} (h : Sim x x') (hn : l ≠ 0 ∨ passC x' = false) : ∃ r, g_r07_lists x l = some r ∧ Sim r (listsC x' l) := by
  unfold g_r07_lists g_r07_lists_j1
  rw [gPass, h.pass, Option.bind_some]
  have hc : (passC x' && decide (l = 0)) = false := by rcases hn with h | h <;> simp [h]
  rw [hc, cond_false]
  by_cases hl : l = 0
  · subst hl
    refine ⟨_, by simp; rfl, ?_⟩
    exact Sim.iff.2 ⟨⟨rfl, rfl, rfl, rfl, rfl, rfl⟩, rfl, rfl, by simp [listsC, Co.pairs]; exact h, rfl, rfl, rfl⟩
  · refine ⟨Co.mk (sixF l l l l 0 l) 3 l [x] 1 l [], by simp [hl], ?_⟩
    exact Sim.iff.2 ⟨⟨rfl, rfl, rfl, rfl, rfl, rfl⟩, rfl, rfl, by simp [listsC, Co.pairs]; exact h, by simp [listsC, Co.fn, hl], rfl, rfl⟩
theorem gCdr {c c' : Co} (h : Sim c c') (hr : RtC c') (hp : 2 ≤ c'.pair) : ∃ x, g_r07_Cdr c = some x ∧ Sim x (cdrC c') := by
  obtain ⟨_, h6, h7, h8, _⟩ := Sim.iff.1 h
  obtain ⟨_, _, _, q1, q2, _, _, q3, _⟩ := (okC_iff c').1 hr.ok
  unfold g_r07_Cdr
  rw [show decide (c.pair < 2) = false from decide_eq_false (by omega), cond_false]
  rcases (show c'.pair = 2 ∨ c'.pair = 3 by omega) with e | e
  · rw [show decide (c.pair = 2) = true from decide_eq_true (by omega), cond_true]
    rw [e] at q3
    have hl : c'.pairs.length = 2 := by simp [pcntC] at q3; omega
    obtain ⟨y, hy⟩ : ∃ y, c'.pairs[1]? = some y := ⟨_, List.getElem?_eq_getElem (by omega)⟩
    obtain ⟨x, hx, hs⟩ := map_at h8.symm hy
    refine ⟨x, by rw [show (1 : Int) = ((1 : Nat) : Int) from rfl, idx_nat, hx]; rfl, ?_⟩
    unfold cdrC
    rw [if_pos e]
    obtain ⟨z, w, hzw⟩ := len2 hl
    rw [hzw] at hy ⊢; simp at hy; subst hy; exact hs.symm
  · rw [show decide (c.pair = 2) = false from decide_eq_false (by omega), cond_false]
    obtain ⟨y, e1, e2, e3, _⟩ := cdr3_eq hr e
    obtain ⟨x, hx, hs⟩ := map_at h8.symm (i := 0) (x := y) (by rw [e1]; rfl)
    rw [show (0 : Int) = ((0 : Nat) : Int) from rfl, idx_nat, hx, Option.bind_some, h7]
    obtain ⟨r, k1, k2⟩ := gLists (l := c'.plab) hs.symm e3
    exact ⟨r, by rw [k1]; rfl, by rw [e2]; exact k2⟩
section
variable {F : Co → Co → Option Co} {f : Co → Co → Co} {a a' b b' : Co} {a0 a1 a2 a3 a4 a5 p q : Int} {ps : List Co}
theorem gComp_funs (ha : Sim a a') (hb : Sim b b') (ra : RtC a') (rb : RtC b')
    (hF : ∀ x x' y y', Sim x x' → Sim y y' → ((x' ∈ a'.funs ∧ y' ∈ b'.funs) ∨ (x' ∈ b'.funs ∧ y' ∈ a'.funs)) → ∃ r, F x y = some r ∧ Sim r (f x' y')) :
    ∃ g m gs, g_r07_Compose_j5 F a b a0 a1 a2 a3 a4 a5 p q ps = some (.mk (sixF a0 a1 a2 a3 a4 a5) p q ps g m gs) ∧ g = (funP f a' b').1 ∧ m = (funP f a' b').2.1 ∧ gs.map encC = (funP f a' b').2.2.map encC := by
  obtain ⟨_, _, _, _, ha9, ha10, ha11⟩ := Sim.iff.1 ha
  obtain ⟨_, _, _, _, hb9, hb10, hb11⟩ := Sim.iff.1 hb
  obtain ⟨_, _, _, _, _, qa1, qa2, _, _, _, _, _, qa3, qa4, qa5⟩ := (okC_iff a').1 ra.ok
  obtain ⟨_, _, _, _, _, qb1, qb2, _, _, _, _, _, qb3, qb4, qb5⟩ := (okC_iff b').1 rb.ok
  have la := map_len ha11
  have lb := map_len hb11
  have laz : a'.fn ≠ 2 → a'.funs = [] := fun h => List.length_eq_zero_iff.1 (qa4 h)
  unfold g_r07_Compose_j5 g_r07_Compose_j4
  rw [ha9, hb9, ha10, hb10]
  by_cases c1 : a'.fn = 1 ∨ b'.fn = 0
  · have e1 : ((!decide (a'.fn = 1)) && (!decide (b'.fn = 0))) = false := by rcases c1 with h | h <;> simp [h]
    have e2 : ((decide (2 ≤ a'.fn)) && (decide (2 ≤ b'.fn))) = false := by rcases c1 with h | h <;> simp [h]
    rw [e1, e2, cond_false, cond_false]
    exact ⟨_, _, _, rfl, by rw [funP, if_pos c1], by rw [funP, if_pos c1], by rw [funP, if_pos c1]; exact ha11⟩
  · have e1 : ((!decide (a'.fn = 1)) && (!decide (b'.fn = 0))) = true := by simp; omega
    rw [e1, cond_true]
    by_cases c2 : b'.fn = 1 ∨ a'.fn = 0
    · have e2 : ((decide (2 ≤ a'.fn)) && (decide (2 ≤ b'.fn))) = false := by rcases c2 with h | h <;> simp [h]
      rw [e2, cond_false]
      exact ⟨_, _, _, rfl, by rw [funP, if_neg c1, if_pos c2], by rw [funP, if_neg c1, if_pos c2], by rw [funP, if_neg c1, if_pos c2]; exact hb11⟩
    · have e2 : ((decide (2 ≤ a'.fn)) && (decide (2 ≤ b'.fn))) = true := by simp; omega
      have fa : a'.flab = 0 := by
        have : ¬ a'.fn = 1 := by omega
        rw [qa5] at this; simpa using this
      have fb : b'.flab = 0 := by
        have : ¬ b'.fn = 1 := by omega
        rw [qb5] at this; simpa using this
      rw [e2, cond_true]
      by_cases c3 : a'.fn = 3 ∨ b'.fn = 3 ∨ a'.funs.length ≠ b'.funs.length
      · have e3 : (((decide (a'.fn = 2)) && (decide (b'.fn = 2))) && (decide (((List.length a.funs : Nat) : Int) = ((List.length b.funs : Nat) : Int)))) = false := by
          rw [la, lb]; rcases c3 with h | h | h <;> simp [h]
          intro _ _; omega
        rw [e3, cond_false]
        exact ⟨_, _, _, rfl, by rw [funP, if_neg c1, if_neg c2, if_pos c3], by rw [funP, if_neg c1, if_neg c2, if_pos c3, fa, fb], by rw [funP, if_neg c1, if_neg c2, if_pos c3]⟩
      · have ea : a'.fn = 2 := by omega
        have eb : b'.fn = 2 := by omega
        have el : a'.funs.length = b'.funs.length := by omega
        have e3 : (((decide (a'.fn = 2)) && (decide (b'.fn = 2))) && (decide (((List.length a.funs : Nat) : Int) = ((List.length b.funs : Nat) : Int)))) = true := by
          rw [la, lb, ea, eb, el]; simp
        have h9 := (qa3 ea).1
        have hpos : 0 < a'.funs.length := by
          have := (qa3 ea).2
          cases hq : a'.funs with
          | nil => rw [hq] at this; simp [anyA] at this
          | cons => simp
        have hM := mixF_len f a'.funs b'.funs el
        have hw : Int.toNat (IntKind.wrap .i64 (((List.length a.funs : Nat) : Int) - 1)) = a'.funs.length - 1 := by rw [la, kw_i64_id (by omega) (by omega)]; omega
        have loop : ∀ (rest : List Nat) (i : Nat) (acc : List Co), i + rest.length = a'.funs.length - 1 → acc.map encC = ((mixF f a'.funs b'.funs).take i).map encC →
            ∃ acc', acc'.map encC = ((mixF f a'.funs b'.funs).take (a'.funs.length - 1)).map encC ∧ g_r07_Compose_l3 F a b a0 a1 a2 a3 a4 a5 p q ps b'.flab rest i acc = g_r07_Compose_j2 F a b a0 a1 a2 a3 a4 a5 p q ps b'.flab acc' := by
          intro rest
          induction rest with
          | nil => intro i acc hi he; simp at hi; subst hi; exact ⟨acc, he, rfl⟩
          | cons y rest ih =>
            intro i acc hi he
            simp only [List.length_cons] at hi
            obtain ⟨x', hx'⟩ : ∃ x, a'.funs[i]? = some x := ⟨_, List.getElem?_eq_getElem (by omega)⟩
            obtain ⟨y', hy'⟩ : ∃ x, b'.funs[i]? = some x := ⟨_, List.getElem?_eq_getElem (by omega)⟩
            obtain ⟨x, hx, sx⟩ := map_at ha11.symm hx'
            obtain ⟨y, hy, sy⟩ := map_at hb11.symm hy'
            obtain ⟨z, hz, hs⟩ := hF y y' x x' sy.symm sx.symm (.inr ⟨List.mem_of_getElem? hy', List.mem_of_getElem? hx'⟩)
            have hg := mixF_get f _ _ i x' y' hx' hy'
            rw [if_neg (by omega)] at hg
            have hacc : acc.length ≤ 10 := by have := congrArg List.length he; simp at this; omega
            obtain ⟨acc', k1, k2⟩ := ih (i + 1) (acc ++ [z]) (by omega) (by rw [List.map_append, he, takeS hg]; exact congrArg (fun q => _ ++ [q]) hs)
            refine ⟨acc', k1, ?_⟩
            rw [g_r07_Compose_l3, idx_nat, hy, Option.bind_some, idx_nat, hx, Option.bind_some, hz, Option.bind_some, catL_of (by simp; omega), Option.bind_some]
            exact k2
        obtain ⟨acc, k1, k2⟩ := loop (List.range (a'.funs.length - 1)) 0 [] (by simp) (by simp)
        obtain ⟨x', hx'⟩ : ∃ x, a'.funs[a'.funs.length - 1]? = some x := ⟨_, List.getElem?_eq_getElem (by omega)⟩
        obtain ⟨y', hy'⟩ : ∃ x, b'.funs[a'.funs.length - 1]? = some x := ⟨_, List.getElem?_eq_getElem (by omega)⟩
        obtain ⟨x, hx, sx⟩ := map_at ha11.symm hx'
        obtain ⟨y, hy, sy⟩ := map_at hb11.symm hy'
        obtain ⟨z, hz, hs⟩ := hF x x' y y' sx.symm sy.symm (.inl ⟨List.mem_of_getElem? hx', List.mem_of_getElem? hy'⟩)
        have hg := mixF_get f _ _ _ x' y' hx' hy'
        rw [if_pos (by omega)] at hg
        have hacc : acc.length ≤ 10 := by have := congrArg List.length k1; simp at this; omega
        have hfull : (acc ++ [z]).map encC = (mixF f a'.funs b'.funs).map encC := by
          have e : (mixF f a'.funs b'.funs) = (mixF f a'.funs b'.funs).take (a'.funs.length - 1 + 1) := by rw [List.take_of_length_le (by omega)]
          rw [e, takeS hg, List.map_append, k1]
          exact congrArg (fun q => _ ++ [q]) hs
        have hi2 : IntKind.wrap .i64 (((List.length a.funs : Nat) : Int) - 1) = ((a'.funs.length - 1 : Nat) : Int) := by rw [la, kw_i64_id (by omega) (by omega)]; omega
        have hj2 : g_r07_Compose_j2 F a b a0 a1 a2 a3 a4 a5 p q ps b'.flab acc = some (.mk (sixF a0 a1 a2 a3 a4 a5) p q ps 2 b'.flab (acc ++ [z])) := by
          unfold g_r07_Compose_j2
          rw [hi2, idx_nat, hx, Option.bind_some, idx_nat, hy, Option.bind_some, hz, Option.bind_some, catL_of (by simp; omega), Option.bind_some]
          rfl
        rw [e3, cond_true, hw, okLen_of (by simp; omega), cond_true, k2, hj2]
        exact ⟨_, _, _, rfl, by rw [funP, if_neg c1, if_neg c2, if_neg c3, ea], by rw [funP, if_neg c1, if_neg c2, if_neg c3, fa, fb], by rw [funP, if_neg c1, if_neg c2, if_neg c3]; exact hfull⟩
end
theorem gComp : ∀ (k : Nat) (a a' b b' : Co), Sim a a' → Sim b b' → RtC a' → RtC b' → szC a' + szC b' ≤ k → ∃ r, g_r07_Compose k a b = some r ∧ Sim r (compC k a' b')
  | 0, a, a', b, b', _, _, _, _, h => by have := szC_pos a'; omega
  | k + 1, a, a', b, b', ha, hb, ra, rb, h => by
    obtain ⟨⟨x0, x1, x2, x3, x4, x5⟩, ha6, ha7, ha8, _⟩ := Sim.iff.1 ha
    obtain ⟨⟨y0, y1, y2, y3, y4, y5⟩, hb6, hb7, hb8, _⟩ := Sim.iff.1 hb
    obtain ⟨_, _, _, qa1, qa2, _⟩ := (okC_iff a').1 ra.ok
    obtain ⟨_, _, _, qb1, qb2, _⟩ := (okC_iff b').1 rb.ok
    have hF : ∀ x x' y y', Sim x x' → Sim y y' → ((x' ∈ a'.funs ∧ y' ∈ b'.funs) ∨ (x' ∈ b'.funs ∧ y' ∈ a'.funs)) → ∃ r, g_r07_Compose k x y = some r ∧ Sim r (compC k x' y') := by
      intro x x' y y' hx hy hm
      rcases hm with ⟨h1, h2⟩ | ⟨h1, h2⟩
      · exact gComp k x x' y y' hx hy (ra.funs h1) (rb.funs h2) (by have := szC_funs h1; have := szC_funs h2; omega)
      · exact gComp k x x' y y' hx hy (rb.funs h1) (ra.funs h2) (by have := szC_funs h1; have := szC_funs h2; omega)
    rw [g_r07_Compose, g_r07_Compose_b]
    simp only [gEither, Option.bind_some, x0, x1, x2, x3, x4, x5, y0, y1, y2, y3, y4, y5]
    have fin : ∀ (p q : Int) (ps : List Co), p = (pairP (compC k) a' b').1 → q = (pairP (compC k) a' b').2.1 → ps.map encC = (pairP (compC k) a' b').2.2.map encC →
        ∃ r, g_r07_Compose_j5 (g_r07_Compose k) a b (orI (a'.flat 0) (b'.flat 0)) (orI (a'.flat 1) (b'.flat 1)) (orI (a'.flat 2) (b'.flat 2)) (orI (a'.flat 3) (b'.flat 3)) (orI (a'.flat 4) (b'.flat 4)) (orI (a'.flat 5) (b'.flat 5)) p q ps = some r ∧ Sim r (compC (k + 1) a' b') := by
      rintro p q ps rfl rfl h5
      obtain ⟨g, m, gs, k1, rfl, rfl, k4⟩ := gComp_funs (f := compC k) (a0 := orI (a'.flat 0) (b'.flat 0)) (a1 := orI (a'.flat 1) (b'.flat 1)) (a2 := orI (a'.flat 2) (b'.flat 2)) (a3 := orI (a'.flat 3) (b'.flat 3)) (a4 := orI (a'.flat 4) (b'.flat 4)) (a5 := orI (a'.flat 5) (b'.flat 5)) (p := (pairP (compC k) a' b').1) (q := (pairP (compC k) a' b').2.1) (ps := ps) ha hb ra rb hF
      exact ⟨_, k1, sim_mk (f := fun i => orI (a'.flat i) (b'.flat i)) h5 k4⟩
    unfold g_r07_Compose_j7 g_r07_Compose_j6
    rw [ha6, hb6, ha7, hb7]
    by_cases c1 : a'.pair = 1 ∨ b'.pair = 0
    · have e1 : ((!decide (a'.pair = 1)) && (!decide (b'.pair = 0))) = false := by rcases c1 with h | h <;> simp [h]
      have e2 : ((decide (2 ≤ a'.pair)) && (decide (2 ≤ b'.pair))) = false := by rcases c1 with h | h <;> simp [h]
      rw [e1, e2, cond_false, cond_false]
      exact fin _ _ _ (by rw [pairP, if_pos c1]) (by rw [pairP, if_pos c1]) (by rw [pairP, if_pos c1]; exact ha8)
    · have e1 : ((!decide (a'.pair = 1)) && (!decide (b'.pair = 0))) = true := by simp; omega
      rw [e1, cond_true]
      by_cases c2 : b'.pair = 1 ∨ a'.pair = 0
      · have e2 : ((decide (2 ≤ a'.pair)) && (decide (2 ≤ b'.pair))) = false := by rcases c2 with h | h <;> simp [h]
        rw [e2, cond_false]
        exact fin _ _ _ (by rw [pairP, if_neg c1, if_pos c2]) (by rw [pairP, if_neg c1, if_pos c2]) (by rw [pairP, if_neg c1, if_pos c2]; exact hb8)
      · have e2 : ((decide (2 ≤ a'.pair)) && (decide (2 ≤ b'.pair))) = true := by simp; omega
        have pa : 2 ≤ a'.pair := by omega
        have pb : 2 ≤ b'.pair := by omega
        rw [e2, cond_true]
        obtain ⟨xc, xc1, xc2⟩ := gCar ha ra pa
        obtain ⟨yc, yc1, yc2⟩ := gCar hb rb pb
        have rca := ra.car pa
        have rcb := rb.car pb
        obtain ⟨z, z1, z2⟩ := gComp k xc (carC a') yc (carC b') xc2 yc2 rca.1 rcb.1 (by omega)
        rw [xc1, Option.bind_some, yc1, Option.bind_some, z1, Option.bind_some]
        by_cases c3 : a'.pair = 3 ∧ b'.pair = 3
        · have e3 : ((decide (a'.pair = 3)) && (decide (b'.pair = 3))) = true := by simp [c3]
          rw [e3, cond_true, gEither, Option.bind_some]
          exact fin 3 (orI a'.plab b'.plab) [z] (by rw [pairP, if_neg c1, if_neg c2, if_pos c3]) (by rw [pairP, if_neg c1, if_neg c2, if_pos c3]) (by rw [pairP, if_neg c1, if_neg c2, if_pos c3]; simp only [List.map_cons, List.map_nil]; rw [show encC z = _ from z2])
        · have e3 : ((decide (a'.pair = 3)) && (decide (b'.pair = 3))) = false := by simp; omega
          obtain ⟨xd, xd1, xd2⟩ := gCdr ha ra pa
          obtain ⟨yd, yd1, yd2⟩ := gCdr hb rb pb
          have rda := ra.cdr pa
          have rdb := rb.cdr pb
          have hsz : szC (cdrC a') + szC (cdrC b') < szC a' + szC b' := by
            rcases (show a'.pair = 2 ∨ b'.pair = 2 by omega) with e | e
            · have := rda.2.2 e; omega
            · have := rdb.2.2 e; omega
          obtain ⟨w, w1, w2⟩ := gComp k xd (cdrC a') yd (cdrC b') xd2 yd2 rda.1 rdb.1 (by omega)
          rw [e3, cond_false, xd1, Option.bind_some, yd1, Option.bind_some, w1, Option.bind_some]
          exact fin 2 0 [z, w] (by rw [pairP, if_neg c1, if_neg c2, if_neg c3]) (by rw [pairP, if_neg c1, if_neg c2, if_neg c3]) (by rw [pairP, if_neg c1, if_neg c2, if_neg c3]; simp only [List.map_cons, List.map_nil]; rw [show encC z = _ from z2, show encC w = _ from w2])
end Go.Ev.Seat
namespace Go.Ev.Seat
set_option linter.unusedVariables false
set_option linter.unusedSimpArgs false
open Go Go.Ev
set_option maxRecDepth 20000
attribute [local irreducible] pcall callF
theorem shal_c : ∀ (n : Nat) (c : Co) (l : Nat), szC c < n → WfC c → l < 1000 → pcall (tabOf tabL) n 39 [vC c, .int .i64 (l : Nat)] = some (.ok (.bool (shalC c l)))
  | 0, c, l, h, _, _ => by omega
  | n + 1, c, l, h, hw, hl => by
    have ih := shal_c n
    have hp := lenC_pairs c
    have hf := lenC_funs c
    cases hw with | mk w1 w2 w3 w4 w5 w6 w7 w8 w9 =>
    refine pcall_fin t39 ?_
    refine WL_seq ?_
    refine WL_reg ?_
    refine O_n rfl rfl rfl ?_
    refine O_p rfl rfl rfl ?_
    refine WO_nil ?_
    refine WL_seq ?_
    apply WLp
    · (repeat (first | exact rzz | apply rcc rfl | apply rnn rfl))
    refine WL_seq ?_
    refine WL_seq ?_
    refine WL_reg ?_
    refine O_p rfl rfl rfl ?_
    refine O_p rfl rfl rfl ?_
    refine O_p rfl rfl rfl ?_
    apply O_or [_, _, _, _] rfl rfl (hT := ?hT14) (h := ?hR14)
    case hT14 =>
      intro hb9
      refine O_p rfl rfl rfl ?_
      refine O_h rfl rfl rfl rfl ?_
      refine O_h rfl rfl rfl rfl ?_
      refine O_p rfl rfl rfl ?_
      exact WO_nil (WL_nil ⟨rfl, rfl, rfl⟩)
    case hR14 =>
      intro vs hvs
      obtain ⟨u10, u11, u12, u13, rfl⟩ := len4 hvs
      clear hvs; dsimp only [junk]
      refine O_p rfl rfl rfl ?_
      apply O_or [_, _, _, _] rfl rfl (hT := ?hT20) (h := ?hR20)
      case hT20 =>
        intro hb15
        refine O_p rfl rfl rfl ?_
        refine O_h rfl rfl rfl rfl ?_
        refine O_h rfl rfl rfl rfl ?_
        refine O_p rfl rfl rfl ?_
        exact WO_nil (WL_nil ⟨rfl, rfl, rfl⟩)
      case hR20 =>
        intro vs hvs
        obtain ⟨u16, u17, u18, u19, rfl⟩ := len4 hvs
        clear hvs; dsimp only [junk]
        refine WO_nil ?_
        refine WL_seq ?_
        apply WLp
        · (repeat (first | exact rzz | apply rcc rfl | apply rnn rfl))
        try clear u10 u11 u12 u13 u16 u17 u18 u19
        refine WL_cond rfl (fun h20 => ?_) (fun h20 => ?_)
        · skip
          have hr : shalC c l = false := by
            cases l with
            | zero => exact shalC_zero c
            | succ l =>
              rw [shalC_succ]; simp at h20; simp; omega
          refine WL_seq ?_
          refine WL_reg ?_
          refine O_p rfl rfl rfl ?_
          refine WO_nil ?_
          refine WL_ret ?_
          exact ⟨_, rfl, _, rfl, by rw [hr]⟩
        · skip
          simp at h20
          obtain ⟨l, rfl⟩ : ∃ e, l = e + 1 := ⟨l - 1, by omega⟩
          have hl1 : IntKind.i64.wrap (((l + 1 : Nat) : Int) - 1) = (l : Int) := by rw [kw_i64_id (by omega) (by omega)]; omega
          have ha : c.pairs.length ≤ 12 := by omega
          have hb : c.funs.length ≤ 12 := by omega
          refine WL_skip ?_
          refine WL_seq ?_
          apply WLp
          · (repeat (first | exact rzz | apply rcc rfl | apply rnn rfl))
          refine WL_seq ?_
          refine WL_seq ?_
          refine WL_reg ?_
          refine O_p rfl rfl rfl ?_
          refine WO_nil ?_
          refine WL_seq ?_
          apply WLp
          · (repeat (first | exact rzz | apply rcc rfl | apply rnn rfl))
          refine WL_block ?_
          apply WL_forc (α := Nat) (fun i => [(5, .int .i64 (i : Nat))]) (fun i => i ≤ c.pairs.length ∧ shalCs c.pairs l = shalCs (c.pairs.drop i) l) (fun i => c.pairs.length - i) (0) (he := ?he) (hP := ?hP) (hk := ?hk) (round := ?round)
          case he =>
            (repeat (first | exact rzz | apply rcc rfl | apply rnn rfl))
          case hP =>
            exact ⟨by omega, rfl⟩
          case hk =>
            show c.pairs.length - 0 < n; omega
          case round =>
            rintro i ⟨hi, hs⟩
            dsimp only [List.cons_append, List.nil_append] at *
            refine WL_seq ?_
            refine WL_seq ?_
            refine WL_reg ?_
            refine O_p rfl rfl rfl ?_
            refine O_p rfl rfl rfl ?_
            refine O_h rfl rfl rfl rfl ?_
            refine O_h rfl rfl rfl rfl ?_
            refine O_p rfl rfl rfl ?_
            refine WO_nil ?_
            refine WL_seq ?_
            apply WLp
            · (repeat (first | exact rzz | apply rcc rfl | apply rnn rfl))
            refine WL_cond rfl (fun h25 => ?_) (fun h25 => ?_)
            · skip
              simp at h25
              obtain ⟨x, hx⟩ : ∃ x, (c.pairs)[i]? = some x := ⟨_, List.getElem?_eq_getElem (by omega)⟩
              have hmx := List.mem_of_getElem? hx
              have hsx := szC_pairs hmx
              have hg := drop_of hx
              refine WL_skip ?_
              refine WL_seq ?_
              apply WLp
              · (repeat (first | exact rzz | apply rcc rfl | apply rnn rfl))
              refine WL_seq ?_
              refine WL_block ?_
              refine WL_seq ?_
              refine WL_reg ?_
              refine O_p rfl rfl rfl ?_
              refine O_h rfl rfl rfl rfl ?_
              refine O_p rfl rfl rfl ?_
              refine O_ia rfl rfl (Int.natCast_nonneg _) (encC_get (i := (i : Nat)) hx) (encC_flat _) rfl ?_
              refine O_h rfl rfl rfl rfl ?_
              refine O_p rfl rfl rfl ?_
              refine O_p rfl rfl rfl ?_
              refine O_c 39 rfl rfl (callA_of rfl (by rw [hl1]; exact ih x l (by omega) (w8 x hmx) (by omega))) ?_
              refine O_p rfl rfl rfl ?_
              refine WO_nil ?_
              refine WL_seq ?_
              apply WLp
              · (repeat (first | exact rzz | apply rcc rfl | apply rnn rfl))
              refine WL_cond rfl (fun h36 => ?_) (fun h36 => ?_)
              · skip
                have hr : shalC c (l + 1) = false := by
                  simp at h36
                  rw [shalC_succ, hs, hg]; simp [shalCs, h36]
                refine WL_seq ?_
                refine WL_reg ?_
                refine O_p rfl rfl rfl ?_
                refine WO_nil ?_
                refine WL_ret ?_
                refine Blk_ret ?_
                refine RndC_ret ?_
                refine Blk_ret ?_
                exact ⟨_, rfl, _, rfl, by rw [hr]⟩
              · skip
                refine WL_skip ?_
                refine WL_nil ?_
                refine Blk_norm (?_ : WL _ _ _ _ _)
                refine WL_seq ?_
                apply WLp
                · (repeat (first | exact rzz | apply rcc rfl | apply rnn rfl))
                refine WL_reg ?_
                refine O_p rfl rfl rfl ?_
                refine O_p rfl rfl rfl ?_
                refine O_p rfl rfl rfl ?_
                refine WO_nil ?_
                refine WL_nil ?_
                simp at h36
                refine RndC_norm (i + 1) (by refine ⟨by omega, ?_⟩; rw [hs, hg, shalCs, h36]; rfl) (by show _ < _; omega) ?_ rfl
                · rw [wrap_succ (by omega)]; (repeat (first | exact rzz | apply rcc rfl | apply rnn rfl))
            · skip
              have hq : shalCs c.pairs l = true := by
                simp at h25
                rw [hs, List.drop_eq_nil_of_le (by omega)]; rfl
              refine WL_exit ?_
              refine RndC_exit ?_
              refine Blk_exit (?_ : WL _ _ _ _ _)
              refine WL_seq ?_
              apply WLp
              · (repeat (first | exact rzz | apply rcc rfl | apply rnn rfl))
              refine WL_seq ?_
              refine WL_seq ?_
              refine WL_reg ?_
              refine O_p rfl rfl rfl ?_
              refine WO_nil ?_
              refine WL_seq ?_
              apply WLp
              · (repeat (first | exact rzz | apply rcc rfl | apply rnn rfl))
              refine WL_block ?_
              apply WL_forc (α := Nat) (fun i => [(6, .int .i64 (i : Nat))]) (fun i => i ≤ c.funs.length ∧ shalCs c.funs l = shalCs (c.funs.drop i) l) (fun i => c.funs.length - i) (0) (he := ?he) (hP := ?hP) (hk := ?hk) (round := ?round)
              case he =>
                (repeat (first | exact rzz | apply rcc rfl | apply rnn rfl))
              case hP =>
                exact ⟨by omega, rfl⟩
              case hk =>
                show c.funs.length - 0 < n; omega
              case round =>
                rintro i ⟨hi, hs⟩
                dsimp only [List.cons_append, List.nil_append] at *
                refine WL_seq ?_
                refine WL_seq ?_
                refine WL_reg ?_
                refine O_p rfl rfl rfl ?_
                refine O_p rfl rfl rfl ?_
                refine O_h rfl rfl rfl rfl ?_
                refine O_h rfl rfl rfl rfl ?_
                refine O_p rfl rfl rfl ?_
                refine WO_nil ?_
                refine WL_seq ?_
                apply WLp
                · (repeat (first | exact rzz | apply rcc rfl | apply rnn rfl))
                refine WL_cond rfl (fun h41 => ?_) (fun h41 => ?_)
                · skip
                  simp at h41
                  obtain ⟨x, hx⟩ : ∃ x, (c.funs)[i]? = some x := ⟨_, List.getElem?_eq_getElem (by omega)⟩
                  have hmx := List.mem_of_getElem? hx
                  have hsx := szC_funs hmx
                  have hg := drop_of hx
                  refine WL_skip ?_
                  refine WL_seq ?_
                  apply WLp
                  · (repeat (first | exact rzz | apply rcc rfl | apply rnn rfl))
                  refine WL_seq ?_
                  refine WL_block ?_
                  refine WL_seq ?_
                  refine WL_reg ?_
                  refine O_p rfl rfl rfl ?_
                  refine O_h rfl rfl rfl rfl ?_
                  refine O_p rfl rfl rfl ?_
                  refine O_ia rfl rfl (Int.natCast_nonneg _) (encC_get (i := (i : Nat)) hx) (encC_flat _) rfl ?_
                  refine O_h rfl rfl rfl rfl ?_
                  refine O_p rfl rfl rfl ?_
                  refine O_p rfl rfl rfl ?_
                  refine O_c 39 rfl rfl (callA_of rfl (by rw [hl1]; exact ih x l (by omega) (w9 x hmx) (by omega))) ?_
                  refine O_p rfl rfl rfl ?_
                  refine WO_nil ?_
                  refine WL_seq ?_
                  apply WLp
                  · (repeat (first | exact rzz | apply rcc rfl | apply rnn rfl))
                  refine WL_cond rfl (fun h52 => ?_) (fun h52 => ?_)
                  · skip
                    have hr : shalC c (l + 1) = false := by
                      simp at h52
                      rw [shalC_succ, hs, hg]; simp [shalCs, h52]
                    refine WL_seq ?_
                    refine WL_reg ?_
                    refine O_p rfl rfl rfl ?_
                    refine WO_nil ?_
                    refine WL_ret ?_
                    refine Blk_ret ?_
                    refine RndC_ret ?_
                    refine Blk_ret ?_
                    exact ⟨_, rfl, _, rfl, by rw [hr]⟩
                  · skip
                    refine WL_skip ?_
                    refine WL_nil ?_
                    refine Blk_norm (?_ : WL _ _ _ _ _)
                    refine WL_seq ?_
                    apply WLp
                    · (repeat (first | exact rzz | apply rcc rfl | apply rnn rfl))
                    refine WL_reg ?_
                    refine O_p rfl rfl rfl ?_
                    refine O_p rfl rfl rfl ?_
                    refine O_p rfl rfl rfl ?_
                    refine WO_nil ?_
                    refine WL_nil ?_
                    simp at h52
                    refine RndC_norm (i + 1) (by refine ⟨by omega, ?_⟩; rw [hs, hg, shalCs, h52]; rfl) (by show _ < _; omega) ?_ rfl
                    · rw [wrap_succ (by omega)]; (repeat (first | exact rzz | apply rcc rfl | apply rnn rfl))
                · skip
                  have hr : shalC c (l + 1) = true := by
                    simp at h41
                    rw [shalC_succ, hq, hs, List.drop_eq_nil_of_le (by omega)]; simp [shalCs, ha, hb]
                  refine WL_exit ?_
                  refine RndC_exit ?_
                  refine Blk_exit (?_ : WL _ _ _ _ _)
                  refine WL_seq ?_
                  apply WLp
                  · (repeat (first | exact rzz | apply rcc rfl | apply rnn rfl))
                  refine WL_seq ?_
                  refine WL_reg ?_
                  refine O_p rfl rfl rfl ?_
                  refine WO_nil ?_
                  refine WL_ret ?_
                  exact ⟨_, rfl, _, rfl, by rw [hr]⟩
theorem csize_zero (n : Nat) (c : Co) : pcall (tabOf tabL) (n + 1) 55 [vC c, .int .i64 (0 : Nat)] = some (.ok (.int .i64 (rszC c 0 : Nat))) := by
  refine pcall_fin t55 ?_
  refine WL_seq ?_
  refine WL_reg ?_
  refine O_n rfl rfl rfl ?_
  refine O_p rfl rfl rfl ?_
  refine WO_nil ?_
  refine WL_seq ?_
  apply WLp
  · (repeat (first | exact rzz | apply rcc rfl | apply rnn rfl))
  refine WL_seq ?_
  refine WL_seq ?_
  refine WL_reg ?_
  refine O_p rfl rfl rfl ?_
  refine O_p rfl rfl rfl ?_
  refine WO_nil ?_
  refine WL_seq ?_
  apply WLp
  · (repeat (first | exact rzz | apply rcc rfl | apply rnn rfl))
  refine WL_cond rfl (fun h9 => ?_) (fun h9 => ?_)
  · skip
    refine WL_seq ?_
    refine WL_reg ?_
    refine O_p rfl rfl rfl ?_
    refine WO_nil ?_
    refine WL_ret ?_
    exact ⟨_, rfl, _, rfl, by rw [rszC_zero]; rfl⟩
  · skip
    simp at h9
theorem csize_c : ∀ (n : Nat) (t : Co) (l : Nat), szC t < n → SmC t → l < 1000 → pcall (tabOf tabL) n 55 [vC t, .int .i64 (l : Nat)] = some (.ok (.int .i64 (rszC t l : Nat)))
  | 0, t, l, h, _, _ => by omega
  | n + 1, t, 0, h, _, _ => csize_zero n t
  | n + 1, t, l + 1, h, hw, hl => by
    have ih := csize_c n
    have hp := lenC_pairs t
    have hf := lenC_funs t
    have hl1 : IntKind.i64.wrap (((l + 1 : Nat) : Int) - 1) = (l : Int) := by rw [kw_i64_id (by omega) (by omega)]; omega
    cases hw with | mk w4 w5 w6 w7 =>
    refine pcall_fin t55 ?_
    refine WL_seq ?_
    refine WL_reg ?_
    refine O_n rfl rfl rfl ?_
    refine O_p rfl rfl rfl ?_
    refine WO_nil ?_
    refine WL_seq ?_
    apply WLp
    · (repeat (first | exact rzz | apply rcc rfl | apply rnn rfl))
    refine WL_seq ?_
    refine WL_seq ?_
    refine WL_reg ?_
    refine O_p rfl rfl rfl ?_
    refine O_p rfl rfl rfl ?_
    refine WO_nil ?_
    refine WL_seq ?_
    apply WLp
    · (repeat (first | exact rzz | apply rcc rfl | apply rnn rfl))
    refine WL_cond rfl (fun h9 => ?_) (fun h9 => ?_)
    · skip
      simp at h9; omega
    · skip
      refine WL_skip ?_
      refine WL_seq ?_
      apply WLp
      · (repeat (first | exact rzz | apply rcc rfl | apply rnn rfl))
      refine WL_seq ?_
      refine WL_reg ?_
      refine O_p rfl rfl rfl ?_
      refine WO_nil ?_
      refine WL_seq ?_
      apply WLp
      · (repeat (first | exact rzz | apply rcc rfl | apply rnn rfl))
      refine WL_seq ?_
      refine WL_seq ?_
      refine WL_reg ?_
      refine O_p rfl rfl rfl ?_
      refine WO_nil ?_
      refine WL_seq ?_
      apply WLp
      · (repeat (first | exact rzz | apply rcc rfl | apply rnn rfl))
      refine WL_block ?_
      apply WL_forc (α := Nat × Nat) (fun s => [(5, .int .i64 (s.1 : Nat)), (6, .int .i64 (s.2 : Nat))]) (fun s => s.2 ≤ t.pairs.length ∧ s.1 ≤ 2000 ∧ min 1000 (1 + rszCs t.pairs l) = min 1000 (s.1 + rszCs (t.pairs.drop s.2) l)) (fun s => t.pairs.length - s.2) ((1, 0)) (he := ?he) (hP := ?hP) (hk := ?hk) (round := ?round)
      case he =>
        (repeat (first | exact rzz | apply rcc rfl | apply rnn rfl))
      case hP =>
        exact ⟨by omega, by omega, rfl⟩
      case hk =>
        show t.pairs.length - 0 < n; omega
      case round =>
        rintro ⟨c, i⟩ ⟨hi, hc, hs⟩
        simp only at hi hc hs
        dsimp only [List.cons_append, List.nil_append] at *
        refine WL_seq ?_
        refine WL_seq ?_
        refine WL_reg ?_
        refine O_p rfl rfl rfl ?_
        refine O_p rfl rfl rfl ?_
        refine O_h rfl rfl rfl rfl ?_
        refine O_h rfl rfl rfl rfl ?_
        refine O_p rfl rfl rfl ?_
        refine O_p rfl rfl rfl ?_
        apply O_and [_, _] rfl rfl (hT := ?hT18) (h := ?hR18)
        case hT18 =>
          intro hb15
          refine O_p rfl rfl rfl ?_
          refine O_p rfl rfl rfl ?_
          exact WO_nil (WL_nil ⟨rfl, rfl, rfl⟩)
        case hR18 =>
          intro vs hvs
          obtain ⟨u16, u17, rfl⟩ := len2 hvs
          clear hvs; dsimp only [junk]
          refine WO_nil ?_
          refine WL_seq ?_
          apply WLp
          · (repeat (first | exact rzz | apply rcc rfl | apply rnn rfl))
          try clear u16 u17
          refine WL_cond rfl (fun h18 => ?_) (fun h18 => ?_)
          · skip
            simp at h18
            obtain ⟨x, hx⟩ : ∃ x, (t.pairs)[i]? = some x := ⟨_, List.getElem?_eq_getElem (by omega)⟩
            have hmx := List.mem_of_getElem? hx
            have hsx := szC_pairs hmx
            have hle := rszC_le x l
            have hg := drop_of hx
            refine WL_skip ?_
            refine WL_seq ?_
            apply WLp
            · (repeat (first | exact rzz | apply rcc rfl | apply rnn rfl))
            refine WL_seq ?_
            refine WL_block ?_
            refine WL_reg ?_
            refine O_p rfl rfl rfl ?_
            refine O_p rfl rfl rfl ?_
            refine O_h rfl rfl rfl rfl ?_
            refine O_p rfl rfl rfl ?_
            refine O_ia rfl rfl (Int.natCast_nonneg _) (encC_get (i := (i : Nat)) hx) (encC_flat _) rfl ?_
            refine O_h rfl rfl rfl rfl ?_
            refine O_p rfl rfl rfl ?_
            refine O_p rfl rfl rfl ?_
            refine O_c 55 rfl rfl (callA_of rfl (by rw [hl1]; exact ih x l (by omega) (w6 x hmx) (by omega))) ?_
            refine O_p rfl rfl rfl ?_
            refine O_p rfl rfl rfl ?_
            refine WO_nil ?_
            refine WL_nil ?_
            refine Blk_norm (?_ : WL _ _ _ _ _)
            refine WL_seq ?_
            apply WLp
            · (repeat (first | exact rzz | apply rcc rfl | apply rnn rfl))
            refine WL_reg ?_
            refine O_p rfl rfl rfl ?_
            refine O_p rfl rfl rfl ?_
            refine O_p rfl rfl rfl ?_
            refine WO_nil ?_
            refine WL_nil ?_
            refine RndC_norm ((c + rszC x l, i + 1)) (by refine ⟨?_, ?_, ?_⟩ <;> simp only <;> first | omega | (rw [hs, hg, rszCs]; omega)) (by show _ < _; omega) ?_ rfl
            · rw [wrap_add (by omega), wrap_succ (by omega)]; (repeat (first | exact rzz | apply rcc rfl | apply rnn rfl))
          · skip
            have hq : min 1000 (1 + rszCs t.pairs l) = min 1000 c := by
              rw [hs]; simp at h18
              by_cases hc : i < t.pairs.length
              · have := h18 hc; omega
              · rw [List.drop_eq_nil_of_le (by omega)]; simp [rszCs]
            refine WL_exit ?_
            refine RndC_exit ?_
            refine Blk_exit (?_ : WL _ _ _ _ _)
            refine WL_seq ?_
            apply WLp
            · (repeat (first | exact rzz | apply rcc rfl | apply rnn rfl))
            refine WL_seq ?_
            refine WL_seq ?_
            refine WL_reg ?_
            refine O_p rfl rfl rfl ?_
            refine WO_nil ?_
            refine WL_seq ?_
            apply WLp
            · (repeat (first | exact rzz | apply rcc rfl | apply rnn rfl))
            refine WL_block ?_
            apply WL_forc (α := Nat × Nat) (fun s => [(5, .int .i64 (s.1 : Nat)), (7, .int .i64 (s.2 : Nat))]) (fun s => s.2 ≤ t.funs.length ∧ s.1 ≤ 2000 ∧ min 1000 (1 + rszCs t.pairs l + rszCs t.funs l) = min 1000 (s.1 + rszCs (t.funs.drop s.2) l)) (fun s => t.funs.length - s.2) ((c, 0)) (he := ?he) (hP := ?hP) (hk := ?hk) (round := ?round)
            case he =>
              (repeat (first | exact rzz | apply rcc rfl | apply rnn rfl))
            case hP =>
              refine ⟨by simp, by simp only; omega, ?_⟩; simp only [List.drop_zero]; omega
            case hk =>
              show t.funs.length - 0 < n; omega
            case round =>
              rintro ⟨c, i⟩ ⟨hi, hc, hs2⟩
              simp only at hi hc hs2
              dsimp only [List.cons_append, List.nil_append] at *
              refine WL_seq ?_
              refine WL_seq ?_
              refine WL_reg ?_
              refine O_p rfl rfl rfl ?_
              refine O_p rfl rfl rfl ?_
              refine O_h rfl rfl rfl rfl ?_
              refine O_h rfl rfl rfl rfl ?_
              refine O_p rfl rfl rfl ?_
              refine O_p rfl rfl rfl ?_
              apply O_and [_, _] rfl rfl (hT := ?hT39) (h := ?hR39)
              case hT39 =>
                intro hb36
                refine O_p rfl rfl rfl ?_
                refine O_p rfl rfl rfl ?_
                exact WO_nil (WL_nil ⟨rfl, rfl, rfl⟩)
              case hR39 =>
                intro vs hvs
                obtain ⟨u37, u38, rfl⟩ := len2 hvs
                clear hvs; dsimp only [junk]
                refine WO_nil ?_
                refine WL_seq ?_
                apply WLp
                · (repeat (first | exact rzz | apply rcc rfl | apply rnn rfl))
                try clear u37 u38
                refine WL_cond rfl (fun h39 => ?_) (fun h39 => ?_)
                · skip
                  simp at h39
                  obtain ⟨x, hx⟩ : ∃ x, (t.funs)[i]? = some x := ⟨_, List.getElem?_eq_getElem (by omega)⟩
                  have hmx := List.mem_of_getElem? hx
                  have hsx := szC_funs hmx
                  have hle := rszC_le x l
                  have hg := drop_of hx
                  refine WL_skip ?_
                  refine WL_seq ?_
                  apply WLp
                  · (repeat (first | exact rzz | apply rcc rfl | apply rnn rfl))
                  refine WL_seq ?_
                  refine WL_block ?_
                  refine WL_reg ?_
                  refine O_p rfl rfl rfl ?_
                  refine O_p rfl rfl rfl ?_
                  refine O_h rfl rfl rfl rfl ?_
                  refine O_p rfl rfl rfl ?_
                  refine O_ia rfl rfl (Int.natCast_nonneg _) (encC_get (i := (i : Nat)) hx) (encC_flat _) rfl ?_
                  refine O_h rfl rfl rfl rfl ?_
                  refine O_p rfl rfl rfl ?_
                  refine O_p rfl rfl rfl ?_
                  refine O_c 55 rfl rfl (callA_of rfl (by rw [hl1]; exact ih x l (by omega) (w7 x hmx) (by omega))) ?_
                  refine O_p rfl rfl rfl ?_
                  refine O_p rfl rfl rfl ?_
                  refine WO_nil ?_
                  refine WL_nil ?_
                  refine Blk_norm (?_ : WL _ _ _ _ _)
                  refine WL_seq ?_
                  apply WLp
                  · (repeat (first | exact rzz | apply rcc rfl | apply rnn rfl))
                  refine WL_reg ?_
                  refine O_p rfl rfl rfl ?_
                  refine O_p rfl rfl rfl ?_
                  refine O_p rfl rfl rfl ?_
                  refine WO_nil ?_
                  refine WL_nil ?_
                  refine RndC_norm ((c + rszC x l, i + 1)) (by refine ⟨?_, ?_, ?_⟩ <;> simp only <;> first | omega | (rw [hs2, hg, rszCs]; omega)) (by show _ < _; omega) ?_ rfl
                  · rw [wrap_add (by omega), wrap_succ (by omega)]; (repeat (first | exact rzz | apply rcc rfl | apply rnn rfl))
                · skip
                  have hr : AVal.int IntKind.i64 (rszC t (l + 1) : Nat) = AVal.int IntKind.i64 (if false = true then if (1000 : Int) > (c : Int) then 1000 else (c : Int) else if (1000 : Int) < (c : Int) then 1000 else (c : Int)) := by
                    have hq2 : rszC t (l + 1) = min 1000 c := by
                      rw [rszC_succ, hs2]; simp at h39
                      by_cases hc : i < t.funs.length
                      · have := h39 hc; omega
                      · rw [List.drop_eq_nil_of_le (by omega)]; simp [rszCs]
                    rw [hq2]; congr 1; simp; split <;> omega
                  refine WL_exit ?_
                  refine RndC_exit ?_
                  refine Blk_exit (?_ : WL _ _ _ _ _)
                  refine WL_seq ?_
                  apply WLp
                  · (repeat (first | exact rzz | apply rcc rfl | apply rnn rfl))
                  refine WL_seq ?_
                  refine WL_reg ?_
                  refine O_p rfl rfl rfl ?_
                  refine O_p rfl rfl rfl ?_
                  refine O_p rfl rfl rfl ?_
                  refine WO_nil ?_
                  refine WL_ret ?_
                  refine ⟨_, rfl, _, rfl, ?_⟩
                  rw [hr]
theorem cLight_c (n : Nat) (t : Co) (h : szC t < n) (hw : SmC t) : pcall (tabOf tabL) (n + 1) 40 [vC t] = some (.ok (.bool (decide (rszC t 60 < 150)))) := by
  refine pcall_fin t40 ?_
  refine WL_seq ?_
  refine WL_reg ?_
  refine O_n rfl rfl rfl ?_
  refine O_p rfl rfl rfl ?_
  refine WO_nil ?_
  refine WL_seq ?_
  apply WLp
  · (repeat (first | exact rzz | apply rcc rfl | apply rnn rfl))
  refine WL_seq ?_
  refine WL_reg ?_
  refine O_h rfl rfl rfl rfl ?_
  refine O_c 55 rfl rfl (callA_of rfl (csize_c n t 60 h hw (by omega))) ?_
  refine O_p rfl rfl rfl ?_
  refine O_p rfl rfl rfl ?_
  refine WO_nil ?_
  refine WL_ret ?_
  exact ⟨_, rfl, _, rfl, by congr 2; apply decide_eq_decide.2; omega⟩
theorem to_c : ∀ (n : Nat) (c : Co), szC c < n → SmC c → pcall (tabOf tabL) n 16 [vC c] = some (.ok (vC c))
  | 0, c, h, _ => by omega
  | n + 1, c, h, hw => by
    have ih := to_c n
    have hp := lenC_pairs c
    have hf := lenC_funs c
    cases hw with | mk w4 w5 w6 w7 =>
    refine pcall_fin t16 ?_
    refine WL_seq ?_
    refine WL_reg ?_
    refine O_n rfl rfl rfl ?_
    refine O_n rfl rfl rfl ?_
    refine WO_nil ?_
    refine WL_seq ?_
    apply WLp
    · (repeat (first | exact rzz | apply rcc rfl | apply rnn rfl))
    conv => arg 4; (try simp only [nrm, Nat.reduceAdd, pCT, tCT, putCells, AVal.flat])
    conv => arg 3; (try simp only [nrm, Nat.reduceAdd, pCT, tCT, putCells, AVal.flat])
    refine WL_seq ?_
    refine WL_reg ?_
    refine O_p rfl rfl rfl ?_
    refine O_h rfl rfl rfl rfl ?_
    refine O_p rfl rfl rfl ?_
    refine O_h rfl rfl rfl rfl ?_
    refine O_p rfl rfl rfl ?_
    refine O_h rfl rfl rfl rfl ?_
    refine O_p rfl rfl rfl ?_
    refine O_h rfl rfl rfl rfl ?_
    refine O_p rfl rfl rfl ?_
    refine O_h rfl rfl rfl rfl ?_
    refine O_v (.agg (oC c (.lst [] true) (.lst [] true))) rfl rfl rfl rfl ?_
    refine O_n rfl rfl rfl ?_
    refine O_hn rfl rfl rfl rfl ?_
    refine WO_nil ?_
    refine WL_seq ?_
    apply WLp
    · (repeat (first | exact rzz | apply rcc rfl | apply rnn rfl))
    conv => arg 4; (try simp only [nrm, Nat.reduceAdd, pCT, tCT, putCells, AVal.flat])
    conv => arg 3; (try simp only [nrm, Nat.reduceAdd, pCT, tCT, putCells, AVal.flat])
    refine WL_seq ?_
    refine WL_seq ?_
    refine WL_reg ?_
    refine O_p rfl rfl rfl ?_
    refine WO_nil ?_
    refine WL_seq ?_
    apply WLp
    · (repeat (first | exact rzz | apply rcc rfl | apply rnn rfl))
    conv => arg 4; (try simp only [nrm, Nat.reduceAdd, pCT, tCT, putCells, AVal.flat])
    conv => arg 3; (try simp only [nrm, Nat.reduceAdd, pCT, tCT, putCells, AVal.flat])
    refine WL_block ?_
    refine WL_seq ?_
    refine WL_own rfl ?_
    apply WL_forv (hc := [.cells (cC c), .cells [.int .i64 0, .int .i64 0, .int .i64 0, .int .i64 0, .int .i64 0, .int .i64 0, .int .i64 0, .int .i64 0, .lst [] true, .int .i64 0, .int .i64 0, .lst [] true]]) (α := Nat) (fun i => [(4, .int .i64 (i : Nat))]) (fun i => [.cells (oC c (.gl 3 i) (.lst [] true)), .grow (es0 12 i) ((c.pairs.take i).map encC) none]) (fun i => i ≤ c.pairs.length) (fun i => c.pairs.length - i) (0) (he := ?he) (hh := ?hh) (hP := ?hP) (hk := ?hk) (round := ?round)
    case he =>
      (repeat (first | exact rzz | apply rcc rfl | apply rnn rfl))
    case hh =>
      rfl
    case hP =>
      omega
    case hk =>
      show c.pairs.length - 0 < n; omega
    case round =>
      rintro i hi
      dsimp only [List.cons_append, List.nil_append] at *
      refine WL_seq ?_
      refine WL_seq ?_
      refine WL_reg ?_
      refine O_p rfl rfl rfl ?_
      refine O_p rfl rfl rfl ?_
      refine O_h rfl rfl rfl rfl ?_
      refine O_h rfl rfl rfl rfl ?_
      refine O_p rfl rfl rfl ?_
      refine WO_nil ?_
      refine WL_seq ?_
      apply WLp
      · (repeat (first | exact rzz | apply rcc rfl | apply rnn rfl))
      conv => arg 4; (try simp only [nrm, Nat.reduceAdd, pCT, tCT, putCells, AVal.flat])
      conv => arg 3; (try simp only [nrm, Nat.reduceAdd, pCT, tCT, putCells, AVal.flat])
      refine WL_cond rfl (fun h21 => ?_) (fun h21 => ?_)
      · skip
        simp at h21
        obtain ⟨x, hx⟩ : ∃ x, (c.pairs)[i]? = some x := ⟨_, List.getElem?_eq_getElem (by omega)⟩
        have hmx := List.mem_of_getElem? hx
        have hsx := szC_pairs hmx
        refine WL_skip ?_
        refine WL_seq ?_
        apply WLp
        · (repeat (first | exact rzz | apply rcc rfl | apply rnn rfl))
        conv => arg 4; (try simp only [nrm, Nat.reduceAdd, pCT, tCT, putCells, AVal.flat])
        conv => arg 3; (try simp only [nrm, Nat.reduceAdd, pCT, tCT, putCells, AVal.flat])
        refine WL_seq ?_
        refine WL_block ?_
        refine WL_draw ?_
        refine D_p rfl rfl rfl ?_
        refine D_h (d := some 25) rfl rfl rfl rfl rfl ?_
        refine D_p rfl rfl rfl ?_
        refine D_h (d := some 27) rfl rfl rfl rfl rfl ?_
        refine D_p rfl rfl rfl ?_
        refine D_ia rfl rfl (Int.natCast_nonneg _) (encC_get (i := (i : Nat)) hx) (encC_flat _) rfl ?_
        refine D_h (d := some 30) rfl rfl rfl rfl rfl ?_
        refine D_c 16 rfl rfl rfl (callA_of rfl (ih x (by omega) (w6 x hmx))) ?_
        refine D_h (d := some 32) rfl rfl rfl rfl rfl ?_
        refine D_push (y := vC x) rfl rfl rfl (by simp; omega) (es0_or 12 i) (encC_w _) rfl (by omega) rfl (take_succ_map hx).symm rfl ?_
        refine D_p rfl rfl rfl ?_
        refine D_h (d := none) rfl rfl rfl rfl rfl ?_
        refine WD_nil2 rfl ?_
        refine WL_nil ?_
        refine Blk_norm (?_ : WL _ _ _ _ _)
        refine WL_seq ?_
        apply WLp
        · (repeat (first | exact rzz | apply rcc rfl | apply rnn rfl))
        conv => arg 4; (try simp only [nrm, Nat.reduceAdd, pCT, tCT, putCells, AVal.flat])
        conv => arg 3; (try simp only [nrm, Nat.reduceAdd, pCT, tCT, putCells, AVal.flat])
        refine WL_reg ?_
        refine O_p rfl rfl rfl ?_
        refine O_p rfl rfl rfl ?_
        refine O_p rfl rfl rfl ?_
        refine WO_nil ?_
        refine WL_nil ?_
        refine RndV_norm (i + 1) (by omega) (by show _ < _; omega) ?_ rfl
        · rw [wrap_succ (by omega)]; (repeat (first | exact rzz | apply rcc rfl | apply rnn rfl))
      · skip
        simp at h21
        obtain rfl : i = c.pairs.length := by omega
        simp only [List.take_length]
        refine WL_exit ?_
        refine RndV_exit ?_
        refine Blk_exit (?_ : WL _ _ _ _ _)
        refine WL_seq ?_
        apply WLp
        · (repeat (first | exact rzz | apply rcc rfl | apply rnn rfl))
        conv => arg 4; (try simp only [nrm, Nat.reduceAdd, pCT, tCT, putCells, AVal.flat])
        conv => arg 3; (try simp only [nrm, Nat.reduceAdd, pCT, tCT, putCells, AVal.flat])
        refine WL_seq ?_
        refine WL_seq ?_
        refine WL_reg ?_
        refine O_p rfl rfl rfl ?_
        refine WO_nil ?_
        refine WL_seq ?_
        apply WLp
        · (repeat (first | exact rzz | apply rcc rfl | apply rnn rfl))
        conv => arg 4; (try simp only [nrm, Nat.reduceAdd, pCT, tCT, putCells, AVal.flat])
        conv => arg 3; (try simp only [nrm, Nat.reduceAdd, pCT, tCT, putCells, AVal.flat])
        refine WL_block ?_
        refine WL_seq ?_
        refine WL_own rfl ?_
        apply WL_forv (hc := [.cells (cC c), .cells [.int .i64 0, .int .i64 0, .int .i64 0, .int .i64 0, .int .i64 0, .int .i64 0, .int .i64 0, .int .i64 0, .lst [] true, .int .i64 0, .int .i64 0, .lst [] true]]) (α := Nat) (fun i => [(5, .int .i64 (i : Nat))]) (fun i => [.cells (oC c (.gl 3 c.pairs.length) (.gl 4 i)), .grow (es0 12 c.pairs.length) (c.pairs.map encC) none, .grow (es0 12 i) ((c.funs.take i).map encC) none]) (fun i => i ≤ c.funs.length) (fun i => c.funs.length - i) (0) (he := ?he) (hh := ?hh) (hP := ?hP) (hk := ?hk) (round := ?round)
        case he =>
          (repeat (first | exact rzz | apply rcc rfl | apply rnn rfl))
        case hh =>
          rfl
        case hP =>
          omega
        case hk =>
          show c.funs.length - 0 < n; omega
        case round =>
          rintro i hi
          dsimp only [List.cons_append, List.nil_append] at *
          refine WL_seq ?_
          refine WL_seq ?_
          refine WL_reg ?_
          refine O_p rfl rfl rfl ?_
          refine O_p rfl rfl rfl ?_
          refine O_h rfl rfl rfl rfl ?_
          refine O_h rfl rfl rfl rfl ?_
          refine O_p rfl rfl rfl ?_
          refine WO_nil ?_
          refine WL_seq ?_
          apply WLp
          · (repeat (first | exact rzz | apply rcc rfl | apply rnn rfl))
          conv => arg 4; (try simp only [nrm, Nat.reduceAdd, pCT, tCT, putCells, AVal.flat])
          conv => arg 3; (try simp only [nrm, Nat.reduceAdd, pCT, tCT, putCells, AVal.flat])
          refine WL_cond rfl (fun h39 => ?_) (fun h39 => ?_)
          · skip
            simp at h39
            obtain ⟨x, hx⟩ : ∃ x, (c.funs)[i]? = some x := ⟨_, List.getElem?_eq_getElem (by omega)⟩
            have hmx := List.mem_of_getElem? hx
            have hsx := szC_funs hmx
            refine WL_skip ?_
            refine WL_seq ?_
            apply WLp
            · (repeat (first | exact rzz | apply rcc rfl | apply rnn rfl))
            conv => arg 4; (try simp only [nrm, Nat.reduceAdd, pCT, tCT, putCells, AVal.flat])
            conv => arg 3; (try simp only [nrm, Nat.reduceAdd, pCT, tCT, putCells, AVal.flat])
            refine WL_seq ?_
            refine WL_block ?_
            refine WL_draw ?_
            refine D_p rfl rfl rfl ?_
            refine D_h (d := some 43) rfl rfl rfl rfl rfl ?_
            refine D_p rfl rfl rfl ?_
            refine D_h (d := some 45) rfl rfl rfl rfl rfl ?_
            refine D_p rfl rfl rfl ?_
            refine D_ia rfl rfl (Int.natCast_nonneg _) (encC_get (i := (i : Nat)) hx) (encC_flat _) rfl ?_
            refine D_h (d := some 48) rfl rfl rfl rfl rfl ?_
            refine D_c 16 rfl rfl rfl (callA_of rfl (ih x (by omega) (w7 x hmx))) ?_
            refine D_h (d := some 50) rfl rfl rfl rfl rfl ?_
            refine D_push (y := vC x) rfl rfl rfl (by simp; omega) (es0_or 12 i) (encC_w _) rfl (by omega) rfl (take_succ_map hx).symm rfl ?_
            refine D_p rfl rfl rfl ?_
            refine D_h (d := none) rfl rfl rfl rfl rfl ?_
            refine WD_nil2 rfl ?_
            refine WL_nil ?_
            refine Blk_norm (?_ : WL _ _ _ _ _)
            refine WL_seq ?_
            apply WLp
            · (repeat (first | exact rzz | apply rcc rfl | apply rnn rfl))
            conv => arg 4; (try simp only [nrm, Nat.reduceAdd, pCT, tCT, putCells, AVal.flat])
            conv => arg 3; (try simp only [nrm, Nat.reduceAdd, pCT, tCT, putCells, AVal.flat])
            refine WL_reg ?_
            refine O_p rfl rfl rfl ?_
            refine O_p rfl rfl rfl ?_
            refine O_p rfl rfl rfl ?_
            refine WO_nil ?_
            refine WL_nil ?_
            refine RndV_norm (i + 1) (by omega) (by show _ < _; omega) ?_ rfl
            · rw [wrap_succ (by omega)]; (repeat (first | exact rzz | apply rcc rfl | apply rnn rfl))
          · skip
            simp at h39
            obtain rfl : i = c.funs.length := by omega
            simp only [List.take_length]
            refine WL_exit ?_
            refine RndV_exit ?_
            refine Blk_exit (?_ : WL _ _ _ _ _)
            refine WL_seq ?_
            apply WLp
            · (repeat (first | exact rzz | apply rcc rfl | apply rnn rfl))
            conv => arg 4; (try simp only [nrm, Nat.reduceAdd, pCT, tCT, putCells, AVal.flat])
            conv => arg 3; (try simp only [nrm, Nat.reduceAdd, pCT, tCT, putCells, AVal.flat])
            refine WL_seq ?_
            refine WL_reg ?_
            refine O_h rfl rfl rfl rfl ?_
            refine O_hn rfl rfl rfl rfl ?_
            refine WO_nil ?_
            refine WL_ret ?_
            exact ⟨_, rfl, vC c, (by show shutR _ (.agg (oC c (.gl 3 c.pairs.length) (.gl 4 c.funs.length))) = _; simp [shutR, shutRL, growAt, oC, cC]), rfl⟩
end Go.Ev.Seat
namespace Go.Ev.Seat
set_option linter.unusedVariables false
set_option linter.unusedSimpArgs false
open Go Go.Ev
set_option maxRecDepth 20000
attribute [local irreducible] pcall callF
theorem light_law (n : Nat) (c : Co) (h : szC c < n) (hw : WfC c) : pcall (tabOf tabL) (n + 3) 9 [vC c] = some (.ok (.bool (shalC c 30 && decide (rszC c 60 < 150)))) := by
  refine pcall_fin t9 ?_
  refine WL_seq ?_
  refine WL_reg ?_
  refine O_n rfl rfl rfl ?_
  refine O_p rfl rfl rfl ?_
  refine WO_nil ?_
  refine WL_seq ?_
  apply WLp
  · (repeat (first | exact rzz | apply rcc rfl | apply rnn rfl))
  refine WL_seq ?_
  refine WL_seq ?_
  refine WL_reg ?_
  refine O_h rfl rfl rfl rfl ?_
  refine O_c 39 rfl rfl (callA_of rfl (shal_c (n + 2) c 30 (by omega) hw (by omega))) ?_
  refine O_p rfl rfl rfl ?_
  refine WO_nil ?_
  refine WL_seq ?_
  apply WLp
  · (repeat (first | exact rzz | apply rcc rfl | apply rnn rfl))
  refine WL_cond rfl (fun h5 => ?_) (fun h5 => ?_)
  · skip
    have hr : (shalC c 30 && decide (rszC c 60 < 150)) = false := by simp at h5; simp [h5]
    refine WL_seq ?_
    refine WL_reg ?_
    refine O_p rfl rfl rfl ?_
    refine WO_nil ?_
    refine WL_ret ?_
    exact ⟨_, rfl, _, rfl, by rw [hr]⟩
  · skip
    simp at h5
    have hr : (shalC c 30 && decide (rszC c 60 < 150)) = decide (rszC c 60 < 150) := by simp [h5]
    have hm := smC_shal 30 c h5
    refine WL_skip ?_
    refine WL_seq ?_
    apply WLp
    · (repeat (first | exact rzz | apply rcc rfl | apply rnn rfl))
    refine WL_seq ?_
    refine WL_reg ?_
    refine O_h rfl rfl rfl rfl ?_
    refine O_c 16 rfl rfl (callA_of rfl (to_c (n + 2) c (by omega) hm)) ?_
    refine O_c 40 rfl rfl (callA_of rfl (cLight_c (n + 1) c (by omega) hm)) ?_
    refine O_p rfl rfl rfl ?_
    refine WO_nil ?_
    refine WL_ret ?_
    exact ⟨_, rfl, _, rfl, by rw [hr]⟩
theorem same_ref : ∀ (n : Nat) (a b : Co), szC a < n → SmC a → pcall (tabOf tabL) n 26 [vC a, vC b] = some (.ok (.bool (sameC a b)))
  | 0, a, b, h, _ => by omega
  | n + 1, a, b, h, hw => by
    have ih := same_ref n
    have hp := lenC_pairs a
    have hf := lenC_funs a
    cases hw with | mk w4 w5 w6 w7 =>
    refine pcall_fin t26 ?_
    refine WL_seq ?_
    refine WL_reg ?_
    refine O_n rfl rfl rfl ?_
    refine O_n rfl rfl rfl ?_
    refine O_p rfl rfl rfl ?_
    refine WO_nil ?_
    refine WL_seq ?_
    apply WLp
    · (repeat (first | exact rzz | apply rcc rfl | apply rnn rfl))
    refine WL_seq ?_
    refine WL_seq ?_
    refine WL_reg ?_
    refine O_p rfl rfl rfl ?_
    refine O_h rfl rfl rfl rfl ?_
    refine O_p rfl rfl rfl ?_
    refine O_h rfl rfl rfl rfl ?_
    refine O_p rfl rfl rfl ?_
    refine O_p rfl rfl rfl ?_
    apply O_or [_, _, _, _, _] rfl rfl (hT := ?hT18) (h := ?hR18)
    case hT18 =>
      intro hb12
      refine O_p rfl rfl rfl ?_
      refine O_h rfl rfl rfl rfl ?_
      refine O_p rfl rfl rfl ?_
      refine O_h rfl rfl rfl rfl ?_
      refine O_p rfl rfl rfl ?_
      exact WO_nil (WL_nil ⟨rfl, rfl, rfl⟩)
    case hR18 =>
      intro vs hvs
      obtain ⟨u13, u14, u15, u16, u17, rfl⟩ := len5 hvs
      clear hvs; dsimp only [junk]
      refine O_p rfl rfl rfl ?_
      apply O_or [_, _, _, _, _] rfl rfl (hT := ?hT25) (h := ?hR25)
      case hT25 =>
        intro hb19
        refine O_p rfl rfl rfl ?_
        refine O_h rfl rfl rfl rfl ?_
        refine O_p rfl rfl rfl ?_
        refine O_h rfl rfl rfl rfl ?_
        refine O_p rfl rfl rfl ?_
        exact WO_nil (WL_nil ⟨rfl, rfl, rfl⟩)
      case hR25 =>
        intro vs hvs
        obtain ⟨u20, u21, u22, u23, u24, rfl⟩ := len5 hvs
        clear hvs; dsimp only [junk]
        refine O_p rfl rfl rfl ?_
        apply O_or [_, _, _, _, _] rfl rfl (hT := ?hT32) (h := ?hR32)
        case hT32 =>
          intro hb26
          refine O_p rfl rfl rfl ?_
          refine O_h rfl rfl rfl rfl ?_
          refine O_p rfl rfl rfl ?_
          refine O_h rfl rfl rfl rfl ?_
          refine O_p rfl rfl rfl ?_
          exact WO_nil (WL_nil ⟨rfl, rfl, rfl⟩)
        case hR32 =>
          intro vs hvs
          obtain ⟨u27, u28, u29, u30, u31, rfl⟩ := len5 hvs
          clear hvs; dsimp only [junk]
          refine O_p rfl rfl rfl ?_
          apply O_or [_, _, _, _, _] rfl rfl (hT := ?hT39) (h := ?hR39)
          case hT39 =>
            intro hb33
            refine O_p rfl rfl rfl ?_
            refine O_h rfl rfl rfl rfl ?_
            refine O_p rfl rfl rfl ?_
            refine O_h rfl rfl rfl rfl ?_
            refine O_p rfl rfl rfl ?_
            exact WO_nil (WL_nil ⟨rfl, rfl, rfl⟩)
          case hR39 =>
            intro vs hvs
            obtain ⟨u34, u35, u36, u37, u38, rfl⟩ := len5 hvs
            clear hvs; dsimp only [junk]
            refine O_p rfl rfl rfl ?_
            apply O_or [_, _, _, _, _, _, _] rfl rfl (hT := ?hT48) (h := ?hR48)
            case hT48 =>
              intro hb40
              refine O_p rfl rfl rfl ?_
              refine O_h rfl rfl rfl rfl ?_
              refine O_h rfl rfl rfl rfl ?_
              refine O_p rfl rfl rfl ?_
              refine O_h rfl rfl rfl rfl ?_
              refine O_h rfl rfl rfl rfl ?_
              refine O_p rfl rfl rfl ?_
              exact WO_nil (WL_nil ⟨rfl, rfl, rfl⟩)
            case hR48 =>
              intro vs hvs
              obtain ⟨u41, u42, u43, u44, u45, u46, u47, rfl⟩ := len7 hvs
              clear hvs; dsimp only [junk]
              refine O_p rfl rfl rfl ?_
              apply O_or [_, _, _, _, _, _, _] rfl rfl (hT := ?hT57) (h := ?hR57)
              case hT57 =>
                intro hb49
                refine O_p rfl rfl rfl ?_
                refine O_h rfl rfl rfl rfl ?_
                refine O_h rfl rfl rfl rfl ?_
                refine O_p rfl rfl rfl ?_
                refine O_h rfl rfl rfl rfl ?_
                refine O_h rfl rfl rfl rfl ?_
                refine O_p rfl rfl rfl ?_
                exact WO_nil (WL_nil ⟨rfl, rfl, rfl⟩)
              case hR57 =>
                intro vs hvs
                obtain ⟨u50, u51, u52, u53, u54, u55, u56, rfl⟩ := len7 hvs
                clear hvs; dsimp only [junk]
                refine WO_nil ?_
                refine WL_seq ?_
                apply WLp
                · (repeat (first | exact rzz | apply rcc rfl | apply rnn rfl))
                try clear u13 u14 u15 u16 u17 u20 u21 u22 u23 u24 u27 u28 u29 u30 u31 u34 u35 u36 u37 u38 u41 u42 u43 u44 u45 u46 u47 u50 u51 u52 u53 u54 u55 u56
                refine WL_cond rfl (fun h57 => ?_) (fun h57 => ?_)
                · skip
                  have hr : sameC a b = false := by
                    cases q : sameC a b with
                    | false => rfl
                    | true =>
                      rw [sameC_eq] at q
                      simp only [Bool.and_eq_true] at q
                      have e1 := sameCs_len q.1.2
                      have e2 := sameCs_len q.2
                      simp [six] at q h57
                      simp [q, e1, e2] at h57
                  refine WL_seq ?_
                  refine WL_reg ?_
                  refine O_p rfl rfl rfl ?_
                  refine WO_nil ?_
                  refine WL_ret ?_
                  exact ⟨_, rfl, _, rfl, by rw [hr]⟩
                · skip
                  have hk : sameC a b = (sameCs a.pairs b.pairs && sameCs a.funs b.funs) := by
                    rw [sameC_eq]; simp at h57; simp [six, h57]
                  simp at h57
                  obtain ⟨⟨k0, k5⟩, k6⟩ := h57
                  refine WL_skip ?_
                  refine WL_seq ?_
                  apply WLp
                  · (repeat (first | exact rzz | apply rcc rfl | apply rnn rfl))
                  refine WL_seq ?_
                  refine WL_seq ?_
                  refine WL_reg ?_
                  refine O_p rfl rfl rfl ?_
                  refine WO_nil ?_
                  refine WL_seq ?_
                  apply WLp
                  · (repeat (first | exact rzz | apply rcc rfl | apply rnn rfl))
                  refine WL_block ?_
                  apply WL_forc (α := Nat) (fun i => [(5, .int .i64 (i : Int))]) (fun i => i ≤ a.pairs.length ∧ sameCs a.pairs b.pairs = sameCs (a.pairs.drop i) (b.pairs.drop i)) (fun i => a.pairs.length - i) (0) (he := ?he) (hP := ?hP) (hk := ?hk) (round := ?round)
                  case he =>
                    (repeat (first | exact rzz | apply rcc rfl | apply rnn rfl))
                  case hP =>
                    exact ⟨by omega, rfl⟩
                  case hk =>
                    show a.pairs.length - 0 < n; omega
                  case round =>
                    rintro i ⟨hi, hs⟩
                    dsimp only [List.cons_append, List.nil_append] at *
                    refine WL_seq ?_
                    refine WL_seq ?_
                    refine WL_reg ?_
                    refine O_p rfl rfl rfl ?_
                    refine O_p rfl rfl rfl ?_
                    refine O_h rfl rfl rfl rfl ?_
                    refine O_h rfl rfl rfl rfl ?_
                    refine O_p rfl rfl rfl ?_
                    refine WO_nil ?_
                    refine WL_seq ?_
                    apply WLp
                    · (repeat (first | exact rzz | apply rcc rfl | apply rnn rfl))
                    refine WL_cond rfl (fun h62 => ?_) (fun h62 => ?_)
                    · skip
                      simp at h62
                      obtain ⟨x, hx⟩ : ∃ x, (a.pairs)[i]? = some x := ⟨_, List.getElem?_eq_getElem (by omega)⟩
                      have hmx := List.mem_of_getElem? hx
                      have hsx := szC_pairs hmx
                      obtain ⟨y, hy⟩ : ∃ y, (b.pairs)[i]? = some y := ⟨_, List.getElem?_eq_getElem (by omega)⟩
                      have hmy := List.mem_of_getElem? hy
                      refine WL_skip ?_
                      refine WL_seq ?_
                      apply WLp
                      · (repeat (first | exact rzz | apply rcc rfl | apply rnn rfl))
                      refine WL_seq ?_
                      refine WL_block ?_
                      refine WL_seq ?_
                      refine WL_drawS (ops := [_, _, _, _, _, _, _, _, _, _, _, _]) rfl rfl ?_
                      refine O_p rfl rfl rfl ?_
                      refine O_h rfl rfl rfl rfl ?_
                      refine O_p rfl rfl rfl ?_
                      refine O_ia rfl rfl (Int.natCast_nonneg _) (encC_get (i := (i : Nat)) hx) (encC_flat _) rfl ?_
                      refine O_h rfl rfl rfl rfl ?_
                      refine O_p rfl rfl rfl ?_
                      refine O_h rfl rfl rfl rfl ?_
                      refine O_p rfl rfl rfl ?_
                      refine O_ia rfl rfl (Int.natCast_nonneg _) (encC_get (i := (i : Nat)) hy) (encC_flat _) rfl ?_
                      refine O_h rfl rfl rfl rfl ?_
                      refine O_c 26 rfl rfl (callA_of rfl (ih x y (by omega) (w6 x hmx))) ?_
                      refine O_p rfl rfl rfl ?_
                      refine WO_nil (WL_nil ⟨rfl, ?_⟩)
                      refine WL_seq ?_
                      apply WLp
                      · (repeat (first | exact rzz | apply rcc rfl | apply rnn rfl))
                      refine WL_cond rfl (fun h76 => ?_) (fun h76 => ?_)
                      · skip
                        have hr : sameC a b = false := by
                          simp at h76
                          rw [hk, hs, drop_of hx, drop_of hy]; simp [sameCs, h76]
                        refine WL_seq ?_
                        refine WL_reg ?_
                        refine O_p rfl rfl rfl ?_
                        refine WO_nil ?_
                        refine WL_ret ?_
                        refine Blk_ret ?_
                        refine RndC_ret ?_
                        refine Blk_ret ?_
                        exact ⟨_, rfl, _, rfl, by rw [hr]⟩
                      · skip
                        refine WL_skip ?_
                        refine WL_nil ?_
                        refine Blk_norm (?_ : WL _ _ _ _ _)
                        refine WL_seq ?_
                        apply WLp
                        · (repeat (first | exact rzz | apply rcc rfl | apply rnn rfl))
                        refine WL_reg ?_
                        refine O_p rfl rfl rfl ?_
                        refine O_p rfl rfl rfl ?_
                        refine O_p rfl rfl rfl ?_
                        refine WO_nil ?_
                        refine WL_nil ?_
                        simp at h76
                        refine RndC_norm (i + 1) (by refine ⟨by omega, ?_⟩; rw [hs, drop_of hx, drop_of hy, sameCs, h76]; rfl) (by show _ < _; omega) ?_ rfl
                        · rw [wrap_succ (by omega)]; (repeat (first | exact rzz | apply rcc rfl | apply rnn rfl))
                    · skip
                      have hq : sameCs a.pairs b.pairs = true := by
                        simp at h62
                        rw [hs, List.drop_eq_nil_of_le (by omega), List.drop_eq_nil_of_le (by omega)]; rfl
                      refine WL_exit ?_
                      refine RndC_exit ?_
                      refine Blk_exit (?_ : WL _ _ _ _ _)
                      refine WL_seq ?_
                      apply WLp
                      · (repeat (first | exact rzz | apply rcc rfl | apply rnn rfl))
                      refine WL_seq ?_
                      refine WL_seq ?_
                      refine WL_reg ?_
                      refine O_p rfl rfl rfl ?_
                      refine WO_nil ?_
                      refine WL_seq ?_
                      apply WLp
                      · (repeat (first | exact rzz | apply rcc rfl | apply rnn rfl))
                      refine WL_block ?_
                      apply WL_forc (α := Nat) (fun i => [(6, .int .i64 (i : Int))]) (fun i => i ≤ a.funs.length ∧ sameCs a.funs b.funs = sameCs (a.funs.drop i) (b.funs.drop i)) (fun i => a.funs.length - i) (0) (he := ?he) (hP := ?hP) (hk := ?hk) (round := ?round)
                      case he =>
                        (repeat (first | exact rzz | apply rcc rfl | apply rnn rfl))
                      case hP =>
                        exact ⟨by omega, rfl⟩
                      case hk =>
                        show a.funs.length - 0 < n; omega
                      case round =>
                        rintro i ⟨hi, hs⟩
                        dsimp only [List.cons_append, List.nil_append] at *
                        refine WL_seq ?_
                        refine WL_seq ?_
                        refine WL_reg ?_
                        refine O_p rfl rfl rfl ?_
                        refine O_p rfl rfl rfl ?_
                        refine O_h rfl rfl rfl rfl ?_
                        refine O_h rfl rfl rfl rfl ?_
                        refine O_p rfl rfl rfl ?_
                        refine WO_nil ?_
                        refine WL_seq ?_
                        apply WLp
                        · (repeat (first | exact rzz | apply rcc rfl | apply rnn rfl))
                        refine WL_cond rfl (fun h81 => ?_) (fun h81 => ?_)
                        · skip
                          simp at h81
                          obtain ⟨x, hx⟩ : ∃ x, (a.funs)[i]? = some x := ⟨_, List.getElem?_eq_getElem (by omega)⟩
                          have hmx := List.mem_of_getElem? hx
                          have hsx := szC_funs hmx
                          obtain ⟨y, hy⟩ : ∃ y, (b.funs)[i]? = some y := ⟨_, List.getElem?_eq_getElem (by omega)⟩
                          have hmy := List.mem_of_getElem? hy
                          refine WL_skip ?_
                          refine WL_seq ?_
                          apply WLp
                          · (repeat (first | exact rzz | apply rcc rfl | apply rnn rfl))
                          refine WL_seq ?_
                          refine WL_block ?_
                          refine WL_seq ?_
                          refine WL_drawS (ops := [_, _, _, _, _, _, _, _, _, _, _, _]) rfl rfl ?_
                          refine O_p rfl rfl rfl ?_
                          refine O_h rfl rfl rfl rfl ?_
                          refine O_p rfl rfl rfl ?_
                          refine O_ia rfl rfl (Int.natCast_nonneg _) (encC_get (i := (i : Nat)) hx) (encC_flat _) rfl ?_
                          refine O_h rfl rfl rfl rfl ?_
                          refine O_p rfl rfl rfl ?_
                          refine O_h rfl rfl rfl rfl ?_
                          refine O_p rfl rfl rfl ?_
                          refine O_ia rfl rfl (Int.natCast_nonneg _) (encC_get (i := (i : Nat)) hy) (encC_flat _) rfl ?_
                          refine O_h rfl rfl rfl rfl ?_
                          refine O_c 26 rfl rfl (callA_of rfl (ih x y (by omega) (w7 x hmx))) ?_
                          refine O_p rfl rfl rfl ?_
                          refine WO_nil (WL_nil ⟨rfl, ?_⟩)
                          refine WL_seq ?_
                          apply WLp
                          · (repeat (first | exact rzz | apply rcc rfl | apply rnn rfl))
                          refine WL_cond rfl (fun h95 => ?_) (fun h95 => ?_)
                          · skip
                            have hr : sameC a b = false := by
                              simp at h95
                              rw [hk, hs, drop_of hx, drop_of hy]; simp [sameCs, h95]
                            refine WL_seq ?_
                            refine WL_reg ?_
                            refine O_p rfl rfl rfl ?_
                            refine WO_nil ?_
                            refine WL_ret ?_
                            refine Blk_ret ?_
                            refine RndC_ret ?_
                            refine Blk_ret ?_
                            exact ⟨_, rfl, _, rfl, by rw [hr]⟩
                          · skip
                            refine WL_skip ?_
                            refine WL_nil ?_
                            refine Blk_norm (?_ : WL _ _ _ _ _)
                            refine WL_seq ?_
                            apply WLp
                            · (repeat (first | exact rzz | apply rcc rfl | apply rnn rfl))
                            refine WL_reg ?_
                            refine O_p rfl rfl rfl ?_
                            refine O_p rfl rfl rfl ?_
                            refine O_p rfl rfl rfl ?_
                            refine WO_nil ?_
                            refine WL_nil ?_
                            simp at h95
                            refine RndC_norm (i + 1) (by refine ⟨by omega, ?_⟩; rw [hs, drop_of hx, drop_of hy, sameCs, h95]; rfl) (by show _ < _; omega) ?_ rfl
                            · rw [wrap_succ (by omega)]; (repeat (first | exact rzz | apply rcc rfl | apply rnn rfl))
                        · skip
                          have hr : sameC a b = true := by
                            simp at h81
                            rw [hk, hq, hs, List.drop_eq_nil_of_le (by omega), List.drop_eq_nil_of_le (by omega)]; simp [sameCs]
                          refine WL_exit ?_
                          refine RndC_exit ?_
                          refine Blk_exit (?_ : WL _ _ _ _ _)
                          refine WL_seq ?_
                          apply WLp
                          · (repeat (first | exact rzz | apply rcc rfl | apply rnn rfl))
                          refine WL_seq ?_
                          refine WL_reg ?_
                          refine O_p rfl rfl rfl ?_
                          refine WO_nil ?_
                          refine WL_ret ?_
                          exact ⟨_, rfl, _, rfl, by rw [hr]⟩
theorem pass_c (n : Nat) (c : Co) : pcall (tabOf tabL) (n + 1) 27 [vC c] = some (.ok (.bool (passC c))) := by
  refine pcall_fin t27 ?_
  refine WL_seq ?_
  refine WL_reg ?_
  refine O_n rfl rfl rfl ?_
  refine O_p rfl rfl rfl ?_
  refine WO_nil ?_
  refine WL_seq ?_
  apply WLp
  · (repeat (first | exact rzz | apply rcc rfl | apply rnn rfl))
  refine WL_seq ?_
  refine WL_reg ?_
  refine O_p rfl rfl rfl ?_
  refine O_h rfl rfl rfl rfl ?_
  refine O_p rfl rfl rfl ?_
  refine O_p rfl rfl rfl ?_
  refine O_p rfl rfl rfl ?_
  apply O_and [_, _, _] rfl rfl (hT := ?hT11) (h := ?hR11)
  case hT11 =>
    intro hb7
    refine O_p rfl rfl rfl ?_
    refine O_h rfl rfl rfl rfl ?_
    refine O_p rfl rfl rfl ?_
    exact WO_nil (WL_nil ⟨rfl, rfl, rfl⟩)
  case hR11 =>
    intro vs hvs
    obtain ⟨u8, u9, u10, rfl⟩ := len3 hvs
    clear hvs; dsimp only [junk]
    refine O_p rfl rfl rfl ?_
    apply O_and [_, _, _] rfl rfl (hT := ?hT16) (h := ?hR16)
    case hT16 =>
      intro hb12
      refine O_p rfl rfl rfl ?_
      refine O_h rfl rfl rfl rfl ?_
      refine O_p rfl rfl rfl ?_
      exact WO_nil (WL_nil ⟨rfl, rfl, rfl⟩)
    case hR16 =>
      intro vs hvs
      obtain ⟨u13, u14, u15, rfl⟩ := len3 hvs
      clear hvs; dsimp only [junk]
      refine O_p rfl rfl rfl ?_
      apply O_and [_, _, _, _] rfl rfl (hT := ?hT22) (h := ?hR22)
      case hT22 =>
        intro hb17
        refine O_p rfl rfl rfl ?_
        refine O_h rfl rfl rfl rfl ?_
        refine O_h rfl rfl rfl rfl ?_
        refine O_p rfl rfl rfl ?_
        exact WO_nil (WL_nil ⟨rfl, rfl, rfl⟩)
      case hR22 =>
        intro vs hvs
        obtain ⟨u18, u19, u20, u21, rfl⟩ := len4 hvs
        clear hvs; dsimp only [junk]
        refine O_p rfl rfl rfl ?_
        apply O_and [_, _, _] rfl rfl (hT := ?hT27) (h := ?hR27)
        case hT27 =>
          intro hb23
          refine O_p rfl rfl rfl ?_
          refine O_h rfl rfl rfl rfl ?_
          refine O_p rfl rfl rfl ?_
          exact WO_nil (WL_nil ⟨rfl, rfl, rfl⟩)
        case hR27 =>
          intro vs hvs
          obtain ⟨u24, u25, u26, rfl⟩ := len3 hvs
          clear hvs; dsimp only [junk]
          refine O_p rfl rfl rfl ?_
          apply O_and [_, _, _] rfl rfl (hT := ?hT32) (h := ?hR32)
          case hT32 =>
            intro hb28
            refine O_p rfl rfl rfl ?_
            refine O_h rfl rfl rfl rfl ?_
            refine O_p rfl rfl rfl ?_
            exact WO_nil (WL_nil ⟨rfl, rfl, rfl⟩)
          case hR32 =>
            intro vs hvs
            obtain ⟨u29, u30, u31, rfl⟩ := len3 hvs
            clear hvs; dsimp only [junk]
            refine O_p rfl rfl rfl ?_
            apply O_and [_, _, _, _] rfl rfl (hT := ?hT38) (h := ?hR38)
            case hT38 =>
              intro hb33
              refine O_p rfl rfl rfl ?_
              refine O_h rfl rfl rfl rfl ?_
              refine O_h rfl rfl rfl rfl ?_
              refine O_p rfl rfl rfl ?_
              exact WO_nil (WL_nil ⟨rfl, rfl, rfl⟩)
            case hR38 =>
              intro vs hvs
              obtain ⟨u34, u35, u36, u37, rfl⟩ := len4 hvs
              clear hvs; dsimp only [junk]
              refine O_p rfl rfl rfl ?_
              refine WO_nil ?_
              refine WL_ret ?_
              refine ⟨_, rfl, _, rfl, ?_⟩
              simp [passC, six]
theorem acts_c (n : Nat) (c : Co) : pcall (tabOf tabL) (n + 2) 45 [vC c] = some (.ok (.bool (!passC c))) := by
  refine pcall_fin t45 ?_
  refine WL_seq ?_
  refine WL_reg ?_
  refine O_n rfl rfl rfl ?_
  refine O_p rfl rfl rfl ?_
  refine WO_nil ?_
  refine WL_seq ?_
  apply WLp
  · (repeat (first | exact rzz | apply rcc rfl | apply rnn rfl))
  refine WL_seq ?_
  refine WL_reg ?_
  refine O_h rfl rfl rfl rfl ?_
  refine O_c 27 rfl rfl (callA_of rfl (pass_c n c)) ?_
  refine O_p rfl rfl rfl ?_
  refine O_p rfl rfl rfl ?_
  refine WO_nil ?_
  refine WL_ret ?_
  exact ⟨_, rfl, _, rfl, rfl⟩
theorem same_law (n : Nat) (a b : Co) (h : szC a < n) (hw : SmC a) : pcall (tabOf tabL) (n + 1) 11 [vC a, vC b] = some (.ok (.bool (sameC a b))) := by
  refine pcall_fin t11 ?_
  refine WL_seq ?_
  refine WL_reg ?_
  refine O_n rfl rfl rfl ?_
  refine O_n rfl rfl rfl ?_
  refine O_p rfl rfl rfl ?_
  refine WO_nil ?_
  refine WL_seq ?_
  apply WLp
  · (repeat (first | exact rzz | apply rcc rfl | apply rnn rfl))
  refine WL_seq ?_
  refine WL_drawT [] rfl ?_
  refine S_h (d := some 5) rfl rfl rfl rfl rfl ?_
  refine S_c 16 rfl rfl rfl (callA_of rfl (to_c n a h hw)) ?_
  refine S_h (d := some 7) rfl rfl rfl rfl rfl ?_
  refine S_c 26 rfl rfl rfl (callA_of rfl (same_ref n a b h hw)) ?_
  refine S_p rfl rfl rfl ?_
  refine WS_nil ?_
  refine WL_ret ?_
  exact ⟨_, rfl, _, rfl, rfl⟩
theorem flats_c (n : Nat) (c : Co) (h : 6 < n) : pcall (tabOf tabL) (n + 1) 53 [vC c] = some (.ok (.bool (six (fun i => decide (c.flat i = 0))))) := by
  refine pcall_fin t53 ?_
  refine WL_seq ?_
  refine WL_reg ?_
  refine O_n rfl rfl rfl ?_
  refine O_p rfl rfl rfl ?_
  refine WO_nil ?_
  refine WL_seq ?_
  apply WLp
  · (repeat (first | exact rzz | apply rcc rfl | apply rnn rfl))
  refine WL_seq ?_
  refine WL_seq ?_
  refine WL_reg ?_
  refine O_p rfl rfl rfl ?_
  refine WO_nil ?_
  refine WL_seq ?_
  apply WLp
  · (repeat (first | exact rzz | apply rcc rfl | apply rnn rfl))
  refine WL_block ?_
  apply WL_forc (α := Nat) (fun i => [(3, .int .i64 (i : Nat))]) (fun i => i ≤ 6 ∧ ∀ j, j < i → c.flat j = 0) (fun i => 6 - i) (0) (he := ?he) (hP := ?hP) (hk := ?hk) (round := ?round)
  case he =>
    (repeat (first | exact rzz | apply rcc rfl | apply rnn rfl))
  case hP =>
    exact ⟨by omega, fun j hj => by omega⟩
  case hk =>
    show 6 - 0 < n; omega
  case round =>
    rintro i ⟨hi, hs⟩
    dsimp only [List.cons_append, List.nil_append] at *
    refine WL_seq ?_
    refine WL_seq ?_
    refine WL_reg ?_
    refine O_p rfl rfl rfl ?_
    refine O_p rfl rfl rfl ?_
    refine WO_nil ?_
    refine WL_seq ?_
    apply WLp
    · (repeat (first | exact rzz | apply rcc rfl | apply rnn rfl))
    refine WL_cond rfl (fun h5 => ?_) (fun h5 => ?_)
    · skip
      replace h5 : i < 6 := by simp at h5; omega
      refine WL_skip ?_
      refine WL_seq ?_
      apply WLp
      · (repeat (first | exact rzz | apply rcc rfl | apply rnn rfl))
      refine WL_seq ?_
      refine WL_block ?_
      refine WL_seq ?_
      refine WL_reg ?_
      refine O_p rfl rfl rfl ?_
      refine O_p rfl rfl rfl ?_
      refine O_iaa rfl rfl h5 ?_
      refine O_ld rfl rfl (by simp; exact cC_get h5) ?_
      refine O_p rfl rfl rfl ?_
      refine WO_nil ?_
      refine WL_seq ?_
      apply WLp
      · (repeat (first | exact rzz | apply rcc rfl | apply rnn rfl))
      refine WL_cond rfl (fun h12 => ?_) (fun h12 => ?_)
      · skip
        have hr : six (fun i => decide (c.flat i = 0)) = false := by
          simp at h12
          cases q : six (fun i => decide (c.flat i = 0)) with
          | false => rfl
          | true => exact absurd (six_at q h5) (by simpa using h12)
        refine WL_seq ?_
        refine WL_reg ?_
        refine O_p rfl rfl rfl ?_
        refine WO_nil ?_
        refine WL_ret ?_
        refine Blk_ret ?_
        refine RndC_ret ?_
        refine Blk_ret ?_
        exact ⟨_, rfl, _, rfl, by rw [hr]⟩
      · skip
        simp at h12
        refine WL_skip ?_
        refine WL_nil ?_
        refine Blk_norm (?_ : WL _ _ _ _ _)
        refine WL_seq ?_
        apply WLp
        · (repeat (first | exact rzz | apply rcc rfl | apply rnn rfl))
        refine WL_reg ?_
        refine O_p rfl rfl rfl ?_
        refine O_p rfl rfl rfl ?_
        refine O_p rfl rfl rfl ?_
        refine WO_nil ?_
        refine WL_nil ?_
        refine RndC_norm (i + 1) (by refine ⟨by omega, fun j hj => ?_⟩; rcases Nat.lt_succ_iff_lt_or_eq.1 hj with q | q; exact hs j q; rw [q]; exact h12) (by show _ < _; omega) ?_ rfl
        · rw [wrap_succ (by omega)]; (repeat (first | exact rzz | apply rcc rfl | apply rnn rfl))
    · skip
      have hr : six (fun i => decide (c.flat i = 0)) = true := by
        simp at h5
        simp [six, hs 0 (by omega), hs 1 (by omega), hs 2 (by omega), hs 3 (by omega), hs 4 (by omega), hs 5 (by omega)]
      refine WL_exit ?_
      refine RndC_exit ?_
      refine Blk_exit (?_ : WL _ _ _ _ _)
      refine WL_seq ?_
      apply WLp
      · (repeat (first | exact rzz | apply rcc rfl | apply rnn rfl))
      refine WL_seq ?_
      refine WL_reg ?_
      refine O_p rfl rfl rfl ?_
      refine WO_nil ?_
      refine WL_ret ?_
      exact ⟨_, rfl, _, rfl, by rw [hr]⟩
end Go.Ev.Seat
namespace Go.Ev.Seat
set_option linter.unusedVariables false
set_option linter.unusedSimpArgs false
open Go Go.Ev
set_option maxRecDepth 20000
attribute [local irreducible] pcall callF
theorem passR_c (n : Nat) (c : Co) (h : 6 < n) : pcall (tabOf tabL) (n + 2) 28 [vC c] = some (.ok (.bool (passC c))) := by
  refine pcall_fin t28 ?_
  refine WL_seq ?_
  refine WL_reg ?_
  refine O_n rfl rfl rfl ?_
  refine O_p rfl rfl rfl ?_
  refine WO_nil ?_
  refine WL_seq ?_
  apply WLp
  · (repeat (first | exact rzz | apply rcc rfl | apply rnn rfl))
  refine WL_seq ?_
  refine WL_reg ?_
  refine O_h rfl rfl rfl rfl ?_
  refine O_c 53 rfl rfl (callA_of rfl (flats_c n c h)) ?_
  refine O_p rfl rfl rfl ?_
  apply O_and [_, _, _] rfl rfl (hT := ?hT9) (h := ?hR9)
  case hT9 =>
    intro hb5
    refine O_p rfl rfl rfl ?_
    refine O_h rfl rfl rfl rfl ?_
    refine O_p rfl rfl rfl ?_
    exact WO_nil (WL_nil ⟨rfl, rfl, rfl⟩)
  case hR9 =>
    intro vs hvs
    obtain ⟨u6, u7, u8, rfl⟩ := len3 hvs
    clear hvs; dsimp only [junk]
    refine O_p rfl rfl rfl ?_
    apply O_and [_, _, _] rfl rfl (hT := ?hT14) (h := ?hR14)
    case hT14 =>
      intro hb10
      refine O_p rfl rfl rfl ?_
      refine O_h rfl rfl rfl rfl ?_
      refine O_p rfl rfl rfl ?_
      exact WO_nil (WL_nil ⟨rfl, rfl, rfl⟩)
    case hR14 =>
      intro vs hvs
      obtain ⟨u11, u12, u13, rfl⟩ := len3 hvs
      clear hvs; dsimp only [junk]
      refine O_p rfl rfl rfl ?_
      apply O_and [_, _, _, _] rfl rfl (hT := ?hT20) (h := ?hR20)
      case hT20 =>
        intro hb15
        refine O_p rfl rfl rfl ?_
        refine O_h rfl rfl rfl rfl ?_
        refine O_h rfl rfl rfl rfl ?_
        refine O_p rfl rfl rfl ?_
        exact WO_nil (WL_nil ⟨rfl, rfl, rfl⟩)
      case hR20 =>
        intro vs hvs
        obtain ⟨u16, u17, u18, u19, rfl⟩ := len4 hvs
        clear hvs; dsimp only [junk]
        refine O_p rfl rfl rfl ?_
        apply O_and [_, _, _] rfl rfl (hT := ?hT25) (h := ?hR25)
        case hT25 =>
          intro hb21
          refine O_p rfl rfl rfl ?_
          refine O_h rfl rfl rfl rfl ?_
          refine O_p rfl rfl rfl ?_
          exact WO_nil (WL_nil ⟨rfl, rfl, rfl⟩)
        case hR25 =>
          intro vs hvs
          obtain ⟨u22, u23, u24, rfl⟩ := len3 hvs
          clear hvs; dsimp only [junk]
          refine O_p rfl rfl rfl ?_
          apply O_and [_, _, _] rfl rfl (hT := ?hT30) (h := ?hR30)
          case hT30 =>
            intro hb26
            refine O_p rfl rfl rfl ?_
            refine O_h rfl rfl rfl rfl ?_
            refine O_p rfl rfl rfl ?_
            exact WO_nil (WL_nil ⟨rfl, rfl, rfl⟩)
          case hR30 =>
            intro vs hvs
            obtain ⟨u27, u28, u29, rfl⟩ := len3 hvs
            clear hvs; dsimp only [junk]
            refine O_p rfl rfl rfl ?_
            apply O_and [_, _, _, _] rfl rfl (hT := ?hT36) (h := ?hR36)
            case hT36 =>
              intro hb31
              refine O_p rfl rfl rfl ?_
              refine O_h rfl rfl rfl rfl ?_
              refine O_h rfl rfl rfl rfl ?_
              refine O_p rfl rfl rfl ?_
              exact WO_nil (WL_nil ⟨rfl, rfl, rfl⟩)
            case hR36 =>
              intro vs hvs
              obtain ⟨u32, u33, u34, u35, rfl⟩ := len4 hvs
              clear hvs; dsimp only [junk]
              refine O_p rfl rfl rfl ?_
              refine WO_nil ?_
              refine WL_ret ?_
              refine ⟨_, rfl, _, rfl, ?_⟩
              simp [passC]
theorem all_c (n : Nat) (l : List Co) (b : Bool) (h : l.length + 10 < n) (hm : l.length < 1000000) : pcall (tabOf tabL) (n + 1) 44 [.lst (l.map encC) b] = some (.ok (.bool (l.all passC))) := by
  obtain ⟨n, rfl⟩ : ∃ m, n = m + 2 := ⟨n - 2, by omega⟩
  refine pcall_fin t44 ?_
  refine WL_seq ?_
  refine WL_reg ?_
  refine O_p rfl rfl rfl ?_
  refine WO_nil ?_
  refine WL_seq ?_
  apply WLp
  · (repeat (first | exact rzz | apply rcc rfl | apply rnn rfl))
  refine WL_seq ?_
  refine WL_seq ?_
  refine WL_reg ?_
  refine O_p rfl rfl rfl ?_
  refine WO_nil ?_
  refine WL_seq ?_
  apply WLp
  · (repeat (first | exact rzz | apply rcc rfl | apply rnn rfl))
  refine WL_block ?_
  apply WL_forc (α := Nat) (fun i => [(3, .int .i64 (i : Nat))]) (fun i => i ≤ l.length ∧ l.all passC = (l.drop i).all passC) (fun i => l.length - i) (0) (he := ?he) (hP := ?hP) (hk := ?hk) (round := ?round)
  case he =>
    (repeat (first | exact rzz | apply rcc rfl | apply rnn rfl))
  case hP =>
    exact ⟨by omega, rfl⟩
  case hk =>
    show l.length - 0 < n + 2; omega
  case round =>
    rintro i ⟨hi, hs⟩
    dsimp only [List.cons_append, List.nil_append] at *
    refine WL_seq ?_
    refine WL_seq ?_
    refine WL_reg ?_
    refine O_p rfl rfl rfl ?_
    refine O_p rfl rfl rfl ?_
    refine O_h rfl rfl rfl rfl ?_
    refine O_p rfl rfl rfl ?_
    refine WO_nil ?_
    refine WL_seq ?_
    apply WLp
    · (repeat (first | exact rzz | apply rcc rfl | apply rnn rfl))
    refine WL_cond rfl (fun h7 => ?_) (fun h7 => ?_)
    · skip
      simp at h7
      obtain ⟨x, hx⟩ : ∃ x, (l)[i]? = some x := ⟨_, List.getElem?_eq_getElem (by omega)⟩
      have hmx := List.mem_of_getElem? hx
      have hg := drop_of hx
      refine WL_skip ?_
      refine WL_seq ?_
      apply WLp
      · (repeat (first | exact rzz | apply rcc rfl | apply rnn rfl))
      refine WL_seq ?_
      refine WL_block ?_
      refine WL_seq ?_
      refine WL_reg ?_
      refine O_p rfl rfl rfl ?_
      refine O_p rfl rfl rfl ?_
      refine O_ia rfl rfl (Int.natCast_nonneg _) (encC_get (i := (i : Nat)) hx) (encC_flat _) rfl ?_
      refine O_h rfl rfl rfl rfl ?_
      refine O_c 28 rfl rfl (callA_of rfl (passR_c n x (by omega))) ?_
      refine O_p rfl rfl rfl ?_
      refine WO_nil ?_
      refine WL_seq ?_
      apply WLp
      · (repeat (first | exact rzz | apply rcc rfl | apply rnn rfl))
      refine WL_cond rfl (fun h15 => ?_) (fun h15 => ?_)
      · skip
        have hr : l.all passC = false := by
          simp at h15
          rw [hs, hg]; simp [h15]
        refine WL_seq ?_
        refine WL_reg ?_
        refine O_p rfl rfl rfl ?_
        refine WO_nil ?_
        refine WL_ret ?_
        refine Blk_ret ?_
        refine RndC_ret ?_
        refine Blk_ret ?_
        exact ⟨_, rfl, _, rfl, by rw [hr]⟩
      · skip
        simp at h15
        refine WL_skip ?_
        refine WL_nil ?_
        refine Blk_norm (?_ : WL _ _ _ _ _)
        refine WL_seq ?_
        apply WLp
        · (repeat (first | exact rzz | apply rcc rfl | apply rnn rfl))
        refine WL_reg ?_
        refine O_p rfl rfl rfl ?_
        refine O_p rfl rfl rfl ?_
        refine O_p rfl rfl rfl ?_
        refine WO_nil ?_
        refine WL_nil ?_
        refine RndC_norm (i + 1) (by refine ⟨by omega, ?_⟩; rw [hs, hg]; simp [h15]) (by show _ < _; omega) ?_ rfl
        · rw [wrap_succ (by omega)]; (repeat (first | exact rzz | apply rcc rfl | apply rnn rfl))
    · skip
      have hr : l.all passC = true := by
        simp at h7
        rw [hs, List.drop_eq_nil_of_le (by omega)]; rfl
      refine WL_exit ?_
      refine RndC_exit ?_
      refine Blk_exit (?_ : WL _ _ _ _ _)
      refine WL_seq ?_
      apply WLp
      · (repeat (first | exact rzz | apply rcc rfl | apply rnn rfl))
      refine WL_seq ?_
      refine WL_reg ?_
      refine O_p rfl rfl rfl ?_
      refine WO_nil ?_
      refine WL_ret ?_
      exact ⟨_, rfl, _, rfl, by rw [hr]⟩
theorem grow_c (n : Nat) (k : Nat) (H : Heap) (h0 : 0 < k) (hk : k ≤ 1000000) : callF (tabOf tabL) (n + 1) 61 [.lst [] true, .int .i64 (k : Nat)] H = some (.ok (.gl (H.length + 1) 0), H ++ [.dead, .grow 12 [] none]) := by
  have e1 : IntKind.i64.wrap (0 - 0) = 0 := by decide
  have e2 : IntKind.i64.wrap ((k : Int) - 0) = k := by rw [kw_i64_id (by omega) (by omega)]; omega
  refine callF_fin t61 ?_
  refine WL_seq ?_
  refine WL_reg ?_
  refine O_p rfl rfl rfl ?_
  refine WO_nil ?_
  refine WL_seq ?_
  apply WLp
  · (repeat (first | exact rzz | apply rcc rfl | apply rnn rfl))
  refine WL_seq ?_
  refine WL_seq ?_
  refine WL_reg ?_
  refine O_p rfl rfl rfl ?_
  refine O_p rfl rfl rfl ?_
  refine WO_nil ?_
  refine WL_seq ?_
  apply WLp
  · (repeat (first | exact rzz | apply rcc rfl | apply rnn rfl))
  refine WL_cond rfl (fun h6 => ?_) (fun h6 => ?_)
  · skip
    simp at h6; omega
  · skip
    refine WL_skip ?_
    refine WL_seq ?_
    apply WLp
    · (repeat (first | exact rzz | apply rcc rfl | apply rnn rfl))
    refine WL_seq ?_
    refine WL_seq ?_
    refine WL_reg ?_
    refine O_p rfl rfl rfl ?_
    refine O_p rfl rfl rfl ?_
    refine O_h rfl rfl rfl rfl ?_
    refine O_p rfl rfl rfl ?_
    refine O_h rfl rfl rfl rfl ?_
    refine O_p rfl rfl rfl ?_
    refine O_v (.int .i64 (k : Nat)) rfl rfl rfl (by show AVal.int _ (IntKind.i64.wrap (_ - IntKind.i64.wrap (0 - 0))) = _; rw [e1, e2]) ?_
    refine O_p rfl rfl rfl ?_
    refine WO_nil ?_
    refine WL_seq ?_
    apply WLp
    · (repeat (first | exact rzz | apply rcc rfl | apply rnn rfl))
    refine WL_seq ?_
    refine WL_reg ?_
    refine O_p rfl rfl rfl ?_
    refine O_p rfl rfl rfl ?_
    refine WO_nil ?_
    refine WL_seq ?_
    apply WLp
    · (repeat (first | exact rzz | apply rcc rfl | apply rnn rfl))
    refine WL_cond rfl (fun h16 => ?_) (fun h16 => ?_)
    · skip
      refine WL_reg ?_
      refine O_p rfl rfl rfl ?_
      refine O_p rfl rfl rfl ?_
      refine O_h rfl rfl rfl rfl ?_
      refine O_h (v := .lst [] true) rfl rfl rfl rfl ?_
      refine O_p rfl rfl rfl ?_
      refine O_h rfl rfl rfl (appz_ev rfl rfl h0 (by omega) rfl (by omega)) ?_
      refine O_p rfl rfl rfl ?_
      refine O_h rfl rfl rfl rfl ?_
      refine O_h rfl rfl rfl (cut_ev rfl rfl (by simp)) ?_
      refine O_p rfl rfl rfl ?_
      refine WO_nil ?_
      refine WL_seq ?_
      apply WLp
      · (repeat (first | exact rzz | apply rcc rfl | apply rnn rfl))
      refine WL_seq ?_
      refine WL_reg ?_
      refine O_p rfl rfl rfl ?_
      refine O_p rfl rfl rfl ?_
      refine WO_nil ?_
      refine WL_ret ?_
      exact ⟨_, rfl, rfl, rfl⟩
    · skip
      simp at h16; omega
theorem concat_c (n : Nat) (ls : List (List Co)) (h0 : 0 < ls.flatten.length) (hk : ls.flatten.length ≤ 1000000) (hn : ls.length < n) (hm : ls.length ≤ 1000000) :
    pcall (tabOf tabL) (n + 2) 51 [.lst (ls.map encCL) false] = some (.ok (.lst (ls.flatten.map encC) false)) := by
  refine pcall_fin t51 ?_
  refine WL_seq ?_
  refine WL_reg ?_
  refine O_p rfl rfl rfl ?_
  refine WO_nil ?_
  refine WL_seq ?_
  apply WLp
  · (repeat (first | exact rzz | apply rcc rfl | apply rnn rfl))
  refine WL_seq ?_
  refine WL_reg ?_
  refine O_p rfl rfl rfl ?_
  refine WO_nil ?_
  refine WL_seq ?_
  apply WLp
  · (repeat (first | exact rzz | apply rcc rfl | apply rnn rfl))
  refine WL_seq ?_
  refine WL_seq ?_
  refine WL_reg ?_
  refine O_p rfl rfl rfl ?_
  refine O_h rfl rfl rfl rfl ?_
  refine O_p rfl rfl rfl ?_
  refine WO_nil ?_
  refine WL_seq ?_
  apply WLp
  · (repeat (first | exact rzz | apply rcc rfl | apply rnn rfl))
  refine WL_block ?_
  apply WL_forc (α := Nat × Nat) (fun s => [(3, .int .i64 (s.1 : Nat)), (11, .int .i64 (s.2 : Nat))]) (fun s => s.2 ≤ ls.length ∧ s.1 + (ls.drop s.2).flatten.length = ls.flatten.length) (fun s => ls.length - s.2) ((0, 0)) (he := ?he) (hP := ?hP) (hk := ?hk) (round := ?round)
  case he =>
    (repeat (first | exact rzz | apply rcc rfl | apply rnn rfl))
  case hP =>
    exact ⟨by simp, by simp⟩
  case hk =>
    show ls.length - 0 < n + 1; omega
  case round =>
    rintro ⟨c, i⟩ ⟨hi, hs⟩
    simp only at hi hs
    dsimp only [List.cons_append, List.nil_append] at *
    refine WL_seq ?_
    refine WL_reg ?_
    refine O_p rfl rfl rfl ?_
    refine WO_nil ?_
    refine WL_seq ?_
    apply WLp
    · (repeat (first | exact rzz | apply rcc rfl | apply rnn rfl))
    refine WL_seq ?_
    refine WL_cond rfl (fun h12 => ?_) (fun h12 => ?_)
    · skip
      simp at h12
      obtain ⟨x, hx⟩ : ∃ x, (ls)[i]? = some x := ⟨_, List.getElem?_eq_getElem (by omega)⟩
      have hmx := List.mem_of_getElem? hx
      have hg := drop_of hx
      refine WL_skip ?_
      refine WL_seq ?_
      apply WLp
      · (repeat (first | exact rzz | apply rcc rfl | apply rnn rfl))
      refine WL_seq ?_
      refine WL_block ?_
      refine WL_seq ?_
      refine WL_reg ?_
      refine O_ia rfl rfl (Int.natCast_nonneg _) (encCL_get hx) rfl rfl ?_
      refine O_h rfl rfl rfl rfl ?_
      refine O_p rfl rfl rfl ?_
      refine WO_nil ?_
      refine WL_seq ?_
      apply WLp
      · (repeat (first | exact rzz | apply rcc rfl | apply rnn rfl))
      refine WL_seq ?_
      refine WL_reg ?_
      refine O_p rfl rfl rfl ?_
      refine O_p rfl rfl rfl ?_
      refine O_h rfl rfl rfl rfl ?_
      refine O_p rfl rfl rfl ?_
      refine O_p rfl rfl rfl ?_
      refine WO_nil ?_
      refine WL_seq ?_
      apply WLp
      · (repeat (first | exact rzz | apply rcc rfl | apply rnn rfl))
      refine WL_seq ?_
      refine WL_reg ?_
      refine O_p rfl rfl rfl ?_
      refine O_p rfl rfl rfl ?_
      refine WO_nil ?_
      refine WL_seq ?_
      apply WLp
      · (repeat (first | exact rzz | apply rcc rfl | apply rnn rfl))
      refine WL_cond rfl (fun h20 => ?_) (fun h20 => ?_)
      · skip
        rw [hg] at hs
        simp only [List.flatten_cons, List.length_append] at hs
        have := wrap_add (i := c) (j := x.length) (by omega)
        simp at h20; omega
      · skip
        refine WL_skip ?_
        refine WL_nil ?_
        refine Blk_norm (?_ : WL _ _ _ _ _)
        refine WL_seq ?_
        apply WLp
        · (repeat (first | exact rzz | apply rcc rfl | apply rnn rfl))
        refine WL_reg ?_
        refine O_p rfl rfl rfl ?_
        refine O_p rfl rfl rfl ?_
        refine WO_nil ?_
        refine WL_nil ?_
        rw [hg] at hs
        simp only [List.flatten_cons, List.length_append] at hs
        refine RndC_norm ((c + x.length, i + 1)) (by refine ⟨?_, ?_⟩ <;> simp only <;> omega) (by show _ < _; omega) ?_ rfl
        · rw [show IntKind.i64.wrap ((c : Int) + (((x.map encC).length : Nat) : Int)) = ((c + x.length : Nat) : Int) by rw [List.length_map]; exact wrap_add (by omega), wrap_succ (by omega)]; (repeat (first | exact rzz | apply rcc rfl | apply rnn rfl))
    · skip
      have hq : c = ls.flatten.length := by
        simp at h12
        rw [List.drop_eq_nil_of_le (by omega)] at hs; simpa using hs
      refine WL_exit ?_
      refine RndC_exit ?_
      refine Blk_exit (?_ : WL _ _ _ _ _)
      refine WL_seq ?_
      apply WLp
      · (repeat (first | exact rzz | apply rcc rfl | apply rnn rfl))
      refine WL_seq ?_
      refine WL_reg ?_
      refine O_p rfl rfl rfl ?_
      refine O_c 61 rfl rfl (callA_raw (by rw [hq]; exact grow_c n _ _ h0 hk) rfl) ?_
      refine O_p rfl rfl rfl ?_
      refine WO_nil ?_
      refine WL_seq ?_
      apply WLp
      · (repeat (first | exact rzz | apply rcc rfl | apply rnn rfl))
      refine WL_seq ?_
      refine WL_seq ?_
      refine WL_reg ?_
      refine O_p rfl rfl rfl ?_
      refine O_h rfl rfl rfl rfl ?_
      refine O_p rfl rfl rfl ?_
      refine WO_nil ?_
      refine WL_seq ?_
      apply WLp
      · (repeat (first | exact rzz | apply rcc rfl | apply rnn rfl))
      refine WL_block ?_
      refine WL_seq ?_
      refine WL_own rfl ?_
      apply WL_forv (hc := [.dead]) (α := Nat × List Co) (fun s => [(6, .gl 1 s.2.length), (27, .int .i64 (s.1 : Nat))]) (fun s => [.grow 12 (s.2.map encC) none]) (fun s => s.1 ≤ ls.length ∧ s.2 ++ (ls.drop s.1).flatten = ls.flatten) (fun s => ls.length - s.1) ((0, [])) (he := ?he) (hh := ?hh) (hP := ?hP) (hk := ?hk) (round := ?round)
      case he =>
        (repeat (first | exact rzz | apply rcc rfl | apply rnn rfl))
      case hh =>
        rfl
      case hP =>
        exact ⟨by simp, by simp⟩
      case hk =>
        show ls.length - 0 < n + 1; omega
      case round =>
        rintro ⟨i, xs⟩ ⟨hi, hs⟩
        simp only at hi hs
        dsimp only [List.cons_append, List.nil_append] at *
        refine WL_seq ?_
        refine WL_reg ?_
        refine O_p rfl rfl rfl ?_
        refine WO_nil ?_
        refine WL_seq ?_
        apply WLp
        · (repeat (first | exact rzz | apply rcc rfl | apply rnn rfl))
        refine WL_seq ?_
        refine WL_cond rfl (fun h28 => ?_) (fun h28 => ?_)
        · skip
          simp at h28
          obtain ⟨x, hx⟩ : ∃ x, (ls)[i]? = some x := ⟨_, List.getElem?_eq_getElem (by omega)⟩
          have hmx := List.mem_of_getElem? hx
          have hg := drop_of hx
          refine WL_skip ?_
          refine WL_seq ?_
          apply WLp
          · (repeat (first | exact rzz | apply rcc rfl | apply rnn rfl))
          refine WL_seq ?_
          refine WL_block ?_
          refine WL_seq ?_
          refine WL_reg ?_
          refine O_ia rfl rfl (Int.natCast_nonneg _) (encCL_get hx) rfl rfl ?_
          refine O_h rfl rfl rfl rfl ?_
          refine O_p rfl rfl rfl ?_
          refine WO_nil ?_
          refine WL_seq ?_
          apply WLp
          · (repeat (first | exact rzz | apply rcc rfl | apply rnn rfl))
          refine WL_reg ?_
          refine O_p rfl rfl rfl ?_
          refine O_p rfl rfl rfl ?_
          rw [hg] at hs
          have hlen : xs.length + x.length ≤ 1000000 := by have := congrArg List.length hs; simp at this hk; omega
          refine O_appL rfl rfl rfl (by simp) (encC_w _) (encC_w _) (by simp; omega) rfl ?_
          refine O_p rfl rfl rfl ?_
          refine WO_nil ?_
          refine WL_nil ?_
          refine Blk_norm (?_ : WL _ _ _ _ _)
          refine WL_seq ?_
          apply WLp
          · (repeat (first | exact rzz | apply rcc rfl | apply rnn rfl))
          refine WL_reg ?_
          refine O_p rfl rfl rfl ?_
          refine O_p rfl rfl rfl ?_
          refine WO_nil ?_
          refine WL_nil ?_
          refine RndV_norm ((i + 1, xs ++ x)) (by refine ⟨by simp only; omega, ?_⟩; simp only; rw [← hs]; simp) (by show _ < _; omega) ?_ ?_
          · rw [wrap_succ (by omega), show (xs.map encC).length + (x.map encC).length = (xs ++ x).length by simp]; (repeat (first | exact rzz | apply rcc rfl | apply rnn rfl))
          · show trunc _ _ [ABlock.dead, ABlock.grow 12 (xs.map encC ++ x.map encC) none] = _; rw [← List.map_append]; rfl
        · skip
          have hr : ls.flatten = xs := by
            simp at h28
            rw [List.drop_eq_nil_of_le (by omega)] at hs; simpa using hs.symm
          refine WL_exit ?_
          refine RndV_exit ?_
          refine Blk_exit (?_ : WL _ _ _ _ _)
          refine WL_seq ?_
          apply WLp
          · (repeat (first | exact rzz | apply rcc rfl | apply rnn rfl))
          refine WL_seq ?_
          refine WL_reg ?_
          refine O_p rfl rfl rfl ?_
          refine O_p rfl rfl rfl ?_
          refine WO_nil ?_
          refine WL_ret ?_
          exact ⟨_, rfl, .lst (xs.map encC) false, by simp [oneOr, shutR, growAt], by rw [hr]⟩
theorem concat_nil (n : Nat) : pcall (tabOf tabL) (n + 20) 51 [.lst [.lst [] false, .lst [] false] false] = some (.ok (.lst [] false)) := by kernel_rfl
theorem concat2_c (n : Nat) (a b : List Co) (h : a.length + b.length ≤ 1000000) : pcall (tabOf tabL) (n + 20) 51 [.lst [.lst (a.map encC) false, .lst (b.map encC) false] false] = some (.ok (.lst ((a ++ b).map encC) false)) := by
  rcases Nat.eq_zero_or_pos (a.length + b.length) with h0 | h0
  · obtain rfl : a = [] := List.length_eq_zero_iff.1 (by omega)
    obtain rfl : b = [] := List.length_eq_zero_iff.1 (by omega)
    exact concat_nil n
  · have := concat_c (n + 18) [a, b] (by simpa using h0) (by simpa using h) (by simp) (by simp)
    simpa [encCL] using this
theorem size_c : ∀ (n : Nat) (c : Co), 10 * szC c + 30 < n → szC c ≤ 1000000 → pcall (tabOf tabL) n 22 [vC c] = some (.ok (.int .i64 (szC c : Nat)))
  | 0, c, h, _ => by omega
  | n + 1, c, h, hs1 => by
    have hz := szC_pos c
    obtain ⟨n, rfl⟩ : ∃ m, n = m + 20 := ⟨n - 20, by omega⟩
    have ih := size_c (n + 20)
    have hpf := lenC_both c
    have h0 : szC c = 1 + szCs (c.pairs ++ c.funs) := by rw [szC_eq, szCs_append]; omega
    refine pcall_fin t22 ?_
    refine WL_seq ?_
    refine WL_reg ?_
    refine O_n rfl rfl rfl ?_
    refine O_p rfl rfl rfl ?_
    refine WO_nil ?_
    refine WL_seq ?_
    apply WLp
    · (repeat (first | exact rzz | apply rcc rfl | apply rnn rfl))
    refine WL_seq ?_
    refine WL_reg ?_
    refine O_p rfl rfl rfl ?_
    refine WO_nil ?_
    refine WL_seq ?_
    apply WLp
    · (repeat (first | exact rzz | apply rcc rfl | apply rnn rfl))
    refine WL_seq ?_
    refine WL_seq ?_
    refine WL_reg ?_
    refine O_p rfl rfl rfl ?_
    refine O_h rfl rfl rfl rfl ?_
    refine O_p rfl rfl rfl ?_
    refine O_h rfl rfl rfl rfl ?_
    refine O_h rfl rfl rfl rfl ?_
    refine O_c 51 rfl rfl (callA_of rfl (concat2_c n c.pairs c.funs (by omega))) ?_
    refine O_h rfl rfl rfl rfl ?_
    refine O_p rfl rfl rfl ?_
    refine WO_nil ?_
    refine WL_seq ?_
    apply WLp
    · (repeat (first | exact rzz | apply rcc rfl | apply rnn rfl))
    refine WL_block ?_
    apply WL_forc (α := Nat × Nat) (fun s => [(3, .int .i64 (s.1 : Nat)), (13, .int .i64 (s.2 : Nat))]) (fun s => s.2 ≤ (c.pairs ++ c.funs).length ∧ szC c = s.1 + szCs ((c.pairs ++ c.funs).drop s.2)) (fun s => (c.pairs ++ c.funs).length - s.2) ((1, 0)) (he := ?he) (hP := ?hP) (hk := ?hk) (round := ?round)
    case he =>
      (repeat (first | exact rzz | apply rcc rfl | apply rnn rfl))
    case hP =>
      exact ⟨by simp, h0⟩
    case hk =>
      show (c.pairs ++ c.funs).length - 0 < n + 20; simp; omega
    case round =>
      rintro ⟨m, i⟩ ⟨hi, hs⟩
      simp only at hi hs
      dsimp only [List.cons_append, List.nil_append] at *
      refine WL_seq ?_
      refine WL_reg ?_
      refine O_p rfl rfl rfl ?_
      refine WO_nil ?_
      refine WL_seq ?_
      apply WLp
      · (repeat (first | exact rzz | apply rcc rfl | apply rnn rfl))
      refine WL_seq ?_
      refine WL_cond rfl (fun h14 => ?_) (fun h14 => ?_)
      · skip
        simp at h14
        obtain ⟨x, hx⟩ : ∃ x, (c.pairs ++ c.funs)[i]? = some x := ⟨_, List.getElem?_eq_getElem (by simp; omega)⟩
        have hmx := List.mem_of_getElem? hx
        have hg := drop_of hx
        have hsx : szC x < szC c := by rcases List.mem_append.1 hmx with q | q; exact szC_pairs q; exact szC_funs q
        have hs2 := hs
        rw [hg, szCs] at hs2
        refine WL_skip ?_
        refine WL_seq ?_
        apply WLp
        · (repeat (first | exact rzz | apply rcc rfl | apply rnn rfl))
        refine WL_seq ?_
        refine WL_block ?_
        refine WL_seq ?_
        refine WL_reg ?_
        refine O_ia rfl rfl (Int.natCast_nonneg _) (encC_get (i := (i : Nat)) hx) (encC_flat _) rfl ?_
        refine O_h rfl rfl rfl rfl ?_
        refine O_n rfl rfl rfl ?_
        refine O_hn rfl rfl rfl rfl ?_
        refine WO_nil ?_
        refine WL_seq ?_
        apply WLp
        · (repeat (first | exact rzz | apply rcc rfl | apply rnn rfl))
        refine WL_reg ?_
        refine O_p rfl rfl rfl ?_
        refine O_h rfl rfl rfl rfl ?_
        refine O_c 22 rfl rfl (callA_of rfl (ih x (by omega) (by omega))) ?_
        refine O_p rfl rfl rfl ?_
        refine O_p rfl rfl rfl ?_
        refine WO_nil ?_
        refine WL_nil ?_
        refine Blk_norm (?_ : WL _ _ _ _ _)
        refine WL_seq ?_
        apply WLp
        · (repeat (first | exact rzz | apply rcc rfl | apply rnn rfl))
        refine WL_reg ?_
        refine O_p rfl rfl rfl ?_
        refine O_p rfl rfl rfl ?_
        refine WO_nil ?_
        refine WL_nil ?_
        refine RndC_norm ((m + szC x, i + 1)) (by refine ⟨?_, ?_⟩ <;> simp only <;> first | (simp; omega) | omega) (by show _ < _; simp; omega) ?_ rfl
        · rw [wrap_add (by omega), wrap_succ (by simp at hi; omega)]; (repeat (first | exact rzz | apply rcc rfl | apply rnn rfl))
      · skip
        have hr : szC c = m := by
          simp at h14
          rw [List.drop_eq_nil_of_le (by simp; omega)] at hs; rw [hs]; simp [szCs]
        refine WL_exit ?_
        refine RndC_exit ?_
        refine Blk_exit (?_ : WL _ _ _ _ _)
        refine WL_seq ?_
        apply WLp
        · (repeat (first | exact rzz | apply rcc rfl | apply rnn rfl))
        refine WL_seq ?_
        refine WL_reg ?_
        refine O_p rfl rfl rfl ?_
        refine O_p rfl rfl rfl ?_
        refine WO_nil ?_
        refine WL_ret ?_
        refine ⟨_, rfl, _, rfl, ?_⟩
        rw [hr]
end Go.Ev.Seat
