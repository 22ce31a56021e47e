/-
  Part 8 of a proof: CoerceMakes: for every input the law returns true, and what it was given reads behind the call as before. No conditions.
-/
import Derived.Test.YtbjoldcjbpngaaaP7
import Derived.OpenShut
namespace Go.Ev.Seat
set_option linter.unusedVariables false
set_option linter.unusedSimpArgs false
open Go Go.Ev
set_option maxRecDepth 20000
attribute [local irreducible] pcall callF
noncomputable def g_w07_CoerceMakes_j1 (n : Nat) (l3 : Co × Co) (r4 : Bool) : Option Bool :=
  ((oCto l3.1).bind fun r15 => ((oCto l3.2).bind fun r16 => ((oRight r15).bind fun r20 => ((cond (!r20) (some true) (((oRight r16).bind fun r21 => some (!r21)))).bind fun v22 => (cond v22 (some r4) ((oCompose l3.1 l3.2).bind fun r23 => ((g_r07_Compose n r15 r16).bind fun r24 => ((oSame r23 r24).bind fun r25 => some (r4 && r25)))))))))
noncomputable def g_w07_CoerceMakes (n : Nat) (t1 : Ty) (label2 : Int) (l3 : Co × Co) : Option Bool :=
  ((oAwake).bind fun r4 => ((oLightT t1).bind fun r5 => ((oLight l3.1).bind fun r6 => ((oLight l3.2).bind fun r7 => (cond (((!r5) || (!r6)) || (!r7)) (some r4) ((oRightT t1).bind fun r26 => (cond ((r26 && (decide (1 ≤ label2))) && (decide (label2 ≤ 99))) ((oTo t1 label2).bind fun r27 => (((g_c_To_From n).1 t1 label2).bind fun r28 => ((oSame r27 r28).bind fun r29 => ((oFrom t1 label2).bind fun r30 => (((g_c_To_From n).2 t1 label2).bind fun r31 => ((oSame r30 r31).bind fun r32 => (cond ((!r29) || (!r32)) (some false) (g_w07_CoerceMakes_j1 n l3 r4)))))))) (g_w07_CoerceMakes_j1 n l3 r4))))))))
abbrev kg11 (l3 : Co × Co) : ABlock := .cells [.int .i64 (l3.1.flat 0), .int .i64 (l3.1.flat 1), .int .i64 (l3.1.flat 2), .int .i64 (l3.1.flat 3), .int .i64 (l3.1.flat 4), .int .i64 (l3.1.flat 5), .int .i64 l3.1.pair, .int .i64 l3.1.plab, .lst (List.map encC l3.1.pairs) false, .int .i64 l3.1.fn, .int .i64 l3.1.flab, .lst (List.map encC l3.1.funs) false, .int .i64 (l3.2.flat 0), .int .i64 (l3.2.flat 1), .int .i64 (l3.2.flat 2), .int .i64 (l3.2.flat 3), .int .i64 (l3.2.flat 4), .int .i64 (l3.2.flat 5), .int .i64 l3.2.pair, .int .i64 l3.2.plab, .lst (List.map encC l3.2.pairs) false, .int .i64 l3.2.fn, .int .i64 l3.2.flab, .lst (List.map encC l3.2.funs) false]
abbrev kg12 (t1 : Ty) : ABlock := .cells [.bool t1.all, .int .i64 t1.flat, .int .i64 t1.pair, .lst (List.map encT t1.pairs) false, .int .i64 t1.fn, .lst (List.map encT t1.funs) false]
theorem g_w07_CoerceMakes_ok {n : Nat} {t1 : Ty} {label2 : Int} {l3 : Co × Co} {r : Bool} (hr : g_w07_CoerceMakes n t1 label2 l3 = some r) : PRes (tabOf tabL) 3 [.agg (cT t1), .int .i64 label2, .agg [.int .i64 (l3.1.flat 0), .int .i64 (l3.1.flat 1), .int .i64 (l3.1.flat 2), .int .i64 (l3.1.flat 3), .int .i64 (l3.1.flat 4), .int .i64 (l3.1.flat 5), .int .i64 l3.1.pair, .int .i64 l3.1.plab, .lst (List.map encC l3.1.pairs) false, .int .i64 l3.1.fn, .int .i64 l3.1.flab, .lst (List.map encC l3.1.funs) false, .int .i64 (l3.2.flat 0), .int .i64 (l3.2.flat 1), .int .i64 (l3.2.flat 2), .int .i64 (l3.2.flat 3), .int .i64 (l3.2.flat 4), .int .i64 (l3.2.flat 5), .int .i64 l3.2.pair, .int .i64 l3.2.plab, .lst (List.map encC l3.2.pairs) false, .int .i64 l3.2.fn, .int .i64 l3.2.flab, .lst (List.map encC l3.2.funs) false]] (.bool r) := by
  refine pres_fin t3 ?_
  unfold g_w07_CoerceMakes at hr
  refine L_seq ?_
  refine L_stmt ?_
  refine L_reg ?_
  refine G_n (B := (kg12 t1)) rfl rfl rfl ?_
  refine G_n (B := (kg11 l3)) rfl rfl rfl ?_
  refine G_p rfl rfl rfl ?_
  refine G_nil ?_
  refine L_nil ?_
  refine Sm_norm (e2 := [(1, .int .i64 label2), (3, .ptr 0 0), (5, .ptr 1 0)]) (H1 := [(kg12 t1), (kg11 l3)]) (H2 := [(kg12 t1), (kg11 l3)]) rfl (by repeat (first | exact rzz | apply rcc rfl | apply rnn rfl)) rfl (?_ : GL _ _ _ _ _)
  refine L_seq ?_
  refine L_stmt ?_
  refine L_reg ?_
  obtain ⟨r4, hr4, hr⟩ := bind_s hr
  refine G_c 7 rfl rfl (CA_of (as := []) rfl (oAwake_ok hr4)) ?_
  refine G_p rfl rfl rfl ?_
  refine G_nil ?_
  refine L_nil ?_
  refine Sm_norm (e2 := [(1, .int .i64 label2), (3, .ptr 0 0), (5, .ptr 1 0), (7, .bool r4)]) (H1 := [(kg12 t1), (kg11 l3)]) (H2 := [(kg12 t1), (kg11 l3)]) rfl (by repeat (first | exact rzz | apply rcc rfl | apply rnn rfl)) rfl (?_ : GL _ _ _ _ _)
  refine L_seq ?_
  refine L_stmt ?_
  refine L_reg ?_
  refine G_h (v := .agg (cT t1)) rfl rfl rfl (fun _ => rfl) ?_
  obtain ⟨r5, hr5, hr⟩ := bind_s hr
  refine G_c 8 rfl rfl (CA_of (as := [.agg (cT t1)]) rfl (oLightT_ok hr5)) ?_
  refine G_p rfl rfl rfl ?_
  refine G_nil ?_
  refine L_nil ?_
  refine Sm_norm (e2 := [(1, .int .i64 label2), (3, .ptr 0 0), (5, .ptr 1 0), (7, .bool r4), (8, .bool r5)]) (H1 := [(kg12 t1), (kg11 l3)]) (H2 := [(kg12 t1), (kg11 l3)]) rfl (by repeat (first | exact rzz | apply rcc rfl | apply rnn rfl)) rfl (?_ : GL _ _ _ _ _)
  refine L_seq ?_
  refine L_stmt ?_
  refine L_reg ?_
  refine G_p rfl rfl rfl ?_
  refine G_h (v := .agg (cC l3.1)) rfl rfl rfl (fun _ => rfl) ?_
  obtain ⟨r6, hr6, hr⟩ := bind_s hr
  refine G_c 9 rfl rfl (CA_of (as := [.agg (cC l3.1)]) rfl (oLight_ok hr6)) ?_
  refine G_p rfl rfl rfl ?_
  refine G_nil ?_
  refine L_nil ?_
  refine Sm_norm (e2 := [(1, .int .i64 label2), (3, .ptr 0 0), (5, .ptr 1 0), (7, .bool r4), (8, .bool r5), (9, .bool r6)]) (H1 := [(kg12 t1), (kg11 l3)]) (H2 := [(kg12 t1), (kg11 l3)]) rfl (by repeat (first | exact rzz | apply rcc rfl | apply rnn rfl)) rfl (?_ : GL _ _ _ _ _)
  refine L_seq ?_
  refine L_stmt ?_
  refine L_reg ?_
  refine G_p rfl rfl rfl ?_
  refine G_h (v := .agg (cC l3.2)) rfl rfl rfl (fun _ => rfl) ?_
  obtain ⟨r7, hr7, hr⟩ := bind_s hr
  refine G_c 9 rfl rfl (CA_of (as := [.agg (cC l3.2)]) rfl (oLight_ok hr7)) ?_
  refine G_p rfl rfl rfl ?_
  refine G_nil ?_
  refine L_nil ?_
  refine Sm_norm (e2 := [(1, .int .i64 label2), (3, .ptr 0 0), (5, .ptr 1 0), (7, .bool r4), (8, .bool r5), (9, .bool r6), (10, .bool r7)]) (H1 := [(kg12 t1), (kg11 l3)]) (H2 := [(kg12 t1), (kg11 l3)]) rfl (by repeat (first | exact rzz | apply rcc rfl | apply rnn rfl)) rfl (?_ : GL _ _ _ _ _)
  refine L_seq ?_
  refine L_stmt ?_
  refine L_seq ?_
  refine L_stmt ?_
  refine L_reg ?_
  refine G_p rfl rfl rfl ?_
  refine G_p rfl rfl rfl ?_
  refine G_p rfl rfl rfl ?_
  refine G_or (f := (!r6)) [_, _] rfl rfl ?_ ?_
  · intro hb27
    refine G_p rfl rfl rfl ?_
    refine G_p rfl rfl rfl ?_
    exact G_nil (L_nil ⟨rfl, rfl, rfl⟩)
  · intro vs hvs
    obtain ⟨u28, u29, rfl⟩ := len2 hvs
    dsimp only [junk]
    refine G_p rfl rfl rfl ?_
    refine G_or (f := (!r7)) [_, _] rfl rfl ?_ ?_
    · intro hb31
      refine G_p rfl rfl rfl ?_
      refine G_p rfl rfl rfl ?_
      exact G_nil (L_nil ⟨rfl, rfl, rfl⟩)
    · intro vs hvs
      obtain ⟨u32, u33, rfl⟩ := len2 hvs
      dsimp only [junk]
      refine G_nil ?_
      refine L_nil ?_
      refine Sm_norm (e2 := [(1, .int .i64 label2), (3, .ptr 0 0), (5, .ptr 1 0), (7, .bool r4), (34, .bool (((!r5) || (!r6)) || (!r7)))]) (H1 := [(kg12 t1), (kg11 l3)]) (H2 := [(kg12 t1), (kg11 l3)]) rfl (by repeat (first | exact rzz | apply rcc rfl | apply rnn rfl)) rfl (?_ : GL _ _ _ _ _)
      rcases cond_s hr with ⟨hc34, hr⟩ | ⟨hc34, hr⟩
      · refine L_T rfl hc34 ?_
        refine L_seq ?_
        refine L_reg ?_
        refine G_p rfl rfl rfl ?_
        refine G_p rfl rfl rfl ?_
        refine G_nil ?_
        refine L_ret ?_
        refine Sm_ret ?_
        have hr := some_s hr
        subst hr
        exact ⟨_, rfl, _, rfl, rfl⟩
      · refine L_F rfl hc34 ?_
        refine L_skip ?_
        refine L_nil ?_
        refine Sm_norm (e2 := [(1, .int .i64 label2), (3, .ptr 0 0), (5, .ptr 1 0), (7, .bool r4)]) (H1 := [(kg12 t1), (kg11 l3)]) (H2 := [(kg12 t1), (kg11 l3)]) rfl (by repeat (first | exact rzz | apply rcc rfl | apply rnn rfl)) rfl (?_ : GL _ _ _ _ _)
        refine L_seq ?_
        refine L_stmtJ (S := Unit) (fun s => [(5, .ptr 1 0), (7, .bool r4)]) (fun s => [(kg12 t1), (kg11 l3)]) (fun s => g_w07_CoerceMakes_j1 n l3 r4 = some r) ?_ ?_
        · skip
          refine L_seq ?_
          refine L_stmt ?_
          refine L_reg ?_
          refine G_h (v := .agg (cT t1)) rfl rfl rfl (fun _ => rfl) ?_
          obtain ⟨r26, hr26, hr⟩ := bind_s hr
          refine G_c 10 rfl rfl (CA_of (as := [.agg (cT t1)]) rfl (oRightT_ok hr26)) ?_
          refine G_p rfl rfl rfl ?_
          refine G_and (f := (decide (1 ≤ label2))) [_, _] rfl rfl ?_ ?_
          · intro hb38
            refine G_p rfl rfl rfl ?_
            refine G_p rfl rfl rfl ?_
            exact G_nil (L_nil ⟨rfl, rfl, rfl⟩)
          · intro vs hvs
            obtain ⟨u39, u40, rfl⟩ := len2 hvs
            dsimp only [junk]
            refine G_p rfl rfl rfl ?_
            refine G_and (f := (decide (label2 ≤ 99))) [_, _] rfl rfl ?_ ?_
            · intro hb42
              refine G_p rfl rfl rfl ?_
              refine G_p rfl rfl rfl ?_
              exact G_nil (L_nil ⟨rfl, rfl, rfl⟩)
            · intro vs hvs
              obtain ⟨u43, u44, rfl⟩ := len2 hvs
              dsimp only [junk]
              refine G_nil ?_
              refine L_nil ?_
              refine Sm_norm (e2 := [(1, .int .i64 label2), (3, .ptr 0 0), (5, .ptr 1 0), (7, .bool r4), (45, .bool ((r26 && (decide (1 ≤ label2))) && (decide (label2 ≤ 99))))]) (H1 := [(kg12 t1), (kg11 l3)]) (H2 := [(kg12 t1), (kg11 l3)]) rfl (by repeat (first | exact rzz | apply rcc rfl | apply rnn rfl)) rfl (?_ : GL _ _ _ _ _)
              rcases cond_s hr with ⟨hc45, hr⟩ | ⟨hc45, hr⟩
              · refine L_T rfl hc45 ?_
                refine L_seq ?_
                refine L_stmt ?_
                refine L_drawT [] rfl ?_
                refine GS_h (d := some 46) (v := .agg (cT t1)) rfl rfl rfl rfl (fun _ => rfl) ?_
                refine GS_p rfl rfl rfl ?_
                obtain ⟨r27, hr27, hr⟩ := bind_s hr
                refine GS_c 12 rfl rfl rfl (CA_of (as := [.agg (cT t1), .int .i64 label2]) rfl (oTo_ok hr27)) ?_
                refine GS_h (d := some 49) (v := .agg (cT t1)) rfl rfl rfl rfl (fun _ => rfl) ?_
                refine GS_p rfl rfl rfl ?_
                obtain ⟨r28, hr28, hr⟩ := bind_s hr
                refine GS_c 13 rfl rfl rfl (CA_of (as := [.agg (cT t1), .int .i64 label2]) rfl ((g_c_To_From_ok n).1 _ _ _ hr28)) ?_
                obtain ⟨r29, hr29, hr⟩ := bind_s hr
                refine GS_c 11 rfl rfl rfl (CA_of (as := [.agg (cC r27), .agg (cC r28)]) rfl (oSame_ok hr29)) ?_
                refine GS_p rfl rfl rfl ?_
                refine GS_nil ?_
                refine L_nil ?_
                refine Sm_norm (e2 := [(1, .int .i64 label2), (3, .ptr 0 0), (5, .ptr 1 0), (7, .bool r4), (11, .bool r29)]) (H1 := [(kg12 t1), (kg11 l3)]) (H2 := [(kg12 t1), (kg11 l3)]) rfl (by repeat (first | exact rzz | apply rcc rfl | apply rnn rfl)) rfl (?_ : GL _ _ _ _ _)
                refine L_seq ?_
                refine L_stmt ?_
                refine L_drawT [] rfl ?_
                refine GS_h (d := some 53) (v := .agg (cT t1)) rfl rfl rfl rfl (fun _ => rfl) ?_
                refine GS_p rfl rfl rfl ?_
                obtain ⟨r30, hr30, hr⟩ := bind_s hr
                refine GS_c 14 rfl rfl rfl (CA_of (as := [.agg (cT t1), .int .i64 label2]) rfl (oFrom_ok hr30)) ?_
                refine GS_h (d := some 56) (v := .agg (cT t1)) rfl rfl rfl rfl (fun _ => rfl) ?_
                refine GS_p rfl rfl rfl ?_
                obtain ⟨r31, hr31, hr⟩ := bind_s hr
                refine GS_c 15 rfl rfl rfl (CA_of (as := [.agg (cT t1), .int .i64 label2]) rfl ((g_c_To_From_ok n).2 _ _ _ hr31)) ?_
                obtain ⟨r32, hr32, hr⟩ := bind_s hr
                refine GS_c 11 rfl rfl rfl (CA_of (as := [.agg (cC r30), .agg (cC r31)]) rfl (oSame_ok hr32)) ?_
                refine GS_p rfl rfl rfl ?_
                refine GS_nil ?_
                refine L_nil ?_
                refine Sm_norm (e2 := [(5, .ptr 1 0), (7, .bool r4), (11, .bool r29), (12, .bool r32)]) (H1 := [(kg12 t1), (kg11 l3)]) (H2 := [(kg12 t1), (kg11 l3)]) rfl (by repeat (first | exact rzz | apply rcc rfl | apply rnn rfl)) rfl (?_ : GL _ _ _ _ _)
                refine L_seq ?_
                refine L_stmt ?_
                refine L_reg ?_
                refine G_p rfl rfl rfl ?_
                refine G_p rfl rfl rfl ?_
                refine G_p rfl rfl rfl ?_
                refine G_or (f := (!r32)) [_, _] rfl rfl ?_ ?_
                · intro hb62
                  refine G_p rfl rfl rfl ?_
                  refine G_p rfl rfl rfl ?_
                  exact G_nil (L_nil ⟨rfl, rfl, rfl⟩)
                · intro vs hvs
                  obtain ⟨u63, u64, rfl⟩ := len2 hvs
                  dsimp only [junk]
                  refine G_nil ?_
                  refine L_nil ?_
                  refine Sm_norm (e2 := [(5, .ptr 1 0), (7, .bool r4), (65, .bool ((!r29) || (!r32)))]) (H1 := [(kg12 t1), (kg11 l3)]) (H2 := [(kg12 t1), (kg11 l3)]) rfl (by repeat (first | exact rzz | apply rcc rfl | apply rnn rfl)) rfl (?_ : GL _ _ _ _ _)
                  rcases cond_s hr with ⟨hc65, hr⟩ | ⟨hc65, hr⟩
                  · refine L_T rfl hc65 ?_
                    refine L_seq ?_
                    refine L_reg ?_
                    refine G_p rfl rfl rfl ?_
                    refine G_nil ?_
                    refine L_ret ?_
                    refine Sm_ret ?_
                    have hr := some_s hr
                    subst hr
                    exact ⟨_, rfl, _, rfl, rfl⟩
                  · refine L_F rfl hc65 ?_
                    refine L_skip ?_
                    refine L_nil ?_
                    exact Sm_norm (e2 := [(5, .ptr 1 0), (7, .bool r4)]) (H1 := [(kg12 t1), (kg11 l3)]) (H2 := [(kg12 t1), (kg11 l3)]) rfl (by repeat (first | exact rzz | apply rcc rfl | apply rnn rfl)) rfl ⟨(), rfl, rfl, hr⟩
              · refine L_F rfl hc45 ?_
                refine L_skip ?_
                refine L_nil ?_
                exact Sm_norm (e2 := [(5, .ptr 1 0), (7, .bool r4)]) (H1 := [(kg12 t1), (kg11 l3)]) (H2 := [(kg12 t1), (kg11 l3)]) rfl (by repeat (first | exact rzz | apply rcc rfl | apply rnn rfl)) rfl ⟨(), rfl, rfl, hr⟩
        · rintro ⟨⟩ hr
          show GL _ _ [(5, .ptr 1 0), (7, .bool r4)] [(kg12 t1), (kg11 l3)] _
          replace hr : g_w07_CoerceMakes_j1 n l3 r4 = some r := hr
          unfold g_w07_CoerceMakes_j1 at hr
          refine L_seq ?_
          refine L_stmt ?_
          refine L_reg ?_
          refine G_p rfl rfl rfl ?_
          refine G_h (v := .agg (cC l3.1)) rfl rfl rfl (fun _ => rfl) ?_
          obtain ⟨r15, hr15, hr⟩ := bind_s hr
          refine G_c 16 rfl rfl (CA_of (as := [.agg (cC l3.1)]) rfl (oCto_ok hr15)) ?_
          refine G_n (B := .cells [.int .i64 0, .int .i64 0, .int .i64 0, .int .i64 0, .int .i64 0, .int .i64 0, .int .i64 0, .int .i64 0, .lst [] true, .int .i64 0, .int .i64 0, .lst [] true]) rfl rfl rfl ?_
          refine G_hn (H' := [(kg12 t1), (kg11 l3), .cells [.int .i64 (r15.flat 0), .int .i64 (r15.flat 1), .int .i64 (r15.flat 2), .int .i64 (r15.flat 3), .int .i64 (r15.flat 4), .int .i64 (r15.flat 5), .int .i64 r15.pair, .int .i64 r15.plab, .lst (List.map encC r15.pairs) false, .int .i64 r15.fn, .int .i64 r15.flab, .lst (List.map encC r15.funs) false]]) rfl rfl rfl (fun _ => rfl) ?_
          refine G_nil ?_
          refine L_nil ?_
          refine Sm_norm (e2 := [(5, .ptr 1 0), (7, .bool r4), (13, .ptr 2 0)]) (H1 := [(kg12 t1), (kg11 l3), .cells [.int .i64 (r15.flat 0), .int .i64 (r15.flat 1), .int .i64 (r15.flat 2), .int .i64 (r15.flat 3), .int .i64 (r15.flat 4), .int .i64 (r15.flat 5), .int .i64 r15.pair, .int .i64 r15.plab, .lst (List.map encC r15.pairs) false, .int .i64 r15.fn, .int .i64 r15.flab, .lst (List.map encC r15.funs) false]]) (H2 := [(kg12 t1), (kg11 l3), .cells [.int .i64 (r15.flat 0), .int .i64 (r15.flat 1), .int .i64 (r15.flat 2), .int .i64 (r15.flat 3), .int .i64 (r15.flat 4), .int .i64 (r15.flat 5), .int .i64 r15.pair, .int .i64 r15.plab, .lst (List.map encC r15.pairs) false, .int .i64 r15.fn, .int .i64 r15.flab, .lst (List.map encC r15.funs) false]]) rfl (by repeat (first | exact rzz | apply rcc rfl | apply rnn rfl)) rfl (?_ : GL _ _ _ _ _)
          refine L_seq ?_
          refine L_stmt ?_
          refine L_reg ?_
          refine G_p rfl rfl rfl ?_
          refine G_h (v := .agg (cC l3.2)) rfl rfl rfl (fun _ => rfl) ?_
          obtain ⟨r16, hr16, hr⟩ := bind_s hr
          refine G_c 16 rfl rfl (CA_of (as := [.agg (cC l3.2)]) rfl (oCto_ok hr16)) ?_
          refine G_n (B := .cells [.int .i64 0, .int .i64 0, .int .i64 0, .int .i64 0, .int .i64 0, .int .i64 0, .int .i64 0, .int .i64 0, .lst [] true, .int .i64 0, .int .i64 0, .lst [] true]) rfl rfl rfl ?_
          refine G_hn (H' := [(kg12 t1), (kg11 l3), .cells [.int .i64 (r15.flat 0), .int .i64 (r15.flat 1), .int .i64 (r15.flat 2), .int .i64 (r15.flat 3), .int .i64 (r15.flat 4), .int .i64 (r15.flat 5), .int .i64 r15.pair, .int .i64 r15.plab, .lst (List.map encC r15.pairs) false, .int .i64 r15.fn, .int .i64 r15.flab, .lst (List.map encC r15.funs) false], .cells [.int .i64 (r16.flat 0), .int .i64 (r16.flat 1), .int .i64 (r16.flat 2), .int .i64 (r16.flat 3), .int .i64 (r16.flat 4), .int .i64 (r16.flat 5), .int .i64 r16.pair, .int .i64 r16.plab, .lst (List.map encC r16.pairs) false, .int .i64 r16.fn, .int .i64 r16.flab, .lst (List.map encC r16.funs) false]]) rfl rfl rfl (fun _ => rfl) ?_
          refine G_nil ?_
          refine L_nil ?_
          refine Sm_norm (e2 := [(5, .ptr 1 0), (7, .bool r4), (13, .ptr 2 0), (14, .ptr 3 0)]) (H1 := [(kg12 t1), (kg11 l3), .cells [.int .i64 (r15.flat 0), .int .i64 (r15.flat 1), .int .i64 (r15.flat 2), .int .i64 (r15.flat 3), .int .i64 (r15.flat 4), .int .i64 (r15.flat 5), .int .i64 r15.pair, .int .i64 r15.plab, .lst (List.map encC r15.pairs) false, .int .i64 r15.fn, .int .i64 r15.flab, .lst (List.map encC r15.funs) false], .cells [.int .i64 (r16.flat 0), .int .i64 (r16.flat 1), .int .i64 (r16.flat 2), .int .i64 (r16.flat 3), .int .i64 (r16.flat 4), .int .i64 (r16.flat 5), .int .i64 r16.pair, .int .i64 r16.plab, .lst (List.map encC r16.pairs) false, .int .i64 r16.fn, .int .i64 r16.flab, .lst (List.map encC r16.funs) false]]) (H2 := [(kg12 t1), (kg11 l3), .cells [.int .i64 (r15.flat 0), .int .i64 (r15.flat 1), .int .i64 (r15.flat 2), .int .i64 (r15.flat 3), .int .i64 (r15.flat 4), .int .i64 (r15.flat 5), .int .i64 r15.pair, .int .i64 r15.plab, .lst (List.map encC r15.pairs) false, .int .i64 r15.fn, .int .i64 r15.flab, .lst (List.map encC r15.funs) false], .cells [.int .i64 (r16.flat 0), .int .i64 (r16.flat 1), .int .i64 (r16.flat 2), .int .i64 (r16.flat 3), .int .i64 (r16.flat 4), .int .i64 (r16.flat 5), .int .i64 r16.pair, .int .i64 r16.plab, .lst (List.map encC r16.pairs) false, .int .i64 r16.fn, .int .i64 r16.flab, .lst (List.map encC r16.funs) false]]) rfl (by repeat (first | exact rzz | apply rcc rfl | apply rnn rfl)) rfl (?_ : GL _ _ _ _ _)
          refine L_seq ?_
          refine L_stmt ?_
          refine L_seq ?_
          refine L_stmt ?_
          refine L_reg ?_
          refine G_h (v := .agg (cC r15)) rfl rfl rfl (fun _ => rfl) ?_
          obtain ⟨r20, hr20, hr⟩ := bind_s hr
          refine G_c 17 rfl rfl (CA_of (as := [.agg (cC r15)]) rfl (oRight_ok hr20)) ?_
          refine G_p rfl rfl rfl ?_
          refine G_p rfl rfl rfl ?_
          obtain ⟨v22, hvv22, hr⟩ := bind_s hr
          refine G_pick false [_, _, _] (v := .bool v22) (vo := .bool true) rfl rfl ?_ ?_ rfl ?_
          · intro hb75
            have hr := condF hb75 hvv22
            refine G_h (v := .agg (cC r16)) rfl rfl rfl (fun _ => rfl) ?_
            obtain ⟨r21, hr21, hr⟩ := bind_s hr
            refine G_c 17 rfl rfl (CA_of (as := [.agg (cC r16)]) rfl (oRight_ok hr21)) ?_
            refine G_p rfl rfl rfl ?_
            cases hr; exact G_nil (L_nil ⟨rfl, rfl, rfl⟩)
          · intro hb75; exact pickF hvv22 hb75
          · intro vs hvs
            obtain ⟨u76, u77, u78, rfl⟩ := len3 hvs
            dsimp only [junk]
            refine G_nil ?_
            refine L_nil ?_
            refine Sm_norm (e2 := [(5, .ptr 1 0), (7, .bool r4), (13, .ptr 2 0), (14, .ptr 3 0), (79, .bool v22)]) (H1 := [(kg12 t1), (kg11 l3), .cells [.int .i64 (r15.flat 0), .int .i64 (r15.flat 1), .int .i64 (r15.flat 2), .int .i64 (r15.flat 3), .int .i64 (r15.flat 4), .int .i64 (r15.flat 5), .int .i64 r15.pair, .int .i64 r15.plab, .lst (List.map encC r15.pairs) false, .int .i64 r15.fn, .int .i64 r15.flab, .lst (List.map encC r15.funs) false], .cells [.int .i64 (r16.flat 0), .int .i64 (r16.flat 1), .int .i64 (r16.flat 2), .int .i64 (r16.flat 3), .int .i64 (r16.flat 4), .int .i64 (r16.flat 5), .int .i64 r16.pair, .int .i64 r16.plab, .lst (List.map encC r16.pairs) false, .int .i64 r16.fn, .int .i64 r16.flab, .lst (List.map encC r16.funs) false]]) (H2 := [(kg12 t1), (kg11 l3), .cells [.int .i64 (r15.flat 0), .int .i64 (r15.flat 1), .int .i64 (r15.flat 2), .int .i64 (r15.flat 3), .int .i64 (r15.flat 4), .int .i64 (r15.flat 5), .int .i64 r15.pair, .int .i64 r15.plab, .lst (List.map encC r15.pairs) false, .int .i64 r15.fn, .int .i64 r15.flab, .lst (List.map encC r15.funs) false], .cells [.int .i64 (r16.flat 0), .int .i64 (r16.flat 1), .int .i64 (r16.flat 2), .int .i64 (r16.flat 3), .int .i64 (r16.flat 4), .int .i64 (r16.flat 5), .int .i64 r16.pair, .int .i64 r16.plab, .lst (List.map encC r16.pairs) false, .int .i64 r16.fn, .int .i64 r16.flab, .lst (List.map encC r16.funs) false]]) rfl (by repeat (first | exact rzz | apply rcc rfl | apply rnn rfl)) rfl (?_ : GL _ _ _ _ _)
            rcases cond_s hr with ⟨hc79, hr⟩ | ⟨hc79, hr⟩
            · refine L_T rfl hc79 ?_
              refine L_seq ?_
              refine L_reg ?_
              refine G_p rfl rfl rfl ?_
              refine G_p rfl rfl rfl ?_
              refine G_nil ?_
              refine L_ret ?_
              refine Sm_ret ?_
              have hr := some_s hr
              subst hr
              exact ⟨_, rfl, _, rfl, rfl⟩
            · refine L_F rfl hc79 ?_
              refine L_skip ?_
              refine L_nil ?_
              refine Sm_norm (e2 := [(5, .ptr 1 0), (7, .bool r4), (13, .ptr 2 0), (14, .ptr 3 0)]) (H1 := [(kg12 t1), (kg11 l3), .cells [.int .i64 (r15.flat 0), .int .i64 (r15.flat 1), .int .i64 (r15.flat 2), .int .i64 (r15.flat 3), .int .i64 (r15.flat 4), .int .i64 (r15.flat 5), .int .i64 r15.pair, .int .i64 r15.plab, .lst (List.map encC r15.pairs) false, .int .i64 r15.fn, .int .i64 r15.flab, .lst (List.map encC r15.funs) false], .cells [.int .i64 (r16.flat 0), .int .i64 (r16.flat 1), .int .i64 (r16.flat 2), .int .i64 (r16.flat 3), .int .i64 (r16.flat 4), .int .i64 (r16.flat 5), .int .i64 r16.pair, .int .i64 r16.plab, .lst (List.map encC r16.pairs) false, .int .i64 r16.fn, .int .i64 r16.flab, .lst (List.map encC r16.funs) false]]) (H2 := [(kg12 t1), (kg11 l3), .cells [.int .i64 (r15.flat 0), .int .i64 (r15.flat 1), .int .i64 (r15.flat 2), .int .i64 (r15.flat 3), .int .i64 (r15.flat 4), .int .i64 (r15.flat 5), .int .i64 r15.pair, .int .i64 r15.plab, .lst (List.map encC r15.pairs) false, .int .i64 r15.fn, .int .i64 r15.flab, .lst (List.map encC r15.funs) false], .cells [.int .i64 (r16.flat 0), .int .i64 (r16.flat 1), .int .i64 (r16.flat 2), .int .i64 (r16.flat 3), .int .i64 (r16.flat 4), .int .i64 (r16.flat 5), .int .i64 r16.pair, .int .i64 r16.plab, .lst (List.map encC r16.pairs) false, .int .i64 r16.fn, .int .i64 r16.flab, .lst (List.map encC r16.funs) false]]) rfl (by repeat (first | exact rzz | apply rcc rfl | apply rnn rfl)) rfl (?_ : GL _ _ _ _ _)
              refine L_seq ?_
              refine L_stmt ?_
              refine L_drawT [] rfl ?_
              refine GS_p rfl rfl rfl ?_
              refine GS_h (d := some 82) (v := .agg (cC l3.1)) rfl rfl rfl rfl (fun _ => rfl) ?_
              refine GS_p rfl rfl rfl ?_
              refine GS_h (d := some 84) (v := .agg (cC l3.2)) rfl rfl rfl rfl (fun _ => rfl) ?_
              obtain ⟨r23, hr23, hr⟩ := bind_s hr
              refine GS_c 18 rfl rfl rfl (CA_of (as := [.agg (cC l3.1), .agg (cC l3.2)]) rfl (oCompose_ok hr23)) ?_
              refine GS_h (d := some 86) (v := .agg (cC r15)) rfl rfl rfl rfl (fun _ => rfl) ?_
              refine GS_h (d := some 87) (v := .agg (cC r16)) rfl rfl rfl rfl (fun _ => rfl) ?_
              obtain ⟨r24, hr24, hr⟩ := bind_s hr
              refine GS_c 19 rfl rfl rfl (CA_of (as := [.agg (cC r15), .agg (cC r16)]) rfl (g_r07_Compose_ok n hr24)) ?_
              obtain ⟨r25, hr25, hr⟩ := bind_s hr
              refine GS_c 11 rfl rfl rfl (CA_of (as := [.agg (cC r23), .agg (cC r24)]) rfl (oSame_ok hr25)) ?_
              refine GS_p rfl rfl rfl ?_
              refine GS_nil ?_
              refine L_nil ?_
              refine Sm_norm (e2 := [(7, .bool r4), (15, .bool r25)]) (H1 := [(kg12 t1), (kg11 l3), .cells [.int .i64 (r15.flat 0), .int .i64 (r15.flat 1), .int .i64 (r15.flat 2), .int .i64 (r15.flat 3), .int .i64 (r15.flat 4), .int .i64 (r15.flat 5), .int .i64 r15.pair, .int .i64 r15.plab, .lst (List.map encC r15.pairs) false, .int .i64 r15.fn, .int .i64 r15.flab, .lst (List.map encC r15.funs) false], .cells [.int .i64 (r16.flat 0), .int .i64 (r16.flat 1), .int .i64 (r16.flat 2), .int .i64 (r16.flat 3), .int .i64 (r16.flat 4), .int .i64 (r16.flat 5), .int .i64 r16.pair, .int .i64 r16.plab, .lst (List.map encC r16.pairs) false, .int .i64 r16.fn, .int .i64 r16.flab, .lst (List.map encC r16.funs) false]]) (H2 := [(kg12 t1), (kg11 l3), .cells [.int .i64 (r15.flat 0), .int .i64 (r15.flat 1), .int .i64 (r15.flat 2), .int .i64 (r15.flat 3), .int .i64 (r15.flat 4), .int .i64 (r15.flat 5), .int .i64 r15.pair, .int .i64 r15.plab, .lst (List.map encC r15.pairs) false, .int .i64 r15.fn, .int .i64 r15.flab, .lst (List.map encC r15.funs) false], .cells [.int .i64 (r16.flat 0), .int .i64 (r16.flat 1), .int .i64 (r16.flat 2), .int .i64 (r16.flat 3), .int .i64 (r16.flat 4), .int .i64 (r16.flat 5), .int .i64 r16.pair, .int .i64 r16.plab, .lst (List.map encC r16.pairs) false, .int .i64 r16.fn, .int .i64 r16.flab, .lst (List.map encC r16.funs) false]]) rfl (by repeat (first | exact rzz | apply rcc rfl | apply rnn rfl)) rfl (?_ : GL _ _ _ _ _)
              refine L_seq ?_
              refine L_reg ?_
              refine G_p rfl rfl rfl ?_
              refine G_p rfl rfl rfl ?_
              refine G_and (f := r25) [_] rfl rfl ?_ ?_
              · intro hb91
                refine G_p rfl rfl rfl ?_
                exact G_nil (L_nil ⟨rfl, rfl, rfl⟩)
              · intro vs hvs
                obtain ⟨u92, rfl⟩ := len1 hvs
                dsimp only [junk]
                refine G_p rfl rfl rfl ?_
                refine G_nil ?_
                refine L_ret ?_
                have hr := some_s hr
                subst hr
                exact ⟨_, rfl, _, rfl, rfl⟩
end Go.Ev.Seat
namespace Go.Ev
set_option linter.unusedVariables false
set_option linter.unusedSimpArgs false
open Go
def tags : List Int := [1, 2, 4, 8, 16, 32, 64, 128]
end Go.Ev
namespace Go.Ev.Seat
set_option linter.unusedVariables false
set_option linter.unusedSimpArgs false
open Go Go.Ev
set_option maxRecDepth 20000
theorem smC_goC {l : Int} (hl : 1 ≤ l ∧ l ≤ 99) : ∀ (k : Nat) (up : Bool) (t : Ty), szT t ≤ k → Rt t → SmC (goC up l t)
  | 0, up, t, h, _ => by have := szT_pos t; omega
  | k + 1, up, t, h, rt => by
    obtain ⟨_, _, _, q1, q2, q3, q4, q5, _, _, _, _, q6, q7, _⟩ := (okC_iff _).1 (goC_ok rt.ok up hl)
    have lp : (goC up l t).pairs.length ≤ 2 := by
      have : pcntC (goC up l t).pair ≤ 2 := by unfold pcntC; split <;> (try split) <;> omega
      omega
    have lf : (goC up l t).funs.length ≤ 9 := by
      by_cases e : (goC up l t).fn = 2
      · exact (q6 e).1
      · have := q7 e; omega
    refine .mk (by omega) (by omega) ?_ ?_
    · intro y hy
      cases hz : (up && t.all) with
      | true => rw [goC_eq, goK, hz] at hy; simp [zeroC, Co.pairs] at hy
      | false =>
        rw [goC_mk hz] at hy
        have := pairG_mem (show y ∈ (pairG up l t.pair (goCs up l t.pairs)).2.2 from hy)
        rw [goCs_map] at this
        obtain ⟨x, hx, rfl⟩ := List.mem_map.1 this
        exact smC_goC hl k up x (by have := szT_pairs hx; omega) (rt.pairs hx)
    · intro y hy
      cases hz : (up && t.all) with
      | true => rw [goC_eq, goK, hz] at hy; simp [zeroC, Co.funs] at hy
      | false =>
        rw [goC_mk hz] at hy
        have hy2 : y ∈ (funG up l t.fn (goFs up l t.funs)).2.2 := hy
        have hm : y ∈ goFs up l t.funs := by
          revert hy2; unfold funG
          split
          · split <;> simp
          · split
            · split <;> simp
            · simp
        obtain ⟨x, hx, u, rfl⟩ := goFs_mem up l hm
        exact smC_goC hl k u x (by have := szT_funs hx; omega) (rt.funs hx)
theorem mixF_mem {f : Co → Co → Co} : ∀ {l m : List Co} {c : Co}, c ∈ mixF f l m → ∃ x y, x ∈ l ∧ y ∈ m ∧ (c = f x y ∨ c = f y x)
  | [], _, c, h => by simp [mixF] at h
  | _ :: _, [], c, h => by simp [mixF] at h
  | x :: xs, y :: ys, c, h => by
    simp only [mixF, List.mem_cons] at h
    rcases h with h | h
    · refine ⟨x, y, by simp, by simp, ?_⟩
      split at h
      · exact .inl h
      · exact .inr h
    · obtain ⟨a, b, ha, hb, hc⟩ := mixF_mem h
      exact ⟨a, b, by simp [ha], by simp [hb], hc⟩
theorem mixF_le {f : Co → Co → Co} : ∀ (l m : List Co), (mixF f l m).length ≤ l.length
  | [], _ => by simp [mixF]
  | _ :: _, [] => by simp [mixF]
  | x :: xs, y :: ys => by simp only [mixF, List.length_cons]; have := mixF_le (f := f) xs ys; omega
theorem rtC_sm : ∀ (k : Nat) (c : Co), szC c ≤ k → RtC c → SmC c
  | 0, c, h, _ => by have := szC_pos c; omega
  | k + 1, c, h, rc => by
    obtain ⟨_, _, _, q1, q2, q3, q4, q5, _, _, _, _, q6, q7, _⟩ := (okC_iff _).1 rc.ok
    have lp : c.pairs.length ≤ 2 := by
      have : pcntC c.pair ≤ 2 := by unfold pcntC; split <;> (try split) <;> omega
      omega
    have lf : c.funs.length ≤ 9 := by
      by_cases e : c.fn = 2
      · exact (q6 e).1
      · have := q7 e; omega
    exact .mk (by omega) (by omega) (fun y hy => rtC_sm k y (by have := szC_pairs hy; omega) (rc.pairs hy)) (fun y hy => rtC_sm k y (by have := szC_funs hy; omega) (rc.funs hy))
theorem smC_lists {c : Co} (h : SmC c) : c.pairs.length ≤ 1000000 ∧ c.funs.length ≤ 1000000 ∧ (∀ y, y ∈ c.pairs → SmC y) ∧ (∀ y, y ∈ c.funs → SmC y) := by cases h; exact ⟨‹_›, ‹_›, ‹_›, ‹_›⟩
theorem smC_comp : ∀ (k : Nat) (a b : Co), RtC a → RtC b → szC a + szC b ≤ k → SmC (compC k a b)
  | 0, a, b, _, _, h => by have := szC_pos a; omega
  | k + 1, a, b, ra, rb, h => by
    obtain ⟨sa1, sa2, sa3, sa4⟩ := smC_lists (rtC_sm _ a (Nat.le_refl _) ra)
    obtain ⟨sb1, sb2, sb3, sb4⟩ := smC_lists (rtC_sm _ b (Nat.le_refl _) rb)
    obtain ⟨_, _, _, qa1, qa2, _⟩ := (okC_iff a).1 ra.ok
    obtain ⟨_, _, _, qb1, qb2, _⟩ := (okC_iff b).1 rb.ok
    have hp : (pairP (compC k) a b).2.2.length ≤ 1000000 ∧ ∀ y, y ∈ (pairP (compC k) a b).2.2 → SmC y := by
      unfold pairP
      split
      · exact ⟨sa1, sa3⟩
      · split
        · exact ⟨sb1, sb3⟩
        · have pa : 2 ≤ a.pair := by omega
          have pb : 2 ≤ b.pair := by omega
          have rca := ra.car pa
          have rcb := rb.car pb
          have rda := ra.cdr pa
          have rdb := rb.cdr pb
          have s1 : SmC (compC k (carC a) (carC b)) := smC_comp k _ _ rca.1 rcb.1 (by omega)
          split
          · exact ⟨by simp, by intro y hy; simp at hy; subst hy; exact s1⟩
          · rename_i c3
            have s2 : SmC (compC k (cdrC a) (cdrC b)) := by
              refine smC_comp k _ _ rda.1 rdb.1 ?_
              rcases (show a.pair = 2 ∨ b.pair = 2 by omega) with e | e
              · have := rda.2.2 e; omega
              · have := rdb.2.2 e; omega
            exact ⟨by simp, by intro y hy; simp at hy; rcases hy with rfl | rfl; exact s1; exact s2⟩
    have hg : (funP (compC k) a b).2.2.length ≤ 1000000 ∧ ∀ y, y ∈ (funP (compC k) a b).2.2 → SmC y := by
      unfold funP
      split
      · exact ⟨sa2, sa4⟩
      · split
        · exact ⟨sb2, sb4⟩
        · split
          · exact ⟨by simp, by simp⟩
          · refine ⟨Nat.le_trans (mixF_le _ _) sa2, ?_⟩
            intro y hy
            obtain ⟨x, z, hx, hz, e⟩ := mixF_mem hy
            rcases e with rfl | rfl
            · exact smC_comp k _ _ (ra.funs hx) (rb.funs hz) (by have := szC_funs hx; have := szC_funs hz; omega)
            · exact smC_comp k _ _ (rb.funs hz) (ra.funs hx) (by have := szC_funs hx; have := szC_funs hz; omega)
    rw [compC]
    exact .mk hp.1 hg.1 hp.2 hg.2
theorem rsz_light {t : Ty} (h : decide (rsz t 60 < 120) = true) : szT t < 120 := by
  have h := of_decide_eq_true h
  rw [rsz_sz t 60 (by omega)]; exact h
theorem makesG (t : Ty) (l : Int) (c d : Co) (wt : WfT t) (wc : WfC c) (wd : WfC d) : g_w07_CoerceMakes 1000 t l (c, d) = some true := by
  unfold g_w07_CoerceMakes
  simp only [oAwake, oLightT, if_pos wt, oLight, if_pos wc, if_pos wd, Option.bind_some, oRightT]
  cases h1 : decide (rsz t 60 < 120) with
  | false => rfl
  | true =>
  cases h2 : (shalC c 30 && decide (rszC c 60 < 150)) with
  | false => rfl
  | true =>
  cases h3 : (shalC d 30 && decide (rszC d 60 < 150)) with
  | false => rfl
  | true =>
  have st := (rsz_light h1)
  have zc := lightC_sz h2
  have zd := lightC_sz h3
  have mc : SmC c := smC_shal 30 c (by simp at h2; exact h2.1)
  have md : SmC d := smC_shal 30 d (by simp at h3; exact h3.1)
  have second : g_w07_CoerceMakes_j1 1000 (c, d) true = some true := by
    unfold g_w07_CoerceMakes_j1
    simp only [oCto, if_pos mc, if_pos md, Option.bind_some, oRight, if_pos (show szC c ≤ 1000000 by omega), if_pos (show szC d ≤ 1000000 by omega)]
    cases r1 : rightC c 25 with
    | false => rfl
    | true =>
    cases r2 : rightC d 25 with
    | false => rfl
    | true =>
    have rc : RtC c := ⟨25, r1⟩
    have rd : RtC d := ⟨25, r2⟩
    obtain ⟨r, k1, k2⟩ := gComp 1000 c c d d (Sim.refl c) (Sim.refl d) rc rd (by omega)
    have hsm := smC_comp 1000 c d rc rd (by omega)
    have hss := simSame _ (compC 1000 c d) r (Nat.le_refl _) k2.symm
    simp only [oCompose, if_pos (show RtC c ∧ RtC d ∧ szC c + szC d ≤ 1000 from ⟨rc, rd, by omega⟩), Bool.not_true, cond_false, Option.bind_some, k1, oSame, if_pos hsm, hss, Bool.and_self]
  cases h4 : ((decide (rsz t 60 ≤ 300) && rightT t 20) && decide (1 ≤ l)) && decide (l ≤ 99) with
  | false => simp only [Bool.not_true, Bool.or_self, cond_false, h4, second]
  | true =>
    have hr : rightT t 20 = true := by simp at h4; exact h4.1.1.2
    have hl : 1 ≤ l ∧ l ≤ 99 := by simp at h4; omega
    have rt : Rt t := ⟨20, hr⟩
    obtain ⟨⟨r, k1, k2⟩, ⟨q, k3, k4⟩⟩ := gGo l 1000 t (by omega) rt
    have s1 := simSame _ (goC true l t) r (Nat.le_refl _) k2.symm
    have s2 := simSame _ (goC false l t) q (Nat.le_refl _) k4.symm
    simp only [Bool.not_true, Bool.or_self, cond_false, h4, cond_true, oTo, oFrom, if_pos rt, Option.bind_some, k1, k3, oSame, if_pos (smC_goC hl _ true t (Nat.le_refl _) rt), if_pos (smC_goC hl _ false t (Nat.le_refl _) rt), s1, s2, second]
theorem makes (t : Ty) (l : Int) (c d : Co) (wt : WfT t) (wc : WfC c) (wd : WfC d) : ∃ n, pcall (tabOf tabL) n 3 [vT t, .int .i64 l, .agg (cC c ++ cC d)] = some (.ok (.bool true)) :=
  (g_w07_CoerceMakes_ok (makesG t l c d wt wc wd)).get
end Go.Ev.Seat
namespace Go.Ev
set_option linter.unusedVariables false
set_option linter.unusedSimpArgs false
open Go
def HasT (P : Program) : Nat → TypeId → List AVal → Prop
  | 0, _, _ => False
  | n + 1, t, as => match P.underlying t with
    | some .bool => ∃ b, as = [.bool b]
    | some (.int k) => ∃ i, (Lit.int k i).wf = true ∧ as = [.int k i]
    | some .string => ∃ s : List UInt8, s.length ≤ maxLen ∧ as = [.str s]
    | some (.slice e) => ∃ xs : List AVal, xs.length ≤ maxLen ∧ as = [.lst xs false] ∧ ∀ x, x ∈ xs → HasT P n e x.flat ∧ (aggB P e = some true → ∃ cs, x = .agg cs) ∧ (aggB P e = some false → x.flat = [x])
    | some (.struct fs) => ∃ parts : List (List AVal), parts.length = fs.size ∧ as = parts.flatten ∧ ∀ (i : Nat) (f : Field) (p : List AVal), fs[i]? = some f → parts[i]? = some p → HasT P n f.type p
    | some (.array m e) => ∃ parts : List (List AVal), parts.length = m ∧ as = parts.flatten ∧ ∀ p, p ∈ parts → HasT P n e p
    | some (.pointer e) => as = [.nilp] ∨ ∃ cs, as = [.ro cs] ∧ HasT P n e cs
    | _ => False
def contig (P : Program) : Nat → List Field → Nat → Bool
  | off, [], tot => Nat.beq off tot
  | off, f :: fs, tot => Nat.beq f.offset off && contig P (off + P.cellsOf f.type) fs tot
def plainT (P : Program) (ts : List TypeId) (t : TypeId) : Bool :=
  match P.underlying t with
  | some .bool => true
  | some (.int _) => true
  | some .string => true
  | some (.slice e) => ts.contains e && Nat.ble 1 (P.cellsOf e)
  | some (.struct fs) => contig P 0 fs.toList (P.cellsOf t) && fs.toList.all fun f => ts.contains f.type
  | some (.array m e) => ts.contains e && Nat.beq (P.cellsOf t) (m * P.cellsOf e)
  | some (.pointer e) => ts.contains e && Nat.ble 1 (P.cellsOf e)
  | _ => false
def plainTs (P : Program) (ts : List TypeId) : Bool := ts.all (plainT P ts)
theorem build {α : Type} {Pr : Nat → α → Prop} : ∀ (n : Nat), (∀ i, i < n → ∃ y, Pr i y) → ∃ l : List α, l.length = n ∧ ∀ (i : Nat) (y : α), l[i]? = some y → Pr i y
  | 0, _ => ⟨[], rfl, by simp⟩
  | n + 1, h => by
    obtain ⟨l, h1, h2⟩ := build n (fun i hi => h i (by omega))
    obtain ⟨y, hy⟩ := h n (by omega)
    refine ⟨l ++ [y], by simp [h1], ?_⟩
    intro i z hz
    by_cases hi : i < l.length
    · rw [List.getElem?_append_left hi] at hz; exact h2 i z hz
    · rw [List.getElem?_append_right (by omega)] at hz
      have : i = n := by
        have := (List.getElem?_eq_some_iff.1 hz).1
        simp at this; omega
      subst this
      simp [h1] at hz; subst hz; exact hy
def scal : AVal → Bool
  | .agg _ => false
  | .tup _ => false
  | _ => true
def Flat1 (c : AVal) : Prop := rfree c ∧ scal c = true
theorem Flat1.flat {c : AVal} (h : Flat1 c) : c.flat = [c] := by
  have := h.2
  cases c <;> simp [scal] at this <;> rfl
theorem Flat1.one {Γ : Gh} {c : AVal} {d : Value} (h : Flat1 c) (hr : Rep Γ c d) : d.oneCell' = true := by
  have := h.2
  cases hr <;> first | rfl | (simp [scal] at this; done)
section
variable {H : Type} {enc : TypeId × Value → H} {P : Program} {w : World}
theorem reps_flatten_parts {Γ : Gh} : ∀ {parts : List (List AVal)} {cparts : List (List Value)}, parts.length = cparts.length → (∀ (i : Nat) (p : List AVal) (c : List Value), parts[i]? = some p → cparts[i]? = some c → Reps Γ p c) → Reps Γ parts.flatten cparts.flatten
  | [], [], _, _ => Reps.nil Γ
  | p :: ps, c :: cs, hl, h => by
    simp only [List.flatten_cons]
    exact (h 0 p c rfl rfl).append (reps_flatten_parts (by simpa using hl) fun i p c h1 h2 => h (i + 1) p c (by simpa using h1) (by simpa using h2))
  | [], _ :: _, hl, _ => by simp at hl
  | _ :: _, [], hl, _ => by simp at hl
theorem contig_parts : ∀ {fs : List Field} {off tot : Nat} {cs : List Value}, contig P off fs tot = true → cs.length = tot → (fs.map fun f => (cs.drop f.offset).take (P.cellsOf f.type)).flatten = cs.drop off
  | [], off, tot, cs, h, hl => by
    have := Nat.eq_of_beq_eq_true (by simpa [contig] using h)
    simp; omega
  | f :: fs, off, tot, cs, h, hl => by
    simp only [contig, Bool.and_eq_true] at h
    have h1 := Nat.eq_of_beq_eq_true h.1
    simp only [List.map_cons, List.flatten_cons]
    rw [contig_parts h.2 hl, h1, ← List.drop_drop, List.take_append_drop]
theorem array_parts {z : Nat} : ∀ {m : Nat} {cs : List Value}, cs.length = m * z → ((List.range m).map fun i => (cs.drop (i * z)).take z).flatten = cs
  | 0, cs, hl => by
    have : cs = [] := List.length_eq_zero_iff.1 (by omega)
    simp [this]
  | m + 1, cs, hl => by
    rw [List.range_succ_eq_map, List.map_cons, List.flatten_cons, List.map_map]
    have h := array_parts (z := z) (m := m) (cs := cs.drop z) (by simp [hl, Nat.add_mul])
    have e : ((fun i => (cs.drop (i * z)).take z) ∘ Nat.succ) = fun i => ((cs.drop z).drop (i * z)).take z := by
      funext i
      simp only [Function.comp, List.drop_drop, Nat.succ_eq_add_one, Nat.add_mul, Nat.one_mul]
      rw [Nat.add_comm]
    rw [e, h]
    simp
def mkEl (b : Option Bool) (p : List AVal) : AVal := match b with
  | some false => p.headD .nilp
  | _ => .agg p
theorem mkEl_rfree {b : Option Bool} {p : List AVal} (h : ∀ c, c ∈ p → rfree c) : rfree (mkEl b p) := by
  unfold mkEl
  split
  · cases p with
    | nil => rfl
    | cons c cs => exact h c (by simp)
  · exact lowL_iff.2 h
theorem HasT_single {ts : List TypeId} (hp : plainTs P ts = true) {n : Nat} {e : TypeId} {p : List AVal} (he : e ∈ ts) (ha : aggB P e = some false) (h : HasT P n e p) : ∃ c, p = [c] := by
  cases n with
  | zero => cases h
  | succ n =>
    unfold aggB at ha
    unfold HasT at h
    cases hu : P.underlying e with
    | none => rw [hu] at h; cases h
    | some u =>
      rw [hu] at h ha
      cases u <;> simp only [reduceCtorEq] at h ha <;> first | (cases ha; done) | (cases h; done) | skip
      · obtain ⟨b, rfl⟩ := h; exact ⟨_, rfl⟩
      · obtain ⟨i, _, rfl⟩ := h; exact ⟨_, rfl⟩
      · obtain ⟨b, _, rfl⟩ := h; exact ⟨_, rfl⟩
      · rcases h with rfl | ⟨cs, rfl, _⟩ <;> exact ⟨_, rfl⟩
      · obtain ⟨xs, _, rfl, _⟩ := h; exact ⟨_, rfl⟩
theorem mkEl_flat {ts : List TypeId} (hp : plainTs P ts = true) {n : Nat} {e : TypeId} {p : List AVal} (he : e ∈ ts) (h : HasT P n e p) (hf : ∀ c, c ∈ p → Flat1 c) : (mkEl (aggB P e) p).flat = p := by
  unfold mkEl
  split
  · rename_i ha
    obtain ⟨c, rfl⟩ := HasT_single hp he ha h
    exact (hf c (by simp)).flat
  · rfl
theorem flatL_mkEl {b : Option Bool} : ∀ {parts : List (List AVal)}, (∀ p, p ∈ parts → (mkEl b p).flat = p) → flatL (parts.map (mkEl b)) = parts.flatten
  | [], _ => rfl
  | p :: ps, h => by
    simp only [List.map_cons, flatL, List.flatten_cons, h p (by simp)]
    rw [flatL_mkEl fun q hq => h q (by simp [hq])]
theorem flatten_get {α : Type} {z : Nat} (hz : 0 < z) : ∀ {parts : List (List α)} {j : Nat} {c : α}, (∀ p, p ∈ parts → p.length = z) → parts.flatten[j]? = some c → ∃ p, parts[j / z]? = some p ∧ p[j % z]? = some c
  | [], j, c, _, h => by simp at h
  | p :: ps, j, c, hl, h => by
    have hp := hl p (by simp)
    rw [List.flatten_cons] at h
    by_cases hj : j < z
    · rw [List.getElem?_append_left (by omega)] at h
      rw [Nat.div_eq_of_lt hj, Nat.mod_eq_of_lt hj]
      exact ⟨p, rfl, h⟩
    · rw [List.getElem?_append_right (by omega), hp] at h
      obtain ⟨q, h1, h2⟩ := flatten_get hz (fun q hq => hl q (by simp [hq])) h
      have e1 : j / z = (j - z) / z + 1 := by
        rw [← Nat.add_div_right _ hz]; congr 1; omega
      have e2 : j % z = (j - z) % z := by
        rw [Nat.mod_eq_sub_mod (by omega)]
      exact ⟨q, by rw [e1]; exact h1, by rw [e2]; exact h2⟩
theorem trod_has {ts : List TypeId} (hp : plainTs P ts = true) : ∀ (n : Nat) (t : TypeId) (cs : List Value) (x : DataW H × List MemPlace), t ∈ ts → DataW.trod enc P w 0 (fun _ => true) true n t cs = some x →
    ∃ as : List AVal, Reps (Gh.all w) as cs ∧ HasT P n t as ∧ ∀ c, c ∈ as → Flat1 c := by
  intro n
  induction n with
  | zero => intro t cs x _ h; simp [DataW.trod] at h
  | succ n ih =>
    intro t cs x ht h
    have hpt := List.all_eq_true.1 hp t ht
    unfold plainT at hpt
    have hT : ∀ as, HasT P (n + 1) t as = HasT P (n + 1) t as := fun _ => rfl
    have single : ∀ (a : AVal) (v : Value), cs = [v] → Rep (Gh.all w) a v → Flat1 a → ∀ Q : List AVal → Prop, Q [a] → ∃ as : List AVal, Reps (Gh.all w) as cs ∧ Q as ∧ ∀ c, c ∈ as → Flat1 c := by
      rintro a v rfl hr hf Q hQ
      exact ⟨[a], Reps.cons hr (Reps.nil _), hQ, by simpa using hf⟩
    split at hpt
    · rename_i hu
      obtain ⟨b, hc, _⟩ := DataW.trod_bool hu h
      simp only [HasT, hu]
      exact single (.bool b) _ hc (.bool b) ⟨rfl, rfl⟩ _ ⟨b, rfl⟩
    · rename_i k hu
      obtain ⟨i, hc, _, hw⟩ := DataW.trod_int hu h
      simp only [HasT, hu]
      exact single (.int k i) _ hc (.int k i) ⟨rfl, rfl⟩ _ ⟨i, hw, rfl⟩
    · rename_i hu
      obtain ⟨s, hc, _, hl⟩ := DataW.trod_string hu h
      simp only [HasT, hu]
      refine single (.str s.data.toList) _ hc ?_ ⟨rfl, rfl⟩ _ ⟨s.data.toList, by rw [Array.length_toList]; exact hl, rfl⟩
      have := Rep.str (Γ := Gh.all w) s.data.toList
      simpa using this
    · rename_i e hu
      simp only [Bool.and_eq_true] at hpt
      have hz : 1 ≤ P.cellsOf e := Nat.le_of_ble_eq_true hpt.2
      have he : e ∈ ts := by simpa using hpt.1
      simp only [HasT, hu]
      rcases DataW.trod_slice hu h with ⟨hc, _⟩ | ⟨a, len, cap, elems, rest, m, hm, hc, _, _, hlc, hmax, hel, hget, _, _⟩
      · exact single (.lst [] false) _ hc (.lstN false) ⟨rfl, rfl⟩ _ ⟨[], by simp, rfl, by simp⟩
      · cases hm
        have each : ∀ i, i < len → ∃ p : List AVal, ∃ ds : List Value, p.length = P.cellsOf e ∧ Reps (Gh.all w) p ds ∧ HasT P n e p ∧ (∀ c, c ∈ p → Flat1 c) ∧ ∀ j, j < P.cellsOf e → w.cell? ((a.add (i * P.cellsOf e)).add j) = ds[j]? := by
          intro i hi
          have h1 := hget i hi
          have hx : elems[i]? = some elems[i] := List.getElem?_eq_getElem (by omega)
          rw [hx] at h1
          obtain ⟨cs', hc1, hc2⟩ := Option.bind_eq_some_iff.1 h1
          obtain ⟨p, h2, h3, h4⟩ := ih e cs' elems[i] he hc2
          obtain ⟨_, hl, hcell⟩ := World.cells?_some hc1
          exact ⟨p, cs', by rw [← h2.1, hl], h2, h3, h4, hcell⟩
        obtain ⟨parts, hpl, hpe⟩ := build len each
        rcases Nat.eq_zero_or_pos len with hl0 | hpos
        · subst hl0
          exact single (.lst [] false) _ hc (.lstE (by simp)) ⟨rfl, rfl⟩ _ ⟨[], by simp, rfl, by simp⟩
        · obtain ⟨blk, off, spot⟩ := a
          have hspot : spot = none := by
            obtain ⟨p, ds, q1, q2, _, _, q3⟩ := each 0 hpos
            have h0 := q3 0 hz
            rw [Nat.zero_mul, Addr.add_zero', Addr.add_zero'] at h0
            cases hx : ds[0]? with
            | none => have := (List.getElem?_eq_none_iff.1 hx); have := q2.1; omega
            | some v => rw [hx] at h0; exact World.cell?_spot h0
          subst hspot
          refine single (.lst (parts.map (mkEl (aggB P e))) false) _ hc ?_ ⟨?_, rfl⟩ _ ⟨parts.map (mkEl (aggB P e)), by simpa [hpl] using Nat.le_trans hlc hmax, rfl, ?_⟩
          · have hfl : ∀ p, p ∈ parts → (mkEl (aggB P e) p).flat = p := by
              intro p hp1
              obtain ⟨i, hi⟩ := List.getElem?_of_mem hp1
              obtain ⟨ds, q1, q2, q3, q4, q5⟩ := hpe i p hi
              exact mkEl_flat hp he q3 q4
            have hlens : ∀ p, p ∈ parts → p.length = P.cellsOf e := by
              intro p hp1
              obtain ⟨i, hi⟩ := List.getElem?_of_mem hp1
              obtain ⟨ds, q1, _⟩ := hpe i p hi
              exact q1
            have hall : ∀ (j : Nat) (c : AVal), parts.flatten[j]? = some c → ∃ d, w.cell? ⟨blk, off + j, none⟩ = some d ∧ Rep (Gh.all w) c d ∧ Flat1 c := by
              intro j c hj
              obtain ⟨p, hp1, hp2⟩ := flatten_get hz hlens hj
              obtain ⟨ds, q1, q2, q3, q4, q5⟩ := hpe _ p hp1
              obtain ⟨d, hd, hr⟩ := q2.get hp2
              refine ⟨d, ?_, hr, q4 c (List.mem_of_getElem? hp2)⟩
              have h6 := q5 (j % P.cellsOf e) (Nat.mod_lt _ hz)
              rw [Addr.add_lit, Addr.add_lit] at h6
              rw [← hd, ← h6]
              congr 2
              rw [Nat.add_assoc, Nat.mul_comm, Nat.div_add_mod]
            have hflat : flatL (parts.map (mkEl (aggB P e))) = parts.flatten := flatL_mkEl hfl
            have hlen2 : (parts.map (mkEl (aggB P e))).length = len := by simp [hpl]
            have key := Rep.lst (Γ := Gh.all w) (xs := parts.map (mkEl (aggB P e))) (e := false) (g := blk) (off := off) (cap := cap) (es := P.cellsOf e) (fun j => (w.cell? ⟨blk, off + j, none⟩).getD undef) (by omega) (by simp) ?_ ?_ ?_ ?_ ?_
            · rw [hlen2] at key; exact key
            · intro x hx
              obtain ⟨p, hp1, rfl⟩ := List.mem_map.1 hx
              simp only [AVal.width, hfl p hp1, hlens p hp1]
            · intro x hx
              obtain ⟨p, hp1, rfl⟩ := List.mem_map.1 hx
              obtain ⟨i, hi⟩ := List.getElem?_of_mem hp1
              obtain ⟨ds, q1, q2, q3, q4, q5⟩ := hpe i p hi
              exact mkEl_rfree (fun c hc => (q4 c hc).1)
            · intro j c hj
              rw [hflat] at hj
              obtain ⟨d, h1, h2, h3⟩ := hall j c hj
              simp only [Gh.all, h1, Option.getD_some]
            · intro j c hj
              rw [hflat] at hj
              obtain ⟨d, h1, h2, h3⟩ := hall j c hj
              simp only [h1, Option.getD_some]
              exact h3.one h2
            · intro j c hj
              rw [hflat] at hj
              obtain ⟨d, h1, h2, h3⟩ := hall j c hj
              simp only [h1, Option.getD_some]
              exact h2
          · rfl
          · intro x hx
            obtain ⟨p, hp1, rfl⟩ := List.mem_map.1 hx
            obtain ⟨i, hi⟩ := List.getElem?_of_mem hp1
            obtain ⟨ds, q1, q2, q3, q4, q5⟩ := hpe i p hi
            have hf := mkEl_flat hp he q3 q4
            refine ⟨by rw [hf]; exact q3, ?_, ?_⟩
            · intro h; exact ⟨p, by rw [h]; rfl⟩
            · intro h
              rw [hf]
              obtain ⟨c, hc1⟩ := HasT_single hp he h q3
              rw [hc1, h]; rfl
    · rename_i fs hu
      simp only [Bool.and_eq_true] at hpt
      simp only [HasT, hu]
      obtain ⟨xs, m, hm, _, hlen, hxl, hget⟩ := DataW.trod_struct hu h
      cases hm
      have each : ∀ i, i < fs.size → ∃ p : List AVal, ∀ f, fs[i]? = some f → Reps (Gh.all w) p ((cs.drop f.offset).take (P.cellsOf f.type)) ∧ HasT P n f.type p ∧ ∀ c, c ∈ p → Flat1 c := by
        intro i hi
        have hfi : fs[i]? = some fs[i] := Array.getElem?_eq_getElem hi
        have hx : xs[i]? = some xs[i] := List.getElem?_eq_getElem (by omega)
        have hmem : fs[i].type ∈ ts := by
          have := List.all_eq_true.1 hpt.2 fs[i] (by simp)
          simpa using this
        obtain ⟨p, h1, h2, h3⟩ := ih fs[i].type _ xs[i] hmem (by rw [hget i _ hfi, hx])
        exact ⟨p, fun f hf => by rw [hfi] at hf; cases hf; exact ⟨h1, h2, h3⟩⟩
      obtain ⟨parts, hpl, hpe⟩ := build fs.size each
      refine ⟨parts.flatten, ?_, ⟨parts, hpl, rfl, fun i f p hf hp => ((hpe i p hp) f hf).2.1⟩, ?_⟩
      · have := contig_parts (cs := cs) hpt.1 hlen
        rw [List.drop_zero] at this
        rw [← this]
        refine reps_flatten_parts (by simp [hpl]) ?_
        intro i p c h1 h2
        rw [List.getElem?_map, Option.map_eq_some_iff] at h2
        obtain ⟨f, hf, rfl⟩ := h2
        exact ((hpe i p h1) f (by simpa using hf)).1
      · intro c hc
        obtain ⟨p, hp1, hp2⟩ := List.mem_flatten.1 hc
        obtain ⟨i, hi⟩ := List.getElem?_of_mem hp1
        have hlt : i < fs.size := by rw [← hpl]; exact (List.getElem?_eq_some_iff.1 hi).1
        exact ((hpe i p hi) fs[i] (Array.getElem?_eq_getElem hlt)).2.2 c hp2
    · rename_i m e hu
      simp only [Bool.and_eq_true] at hpt
      simp only [HasT, hu]
      have he : e ∈ ts := by simpa using hpt.1
      have hsz := Nat.eq_of_beq_eq_true hpt.2
      obtain ⟨xs, k, hm, _, hlen, hxl, hget⟩ := DataW.trod_array hu h
      cases hm
      have each : ∀ i, i < m → ∃ p : List AVal, Reps (Gh.all w) p ((cs.drop (i * P.cellsOf e)).take (P.cellsOf e)) ∧ HasT P n e p ∧ ∀ c, c ∈ p → Flat1 c := by
        intro i hi
        have hx : xs[i]? = some xs[i] := List.getElem?_eq_getElem (by omega)
        exact ih e _ xs[i] he (by rw [hget i hi, hx])
      obtain ⟨parts, hpl, hpe⟩ := build m each
      refine ⟨parts.flatten, ?_, ⟨parts, hpl, rfl, ?_⟩, ?_⟩
      · have := array_parts (z := P.cellsOf e) (m := m) (cs := cs) (by omega)
        rw [← this]
        refine reps_flatten_parts (by simp [hpl]) ?_
        intro i p c h1 h2
        rw [List.getElem?_map, Option.map_eq_some_iff] at h2
        obtain ⟨j, hj, rfl⟩ := h2
        have hji : j = i := by
          have := List.getElem?_eq_some_iff.1 hj
          obtain ⟨hj1, hj2⟩ := this
          simp at hj2; omega
        subst hji
        exact (hpe j p h1).1
      · intro p hp1
        obtain ⟨i, hi⟩ := List.getElem?_of_mem hp1
        exact (hpe i p hi).2.1
      · intro c hc
        obtain ⟨p, hp1, hp2⟩ := List.mem_flatten.1 hc
        obtain ⟨i, hi⟩ := List.getElem?_of_mem hp1
        exact (hpe i p hi).2.2 c hp2
    · rename_i e hu
      simp only [Bool.and_eq_true] at hpt
      simp only [HasT, hu]
      have hz : 1 ≤ P.cellsOf e := Nat.le_of_ble_eq_true hpt.2
      have he : e ∈ ts := by simpa using hpt.1
      rcases DataW.trod_pointer hu h with ⟨hc, _⟩ | ⟨a, cs', y, m, hm, hc, _, hcells, hy⟩
      · exact single .nilp _ hc .nilp ⟨rfl, rfl⟩ _ (.inl rfl)
      · cases hm
        obtain ⟨p, h1, h2, h3⟩ := ih e cs' y he hy
        obtain ⟨hb, hl, hcell⟩ := World.cells?_some hcells
        have hspot : a.spot = none := by
          have h0 := hcell 0 (by omega)
          rw [Addr.add_zero'] at h0
          cases hx : cs'[0]? with
          | none => have := (List.getElem?_eq_none_iff.1 hx); omega
          | some v => rw [hx] at h0; exact World.cell?_spot h0
        obtain ⟨blk, off, spot⟩ := a
        simp only at hspot
        subst hspot
        refine single (.ro p) _ hc ?_ ⟨rfl, rfl⟩ _ (.inr ⟨p, rfl, h2⟩)
        have hd : ∀ (j : Nat) (c : AVal), p[j]? = some c → ∃ d, cs'[j]? = some d ∧ Rep (Gh.all w) c d ∧ w.cell? ⟨blk, off + j, none⟩ = some d := by
          intro j c hj
          obtain ⟨d, hd, hr⟩ := h1.get hj
          have hlt := (List.getElem?_eq_some_iff.1 hd).1
          refine ⟨d, hd, hr, ?_⟩
          have := hcell j (by omega)
          rw [Addr.add_lit] at this
          rw [this]; exact hd
        refine .ro (fun j => cs'.getD j undef) (fun c hc => (h3 c hc).1) ?_ ?_ ?_
        · intro j c hj
          obtain ⟨d, hd1, hr, hd2⟩ := hd j c hj
          simp only [Gh.all, hd2, List.getD, hd1, Option.getD_some]
        · intro j c hj
          obtain ⟨d, hd1, hr, hd2⟩ := hd j c hj
          simp only [List.getD, hd1, Option.getD_some]
          exact (h3 c (List.mem_of_getElem? hj)).one hr
        · intro j c hj
          obtain ⟨d, hd1, hr, hd2⟩ := hd j c hj
          simp only [List.getD, hd1, Option.getD_some]
          exact hr
    · cases hpt
end
section
variable {H : Type} {enc : TypeId × Value → H} {P : Program} {w : World}
theorem plain_cell {ts : List TypeId} (hp : plainTs P ts = true) {t : TypeId} {v : Value} {base : Nat} (ht : t ∈ ts) (ha : aggB P t = some false) (hok : Value.okWide P w .any base t v) : v.cells.toList = [v] := by
  have hpt := List.all_eq_true.1 hp t ht
  cases v <;> first | rfl | skip
  exfalso
  unfold aggB at ha
  unfold plainT at hpt
  unfold Value.okWide Cell.okWide Cell.ok at hok
  cases hu : P.underlying t with
  | none => rw [hu] at ha; cases ha
  | some u => rw [hu] at ha hpt hok; cases u <;> simp_all
theorem arg_has {ts : List TypeId} (hp : plainTs P ts = true) {t : TypeId} {v : Value} {d : DataW H} {ps : List MemPlace} {base : Nat} (ht : t ∈ ts) (hok : Value.okWide P w .any base t v)
    (h : DataW.Trod enc P w 0 (fun _ => true) true t v d ps) : ∃ (n : Nat) (as : List AVal), HasT P n t as ∧ (aggB P t = some true → Rep (Gh.all w) (.agg as) v) ∧ (aggB P t = some false → ∃ c, as = [c] ∧ Rep (Gh.all w) c v) := by
  obtain ⟨n, hf⟩ := h
  obtain ⟨as, h1, h2, h3⟩ := trod_has hp n t _ _ ht hf
  refine ⟨n, as, h2, ?_, ?_⟩
  · intro ha
    have hv : ∃ cs, v = .agg cs := by
      unfold Value.okWide at hok
      unfold aggB at ha
      cases hu : P.underlying t with
      | none => rw [hu] at ha; cases ha
      | some u =>
        rw [hu] at ha hok
        cases u <;> simp only [reduceCtorEq, Option.some.injEq, Bool.false_eq_true] at ha
        · obtain ⟨cs, hcs, _⟩ := hok; exact ⟨cs, hcs⟩
        · obtain ⟨cs, hcs, _⟩ := hok; exact ⟨cs, hcs⟩
    obtain ⟨cs, rfl⟩ := hv
    have e : (Value.agg cs).cells.toList = cs.toList := rfl
    rw [e] at h1
    have := Rep.agg (Γ := Gh.all w) h1.1 h1.2 (fun d hd => by
      obtain ⟨i, hi⟩ := List.getElem?_of_mem hd
      have hlt : i < as.length := by rw [← h1.1]; exact (List.getElem?_eq_some_iff.1 hi).1
      have ha' := List.getElem?_eq_getElem hlt
      exact (h3 _ (List.mem_of_getElem? ha')).one (h1.2 i _ _ ha' hi))
    simpa using this
  · intro ha
    have hc := plain_cell hp ht ha hok
    rw [hc] at h1
    obtain ⟨c, rfl⟩ := HasT_single hp ht ha h2
    exact ⟨c, rfl, h1.2 0 c v rfl rfl⟩
end
end Go.Ev
namespace Go.Ev
set_option linter.unusedVariables false
set_option linter.unusedSimpArgs false
open Go
theorem dec_list {α : Type} {enc : α → AVal} {Q : α → Prop} : ∀ {xs : List AVal}, (∀ x, x ∈ xs → ∃ y, x = enc y ∧ Q y) → ∃ ys : List α, xs = ys.map enc ∧ ∀ y, y ∈ ys → Q y
  | [], _ => ⟨[], rfl, by simp⟩
  | x :: xs, h => by
    obtain ⟨y, rfl, hy⟩ := h x (by simp)
    obtain ⟨ys, rfl, hys⟩ := dec_list (xs := xs) (fun z hz => h z (List.mem_cons_of_mem _ hz))
    exact ⟨y :: ys, rfl, by simpa using ⟨hy, hys⟩⟩
structure TyP (P : Program) (t s b i : TypeId) : Prop where
  fs : ∃ fs : Array Field, P.underlying t = some (.struct fs) ∧ fs.toList.map (·.type) = [b, i, i, s, i, s]
  sl : P.underlying s = some (.slice t)
  bo : P.underlying b = some .bool
  int : P.underlying i = some (.int .i64)
theorem HasT.bool_of {P : Program} {n : Nat} {t : TypeId} {as : List AVal} (hu : P.underlying t = some .bool) (h : HasT P n t as) : ∃ b, as = [.bool b] := by
  cases n with
  | zero => cases h
  | succ n => unfold HasT at h; rw [hu] at h; exact h
theorem HasT.int_of {P : Program} {n : Nat} {t : TypeId} {k : IntKind} {as : List AVal} (hu : P.underlying t = some (.int k)) (h : HasT P n t as) : ∃ i, (Lit.int k i).wf = true ∧ as = [.int k i] := by
  cases n with
  | zero => cases h
  | succ n => unfold HasT at h; rw [hu] at h; exact h
theorem HasT.slice_of {P : Program} {n : Nat} {t e : TypeId} {as : List AVal} (hu : P.underlying t = some (.slice e)) (h : HasT P (n + 1) t as) :
    ∃ xs : List AVal, xs.length ≤ maxLen ∧ as = [.lst xs false] ∧ ∀ x, x ∈ xs → HasT P n e x.flat ∧ (aggB P e = some true → ∃ cs, x = .agg cs) ∧ (aggB P e = some false → x.flat = [x]) := by
  unfold HasT at h; rw [hu] at h; exact h
theorem HasT.struct_of {P : Program} {n : Nat} {t : TypeId} {fs : Array Field} {l : List TypeId} {as : List AVal} (hu : P.underlying t = some (.struct fs)) (hl : fs.toList.map (·.type) = l) (h : HasT P (n + 1) t as) :
    ∃ parts : List (List AVal), parts.length = l.length ∧ as = parts.flatten ∧ ∀ (i : Nat) (u : TypeId) (p : List AVal), l[i]? = some u → parts[i]? = some p → HasT P n u p := by
  unfold HasT at h; rw [hu] at h
  obtain ⟨parts, h1, h2, h3⟩ := h
  refine ⟨parts, by rw [h1, ← hl]; simp, h2, ?_⟩
  intro i u p hu hp
  rw [← hl, List.getElem?_map, Option.map_eq_some_iff] at hu
  obtain ⟨f, hf, rfl⟩ := hu
  exact h3 i f p (by simpa using hf) hp
theorem i64_wf {i : Int} (h : (Lit.int .i64 i).wf = true) : -9223372036854775808 ≤ i ∧ i < 9223372036854775808 := by
  simp only [Lit.wf, Bool.and_eq_true, IntKind.min, IntKind.max, IntKind.signed, IntKind.bits] at h
  simp at h
  exact ⟨by omega, by omega⟩
theorem ty_dec {P : Program} {t s b i : TypeId} (hP : TyP P t s b i) : ∀ (n : Nat) (as : List AVal), HasT P n t as → ∃ x : Ty, as = cT x ∧ WfT x := by
  obtain ⟨fs, hu, hl⟩ := hP.fs
  have hagg : aggB P t = some true := by unfold aggB; rw [hu]
  intro n
  induction n using Nat.strongRecOn with
  | ind n ih =>
    intro as h
    cases n with
    | zero => cases h
    | succ n =>
      obtain ⟨parts, h1, rfl, h3⟩ := HasT.struct_of hu hl h
      obtain ⟨p0, p1, p2, p3, p4, p5, rfl⟩ := len6 h1
      obtain ⟨v0, rfl⟩ := HasT.bool_of hP.bo (h3 0 b p0 rfl rfl)
      obtain ⟨v1, w1, rfl⟩ := HasT.int_of hP.int (h3 1 i p1 rfl rfl)
      obtain ⟨v2, w2, rfl⟩ := HasT.int_of hP.int (h3 2 i p2 rfl rfl)
      obtain ⟨v4, w4, rfl⟩ := HasT.int_of hP.int (h3 4 i p4 rfl rfl)
      have hs3 := h3 3 s p3 rfl rfl
      have hs5 := h3 5 s p5 rfl rfl
      cases n with
      | zero => cases hs3
      | succ n =>
        have list : ∀ p, HasT P (n + 1) s p → ∃ ys : List Ty, p = [.lst (ys.map encT) false] ∧ ys.length < 9223372036854775808 ∧ ∀ y, y ∈ ys → WfT y := by
          intro p hp
          obtain ⟨xs, k1, rfl, k3⟩ := HasT.slice_of hP.sl hp
          obtain ⟨ys, rfl, hys⟩ := dec_list (enc := encT) (Q := WfT) (xs := xs) (by
            intro x hx
            obtain ⟨q1, q2, _⟩ := k3 x hx
            obtain ⟨cs, rfl⟩ := q2 hagg
            obtain ⟨y, hy, hw⟩ := ih n (by omega) _ q1
            refine ⟨y, ?_, hw⟩
            rw [encT_eq]
            have : cs = cT y := hy
            rw [this])
          refine ⟨ys, rfl, ?_, hys⟩
          rw [List.length_map] at k1
          have : maxLen = 9223372036854775807 := rfl
          omega
        obtain ⟨ys3, rfl, l3, q3⟩ := list p3 hs3
        obtain ⟨ys5, rfl, l5, q5⟩ := list p5 hs5
        exact ⟨⟨v0, v1, v2, ys3, v4, ys5⟩, rfl, .mk (i64_wf w1) (i64_wf w2) (i64_wf w4) l3 l5 q3 q5⟩
end Go.Ev
namespace Go.Ev
set_option linter.unusedVariables false
set_option linter.unusedSimpArgs false
open Go
structure CoP (P : Program) (t s a i : TypeId) : Prop where
  fs : ∃ fs : Array Field, P.underlying t = some (.struct fs) ∧ fs.toList.map (·.type) = [a, i, i, s, i, i, s]
  sl : P.underlying s = some (.slice t)
  ar : P.underlying a = some (.array 6 i)
  int : P.underlying i = some (.int .i64)
theorem HasT.array_of {P : Program} {n m : Nat} {t e : TypeId} {as : List AVal} (hu : P.underlying t = some (.array m e)) (h : HasT P (n + 1) t as) :
    ∃ parts : List (List AVal), parts.length = m ∧ as = parts.flatten ∧ ∀ p, p ∈ parts → HasT P n e p := by
  unfold HasT at h; rw [hu] at h; exact h
def sixOf (a b c d e f : Int) (i : Nat) : Int := match i with
  | 0 => a
  | 1 => b
  | 2 => c
  | 3 => d
  | 4 => e
  | 5 => f
  | _ => 0
theorem co_dec {P : Program} {t s a i : TypeId} (hP : CoP P t s a i) : ∀ (n : Nat) (as : List AVal), HasT P n t as → ∃ x : Co, as = cC x ∧ WfC x := by
  obtain ⟨fs, hu, hl⟩ := hP.fs
  have hagg : aggB P t = some true := by unfold aggB; rw [hu]
  intro n
  induction n using Nat.strongRecOn with
  | ind n ih =>
    intro as h
    cases n with
    | zero => cases h
    | succ n =>
      obtain ⟨parts, h1, rfl, h3⟩ := HasT.struct_of hu hl h
      obtain ⟨p0, p1, p2, p3, p4, p5, p6, rfl⟩ := len7 h1
      have hs0 := h3 0 a p0 rfl rfl
      obtain ⟨v1, w1, rfl⟩ := HasT.int_of hP.int (h3 1 i p1 rfl rfl)
      obtain ⟨v2, w2, rfl⟩ := HasT.int_of hP.int (h3 2 i p2 rfl rfl)
      obtain ⟨v4, w4, rfl⟩ := HasT.int_of hP.int (h3 4 i p4 rfl rfl)
      obtain ⟨v5, w5, rfl⟩ := HasT.int_of hP.int (h3 5 i p5 rfl rfl)
      have hs3 := h3 3 s p3 rfl rfl
      have hs6 := h3 6 s p6 rfl rfl
      cases n with
      | zero => cases hs3
      | succ n =>
        obtain ⟨qs, k1, rfl, k3⟩ := HasT.array_of hP.ar hs0
        obtain ⟨q0, q1, q2, q3, q4, q5, rfl⟩ := len6 k1
        obtain ⟨u0, x0, rfl⟩ := HasT.int_of hP.int (k3 q0 (by simp))
        obtain ⟨u1, x1, rfl⟩ := HasT.int_of hP.int (k3 q1 (by simp))
        obtain ⟨u2, x2, rfl⟩ := HasT.int_of hP.int (k3 q2 (by simp))
        obtain ⟨u3, x3, rfl⟩ := HasT.int_of hP.int (k3 q3 (by simp))
        obtain ⟨u4, x4, rfl⟩ := HasT.int_of hP.int (k3 q4 (by simp))
        obtain ⟨u5, x5, rfl⟩ := HasT.int_of hP.int (k3 q5 (by simp))
        have list : ∀ p, HasT P (n + 1) s p → ∃ ys : List Co, p = [.lst (ys.map encC) false] ∧ ys.length < 9223372036854775808 ∧ ∀ y, y ∈ ys → WfC y := by
          intro p hp
          obtain ⟨xs, k1, rfl, k3⟩ := HasT.slice_of hP.sl hp
          obtain ⟨ys, rfl, hys⟩ := dec_list (enc := encC) (Q := WfC) (xs := xs) (by
            intro x hx
            obtain ⟨q1, q2, _⟩ := k3 x hx
            obtain ⟨cs, rfl⟩ := q2 hagg
            obtain ⟨y, hy, hw⟩ := ih n (by omega) _ q1
            refine ⟨y, ?_, hw⟩
            rw [encC_eq]
            have : cs = cC y := hy
            rw [this])
          refine ⟨ys, rfl, ?_, hys⟩
          rw [List.length_map] at k1
          have : maxLen = 9223372036854775807 := rfl
          omega
        obtain ⟨ys3, rfl, l3, r3⟩ := list p3 hs3
        obtain ⟨ys6, rfl, l6, r6⟩ := list p6 hs6
        refine ⟨.mk (sixOf u0 u1 u2 u3 u4 u5) v1 v2 ys3 v4 v5 ys6, rfl, .mk ?_ (i64_wf w1) (i64_wf w2) (i64_wf w4) (i64_wf w5) l3 l6 r3 r6⟩
        intro j
        match j with
        | 0 => exact i64_wf x0
        | 1 => exact i64_wf x1
        | 2 => exact i64_wf x2
        | 3 => exact i64_wf x3
        | 4 => exact i64_wf x4
        | 5 => exact i64_wf x5
        | _ + 6 => exact ⟨by show (-9223372036854775808 : Int) ≤ 0; omega, by show (0 : Int) < 9223372036854775808; omega⟩
end Go.Ev
