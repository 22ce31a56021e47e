/-
  Part 5 of a proof: CoerceMakes: for every input the law returns true, and what it was given reads behind the call as before. No conditions.
-/
import Derived.Test.YtbjoldcjbpngaaaP4
namespace Go.Ev.Seat
set_option linter.unusedVariables false
set_option linter.unusedSimpArgs false
open Go Go.Ev
set_option maxRecDepth 20000
attribute [local irreducible] pcall callF
def g_r07_either (a1 : Int) (b2 : Int) : Option Int :=
  (cond (!decide (a1 = 0)) (some a1) (some b2))
theorem g_r07_either_ok {a1 : Int} {b2 : Int} {r : Int} (hr : g_r07_either a1 b2 = some r) : PRes (tabOf tabL) 49 [.int .i64 a1, .int .i64 b2] (.int .i64 r) := by
  refine pres_fin t49 ?_
  unfold g_r07_either at hr
  refine L_seq ?_
  refine L_reg ?_
  refine G_p rfl rfl rfl ?_
  refine G_nil ?_
  refine L_seq ?_
  refine L_pruneH (e' := [(0, .int .i64 a1), (1, .int .i64 b2)]) (H1 := []) (by repeat (first | exact rzz | apply rcc rfl | apply rnn rfl)) rfl ?_
  refine L_seq ?_
  refine L_seq ?_
  refine L_reg ?_
  refine G_p rfl rfl rfl ?_
  refine G_p rfl rfl rfl ?_
  refine G_nil ?_
  refine L_seq ?_
  refine L_pruneH (e' := [(0, .int .i64 a1), (1, .int .i64 b2), (6, .bool (!decide (a1 = 0)))]) (H1 := []) (by repeat (first | exact rzz | apply rcc rfl | apply rnn rfl)) rfl ?_
  rcases cond_s hr with ⟨hc6, hr⟩ | ⟨hc6, hr⟩
  · refine L_T rfl hc6 ?_
    refine L_seq ?_
    refine L_reg ?_
    refine G_p rfl rfl rfl ?_
    refine G_p rfl rfl rfl ?_
    refine G_nil ?_
    refine L_ret ?_
    have hr := some_s hr
    subst hr
    exact ⟨_, rfl, _, rfl, rfl⟩
  · refine L_F rfl hc6 ?_
    refine L_skip ?_
    refine L_seq ?_
    refine L_pruneH (e' := [(1, .int .i64 b2)]) (H1 := []) (by repeat (first | exact rzz | apply rcc rfl | apply rnn rfl)) rfl ?_
    refine L_seq ?_
    refine L_reg ?_
    refine G_p rfl rfl rfl ?_
    refine G_p rfl rfl rfl ?_
    refine G_nil ?_
    refine L_ret ?_
    have hr := some_s hr
    subst hr
    exact ⟨_, rfl, _, rfl, rfl⟩
def g_r07_flats_j1 : Option Bool :=
  some true
def g_r07_flats (c1 : Co) : Option Bool :=
  (cond (!decide ((c1.flat 0) = 0)) (some false) (cond (!decide ((c1.flat 1) = 0)) (some false) (cond (!decide ((c1.flat 2) = 0)) (some false) (cond (!decide ((c1.flat 3) = 0)) (some false) (cond (!decide ((c1.flat 4) = 0)) (some false) (cond (!decide ((c1.flat 5) = 0)) (some false) g_r07_flats_j1))))))
abbrev kg01 (c1 : Co) : ABlock := .cells [.int .i64 (c1.flat 0), .int .i64 (c1.flat 1), .int .i64 (c1.flat 2), .int .i64 (c1.flat 3), .int .i64 (c1.flat 4), .int .i64 (c1.flat 5), .int .i64 c1.pair, .int .i64 c1.plab, .lst (List.map encC c1.pairs) false, .int .i64 c1.fn, .int .i64 c1.flab, .lst (List.map encC c1.funs) false]
theorem g_r07_flats_ok {c1 : Co} {r : Bool} (hr : g_r07_flats c1 = some r) : PRes (tabOf tabL) 53 [.agg (cC c1)] (.bool r) := by
  refine pres_fin t53 ?_
  unfold g_r07_flats at hr
  refine L_seq ?_
  refine L_reg ?_
  refine G_n (B := (kg01 c1)) rfl rfl rfl ?_
  refine G_p rfl rfl rfl ?_
  refine G_nil ?_
  refine L_seq ?_
  refine L_pruneH (e' := [(1, .ptr 0 0)]) (H1 := [(kg01 c1)]) (by repeat (first | exact rzz | apply rcc rfl | apply rnn rfl)) rfl ?_
  refine L_seq ?_
  refine L_join (S := Unit) (fun s => []) (fun s => [(kg01 c1)]) (fun s => g_r07_flats_j1 = some r) ?_ ?_
  · skip
    refine L_seq ?_
    refine L_reg ?_
    refine G_p rfl rfl rfl ?_
    refine G_nil ?_
    refine L_seq ?_
    refine L_pruneH (e' := [(1, .ptr 0 0), (3, .int .i64 0)]) (H1 := [(kg01 c1)]) (by repeat (first | exact rzz | apply rcc rfl | apply rnn rfl)) rfl ?_
    refine L_block ?_
    refine L_loop ?_
    refine L_round (e1 := [(3, .int .i64 0), (1, .ptr 0 0)]) (H1 := [(kg01 c1)]) (by repeat (first | exact rzz | apply rcc rfl | apply rnn rfl)) rfl ?_
    refine L_seq ?_
    refine L_seq ?_
    refine L_reg ?_
    refine G_p rfl rfl rfl ?_
    refine G_p rfl rfl rfl ?_
    refine G_nil ?_
    refine L_seq ?_
    refine L_pruneH (e' := [(1, .ptr 0 0), (3, .int .i64 0), (5, .bool true)]) (H1 := [(kg01 c1)]) (by repeat (first | exact rzz | apply rcc rfl | apply rnn rfl)) rfl ?_
    refine L_T rfl rfl ?_
    refine L_skip ?_
    refine L_seq ?_
    refine L_pruneH (e' := [(1, .ptr 0 0), (3, .int .i64 0)]) (H1 := [(kg01 c1)]) (by repeat (first | exact rzz | apply rcc rfl | apply rnn rfl)) rfl ?_
    refine L_seq ?_
    refine L_block ?_
    refine L_seq ?_
    refine L_reg ?_
    refine G_p rfl rfl rfl ?_
    refine G_p rfl rfl rfl ?_
    refine G_p rfl rfl rfl ?_
    refine G_h rfl rfl rfl (fun _ => rfl) ?_
    refine G_p rfl rfl rfl ?_
    refine G_nil ?_
    refine L_seq ?_
    refine L_pruneH (e' := [(1, .ptr 0 0), (3, .int .i64 0), (12, .bool (!decide ((c1.flat 0) = 0)))]) (H1 := [(kg01 c1)]) (by repeat (first | exact rzz | apply rcc rfl | apply rnn rfl)) rfl ?_
    rcases cond_s hr with ⟨hc12, hr⟩ | ⟨hc12, hr⟩
    · refine L_T rfl hc12 ?_
      refine L_seq ?_
      refine L_reg ?_
      refine G_p rfl rfl rfl ?_
      refine G_nil ?_
      refine L_ret ?_
      refine Blk_ret ?_
      refine Rd_ret ?_
      refine Blk_ret ?_
      refine Jn_ret ?_
      have hr := some_s hr
      subst hr
      exact ⟨_, rfl, _, rfl, rfl⟩
    · refine L_F rfl hc12 ?_
      refine L_skip ?_
      refine L_nil ?_
      refine Blk_norm (?_ : GL _ _ _ _ _)
      refine L_seq ?_
      refine L_pruneH (e' := [(1, .ptr 0 0), (3, .int .i64 0)]) (H1 := [(kg01 c1)]) (by repeat (first | exact rzz | apply rcc rfl | apply rnn rfl)) rfl ?_
      refine L_reg ?_
      refine G_p rfl rfl rfl ?_
      refine G_p rfl rfl rfl ?_
      refine G_p rfl rfl rfl ?_
      refine G_nil ?_
      refine L_nil ?_
      refine Rd_norm ?_
      refine L_round (e1 := [(3, .int .i64 1), (1, .ptr 0 0)]) (H1 := [(kg01 c1)]) (by repeat (first | exact rzz | apply rcc rfl | apply rnn rfl)) rfl ?_
      refine L_seq ?_
      refine L_seq ?_
      refine L_reg ?_
      refine G_p rfl rfl rfl ?_
      refine G_p rfl rfl rfl ?_
      refine G_nil ?_
      refine L_seq ?_
      refine L_pruneH (e' := [(1, .ptr 0 0), (3, .int .i64 1), (5, .bool true)]) (H1 := [(kg01 c1)]) (by repeat (first | exact rzz | apply rcc rfl | apply rnn rfl)) rfl ?_
      refine L_T rfl rfl ?_
      refine L_skip ?_
      refine L_seq ?_
      refine L_pruneH (e' := [(1, .ptr 0 0), (3, .int .i64 1)]) (H1 := [(kg01 c1)]) (by repeat (first | exact rzz | apply rcc rfl | apply rnn rfl)) rfl ?_
      refine L_seq ?_
      refine L_block ?_
      refine L_seq ?_
      refine L_reg ?_
      refine G_p rfl rfl rfl ?_
      refine G_p rfl rfl rfl ?_
      refine G_p rfl rfl rfl ?_
      refine G_h rfl rfl rfl (fun _ => rfl) ?_
      refine G_p rfl rfl rfl ?_
      refine G_nil ?_
      refine L_seq ?_
      refine L_pruneH (e' := [(1, .ptr 0 0), (3, .int .i64 1), (12, .bool (!decide ((c1.flat 1) = 0)))]) (H1 := [(kg01 c1)]) (by repeat (first | exact rzz | apply rcc rfl | apply rnn rfl)) rfl ?_
      rcases cond_s hr with ⟨hc12, hr⟩ | ⟨hc12, hr⟩
      · refine L_T rfl hc12 ?_
        refine L_seq ?_
        refine L_reg ?_
        refine G_p rfl rfl rfl ?_
        refine G_nil ?_
        refine L_ret ?_
        refine Blk_ret ?_
        refine Rd_ret ?_
        refine Blk_ret ?_
        refine Jn_ret ?_
        have hr := some_s hr
        subst hr
        exact ⟨_, rfl, _, rfl, rfl⟩
      · refine L_F rfl hc12 ?_
        refine L_skip ?_
        refine L_nil ?_
        refine Blk_norm (?_ : GL _ _ _ _ _)
        refine L_seq ?_
        refine L_pruneH (e' := [(1, .ptr 0 0), (3, .int .i64 1)]) (H1 := [(kg01 c1)]) (by repeat (first | exact rzz | apply rcc rfl | apply rnn rfl)) rfl ?_
        refine L_reg ?_
        refine G_p rfl rfl rfl ?_
        refine G_p rfl rfl rfl ?_
        refine G_p rfl rfl rfl ?_
        refine G_nil ?_
        refine L_nil ?_
        refine Rd_norm ?_
        refine L_round (e1 := [(3, .int .i64 2), (1, .ptr 0 0)]) (H1 := [(kg01 c1)]) (by repeat (first | exact rzz | apply rcc rfl | apply rnn rfl)) rfl ?_
        refine L_seq ?_
        refine L_seq ?_
        refine L_reg ?_
        refine G_p rfl rfl rfl ?_
        refine G_p rfl rfl rfl ?_
        refine G_nil ?_
        refine L_seq ?_
        refine L_pruneH (e' := [(1, .ptr 0 0), (3, .int .i64 2), (5, .bool true)]) (H1 := [(kg01 c1)]) (by repeat (first | exact rzz | apply rcc rfl | apply rnn rfl)) rfl ?_
        refine L_T rfl rfl ?_
        refine L_skip ?_
        refine L_seq ?_
        refine L_pruneH (e' := [(1, .ptr 0 0), (3, .int .i64 2)]) (H1 := [(kg01 c1)]) (by repeat (first | exact rzz | apply rcc rfl | apply rnn rfl)) rfl ?_
        refine L_seq ?_
        refine L_block ?_
        refine L_seq ?_
        refine L_reg ?_
        refine G_p rfl rfl rfl ?_
        refine G_p rfl rfl rfl ?_
        refine G_p rfl rfl rfl ?_
        refine G_h rfl rfl rfl (fun _ => rfl) ?_
        refine G_p rfl rfl rfl ?_
        refine G_nil ?_
        refine L_seq ?_
        refine L_pruneH (e' := [(1, .ptr 0 0), (3, .int .i64 2), (12, .bool (!decide ((c1.flat 2) = 0)))]) (H1 := [(kg01 c1)]) (by repeat (first | exact rzz | apply rcc rfl | apply rnn rfl)) rfl ?_
        rcases cond_s hr with ⟨hc12, hr⟩ | ⟨hc12, hr⟩
        · refine L_T rfl hc12 ?_
          refine L_seq ?_
          refine L_reg ?_
          refine G_p rfl rfl rfl ?_
          refine G_nil ?_
          refine L_ret ?_
          refine Blk_ret ?_
          refine Rd_ret ?_
          refine Blk_ret ?_
          refine Jn_ret ?_
          have hr := some_s hr
          subst hr
          exact ⟨_, rfl, _, rfl, rfl⟩
        · refine L_F rfl hc12 ?_
          refine L_skip ?_
          refine L_nil ?_
          refine Blk_norm (?_ : GL _ _ _ _ _)
          refine L_seq ?_
          refine L_pruneH (e' := [(1, .ptr 0 0), (3, .int .i64 2)]) (H1 := [(kg01 c1)]) (by repeat (first | exact rzz | apply rcc rfl | apply rnn rfl)) rfl ?_
          refine L_reg ?_
          refine G_p rfl rfl rfl ?_
          refine G_p rfl rfl rfl ?_
          refine G_p rfl rfl rfl ?_
          refine G_nil ?_
          refine L_nil ?_
          refine Rd_norm ?_
          refine L_round (e1 := [(3, .int .i64 3), (1, .ptr 0 0)]) (H1 := [(kg01 c1)]) (by repeat (first | exact rzz | apply rcc rfl | apply rnn rfl)) rfl ?_
          refine L_seq ?_
          refine L_seq ?_
          refine L_reg ?_
          refine G_p rfl rfl rfl ?_
          refine G_p rfl rfl rfl ?_
          refine G_nil ?_
          refine L_seq ?_
          refine L_pruneH (e' := [(1, .ptr 0 0), (3, .int .i64 3), (5, .bool true)]) (H1 := [(kg01 c1)]) (by repeat (first | exact rzz | apply rcc rfl | apply rnn rfl)) rfl ?_
          refine L_T rfl rfl ?_
          refine L_skip ?_
          refine L_seq ?_
          refine L_pruneH (e' := [(1, .ptr 0 0), (3, .int .i64 3)]) (H1 := [(kg01 c1)]) (by repeat (first | exact rzz | apply rcc rfl | apply rnn rfl)) rfl ?_
          refine L_seq ?_
          refine L_block ?_
          refine L_seq ?_
          refine L_reg ?_
          refine G_p rfl rfl rfl ?_
          refine G_p rfl rfl rfl ?_
          refine G_p rfl rfl rfl ?_
          refine G_h rfl rfl rfl (fun _ => rfl) ?_
          refine G_p rfl rfl rfl ?_
          refine G_nil ?_
          refine L_seq ?_
          refine L_pruneH (e' := [(1, .ptr 0 0), (3, .int .i64 3), (12, .bool (!decide ((c1.flat 3) = 0)))]) (H1 := [(kg01 c1)]) (by repeat (first | exact rzz | apply rcc rfl | apply rnn rfl)) rfl ?_
          rcases cond_s hr with ⟨hc12, hr⟩ | ⟨hc12, hr⟩
          · refine L_T rfl hc12 ?_
            refine L_seq ?_
            refine L_reg ?_
            refine G_p rfl rfl rfl ?_
            refine G_nil ?_
            refine L_ret ?_
            refine Blk_ret ?_
            refine Rd_ret ?_
            refine Blk_ret ?_
            refine Jn_ret ?_
            have hr := some_s hr
            subst hr
            exact ⟨_, rfl, _, rfl, rfl⟩
          · refine L_F rfl hc12 ?_
            refine L_skip ?_
            refine L_nil ?_
            refine Blk_norm (?_ : GL _ _ _ _ _)
            refine L_seq ?_
            refine L_pruneH (e' := [(1, .ptr 0 0), (3, .int .i64 3)]) (H1 := [(kg01 c1)]) (by repeat (first | exact rzz | apply rcc rfl | apply rnn rfl)) rfl ?_
            refine L_reg ?_
            refine G_p rfl rfl rfl ?_
            refine G_p rfl rfl rfl ?_
            refine G_p rfl rfl rfl ?_
            refine G_nil ?_
            refine L_nil ?_
            refine Rd_norm ?_
            refine L_round (e1 := [(3, .int .i64 4), (1, .ptr 0 0)]) (H1 := [(kg01 c1)]) (by repeat (first | exact rzz | apply rcc rfl | apply rnn rfl)) rfl ?_
            refine L_seq ?_
            refine L_seq ?_
            refine L_reg ?_
            refine G_p rfl rfl rfl ?_
            refine G_p rfl rfl rfl ?_
            refine G_nil ?_
            refine L_seq ?_
            refine L_pruneH (e' := [(1, .ptr 0 0), (3, .int .i64 4), (5, .bool true)]) (H1 := [(kg01 c1)]) (by repeat (first | exact rzz | apply rcc rfl | apply rnn rfl)) rfl ?_
            refine L_T rfl rfl ?_
            refine L_skip ?_
            refine L_seq ?_
            refine L_pruneH (e' := [(1, .ptr 0 0), (3, .int .i64 4)]) (H1 := [(kg01 c1)]) (by repeat (first | exact rzz | apply rcc rfl | apply rnn rfl)) rfl ?_
            refine L_seq ?_
            refine L_block ?_
            refine L_seq ?_
            refine L_reg ?_
            refine G_p rfl rfl rfl ?_
            refine G_p rfl rfl rfl ?_
            refine G_p rfl rfl rfl ?_
            refine G_h rfl rfl rfl (fun _ => rfl) ?_
            refine G_p rfl rfl rfl ?_
            refine G_nil ?_
            refine L_seq ?_
            refine L_pruneH (e' := [(1, .ptr 0 0), (3, .int .i64 4), (12, .bool (!decide ((c1.flat 4) = 0)))]) (H1 := [(kg01 c1)]) (by repeat (first | exact rzz | apply rcc rfl | apply rnn rfl)) rfl ?_
            rcases cond_s hr with ⟨hc12, hr⟩ | ⟨hc12, hr⟩
            · refine L_T rfl hc12 ?_
              refine L_seq ?_
              refine L_reg ?_
              refine G_p rfl rfl rfl ?_
              refine G_nil ?_
              refine L_ret ?_
              refine Blk_ret ?_
              refine Rd_ret ?_
              refine Blk_ret ?_
              refine Jn_ret ?_
              have hr := some_s hr
              subst hr
              exact ⟨_, rfl, _, rfl, rfl⟩
            · refine L_F rfl hc12 ?_
              refine L_skip ?_
              refine L_nil ?_
              refine Blk_norm (?_ : GL _ _ _ _ _)
              refine L_seq ?_
              refine L_pruneH (e' := [(1, .ptr 0 0), (3, .int .i64 4)]) (H1 := [(kg01 c1)]) (by repeat (first | exact rzz | apply rcc rfl | apply rnn rfl)) rfl ?_
              refine L_reg ?_
              refine G_p rfl rfl rfl ?_
              refine G_p rfl rfl rfl ?_
              refine G_p rfl rfl rfl ?_
              refine G_nil ?_
              refine L_nil ?_
              refine Rd_norm ?_
              refine L_round (e1 := [(3, .int .i64 5), (1, .ptr 0 0)]) (H1 := [(kg01 c1)]) (by repeat (first | exact rzz | apply rcc rfl | apply rnn rfl)) rfl ?_
              refine L_seq ?_
              refine L_seq ?_
              refine L_reg ?_
              refine G_p rfl rfl rfl ?_
              refine G_p rfl rfl rfl ?_
              refine G_nil ?_
              refine L_seq ?_
              refine L_pruneH (e' := [(1, .ptr 0 0), (3, .int .i64 5), (5, .bool true)]) (H1 := [(kg01 c1)]) (by repeat (first | exact rzz | apply rcc rfl | apply rnn rfl)) rfl ?_
              refine L_T rfl rfl ?_
              refine L_skip ?_
              refine L_seq ?_
              refine L_pruneH (e' := [(1, .ptr 0 0), (3, .int .i64 5)]) (H1 := [(kg01 c1)]) (by repeat (first | exact rzz | apply rcc rfl | apply rnn rfl)) rfl ?_
              refine L_seq ?_
              refine L_block ?_
              refine L_seq ?_
              refine L_reg ?_
              refine G_p rfl rfl rfl ?_
              refine G_p rfl rfl rfl ?_
              refine G_p rfl rfl rfl ?_
              refine G_h rfl rfl rfl (fun _ => rfl) ?_
              refine G_p rfl rfl rfl ?_
              refine G_nil ?_
              refine L_seq ?_
              refine L_pruneH (e' := [(1, .ptr 0 0), (3, .int .i64 5), (12, .bool (!decide ((c1.flat 5) = 0)))]) (H1 := [(kg01 c1)]) (by repeat (first | exact rzz | apply rcc rfl | apply rnn rfl)) rfl ?_
              rcases cond_s hr with ⟨hc12, hr⟩ | ⟨hc12, hr⟩
              · refine L_T rfl hc12 ?_
                refine L_seq ?_
                refine L_reg ?_
                refine G_p rfl rfl rfl ?_
                refine G_nil ?_
                refine L_ret ?_
                refine Blk_ret ?_
                refine Rd_ret ?_
                refine Blk_ret ?_
                refine Jn_ret ?_
                have hr := some_s hr
                subst hr
                exact ⟨_, rfl, _, rfl, rfl⟩
              · refine L_F rfl hc12 ?_
                refine L_skip ?_
                refine L_nil ?_
                refine Blk_norm (?_ : GL _ _ _ _ _)
                refine L_seq ?_
                refine L_pruneH (e' := [(1, .ptr 0 0), (3, .int .i64 5)]) (H1 := [(kg01 c1)]) (by repeat (first | exact rzz | apply rcc rfl | apply rnn rfl)) rfl ?_
                refine L_reg ?_
                refine G_p rfl rfl rfl ?_
                refine G_p rfl rfl rfl ?_
                refine G_p rfl rfl rfl ?_
                refine G_nil ?_
                refine L_nil ?_
                refine Rd_norm ?_
                refine L_round (e1 := [(3, .int .i64 6), (1, .ptr 0 0)]) (H1 := [(kg01 c1)]) (by repeat (first | exact rzz | apply rcc rfl | apply rnn rfl)) rfl ?_
                refine L_seq ?_
                refine L_seq ?_
                refine L_reg ?_
                refine G_p rfl rfl rfl ?_
                refine G_p rfl rfl rfl ?_
                refine G_nil ?_
                refine L_seq ?_
                refine L_pruneH (e' := [(1, .ptr 0 0), (3, .int .i64 6), (5, .bool false)]) (H1 := [(kg01 c1)]) (by repeat (first | exact rzz | apply rcc rfl | apply rnn rfl)) rfl ?_
                refine L_F rfl rfl ?_
                refine L_exit ?_
                refine Rd_exit ?_
                refine Blk_exit (?_ : GL _ _ _ _ _)
                refine L_nil ?_
                refine Jn_norm (()) ?_ rfl hr
                show restr _ _ = []
                (repeat (first | exact rzz | apply rcc rfl | apply rnn rfl))
  · rintro ⟨⟩ hr
    show GL _ _ [] [(kg01 c1)] _
    replace hr : g_r07_flats_j1 = some r := hr
    unfold g_r07_flats_j1 at hr
    refine L_seq ?_
    refine L_reg ?_
    refine G_p rfl rfl rfl ?_
    refine G_nil ?_
    refine L_ret ?_
    have hr := some_s hr
    subst hr
    exact ⟨_, rfl, _, rfl, rfl⟩
def g_r07_Pass (c1 : Co) : Option Bool :=
  ((g_r07_flats c1).bind fun r2 => some ((((((r2 && (decide (c1.pair = 0))) && (decide (c1.plab = 0))) && (decide (((List.length c1.pairs : Nat) : Int) = 0))) && (decide (c1.fn = 0))) && (decide (c1.flab = 0))) && (decide (((List.length c1.funs : Nat) : Int) = 0))))
theorem g_r07_Pass_ok {c1 : Co} {r : Bool} (hr : g_r07_Pass c1 = some r) : PRes (tabOf tabL) 28 [.agg (cC c1)] (.bool r) := by
  refine pres_fin t28 ?_
  unfold g_r07_Pass at hr
  refine L_seq ?_
  refine L_reg ?_
  refine G_n (B := .cells [.int .i64 (c1.flat 0), .int .i64 (c1.flat 1), .int .i64 (c1.flat 2), .int .i64 (c1.flat 3), .int .i64 (c1.flat 4), .int .i64 (c1.flat 5), .int .i64 c1.pair, .int .i64 c1.plab, .lst (List.map encC c1.pairs) false, .int .i64 c1.fn, .int .i64 c1.flab, .lst (List.map encC c1.funs) false]) rfl rfl rfl ?_
  refine G_p rfl rfl rfl ?_
  refine G_nil ?_
  refine L_seq ?_
  refine L_pruneH (e' := [(1, .ptr 0 0)]) (H1 := [.cells [.int .i64 (c1.flat 0), .int .i64 (c1.flat 1), .int .i64 (c1.flat 2), .int .i64 (c1.flat 3), .int .i64 (c1.flat 4), .int .i64 (c1.flat 5), .int .i64 c1.pair, .int .i64 c1.plab, .lst (List.map encC c1.pairs) false, .int .i64 c1.fn, .int .i64 c1.flab, .lst (List.map encC c1.funs) false]]) (by repeat (first | exact rzz | apply rcc rfl | apply rnn rfl)) rfl ?_
  refine L_seq ?_
  refine L_reg ?_
  refine G_h (v := .agg (cC c1)) rfl rfl rfl (fun _ => rfl) ?_
  obtain ⟨r2, hr2, hr⟩ := bind_s hr
  refine G_c 53 rfl rfl (CA_of (as := [.agg (cC c1)]) rfl (g_r07_flats_ok hr2)) ?_
  refine G_p rfl rfl rfl ?_
  refine G_and (f := (decide (c1.pair = 0))) [_, _, _] rfl rfl ?_ ?_
  · intro hb5
    refine G_p rfl rfl rfl ?_
    refine G_h rfl rfl rfl (fun _ => rfl) ?_
    refine G_p rfl rfl rfl ?_
    exact G_nil (L_nil ⟨rfl, rfl, rfl⟩)
  · intro vs hvs
    obtain ⟨u6, u7, u8, rfl⟩ := len3 hvs
    dsimp only [junk]
    refine G_p rfl rfl rfl ?_
    refine G_and (f := (decide (c1.plab = 0))) [_, _, _] rfl rfl ?_ ?_
    · intro hb10
      refine G_p rfl rfl rfl ?_
      refine G_h rfl rfl rfl (fun _ => rfl) ?_
      refine G_p rfl rfl rfl ?_
      exact G_nil (L_nil ⟨rfl, rfl, rfl⟩)
    · intro vs hvs
      obtain ⟨u11, u12, u13, rfl⟩ := len3 hvs
      dsimp only [junk]
      refine G_p rfl rfl rfl ?_
      refine G_and (f := (decide (((List.length c1.pairs : Nat) : Int) = 0))) [_, _, _, _] rfl rfl ?_ ?_
      · intro hb15
        refine G_p rfl rfl rfl ?_
        refine G_h (v := .lst (List.map encC c1.pairs) false) rfl rfl rfl (fun _ => rfl) ?_
        refine G_h rfl rfl rfl (lenL_ev rfl (List.length_map _)) ?_
        refine G_p rfl rfl rfl ?_
        exact G_nil (L_nil ⟨rfl, rfl, rfl⟩)
      · intro vs hvs
        obtain ⟨u16, u17, u18, u19, rfl⟩ := len4 hvs
        dsimp only [junk]
        refine G_p rfl rfl rfl ?_
        refine G_and (f := (decide (c1.fn = 0))) [_, _, _] rfl rfl ?_ ?_
        · intro hb21
          refine G_p rfl rfl rfl ?_
          refine G_h rfl rfl rfl (fun _ => rfl) ?_
          refine G_p rfl rfl rfl ?_
          exact G_nil (L_nil ⟨rfl, rfl, rfl⟩)
        · intro vs hvs
          obtain ⟨u22, u23, u24, rfl⟩ := len3 hvs
          dsimp only [junk]
          refine G_p rfl rfl rfl ?_
          refine G_and (f := (decide (c1.flab = 0))) [_, _, _] rfl rfl ?_ ?_
          · intro hb26
            refine G_p rfl rfl rfl ?_
            refine G_h rfl rfl rfl (fun _ => rfl) ?_
            refine G_p rfl rfl rfl ?_
            exact G_nil (L_nil ⟨rfl, rfl, rfl⟩)
          · intro vs hvs
            obtain ⟨u27, u28, u29, rfl⟩ := len3 hvs
            dsimp only [junk]
            refine G_p rfl rfl rfl ?_
            refine G_and (f := (decide (((List.length c1.funs : Nat) : Int) = 0))) [_, _, _, _] rfl rfl ?_ ?_
            · intro hb31
              refine G_p rfl rfl rfl ?_
              refine G_h (v := .lst (List.map encC c1.funs) false) rfl rfl rfl (fun _ => rfl) ?_
              refine G_h rfl rfl rfl (lenL_ev rfl (List.length_map _)) ?_
              refine G_p rfl rfl rfl ?_
              exact G_nil (L_nil ⟨rfl, rfl, rfl⟩)
            · intro vs hvs
              obtain ⟨u32, u33, u34, u35, rfl⟩ := len4 hvs
              dsimp only [junk]
              refine G_p rfl rfl rfl ?_
              refine G_nil ?_
              refine L_ret ?_
              have hr := some_s hr
              subst hr
              exact ⟨_, rfl, _, rfl, rfl⟩
def g_r07_all_j1 : Option Bool :=
  some true
def g_r07_all_l2 : List Co → Nat → Option Bool
  | [], _ => g_r07_all_j1
  | y31 :: rest33, i32 => ((g_r07_Pass y31).bind fun r35 => (cond (!r35) (some false) (g_r07_all_l2 rest33 (i32 + 1))))
def g_r07_all (l1 : List Co) : Option Bool :=
  (cond (okLen l1) (g_r07_all_l2 l1 0) none)
theorem g_r07_all_ok {l1 : List Co} {r : Bool} (hr : g_r07_all l1 = some r) : PRes (tabOf tabL) 44 [.lst (List.map encC l1) false] (.bool r) := by
  refine pres_fin t44 ?_
  unfold g_r07_all at hr
  refine L_seq ?_
  refine L_reg ?_
  refine G_p rfl rfl rfl ?_
  refine G_nil ?_
  refine L_seq ?_
  refine L_pruneH (e' := [(0, .lst (List.map encC l1) false)]) (H1 := []) (by repeat (first | exact rzz | apply rcc rfl | apply rnn rfl)) rfl ?_
  refine L_seq ?_
  refine L_join (S := Unit) (fun s => []) (fun s => []) (fun s => g_r07_all_j1 = some r) ?_ ?_
  · skip
    refine L_seq ?_
    refine L_reg ?_
    refine G_p rfl rfl rfl ?_
    refine G_nil ?_
    refine L_seq ?_
    refine L_pruneH (e' := [(0, .lst (List.map encC l1) false), (3, .int .i64 0)]) (H1 := []) (by repeat (first | exact rzz | apply rcc rfl | apply rnn rfl)) rfl ?_
    refine L_block ?_
    obtain ⟨hLq30, hr⟩ := guard_s hr
    replace hLq30 := okLen_s hLq30
    refine L_range (X := Co) (S := Unit) l1 (fun i32 s => [(3, .int .i64 ((i32 : Nat) : Int)), (0, .lst (List.map encC l1) false)]) (fun i32 s => []) (fun rest i32 s => g_r07_all_l2 rest i32 = some r) (()) ?_ rfl hr ?_ ?_
    · show restr _ _ = [(3, .int .i64 ((0 : Nat) : Int)), (0, .lst (List.map encC l1) false)]
      (repeat (first | exact rzz | apply rcc rfl | apply rnn rfl))
    · rintro ⟨⟩ hr
      show GL _ _ [(3, .int .i64 (((List.length l1) : Nat) : Int)), (0, .lst (List.map encC l1) false)] [] _
      replace hr : g_r07_all_l2 [] (List.length l1) = some r := hr
      rw [g_r07_all_l2] at hr
      refine L_seq ?_
      refine L_seq ?_
      refine L_reg ?_
      refine G_p rfl rfl rfl ?_
      refine G_p (v := .lst (List.map encC l1) false) rfl rfl rfl ?_
      refine G_h rfl rfl rfl (lenL_ev rfl (List.length_map _)) ?_
      refine G_v (.bool false) rfl rfl rfl (congrArg AVal.bool (decide_eq_false (by omega))) ?_
      refine G_nil ?_
      refine L_seq ?_
      refine L_pruneH (e' := [(0, .lst (List.map encC l1) false), (3, .int .i64 ((List.length l1 : Nat) : Int)), (7, .bool false)]) (H1 := []) (by repeat (first | exact rzz | apply rcc rfl | apply rnn rfl)) rfl ?_
      refine L_F rfl rfl ?_
      refine L_exit ?_
      refine Rd_exit ?_
      refine Blk_exit (?_ : GL _ _ _ _ _)
      refine L_nil ?_
      refine Jn_norm (()) ?_ rfl hr
      show restr _ _ = []
      (repeat (first | exact rzz | apply rcc rfl | apply rnn rfl))
    · rintro y31 rest33 i32 ⟨⟩ hy31 hlti32 hr
      show GL _ _ [(3, .int .i64 ((i32 : Nat) : Int)), (0, .lst (List.map encC l1) false)] [] _
      replace hr : g_r07_all_l2 (y31 :: rest33) i32 = some r := hr
      rw [g_r07_all_l2] at hr
      refine L_seq ?_
      refine L_seq ?_
      refine L_reg ?_
      refine G_p rfl rfl rfl ?_
      refine G_p (v := .lst (List.map encC l1) false) rfl rfl rfl ?_
      refine G_h rfl rfl rfl (lenL_ev rfl (List.length_map _)) ?_
      refine G_v (.bool true) rfl rfl rfl (congrArg AVal.bool (decide_eq_true (by omega))) ?_
      refine G_nil ?_
      refine L_seq ?_
      refine L_pruneH (e' := [(0, .lst (List.map encC l1) false), (3, .int .i64 ((i32 : Nat) : Int)), (7, .bool true)]) (H1 := []) (by repeat (first | exact rzz | apply rcc rfl | apply rnn rfl)) rfl ?_
      refine L_T rfl rfl ?_
      refine L_skip ?_
      refine L_seq ?_
      refine L_pruneH (e' := [(0, .lst (List.map encC l1) false), (3, .int .i64 ((i32 : Nat) : Int))]) (H1 := []) (by repeat (first | exact rzz | apply rcc rfl | apply rnn rfl)) rfl ?_
      refine L_seq ?_
      refine L_block ?_
      refine L_seq ?_
      refine L_reg ?_
      refine G_p (v := .lst (List.map encC l1) false) rfl rfl rfl ?_
      refine G_p rfl rfl rfl ?_
      refine G_h (v := .ro [.int .i64 (y31.flat 0), .int .i64 (y31.flat 1), .int .i64 (y31.flat 2), .int .i64 (y31.flat 3), .int .i64 (y31.flat 4), .int .i64 (y31.flat 5), .int .i64 y31.pair, .int .i64 y31.plab, .lst (List.map encC y31.pairs) false, .int .i64 y31.fn, .int .i64 y31.flab, .lst (List.map encC y31.funs) false]) rfl rfl rfl (ia_ev (cells := [.int .i64 (y31.flat 0), .int .i64 (y31.flat 1), .int .i64 (y31.flat 2), .int .i64 (y31.flat 3), .int .i64 (y31.flat 4), .int .i64 (y31.flat 5), .int .i64 y31.pair, .int .i64 y31.plab, .lst (List.map encC y31.pairs) false, .int .i64 y31.fn, .int .i64 y31.flab, .lst (List.map encC y31.funs) false]) rfl rfl (Int.natCast_nonneg _) (map_get (x := y31) (by rw [Int.toNat_natCast]; exact hy31)) (encC_flat _) rfl) ?_
      refine G_h (v := .agg (cC y31)) rfl rfl rfl (fun _ => rfl) ?_
      obtain ⟨r35, hr35, hr⟩ := bind_s hr
      refine G_c 28 rfl rfl (CA_of (as := [.agg (cC y31)]) rfl (g_r07_Pass_ok hr35)) ?_
      refine G_p rfl rfl rfl ?_
      refine G_nil ?_
      refine L_seq ?_
      refine L_pruneH (e' := [(0, .lst (List.map encC l1) false), (3, .int .i64 ((i32 : Nat) : Int)), (15, .bool (!r35))]) (H1 := []) (by repeat (first | exact rzz | apply rcc rfl | apply rnn rfl)) rfl ?_
      rcases cond_s hr with ⟨hc15, hr⟩ | ⟨hc15, hr⟩
      · refine L_T rfl hc15 ?_
        refine L_seq ?_
        refine L_reg ?_
        refine G_p rfl rfl rfl ?_
        refine G_nil ?_
        refine L_ret ?_
        refine Blk_ret ?_
        refine Rd_ret ?_
        refine Blk_ret ?_
        refine Jn_ret ?_
        have hr := some_s hr
        subst hr
        exact ⟨_, rfl, _, rfl, rfl⟩
      · refine L_F rfl hc15 ?_
        refine L_skip ?_
        refine L_nil ?_
        refine Blk_norm (?_ : GL _ _ _ _ _)
        refine L_seq ?_
        refine L_pruneH (e' := [(0, .lst (List.map encC l1) false), (3, .int .i64 ((i32 : Nat) : Int))]) (H1 := []) (by repeat (first | exact rzz | apply rcc rfl | apply rnn rfl)) rfl ?_
        refine L_reg ?_
        refine G_p rfl rfl rfl ?_
        refine G_v (.int .i64 ((i32 + 1 : Nat) : Int)) rfl rfl rfl (congrArg _ (wrap_next hLq30 hlti32)) ?_
        refine G_p rfl rfl rfl ?_
        refine G_nil ?_
        refine L_nil ?_
        refine Rd_norm ⟨(), ?_, rfl, hr⟩
        show restr _ _ = [(3, .int .i64 (((i32 + 1) : Nat) : Int)), (0, .lst (List.map encC l1) false)]
        (repeat (first | exact rzz | apply rcc rfl | apply rnn rfl))
  · rintro ⟨⟩ hr
    show GL _ _ [] [] _
    replace hr : g_r07_all_j1 = some r := hr
    unfold g_r07_all_j1 at hr
    refine L_seq ?_
    refine L_reg ?_
    refine G_p rfl rfl rfl ?_
    refine G_nil ?_
    refine L_ret ?_
    have hr := some_s hr
    subst hr
    exact ⟨_, rfl, _, rfl, rfl⟩
def g_r07_lists_j1 (item1 : Co) (l2 : Int) (a5 : Int) (a6 : Int) : Option Co :=
  some (Co.mk (sixF l2 l2 l2 l2 0 l2) 3 l2 [item1] a5 a6 [])
def g_r07_lists (item1 : Co) (l2 : Int) : Option Co :=
  ((g_r07_Pass item1).bind fun r4 => (cond (r4 && (decide (l2 = 0))) (some (Co.mk (sixF 0 0 0 0 0 0) 0 0 [] 0 0 [])) (cond (!decide (l2 = 0)) (g_r07_lists_j1 item1 l2 1 l2) (g_r07_lists_j1 item1 l2 0 0))))
abbrev kg02 (item1 : Co) : ABlock := .cells [.int .i64 (item1.flat 0), .int .i64 (item1.flat 1), .int .i64 (item1.flat 2), .int .i64 (item1.flat 3), .int .i64 (item1.flat 4), .int .i64 (item1.flat 5), .int .i64 item1.pair, .int .i64 item1.plab, .lst (List.map encC item1.pairs) false, .int .i64 item1.fn, .int .i64 item1.flab, .lst (List.map encC item1.funs) false]
abbrev kg03 (l2 : Int) (item1 : Co) (a5 : Int) (a6 : Int) : ABlock := .cells [.int .i64 l2, .int .i64 l2, .int .i64 l2, .int .i64 l2, .int .i64 0, .int .i64 l2, .int .i64 3, .int .i64 l2, .lst (List.map encC [item1]) true, .int .i64 a5, .int .i64 a6, .lst [] true]
abbrev kg04 (l2 : Int) (item1 : Co) : ABlock := .cells [.int .i64 l2, .int .i64 l2, .int .i64 l2, .int .i64 l2, .int .i64 0, .int .i64 l2, .int .i64 3, .int .i64 l2, .lst (List.map encC [item1]) true, .int .i64 0, .int .i64 0, .lst [] true]
abbrev kg05 : ABlock := .cells [.int .i64 0, .int .i64 0, .int .i64 0, .int .i64 0, .int .i64 0, .int .i64 0, .int .i64 0, .int .i64 0, .lst [] true, .int .i64 0, .int .i64 0, .lst [] true]
theorem g_r07_lists_ok {item1 : Co} {l2 : Int} {r : Co} (hr : g_r07_lists item1 l2 = some r) : PRes (tabOf tabL) 54 [.agg (cC item1), .int .i64 l2] (.agg (cC r)) := by
  refine pres_fin t54 ?_
  unfold g_r07_lists at hr
  refine L_seq ?_
  refine L_reg ?_
  refine G_n (B := (kg02 item1)) rfl rfl rfl ?_
  refine G_n (B := kg05) rfl rfl rfl ?_
  refine G_nil ?_
  refine L_seq ?_
  refine L_pruneH (e' := [(1, .int .i64 l2), (2, .ptr 0 0), (4, .ptr 1 0)]) (H1 := [(kg02 item1), kg05]) (by repeat (first | exact rzz | apply rcc rfl | apply rnn rfl)) rfl ?_
  refine L_seq ?_
  refine L_seq ?_
  refine L_reg ?_
  refine G_h (v := .agg (cC item1)) rfl rfl rfl (fun _ => rfl) ?_
  obtain ⟨r4, hr4, hr⟩ := bind_s hr
  refine G_c 28 rfl rfl (CA_of (as := [.agg (cC item1)]) rfl (g_r07_Pass_ok hr4)) ?_
  refine G_p rfl rfl rfl ?_
  refine G_and (f := (decide (l2 = 0))) [_, _] rfl rfl ?_ ?_
  · intro hb8
    refine G_p rfl rfl rfl ?_
    refine G_p rfl rfl rfl ?_
    exact G_nil (L_nil ⟨rfl, rfl, rfl⟩)
  · intro vs hvs
    obtain ⟨u9, u10, rfl⟩ := len2 hvs
    dsimp only [junk]
    refine G_nil ?_
    refine L_seq ?_
    refine L_pruneH (e' := [(1, .int .i64 l2), (2, .ptr 0 0), (4, .ptr 1 0), (11, .bool (r4 && (decide (l2 = 0))))]) (H1 := [(kg02 item1), kg05]) (by repeat (first | exact rzz | apply rcc rfl | apply rnn rfl)) rfl ?_
    rcases cond_s hr with ⟨hc11, hr⟩ | ⟨hc11, hr⟩
    · refine L_T rfl hc11 ?_
      refine L_seq ?_
      refine L_reg ?_
      refine G_p (v := .agg [.int .i64 0, .int .i64 0, .int .i64 0, .int .i64 0, .int .i64 0, .int .i64 0, .int .i64 0, .int .i64 0, .lst [] true, .int .i64 0, .int .i64 0, .lst [] true]) rfl rfl rfl ?_
      refine G_hn (H' := [(kg02 item1), kg05]) rfl rfl rfl (fun _ => rfl) ?_
      refine G_nil ?_
      refine L_ret ?_
      have hr := some_s hr
      subst hr
      exact ⟨_, rfl, _, rfl, rfl⟩
    · refine L_F rfl hc11 ?_
      refine L_skip ?_
      refine L_seq ?_
      refine L_pruneH (e' := [(1, .int .i64 l2), (2, .ptr 0 0), (4, .ptr 1 0)]) (H1 := [(kg02 item1), kg05]) (by repeat (first | exact rzz | apply rcc rfl | apply rnn rfl)) rfl ?_
      refine L_seq ?_
      refine L_reg ?_
      refine G_p rfl rfl rfl ?_
      refine G_p rfl rfl rfl ?_
      refine G_p rfl rfl rfl ?_
      refine G_p rfl rfl rfl ?_
      refine G_p rfl rfl rfl ?_
      refine G_p (v := .agg [.int .i64 l2, .int .i64 l2, .int .i64 l2, .int .i64 l2, .int .i64 0, .int .i64 l2]) rfl rfl rfl ?_
      refine G_p rfl rfl rfl ?_
      refine G_h (v := .agg (cC item1)) rfl rfl rfl (fun _ => rfl) ?_
      refine G_h (v := .lst (List.map encC [item1]) true) rfl rfl rfl (fun _ => Eq.trans (b := some (Ex.ok (AVal.lst [.agg (cC item1)] true), _)) rfl (congrArg (fun z => some (Ex.ok (AVal.lst z true), _)) (by first | rfl | (simp only [List.map_cons, List.map_nil, encC_eq] <;> rfl)))) ?_
      refine G_p (v := .agg [.int .i64 l2, .int .i64 l2, .int .i64 l2, .int .i64 l2, .int .i64 0, .int .i64 l2, .int .i64 3, .int .i64 l2, .lst (List.map encC [item1]) true, .int .i64 0, .int .i64 0, .lst [] true]) rfl rfl rfl ?_
      refine G_n (B := kg05) rfl rfl rfl ?_
      refine G_hn (H' := [(kg02 item1), kg05, (kg04 l2 item1)]) rfl rfl rfl (fun _ => rfl) ?_
      refine G_nil ?_
      refine L_seq ?_
      refine L_pruneH (e' := [(1, .int .i64 l2), (4, .ptr 1 0), (5, .ptr 2 0)]) (H1 := [(kg02 item1), kg05, (kg04 l2 item1)]) (by repeat (first | exact rzz | apply rcc rfl | apply rnn rfl)) rfl ?_
      refine L_seq ?_
      refine L_join (S := Int × Int) (fun s => [(4, .ptr 1 0), (5, .ptr 2 0)]) (fun s => [(kg02 item1), kg05, .cells [.int .i64 l2, .int .i64 l2, .int .i64 l2, .int .i64 l2, .int .i64 0, .int .i64 l2, .int .i64 3, .int .i64 l2, .lst (List.map encC [item1]) true, .int .i64 s.1, .int .i64 s.2, .lst [] true]]) (fun s => g_r07_lists_j1 item1 l2 s.1 s.2 = some r) ?_ ?_
      · skip
        refine L_seq ?_
        refine L_reg ?_
        refine G_p rfl rfl rfl ?_
        refine G_p rfl rfl rfl ?_
        refine G_nil ?_
        refine L_seq ?_
        refine L_pruneH (e' := [(1, .int .i64 l2), (4, .ptr 1 0), (5, .ptr 2 0), (24, .bool (!decide (l2 = 0)))]) (H1 := [(kg02 item1), kg05, (kg04 l2 item1)]) (by repeat (first | exact rzz | apply rcc rfl | apply rnn rfl)) rfl ?_
        rcases cond_s hr with ⟨hc24, hr⟩ | ⟨hc24, hr⟩
        · refine L_T rfl hc24 ?_
          refine L_seq ?_
          refine L_reg ?_
          refine G_p rfl rfl rfl ?_
          refine G_hn (H' := [(kg02 item1), kg05, .cells [.int .i64 l2, .int .i64 l2, .int .i64 l2, .int .i64 l2, .int .i64 0, .int .i64 l2, .int .i64 3, .int .i64 l2, .lst (List.map encC [item1]) true, .int .i64 1, .int .i64 0, .lst [] true]]) rfl rfl rfl (fun _ => rfl) ?_
          refine G_nil ?_
          refine L_seq ?_
          refine L_pruneH (e' := [(1, .int .i64 l2), (4, .ptr 1 0), (5, .ptr 2 0)]) (H1 := [(kg02 item1), kg05, .cells [.int .i64 l2, .int .i64 l2, .int .i64 l2, .int .i64 l2, .int .i64 0, .int .i64 l2, .int .i64 3, .int .i64 l2, .lst (List.map encC [item1]) true, .int .i64 1, .int .i64 0, .lst [] true]]) (by repeat (first | exact rzz | apply rcc rfl | apply rnn rfl)) rfl ?_
          refine L_reg ?_
          refine G_p rfl rfl rfl ?_
          refine G_p rfl rfl rfl ?_
          refine G_hn (H' := [(kg02 item1), kg05, .cells [.int .i64 l2, .int .i64 l2, .int .i64 l2, .int .i64 l2, .int .i64 0, .int .i64 l2, .int .i64 3, .int .i64 l2, .lst (List.map encC [item1]) true, .int .i64 1, .int .i64 l2, .lst [] true]]) rfl rfl rfl (fun _ => rfl) ?_
          refine G_nil ?_
          refine L_nil ?_
          refine Jn_norm ((1, l2)) ?_ rfl hr
          show restr _ _ = [(4, .ptr 1 0), (5, .ptr 2 0)]
          (repeat (first | exact rzz | apply rcc rfl | apply rnn rfl))
        · refine L_F rfl hc24 ?_
          refine L_skip ?_
          refine L_nil ?_
          refine Jn_norm ((0, 0)) ?_ rfl hr
          show restr _ _ = [(4, .ptr 1 0), (5, .ptr 2 0)]
          (repeat (first | exact rzz | apply rcc rfl | apply rnn rfl))
      · rintro ⟨a5, a6⟩ hr
        show GL _ _ [(4, .ptr 1 0), (5, .ptr 2 0)] [(kg02 item1), kg05, (kg03 l2 item1 a5 a6)] _
        replace hr : g_r07_lists_j1 item1 l2 a5 a6 = some r := hr
        unfold g_r07_lists_j1 at hr
        refine L_seq ?_
        refine L_reg ?_
        refine G_h (v := .agg [.int .i64 l2, .int .i64 l2, .int .i64 l2, .int .i64 l2, .int .i64 0, .int .i64 l2, .int .i64 3, .int .i64 l2, .lst (List.map encC [item1]) true, .int .i64 a5, .int .i64 a6, .lst [] true]) rfl rfl rfl (fun _ => rfl) ?_
        refine G_hn (H' := [(kg02 item1), (kg03 l2 item1 a5 a6), (kg03 l2 item1 a5 a6)]) rfl rfl rfl (fun _ => rfl) ?_
        refine G_nil ?_
        refine L_ret ?_
        have hr := some_s hr
        subst hr
        exact ⟨_, rfl, _, rfl, rfl⟩
def g_r07_Car (c1 : Co) : Option Co :=
  (cond (decide (c1.pair < 2)) (some (Co.mk (sixF 0 0 0 0 0 0) 0 0 [] 0 0 [])) ((idx c1.pairs 0).bind fun e2 => some e2))
abbrev kg06 (c1 : Co) : ABlock := .cells [.int .i64 (c1.flat 0), .int .i64 (c1.flat 1), .int .i64 (c1.flat 2), .int .i64 (c1.flat 3), .int .i64 (c1.flat 4), .int .i64 (c1.flat 5), .int .i64 c1.pair, .int .i64 c1.plab, .lst (List.map encC c1.pairs) false, .int .i64 c1.fn, .int .i64 c1.flab, .lst (List.map encC c1.funs) false]
abbrev kg07 : ABlock := .cells [.int .i64 0, .int .i64 0, .int .i64 0, .int .i64 0, .int .i64 0, .int .i64 0, .int .i64 0, .int .i64 0, .lst [] true, .int .i64 0, .int .i64 0, .lst [] true]
theorem g_r07_Car_ok {c1 : Co} {r : Co} (hr : g_r07_Car c1 = some r) : PRes (tabOf tabL) 32 [.agg (cC c1)] (.agg (cC r)) := by
  refine pres_fin t32 ?_
  unfold g_r07_Car at hr
  refine L_seq ?_
  refine L_reg ?_
  refine G_n (B := (kg06 c1)) rfl rfl rfl ?_
  refine G_n (B := kg07) rfl rfl rfl ?_
  refine G_nil ?_
  refine L_seq ?_
  refine L_pruneH (e' := [(1, .ptr 0 0), (2, .ptr 1 0)]) (H1 := [(kg06 c1), kg07]) (by repeat (first | exact rzz | apply rcc rfl | apply rnn rfl)) rfl ?_
  refine L_seq ?_
  refine L_seq ?_
  refine L_reg ?_
  refine G_p rfl rfl rfl ?_
  refine G_h rfl rfl rfl (fun _ => rfl) ?_
  refine G_p rfl rfl rfl ?_
  refine G_nil ?_
  refine L_seq ?_
  refine L_pruneH (e' := [(1, .ptr 0 0), (2, .ptr 1 0), (5, .bool (decide (c1.pair < 2)))]) (H1 := [(kg06 c1), kg07]) (by repeat (first | exact rzz | apply rcc rfl | apply rnn rfl)) rfl ?_
  rcases cond_s hr with ⟨hc5, hr⟩ | ⟨hc5, hr⟩
  · refine L_T rfl hc5 ?_
    refine L_seq ?_
    refine L_reg ?_
    refine G_p (v := .agg [.int .i64 0, .int .i64 0, .int .i64 0, .int .i64 0, .int .i64 0, .int .i64 0, .int .i64 0, .int .i64 0, .lst [] true, .int .i64 0, .int .i64 0, .lst [] true]) rfl rfl rfl ?_
    refine G_hn (H' := [(kg06 c1), kg07]) rfl rfl rfl (fun _ => rfl) ?_
    refine G_nil ?_
    refine L_ret ?_
    have hr := some_s hr
    subst hr
    exact ⟨_, rfl, _, rfl, rfl⟩
  · refine L_F rfl hc5 ?_
    refine L_skip ?_
    refine L_seq ?_
    refine L_pruneH (e' := [(1, .ptr 0 0), (2, .ptr 1 0)]) (H1 := [(kg06 c1), kg07]) (by repeat (first | exact rzz | apply rcc rfl | apply rnn rfl)) rfl ?_
    refine L_seq ?_
    refine L_reg ?_
    refine G_p rfl rfl rfl ?_
    refine G_h (v := .lst (List.map encC c1.pairs) false) rfl rfl rfl (fun _ => rfl) ?_
    obtain ⟨e2, he2, hr⟩ := bind_s hr
    refine G_h (v := .ro [.int .i64 (e2.flat 0), .int .i64 (e2.flat 1), .int .i64 (e2.flat 2), .int .i64 (e2.flat 3), .int .i64 (e2.flat 4), .int .i64 (e2.flat 5), .int .i64 e2.pair, .int .i64 e2.plab, .lst (List.map encC e2.pairs) false, .int .i64 e2.fn, .int .i64 e2.flab, .lst (List.map encC e2.funs) false]) rfl rfl rfl (ia_ev (cells := [.int .i64 (e2.flat 0), .int .i64 (e2.flat 1), .int .i64 (e2.flat 2), .int .i64 (e2.flat 3), .int .i64 (e2.flat 4), .int .i64 (e2.flat 5), .int .i64 e2.pair, .int .i64 e2.plab, .lst (List.map encC e2.pairs) false, .int .i64 e2.fn, .int .i64 e2.flab, .lst (List.map encC e2.funs) false]) rfl rfl (idx_s he2).1 (map_get (x := e2) (idx_s he2).2) (encC_flat _) rfl) ?_
    refine G_h (v := .agg (cC e2)) rfl rfl rfl (fun _ => rfl) ?_
    refine G_hn (H' := [(kg06 c1), .cells [.int .i64 (e2.flat 0), .int .i64 (e2.flat 1), .int .i64 (e2.flat 2), .int .i64 (e2.flat 3), .int .i64 (e2.flat 4), .int .i64 (e2.flat 5), .int .i64 e2.pair, .int .i64 e2.plab, .lst (List.map encC e2.pairs) false, .int .i64 e2.fn, .int .i64 e2.flab, .lst (List.map encC e2.funs) false]]) rfl rfl rfl (fun _ => rfl) ?_
    refine G_nil ?_
    refine L_ret ?_
    have hr := some_s hr
    subst hr
    exact ⟨_, rfl, _, rfl, rfl⟩
def g_r07_Cdr (c1 : Co) : Option Co :=
  (cond (decide (c1.pair < 2)) (some (Co.mk (sixF 0 0 0 0 0 0) 0 0 [] 0 0 [])) (cond (decide (c1.pair = 2)) ((idx c1.pairs 1).bind fun e3 => some e3) ((idx c1.pairs 0).bind fun e4 => ((g_r07_lists e4 c1.plab).bind fun r5 => some r5))))
abbrev kg08 (c1 : Co) : ABlock := .cells [.int .i64 (c1.flat 0), .int .i64 (c1.flat 1), .int .i64 (c1.flat 2), .int .i64 (c1.flat 3), .int .i64 (c1.flat 4), .int .i64 (c1.flat 5), .int .i64 c1.pair, .int .i64 c1.plab, .lst (List.map encC c1.pairs) false, .int .i64 c1.fn, .int .i64 c1.flab, .lst (List.map encC c1.funs) false]
abbrev kg09 : ABlock := .cells [.int .i64 0, .int .i64 0, .int .i64 0, .int .i64 0, .int .i64 0, .int .i64 0, .int .i64 0, .int .i64 0, .lst [] true, .int .i64 0, .int .i64 0, .lst [] true]
theorem g_r07_Cdr_ok {c1 : Co} {r : Co} (hr : g_r07_Cdr c1 = some r) : PRes (tabOf tabL) 34 [.agg (cC c1)] (.agg (cC r)) := by
  refine pres_fin t34 ?_
  unfold g_r07_Cdr at hr
  refine L_seq ?_
  refine L_reg ?_
  refine G_n (B := (kg08 c1)) rfl rfl rfl ?_
  refine G_n (B := kg09) rfl rfl rfl ?_
  refine G_nil ?_
  refine L_seq ?_
  refine L_pruneH (e' := [(1, .ptr 0 0), (2, .ptr 1 0)]) (H1 := [(kg08 c1), kg09]) (by repeat (first | exact rzz | apply rcc rfl | apply rnn rfl)) rfl ?_
  refine L_seq ?_
  refine L_seq ?_
  refine L_reg ?_
  refine G_p rfl rfl rfl ?_
  refine G_h rfl rfl rfl (fun _ => rfl) ?_
  refine G_p rfl rfl rfl ?_
  refine G_nil ?_
  refine L_seq ?_
  refine L_pruneH (e' := [(1, .ptr 0 0), (2, .ptr 1 0), (5, .bool (decide (c1.pair < 2)))]) (H1 := [(kg08 c1), kg09]) (by repeat (first | exact rzz | apply rcc rfl | apply rnn rfl)) rfl ?_
  rcases cond_s hr with ⟨hc5, hr⟩ | ⟨hc5, hr⟩
  · refine L_T rfl hc5 ?_
    refine L_seq ?_
    refine L_reg ?_
    refine G_p (v := .agg [.int .i64 0, .int .i64 0, .int .i64 0, .int .i64 0, .int .i64 0, .int .i64 0, .int .i64 0, .int .i64 0, .lst [] true, .int .i64 0, .int .i64 0, .lst [] true]) rfl rfl rfl ?_
    refine G_hn (H' := [(kg08 c1), kg09]) rfl rfl rfl (fun _ => rfl) ?_
    refine G_nil ?_
    refine L_ret ?_
    have hr := some_s hr
    subst hr
    exact ⟨_, rfl, _, rfl, rfl⟩
  · refine L_F rfl hc5 ?_
    refine L_skip ?_
    refine L_seq ?_
    refine L_pruneH (e' := [(1, .ptr 0 0), (2, .ptr 1 0)]) (H1 := [(kg08 c1), kg09]) (by repeat (first | exact rzz | apply rcc rfl | apply rnn rfl)) rfl ?_
    refine L_seq ?_
    refine L_seq ?_
    refine L_reg ?_
    refine G_p rfl rfl rfl ?_
    refine G_h rfl rfl rfl (fun _ => rfl) ?_
    refine G_p rfl rfl rfl ?_
    refine G_nil ?_
    refine L_seq ?_
    refine L_pruneH (e' := [(1, .ptr 0 0), (2, .ptr 1 0), (9, .bool (decide (c1.pair = 2)))]) (H1 := [(kg08 c1), kg09]) (by repeat (first | exact rzz | apply rcc rfl | apply rnn rfl)) rfl ?_
    rcases cond_s hr with ⟨hc9, hr⟩ | ⟨hc9, hr⟩
    · refine L_T rfl hc9 ?_
      refine L_seq ?_
      refine L_reg ?_
      refine G_p rfl rfl rfl ?_
      refine G_h (v := .lst (List.map encC c1.pairs) false) rfl rfl rfl (fun _ => rfl) ?_
      obtain ⟨e3, he3, hr⟩ := bind_s hr
      refine G_h (v := .ro [.int .i64 (e3.flat 0), .int .i64 (e3.flat 1), .int .i64 (e3.flat 2), .int .i64 (e3.flat 3), .int .i64 (e3.flat 4), .int .i64 (e3.flat 5), .int .i64 e3.pair, .int .i64 e3.plab, .lst (List.map encC e3.pairs) false, .int .i64 e3.fn, .int .i64 e3.flab, .lst (List.map encC e3.funs) false]) rfl rfl rfl (ia_ev (cells := [.int .i64 (e3.flat 0), .int .i64 (e3.flat 1), .int .i64 (e3.flat 2), .int .i64 (e3.flat 3), .int .i64 (e3.flat 4), .int .i64 (e3.flat 5), .int .i64 e3.pair, .int .i64 e3.plab, .lst (List.map encC e3.pairs) false, .int .i64 e3.fn, .int .i64 e3.flab, .lst (List.map encC e3.funs) false]) rfl rfl (idx_s he3).1 (map_get (x := e3) (idx_s he3).2) (encC_flat _) rfl) ?_
      refine G_h (v := .agg (cC e3)) rfl rfl rfl (fun _ => rfl) ?_
      refine G_hn (H' := [(kg08 c1), .cells [.int .i64 (e3.flat 0), .int .i64 (e3.flat 1), .int .i64 (e3.flat 2), .int .i64 (e3.flat 3), .int .i64 (e3.flat 4), .int .i64 (e3.flat 5), .int .i64 e3.pair, .int .i64 e3.plab, .lst (List.map encC e3.pairs) false, .int .i64 e3.fn, .int .i64 e3.flab, .lst (List.map encC e3.funs) false]]) rfl rfl rfl (fun _ => rfl) ?_
      refine G_nil ?_
      refine L_ret ?_
      have hr := some_s hr
      subst hr
      exact ⟨_, rfl, _, rfl, rfl⟩
    · refine L_F rfl hc9 ?_
      refine L_skip ?_
      refine L_seq ?_
      refine L_pruneH (e' := [(1, .ptr 0 0), (2, .ptr 1 0)]) (H1 := [(kg08 c1), kg09]) (by repeat (first | exact rzz | apply rcc rfl | apply rnn rfl)) rfl ?_
      refine L_seq ?_
      refine L_drawS (ops := [_, _, _, _, _, _, _, _]) rfl rfl ?_
      refine G_p rfl rfl rfl ?_
      refine G_h (v := .lst (List.map encC c1.pairs) false) rfl rfl rfl (fun _ => rfl) ?_
      obtain ⟨e4, he4, hr⟩ := bind_s hr
      refine G_h (v := .ro [.int .i64 (e4.flat 0), .int .i64 (e4.flat 1), .int .i64 (e4.flat 2), .int .i64 (e4.flat 3), .int .i64 (e4.flat 4), .int .i64 (e4.flat 5), .int .i64 e4.pair, .int .i64 e4.plab, .lst (List.map encC e4.pairs) false, .int .i64 e4.fn, .int .i64 e4.flab, .lst (List.map encC e4.funs) false]) rfl rfl rfl (ia_ev (cells := [.int .i64 (e4.flat 0), .int .i64 (e4.flat 1), .int .i64 (e4.flat 2), .int .i64 (e4.flat 3), .int .i64 (e4.flat 4), .int .i64 (e4.flat 5), .int .i64 e4.pair, .int .i64 e4.plab, .lst (List.map encC e4.pairs) false, .int .i64 e4.fn, .int .i64 e4.flab, .lst (List.map encC e4.funs) false]) rfl rfl (idx_s he4).1 (map_get (x := e4) (idx_s he4).2) (encC_flat _) rfl) ?_
      refine G_h (v := .agg (cC e4)) rfl rfl rfl (fun _ => rfl) ?_
      refine G_p rfl rfl rfl ?_
      refine G_h rfl rfl rfl (fun _ => rfl) ?_
      obtain ⟨r5, hr5, hr⟩ := bind_s hr
      refine G_c 54 rfl rfl (CA_of (as := [.agg (cC e4), .int .i64 c1.plab]) rfl (g_r07_lists_ok hr5)) ?_
      refine G_hn (H' := [(kg08 c1), .cells [.int .i64 (r5.flat 0), .int .i64 (r5.flat 1), .int .i64 (r5.flat 2), .int .i64 (r5.flat 3), .int .i64 (r5.flat 4), .int .i64 (r5.flat 5), .int .i64 r5.pair, .int .i64 r5.plab, .lst (List.map encC r5.pairs) false, .int .i64 r5.fn, .int .i64 r5.flab, .lst (List.map encC r5.funs) false]]) rfl rfl rfl (fun _ => rfl) ?_
      refine G_nil (L_nil ⟨rfl, ?_⟩)
      refine L_ret ?_
      have hr := some_s hr
      subst hr
      exact ⟨_, rfl, _, rfl, rfl⟩
def g_r07_To_j1 (a27 : Int) (a28 : Int) (a29 : Int) (a30 : Int) (a31 : Int) (a32 : Int) (a40 : Int) (a41 : Int) (l42 : List Co) (a44 : Int) (a81 : Int) (l82 : List Co) : Option Co :=
  some (Co.mk (sixF a27 a28 a29 a30 a31 a32) a40 a41 l42 a81 a44 l82)
def g_r07_To_j2 (rec_To : Ty → Int → Option Co) (t1 : Ty) (label2 : Int) (a27 : Int) (a28 : Int) (a29 : Int) (a30 : Int) (a31 : Int) (a32 : Int) (a40 : Int) (a41 : Int) (l42 : List Co) (a43 : Int) (a44 : Int) (l111 : List Co) : Option Co :=
  ((idx t1.funs (IntKind.wrap .i64 (((List.length t1.funs : Nat) : Int) - 1))).bind fun e115 => ((rec_To e115 label2).bind fun r116 => ((catL l111 [r116]).bind fun l117 => ((g_r07_all l117).bind fun r118 => (cond (!r118) (g_r07_To_j1 a27 a28 a29 a30 a31 a32 a40 a41 l42 a44 2 l117) (g_r07_To_j1 a27 a28 a29 a30 a31 a32 a40 a41 l42 a44 a43 []))))))
def g_r07_To_l3 (rec_To : Ty → Int → Option Co) (rec_From : Ty → Int → Option Co) (t1 : Ty) (label2 : Int) (a27 : Int) (a28 : Int) (a29 : Int) (a30 : Int) (a31 : Int) (a32 : Int) (a40 : Int) (a41 : Int) (l42 : List Co) (a43 : Int) (a44 : Int) : List Nat → Nat → (List Co) → Option Co
  | [], _, l127 => g_r07_To_j2 rec_To t1 label2 a27 a28 a29 a30 a31 a32 a40 a41 l42 a43 a44 l127
  | y138 :: rest140, i139, l127 => ((idx t1.funs ((i139 : Nat) : Int)).bind fun e144 => ((rec_From e144 label2).bind fun r145 => ((catL l127 [r145]).bind fun l146 => g_r07_To_l3 rec_To rec_From t1 label2 a27 a28 a29 a30 a31 a32 a40 a41 l42 a43 a44 rest140 (i139 + 1) l146)))
def g_r07_To_j4 (rec_To : Ty → Int → Option Co) (rec_From : Ty → Int → Option Co) (t1 : Ty) (label2 : Int) (a27 : Int) (a28 : Int) (a29 : Int) (a30 : Int) (a31 : Int) (a32 : Int) (a40 : Int) (a41 : Int) (l42 : List Co) (a43 : Int) (a44 : Int) : Option Co :=
  (cond (decide (t1.fn = 1)) (cond (okLen (List.range (Int.toNat (IntKind.wrap .i64 (((List.length t1.funs : Nat) : Int) - 1))))) (g_r07_To_l3 rec_To rec_From t1 label2 a27 a28 a29 a30 a31 a32 a40 a41 l42 a43 a44 (List.range (Int.toNat (IntKind.wrap .i64 (((List.length t1.funs : Nat) : Int) - 1)))) 0 []) none) (g_r07_To_j1 a27 a28 a29 a30 a31 a32 a40 a41 l42 a44 a43 []))
def g_r07_To_j5 (rec_To : Ty → Int → Option Co) (rec_From : Ty → Int → Option Co) (t1 : Ty) (label2 : Int) (a27 : Int) (a28 : Int) (a29 : Int) (a30 : Int) (a31 : Int) (a32 : Int) (a40 : Int) (a41 : Int) (l42 : List Co) : Option Co :=
  (cond (decide (t1.fn = 0)) (g_r07_To_j4 rec_To rec_From t1 label2 a27 a28 a29 a30 a31 a32 a40 a41 l42 1 label2) (g_r07_To_j4 rec_To rec_From t1 label2 a27 a28 a29 a30 a31 a32 a40 a41 l42 0 0))
def g_r07_To_j6 (rec_To : Ty → Int → Option Co) (rec_From : Ty → Int → Option Co) (t1 : Ty) (label2 : Int) (a27 : Int) (a28 : Int) (a29 : Int) (a30 : Int) (a31 : Int) (a32 : Int) : Option Co :=
  (cond (decide (t1.pair = 0)) (g_r07_To_j5 rec_To rec_From t1 label2 a27 a28 a29 a30 a31 a32 1 label2 []) (cond (decide (t1.pair = 1)) ((idx t1.pairs 0).bind fun e147 => ((rec_To e147 label2).bind fun r148 => ((idx t1.pairs 1).bind fun e149 => ((rec_To e149 label2).bind fun r150 => ((g_r07_all [r148, r150]).bind fun r151 => (cond (!r151) (g_r07_To_j5 rec_To rec_From t1 label2 a27 a28 a29 a30 a31 a32 2 0 [r148, r150]) (g_r07_To_j5 rec_To rec_From t1 label2 a27 a28 a29 a30 a31 a32 0 0 []))))))) (cond (decide (t1.pair = 2)) ((idx t1.pairs 0).bind fun e152 => ((rec_To e152 label2).bind fun r153 => g_r07_To_j5 rec_To rec_From t1 label2 a27 a28 a29 a30 a31 a32 3 label2 [r153])) (g_r07_To_j5 rec_To rec_From t1 label2 a27 a28 a29 a30 a31 a32 0 0 []))))
def g_r07_To_j7 (rec_To : Ty → Int → Option Co) (rec_From : Ty → Int → Option Co) (t1 : Ty) (label2 : Int) (a167 : Int) (a169 : Int) (a171 : Int) (a173 : Int) (a175 : Int) (a177 : Int) : Option Co :=
  g_r07_To_j6 rec_To rec_From t1 label2 a167 a169 a171 a173 a175 a177
def g_r07_To_j8 (rec_To : Ty → Int → Option Co) (rec_From : Ty → Int → Option Co) (t1 : Ty) (label2 : Int) (a167 : Int) (a169 : Int) (a171 : Int) (a173 : Int) (a175 : Int) : Option Co :=
  (cond (decide ((Int.tmod (IntKind.wrap .i64 (Int.tdiv t1.flat 32)) 2) = 0)) (g_r07_To_j7 rec_To rec_From t1 label2 a167 a169 a171 a173 a175 label2) (g_r07_To_j7 rec_To rec_From t1 label2 a167 a169 a171 a173 a175 0))
def g_r07_To_j9 (rec_To : Ty → Int → Option Co) (rec_From : Ty → Int → Option Co) (t1 : Ty) (label2 : Int) (a167 : Int) (a169 : Int) (a171 : Int) (a173 : Int) : Option Co :=
  (cond (decide ((Int.tmod (IntKind.wrap .i64 (Int.tdiv t1.flat 16)) 2) = 0)) (g_r07_To_j8 rec_To rec_From t1 label2 a167 a169 a171 a173 label2) (g_r07_To_j8 rec_To rec_From t1 label2 a167 a169 a171 a173 0))
def g_r07_To_j10 (rec_To : Ty → Int → Option Co) (rec_From : Ty → Int → Option Co) (t1 : Ty) (label2 : Int) (a167 : Int) (a169 : Int) (a171 : Int) : Option Co :=
  (cond (decide ((Int.tmod (IntKind.wrap .i64 (Int.tdiv t1.flat 8)) 2) = 0)) (g_r07_To_j9 rec_To rec_From t1 label2 a167 a169 a171 label2) (g_r07_To_j9 rec_To rec_From t1 label2 a167 a169 a171 0))
def g_r07_To_j11 (rec_To : Ty → Int → Option Co) (rec_From : Ty → Int → Option Co) (t1 : Ty) (label2 : Int) (a167 : Int) (a169 : Int) : Option Co :=
  (cond (decide ((Int.tmod (IntKind.wrap .i64 (Int.tdiv t1.flat 4)) 2) = 0)) (g_r07_To_j10 rec_To rec_From t1 label2 a167 a169 label2) (g_r07_To_j10 rec_To rec_From t1 label2 a167 a169 0))
def g_r07_To_j12 (rec_To : Ty → Int → Option Co) (rec_From : Ty → Int → Option Co) (t1 : Ty) (label2 : Int) (a167 : Int) : Option Co :=
  (cond (decide ((Int.tmod (IntKind.wrap .i64 (Int.tdiv t1.flat 2)) 2) = 0)) (g_r07_To_j11 rec_To rec_From t1 label2 a167 label2) (g_r07_To_j11 rec_To rec_From t1 label2 a167 0))
def g_r07_To_b (rec_To : Ty → Int → Option Co) (rec_From : Ty → Int → Option Co) (t1 : Ty) (label2 : Int) : Option Co :=
  (cond t1.all (some (Co.mk (sixF 0 0 0 0 0 0) 0 0 [] 0 0 [])) (cond (decide ((Int.tmod (IntKind.wrap .i64 (Int.tdiv t1.flat 1)) 2) = 0)) (g_r07_To_j12 rec_To rec_From t1 label2 label2) (g_r07_To_j12 rec_To rec_From t1 label2 0)))
abbrev kg010 (a27 : Int) (a28 : Int) (a29 : Int) (a30 : Int) (a31 : Int) (a32 : Int) (a40 : Int) (a41 : Int) (l42 : List Co) (a81 : Int) (a44 : Int) (l82 : List Co) : ABlock := .cells [.int .i64 a27, .int .i64 a28, .int .i64 a29, .int .i64 a30, .int .i64 a31, .int .i64 a32, .int .i64 a40, .int .i64 a41, .lst (List.map encC l42) false, .int .i64 a81, .int .i64 a44, .lst (List.map encC l82) false]
abbrev kg011 (a27 : Int) (a28 : Int) (a29 : Int) (a30 : Int) (a31 : Int) (a32 : Int) (a40 : Int) (a41 : Int) (l42 : List Co) (label2 : Int) : ABlock := .cells [.int .i64 a27, .int .i64 a28, .int .i64 a29, .int .i64 a30, .int .i64 a31, .int .i64 a32, .int .i64 a40, .int .i64 a41, .lst (List.map encC l42) false, .int .i64 1, .int .i64 label2, .lst [] true]
abbrev kg012 (a27 : Int) (a28 : Int) (a29 : Int) (a30 : Int) (a31 : Int) (a32 : Int) (a40 : Int) (a41 : Int) (l42 : List Co) (a43 : Int) (a44 : Int) : ABlock := .cells [.int .i64 a27, .int .i64 a28, .int .i64 a29, .int .i64 a30, .int .i64 a31, .int .i64 a32, .int .i64 a40, .int .i64 a41, .lst (List.map encC l42) false, .int .i64 a43, .int .i64 a44, .lst [] false]
abbrev kg013 (a27 : Int) (a28 : Int) (a29 : Int) (a30 : Int) (a31 : Int) (a32 : Int) (a40 : Int) (a41 : Int) (l42 : List Co) (a43 : Int) (a44 : Int) : ABlock := .cells [.int .i64 a27, .int .i64 a28, .int .i64 a29, .int .i64 a30, .int .i64 a31, .int .i64 a32, .int .i64 a40, .int .i64 a41, .lst (List.map encC l42) false, .int .i64 a43, .int .i64 a44, .lst [] true]
abbrev kg014 (a27 : Int) (a28 : Int) (a29 : Int) (a30 : Int) (a31 : Int) (a32 : Int) (a40 : Int) (a41 : Int) (l42 : List Co) (a44 : Int) : ABlock := .cells [.int .i64 a27, .int .i64 a28, .int .i64 a29, .int .i64 a30, .int .i64 a31, .int .i64 a32, .int .i64 a40, .int .i64 a41, .lst (List.map encC l42) false, .int .i64 2, .int .i64 a44, .lst [] true]
abbrev kg015 (a27 : Int) (a28 : Int) (a29 : Int) (a30 : Int) (a31 : Int) (a32 : Int) (a40 : Int) (a41 : Int) (l42 : List Co) : ABlock := .cells [.int .i64 a27, .int .i64 a28, .int .i64 a29, .int .i64 a30, .int .i64 a31, .int .i64 a32, .int .i64 a40, .int .i64 a41, .lst (List.map encC l42) false, .int .i64 0, .int .i64 0, .lst [] true]
abbrev kg016 (a27 : Int) (a28 : Int) (a29 : Int) (a30 : Int) (a31 : Int) (a32 : Int) (a40 : Int) (a41 : Int) (l42 : List Co) : ABlock := .cells [.int .i64 a27, .int .i64 a28, .int .i64 a29, .int .i64 a30, .int .i64 a31, .int .i64 a32, .int .i64 a40, .int .i64 a41, .lst (List.map encC l42) false, .int .i64 1, .int .i64 0, .lst [] true]
abbrev kg017 (a167 : Int) (a169 : Int) (a171 : Int) (a173 : Int) (a175 : Int) (label2 : Int) : ABlock := .cells [.int .i64 a167, .int .i64 a169, .int .i64 a171, .int .i64 a173, .int .i64 a175, .int .i64 label2, .int .i64 0, .int .i64 0, .lst [] true, .int .i64 0, .int .i64 0, .lst [] true]
abbrev kg018 (a167 : Int) (a169 : Int) (a171 : Int) (a173 : Int) (a175 : Int) (a177 : Int) : ABlock := .cells [.int .i64 a167, .int .i64 a169, .int .i64 a171, .int .i64 a173, .int .i64 a175, .int .i64 a177, .int .i64 0, .int .i64 0, .lst [] true, .int .i64 0, .int .i64 0, .lst [] true]
abbrev kg019 (a167 : Int) (a169 : Int) (a171 : Int) (a173 : Int) (label2 : Int) : ABlock := .cells [.int .i64 a167, .int .i64 a169, .int .i64 a171, .int .i64 a173, .int .i64 label2, .int .i64 0, .int .i64 0, .int .i64 0, .lst [] true, .int .i64 0, .int .i64 0, .lst [] true]
abbrev kg020 (a27 : Int) (a28 : Int) (a29 : Int) (a30 : Int) (a31 : Int) (a32 : Int) (label2 : Int) : ABlock := .cells [.int .i64 a27, .int .i64 a28, .int .i64 a29, .int .i64 a30, .int .i64 a31, .int .i64 a32, .int .i64 3, .int .i64 label2, .lst [] true, .int .i64 0, .int .i64 0, .lst [] true]
abbrev kg021 (a167 : Int) (a169 : Int) (a171 : Int) (a173 : Int) (a175 : Int) : ABlock := .cells [.int .i64 a167, .int .i64 a169, .int .i64 a171, .int .i64 a173, .int .i64 a175, .int .i64 0, .int .i64 0, .int .i64 0, .lst [] true, .int .i64 0, .int .i64 0, .lst [] true]
abbrev kg022 (a167 : Int) (a169 : Int) (a171 : Int) (label2 : Int) : ABlock := .cells [.int .i64 a167, .int .i64 a169, .int .i64 a171, .int .i64 label2, .int .i64 0, .int .i64 0, .int .i64 0, .int .i64 0, .lst [] true, .int .i64 0, .int .i64 0, .lst [] true]
abbrev kg023 (a27 : Int) (a28 : Int) (a29 : Int) (a30 : Int) (a31 : Int) (a32 : Int) : ABlock := .cells [.int .i64 a27, .int .i64 a28, .int .i64 a29, .int .i64 a30, .int .i64 a31, .int .i64 a32, .int .i64 0, .int .i64 0, .lst [] false, .int .i64 0, .int .i64 0, .lst [] true]
abbrev kg024 (a167 : Int) (a169 : Int) (a171 : Int) (a173 : Int) : ABlock := .cells [.int .i64 a167, .int .i64 a169, .int .i64 a171, .int .i64 a173, .int .i64 0, .int .i64 0, .int .i64 0, .int .i64 0, .lst [] true, .int .i64 0, .int .i64 0, .lst [] true]
abbrev kg025 (a27 : Int) (a28 : Int) (a29 : Int) (a30 : Int) (a31 : Int) (a32 : Int) : ABlock := .cells [.int .i64 a27, .int .i64 a28, .int .i64 a29, .int .i64 a30, .int .i64 a31, .int .i64 a32, .int .i64 0, .int .i64 0, .lst [] true, .int .i64 0, .int .i64 0, .lst [] true]
abbrev kg026 (a27 : Int) (a28 : Int) (a29 : Int) (a30 : Int) (a31 : Int) (a32 : Int) : ABlock := .cells [.int .i64 a27, .int .i64 a28, .int .i64 a29, .int .i64 a30, .int .i64 a31, .int .i64 a32, .int .i64 1, .int .i64 0, .lst [] true, .int .i64 0, .int .i64 0, .lst [] true]
abbrev kg027 (a27 : Int) (a28 : Int) (a29 : Int) (a30 : Int) (a31 : Int) (a32 : Int) : ABlock := .cells [.int .i64 a27, .int .i64 a28, .int .i64 a29, .int .i64 a30, .int .i64 a31, .int .i64 a32, .int .i64 2, .int .i64 0, .lst [] true, .int .i64 0, .int .i64 0, .lst [] true]
abbrev kg028 (a27 : Int) (a28 : Int) (a29 : Int) (a30 : Int) (a31 : Int) (a32 : Int) : ABlock := .cells [.int .i64 a27, .int .i64 a28, .int .i64 a29, .int .i64 a30, .int .i64 a31, .int .i64 a32, .int .i64 3, .int .i64 0, .lst [] true, .int .i64 0, .int .i64 0, .lst [] true]
abbrev kg029 (a167 : Int) (a169 : Int) (label2 : Int) : ABlock := .cells [.int .i64 a167, .int .i64 a169, .int .i64 label2, .int .i64 0, .int .i64 0, .int .i64 0, .int .i64 0, .int .i64 0, .lst [] true, .int .i64 0, .int .i64 0, .lst [] true]
abbrev kg030 (a167 : Int) (a169 : Int) (a171 : Int) : ABlock := .cells [.int .i64 a167, .int .i64 a169, .int .i64 a171, .int .i64 0, .int .i64 0, .int .i64 0, .int .i64 0, .int .i64 0, .lst [] true, .int .i64 0, .int .i64 0, .lst [] true]
abbrev kg031 (a167 : Int) (label2 : Int) : ABlock := .cells [.int .i64 a167, .int .i64 label2, .int .i64 0, .int .i64 0, .int .i64 0, .int .i64 0, .int .i64 0, .int .i64 0, .lst [] true, .int .i64 0, .int .i64 0, .lst [] true]
abbrev kg032 (a167 : Int) (a169 : Int) : ABlock := .cells [.int .i64 a167, .int .i64 a169, .int .i64 0, .int .i64 0, .int .i64 0, .int .i64 0, .int .i64 0, .int .i64 0, .lst [] true, .int .i64 0, .int .i64 0, .lst [] true]
abbrev kg033 (label2 : Int) : ABlock := .cells [.int .i64 label2, .int .i64 0, .int .i64 0, .int .i64 0, .int .i64 0, .int .i64 0, .int .i64 0, .int .i64 0, .lst [] true, .int .i64 0, .int .i64 0, .lst [] true]
abbrev kg034 (a167 : Int) : ABlock := .cells [.int .i64 a167, .int .i64 0, .int .i64 0, .int .i64 0, .int .i64 0, .int .i64 0, .int .i64 0, .int .i64 0, .lst [] true, .int .i64 0, .int .i64 0, .lst [] true]
abbrev kg035 : ABlock := .cells [.int .i64 0, .int .i64 0, .int .i64 0, .int .i64 0, .int .i64 0, .int .i64 0, .int .i64 0, .int .i64 0, .lst [] true, .int .i64 0, .int .i64 0, .lst [] true]
abbrev kg036 (t1 : Ty) : ABlock := .cells [.bool t1.all, .int .i64 t1.flat, .int .i64 t1.pair, .lst (List.map encT t1.pairs) false, .int .i64 t1.fn, .lst (List.map encT t1.funs) false]
abbrev kg037 (label2 : Int) : List (Nat × AVal) := [(1, .int .i64 label2), (2, .ptr 0 0), (4, .ptr 1 0), (5, .ptr 2 0), (6, .int .i64 16), (7, .int .i64 4)]
abbrev kg038 (label2 : Int) : List (Nat × AVal) := [(1, .int .i64 label2), (2, .ptr 0 0), (4, .ptr 1 0), (5, .ptr 2 0), (6, .int .i64 32), (7, .int .i64 5)]
abbrev kg039 (label2 : Int) : List (Nat × AVal) := [(1, .int .i64 label2), (2, .ptr 0 0), (4, .ptr 1 0), (5, .ptr 2 0), (6, .int .i64 1), (7, .int .i64 0)]
abbrev kg040 (label2 : Int) : List (Nat × AVal) := [(1, .int .i64 label2), (2, .ptr 0 0), (4, .ptr 1 0), (5, .ptr 2 0), (6, .int .i64 2), (7, .int .i64 1)]
abbrev kg041 (label2 : Int) : List (Nat × AVal) := [(1, .int .i64 label2), (2, .ptr 0 0), (4, .ptr 1 0), (5, .ptr 2 0), (6, .int .i64 4), (7, .int .i64 2)]
abbrev kg042 (label2 : Int) : List (Nat × AVal) := [(1, .int .i64 label2), (2, .ptr 0 0), (4, .ptr 1 0), (5, .ptr 2 0), (6, .int .i64 8), (7, .int .i64 3)]
theorem g_r07_To_b_ok {rec_To : Ty → Int → Option Co} {rec_From : Ty → Int → Option Co} {t1 : Ty} {label2 : Int} {r : Co} (hrec_To : ∀ (a0 : Ty) (a1 : Int) (r : Co), rec_To a0 a1 = some r → PRes (tabOf tabL) 13 [.agg (cT a0), .int .i64 a1] (.agg (cC r))) (hrec_From : ∀ (a0 : Ty) (a1 : Int) (r : Co), rec_From a0 a1 = some r → PRes (tabOf tabL) 15 [.agg (cT a0), .int .i64 a1] (.agg (cC r))) (hr : g_r07_To_b rec_To rec_From t1 label2 = some r) : PRes (tabOf tabL) 13 [.agg (cT t1), .int .i64 label2] (.agg (cC r)) := by
  refine pres_fin t13 ?_
  unfold g_r07_To_b at hr
  refine L_seq ?_
  refine L_stmt ?_
  refine L_reg ?_
  refine G_n (B := (kg036 t1)) rfl rfl rfl ?_
  refine G_n (B := kg035) rfl rfl rfl ?_
  refine G_nil ?_
  refine L_nil ?_
  refine Sm_norm (e2 := [(1, .int .i64 label2), (2, .ptr 0 0), (4, .ptr 1 0)]) (H1 := [(kg036 t1), kg035]) (H2 := [(kg036 t1), kg035]) rfl (by repeat (first | exact rzz | apply rcc rfl | apply rnn rfl)) rfl (?_ : GL _ _ _ _ _)
  refine L_seq ?_
  refine L_stmt ?_
  refine L_seq ?_
  refine L_stmt ?_
  refine L_reg ?_
  refine G_p rfl rfl rfl ?_
  refine G_h rfl rfl rfl (fun _ => rfl) ?_
  refine G_nil ?_
  refine L_nil ?_
  refine Sm_norm (e2 := [(1, .int .i64 label2), (2, .ptr 0 0), (4, .ptr 1 0), (13, .bool t1.all)]) (H1 := [(kg036 t1), kg035]) (H2 := [(kg036 t1), kg035]) rfl (by repeat (first | exact rzz | apply rcc rfl | apply rnn rfl)) rfl (?_ : GL _ _ _ _ _)
  rcases cond_s hr with ⟨hc13, hr⟩ | ⟨hc13, hr⟩
  · refine L_T rfl hc13 ?_
    refine L_seq ?_
    refine L_reg ?_
    refine G_p (v := .agg [.int .i64 0, .int .i64 0, .int .i64 0, .int .i64 0, .int .i64 0, .int .i64 0, .int .i64 0, .int .i64 0, .lst [] true, .int .i64 0, .int .i64 0, .lst [] true]) rfl rfl rfl ?_
    refine G_hn (H' := [(kg036 t1), kg035]) rfl rfl rfl (fun _ => rfl) ?_
    refine G_nil ?_
    refine L_ret ?_
    refine Sm_ret ?_
    have hr := some_s hr
    subst hr
    exact ⟨_, rfl, _, rfl, rfl⟩
  · refine L_F rfl hc13 ?_
    refine L_skip ?_
    refine L_nil ?_
    refine Sm_norm (e2 := [(1, .int .i64 label2), (2, .ptr 0 0), (4, .ptr 1 0)]) (H1 := [(kg036 t1), kg035]) (H2 := [(kg036 t1), kg035]) rfl (by repeat (first | exact rzz | apply rcc rfl | apply rnn rfl)) rfl (?_ : GL _ _ _ _ _)
    refine L_seq ?_
    refine L_stmt ?_
    refine L_reg ?_
    refine G_p (v := .agg [.int .i64 0, .int .i64 0, .int .i64 0, .int .i64 0, .int .i64 0, .int .i64 0, .int .i64 0, .int .i64 0, .lst [] true, .int .i64 0, .int .i64 0, .lst [] true]) rfl rfl rfl ?_
    refine G_n (B := kg035) rfl rfl rfl ?_
    refine G_hn (H' := [(kg036 t1), kg035, kg035]) rfl rfl rfl (fun _ => rfl) ?_
    refine G_nil ?_
    refine L_nil ?_
    refine Sm_norm (e2 := [(1, .int .i64 label2), (2, .ptr 0 0), (4, .ptr 1 0), (5, .ptr 2 0)]) (H1 := [(kg036 t1), kg035, kg035]) (H2 := [(kg036 t1), kg035, kg035]) rfl (by repeat (first | exact rzz | apply rcc rfl | apply rnn rfl)) rfl (?_ : GL _ _ _ _ _)
    refine L_seq ?_
    refine L_stmt ?_
    refine L_reg ?_
    refine G_p rfl rfl rfl ?_
    refine G_nil ?_
    refine L_nil ?_
    refine Sm_norm (e2 := [(1, .int .i64 label2), (2, .ptr 0 0), (4, .ptr 1 0), (5, .ptr 2 0), (6, .int .i64 1)]) (H1 := [(kg036 t1), kg035, kg035]) (H2 := [(kg036 t1), kg035, kg035]) rfl (by repeat (first | exact rzz | apply rcc rfl | apply rnn rfl)) rfl (?_ : GL _ _ _ _ _)
    refine L_seq ?_
    refine L_stmtJ (S := Int × Int × Int × Int × Int × Int) (fun s => [(1, .int .i64 label2), (2, .ptr 0 0), (4, .ptr 1 0), (5, .ptr 2 0)]) (fun s => [(kg036 t1), kg035, .cells [.int .i64 s.1, .int .i64 s.2.1, .int .i64 s.2.2.1, .int .i64 s.2.2.2.1, .int .i64 s.2.2.2.2.1, .int .i64 s.2.2.2.2.2, .int .i64 0, .int .i64 0, .lst [] true, .int .i64 0, .int .i64 0, .lst [] true]]) (fun s => g_r07_To_j6 rec_To rec_From t1 label2 s.1 s.2.1 s.2.2.1 s.2.2.2.1 s.2.2.2.2.1 s.2.2.2.2.2 = some r) ?_ ?_
    · skip
      refine L_seq ?_
      refine L_stmt ?_
      refine L_reg ?_
      refine G_p rfl rfl rfl ?_
      refine G_nil ?_
      refine L_nil ?_
      refine Sm_norm (e2 := (kg039 label2)) (H1 := [(kg036 t1), kg035, kg035]) (H2 := [(kg036 t1), kg035, kg035]) rfl (by repeat (first | exact rzz | apply rcc rfl | apply rnn rfl)) rfl (?_ : GL _ _ _ _ _)
      refine L_block ?_
      refine L_loop ?_
      refine L_round (e1 := [(6, .int .i64 1), (7, .int .i64 0), (1, .int .i64 label2), (2, .ptr 0 0), (4, .ptr 1 0), (5, .ptr 2 0)]) (H1 := [(kg036 t1), kg035, kg035]) (by repeat (first | exact rzz | apply rcc rfl | apply rnn rfl)) rfl ?_
      refine L_seq ?_
      refine L_stmt ?_
      refine L_seq ?_
      refine L_stmt ?_
      refine L_reg ?_
      refine G_p rfl rfl rfl ?_
      refine G_p rfl rfl rfl ?_
      refine G_nil ?_
      refine L_nil ?_
      refine Sm_norm (e2 := [(1, .int .i64 label2), (2, .ptr 0 0), (4, .ptr 1 0), (5, .ptr 2 0), (6, .int .i64 1), (7, .int .i64 0), (17, .bool true)]) (H1 := [(kg036 t1), kg035, kg035]) (H2 := [(kg036 t1), kg035, kg035]) rfl (by repeat (first | exact rzz | apply rcc rfl | apply rnn rfl)) rfl (?_ : GL _ _ _ _ _)
      refine L_T rfl rfl ?_
      refine L_skip ?_
      refine L_nil ?_
      refine Sm_norm (e2 := (kg039 label2)) (H1 := [(kg036 t1), kg035, kg035]) (H2 := [(kg036 t1), kg035, kg035]) rfl (by repeat (first | exact rzz | apply rcc rfl | apply rnn rfl)) rfl (?_ : GL _ _ _ _ _)
      refine L_seq ?_
      refine L_stmt ?_
      refine L_block ?_
      refine L_seq ?_
      refine L_stmtJ (S := Int) (fun s => (kg039 label2)) (fun s => [(kg036 t1), kg035, .cells [.int .i64 s, .int .i64 0, .int .i64 0, .int .i64 0, .int .i64 0, .int .i64 0, .int .i64 0, .int .i64 0, .lst [] true, .int .i64 0, .int .i64 0, .lst [] true]]) (fun s => g_r07_To_j12 rec_To rec_From t1 label2 s = some r) ?_ ?_
      · skip
        refine L_seq ?_
        refine L_stmt ?_
        refine L_reg ?_
        refine G_p rfl rfl rfl ?_
        refine G_h rfl rfl rfl (fun _ => rfl) ?_
        refine G_p rfl rfl rfl ?_
        refine G_p rfl rfl (evP_quo rfl rfl (if_neg (by decide))) ?_
        refine G_p rfl rfl (evP_rem rfl rfl (if_neg (by decide))) ?_
        refine G_p rfl rfl rfl ?_
        refine G_nil ?_
        refine L_nil ?_
        refine Sm_norm (e2 := [(1, .int .i64 label2), (2, .ptr 0 0), (4, .ptr 1 0), (5, .ptr 2 0), (6, .int .i64 1), (7, .int .i64 0), (25, .bool (decide ((Int.tmod (IntKind.wrap .i64 (Int.tdiv t1.flat 1)) 2) = 0)))]) (H1 := [(kg036 t1), kg035, kg035]) (H2 := [(kg036 t1), kg035, kg035]) rfl (by repeat (first | exact rzz | apply rcc rfl | apply rnn rfl)) rfl (?_ : GL _ _ _ _ _)
        rcases cond_s hr with ⟨hc25, hr⟩ | ⟨hc25, hr⟩
        · refine L_T rfl hc25 ?_
          refine L_reg ?_
          refine G_p rfl rfl rfl ?_
          refine G_p rfl rfl rfl ?_
          refine G_p rfl rfl rfl ?_
          refine G_p rfl rfl rfl ?_
          refine G_hn (H' := [(kg036 t1), kg035, (kg033 label2)]) rfl rfl rfl (fun _ => rfl) ?_
          refine G_nil ?_
          refine L_nil ?_
          exact Sm_norm (e2 := (kg039 label2)) (H1 := [(kg036 t1), kg035, (kg033 label2)]) (H2 := [(kg036 t1), kg035, (kg033 label2)]) rfl (by repeat (first | exact rzz | apply rcc rfl | apply rnn rfl)) rfl ⟨label2, rfl, rfl, hr⟩
        · refine L_F rfl hc25 ?_
          refine L_skip ?_
          refine L_nil ?_
          exact Sm_norm (e2 := (kg039 label2)) (H1 := [(kg036 t1), kg035, kg035]) (H2 := [(kg036 t1), kg035, kg035]) rfl (by repeat (first | exact rzz | apply rcc rfl | apply rnn rfl)) rfl ⟨0, rfl, rfl, hr⟩
      · rintro a167 hr
        show GL _ _ (kg039 label2) [(kg036 t1), kg035, (kg034 a167)] _
        replace hr : g_r07_To_j12 rec_To rec_From t1 label2 a167 = some r := hr
        unfold g_r07_To_j12 at hr
        refine L_reg ?_
        refine G_p rfl rfl rfl ?_
        refine G_p rfl rfl rfl ?_
        refine G_p rfl rfl rfl ?_
        refine G_nil ?_
        refine L_nil ?_
        refine Blk_norm (?_ : GL _ _ _ _ _)
        refine L_nil ?_
        refine Sm_norm (e2 := [(1, .int .i64 label2), (2, .ptr 0 0), (4, .ptr 1 0), (5, .ptr 2 0), (6, .int .i64 2), (7, .int .i64 0)]) (H1 := [(kg036 t1), kg035, (kg034 a167)]) (H2 := [(kg036 t1), kg035, (kg034 a167)]) rfl (by repeat (first | exact rzz | apply rcc rfl | apply rnn rfl)) rfl (?_ : GL _ _ _ _ _)
        refine L_reg ?_
        refine G_p rfl rfl rfl ?_
        refine G_p rfl rfl rfl ?_
        refine G_p rfl rfl rfl ?_
        refine G_nil ?_
        refine L_nil ?_
        refine Rd_norm ?_
        refine L_round (e1 := [(6, .int .i64 2), (7, .int .i64 1), (1, .int .i64 label2), (2, .ptr 0 0), (4, .ptr 1 0), (5, .ptr 2 0)]) (H1 := [(kg036 t1), kg035, (kg034 a167)]) (by repeat (first | exact rzz | apply rcc rfl | apply rnn rfl)) rfl ?_
        refine L_seq ?_
        refine L_stmt ?_
        refine L_seq ?_
        refine L_stmt ?_
        refine L_reg ?_
        refine G_p rfl rfl rfl ?_
        refine G_p rfl rfl rfl ?_
        refine G_nil ?_
        refine L_nil ?_
        refine Sm_norm (e2 := [(1, .int .i64 label2), (2, .ptr 0 0), (4, .ptr 1 0), (5, .ptr 2 0), (6, .int .i64 2), (7, .int .i64 1), (17, .bool true)]) (H1 := [(kg036 t1), kg035, (kg034 a167)]) (H2 := [(kg036 t1), kg035, (kg034 a167)]) rfl (by repeat (first | exact rzz | apply rcc rfl | apply rnn rfl)) rfl (?_ : GL _ _ _ _ _)
        refine L_T rfl rfl ?_
        refine L_skip ?_
        refine L_nil ?_
        refine Sm_norm (e2 := (kg040 label2)) (H1 := [(kg036 t1), kg035, (kg034 a167)]) (H2 := [(kg036 t1), kg035, (kg034 a167)]) rfl (by repeat (first | exact rzz | apply rcc rfl | apply rnn rfl)) rfl (?_ : GL _ _ _ _ _)
        refine L_seq ?_
        refine L_stmt ?_
        refine L_block ?_
        refine L_seq ?_
        refine L_stmtJ (S := Int) (fun s => (kg040 label2)) (fun s => [(kg036 t1), kg035, .cells [.int .i64 a167, .int .i64 s, .int .i64 0, .int .i64 0, .int .i64 0, .int .i64 0, .int .i64 0, .int .i64 0, .lst [] true, .int .i64 0, .int .i64 0, .lst [] true]]) (fun s => g_r07_To_j11 rec_To rec_From t1 label2 a167 s = some r) ?_ ?_
        · skip
          refine L_seq ?_
          refine L_stmt ?_
          refine L_reg ?_
          refine G_p rfl rfl rfl ?_
          refine G_h rfl rfl rfl (fun _ => rfl) ?_
          refine G_p rfl rfl rfl ?_
          refine G_p rfl rfl (evP_quo rfl rfl (if_neg (by decide))) ?_
          refine G_p rfl rfl (evP_rem rfl rfl (if_neg (by decide))) ?_
          refine G_p rfl rfl rfl ?_
          refine G_nil ?_
          refine L_nil ?_
          refine Sm_norm (e2 := [(1, .int .i64 label2), (2, .ptr 0 0), (4, .ptr 1 0), (5, .ptr 2 0), (6, .int .i64 2), (7, .int .i64 1), (25, .bool (decide ((Int.tmod (IntKind.wrap .i64 (Int.tdiv t1.flat 2)) 2) = 0)))]) (H1 := [(kg036 t1), kg035, (kg034 a167)]) (H2 := [(kg036 t1), kg035, (kg034 a167)]) rfl (by repeat (first | exact rzz | apply rcc rfl | apply rnn rfl)) rfl (?_ : GL _ _ _ _ _)
          rcases cond_s hr with ⟨hc25, hr⟩ | ⟨hc25, hr⟩
          · refine L_T rfl hc25 ?_
            refine L_reg ?_
            refine G_p rfl rfl rfl ?_
            refine G_p rfl rfl rfl ?_
            refine G_p rfl rfl rfl ?_
            refine G_p rfl rfl rfl ?_
            refine G_hn (H' := [(kg036 t1), kg035, (kg031 a167 label2)]) rfl rfl rfl (fun _ => rfl) ?_
            refine G_nil ?_
            refine L_nil ?_
            exact Sm_norm (e2 := (kg040 label2)) (H1 := [(kg036 t1), kg035, (kg031 a167 label2)]) (H2 := [(kg036 t1), kg035, (kg031 a167 label2)]) rfl (by repeat (first | exact rzz | apply rcc rfl | apply rnn rfl)) rfl ⟨label2, rfl, rfl, hr⟩
          · refine L_F rfl hc25 ?_
            refine L_skip ?_
            refine L_nil ?_
            exact Sm_norm (e2 := (kg040 label2)) (H1 := [(kg036 t1), kg035, (kg034 a167)]) (H2 := [(kg036 t1), kg035, (kg034 a167)]) rfl (by repeat (first | exact rzz | apply rcc rfl | apply rnn rfl)) rfl ⟨0, rfl, rfl, hr⟩
        · rintro a169 hr
          show GL _ _ (kg040 label2) [(kg036 t1), kg035, (kg032 a167 a169)] _
          replace hr : g_r07_To_j11 rec_To rec_From t1 label2 a167 a169 = some r := hr
          unfold g_r07_To_j11 at hr
          refine L_reg ?_
          refine G_p rfl rfl rfl ?_
          refine G_p rfl rfl rfl ?_
          refine G_p rfl rfl rfl ?_
          refine G_nil ?_
          refine L_nil ?_
          refine Blk_norm (?_ : GL _ _ _ _ _)
          refine L_nil ?_
          refine Sm_norm (e2 := [(1, .int .i64 label2), (2, .ptr 0 0), (4, .ptr 1 0), (5, .ptr 2 0), (6, .int .i64 4), (7, .int .i64 1)]) (H1 := [(kg036 t1), kg035, (kg032 a167 a169)]) (H2 := [(kg036 t1), kg035, (kg032 a167 a169)]) rfl (by repeat (first | exact rzz | apply rcc rfl | apply rnn rfl)) rfl (?_ : GL _ _ _ _ _)
          refine L_reg ?_
          refine G_p rfl rfl rfl ?_
          refine G_p rfl rfl rfl ?_
          refine G_p rfl rfl rfl ?_
          refine G_nil ?_
          refine L_nil ?_
          refine Rd_norm ?_
          refine L_round (e1 := [(6, .int .i64 4), (7, .int .i64 2), (1, .int .i64 label2), (2, .ptr 0 0), (4, .ptr 1 0), (5, .ptr 2 0)]) (H1 := [(kg036 t1), kg035, (kg032 a167 a169)]) (by repeat (first | exact rzz | apply rcc rfl | apply rnn rfl)) rfl ?_
          refine L_seq ?_
          refine L_stmt ?_
          refine L_seq ?_
          refine L_stmt ?_
          refine L_reg ?_
          refine G_p rfl rfl rfl ?_
          refine G_p rfl rfl rfl ?_
          refine G_nil ?_
          refine L_nil ?_
          refine Sm_norm (e2 := [(1, .int .i64 label2), (2, .ptr 0 0), (4, .ptr 1 0), (5, .ptr 2 0), (6, .int .i64 4), (7, .int .i64 2), (17, .bool true)]) (H1 := [(kg036 t1), kg035, (kg032 a167 a169)]) (H2 := [(kg036 t1), kg035, (kg032 a167 a169)]) rfl (by repeat (first | exact rzz | apply rcc rfl | apply rnn rfl)) rfl (?_ : GL _ _ _ _ _)
          refine L_T rfl rfl ?_
          refine L_skip ?_
          refine L_nil ?_
          refine Sm_norm (e2 := (kg041 label2)) (H1 := [(kg036 t1), kg035, (kg032 a167 a169)]) (H2 := [(kg036 t1), kg035, (kg032 a167 a169)]) rfl (by repeat (first | exact rzz | apply rcc rfl | apply rnn rfl)) rfl (?_ : GL _ _ _ _ _)
          refine L_seq ?_
          refine L_stmt ?_
          refine L_block ?_
          refine L_seq ?_
          refine L_stmtJ (S := Int) (fun s => (kg041 label2)) (fun s => [(kg036 t1), kg035, .cells [.int .i64 a167, .int .i64 a169, .int .i64 s, .int .i64 0, .int .i64 0, .int .i64 0, .int .i64 0, .int .i64 0, .lst [] true, .int .i64 0, .int .i64 0, .lst [] true]]) (fun s => g_r07_To_j10 rec_To rec_From t1 label2 a167 a169 s = some r) ?_ ?_
          · skip
            refine L_seq ?_
            refine L_stmt ?_
            refine L_reg ?_
            refine G_p rfl rfl rfl ?_
            refine G_h rfl rfl rfl (fun _ => rfl) ?_
            refine G_p rfl rfl rfl ?_
            refine G_p rfl rfl (evP_quo rfl rfl (if_neg (by decide))) ?_
            refine G_p rfl rfl (evP_rem rfl rfl (if_neg (by decide))) ?_
            refine G_p rfl rfl rfl ?_
            refine G_nil ?_
            refine L_nil ?_
            refine Sm_norm (e2 := [(1, .int .i64 label2), (2, .ptr 0 0), (4, .ptr 1 0), (5, .ptr 2 0), (6, .int .i64 4), (7, .int .i64 2), (25, .bool (decide ((Int.tmod (IntKind.wrap .i64 (Int.tdiv t1.flat 4)) 2) = 0)))]) (H1 := [(kg036 t1), kg035, (kg032 a167 a169)]) (H2 := [(kg036 t1), kg035, (kg032 a167 a169)]) rfl (by repeat (first | exact rzz | apply rcc rfl | apply rnn rfl)) rfl (?_ : GL _ _ _ _ _)
            rcases cond_s hr with ⟨hc25, hr⟩ | ⟨hc25, hr⟩
            · refine L_T rfl hc25 ?_
              refine L_reg ?_
              refine G_p rfl rfl rfl ?_
              refine G_p rfl rfl rfl ?_
              refine G_p rfl rfl rfl ?_
              refine G_p rfl rfl rfl ?_
              refine G_hn (H' := [(kg036 t1), kg035, (kg029 a167 a169 label2)]) rfl rfl rfl (fun _ => rfl) ?_
              refine G_nil ?_
              refine L_nil ?_
              exact Sm_norm (e2 := (kg041 label2)) (H1 := [(kg036 t1), kg035, (kg029 a167 a169 label2)]) (H2 := [(kg036 t1), kg035, (kg029 a167 a169 label2)]) rfl (by repeat (first | exact rzz | apply rcc rfl | apply rnn rfl)) rfl ⟨label2, rfl, rfl, hr⟩
            · refine L_F rfl hc25 ?_
              refine L_skip ?_
              refine L_nil ?_
              exact Sm_norm (e2 := (kg041 label2)) (H1 := [(kg036 t1), kg035, (kg032 a167 a169)]) (H2 := [(kg036 t1), kg035, (kg032 a167 a169)]) rfl (by repeat (first | exact rzz | apply rcc rfl | apply rnn rfl)) rfl ⟨0, rfl, rfl, hr⟩
          · rintro a171 hr
            show GL _ _ (kg041 label2) [(kg036 t1), kg035, (kg030 a167 a169 a171)] _
            replace hr : g_r07_To_j10 rec_To rec_From t1 label2 a167 a169 a171 = some r := hr
            unfold g_r07_To_j10 at hr
            refine L_reg ?_
            refine G_p rfl rfl rfl ?_
            refine G_p rfl rfl rfl ?_
            refine G_p rfl rfl rfl ?_
            refine G_nil ?_
            refine L_nil ?_
            refine Blk_norm (?_ : GL _ _ _ _ _)
            refine L_nil ?_
            refine Sm_norm (e2 := [(1, .int .i64 label2), (2, .ptr 0 0), (4, .ptr 1 0), (5, .ptr 2 0), (6, .int .i64 8), (7, .int .i64 2)]) (H1 := [(kg036 t1), kg035, (kg030 a167 a169 a171)]) (H2 := [(kg036 t1), kg035, (kg030 a167 a169 a171)]) rfl (by repeat (first | exact rzz | apply rcc rfl | apply rnn rfl)) rfl (?_ : GL _ _ _ _ _)
            refine L_reg ?_
            refine G_p rfl rfl rfl ?_
            refine G_p rfl rfl rfl ?_
            refine G_p rfl rfl rfl ?_
            refine G_nil ?_
            refine L_nil ?_
            refine Rd_norm ?_
            refine L_round (e1 := [(6, .int .i64 8), (7, .int .i64 3), (1, .int .i64 label2), (2, .ptr 0 0), (4, .ptr 1 0), (5, .ptr 2 0)]) (H1 := [(kg036 t1), kg035, (kg030 a167 a169 a171)]) (by repeat (first | exact rzz | apply rcc rfl | apply rnn rfl)) rfl ?_
            refine L_seq ?_
            refine L_stmt ?_
            refine L_seq ?_
            refine L_stmt ?_
            refine L_reg ?_
            refine G_p rfl rfl rfl ?_
            refine G_p rfl rfl rfl ?_
            refine G_nil ?_
            refine L_nil ?_
            refine Sm_norm (e2 := [(1, .int .i64 label2), (2, .ptr 0 0), (4, .ptr 1 0), (5, .ptr 2 0), (6, .int .i64 8), (7, .int .i64 3), (17, .bool true)]) (H1 := [(kg036 t1), kg035, (kg030 a167 a169 a171)]) (H2 := [(kg036 t1), kg035, (kg030 a167 a169 a171)]) rfl (by repeat (first | exact rzz | apply rcc rfl | apply rnn rfl)) rfl (?_ : GL _ _ _ _ _)
            refine L_T rfl rfl ?_
            refine L_skip ?_
            refine L_nil ?_
            refine Sm_norm (e2 := (kg042 label2)) (H1 := [(kg036 t1), kg035, (kg030 a167 a169 a171)]) (H2 := [(kg036 t1), kg035, (kg030 a167 a169 a171)]) rfl (by repeat (first | exact rzz | apply rcc rfl | apply rnn rfl)) rfl (?_ : GL _ _ _ _ _)
            refine L_seq ?_
            refine L_stmt ?_
            refine L_block ?_
            refine L_seq ?_
            refine L_stmtJ (S := Int) (fun s => (kg042 label2)) (fun s => [(kg036 t1), kg035, .cells [.int .i64 a167, .int .i64 a169, .int .i64 a171, .int .i64 s, .int .i64 0, .int .i64 0, .int .i64 0, .int .i64 0, .lst [] true, .int .i64 0, .int .i64 0, .lst [] true]]) (fun s => g_r07_To_j9 rec_To rec_From t1 label2 a167 a169 a171 s = some r) ?_ ?_
            · skip
              refine L_seq ?_
              refine L_stmt ?_
              refine L_reg ?_
              refine G_p rfl rfl rfl ?_
              refine G_h rfl rfl rfl (fun _ => rfl) ?_
              refine G_p rfl rfl rfl ?_
              refine G_p rfl rfl (evP_quo rfl rfl (if_neg (by decide))) ?_
              refine G_p rfl rfl (evP_rem rfl rfl (if_neg (by decide))) ?_
              refine G_p rfl rfl rfl ?_
              refine G_nil ?_
              refine L_nil ?_
              refine Sm_norm (e2 := [(1, .int .i64 label2), (2, .ptr 0 0), (4, .ptr 1 0), (5, .ptr 2 0), (6, .int .i64 8), (7, .int .i64 3), (25, .bool (decide ((Int.tmod (IntKind.wrap .i64 (Int.tdiv t1.flat 8)) 2) = 0)))]) (H1 := [(kg036 t1), kg035, (kg030 a167 a169 a171)]) (H2 := [(kg036 t1), kg035, (kg030 a167 a169 a171)]) rfl (by repeat (first | exact rzz | apply rcc rfl | apply rnn rfl)) rfl (?_ : GL _ _ _ _ _)
              rcases cond_s hr with ⟨hc25, hr⟩ | ⟨hc25, hr⟩
              · refine L_T rfl hc25 ?_
                refine L_reg ?_
                refine G_p rfl rfl rfl ?_
                refine G_p rfl rfl rfl ?_
                refine G_p rfl rfl rfl ?_
                refine G_p rfl rfl rfl ?_
                refine G_hn (H' := [(kg036 t1), kg035, (kg022 a167 a169 a171 label2)]) rfl rfl rfl (fun _ => rfl) ?_
                refine G_nil ?_
                refine L_nil ?_
                exact Sm_norm (e2 := (kg042 label2)) (H1 := [(kg036 t1), kg035, (kg022 a167 a169 a171 label2)]) (H2 := [(kg036 t1), kg035, (kg022 a167 a169 a171 label2)]) rfl (by repeat (first | exact rzz | apply rcc rfl | apply rnn rfl)) rfl ⟨label2, rfl, rfl, hr⟩
              · refine L_F rfl hc25 ?_
                refine L_skip ?_
                refine L_nil ?_
                exact Sm_norm (e2 := (kg042 label2)) (H1 := [(kg036 t1), kg035, (kg030 a167 a169 a171)]) (H2 := [(kg036 t1), kg035, (kg030 a167 a169 a171)]) rfl (by repeat (first | exact rzz | apply rcc rfl | apply rnn rfl)) rfl ⟨0, rfl, rfl, hr⟩
            · rintro a173 hr
              show GL _ _ (kg042 label2) [(kg036 t1), kg035, (kg024 a167 a169 a171 a173)] _
              replace hr : g_r07_To_j9 rec_To rec_From t1 label2 a167 a169 a171 a173 = some r := hr
              unfold g_r07_To_j9 at hr
              refine L_reg ?_
              refine G_p rfl rfl rfl ?_
              refine G_p rfl rfl rfl ?_
              refine G_p rfl rfl rfl ?_
              refine G_nil ?_
              refine L_nil ?_
              refine Blk_norm (?_ : GL _ _ _ _ _)
              refine L_nil ?_
              refine Sm_norm (e2 := [(1, .int .i64 label2), (2, .ptr 0 0), (4, .ptr 1 0), (5, .ptr 2 0), (6, .int .i64 16), (7, .int .i64 3)]) (H1 := [(kg036 t1), kg035, (kg024 a167 a169 a171 a173)]) (H2 := [(kg036 t1), kg035, (kg024 a167 a169 a171 a173)]) rfl (by repeat (first | exact rzz | apply rcc rfl | apply rnn rfl)) rfl (?_ : GL _ _ _ _ _)
              refine L_reg ?_
              refine G_p rfl rfl rfl ?_
              refine G_p rfl rfl rfl ?_
              refine G_p rfl rfl rfl ?_
              refine G_nil ?_
              refine L_nil ?_
              refine Rd_norm ?_
              refine L_round (e1 := [(6, .int .i64 16), (7, .int .i64 4), (1, .int .i64 label2), (2, .ptr 0 0), (4, .ptr 1 0), (5, .ptr 2 0)]) (H1 := [(kg036 t1), kg035, (kg024 a167 a169 a171 a173)]) (by repeat (first | exact rzz | apply rcc rfl | apply rnn rfl)) rfl ?_
              refine L_seq ?_
              refine L_stmt ?_
              refine L_seq ?_
              refine L_stmt ?_
              refine L_reg ?_
              refine G_p rfl rfl rfl ?_
              refine G_p rfl rfl rfl ?_
              refine G_nil ?_
              refine L_nil ?_
              refine Sm_norm (e2 := [(1, .int .i64 label2), (2, .ptr 0 0), (4, .ptr 1 0), (5, .ptr 2 0), (6, .int .i64 16), (7, .int .i64 4), (17, .bool true)]) (H1 := [(kg036 t1), kg035, (kg024 a167 a169 a171 a173)]) (H2 := [(kg036 t1), kg035, (kg024 a167 a169 a171 a173)]) rfl (by repeat (first | exact rzz | apply rcc rfl | apply rnn rfl)) rfl (?_ : GL _ _ _ _ _)
              refine L_T rfl rfl ?_
              refine L_skip ?_
              refine L_nil ?_
              refine Sm_norm (e2 := (kg037 label2)) (H1 := [(kg036 t1), kg035, (kg024 a167 a169 a171 a173)]) (H2 := [(kg036 t1), kg035, (kg024 a167 a169 a171 a173)]) rfl (by repeat (first | exact rzz | apply rcc rfl | apply rnn rfl)) rfl (?_ : GL _ _ _ _ _)
              refine L_seq ?_
              refine L_stmt ?_
              refine L_block ?_
              refine L_seq ?_
              refine L_stmtJ (S := Int) (fun s => (kg037 label2)) (fun s => [(kg036 t1), kg035, .cells [.int .i64 a167, .int .i64 a169, .int .i64 a171, .int .i64 a173, .int .i64 s, .int .i64 0, .int .i64 0, .int .i64 0, .lst [] true, .int .i64 0, .int .i64 0, .lst [] true]]) (fun s => g_r07_To_j8 rec_To rec_From t1 label2 a167 a169 a171 a173 s = some r) ?_ ?_
              · skip
                refine L_seq ?_
                refine L_stmt ?_
                refine L_reg ?_
                refine G_p rfl rfl rfl ?_
                refine G_h rfl rfl rfl (fun _ => rfl) ?_
                refine G_p rfl rfl rfl ?_
                refine G_p rfl rfl (evP_quo rfl rfl (if_neg (by decide))) ?_
                refine G_p rfl rfl (evP_rem rfl rfl (if_neg (by decide))) ?_
                refine G_p rfl rfl rfl ?_
                refine G_nil ?_
                refine L_nil ?_
                refine Sm_norm (e2 := [(1, .int .i64 label2), (2, .ptr 0 0), (4, .ptr 1 0), (5, .ptr 2 0), (6, .int .i64 16), (7, .int .i64 4), (25, .bool (decide ((Int.tmod (IntKind.wrap .i64 (Int.tdiv t1.flat 16)) 2) = 0)))]) (H1 := [(kg036 t1), kg035, (kg024 a167 a169 a171 a173)]) (H2 := [(kg036 t1), kg035, (kg024 a167 a169 a171 a173)]) rfl (by repeat (first | exact rzz | apply rcc rfl | apply rnn rfl)) rfl (?_ : GL _ _ _ _ _)
                rcases cond_s hr with ⟨hc25, hr⟩ | ⟨hc25, hr⟩
                · refine L_T rfl hc25 ?_
                  refine L_reg ?_
                  refine G_p rfl rfl rfl ?_
                  refine G_p rfl rfl rfl ?_
                  refine G_p rfl rfl rfl ?_
                  refine G_p rfl rfl rfl ?_
                  refine G_hn (H' := [(kg036 t1), kg035, (kg019 a167 a169 a171 a173 label2)]) rfl rfl rfl (fun _ => rfl) ?_
                  refine G_nil ?_
                  refine L_nil ?_
                  exact Sm_norm (e2 := (kg037 label2)) (H1 := [(kg036 t1), kg035, (kg019 a167 a169 a171 a173 label2)]) (H2 := [(kg036 t1), kg035, (kg019 a167 a169 a171 a173 label2)]) rfl (by repeat (first | exact rzz | apply rcc rfl | apply rnn rfl)) rfl ⟨label2, rfl, rfl, hr⟩
                · refine L_F rfl hc25 ?_
                  refine L_skip ?_
                  refine L_nil ?_
                  exact Sm_norm (e2 := (kg037 label2)) (H1 := [(kg036 t1), kg035, (kg024 a167 a169 a171 a173)]) (H2 := [(kg036 t1), kg035, (kg024 a167 a169 a171 a173)]) rfl (by repeat (first | exact rzz | apply rcc rfl | apply rnn rfl)) rfl ⟨0, rfl, rfl, hr⟩
              · rintro a175 hr
                show GL _ _ (kg037 label2) [(kg036 t1), kg035, (kg021 a167 a169 a171 a173 a175)] _
                replace hr : g_r07_To_j8 rec_To rec_From t1 label2 a167 a169 a171 a173 a175 = some r := hr
                unfold g_r07_To_j8 at hr
                refine L_reg ?_
                refine G_p rfl rfl rfl ?_
                refine G_p rfl rfl rfl ?_
                refine G_p rfl rfl rfl ?_
                refine G_nil ?_
                refine L_nil ?_
                refine Blk_norm (?_ : GL _ _ _ _ _)
                refine L_nil ?_
                refine Sm_norm (e2 := [(1, .int .i64 label2), (2, .ptr 0 0), (4, .ptr 1 0), (5, .ptr 2 0), (6, .int .i64 32), (7, .int .i64 4)]) (H1 := [(kg036 t1), kg035, (kg021 a167 a169 a171 a173 a175)]) (H2 := [(kg036 t1), kg035, (kg021 a167 a169 a171 a173 a175)]) rfl (by repeat (first | exact rzz | apply rcc rfl | apply rnn rfl)) rfl (?_ : GL _ _ _ _ _)
                refine L_reg ?_
                refine G_p rfl rfl rfl ?_
                refine G_p rfl rfl rfl ?_
                refine G_p rfl rfl rfl ?_
                refine G_nil ?_
                refine L_nil ?_
                refine Rd_norm ?_
                refine L_round (e1 := [(6, .int .i64 32), (7, .int .i64 5), (1, .int .i64 label2), (2, .ptr 0 0), (4, .ptr 1 0), (5, .ptr 2 0)]) (H1 := [(kg036 t1), kg035, (kg021 a167 a169 a171 a173 a175)]) (by repeat (first | exact rzz | apply rcc rfl | apply rnn rfl)) rfl ?_
                refine L_seq ?_
                refine L_stmt ?_
                refine L_seq ?_
                refine L_stmt ?_
                refine L_reg ?_
                refine G_p rfl rfl rfl ?_
                refine G_p rfl rfl rfl ?_
                refine G_nil ?_
                refine L_nil ?_
                refine Sm_norm (e2 := [(1, .int .i64 label2), (2, .ptr 0 0), (4, .ptr 1 0), (5, .ptr 2 0), (6, .int .i64 32), (7, .int .i64 5), (17, .bool true)]) (H1 := [(kg036 t1), kg035, (kg021 a167 a169 a171 a173 a175)]) (H2 := [(kg036 t1), kg035, (kg021 a167 a169 a171 a173 a175)]) rfl (by repeat (first | exact rzz | apply rcc rfl | apply rnn rfl)) rfl (?_ : GL _ _ _ _ _)
                refine L_T rfl rfl ?_
                refine L_skip ?_
                refine L_nil ?_
                refine Sm_norm (e2 := (kg038 label2)) (H1 := [(kg036 t1), kg035, (kg021 a167 a169 a171 a173 a175)]) (H2 := [(kg036 t1), kg035, (kg021 a167 a169 a171 a173 a175)]) rfl (by repeat (first | exact rzz | apply rcc rfl | apply rnn rfl)) rfl (?_ : GL _ _ _ _ _)
                refine L_seq ?_
                refine L_stmt ?_
                refine L_block ?_
                refine L_seq ?_
                refine L_stmtJ (S := Int) (fun s => (kg038 label2)) (fun s => [(kg036 t1), kg035, .cells [.int .i64 a167, .int .i64 a169, .int .i64 a171, .int .i64 a173, .int .i64 a175, .int .i64 s, .int .i64 0, .int .i64 0, .lst [] true, .int .i64 0, .int .i64 0, .lst [] true]]) (fun s => g_r07_To_j7 rec_To rec_From t1 label2 a167 a169 a171 a173 a175 s = some r) ?_ ?_
                · skip
                  refine L_seq ?_
                  refine L_stmt ?_
                  refine L_reg ?_
                  refine G_p rfl rfl rfl ?_
                  refine G_h rfl rfl rfl (fun _ => rfl) ?_
                  refine G_p rfl rfl rfl ?_
                  refine G_p rfl rfl (evP_quo rfl rfl (if_neg (by decide))) ?_
                  refine G_p rfl rfl (evP_rem rfl rfl (if_neg (by decide))) ?_
                  refine G_p rfl rfl rfl ?_
                  refine G_nil ?_
                  refine L_nil ?_
                  refine Sm_norm (e2 := [(1, .int .i64 label2), (2, .ptr 0 0), (4, .ptr 1 0), (5, .ptr 2 0), (6, .int .i64 32), (7, .int .i64 5), (25, .bool (decide ((Int.tmod (IntKind.wrap .i64 (Int.tdiv t1.flat 32)) 2) = 0)))]) (H1 := [(kg036 t1), kg035, (kg021 a167 a169 a171 a173 a175)]) (H2 := [(kg036 t1), kg035, (kg021 a167 a169 a171 a173 a175)]) rfl (by repeat (first | exact rzz | apply rcc rfl | apply rnn rfl)) rfl (?_ : GL _ _ _ _ _)
                  rcases cond_s hr with ⟨hc25, hr⟩ | ⟨hc25, hr⟩
                  · refine L_T rfl hc25 ?_
                    refine L_reg ?_
                    refine G_p rfl rfl rfl ?_
                    refine G_p rfl rfl rfl ?_
                    refine G_p rfl rfl rfl ?_
                    refine G_p rfl rfl rfl ?_
                    refine G_hn (H' := [(kg036 t1), kg035, (kg017 a167 a169 a171 a173 a175 label2)]) rfl rfl rfl (fun _ => rfl) ?_
                    refine G_nil ?_
                    refine L_nil ?_
                    exact Sm_norm (e2 := (kg038 label2)) (H1 := [(kg036 t1), kg035, (kg017 a167 a169 a171 a173 a175 label2)]) (H2 := [(kg036 t1), kg035, (kg017 a167 a169 a171 a173 a175 label2)]) rfl (by repeat (first | exact rzz | apply rcc rfl | apply rnn rfl)) rfl ⟨label2, rfl, rfl, hr⟩
                  · refine L_F rfl hc25 ?_
                    refine L_skip ?_
                    refine L_nil ?_
                    exact Sm_norm (e2 := (kg038 label2)) (H1 := [(kg036 t1), kg035, (kg021 a167 a169 a171 a173 a175)]) (H2 := [(kg036 t1), kg035, (kg021 a167 a169 a171 a173 a175)]) rfl (by repeat (first | exact rzz | apply rcc rfl | apply rnn rfl)) rfl ⟨0, rfl, rfl, hr⟩
                · rintro a177 hr
                  show GL _ _ (kg038 label2) [(kg036 t1), kg035, (kg018 a167 a169 a171 a173 a175 a177)] _
                  replace hr : g_r07_To_j7 rec_To rec_From t1 label2 a167 a169 a171 a173 a175 a177 = some r := hr
                  unfold g_r07_To_j7 at hr
                  refine L_reg ?_
                  refine G_p rfl rfl rfl ?_
                  refine G_p rfl rfl rfl ?_
                  refine G_p rfl rfl rfl ?_
                  refine G_nil ?_
                  refine L_nil ?_
                  refine Blk_norm (?_ : GL _ _ _ _ _)
                  refine L_nil ?_
                  refine Sm_norm (e2 := [(1, .int .i64 label2), (2, .ptr 0 0), (4, .ptr 1 0), (5, .ptr 2 0), (6, .int .i64 64), (7, .int .i64 5)]) (H1 := [(kg036 t1), kg035, (kg018 a167 a169 a171 a173 a175 a177)]) (H2 := [(kg036 t1), kg035, (kg018 a167 a169 a171 a173 a175 a177)]) rfl (by repeat (first | exact rzz | apply rcc rfl | apply rnn rfl)) rfl (?_ : GL _ _ _ _ _)
                  refine L_reg ?_
                  refine G_p rfl rfl rfl ?_
                  refine G_p rfl rfl rfl ?_
                  refine G_p rfl rfl rfl ?_
                  refine G_nil ?_
                  refine L_nil ?_
                  refine Rd_norm ?_
                  refine L_round (e1 := [(6, .int .i64 64), (7, .int .i64 6), (1, .int .i64 label2), (2, .ptr 0 0), (4, .ptr 1 0), (5, .ptr 2 0)]) (H1 := [(kg036 t1), kg035, (kg018 a167 a169 a171 a173 a175 a177)]) (by repeat (first | exact rzz | apply rcc rfl | apply rnn rfl)) rfl ?_
                  refine L_seq ?_
                  refine L_stmt ?_
                  refine L_seq ?_
                  refine L_stmt ?_
                  refine L_reg ?_
                  refine G_p rfl rfl rfl ?_
                  refine G_p rfl rfl rfl ?_
                  refine G_nil ?_
                  refine L_nil ?_
                  refine Sm_norm (e2 := [(1, .int .i64 label2), (2, .ptr 0 0), (4, .ptr 1 0), (5, .ptr 2 0), (6, .int .i64 64), (7, .int .i64 6), (17, .bool false)]) (H1 := [(kg036 t1), kg035, (kg018 a167 a169 a171 a173 a175 a177)]) (H2 := [(kg036 t1), kg035, (kg018 a167 a169 a171 a173 a175 a177)]) rfl (by repeat (first | exact rzz | apply rcc rfl | apply rnn rfl)) rfl (?_ : GL _ _ _ _ _)
                  refine L_F rfl rfl ?_
                  refine L_exit ?_
                  refine Sm_exit ?_
                  refine Rd_exit ?_
                  refine Blk_exit (?_ : GL _ _ _ _ _)
                  refine L_nil ?_
                  exact Sm_norm (e2 := [(1, .int .i64 label2), (2, .ptr 0 0), (4, .ptr 1 0), (5, .ptr 2 0)]) (H1 := [(kg036 t1), kg035, (kg018 a167 a169 a171 a173 a175 a177)]) (H2 := [(kg036 t1), kg035, (kg018 a167 a169 a171 a173 a175 a177)]) rfl (by repeat (first | exact rzz | apply rcc rfl | apply rnn rfl)) rfl ⟨(a167, a169, a171, a173, a175, a177), rfl, rfl, hr⟩
    · rintro ⟨a27, a28, a29, a30, a31, a32⟩ hr
      show GL _ _ [(1, .int .i64 label2), (2, .ptr 0 0), (4, .ptr 1 0), (5, .ptr 2 0)] [(kg036 t1), kg035, (kg025 a27 a28 a29 a30 a31 a32)] _
      replace hr : g_r07_To_j6 rec_To rec_From t1 label2 a27 a28 a29 a30 a31 a32 = some r := hr
      unfold g_r07_To_j6 at hr
      refine L_seq ?_
      refine L_stmtJ (S := Int × Int × List Co) (fun s => [(1, .int .i64 label2), (2, .ptr 0 0), (4, .ptr 1 0), (5, .ptr 2 0)]) (fun s => [(kg036 t1), kg035, .cells [.int .i64 a27, .int .i64 a28, .int .i64 a29, .int .i64 a30, .int .i64 a31, .int .i64 a32, .int .i64 s.1, .int .i64 s.2.1, .lst (List.map encC s.2.2) false, .int .i64 0, .int .i64 0, .lst [] true]]) (fun s => g_r07_To_j5 rec_To rec_From t1 label2 a27 a28 a29 a30 a31 a32 s.1 s.2.1 s.2.2 = some r) ?_ ?_
      · skip
        refine L_seq ?_
        refine L_stmt ?_
        refine L_reg ?_
        refine G_p rfl rfl rfl ?_
        refine G_h rfl rfl rfl (fun _ => rfl) ?_
        refine G_nil ?_
        refine L_nil ?_
        refine Sm_norm (e2 := [(1, .int .i64 label2), (2, .ptr 0 0), (4, .ptr 1 0), (5, .ptr 2 0), (33, .int .i64 t1.pair)]) (H1 := [(kg036 t1), kg035, (kg025 a27 a28 a29 a30 a31 a32)]) (H2 := [(kg036 t1), kg035, (kg025 a27 a28 a29 a30 a31 a32)]) rfl (by repeat (first | exact rzz | apply rcc rfl | apply rnn rfl)) rfl (?_ : GL _ _ _ _ _)
        refine L_block ?_
        refine L_seq ?_
        refine L_stmt ?_
        refine L_reg ?_
        refine G_p rfl rfl rfl ?_
        refine G_p rfl rfl rfl ?_
        refine G_nil ?_
        refine L_nil ?_
        refine Sm_norm (e2 := [(1, .int .i64 label2), (2, .ptr 0 0), (4, .ptr 1 0), (5, .ptr 2 0), (33, .int .i64 t1.pair), (34, .bool (decide (t1.pair = 0)))]) (H1 := [(kg036 t1), kg035, (kg025 a27 a28 a29 a30 a31 a32)]) (H2 := [(kg036 t1), kg035, (kg025 a27 a28 a29 a30 a31 a32)]) rfl (by repeat (first | exact rzz | apply rcc rfl | apply rnn rfl)) rfl (?_ : GL _ _ _ _ _)
        rcases cond_s hr with ⟨hc34, hr⟩ | ⟨hc34, hr⟩
        · refine L_T rfl hc34 ?_
          refine L_seq ?_
          refine L_stmt ?_
          refine L_reg ?_
          refine G_p rfl rfl rfl ?_
          refine G_hn (H' := [(kg036 t1), kg035, (kg026 a27 a28 a29 a30 a31 a32)]) rfl rfl rfl (fun _ => rfl) ?_
          refine G_nil ?_
          refine L_nil ?_
          refine Sm_norm (e2 := [(1, .int .i64 label2), (2, .ptr 0 0), (4, .ptr 1 0), (5, .ptr 2 0)]) (H1 := [(kg036 t1), kg035, (kg026 a27 a28 a29 a30 a31 a32)]) (H2 := [(kg036 t1), kg035, (kg026 a27 a28 a29 a30 a31 a32)]) rfl (by repeat (first | exact rzz | apply rcc rfl | apply rnn rfl)) rfl (?_ : GL _ _ _ _ _)
          refine L_reg ?_
          refine G_p rfl rfl rfl ?_
          refine G_p rfl rfl rfl ?_
          refine G_hn (H' := [(kg036 t1), kg035, .cells [.int .i64 a27, .int .i64 a28, .int .i64 a29, .int .i64 a30, .int .i64 a31, .int .i64 a32, .int .i64 1, .int .i64 label2, .lst [] true, .int .i64 0, .int .i64 0, .lst [] true]]) rfl rfl rfl (fun _ => rfl) ?_
          refine G_nil ?_
          refine L_nil ?_
          refine Blk_norm (?_ : GL _ _ _ _ _)
          refine L_nil ?_
          exact Sm_norm (e2 := [(1, .int .i64 label2), (2, .ptr 0 0), (4, .ptr 1 0), (5, .ptr 2 0)]) (H1 := [(kg036 t1), kg035, .cells [.int .i64 a27, .int .i64 a28, .int .i64 a29, .int .i64 a30, .int .i64 a31, .int .i64 a32, .int .i64 1, .int .i64 label2, .lst [] false, .int .i64 0, .int .i64 0, .lst [] true]]) (H2 := [(kg036 t1), kg035, .cells [.int .i64 a27, .int .i64 a28, .int .i64 a29, .int .i64 a30, .int .i64 a31, .int .i64 a32, .int .i64 1, .int .i64 label2, .lst (List.map encC []) false, .int .i64 0, .int .i64 0, .lst [] true]]) (frz_c (frz_lstC (H2 := [(kg036 t1), kg035, .cells [.int .i64 a27, .int .i64 a28, .int .i64 a29, .int .i64 a30, .int .i64 a31, .int .i64 a32, .int .i64 1, .int .i64 label2, .lst [] false, .int .i64 0, .int .i64 0, .lst [] true]]) rfl rfl rfl rfl) rfl) (by repeat (first | exact rzz | apply rcc rfl | apply rnn rfl)) rfl ⟨(1, label2, []), rfl, rfl, hr⟩
        · refine L_F rfl hc34 ?_
          refine L_seq ?_
          refine L_stmt ?_
          refine L_reg ?_
          refine G_p rfl rfl rfl ?_
          refine G_p rfl rfl rfl ?_
          refine G_nil ?_
          refine L_nil ?_
          refine Sm_norm (e2 := [(1, .int .i64 label2), (2, .ptr 0 0), (4, .ptr 1 0), (5, .ptr 2 0), (33, .int .i64 t1.pair), (39, .bool (decide (t1.pair = 1)))]) (H1 := [(kg036 t1), kg035, (kg025 a27 a28 a29 a30 a31 a32)]) (H2 := [(kg036 t1), kg035, (kg025 a27 a28 a29 a30 a31 a32)]) rfl (by repeat (first | exact rzz | apply rcc rfl | apply rnn rfl)) rfl (?_ : GL _ _ _ _ _)
          rcases cond_s hr with ⟨hc39, hr⟩ | ⟨hc39, hr⟩
          · refine L_T rfl hc39 ?_
            refine L_seq ?_
            refine L_stmt ?_
            refine L_drawT [] rfl ?_
            refine GS_p rfl rfl rfl ?_
            refine GS_h (d := some 42) (v := .lst (List.map encT t1.pairs) false) rfl rfl rfl rfl (fun _ => rfl) ?_
            obtain ⟨e147, he147, hr⟩ := bind_s hr
            refine GS_h (d := some 43) (v := .ro [.bool e147.all, .int .i64 e147.flat, .int .i64 e147.pair, .lst (List.map encT e147.pairs) false, .int .i64 e147.fn, .lst (List.map encT e147.funs) false]) rfl rfl rfl rfl (ia_ev (cells := [.bool e147.all, .int .i64 e147.flat, .int .i64 e147.pair, .lst (List.map encT e147.pairs) false, .int .i64 e147.fn, .lst (List.map encT e147.funs) false]) rfl rfl (idx_s he147).1 (map_get (x := e147) (idx_s he147).2) (encT_flat _) rfl) ?_
            refine GS_h (d := some 44) (v := .agg (cT e147)) rfl rfl rfl rfl (fun _ => rfl) ?_
            refine GS_p rfl rfl rfl ?_
            obtain ⟨r148, hr148, hr⟩ := bind_s hr
            refine GS_c 13 rfl rfl rfl (CA_of (as := [.agg (cT e147), .int .i64 label2]) rfl (hrec_To _ _ _ hr148)) ?_
            refine GS_p rfl rfl rfl ?_
            refine GS_h (d := some 48) (v := .lst (List.map encT t1.pairs) false) rfl rfl rfl rfl (fun _ => rfl) ?_
            obtain ⟨e149, he149, hr⟩ := bind_s hr
            refine GS_h (d := some 49) (v := .ro [.bool e149.all, .int .i64 e149.flat, .int .i64 e149.pair, .lst (List.map encT e149.pairs) false, .int .i64 e149.fn, .lst (List.map encT e149.funs) false]) rfl rfl rfl rfl (ia_ev (cells := [.bool e149.all, .int .i64 e149.flat, .int .i64 e149.pair, .lst (List.map encT e149.pairs) false, .int .i64 e149.fn, .lst (List.map encT e149.funs) false]) rfl rfl (idx_s he149).1 (map_get (x := e149) (idx_s he149).2) (encT_flat _) rfl) ?_
            refine GS_h (d := some 50) (v := .agg (cT e149)) rfl rfl rfl rfl (fun _ => rfl) ?_
            refine GS_p rfl rfl rfl ?_
            obtain ⟨r150, hr150, hr⟩ := bind_s hr
            refine GS_c 13 rfl rfl rfl (CA_of (as := [.agg (cT e149), .int .i64 label2]) rfl (hrec_To _ _ _ hr150)) ?_
            refine GS_h (d := some 53) (v := .lst (List.map encC [r148, r150]) true) rfl rfl rfl rfl (fun _ => Eq.trans (b := some (Ex.ok (AVal.lst [.agg (cC r148), .agg (cC r150)] true), _)) rfl (congrArg (fun z => some (Ex.ok (AVal.lst z true), _)) (by first | rfl | (simp only [List.map_cons, List.map_nil, encC_eq] <;> rfl)))) ?_
            refine GS_p (v := .lst (List.map encC [r148, r150]) true) rfl rfl rfl ?_
            refine GS_nil ?_
            refine L_nil ?_
            refine Sm_norm (e2 := [(1, .int .i64 label2), (2, .ptr 0 0), (4, .ptr 1 0), (5, .ptr 2 0), (8, .lst (List.map encC [r148, r150]) false)]) (H1 := [(kg036 t1), kg035, (kg025 a27 a28 a29 a30 a31 a32)]) (H2 := [(kg036 t1), kg035, (kg025 a27 a28 a29 a30 a31 a32)]) (frz_c (frz_lst rfl) rfl) (by repeat (first | exact rzz | apply rcc rfl | apply rnn rfl)) rfl (?_ : GL _ _ _ _ _)
            refine L_seq ?_
            refine L_stmt ?_
            refine L_reg ?_
            refine G_p (v := .lst (List.map encC [r148, r150]) false) rfl rfl rfl ?_
            obtain ⟨r151, hr151, hr⟩ := bind_s hr
            refine G_c 44 rfl rfl (CA_of (as := [.lst (List.map encC [r148, r150]) false]) rfl (g_r07_all_ok hr151)) ?_
            refine G_p rfl rfl rfl ?_
            refine G_nil ?_
            refine L_nil ?_
            refine Sm_norm (e2 := [(1, .int .i64 label2), (2, .ptr 0 0), (4, .ptr 1 0), (5, .ptr 2 0), (8, .lst (List.map encC [r148, r150]) false), (56, .bool (!r151))]) (H1 := [(kg036 t1), kg035, (kg025 a27 a28 a29 a30 a31 a32)]) (H2 := [(kg036 t1), kg035, (kg025 a27 a28 a29 a30 a31 a32)]) rfl (by repeat (first | exact rzz | apply rcc rfl | apply rnn rfl)) rfl (?_ : GL _ _ _ _ _)
            rcases cond_s hr with ⟨hc56, hr⟩ | ⟨hc56, hr⟩
            · refine L_T rfl hc56 ?_
              refine L_seq ?_
              refine L_stmt ?_
              refine L_reg ?_
              refine G_p rfl rfl rfl ?_
              refine G_hn (H' := [(kg036 t1), kg035, (kg027 a27 a28 a29 a30 a31 a32)]) rfl rfl rfl (fun _ => rfl) ?_
              refine G_nil ?_
              refine L_nil ?_
              refine Sm_norm (e2 := [(1, .int .i64 label2), (2, .ptr 0 0), (4, .ptr 1 0), (5, .ptr 2 0), (8, .lst (List.map encC [r148, r150]) false)]) (H1 := [(kg036 t1), kg035, (kg027 a27 a28 a29 a30 a31 a32)]) (H2 := [(kg036 t1), kg035, (kg027 a27 a28 a29 a30 a31 a32)]) rfl (by repeat (first | exact rzz | apply rcc rfl | apply rnn rfl)) rfl (?_ : GL _ _ _ _ _)
              refine L_reg ?_
              refine G_p (v := .lst (List.map encC [r148, r150]) false) rfl rfl rfl ?_
              refine G_p rfl rfl rfl ?_
              refine G_hn (H' := [(kg036 t1), kg035, .cells [.int .i64 a27, .int .i64 a28, .int .i64 a29, .int .i64 a30, .int .i64 a31, .int .i64 a32, .int .i64 2, .int .i64 0, .lst (List.map encC [r148, r150]) false, .int .i64 0, .int .i64 0, .lst [] true]]) rfl rfl rfl (fun _ => rfl) ?_
              refine G_nil ?_
              refine L_nil ?_
              refine Blk_norm (?_ : GL _ _ _ _ _)
              refine L_nil ?_
              exact Sm_norm (e2 := [(1, .int .i64 label2), (2, .ptr 0 0), (4, .ptr 1 0), (5, .ptr 2 0)]) (H1 := [(kg036 t1), kg035, .cells [.int .i64 a27, .int .i64 a28, .int .i64 a29, .int .i64 a30, .int .i64 a31, .int .i64 a32, .int .i64 2, .int .i64 0, .lst (List.map encC [r148, r150]) false, .int .i64 0, .int .i64 0, .lst [] true]]) (H2 := [(kg036 t1), kg035, .cells [.int .i64 a27, .int .i64 a28, .int .i64 a29, .int .i64 a30, .int .i64 a31, .int .i64 a32, .int .i64 2, .int .i64 0, .lst (List.map encC [r148, r150]) false, .int .i64 0, .int .i64 0, .lst [] true]]) (frz_c (frz_lstC (H2 := [(kg036 t1), kg035, .cells [.int .i64 a27, .int .i64 a28, .int .i64 a29, .int .i64 a30, .int .i64 a31, .int .i64 a32, .int .i64 2, .int .i64 0, .lst (List.map encC [r148, r150]) false, .int .i64 0, .int .i64 0, .lst [] true]]) rfl rfl rfl rfl) rfl) (by repeat (first | exact rzz | apply rcc rfl | apply rnn rfl)) rfl ⟨(2, 0, [r148, r150]), rfl, rfl, hr⟩
            · refine L_F rfl hc56 ?_
              refine L_skip ?_
              refine L_nil ?_
              refine Blk_norm (?_ : GL _ _ _ _ _)
              refine L_nil ?_
              exact Sm_norm (e2 := [(1, .int .i64 label2), (2, .ptr 0 0), (4, .ptr 1 0), (5, .ptr 2 0)]) (H1 := [(kg036 t1), kg035, (kg023 a27 a28 a29 a30 a31 a32)]) (H2 := [(kg036 t1), kg035, .cells [.int .i64 a27, .int .i64 a28, .int .i64 a29, .int .i64 a30, .int .i64 a31, .int .i64 a32, .int .i64 0, .int .i64 0, .lst (List.map encC []) false, .int .i64 0, .int .i64 0, .lst [] true]]) (frz_c (frz_lstC (H2 := [(kg036 t1), kg035, (kg023 a27 a28 a29 a30 a31 a32)]) rfl rfl rfl rfl) rfl) (by repeat (first | exact rzz | apply rcc rfl | apply rnn rfl)) rfl ⟨(0, 0, []), rfl, rfl, hr⟩
          · refine L_F rfl hc39 ?_
            refine L_seq ?_
            refine L_stmt ?_
            refine L_reg ?_
            refine G_p rfl rfl rfl ?_
            refine G_p rfl rfl rfl ?_
            refine G_nil ?_
            refine L_nil ?_
            refine Sm_norm (e2 := [(1, .int .i64 label2), (2, .ptr 0 0), (4, .ptr 1 0), (5, .ptr 2 0), (60, .bool (decide (t1.pair = 2)))]) (H1 := [(kg036 t1), kg035, (kg025 a27 a28 a29 a30 a31 a32)]) (H2 := [(kg036 t1), kg035, (kg025 a27 a28 a29 a30 a31 a32)]) rfl (by repeat (first | exact rzz | apply rcc rfl | apply rnn rfl)) rfl (?_ : GL _ _ _ _ _)
            rcases cond_s hr with ⟨hc60, hr⟩ | ⟨hc60, hr⟩
            · refine L_T rfl hc60 ?_
              refine L_seq ?_
              refine L_stmt ?_
              refine L_reg ?_
              refine G_p rfl rfl rfl ?_
              refine G_hn (H' := [(kg036 t1), kg035, (kg028 a27 a28 a29 a30 a31 a32)]) rfl rfl rfl (fun _ => rfl) ?_
              refine G_nil ?_
              refine L_nil ?_
              refine Sm_norm (e2 := [(1, .int .i64 label2), (2, .ptr 0 0), (4, .ptr 1 0), (5, .ptr 2 0)]) (H1 := [(kg036 t1), kg035, (kg028 a27 a28 a29 a30 a31 a32)]) (H2 := [(kg036 t1), kg035, (kg028 a27 a28 a29 a30 a31 a32)]) rfl (by repeat (first | exact rzz | apply rcc rfl | apply rnn rfl)) rfl (?_ : GL _ _ _ _ _)
              refine L_seq ?_
              refine L_stmt ?_
              refine L_reg ?_
              refine G_p rfl rfl rfl ?_
              refine G_p rfl rfl rfl ?_
              refine G_hn (H' := [(kg036 t1), kg035, (kg020 a27 a28 a29 a30 a31 a32 label2)]) rfl rfl rfl (fun _ => rfl) ?_
              refine G_nil ?_
              refine L_nil ?_
              refine Sm_norm (e2 := [(1, .int .i64 label2), (2, .ptr 0 0), (4, .ptr 1 0), (5, .ptr 2 0)]) (H1 := [(kg036 t1), kg035, (kg020 a27 a28 a29 a30 a31 a32 label2)]) (H2 := [(kg036 t1), kg035, (kg020 a27 a28 a29 a30 a31 a32 label2)]) rfl (by repeat (first | exact rzz | apply rcc rfl | apply rnn rfl)) rfl (?_ : GL _ _ _ _ _)
              refine L_reg ?_
              refine G_p rfl rfl rfl ?_
              refine G_h (v := .lst (List.map encT t1.pairs) false) rfl rfl rfl (fun _ => rfl) ?_
              obtain ⟨e152, he152, hr⟩ := bind_s hr
              refine G_h (v := .ro [.bool e152.all, .int .i64 e152.flat, .int .i64 e152.pair, .lst (List.map encT e152.pairs) false, .int .i64 e152.fn, .lst (List.map encT e152.funs) false]) rfl rfl rfl (ia_ev (cells := [.bool e152.all, .int .i64 e152.flat, .int .i64 e152.pair, .lst (List.map encT e152.pairs) false, .int .i64 e152.fn, .lst (List.map encT e152.funs) false]) rfl rfl (idx_s he152).1 (map_get (x := e152) (idx_s he152).2) (encT_flat _) rfl) ?_
              refine G_h (v := .agg (cT e152)) rfl rfl rfl (fun _ => rfl) ?_
              refine G_p rfl rfl rfl ?_
              obtain ⟨r153, hr153, hr⟩ := bind_s hr
              refine G_c 13 rfl rfl (CA_of (as := [.agg (cT e152), .int .i64 label2]) rfl (hrec_To _ _ _ hr153)) ?_
              refine G_h (v := .lst (List.map encC [r153]) true) rfl rfl rfl (fun _ => Eq.trans (b := some (Ex.ok (AVal.lst [.agg (cC r153)] true), _)) rfl (congrArg (fun z => some (Ex.ok (AVal.lst z true), _)) (by first | rfl | (simp only [List.map_cons, List.map_nil, encC_eq] <;> rfl)))) ?_
              refine G_p rfl rfl rfl ?_
              refine G_hn (H' := [(kg036 t1), kg035, .cells [.int .i64 a27, .int .i64 a28, .int .i64 a29, .int .i64 a30, .int .i64 a31, .int .i64 a32, .int .i64 3, .int .i64 label2, .lst (List.map encC [r153]) true, .int .i64 0, .int .i64 0, .lst [] true]]) rfl rfl rfl (fun _ => rfl) ?_
              refine G_nil ?_
              refine L_nil ?_
              refine Blk_norm (?_ : GL _ _ _ _ _)
              refine L_nil ?_
              exact Sm_norm (e2 := [(1, .int .i64 label2), (2, .ptr 0 0), (4, .ptr 1 0), (5, .ptr 2 0)]) (H1 := [(kg036 t1), kg035, .cells [.int .i64 a27, .int .i64 a28, .int .i64 a29, .int .i64 a30, .int .i64 a31, .int .i64 a32, .int .i64 3, .int .i64 label2, .lst (List.map encC [r153]) false, .int .i64 0, .int .i64 0, .lst [] true]]) (H2 := [(kg036 t1), kg035, .cells [.int .i64 a27, .int .i64 a28, .int .i64 a29, .int .i64 a30, .int .i64 a31, .int .i64 a32, .int .i64 3, .int .i64 label2, .lst (List.map encC [r153]) false, .int .i64 0, .int .i64 0, .lst [] true]]) (frz_c (frz_lstC (H2 := [(kg036 t1), kg035, .cells [.int .i64 a27, .int .i64 a28, .int .i64 a29, .int .i64 a30, .int .i64 a31, .int .i64 a32, .int .i64 3, .int .i64 label2, .lst (List.map encC [r153]) false, .int .i64 0, .int .i64 0, .lst [] true]]) rfl rfl rfl rfl) rfl) (by repeat (first | exact rzz | apply rcc rfl | apply rnn rfl)) rfl ⟨(3, label2, [r153]), rfl, rfl, hr⟩
            · refine L_F rfl hc60 ?_
              refine L_skip ?_
              refine L_nil ?_
              refine Blk_norm (?_ : GL _ _ _ _ _)
              refine L_nil ?_
              exact Sm_norm (e2 := [(1, .int .i64 label2), (2, .ptr 0 0), (4, .ptr 1 0), (5, .ptr 2 0)]) (H1 := [(kg036 t1), kg035, (kg023 a27 a28 a29 a30 a31 a32)]) (H2 := [(kg036 t1), kg035, .cells [.int .i64 a27, .int .i64 a28, .int .i64 a29, .int .i64 a30, .int .i64 a31, .int .i64 a32, .int .i64 0, .int .i64 0, .lst (List.map encC []) false, .int .i64 0, .int .i64 0, .lst [] true]]) (frz_c (frz_lstC (H2 := [(kg036 t1), kg035, (kg023 a27 a28 a29 a30 a31 a32)]) rfl rfl rfl rfl) rfl) (by repeat (first | exact rzz | apply rcc rfl | apply rnn rfl)) rfl ⟨(0, 0, []), rfl, rfl, hr⟩
      · rintro ⟨a40, a41, l42⟩ hr
        show GL _ _ [(1, .int .i64 label2), (2, .ptr 0 0), (4, .ptr 1 0), (5, .ptr 2 0)] [(kg036 t1), kg035, (kg015 a27 a28 a29 a30 a31 a32 a40 a41 l42)] _
        replace hr : g_r07_To_j5 rec_To rec_From t1 label2 a27 a28 a29 a30 a31 a32 a40 a41 l42 = some r := hr
        unfold g_r07_To_j5 at hr
        refine L_seq ?_
        refine L_stmtJ (S := Int × Int) (fun s => [(1, .int .i64 label2), (2, .ptr 0 0), (4, .ptr 1 0), (5, .ptr 2 0)]) (fun s => [(kg036 t1), kg035, .cells [.int .i64 a27, .int .i64 a28, .int .i64 a29, .int .i64 a30, .int .i64 a31, .int .i64 a32, .int .i64 a40, .int .i64 a41, .lst (List.map encC l42) false, .int .i64 s.1, .int .i64 s.2, .lst [] true]]) (fun s => g_r07_To_j4 rec_To rec_From t1 label2 a27 a28 a29 a30 a31 a32 a40 a41 l42 s.1 s.2 = some r) ?_ ?_
        · skip
          refine L_seq ?_
          refine L_stmt ?_
          refine L_reg ?_
          refine G_p rfl rfl rfl ?_
          refine G_h rfl rfl rfl (fun _ => rfl) ?_
          refine G_p rfl rfl rfl ?_
          refine G_nil ?_
          refine L_nil ?_
          refine Sm_norm (e2 := [(1, .int .i64 label2), (2, .ptr 0 0), (4, .ptr 1 0), (5, .ptr 2 0), (75, .bool (decide (t1.fn = 0)))]) (H1 := [(kg036 t1), kg035, (kg015 a27 a28 a29 a30 a31 a32 a40 a41 l42)]) (H2 := [(kg036 t1), kg035, (kg015 a27 a28 a29 a30 a31 a32 a40 a41 l42)]) rfl (by repeat (first | exact rzz | apply rcc rfl | apply rnn rfl)) rfl (?_ : GL _ _ _ _ _)
          rcases cond_s hr with ⟨hc75, hr⟩ | ⟨hc75, hr⟩
          · refine L_T rfl hc75 ?_
            refine L_seq ?_
            refine L_stmt ?_
            refine L_reg ?_
            refine G_p rfl rfl rfl ?_
            refine G_hn (H' := [(kg036 t1), kg035, (kg016 a27 a28 a29 a30 a31 a32 a40 a41 l42)]) rfl rfl rfl (fun _ => rfl) ?_
            refine G_nil ?_
            refine L_nil ?_
            refine Sm_norm (e2 := [(1, .int .i64 label2), (2, .ptr 0 0), (4, .ptr 1 0), (5, .ptr 2 0)]) (H1 := [(kg036 t1), kg035, (kg016 a27 a28 a29 a30 a31 a32 a40 a41 l42)]) (H2 := [(kg036 t1), kg035, (kg016 a27 a28 a29 a30 a31 a32 a40 a41 l42)]) rfl (by repeat (first | exact rzz | apply rcc rfl | apply rnn rfl)) rfl (?_ : GL _ _ _ _ _)
            refine L_reg ?_
            refine G_p rfl rfl rfl ?_
            refine G_p rfl rfl rfl ?_
            refine G_hn (H' := [(kg036 t1), kg035, (kg011 a27 a28 a29 a30 a31 a32 a40 a41 l42 label2)]) rfl rfl rfl (fun _ => rfl) ?_
            refine G_nil ?_
            refine L_nil ?_
            exact Sm_norm (e2 := [(1, .int .i64 label2), (2, .ptr 0 0), (4, .ptr 1 0), (5, .ptr 2 0)]) (H1 := [(kg036 t1), kg035, (kg011 a27 a28 a29 a30 a31 a32 a40 a41 l42 label2)]) (H2 := [(kg036 t1), kg035, (kg011 a27 a28 a29 a30 a31 a32 a40 a41 l42 label2)]) rfl (by repeat (first | exact rzz | apply rcc rfl | apply rnn rfl)) rfl ⟨(1, label2), rfl, rfl, hr⟩
          · refine L_F rfl hc75 ?_
            refine L_skip ?_
            refine L_nil ?_
            exact Sm_norm (e2 := [(1, .int .i64 label2), (2, .ptr 0 0), (4, .ptr 1 0), (5, .ptr 2 0)]) (H1 := [(kg036 t1), kg035, (kg015 a27 a28 a29 a30 a31 a32 a40 a41 l42)]) (H2 := [(kg036 t1), kg035, (kg015 a27 a28 a29 a30 a31 a32 a40 a41 l42)]) rfl (by repeat (first | exact rzz | apply rcc rfl | apply rnn rfl)) rfl ⟨(0, 0), rfl, rfl, hr⟩
        · rintro ⟨a43, a44⟩ hr
          show GL _ _ [(1, .int .i64 label2), (2, .ptr 0 0), (4, .ptr 1 0), (5, .ptr 2 0)] [(kg036 t1), kg035, (kg013 a27 a28 a29 a30 a31 a32 a40 a41 l42 a43 a44)] _
          replace hr : g_r07_To_j4 rec_To rec_From t1 label2 a27 a28 a29 a30 a31 a32 a40 a41 l42 a43 a44 = some r := hr
          unfold g_r07_To_j4 at hr
          refine L_seq ?_
          refine L_stmtJ (S := Int × List Co) (fun s => [(4, .ptr 1 0), (5, .ptr 2 0)]) (fun s => [(kg036 t1), kg035, .cells [.int .i64 a27, .int .i64 a28, .int .i64 a29, .int .i64 a30, .int .i64 a31, .int .i64 a32, .int .i64 a40, .int .i64 a41, .lst (List.map encC l42) false, .int .i64 s.1, .int .i64 a44, .lst (List.map encC s.2) false]]) (fun s => g_r07_To_j1 a27 a28 a29 a30 a31 a32 a40 a41 l42 a44 s.1 s.2 = some r) ?_ ?_
          · skip
            refine L_seq ?_
            refine L_stmt ?_
            refine L_reg ?_
            refine G_p rfl rfl rfl ?_
            refine G_h rfl rfl rfl (fun _ => rfl) ?_
            refine G_p rfl rfl rfl ?_
            refine G_nil ?_
            refine L_nil ?_
            refine Sm_norm (e2 := [(1, .int .i64 label2), (2, .ptr 0 0), (4, .ptr 1 0), (5, .ptr 2 0), (81, .bool (decide (t1.fn = 1)))]) (H1 := [(kg036 t1), kg035, (kg013 a27 a28 a29 a30 a31 a32 a40 a41 l42 a43 a44)]) (H2 := [(kg036 t1), kg035, (kg013 a27 a28 a29 a30 a31 a32 a40 a41 l42 a43 a44)]) rfl (by repeat (first | exact rzz | apply rcc rfl | apply rnn rfl)) rfl (?_ : GL _ _ _ _ _)
            rcases cond_s hr with ⟨hc81, hr⟩ | ⟨hc81, hr⟩
            · refine L_T rfl hc81 ?_
              refine L_seq ?_
              refine L_stmt ?_
              refine L_reg ?_
              refine G_p (v := .lst [] true) rfl rfl rfl ?_
              refine G_nil ?_
              refine L_nil ?_
              refine Sm_norm (e2 := [(1, .int .i64 label2), (2, .ptr 0 0), (4, .ptr 1 0), (5, .ptr 2 0), (9, .lst [] true)]) (H1 := [(kg036 t1), kg035, (kg013 a27 a28 a29 a30 a31 a32 a40 a41 l42 a43 a44)]) (H2 := [(kg036 t1), kg035, (kg013 a27 a28 a29 a30 a31 a32 a40 a41 l42 a43 a44)]) rfl (by repeat (first | exact rzz | apply rcc rfl | apply rnn rfl)) rfl (?_ : GL _ _ _ _ _)
              refine L_seq ?_
              refine L_stmt ?_
              refine L_reg ?_
              refine G_p rfl rfl rfl ?_
              refine G_h (v := .lst (List.map encT t1.funs) false) rfl rfl rfl (fun _ => rfl) ?_
              refine G_h rfl rfl rfl (lenL_ev rfl (List.length_map _)) ?_
              refine G_p rfl rfl rfl ?_
              refine G_p rfl rfl rfl ?_
              refine G_nil ?_
              refine L_nil ?_
              refine Sm_norm (e2 := [(1, .int .i64 label2), (2, .ptr 0 0), (4, .ptr 1 0), (5, .ptr 2 0), (9, .lst [] true), (10, .int .i64 (IntKind.wrap .i64 (((List.length t1.funs : Nat) : Int) - 1)))]) (H1 := [(kg036 t1), kg035, (kg013 a27 a28 a29 a30 a31 a32 a40 a41 l42 a43 a44)]) (H2 := [(kg036 t1), kg035, (kg013 a27 a28 a29 a30 a31 a32 a40 a41 l42 a43 a44)]) rfl (by repeat (first | exact rzz | apply rcc rfl | apply rnn rfl)) rfl (?_ : GL _ _ _ _ _)
              refine L_seq ?_
              refine L_stmtJ (S := List Co) (fun s => [(1, .int .i64 label2), (2, .ptr 0 0), (4, .ptr 1 0), (5, .ptr 2 0), (9, .gl 3 (List.length s)), (10, .int .i64 (IntKind.wrap .i64 (((List.length t1.funs : Nat) : Int) - 1)))]) (fun s => [(kg036 t1), kg035, (kg013 a27 a28 a29 a30 a31 a32 a40 a41 l42 a43 a44), growM 12 encC s]) (fun s => g_r07_To_j2 rec_To t1 label2 a27 a28 a29 a30 a31 a32 a40 a41 l42 a43 a44 s = some r) ?_ ?_
              · skip
                refine L_seq ?_
                refine L_stmt ?_
                refine L_reg ?_
                refine G_p rfl rfl rfl ?_
                refine G_nil ?_
                refine L_nil ?_
                refine Sm_norm (e2 := [(1, .int .i64 label2), (2, .ptr 0 0), (4, .ptr 1 0), (5, .ptr 2 0), (9, .lst [] true), (10, .int .i64 (IntKind.wrap .i64 (((List.length t1.funs : Nat) : Int) - 1))), (11, .int .i64 0)]) (H1 := [(kg036 t1), kg035, (kg013 a27 a28 a29 a30 a31 a32 a40 a41 l42 a43 a44)]) (H2 := [(kg036 t1), kg035, (kg013 a27 a28 a29 a30 a31 a32 a40 a41 l42 a43 a44)]) rfl (by repeat (first | exact rzz | apply rcc rfl | apply rnn rfl)) rfl (?_ : GL _ _ _ _ _)
                refine L_block ?_
                refine L_seq ?_
                refine L_own (H' := [(kg036 t1), kg035, (kg013 a27 a28 a29 a30 a31 a32 a40 a41 l42 a43 a44), growM 12 encC []]) rfl ?_
                obtain ⟨hLq137, hr⟩ := guard_s hr
                replace hLq137 := okLen_s hLq137
                refine L_range (X := Nat) (S := List Co) (List.range (Int.toNat (IntKind.wrap .i64 (((List.length t1.funs : Nat) : Int) - 1)))) (fun i139 s => [(9, .gl 3 (List.length s)), (11, .int .i64 ((i139 : Nat) : Int)), (1, .int .i64 label2), (2, .ptr 0 0), (4, .ptr 1 0), (5, .ptr 2 0), (10, .int .i64 (IntKind.wrap .i64 (((List.length t1.funs : Nat) : Int) - 1)))]) (fun i139 s => [(kg036 t1), kg035, (kg013 a27 a28 a29 a30 a31 a32 a40 a41 l42 a43 a44), growM 12 encC s]) (fun rest i139 s => g_r07_To_l3 rec_To rec_From t1 label2 a27 a28 a29 a30 a31 a32 a40 a41 l42 a43 a44 rest i139 s = some r) ([]) ?_ rfl hr ?_ ?_
                · show restr _ _ = [(9, .gl 3 (List.length [])), (11, .int .i64 ((0 : Nat) : Int)), (1, .int .i64 label2), (2, .ptr 0 0), (4, .ptr 1 0), (5, .ptr 2 0), (10, .int .i64 (IntKind.wrap .i64 (((List.length t1.funs : Nat) : Int) - 1)))]
                  (repeat (first | exact rzz | apply rcc rfl | apply rnn rfl))
                · rintro l127 hr
                  show GL _ _ [(9, .gl 3 (List.length l127)), (11, .int .i64 (((List.length (List.range (Int.toNat (IntKind.wrap .i64 (((List.length t1.funs : Nat) : Int) - 1))))) : Nat) : Int)), (1, .int .i64 label2), (2, .ptr 0 0), (4, .ptr 1 0), (5, .ptr 2 0), (10, .int .i64 (IntKind.wrap .i64 (((List.length t1.funs : Nat) : Int) - 1)))] [(kg036 t1), kg035, (kg013 a27 a28 a29 a30 a31 a32 a40 a41 l42 a43 a44), growM 12 encC l127] _
                  replace hr : g_r07_To_l3 rec_To rec_From t1 label2 a27 a28 a29 a30 a31 a32 a40 a41 l42 a43 a44 [] (List.length (List.range (Int.toNat (IntKind.wrap .i64 (((List.length t1.funs : Nat) : Int) - 1))))) l127 = some r := hr
                  rw [g_r07_To_l3] at hr
                  refine L_seq ?_
                  refine L_stmt ?_
                  refine L_seq ?_
                  refine L_stmt ?_
                  refine L_reg ?_
                  refine G_p rfl rfl rfl ?_
                  refine G_p rfl rfl rfl ?_
                  refine G_v (.bool false) rfl rfl rfl (congrArg AVal.bool (decide_eq_false (by simp only [List.length_range]; omega))) ?_
                  refine G_nil ?_
                  refine L_nil ?_
                  refine Sm_norm (e2 := [(1, .int .i64 label2), (2, .ptr 0 0), (4, .ptr 1 0), (5, .ptr 2 0), (9, .gl 3 (List.length l127)), (10, .int .i64 (IntKind.wrap .i64 (((List.length t1.funs : Nat) : Int) - 1))), (11, .int .i64 ((List.length (List.range (Int.toNat (IntKind.wrap .i64 (((List.length t1.funs : Nat) : Int) - 1)))) : Nat) : Int)), (88, .bool false)]) (H1 := [(kg036 t1), kg035, (kg013 a27 a28 a29 a30 a31 a32 a40 a41 l42 a43 a44), growM 12 encC l127]) (H2 := [(kg036 t1), kg035, (kg013 a27 a28 a29 a30 a31 a32 a40 a41 l42 a43 a44), growM 12 encC l127]) rfl (by repeat (first | exact rzz | apply rcc rfl | apply rnn rfl)) rfl (?_ : GL _ _ _ _ _)
                  refine L_F rfl rfl ?_
                  refine L_exit ?_
                  refine Sm_exit ?_
                  refine Rd_exit ?_
                  refine Blk_exit (?_ : GL _ _ _ _ _)
                  refine L_nil ?_
                  exact Sm_norm (e2 := [(1, .int .i64 label2), (2, .ptr 0 0), (4, .ptr 1 0), (5, .ptr 2 0), (9, .gl 3 (List.length l127)), (10, .int .i64 (IntKind.wrap .i64 (((List.length t1.funs : Nat) : Int) - 1)))]) (H1 := [(kg036 t1), kg035, (kg013 a27 a28 a29 a30 a31 a32 a40 a41 l42 a43 a44), growM 12 encC l127]) (H2 := [(kg036 t1), kg035, (kg013 a27 a28 a29 a30 a31 a32 a40 a41 l42 a43 a44), growM 12 encC l127]) rfl (by repeat (first | exact rzz | apply rcc rfl | apply rnn rfl)) rfl ⟨l127, rfl, rfl, hr⟩
                · rintro y138 rest140 i139 l127 hy138 hlti139 hr
                  show GL _ _ [(9, .gl 3 (List.length l127)), (11, .int .i64 ((i139 : Nat) : Int)), (1, .int .i64 label2), (2, .ptr 0 0), (4, .ptr 1 0), (5, .ptr 2 0), (10, .int .i64 (IntKind.wrap .i64 (((List.length t1.funs : Nat) : Int) - 1)))] [(kg036 t1), kg035, (kg013 a27 a28 a29 a30 a31 a32 a40 a41 l42 a43 a44), growM 12 encC l127] _
                  replace hr : g_r07_To_l3 rec_To rec_From t1 label2 a27 a28 a29 a30 a31 a32 a40 a41 l42 a43 a44 (y138 :: rest140) i139 l127 = some r := hr
                  rw [g_r07_To_l3] at hr
                  refine L_seq ?_
                  refine L_stmt ?_
                  refine L_seq ?_
                  refine L_stmt ?_
                  refine L_reg ?_
                  refine G_p rfl rfl rfl ?_
                  refine G_p rfl rfl rfl ?_
                  refine G_v (.bool true) rfl rfl rfl (congrArg AVal.bool (decide_eq_true (by have h0 := hlti139; simp only [List.length_range] at h0; omega))) ?_
                  refine G_nil ?_
                  refine L_nil ?_
                  refine Sm_norm (e2 := [(1, .int .i64 label2), (2, .ptr 0 0), (4, .ptr 1 0), (5, .ptr 2 0), (9, .gl 3 (List.length l127)), (10, .int .i64 (IntKind.wrap .i64 (((List.length t1.funs : Nat) : Int) - 1))), (11, .int .i64 ((i139 : Nat) : Int)), (88, .bool true)]) (H1 := [(kg036 t1), kg035, (kg013 a27 a28 a29 a30 a31 a32 a40 a41 l42 a43 a44), growM 12 encC l127]) (H2 := [(kg036 t1), kg035, (kg013 a27 a28 a29 a30 a31 a32 a40 a41 l42 a43 a44), growM 12 encC l127]) rfl (by repeat (first | exact rzz | apply rcc rfl | apply rnn rfl)) rfl (?_ : GL _ _ _ _ _)
                  refine L_T rfl rfl ?_
                  refine L_skip ?_
                  refine L_nil ?_
                  refine Sm_norm (e2 := [(1, .int .i64 label2), (2, .ptr 0 0), (4, .ptr 1 0), (5, .ptr 2 0), (9, .gl 3 (List.length l127)), (10, .int .i64 (IntKind.wrap .i64 (((List.length t1.funs : Nat) : Int) - 1))), (11, .int .i64 ((i139 : Nat) : Int))]) (H1 := [(kg036 t1), kg035, (kg013 a27 a28 a29 a30 a31 a32 a40 a41 l42 a43 a44), growM 12 encC l127]) (H2 := [(kg036 t1), kg035, (kg013 a27 a28 a29 a30 a31 a32 a40 a41 l42 a43 a44), growM 12 encC l127]) rfl (by repeat (first | exact rzz | apply rcc rfl | apply rnn rfl)) rfl (?_ : GL _ _ _ _ _)
                  refine L_seq ?_
                  refine L_stmt ?_
                  refine L_block ?_
                  refine L_reg ?_
                  refine G_p rfl rfl rfl ?_
                  refine G_p rfl rfl rfl ?_
                  refine G_h (v := .lst (List.map encT t1.funs) false) rfl rfl rfl (fun _ => rfl) ?_
                  refine G_p rfl rfl rfl ?_
                  obtain ⟨e144, he144, hr⟩ := bind_s hr
                  refine G_h (v := .ro [.bool e144.all, .int .i64 e144.flat, .int .i64 e144.pair, .lst (List.map encT e144.pairs) false, .int .i64 e144.fn, .lst (List.map encT e144.funs) false]) rfl rfl rfl (ia_ev (cells := [.bool e144.all, .int .i64 e144.flat, .int .i64 e144.pair, .lst (List.map encT e144.pairs) false, .int .i64 e144.fn, .lst (List.map encT e144.funs) false]) rfl rfl (idx_s he144).1 (map_get (x := e144) (idx_s he144).2) (encT_flat _) rfl) ?_
                  refine G_h (v := .agg (cT e144)) rfl rfl rfl (fun _ => rfl) ?_
                  refine G_p rfl rfl rfl ?_
                  obtain ⟨r145, hr145, hr⟩ := bind_s hr
                  refine G_c 15 rfl rfl (CA_of (as := [.agg (cT e144), .int .i64 label2]) rfl (hrec_From _ _ _ hr145)) ?_
                  refine G_h (v := .lst (List.map encC [r145]) true) rfl rfl rfl (fun _ => Eq.trans (b := some (Ex.ok (AVal.lst [.agg (cC r145)] true), _)) rfl (congrArg (fun z => some (Ex.ok (AVal.lst z true), _)) (by first | rfl | (simp only [List.map_cons, List.map_nil, encC_eq] <;> rfl)))) ?_
                  obtain ⟨l146, hl146, hr⟩ := bind_s hr
                  refine G_h rfl rfl rfl (appG_ev encC_w1 (by decide) rfl rfl rfl rfl hl146) ?_
                  refine G_p rfl rfl rfl ?_
                  refine G_nil ?_
                  refine L_nil ?_
                  refine Blk_norm (?_ : GL _ _ _ _ _)
                  refine L_nil ?_
                  refine Sm_norm (e2 := [(1, .int .i64 label2), (2, .ptr 0 0), (4, .ptr 1 0), (5, .ptr 2 0), (9, .gl 3 (List.length l146)), (10, .int .i64 (IntKind.wrap .i64 (((List.length t1.funs : Nat) : Int) - 1))), (11, .int .i64 ((i139 : Nat) : Int))]) (H1 := [(kg036 t1), kg035, (kg013 a27 a28 a29 a30 a31 a32 a40 a41 l42 a43 a44), growM 12 encC l146]) (H2 := [(kg036 t1), kg035, (kg013 a27 a28 a29 a30 a31 a32 a40 a41 l42 a43 a44), growM 12 encC l146]) rfl (by repeat (first | exact rzz | apply rcc rfl | apply rnn rfl)) rfl (?_ : GL _ _ _ _ _)
                  refine L_reg ?_
                  refine G_p rfl rfl rfl ?_
                  refine G_v (.int .i64 ((i139 + 1 : Nat) : Int)) rfl rfl rfl (congrArg _ (wrap_next hLq137 hlti139)) ?_
                  refine G_p rfl rfl rfl ?_
                  refine G_nil ?_
                  refine L_nil ?_
                  refine Rd_norm ⟨l146, ?_, rfl, hr⟩
                  show restr _ _ = [(9, .gl 3 (List.length l146)), (11, .int .i64 (((i139 + 1) : Nat) : Int)), (1, .int .i64 label2), (2, .ptr 0 0), (4, .ptr 1 0), (5, .ptr 2 0), (10, .int .i64 (IntKind.wrap .i64 (((List.length t1.funs : Nat) : Int) - 1)))]
                  (repeat (first | exact rzz | apply rcc rfl | apply rnn rfl))
              · rintro l111 hr
                show GL _ _ [(1, .int .i64 label2), (2, .ptr 0 0), (4, .ptr 1 0), (5, .ptr 2 0), (9, .gl 3 (List.length l111)), (10, .int .i64 (IntKind.wrap .i64 (((List.length t1.funs : Nat) : Int) - 1)))] [(kg036 t1), kg035, (kg013 a27 a28 a29 a30 a31 a32 a40 a41 l42 a43 a44), growM 12 encC l111] _
                replace hr : g_r07_To_j2 rec_To t1 label2 a27 a28 a29 a30 a31 a32 a40 a41 l42 a43 a44 l111 = some r := hr
                unfold g_r07_To_j2 at hr
                refine L_seq ?_
                refine L_stmt ?_
                refine L_reg ?_
                refine G_p rfl rfl rfl ?_
                refine G_p rfl rfl rfl ?_
                refine G_h (v := .lst (List.map encT t1.funs) false) rfl rfl rfl (fun _ => rfl) ?_
                refine G_p rfl rfl rfl ?_
                obtain ⟨e115, he115, hr⟩ := bind_s hr
                refine G_h (v := .ro [.bool e115.all, .int .i64 e115.flat, .int .i64 e115.pair, .lst (List.map encT e115.pairs) false, .int .i64 e115.fn, .lst (List.map encT e115.funs) false]) rfl rfl rfl (ia_ev (cells := [.bool e115.all, .int .i64 e115.flat, .int .i64 e115.pair, .lst (List.map encT e115.pairs) false, .int .i64 e115.fn, .lst (List.map encT e115.funs) false]) rfl rfl (idx_s he115).1 (map_get (x := e115) (idx_s he115).2) (encT_flat _) rfl) ?_
                refine G_h (v := .agg (cT e115)) rfl rfl rfl (fun _ => rfl) ?_
                refine G_p rfl rfl rfl ?_
                obtain ⟨r116, hr116, hr⟩ := bind_s hr
                refine G_c 13 rfl rfl (CA_of (as := [.agg (cT e115), .int .i64 label2]) rfl (hrec_To _ _ _ hr116)) ?_
                refine G_h (v := .lst (List.map encC [r116]) true) rfl rfl rfl (fun _ => Eq.trans (b := some (Ex.ok (AVal.lst [.agg (cC r116)] true), _)) rfl (congrArg (fun z => some (Ex.ok (AVal.lst z true), _)) (by first | rfl | (simp only [List.map_cons, List.map_nil, encC_eq] <;> rfl)))) ?_
                obtain ⟨l117, hl117, hr⟩ := bind_s hr
                refine G_h rfl rfl rfl (appG_ev encC_w1 (by decide) rfl rfl rfl rfl hl117) ?_
                refine G_p rfl rfl rfl ?_
                refine G_nil ?_
                refine L_nil ?_
                refine Sm_norm (e2 := [(4, .ptr 1 0), (5, .ptr 2 0), (9, .lst (List.map encC l117) false)]) (H1 := [(kg036 t1), kg035, (kg013 a27 a28 a29 a30 a31 a32 a40 a41 l42 a43 a44), growM 12 encC l117]) (H2 := [(kg036 t1), kg035, (kg013 a27 a28 a29 a30 a31 a32 a40 a41 l42 a43 a44), growM 12 encC l117]) (frz_c (frz_gl rfl rfl) rfl) (by repeat (first | exact rzz | apply rcc rfl | apply rnn rfl)) rfl (?_ : GL _ _ _ _ _)
                refine L_seq ?_
                refine L_stmt ?_
                refine L_reg ?_
                refine G_p (v := .lst (List.map encC l117) false) rfl rfl rfl ?_
                obtain ⟨r118, hr118, hr⟩ := bind_s hr
                refine G_c 44 rfl rfl (CA_of (as := [.lst (List.map encC l117) false]) rfl (g_r07_all_ok hr118)) ?_
                refine G_p rfl rfl rfl ?_
                refine G_nil ?_
                refine L_nil ?_
                refine Sm_norm (e2 := [(4, .ptr 1 0), (5, .ptr 2 0), (9, .lst (List.map encC l117) false), (113, .bool (!r118))]) (H1 := [(kg036 t1), kg035, (kg013 a27 a28 a29 a30 a31 a32 a40 a41 l42 a43 a44), growM 12 encC l117]) (H2 := [(kg036 t1), kg035, (kg013 a27 a28 a29 a30 a31 a32 a40 a41 l42 a43 a44), growM 12 encC l117]) rfl (by repeat (first | exact rzz | apply rcc rfl | apply rnn rfl)) rfl (?_ : GL _ _ _ _ _)
                rcases cond_s hr with ⟨hc113, hr⟩ | ⟨hc113, hr⟩
                · refine L_T rfl hc113 ?_
                  refine L_seq ?_
                  refine L_stmt ?_
                  refine L_reg ?_
                  refine G_p rfl rfl rfl ?_
                  refine G_hn (H' := [(kg036 t1), kg035, (kg014 a27 a28 a29 a30 a31 a32 a40 a41 l42 a44), growM 12 encC l117]) rfl rfl rfl (fun _ => rfl) ?_
                  refine G_nil ?_
                  refine L_nil ?_
                  refine Sm_norm (e2 := [(4, .ptr 1 0), (5, .ptr 2 0), (9, .lst (List.map encC l117) false)]) (H1 := [(kg036 t1), kg035, (kg014 a27 a28 a29 a30 a31 a32 a40 a41 l42 a44), growM 12 encC l117]) (H2 := [(kg036 t1), kg035, (kg014 a27 a28 a29 a30 a31 a32 a40 a41 l42 a44), growM 12 encC l117]) rfl (by repeat (first | exact rzz | apply rcc rfl | apply rnn rfl)) rfl (?_ : GL _ _ _ _ _)
                  refine L_reg ?_
                  refine G_p (v := .lst (List.map encC l117) false) rfl rfl rfl ?_
                  refine G_p rfl rfl rfl ?_
                  refine G_hn (H' := [(kg036 t1), kg035, .cells [.int .i64 a27, .int .i64 a28, .int .i64 a29, .int .i64 a30, .int .i64 a31, .int .i64 a32, .int .i64 a40, .int .i64 a41, .lst (List.map encC l42) false, .int .i64 2, .int .i64 a44, .lst (List.map encC l117) false], growM 12 encC l117]) rfl rfl rfl (fun _ => rfl) ?_
                  refine G_nil ?_
                  refine L_nil ?_
                  exact Sm_norm (e2 := [(4, .ptr 1 0), (5, .ptr 2 0)]) (H1 := [(kg036 t1), kg035, .cells [.int .i64 a27, .int .i64 a28, .int .i64 a29, .int .i64 a30, .int .i64 a31, .int .i64 a32, .int .i64 a40, .int .i64 a41, .lst (List.map encC l42) false, .int .i64 2, .int .i64 a44, .lst (List.map encC l117) false], growM 12 encC l117]) (H2 := [(kg036 t1), kg035, .cells [.int .i64 a27, .int .i64 a28, .int .i64 a29, .int .i64 a30, .int .i64 a31, .int .i64 a32, .int .i64 a40, .int .i64 a41, .lst (List.map encC l42) false, .int .i64 2, .int .i64 a44, .lst (List.map encC l117) false]]) (frz_c (frz_lstC (H2 := [(kg036 t1), kg035, .cells [.int .i64 a27, .int .i64 a28, .int .i64 a29, .int .i64 a30, .int .i64 a31, .int .i64 a32, .int .i64 a40, .int .i64 a41, .lst (List.map encC l42) false, .int .i64 2, .int .i64 a44, .lst (List.map encC l117) false], growM 12 encC l117]) rfl rfl rfl rfl) rfl) (by repeat (first | exact rzz | apply rcc rfl | apply rnn rfl)) rfl ⟨(2, l117), rfl, rfl, hr⟩
                · refine L_F rfl hc113 ?_
                  refine L_skip ?_
                  refine L_nil ?_
                  exact Sm_norm (e2 := [(4, .ptr 1 0), (5, .ptr 2 0)]) (H1 := [(kg036 t1), kg035, (kg012 a27 a28 a29 a30 a31 a32 a40 a41 l42 a43 a44), growM 12 encC l117]) (H2 := [(kg036 t1), kg035, .cells [.int .i64 a27, .int .i64 a28, .int .i64 a29, .int .i64 a30, .int .i64 a31, .int .i64 a32, .int .i64 a40, .int .i64 a41, .lst (List.map encC l42) false, .int .i64 a43, .int .i64 a44, .lst (List.map encC []) false]]) (frz_c (frz_lstC (H2 := [(kg036 t1), kg035, (kg012 a27 a28 a29 a30 a31 a32 a40 a41 l42 a43 a44), growM 12 encC l117]) rfl rfl rfl rfl) rfl) (by repeat (first | exact rzz | apply rcc rfl | apply rnn rfl)) rfl ⟨(a43, []), rfl, rfl, hr⟩
            · refine L_F rfl hc81 ?_
              refine L_skip ?_
              refine L_nil ?_
              exact Sm_norm (e2 := [(4, .ptr 1 0), (5, .ptr 2 0)]) (H1 := [(kg036 t1), kg035, (kg012 a27 a28 a29 a30 a31 a32 a40 a41 l42 a43 a44)]) (H2 := [(kg036 t1), kg035, .cells [.int .i64 a27, .int .i64 a28, .int .i64 a29, .int .i64 a30, .int .i64 a31, .int .i64 a32, .int .i64 a40, .int .i64 a41, .lst (List.map encC l42) false, .int .i64 a43, .int .i64 a44, .lst (List.map encC []) false]]) (frz_c (frz_lstC (H2 := [(kg036 t1), kg035, (kg012 a27 a28 a29 a30 a31 a32 a40 a41 l42 a43 a44)]) rfl rfl rfl rfl) rfl) (by repeat (first | exact rzz | apply rcc rfl | apply rnn rfl)) rfl ⟨(a43, []), rfl, rfl, hr⟩
          · rintro ⟨a81, l82⟩ hr
            show GL _ _ [(4, .ptr 1 0), (5, .ptr 2 0)] [(kg036 t1), kg035, (kg010 a27 a28 a29 a30 a31 a32 a40 a41 l42 a81 a44 l82)] _
            replace hr : g_r07_To_j1 a27 a28 a29 a30 a31 a32 a40 a41 l42 a44 a81 l82 = some r := hr
            unfold g_r07_To_j1 at hr
            refine L_seq ?_
            refine L_reg ?_
            refine G_h (v := .agg [.int .i64 a27, .int .i64 a28, .int .i64 a29, .int .i64 a30, .int .i64 a31, .int .i64 a32, .int .i64 a40, .int .i64 a41, .lst (List.map encC l42) false, .int .i64 a81, .int .i64 a44, .lst (List.map encC l82) false]) rfl rfl rfl (fun _ => rfl) ?_
            refine G_hn (H' := [(kg036 t1), (kg010 a27 a28 a29 a30 a31 a32 a40 a41 l42 a81 a44 l82), (kg010 a27 a28 a29 a30 a31 a32 a40 a41 l42 a81 a44 l82)]) rfl rfl rfl (fun _ => rfl) ?_
            refine G_nil ?_
            refine L_ret ?_
            have hr := some_s hr
            subst hr
            exact ⟨_, rfl, _, rfl, rfl⟩
def g_r07_From_j1 (a13 : Int) (l14 : List Co) (a51 : Int) (l52 : List Co) : Option Co :=
  some (Co.mk (sixF 0 0 0 0 0 0) a13 0 l14 a51 0 l52)
def g_r07_From_j2 (rec_From : Ty → Int → Option Co) (t1 : Ty) (label2 : Int) (a13 : Int) (l14 : List Co) (l81 : List Co) : Option Co :=
  ((idx t1.funs (IntKind.wrap .i64 (((List.length t1.funs : Nat) : Int) - 1))).bind fun e85 => ((rec_From e85 label2).bind fun r86 => ((catL l81 [r86]).bind fun l87 => ((g_r07_all l87).bind fun r88 => (cond (!r88) (g_r07_From_j1 a13 l14 2 l87) (g_r07_From_j1 a13 l14 0 []))))))
def g_r07_From_l3 (rec_To : Ty → Int → Option Co) (rec_From : Ty → Int → Option Co) (t1 : Ty) (label2 : Int) (a13 : Int) (l14 : List Co) : List Nat → Nat → (List Co) → Option Co
  | [], _, l97 => g_r07_From_j2 rec_From t1 label2 a13 l14 l97
  | y108 :: rest110, i109, l97 => ((idx t1.funs ((i109 : Nat) : Int)).bind fun e114 => ((rec_To e114 label2).bind fun r115 => ((catL l97 [r115]).bind fun l116 => g_r07_From_l3 rec_To rec_From t1 label2 a13 l14 rest110 (i109 + 1) l116)))
def g_r07_From_j4 (rec_To : Ty → Int → Option Co) (rec_From : Ty → Int → Option Co) (t1 : Ty) (label2 : Int) (a13 : Int) (l14 : List Co) : Option Co :=
  (cond (decide (t1.fn = 1)) (cond (okLen (List.range (Int.toNat (IntKind.wrap .i64 (((List.length t1.funs : Nat) : Int) - 1))))) (g_r07_From_l3 rec_To rec_From t1 label2 a13 l14 (List.range (Int.toNat (IntKind.wrap .i64 (((List.length t1.funs : Nat) : Int) - 1)))) 0 []) none) (g_r07_From_j1 a13 l14 0 []))
def g_r07_From_j5 (rec_To : Ty → Int → Option Co) (rec_From : Ty → Int → Option Co) (t1 : Ty) (label2 : Int) (a8 : Int) (l9 : List Co) : Option Co :=
  (cond (decide (t1.pair = 2)) ((idx t1.pairs 0).bind fun e117 => ((rec_From e117 label2).bind fun r118 => ((g_r07_Pass r118).bind fun r119 => (cond (!r119) (g_r07_From_j4 rec_To rec_From t1 label2 3 [r118]) (g_r07_From_j4 rec_To rec_From t1 label2 a8 l9))))) (g_r07_From_j4 rec_To rec_From t1 label2 a8 l9))
def g_r07_From_b (rec_To : Ty → Int → Option Co) (rec_From : Ty → Int → Option Co) (t1 : Ty) (label2 : Int) : Option Co :=
  (cond (decide (t1.pair = 1)) ((idx t1.pairs 0).bind fun e120 => ((rec_From e120 label2).bind fun r121 => ((idx t1.pairs 1).bind fun e122 => ((rec_From e122 label2).bind fun r123 => ((g_r07_all [r121, r123]).bind fun r124 => (cond (!r124) (g_r07_From_j5 rec_To rec_From t1 label2 2 [r121, r123]) (g_r07_From_j5 rec_To rec_From t1 label2 0 []))))))) (g_r07_From_j5 rec_To rec_From t1 label2 0 []))
abbrev kg043 (a13 : Int) (l14 : List Co) (a51 : Int) (l52 : List Co) : ABlock := .cells [.int .i64 0, .int .i64 0, .int .i64 0, .int .i64 0, .int .i64 0, .int .i64 0, .int .i64 a13, .int .i64 0, .lst (List.map encC l14) false, .int .i64 a51, .int .i64 0, .lst (List.map encC l52) false]
abbrev kg044 (a13 : Int) (l14 : List Co) : ABlock := .cells [.int .i64 0, .int .i64 0, .int .i64 0, .int .i64 0, .int .i64 0, .int .i64 0, .int .i64 a13, .int .i64 0, .lst (List.map encC l14) false, .int .i64 0, .int .i64 0, .lst [] false]
abbrev kg045 (a13 : Int) (l14 : List Co) : ABlock := .cells [.int .i64 0, .int .i64 0, .int .i64 0, .int .i64 0, .int .i64 0, .int .i64 0, .int .i64 a13, .int .i64 0, .lst (List.map encC l14) false, .int .i64 0, .int .i64 0, .lst [] true]
abbrev kg046 (a13 : Int) (l14 : List Co) : ABlock := .cells [.int .i64 0, .int .i64 0, .int .i64 0, .int .i64 0, .int .i64 0, .int .i64 0, .int .i64 a13, .int .i64 0, .lst (List.map encC l14) false, .int .i64 2, .int .i64 0, .lst [] true]
abbrev kg047 (a8 : Int) (l9 : List Co) : ABlock := .cells [.int .i64 0, .int .i64 0, .int .i64 0, .int .i64 0, .int .i64 0, .int .i64 0, .int .i64 a8, .int .i64 0, .lst (List.map encC l9) false, .int .i64 0, .int .i64 0, .lst [] true]
abbrev kg048 (l9 : List Co) : ABlock := .cells [.int .i64 0, .int .i64 0, .int .i64 0, .int .i64 0, .int .i64 0, .int .i64 0, .int .i64 3, .int .i64 0, .lst (List.map encC l9) false, .int .i64 0, .int .i64 0, .lst [] true]
abbrev kg049 : ABlock := .cells [.int .i64 0, .int .i64 0, .int .i64 0, .int .i64 0, .int .i64 0, .int .i64 0, .int .i64 0, .int .i64 0, .lst [] false, .int .i64 0, .int .i64 0, .lst [] true]
abbrev kg050 : ABlock := .cells [.int .i64 0, .int .i64 0, .int .i64 0, .int .i64 0, .int .i64 0, .int .i64 0, .int .i64 0, .int .i64 0, .lst [] true, .int .i64 0, .int .i64 0, .lst [] true]
abbrev kg051 : ABlock := .cells [.int .i64 0, .int .i64 0, .int .i64 0, .int .i64 0, .int .i64 0, .int .i64 0, .int .i64 2, .int .i64 0, .lst [] true, .int .i64 0, .int .i64 0, .lst [] true]
abbrev kg052 (t1 : Ty) : ABlock := .cells [.bool t1.all, .int .i64 t1.flat, .int .i64 t1.pair, .lst (List.map encT t1.pairs) false, .int .i64 t1.fn, .lst (List.map encT t1.funs) false]
theorem g_r07_From_b_ok {rec_To : Ty → Int → Option Co} {rec_From : Ty → Int → Option Co} {t1 : Ty} {label2 : Int} {r : Co} (hrec_To : ∀ (a0 : Ty) (a1 : Int) (r : Co), rec_To a0 a1 = some r → PRes (tabOf tabL) 13 [.agg (cT a0), .int .i64 a1] (.agg (cC r))) (hrec_From : ∀ (a0 : Ty) (a1 : Int) (r : Co), rec_From a0 a1 = some r → PRes (tabOf tabL) 15 [.agg (cT a0), .int .i64 a1] (.agg (cC r))) (hr : g_r07_From_b rec_To rec_From t1 label2 = some r) : PRes (tabOf tabL) 15 [.agg (cT t1), .int .i64 label2] (.agg (cC r)) := by
  refine pres_fin t15 ?_
  unfold g_r07_From_b at hr
  refine L_seq ?_
  refine L_stmt ?_
  refine L_reg ?_
  refine G_n (B := (kg052 t1)) rfl rfl rfl ?_
  refine G_n (B := kg050) rfl rfl rfl ?_
  refine G_nil ?_
  refine L_nil ?_
  refine Sm_norm (e2 := [(1, .int .i64 label2), (2, .ptr 0 0), (4, .ptr 1 0)]) (H1 := [(kg052 t1), kg050]) (H2 := [(kg052 t1), kg050]) rfl (by repeat (first | exact rzz | apply rcc rfl | apply rnn rfl)) rfl (?_ : GL _ _ _ _ _)
  refine L_seq ?_
  refine L_stmt ?_
  refine L_reg ?_
  refine G_p (v := .agg [.int .i64 0, .int .i64 0, .int .i64 0, .int .i64 0, .int .i64 0, .int .i64 0, .int .i64 0, .int .i64 0, .lst [] true, .int .i64 0, .int .i64 0, .lst [] true]) rfl rfl rfl ?_
  refine G_n (B := kg050) rfl rfl rfl ?_
  refine G_hn (H' := [(kg052 t1), kg050, kg050]) rfl rfl rfl (fun _ => rfl) ?_
  refine G_nil ?_
  refine L_nil ?_
  refine Sm_norm (e2 := [(1, .int .i64 label2), (2, .ptr 0 0), (4, .ptr 1 0), (5, .ptr 2 0)]) (H1 := [(kg052 t1), kg050, kg050]) (H2 := [(kg052 t1), kg050, kg050]) rfl (by repeat (first | exact rzz | apply rcc rfl | apply rnn rfl)) rfl (?_ : GL _ _ _ _ _)
  refine L_seq ?_
  refine L_stmtJ (S := Int × List Co) (fun s => [(1, .int .i64 label2), (2, .ptr 0 0), (4, .ptr 1 0), (5, .ptr 2 0)]) (fun s => [(kg052 t1), kg050, .cells [.int .i64 0, .int .i64 0, .int .i64 0, .int .i64 0, .int .i64 0, .int .i64 0, .int .i64 s.1, .int .i64 0, .lst (List.map encC s.2) false, .int .i64 0, .int .i64 0, .lst [] true]]) (fun s => g_r07_From_j5 rec_To rec_From t1 label2 s.1 s.2 = some r) ?_ ?_
  · skip
    refine L_seq ?_
    refine L_stmt ?_
    refine L_reg ?_
    refine G_p rfl rfl rfl ?_
    refine G_h rfl rfl rfl (fun _ => rfl) ?_
    refine G_p rfl rfl rfl ?_
    refine G_nil ?_
    refine L_nil ?_
    refine Sm_norm (e2 := [(1, .int .i64 label2), (2, .ptr 0 0), (4, .ptr 1 0), (5, .ptr 2 0), (14, .bool (decide (t1.pair = 1)))]) (H1 := [(kg052 t1), kg050, kg050]) (H2 := [(kg052 t1), kg050, kg050]) rfl (by repeat (first | exact rzz | apply rcc rfl | apply rnn rfl)) rfl (?_ : GL _ _ _ _ _)
    rcases cond_s hr with ⟨hc14, hr⟩ | ⟨hc14, hr⟩
    · refine L_T rfl hc14 ?_
      refine L_seq ?_
      refine L_stmt ?_
      refine L_drawT [] rfl ?_
      refine GS_p rfl rfl rfl ?_
      refine GS_h (d := some 16) (v := .lst (List.map encT t1.pairs) false) rfl rfl rfl rfl (fun _ => rfl) ?_
      obtain ⟨e120, he120, hr⟩ := bind_s hr
      refine GS_h (d := some 17) (v := .ro [.bool e120.all, .int .i64 e120.flat, .int .i64 e120.pair, .lst (List.map encT e120.pairs) false, .int .i64 e120.fn, .lst (List.map encT e120.funs) false]) rfl rfl rfl rfl (ia_ev (cells := [.bool e120.all, .int .i64 e120.flat, .int .i64 e120.pair, .lst (List.map encT e120.pairs) false, .int .i64 e120.fn, .lst (List.map encT e120.funs) false]) rfl rfl (idx_s he120).1 (map_get (x := e120) (idx_s he120).2) (encT_flat _) rfl) ?_
      refine GS_h (d := some 18) (v := .agg (cT e120)) rfl rfl rfl rfl (fun _ => rfl) ?_
      refine GS_p rfl rfl rfl ?_
      obtain ⟨r121, hr121, hr⟩ := bind_s hr
      refine GS_c 15 rfl rfl rfl (CA_of (as := [.agg (cT e120), .int .i64 label2]) rfl (hrec_From _ _ _ hr121)) ?_
      refine GS_p rfl rfl rfl ?_
      refine GS_h (d := some 22) (v := .lst (List.map encT t1.pairs) false) rfl rfl rfl rfl (fun _ => rfl) ?_
      obtain ⟨e122, he122, hr⟩ := bind_s hr
      refine GS_h (d := some 23) (v := .ro [.bool e122.all, .int .i64 e122.flat, .int .i64 e122.pair, .lst (List.map encT e122.pairs) false, .int .i64 e122.fn, .lst (List.map encT e122.funs) false]) rfl rfl rfl rfl (ia_ev (cells := [.bool e122.all, .int .i64 e122.flat, .int .i64 e122.pair, .lst (List.map encT e122.pairs) false, .int .i64 e122.fn, .lst (List.map encT e122.funs) false]) rfl rfl (idx_s he122).1 (map_get (x := e122) (idx_s he122).2) (encT_flat _) rfl) ?_
      refine GS_h (d := some 24) (v := .agg (cT e122)) rfl rfl rfl rfl (fun _ => rfl) ?_
      refine GS_p rfl rfl rfl ?_
      obtain ⟨r123, hr123, hr⟩ := bind_s hr
      refine GS_c 15 rfl rfl rfl (CA_of (as := [.agg (cT e122), .int .i64 label2]) rfl (hrec_From _ _ _ hr123)) ?_
      refine GS_h (d := some 27) (v := .lst (List.map encC [r121, r123]) true) rfl rfl rfl rfl (fun _ => Eq.trans (b := some (Ex.ok (AVal.lst [.agg (cC r121), .agg (cC r123)] true), _)) rfl (congrArg (fun z => some (Ex.ok (AVal.lst z true), _)) (by first | rfl | (simp only [List.map_cons, List.map_nil, encC_eq] <;> rfl)))) ?_
      refine GS_p (v := .lst (List.map encC [r121, r123]) true) rfl rfl rfl ?_
      refine GS_nil ?_
      refine L_nil ?_
      refine Sm_norm (e2 := [(1, .int .i64 label2), (2, .ptr 0 0), (4, .ptr 1 0), (5, .ptr 2 0), (6, .lst (List.map encC [r121, r123]) false)]) (H1 := [(kg052 t1), kg050, kg050]) (H2 := [(kg052 t1), kg050, kg050]) (frz_c (frz_lst rfl) rfl) (by repeat (first | exact rzz | apply rcc rfl | apply rnn rfl)) rfl (?_ : GL _ _ _ _ _)
      refine L_seq ?_
      refine L_stmt ?_
      refine L_reg ?_
      refine G_p (v := .lst (List.map encC [r121, r123]) false) rfl rfl rfl ?_
      obtain ⟨r124, hr124, hr⟩ := bind_s hr
      refine G_c 44 rfl rfl (CA_of (as := [.lst (List.map encC [r121, r123]) false]) rfl (g_r07_all_ok hr124)) ?_
      refine G_p rfl rfl rfl ?_
      refine G_nil ?_
      refine L_nil ?_
      refine Sm_norm (e2 := [(1, .int .i64 label2), (2, .ptr 0 0), (4, .ptr 1 0), (5, .ptr 2 0), (6, .lst (List.map encC [r121, r123]) false), (30, .bool (!r124))]) (H1 := [(kg052 t1), kg050, kg050]) (H2 := [(kg052 t1), kg050, kg050]) rfl (by repeat (first | exact rzz | apply rcc rfl | apply rnn rfl)) rfl (?_ : GL _ _ _ _ _)
      rcases cond_s hr with ⟨hc30, hr⟩ | ⟨hc30, hr⟩
      · refine L_T rfl hc30 ?_
        refine L_seq ?_
        refine L_stmt ?_
        refine L_reg ?_
        refine G_p rfl rfl rfl ?_
        refine G_hn (H' := [(kg052 t1), kg050, kg051]) rfl rfl rfl (fun _ => rfl) ?_
        refine G_nil ?_
        refine L_nil ?_
        refine Sm_norm (e2 := [(1, .int .i64 label2), (2, .ptr 0 0), (4, .ptr 1 0), (5, .ptr 2 0), (6, .lst (List.map encC [r121, r123]) false)]) (H1 := [(kg052 t1), kg050, kg051]) (H2 := [(kg052 t1), kg050, kg051]) rfl (by repeat (first | exact rzz | apply rcc rfl | apply rnn rfl)) rfl (?_ : GL _ _ _ _ _)
        refine L_reg ?_
        refine G_p (v := .lst (List.map encC [r121, r123]) false) rfl rfl rfl ?_
        refine G_p rfl rfl rfl ?_
        refine G_hn (H' := [(kg052 t1), kg050, .cells [.int .i64 0, .int .i64 0, .int .i64 0, .int .i64 0, .int .i64 0, .int .i64 0, .int .i64 2, .int .i64 0, .lst (List.map encC [r121, r123]) false, .int .i64 0, .int .i64 0, .lst [] true]]) rfl rfl rfl (fun _ => rfl) ?_
        refine G_nil ?_
        refine L_nil ?_
        exact Sm_norm (e2 := [(1, .int .i64 label2), (2, .ptr 0 0), (4, .ptr 1 0), (5, .ptr 2 0)]) (H1 := [(kg052 t1), kg050, .cells [.int .i64 0, .int .i64 0, .int .i64 0, .int .i64 0, .int .i64 0, .int .i64 0, .int .i64 2, .int .i64 0, .lst (List.map encC [r121, r123]) false, .int .i64 0, .int .i64 0, .lst [] true]]) (H2 := [(kg052 t1), kg050, .cells [.int .i64 0, .int .i64 0, .int .i64 0, .int .i64 0, .int .i64 0, .int .i64 0, .int .i64 2, .int .i64 0, .lst (List.map encC [r121, r123]) false, .int .i64 0, .int .i64 0, .lst [] true]]) (frz_c (frz_lstC (H2 := [(kg052 t1), kg050, .cells [.int .i64 0, .int .i64 0, .int .i64 0, .int .i64 0, .int .i64 0, .int .i64 0, .int .i64 2, .int .i64 0, .lst (List.map encC [r121, r123]) false, .int .i64 0, .int .i64 0, .lst [] true]]) rfl rfl rfl rfl) rfl) (by repeat (first | exact rzz | apply rcc rfl | apply rnn rfl)) rfl ⟨(2, [r121, r123]), rfl, rfl, hr⟩
      · refine L_F rfl hc30 ?_
        refine L_skip ?_
        refine L_nil ?_
        exact Sm_norm (e2 := [(1, .int .i64 label2), (2, .ptr 0 0), (4, .ptr 1 0), (5, .ptr 2 0)]) (H1 := [(kg052 t1), kg050, kg049]) (H2 := [(kg052 t1), kg050, .cells [.int .i64 0, .int .i64 0, .int .i64 0, .int .i64 0, .int .i64 0, .int .i64 0, .int .i64 0, .int .i64 0, .lst (List.map encC []) false, .int .i64 0, .int .i64 0, .lst [] true]]) (frz_c (frz_lstC (H2 := [(kg052 t1), kg050, kg049]) rfl rfl rfl rfl) rfl) (by repeat (first | exact rzz | apply rcc rfl | apply rnn rfl)) rfl ⟨(0, []), rfl, rfl, hr⟩
    · refine L_F rfl hc14 ?_
      refine L_skip ?_
      refine L_nil ?_
      exact Sm_norm (e2 := [(1, .int .i64 label2), (2, .ptr 0 0), (4, .ptr 1 0), (5, .ptr 2 0)]) (H1 := [(kg052 t1), kg050, kg049]) (H2 := [(kg052 t1), kg050, .cells [.int .i64 0, .int .i64 0, .int .i64 0, .int .i64 0, .int .i64 0, .int .i64 0, .int .i64 0, .int .i64 0, .lst (List.map encC []) false, .int .i64 0, .int .i64 0, .lst [] true]]) (frz_c (frz_lstC (H2 := [(kg052 t1), kg050, kg049]) rfl rfl rfl rfl) rfl) (by repeat (first | exact rzz | apply rcc rfl | apply rnn rfl)) rfl ⟨(0, []), rfl, rfl, hr⟩
  · rintro ⟨a8, l9⟩ hr
    show GL _ _ [(1, .int .i64 label2), (2, .ptr 0 0), (4, .ptr 1 0), (5, .ptr 2 0)] [(kg052 t1), kg050, (kg047 a8 l9)] _
    replace hr : g_r07_From_j5 rec_To rec_From t1 label2 a8 l9 = some r := hr
    unfold g_r07_From_j5 at hr
    refine L_seq ?_
    refine L_stmtJ (S := Int × List Co) (fun s => [(1, .int .i64 label2), (2, .ptr 0 0), (4, .ptr 1 0), (5, .ptr 2 0)]) (fun s => [(kg052 t1), kg050, .cells [.int .i64 0, .int .i64 0, .int .i64 0, .int .i64 0, .int .i64 0, .int .i64 0, .int .i64 s.1, .int .i64 0, .lst (List.map encC s.2) false, .int .i64 0, .int .i64 0, .lst [] true]]) (fun s => g_r07_From_j4 rec_To rec_From t1 label2 s.1 s.2 = some r) ?_ ?_
    · skip
      refine L_seq ?_
      refine L_stmt ?_
      refine L_reg ?_
      refine G_p rfl rfl rfl ?_
      refine G_h rfl rfl rfl (fun _ => rfl) ?_
      refine G_p rfl rfl rfl ?_
      refine G_nil ?_
      refine L_nil ?_
      refine Sm_norm (e2 := [(1, .int .i64 label2), (2, .ptr 0 0), (4, .ptr 1 0), (5, .ptr 2 0), (36, .bool (decide (t1.pair = 2)))]) (H1 := [(kg052 t1), kg050, (kg047 a8 l9)]) (H2 := [(kg052 t1), kg050, (kg047 a8 l9)]) rfl (by repeat (first | exact rzz | apply rcc rfl | apply rnn rfl)) rfl (?_ : GL _ _ _ _ _)
      rcases cond_s hr with ⟨hc36, hr⟩ | ⟨hc36, hr⟩
      · refine L_T rfl hc36 ?_
        refine L_seq ?_
        refine L_stmt ?_
        refine L_reg ?_
        refine G_p rfl rfl rfl ?_
        refine G_h (v := .lst (List.map encT t1.pairs) false) rfl rfl rfl (fun _ => rfl) ?_
        obtain ⟨e117, he117, hr⟩ := bind_s hr
        refine G_h (v := .ro [.bool e117.all, .int .i64 e117.flat, .int .i64 e117.pair, .lst (List.map encT e117.pairs) false, .int .i64 e117.fn, .lst (List.map encT e117.funs) false]) rfl rfl rfl (ia_ev (cells := [.bool e117.all, .int .i64 e117.flat, .int .i64 e117.pair, .lst (List.map encT e117.pairs) false, .int .i64 e117.fn, .lst (List.map encT e117.funs) false]) rfl rfl (idx_s he117).1 (map_get (x := e117) (idx_s he117).2) (encT_flat _) rfl) ?_
        refine G_h (v := .agg (cT e117)) rfl rfl rfl (fun _ => rfl) ?_
        refine G_p rfl rfl rfl ?_
        obtain ⟨r118, hr118, hr⟩ := bind_s hr
        refine G_c 15 rfl rfl (CA_of (as := [.agg (cT e117), .int .i64 label2]) rfl (hrec_From _ _ _ hr118)) ?_
        refine G_n (B := kg050) rfl rfl rfl ?_
        refine G_hn (H' := [(kg052 t1), kg050, (kg047 a8 l9), .cells [.int .i64 (r118.flat 0), .int .i64 (r118.flat 1), .int .i64 (r118.flat 2), .int .i64 (r118.flat 3), .int .i64 (r118.flat 4), .int .i64 (r118.flat 5), .int .i64 r118.pair, .int .i64 r118.plab, .lst (List.map encC r118.pairs) false, .int .i64 r118.fn, .int .i64 r118.flab, .lst (List.map encC r118.funs) false]]) rfl rfl rfl (fun _ => rfl) ?_
        refine G_nil ?_
        refine L_nil ?_
        refine Sm_norm (e2 := [(1, .int .i64 label2), (2, .ptr 0 0), (4, .ptr 1 0), (5, .ptr 2 0), (7, .ptr 3 0)]) (H1 := [(kg052 t1), kg050, (kg047 a8 l9), .cells [.int .i64 (r118.flat 0), .int .i64 (r118.flat 1), .int .i64 (r118.flat 2), .int .i64 (r118.flat 3), .int .i64 (r118.flat 4), .int .i64 (r118.flat 5), .int .i64 r118.pair, .int .i64 r118.plab, .lst (List.map encC r118.pairs) false, .int .i64 r118.fn, .int .i64 r118.flab, .lst (List.map encC r118.funs) false]]) (H2 := [(kg052 t1), kg050, (kg047 a8 l9), .cells [.int .i64 (r118.flat 0), .int .i64 (r118.flat 1), .int .i64 (r118.flat 2), .int .i64 (r118.flat 3), .int .i64 (r118.flat 4), .int .i64 (r118.flat 5), .int .i64 r118.pair, .int .i64 r118.plab, .lst (List.map encC r118.pairs) false, .int .i64 r118.fn, .int .i64 r118.flab, .lst (List.map encC r118.funs) false]]) rfl (by repeat (first | exact rzz | apply rcc rfl | apply rnn rfl)) rfl (?_ : GL _ _ _ _ _)
        refine L_seq ?_
        refine L_stmt ?_
        refine L_reg ?_
        refine G_h (v := .agg (cC r118)) rfl rfl rfl (fun _ => rfl) ?_
        obtain ⟨r119, hr119, hr⟩ := bind_s hr
        refine G_c 28 rfl rfl (CA_of (as := [.agg (cC r118)]) rfl (g_r07_Pass_ok hr119)) ?_
        refine G_p rfl rfl rfl ?_
        refine G_nil ?_
        refine L_nil ?_
        refine Sm_norm (e2 := [(1, .int .i64 label2), (2, .ptr 0 0), (4, .ptr 1 0), (5, .ptr 2 0), (7, .ptr 3 0), (45, .bool (!r119))]) (H1 := [(kg052 t1), kg050, (kg047 a8 l9), .cells [.int .i64 (r118.flat 0), .int .i64 (r118.flat 1), .int .i64 (r118.flat 2), .int .i64 (r118.flat 3), .int .i64 (r118.flat 4), .int .i64 (r118.flat 5), .int .i64 r118.pair, .int .i64 r118.plab, .lst (List.map encC r118.pairs) false, .int .i64 r118.fn, .int .i64 r118.flab, .lst (List.map encC r118.funs) false]]) (H2 := [(kg052 t1), kg050, (kg047 a8 l9), .cells [.int .i64 (r118.flat 0), .int .i64 (r118.flat 1), .int .i64 (r118.flat 2), .int .i64 (r118.flat 3), .int .i64 (r118.flat 4), .int .i64 (r118.flat 5), .int .i64 r118.pair, .int .i64 r118.plab, .lst (List.map encC r118.pairs) false, .int .i64 r118.fn, .int .i64 r118.flab, .lst (List.map encC r118.funs) false]]) rfl (by repeat (first | exact rzz | apply rcc rfl | apply rnn rfl)) rfl (?_ : GL _ _ _ _ _)
        rcases cond_s hr with ⟨hc45, hr⟩ | ⟨hc45, hr⟩
        · refine L_T rfl hc45 ?_
          refine L_seq ?_
          refine L_stmt ?_
          refine L_reg ?_
          refine G_p rfl rfl rfl ?_
          refine G_hn (H' := [(kg052 t1), kg050, (kg048 l9), .cells [.int .i64 (r118.flat 0), .int .i64 (r118.flat 1), .int .i64 (r118.flat 2), .int .i64 (r118.flat 3), .int .i64 (r118.flat 4), .int .i64 (r118.flat 5), .int .i64 r118.pair, .int .i64 r118.plab, .lst (List.map encC r118.pairs) false, .int .i64 r118.fn, .int .i64 r118.flab, .lst (List.map encC r118.funs) false]]) rfl rfl rfl (fun _ => rfl) ?_
          refine G_nil ?_
          refine L_nil ?_
          refine Sm_norm (e2 := [(1, .int .i64 label2), (2, .ptr 0 0), (4, .ptr 1 0), (5, .ptr 2 0), (7, .ptr 3 0)]) (H1 := [(kg052 t1), kg050, (kg048 l9), .cells [.int .i64 (r118.flat 0), .int .i64 (r118.flat 1), .int .i64 (r118.flat 2), .int .i64 (r118.flat 3), .int .i64 (r118.flat 4), .int .i64 (r118.flat 5), .int .i64 r118.pair, .int .i64 r118.plab, .lst (List.map encC r118.pairs) false, .int .i64 r118.fn, .int .i64 r118.flab, .lst (List.map encC r118.funs) false]]) (H2 := [(kg052 t1), kg050, (kg048 l9), .cells [.int .i64 (r118.flat 0), .int .i64 (r118.flat 1), .int .i64 (r118.flat 2), .int .i64 (r118.flat 3), .int .i64 (r118.flat 4), .int .i64 (r118.flat 5), .int .i64 r118.pair, .int .i64 r118.plab, .lst (List.map encC r118.pairs) false, .int .i64 r118.fn, .int .i64 r118.flab, .lst (List.map encC r118.funs) false]]) rfl (by repeat (first | exact rzz | apply rcc rfl | apply rnn rfl)) rfl (?_ : GL _ _ _ _ _)
          refine L_reg ?_
          refine G_h (v := .agg (cC r118)) rfl rfl rfl (fun _ => rfl) ?_
          refine G_h (v := .lst (List.map encC [r118]) true) rfl rfl rfl (fun _ => Eq.trans (b := some (Ex.ok (AVal.lst [.agg (cC r118)] true), _)) rfl (congrArg (fun z => some (Ex.ok (AVal.lst z true), _)) (by first | rfl | (simp only [List.map_cons, List.map_nil, encC_eq] <;> rfl)))) ?_
          refine G_p rfl rfl rfl ?_
          refine G_hn (H' := [(kg052 t1), kg050, .cells [.int .i64 0, .int .i64 0, .int .i64 0, .int .i64 0, .int .i64 0, .int .i64 0, .int .i64 3, .int .i64 0, .lst (List.map encC [r118]) true, .int .i64 0, .int .i64 0, .lst [] true], .cells [.int .i64 (r118.flat 0), .int .i64 (r118.flat 1), .int .i64 (r118.flat 2), .int .i64 (r118.flat 3), .int .i64 (r118.flat 4), .int .i64 (r118.flat 5), .int .i64 r118.pair, .int .i64 r118.plab, .lst (List.map encC r118.pairs) false, .int .i64 r118.fn, .int .i64 r118.flab, .lst (List.map encC r118.funs) false]]) rfl rfl rfl (fun _ => rfl) ?_
          refine G_nil ?_
          refine L_nil ?_
          exact Sm_norm (e2 := [(1, .int .i64 label2), (2, .ptr 0 0), (4, .ptr 1 0), (5, .ptr 2 0)]) (H1 := [(kg052 t1), kg050, .cells [.int .i64 0, .int .i64 0, .int .i64 0, .int .i64 0, .int .i64 0, .int .i64 0, .int .i64 3, .int .i64 0, .lst (List.map encC [r118]) false, .int .i64 0, .int .i64 0, .lst [] true], .cells [.int .i64 (r118.flat 0), .int .i64 (r118.flat 1), .int .i64 (r118.flat 2), .int .i64 (r118.flat 3), .int .i64 (r118.flat 4), .int .i64 (r118.flat 5), .int .i64 r118.pair, .int .i64 r118.plab, .lst (List.map encC r118.pairs) false, .int .i64 r118.fn, .int .i64 r118.flab, .lst (List.map encC r118.funs) false]]) (H2 := [(kg052 t1), kg050, .cells [.int .i64 0, .int .i64 0, .int .i64 0, .int .i64 0, .int .i64 0, .int .i64 0, .int .i64 3, .int .i64 0, .lst (List.map encC [r118]) false, .int .i64 0, .int .i64 0, .lst [] true]]) (frz_c (frz_lstC (H2 := [(kg052 t1), kg050, .cells [.int .i64 0, .int .i64 0, .int .i64 0, .int .i64 0, .int .i64 0, .int .i64 0, .int .i64 3, .int .i64 0, .lst (List.map encC [r118]) false, .int .i64 0, .int .i64 0, .lst [] true], .cells [.int .i64 (r118.flat 0), .int .i64 (r118.flat 1), .int .i64 (r118.flat 2), .int .i64 (r118.flat 3), .int .i64 (r118.flat 4), .int .i64 (r118.flat 5), .int .i64 r118.pair, .int .i64 r118.plab, .lst (List.map encC r118.pairs) false, .int .i64 r118.fn, .int .i64 r118.flab, .lst (List.map encC r118.funs) false]]) rfl rfl rfl rfl) rfl) (by repeat (first | exact rzz | apply rcc rfl | apply rnn rfl)) rfl ⟨(3, [r118]), rfl, rfl, hr⟩
        · refine L_F rfl hc45 ?_
          refine L_skip ?_
          refine L_nil ?_
          exact Sm_norm (e2 := [(1, .int .i64 label2), (2, .ptr 0 0), (4, .ptr 1 0), (5, .ptr 2 0)]) (H1 := [(kg052 t1), kg050, (kg047 a8 l9), .cells [.int .i64 (r118.flat 0), .int .i64 (r118.flat 1), .int .i64 (r118.flat 2), .int .i64 (r118.flat 3), .int .i64 (r118.flat 4), .int .i64 (r118.flat 5), .int .i64 r118.pair, .int .i64 r118.plab, .lst (List.map encC r118.pairs) false, .int .i64 r118.fn, .int .i64 r118.flab, .lst (List.map encC r118.funs) false]]) (H2 := [(kg052 t1), kg050, (kg047 a8 l9)]) (frz_c (frz_lstC (H2 := [(kg052 t1), kg050, (kg047 a8 l9), .cells [.int .i64 (r118.flat 0), .int .i64 (r118.flat 1), .int .i64 (r118.flat 2), .int .i64 (r118.flat 3), .int .i64 (r118.flat 4), .int .i64 (r118.flat 5), .int .i64 r118.pair, .int .i64 r118.plab, .lst (List.map encC r118.pairs) false, .int .i64 r118.fn, .int .i64 r118.flab, .lst (List.map encC r118.funs) false]]) rfl rfl rfl rfl) rfl) (by repeat (first | exact rzz | apply rcc rfl | apply rnn rfl)) rfl ⟨(a8, l9), rfl, rfl, hr⟩
      · refine L_F rfl hc36 ?_
        refine L_skip ?_
        refine L_nil ?_
        exact Sm_norm (e2 := [(1, .int .i64 label2), (2, .ptr 0 0), (4, .ptr 1 0), (5, .ptr 2 0)]) (H1 := [(kg052 t1), kg050, (kg047 a8 l9)]) (H2 := [(kg052 t1), kg050, (kg047 a8 l9)]) (frz_c (frz_lstC (H2 := [(kg052 t1), kg050, (kg047 a8 l9)]) rfl rfl rfl rfl) rfl) (by repeat (first | exact rzz | apply rcc rfl | apply rnn rfl)) rfl ⟨(a8, l9), rfl, rfl, hr⟩
    · rintro ⟨a13, l14⟩ hr
      show GL _ _ [(1, .int .i64 label2), (2, .ptr 0 0), (4, .ptr 1 0), (5, .ptr 2 0)] [(kg052 t1), kg050, (kg045 a13 l14)] _
      replace hr : g_r07_From_j4 rec_To rec_From t1 label2 a13 l14 = some r := hr
      unfold g_r07_From_j4 at hr
      refine L_seq ?_
      refine L_stmtJ (S := Int × List Co) (fun s => [(4, .ptr 1 0), (5, .ptr 2 0)]) (fun s => [(kg052 t1), kg050, .cells [.int .i64 0, .int .i64 0, .int .i64 0, .int .i64 0, .int .i64 0, .int .i64 0, .int .i64 a13, .int .i64 0, .lst (List.map encC l14) false, .int .i64 s.1, .int .i64 0, .lst (List.map encC s.2) false]]) (fun s => g_r07_From_j1 a13 l14 s.1 s.2 = some r) ?_ ?_
      · skip
        refine L_seq ?_
        refine L_stmt ?_
        refine L_reg ?_
        refine G_p rfl rfl rfl ?_
        refine G_h rfl rfl rfl (fun _ => rfl) ?_
        refine G_p rfl rfl rfl ?_
        refine G_nil ?_
        refine L_nil ?_
        refine Sm_norm (e2 := [(1, .int .i64 label2), (2, .ptr 0 0), (4, .ptr 1 0), (5, .ptr 2 0), (52, .bool (decide (t1.fn = 1)))]) (H1 := [(kg052 t1), kg050, (kg045 a13 l14)]) (H2 := [(kg052 t1), kg050, (kg045 a13 l14)]) rfl (by repeat (first | exact rzz | apply rcc rfl | apply rnn rfl)) rfl (?_ : GL _ _ _ _ _)
        rcases cond_s hr with ⟨hc52, hr⟩ | ⟨hc52, hr⟩
        · refine L_T rfl hc52 ?_
          refine L_seq ?_
          refine L_stmt ?_
          refine L_reg ?_
          refine G_p (v := .lst [] true) rfl rfl rfl ?_
          refine G_nil ?_
          refine L_nil ?_
          refine Sm_norm (e2 := [(1, .int .i64 label2), (2, .ptr 0 0), (4, .ptr 1 0), (5, .ptr 2 0), (8, .lst [] true)]) (H1 := [(kg052 t1), kg050, (kg045 a13 l14)]) (H2 := [(kg052 t1), kg050, (kg045 a13 l14)]) rfl (by repeat (first | exact rzz | apply rcc rfl | apply rnn rfl)) rfl (?_ : GL _ _ _ _ _)
          refine L_seq ?_
          refine L_stmt ?_
          refine L_reg ?_
          refine G_p rfl rfl rfl ?_
          refine G_h (v := .lst (List.map encT t1.funs) false) rfl rfl rfl (fun _ => rfl) ?_
          refine G_h rfl rfl rfl (lenL_ev rfl (List.length_map _)) ?_
          refine G_p rfl rfl rfl ?_
          refine G_p rfl rfl rfl ?_
          refine G_nil ?_
          refine L_nil ?_
          refine Sm_norm (e2 := [(1, .int .i64 label2), (2, .ptr 0 0), (4, .ptr 1 0), (5, .ptr 2 0), (8, .lst [] true), (9, .int .i64 (IntKind.wrap .i64 (((List.length t1.funs : Nat) : Int) - 1)))]) (H1 := [(kg052 t1), kg050, (kg045 a13 l14)]) (H2 := [(kg052 t1), kg050, (kg045 a13 l14)]) rfl (by repeat (first | exact rzz | apply rcc rfl | apply rnn rfl)) rfl (?_ : GL _ _ _ _ _)
          refine L_seq ?_
          refine L_stmtJ (S := List Co) (fun s => [(1, .int .i64 label2), (2, .ptr 0 0), (4, .ptr 1 0), (5, .ptr 2 0), (8, .gl 3 (List.length s)), (9, .int .i64 (IntKind.wrap .i64 (((List.length t1.funs : Nat) : Int) - 1)))]) (fun s => [(kg052 t1), kg050, (kg045 a13 l14), growM 12 encC s]) (fun s => g_r07_From_j2 rec_From t1 label2 a13 l14 s = some r) ?_ ?_
          · skip
            refine L_seq ?_
            refine L_stmt ?_
            refine L_reg ?_
            refine G_p rfl rfl rfl ?_
            refine G_nil ?_
            refine L_nil ?_
            refine Sm_norm (e2 := [(1, .int .i64 label2), (2, .ptr 0 0), (4, .ptr 1 0), (5, .ptr 2 0), (8, .lst [] true), (9, .int .i64 (IntKind.wrap .i64 (((List.length t1.funs : Nat) : Int) - 1))), (10, .int .i64 0)]) (H1 := [(kg052 t1), kg050, (kg045 a13 l14)]) (H2 := [(kg052 t1), kg050, (kg045 a13 l14)]) rfl (by repeat (first | exact rzz | apply rcc rfl | apply rnn rfl)) rfl (?_ : GL _ _ _ _ _)
            refine L_block ?_
            refine L_seq ?_
            refine L_own (H' := [(kg052 t1), kg050, (kg045 a13 l14), growM 12 encC []]) rfl ?_
            obtain ⟨hLq107, hr⟩ := guard_s hr
            replace hLq107 := okLen_s hLq107
            refine L_range (X := Nat) (S := List Co) (List.range (Int.toNat (IntKind.wrap .i64 (((List.length t1.funs : Nat) : Int) - 1)))) (fun i109 s => [(8, .gl 3 (List.length s)), (10, .int .i64 ((i109 : Nat) : Int)), (1, .int .i64 label2), (2, .ptr 0 0), (4, .ptr 1 0), (5, .ptr 2 0), (9, .int .i64 (IntKind.wrap .i64 (((List.length t1.funs : Nat) : Int) - 1)))]) (fun i109 s => [(kg052 t1), kg050, (kg045 a13 l14), growM 12 encC s]) (fun rest i109 s => g_r07_From_l3 rec_To rec_From t1 label2 a13 l14 rest i109 s = some r) ([]) ?_ rfl hr ?_ ?_
            · show restr _ _ = [(8, .gl 3 (List.length [])), (10, .int .i64 ((0 : Nat) : Int)), (1, .int .i64 label2), (2, .ptr 0 0), (4, .ptr 1 0), (5, .ptr 2 0), (9, .int .i64 (IntKind.wrap .i64 (((List.length t1.funs : Nat) : Int) - 1)))]
              (repeat (first | exact rzz | apply rcc rfl | apply rnn rfl))
            · rintro l97 hr
              show GL _ _ [(8, .gl 3 (List.length l97)), (10, .int .i64 (((List.length (List.range (Int.toNat (IntKind.wrap .i64 (((List.length t1.funs : Nat) : Int) - 1))))) : Nat) : Int)), (1, .int .i64 label2), (2, .ptr 0 0), (4, .ptr 1 0), (5, .ptr 2 0), (9, .int .i64 (IntKind.wrap .i64 (((List.length t1.funs : Nat) : Int) - 1)))] [(kg052 t1), kg050, (kg045 a13 l14), growM 12 encC l97] _
              replace hr : g_r07_From_l3 rec_To rec_From t1 label2 a13 l14 [] (List.length (List.range (Int.toNat (IntKind.wrap .i64 (((List.length t1.funs : Nat) : Int) - 1))))) l97 = some r := hr
              rw [g_r07_From_l3] at hr
              refine L_seq ?_
              refine L_stmt ?_
              refine L_seq ?_
              refine L_stmt ?_
              refine L_reg ?_
              refine G_p rfl rfl rfl ?_
              refine G_p rfl rfl rfl ?_
              refine G_v (.bool false) rfl rfl rfl (congrArg AVal.bool (decide_eq_false (by simp only [List.length_range]; omega))) ?_
              refine G_nil ?_
              refine L_nil ?_
              refine Sm_norm (e2 := [(1, .int .i64 label2), (2, .ptr 0 0), (4, .ptr 1 0), (5, .ptr 2 0), (8, .gl 3 (List.length l97)), (9, .int .i64 (IntKind.wrap .i64 (((List.length t1.funs : Nat) : Int) - 1))), (10, .int .i64 ((List.length (List.range (Int.toNat (IntKind.wrap .i64 (((List.length t1.funs : Nat) : Int) - 1)))) : Nat) : Int)), (59, .bool false)]) (H1 := [(kg052 t1), kg050, (kg045 a13 l14), growM 12 encC l97]) (H2 := [(kg052 t1), kg050, (kg045 a13 l14), growM 12 encC l97]) rfl (by repeat (first | exact rzz | apply rcc rfl | apply rnn rfl)) rfl (?_ : GL _ _ _ _ _)
              refine L_F rfl rfl ?_
              refine L_exit ?_
              refine Sm_exit ?_
              refine Rd_exit ?_
              refine Blk_exit (?_ : GL _ _ _ _ _)
              refine L_nil ?_
              exact Sm_norm (e2 := [(1, .int .i64 label2), (2, .ptr 0 0), (4, .ptr 1 0), (5, .ptr 2 0), (8, .gl 3 (List.length l97)), (9, .int .i64 (IntKind.wrap .i64 (((List.length t1.funs : Nat) : Int) - 1)))]) (H1 := [(kg052 t1), kg050, (kg045 a13 l14), growM 12 encC l97]) (H2 := [(kg052 t1), kg050, (kg045 a13 l14), growM 12 encC l97]) rfl (by repeat (first | exact rzz | apply rcc rfl | apply rnn rfl)) rfl ⟨l97, rfl, rfl, hr⟩
            · rintro y108 rest110 i109 l97 hy108 hlti109 hr
              show GL _ _ [(8, .gl 3 (List.length l97)), (10, .int .i64 ((i109 : Nat) : Int)), (1, .int .i64 label2), (2, .ptr 0 0), (4, .ptr 1 0), (5, .ptr 2 0), (9, .int .i64 (IntKind.wrap .i64 (((List.length t1.funs : Nat) : Int) - 1)))] [(kg052 t1), kg050, (kg045 a13 l14), growM 12 encC l97] _
              replace hr : g_r07_From_l3 rec_To rec_From t1 label2 a13 l14 (y108 :: rest110) i109 l97 = some r := hr
              rw [g_r07_From_l3] at hr
              refine L_seq ?_
              refine L_stmt ?_
              refine L_seq ?_
              refine L_stmt ?_
              refine L_reg ?_
              refine G_p rfl rfl rfl ?_
              refine G_p rfl rfl rfl ?_
              refine G_v (.bool true) rfl rfl rfl (congrArg AVal.bool (decide_eq_true (by have h0 := hlti109; simp only [List.length_range] at h0; omega))) ?_
              refine G_nil ?_
              refine L_nil ?_
              refine Sm_norm (e2 := [(1, .int .i64 label2), (2, .ptr 0 0), (4, .ptr 1 0), (5, .ptr 2 0), (8, .gl 3 (List.length l97)), (9, .int .i64 (IntKind.wrap .i64 (((List.length t1.funs : Nat) : Int) - 1))), (10, .int .i64 ((i109 : Nat) : Int)), (59, .bool true)]) (H1 := [(kg052 t1), kg050, (kg045 a13 l14), growM 12 encC l97]) (H2 := [(kg052 t1), kg050, (kg045 a13 l14), growM 12 encC l97]) rfl (by repeat (first | exact rzz | apply rcc rfl | apply rnn rfl)) rfl (?_ : GL _ _ _ _ _)
              refine L_T rfl rfl ?_
              refine L_skip ?_
              refine L_nil ?_
              refine Sm_norm (e2 := [(1, .int .i64 label2), (2, .ptr 0 0), (4, .ptr 1 0), (5, .ptr 2 0), (8, .gl 3 (List.length l97)), (9, .int .i64 (IntKind.wrap .i64 (((List.length t1.funs : Nat) : Int) - 1))), (10, .int .i64 ((i109 : Nat) : Int))]) (H1 := [(kg052 t1), kg050, (kg045 a13 l14), growM 12 encC l97]) (H2 := [(kg052 t1), kg050, (kg045 a13 l14), growM 12 encC l97]) rfl (by repeat (first | exact rzz | apply rcc rfl | apply rnn rfl)) rfl (?_ : GL _ _ _ _ _)
              refine L_seq ?_
              refine L_stmt ?_
              refine L_block ?_
              refine L_reg ?_
              refine G_p rfl rfl rfl ?_
              refine G_p rfl rfl rfl ?_
              refine G_h (v := .lst (List.map encT t1.funs) false) rfl rfl rfl (fun _ => rfl) ?_
              refine G_p rfl rfl rfl ?_
              obtain ⟨e114, he114, hr⟩ := bind_s hr
              refine G_h (v := .ro [.bool e114.all, .int .i64 e114.flat, .int .i64 e114.pair, .lst (List.map encT e114.pairs) false, .int .i64 e114.fn, .lst (List.map encT e114.funs) false]) rfl rfl rfl (ia_ev (cells := [.bool e114.all, .int .i64 e114.flat, .int .i64 e114.pair, .lst (List.map encT e114.pairs) false, .int .i64 e114.fn, .lst (List.map encT e114.funs) false]) rfl rfl (idx_s he114).1 (map_get (x := e114) (idx_s he114).2) (encT_flat _) rfl) ?_
              refine G_h (v := .agg (cT e114)) rfl rfl rfl (fun _ => rfl) ?_
              refine G_p rfl rfl rfl ?_
              obtain ⟨r115, hr115, hr⟩ := bind_s hr
              refine G_c 13 rfl rfl (CA_of (as := [.agg (cT e114), .int .i64 label2]) rfl (hrec_To _ _ _ hr115)) ?_
              refine G_h (v := .lst (List.map encC [r115]) true) rfl rfl rfl (fun _ => Eq.trans (b := some (Ex.ok (AVal.lst [.agg (cC r115)] true), _)) rfl (congrArg (fun z => some (Ex.ok (AVal.lst z true), _)) (by first | rfl | (simp only [List.map_cons, List.map_nil, encC_eq] <;> rfl)))) ?_
              obtain ⟨l116, hl116, hr⟩ := bind_s hr
              refine G_h rfl rfl rfl (appG_ev encC_w1 (by decide) rfl rfl rfl rfl hl116) ?_
              refine G_p rfl rfl rfl ?_
              refine G_nil ?_
              refine L_nil ?_
              refine Blk_norm (?_ : GL _ _ _ _ _)
              refine L_nil ?_
              refine Sm_norm (e2 := [(1, .int .i64 label2), (2, .ptr 0 0), (4, .ptr 1 0), (5, .ptr 2 0), (8, .gl 3 (List.length l116)), (9, .int .i64 (IntKind.wrap .i64 (((List.length t1.funs : Nat) : Int) - 1))), (10, .int .i64 ((i109 : Nat) : Int))]) (H1 := [(kg052 t1), kg050, (kg045 a13 l14), growM 12 encC l116]) (H2 := [(kg052 t1), kg050, (kg045 a13 l14), growM 12 encC l116]) rfl (by repeat (first | exact rzz | apply rcc rfl | apply rnn rfl)) rfl (?_ : GL _ _ _ _ _)
              refine L_reg ?_
              refine G_p rfl rfl rfl ?_
              refine G_v (.int .i64 ((i109 + 1 : Nat) : Int)) rfl rfl rfl (congrArg _ (wrap_next hLq107 hlti109)) ?_
              refine G_p rfl rfl rfl ?_
              refine G_nil ?_
              refine L_nil ?_
              refine Rd_norm ⟨l116, ?_, rfl, hr⟩
              show restr _ _ = [(8, .gl 3 (List.length l116)), (10, .int .i64 (((i109 + 1) : Nat) : Int)), (1, .int .i64 label2), (2, .ptr 0 0), (4, .ptr 1 0), (5, .ptr 2 0), (9, .int .i64 (IntKind.wrap .i64 (((List.length t1.funs : Nat) : Int) - 1)))]
              (repeat (first | exact rzz | apply rcc rfl | apply rnn rfl))
          · rintro l81 hr
            show GL _ _ [(1, .int .i64 label2), (2, .ptr 0 0), (4, .ptr 1 0), (5, .ptr 2 0), (8, .gl 3 (List.length l81)), (9, .int .i64 (IntKind.wrap .i64 (((List.length t1.funs : Nat) : Int) - 1)))] [(kg052 t1), kg050, (kg045 a13 l14), growM 12 encC l81] _
            replace hr : g_r07_From_j2 rec_From t1 label2 a13 l14 l81 = some r := hr
            unfold g_r07_From_j2 at hr
            refine L_seq ?_
            refine L_stmt ?_
            refine L_reg ?_
            refine G_p rfl rfl rfl ?_
            refine G_p rfl rfl rfl ?_
            refine G_h (v := .lst (List.map encT t1.funs) false) rfl rfl rfl (fun _ => rfl) ?_
            refine G_p rfl rfl rfl ?_
            obtain ⟨e85, he85, hr⟩ := bind_s hr
            refine G_h (v := .ro [.bool e85.all, .int .i64 e85.flat, .int .i64 e85.pair, .lst (List.map encT e85.pairs) false, .int .i64 e85.fn, .lst (List.map encT e85.funs) false]) rfl rfl rfl (ia_ev (cells := [.bool e85.all, .int .i64 e85.flat, .int .i64 e85.pair, .lst (List.map encT e85.pairs) false, .int .i64 e85.fn, .lst (List.map encT e85.funs) false]) rfl rfl (idx_s he85).1 (map_get (x := e85) (idx_s he85).2) (encT_flat _) rfl) ?_
            refine G_h (v := .agg (cT e85)) rfl rfl rfl (fun _ => rfl) ?_
            refine G_p rfl rfl rfl ?_
            obtain ⟨r86, hr86, hr⟩ := bind_s hr
            refine G_c 15 rfl rfl (CA_of (as := [.agg (cT e85), .int .i64 label2]) rfl (hrec_From _ _ _ hr86)) ?_
            refine G_h (v := .lst (List.map encC [r86]) true) rfl rfl rfl (fun _ => Eq.trans (b := some (Ex.ok (AVal.lst [.agg (cC r86)] true), _)) rfl (congrArg (fun z => some (Ex.ok (AVal.lst z true), _)) (by first | rfl | (simp only [List.map_cons, List.map_nil, encC_eq] <;> rfl)))) ?_
            obtain ⟨l87, hl87, hr⟩ := bind_s hr
            refine G_h rfl rfl rfl (appG_ev encC_w1 (by decide) rfl rfl rfl rfl hl87) ?_
            refine G_p rfl rfl rfl ?_
            refine G_nil ?_
            refine L_nil ?_
            refine Sm_norm (e2 := [(4, .ptr 1 0), (5, .ptr 2 0), (8, .lst (List.map encC l87) false)]) (H1 := [(kg052 t1), kg050, (kg045 a13 l14), growM 12 encC l87]) (H2 := [(kg052 t1), kg050, (kg045 a13 l14), growM 12 encC l87]) (frz_c (frz_gl rfl rfl) rfl) (by repeat (first | exact rzz | apply rcc rfl | apply rnn rfl)) rfl (?_ : GL _ _ _ _ _)
            refine L_seq ?_
            refine L_stmt ?_
            refine L_reg ?_
            refine G_p (v := .lst (List.map encC l87) false) rfl rfl rfl ?_
            obtain ⟨r88, hr88, hr⟩ := bind_s hr
            refine G_c 44 rfl rfl (CA_of (as := [.lst (List.map encC l87) false]) rfl (g_r07_all_ok hr88)) ?_
            refine G_p rfl rfl rfl ?_
            refine G_nil ?_
            refine L_nil ?_
            refine Sm_norm (e2 := [(4, .ptr 1 0), (5, .ptr 2 0), (8, .lst (List.map encC l87) false), (84, .bool (!r88))]) (H1 := [(kg052 t1), kg050, (kg045 a13 l14), growM 12 encC l87]) (H2 := [(kg052 t1), kg050, (kg045 a13 l14), growM 12 encC l87]) rfl (by repeat (first | exact rzz | apply rcc rfl | apply rnn rfl)) rfl (?_ : GL _ _ _ _ _)
            rcases cond_s hr with ⟨hc84, hr⟩ | ⟨hc84, hr⟩
            · refine L_T rfl hc84 ?_
              refine L_seq ?_
              refine L_stmt ?_
              refine L_reg ?_
              refine G_p rfl rfl rfl ?_
              refine G_hn (H' := [(kg052 t1), kg050, (kg046 a13 l14), growM 12 encC l87]) rfl rfl rfl (fun _ => rfl) ?_
              refine G_nil ?_
              refine L_nil ?_
              refine Sm_norm (e2 := [(4, .ptr 1 0), (5, .ptr 2 0), (8, .lst (List.map encC l87) false)]) (H1 := [(kg052 t1), kg050, (kg046 a13 l14), growM 12 encC l87]) (H2 := [(kg052 t1), kg050, (kg046 a13 l14), growM 12 encC l87]) rfl (by repeat (first | exact rzz | apply rcc rfl | apply rnn rfl)) rfl (?_ : GL _ _ _ _ _)
              refine L_reg ?_
              refine G_p (v := .lst (List.map encC l87) false) rfl rfl rfl ?_
              refine G_p rfl rfl rfl ?_
              refine G_hn (H' := [(kg052 t1), kg050, .cells [.int .i64 0, .int .i64 0, .int .i64 0, .int .i64 0, .int .i64 0, .int .i64 0, .int .i64 a13, .int .i64 0, .lst (List.map encC l14) false, .int .i64 2, .int .i64 0, .lst (List.map encC l87) false], growM 12 encC l87]) rfl rfl rfl (fun _ => rfl) ?_
              refine G_nil ?_
              refine L_nil ?_
              exact Sm_norm (e2 := [(4, .ptr 1 0), (5, .ptr 2 0)]) (H1 := [(kg052 t1), kg050, .cells [.int .i64 0, .int .i64 0, .int .i64 0, .int .i64 0, .int .i64 0, .int .i64 0, .int .i64 a13, .int .i64 0, .lst (List.map encC l14) false, .int .i64 2, .int .i64 0, .lst (List.map encC l87) false], growM 12 encC l87]) (H2 := [(kg052 t1), kg050, .cells [.int .i64 0, .int .i64 0, .int .i64 0, .int .i64 0, .int .i64 0, .int .i64 0, .int .i64 a13, .int .i64 0, .lst (List.map encC l14) false, .int .i64 2, .int .i64 0, .lst (List.map encC l87) false]]) (frz_c (frz_lstC (H2 := [(kg052 t1), kg050, .cells [.int .i64 0, .int .i64 0, .int .i64 0, .int .i64 0, .int .i64 0, .int .i64 0, .int .i64 a13, .int .i64 0, .lst (List.map encC l14) false, .int .i64 2, .int .i64 0, .lst (List.map encC l87) false], growM 12 encC l87]) rfl rfl rfl rfl) rfl) (by repeat (first | exact rzz | apply rcc rfl | apply rnn rfl)) rfl ⟨(2, l87), rfl, rfl, hr⟩
            · refine L_F rfl hc84 ?_
              refine L_skip ?_
              refine L_nil ?_
              exact Sm_norm (e2 := [(4, .ptr 1 0), (5, .ptr 2 0)]) (H1 := [(kg052 t1), kg050, (kg044 a13 l14), growM 12 encC l87]) (H2 := [(kg052 t1), kg050, .cells [.int .i64 0, .int .i64 0, .int .i64 0, .int .i64 0, .int .i64 0, .int .i64 0, .int .i64 a13, .int .i64 0, .lst (List.map encC l14) false, .int .i64 0, .int .i64 0, .lst (List.map encC []) false]]) (frz_c (frz_lstC (H2 := [(kg052 t1), kg050, (kg044 a13 l14), growM 12 encC l87]) rfl rfl rfl rfl) rfl) (by repeat (first | exact rzz | apply rcc rfl | apply rnn rfl)) rfl ⟨(0, []), rfl, rfl, hr⟩
        · refine L_F rfl hc52 ?_
          refine L_skip ?_
          refine L_nil ?_
          exact Sm_norm (e2 := [(4, .ptr 1 0), (5, .ptr 2 0)]) (H1 := [(kg052 t1), kg050, (kg044 a13 l14)]) (H2 := [(kg052 t1), kg050, .cells [.int .i64 0, .int .i64 0, .int .i64 0, .int .i64 0, .int .i64 0, .int .i64 0, .int .i64 a13, .int .i64 0, .lst (List.map encC l14) false, .int .i64 0, .int .i64 0, .lst (List.map encC []) false]]) (frz_c (frz_lstC (H2 := [(kg052 t1), kg050, (kg044 a13 l14)]) rfl rfl rfl rfl) rfl) (by repeat (first | exact rzz | apply rcc rfl | apply rnn rfl)) rfl ⟨(0, []), rfl, rfl, hr⟩
      · rintro ⟨a51, l52⟩ hr
        show GL _ _ [(4, .ptr 1 0), (5, .ptr 2 0)] [(kg052 t1), kg050, (kg043 a13 l14 a51 l52)] _
        replace hr : g_r07_From_j1 a13 l14 a51 l52 = some r := hr
        unfold g_r07_From_j1 at hr
        refine L_seq ?_
        refine L_reg ?_
        refine G_h (v := .agg [.int .i64 0, .int .i64 0, .int .i64 0, .int .i64 0, .int .i64 0, .int .i64 0, .int .i64 a13, .int .i64 0, .lst (List.map encC l14) false, .int .i64 a51, .int .i64 0, .lst (List.map encC l52) false]) rfl rfl rfl (fun _ => rfl) ?_
        refine G_hn (H' := [(kg052 t1), (kg043 a13 l14 a51 l52), (kg043 a13 l14 a51 l52)]) rfl rfl rfl (fun _ => rfl) ?_
        refine G_nil ?_
        refine L_ret ?_
        have hr := some_s hr
        subst hr
        exact ⟨_, rfl, _, rfl, rfl⟩
def g_c_To_From : Nat → (Ty → Int → Option Co) × (Ty → Int → Option Co)
  | 0 => (fun _ _ => none, fun _ _ => none)
  | n + 1 => (g_r07_To_b (g_c_To_From n).1 (g_c_To_From n).2, g_r07_From_b (g_c_To_From n).1 (g_c_To_From n).2)
theorem g_c_To_From_ok : ∀ (n : Nat), (∀ (t1 : Ty) (label2 : Int) (r : Co), (g_c_To_From n).1 t1 label2 = some r → PRes (tabOf tabL) 13 [.agg (cT t1), .int .i64 label2] (.agg (cC r))) ∧ (∀ (t1 : Ty) (label2 : Int) (r : Co), (g_c_To_From n).2 t1 label2 = some r → PRes (tabOf tabL) 15 [.agg (cT t1), .int .i64 label2] (.agg (cC r)))
  | 0 => ⟨fun _ _ _ h => (by cases h), fun _ _ _ h => (by cases h)⟩
  | n + 1 => ⟨fun _ _ _ h => g_r07_To_b_ok (g_c_To_From_ok n).1 (g_c_To_From_ok n).2 h, fun _ _ _ h => g_r07_From_b_ok (g_c_To_From_ok n).1 (g_c_To_From_ok n).2 h⟩
def g_r07_Compose_j1 (a27 : Int) (a28 : Int) (a29 : Int) (a30 : Int) (a31 : Int) (a32 : Int) (a52 : Int) (a53 : Int) (l54 : List Co) (a65 : Int) (a106 : Int) (l107 : List Co) : Option Co :=
  some (Co.mk (sixF a27 a28 a29 a30 a31 a32) a52 a53 l54 a106 a65 l107)
def g_r07_Compose_j2 (rec : Co → Co → Option Co) (c1 : Co) (d2 : Co) (a27 : Int) (a28 : Int) (a29 : Int) (a30 : Int) (a31 : Int) (a32 : Int) (a52 : Int) (a53 : Int) (l54 : List Co) (a65 : Int) (l142 : List Co) : Option Co :=
  ((idx c1.funs (IntKind.wrap .i64 (((List.length c1.funs : Nat) : Int) - 1))).bind fun e143 => ((idx d2.funs (IntKind.wrap .i64 (((List.length c1.funs : Nat) : Int) - 1))).bind fun e144 => ((rec e143 e144).bind fun r145 => ((catL l142 [r145]).bind fun l146 => g_r07_Compose_j1 a27 a28 a29 a30 a31 a32 a52 a53 l54 a65 2 l146))))
def g_r07_Compose_l3 (rec : Co → Co → Option Co) (c1 : Co) (d2 : Co) (a27 : Int) (a28 : Int) (a29 : Int) (a30 : Int) (a31 : Int) (a32 : Int) (a52 : Int) (a53 : Int) (l54 : List Co) (a65 : Int) : List Nat → Nat → (List Co) → Option Co
  | [], _, l157 => g_r07_Compose_j2 rec c1 d2 a27 a28 a29 a30 a31 a32 a52 a53 l54 a65 l157
  | y170 :: rest172, i171, l157 => ((idx d2.funs ((i171 : Nat) : Int)).bind fun e177 => ((idx c1.funs ((i171 : Nat) : Int)).bind fun e178 => ((rec e177 e178).bind fun r179 => ((catL l157 [r179]).bind fun l180 => g_r07_Compose_l3 rec c1 d2 a27 a28 a29 a30 a31 a32 a52 a53 l54 a65 rest172 (i171 + 1) l180))))
def g_r07_Compose_j4 (rec : Co → Co → Option Co) (c1 : Co) (d2 : Co) (a27 : Int) (a28 : Int) (a29 : Int) (a30 : Int) (a31 : Int) (a32 : Int) (a52 : Int) (a53 : Int) (l54 : List Co) (a55 : Int) (a56 : Int) (a57 : Int) (a58 : Int) (a59 : Int) (a60 : Int) (a61 : Int) (a62 : Int) (l63 : List Co) (a64 : Int) (a65 : Int) (l66 : List Co) : Option Co :=
  (cond ((decide (2 ≤ c1.fn)) && (decide (2 ≤ d2.fn))) (cond (((decide (c1.fn = 2)) && (decide (d2.fn = 2))) && (decide (((List.length c1.funs : Nat) : Int) = ((List.length d2.funs : Nat) : Int)))) (cond (okLen (List.range (Int.toNat (IntKind.wrap .i64 (((List.length c1.funs : Nat) : Int) - 1))))) (g_r07_Compose_l3 rec c1 d2 a27 a28 a29 a30 a31 a32 a52 a53 l54 a65 (List.range (Int.toNat (IntKind.wrap .i64 (((List.length c1.funs : Nat) : Int) - 1)))) 0 []) none) (g_r07_Compose_j1 a27 a28 a29 a30 a31 a32 a52 a53 l54 a65 3 [])) (g_r07_Compose_j1 a27 a28 a29 a30 a31 a32 a52 a53 l54 a65 a64 l66))
def g_r07_Compose_j5 (rec : Co → Co → Option Co) (c1 : Co) (d2 : Co) (a27 : Int) (a28 : Int) (a29 : Int) (a30 : Int) (a31 : Int) (a32 : Int) (a52 : Int) (a53 : Int) (l54 : List Co) : Option Co :=
  (cond ((!decide (c1.fn = 1)) && (!decide (d2.fn = 0))) (g_r07_Compose_j4 rec c1 d2 a27 a28 a29 a30 a31 a32 a52 a53 l54 (d2.flat 0) (d2.flat 1) (d2.flat 2) (d2.flat 3) (d2.flat 4) (d2.flat 5) d2.pair d2.plab d2.pairs d2.fn d2.flab d2.funs) (g_r07_Compose_j4 rec c1 d2 a27 a28 a29 a30 a31 a32 a52 a53 l54 (c1.flat 0) (c1.flat 1) (c1.flat 2) (c1.flat 3) (c1.flat 4) (c1.flat 5) c1.pair c1.plab c1.pairs c1.fn c1.flab c1.funs))
def g_r07_Compose_j6 (rec : Co → Co → Option Co) (c1 : Co) (d2 : Co) (a27 : Int) (a28 : Int) (a29 : Int) (a30 : Int) (a31 : Int) (a32 : Int) (a33 : Int) (a34 : Int) (a35 : Int) (a36 : Int) (a37 : Int) (a38 : Int) (a39 : Int) (a40 : Int) (l41 : List Co) (a42 : Int) (a43 : Int) (l44 : List Co) : Option Co :=
  (cond ((decide (2 ≤ c1.pair)) && (decide (2 ≤ d2.pair))) ((g_r07_Car c1).bind fun r181 => ((g_r07_Car d2).bind fun r182 => ((rec r181 r182).bind fun r183 => (cond ((decide (c1.pair = 3)) && (decide (d2.pair = 3))) ((g_r07_either c1.plab d2.plab).bind fun r184 => g_r07_Compose_j5 rec c1 d2 a27 a28 a29 a30 a31 a32 3 r184 [r183]) ((g_r07_Cdr c1).bind fun r185 => ((g_r07_Cdr d2).bind fun r186 => ((rec r185 r186).bind fun r187 => g_r07_Compose_j5 rec c1 d2 a27 a28 a29 a30 a31 a32 2 0 [r183, r187]))))))) (g_r07_Compose_j5 rec c1 d2 a27 a28 a29 a30 a31 a32 a39 a40 l41))
def g_r07_Compose_j7 (rec : Co → Co → Option Co) (c1 : Co) (d2 : Co) (a27 : Int) (a28 : Int) (a29 : Int) (a30 : Int) (a31 : Int) (a32 : Int) : Option Co :=
  (cond ((!decide (c1.pair = 1)) && (!decide (d2.pair = 0))) (g_r07_Compose_j6 rec c1 d2 a27 a28 a29 a30 a31 a32 (d2.flat 0) (d2.flat 1) (d2.flat 2) (d2.flat 3) (d2.flat 4) (d2.flat 5) d2.pair d2.plab d2.pairs d2.fn d2.flab d2.funs) (g_r07_Compose_j6 rec c1 d2 a27 a28 a29 a30 a31 a32 (c1.flat 0) (c1.flat 1) (c1.flat 2) (c1.flat 3) (c1.flat 4) (c1.flat 5) c1.pair c1.plab c1.pairs c1.fn c1.flab c1.funs))
def g_r07_Compose_b (rec : Co → Co → Option Co) (c1 : Co) (d2 : Co) : Option Co :=
  ((g_r07_either (c1.flat 0) (d2.flat 0)).bind fun r201 => ((g_r07_either (c1.flat 1) (d2.flat 1)).bind fun r203 => ((g_r07_either (c1.flat 2) (d2.flat 2)).bind fun r205 => ((g_r07_either (c1.flat 3) (d2.flat 3)).bind fun r207 => ((g_r07_either (c1.flat 4) (d2.flat 4)).bind fun r209 => ((g_r07_either (c1.flat 5) (d2.flat 5)).bind fun r211 => g_r07_Compose_j7 rec c1 d2 r201 r203 r205 r207 r209 r211))))))
abbrev kg053 (c1 : Co) : ABlock := .cells [.int .i64 (c1.flat 0), .int .i64 (c1.flat 1), .int .i64 (c1.flat 2), .int .i64 (c1.flat 3), .int .i64 (c1.flat 4), .int .i64 (c1.flat 5), .int .i64 c1.pair, .int .i64 c1.plab, .lst (List.map encC c1.pairs) false, .int .i64 c1.fn, .int .i64 c1.flab, .lst (List.map encC c1.funs) false]
abbrev kg054 (d2 : Co) : ABlock := .cells [.int .i64 (d2.flat 0), .int .i64 (d2.flat 1), .int .i64 (d2.flat 2), .int .i64 (d2.flat 3), .int .i64 (d2.flat 4), .int .i64 (d2.flat 5), .int .i64 d2.pair, .int .i64 d2.plab, .lst (List.map encC d2.pairs) false, .int .i64 d2.fn, .int .i64 d2.flab, .lst (List.map encC d2.funs) false]
abbrev kg055 (a27 : Int) (a28 : Int) (a29 : Int) (a30 : Int) (a31 : Int) (a32 : Int) (a52 : Int) (a53 : Int) (l54 : List Co) (a106 : Int) (a65 : Int) (l107 : List Co) : ABlock := .cells [.int .i64 a27, .int .i64 a28, .int .i64 a29, .int .i64 a30, .int .i64 a31, .int .i64 a32, .int .i64 a52, .int .i64 a53, .lst (List.map encC l54) false, .int .i64 a106, .int .i64 a65, .lst (List.map encC l107) false]
abbrev kg056 (a33 : Int) (a34 : Int) (a35 : Int) (a36 : Int) (a37 : Int) (a38 : Int) (a39 : Int) (a40 : Int) (l41 : List Co) (a42 : Int) (a43 : Int) (l44 : List Co) : ABlock := .cells [.int .i64 a33, .int .i64 a34, .int .i64 a35, .int .i64 a36, .int .i64 a37, .int .i64 a38, .int .i64 a39, .int .i64 a40, .lst (List.map encC l41) false, .int .i64 a42, .int .i64 a43, .lst (List.map encC l44) false]
abbrev kg057 (a55 : Int) (a56 : Int) (a57 : Int) (a58 : Int) (a59 : Int) (a60 : Int) (a61 : Int) (a62 : Int) (l63 : List Co) (a64 : Int) (a65 : Int) (l66 : List Co) : ABlock := .cells [.int .i64 a55, .int .i64 a56, .int .i64 a57, .int .i64 a58, .int .i64 a59, .int .i64 a60, .int .i64 a61, .int .i64 a62, .lst (List.map encC l63) false, .int .i64 a64, .int .i64 a65, .lst (List.map encC l66) false]
abbrev kg058 (a27 : Int) (a28 : Int) (a29 : Int) (a30 : Int) (a31 : Int) (a32 : Int) (a52 : Int) (a53 : Int) (l54 : List Co) (a64 : Int) (a65 : Int) (l66 : List Co) : ABlock := .cells [.int .i64 a27, .int .i64 a28, .int .i64 a29, .int .i64 a30, .int .i64 a31, .int .i64 a32, .int .i64 a52, .int .i64 a53, .lst (List.map encC l54) false, .int .i64 a64, .int .i64 a65, .lst (List.map encC l66) false]
abbrev kg059 (a27 : Int) (a28 : Int) (a29 : Int) (a30 : Int) (a31 : Int) (a32 : Int) (a52 : Int) (a53 : Int) (l54 : List Co) (a65 : Int) (l66 : List Co) : ABlock := .cells [.int .i64 a27, .int .i64 a28, .int .i64 a29, .int .i64 a30, .int .i64 a31, .int .i64 a32, .int .i64 a52, .int .i64 a53, .lst (List.map encC l54) false, .int .i64 3, .int .i64 a65, .lst (List.map encC l66) false]
abbrev kg060 (a27 : Int) (a28 : Int) (a29 : Int) (a30 : Int) (a31 : Int) (a32 : Int) (a52 : Int) (a53 : Int) (l54 : List Co) (a64 : Int) (a65 : Int) : ABlock := .cells [.int .i64 a27, .int .i64 a28, .int .i64 a29, .int .i64 a30, .int .i64 a31, .int .i64 a32, .int .i64 a52, .int .i64 a53, .lst (List.map encC l54) false, .int .i64 a64, .int .i64 a65, .lst [] true]
abbrev kg061 (a27 : Int) (a28 : Int) (a29 : Int) (a30 : Int) (a31 : Int) (a32 : Int) (a52 : Int) (a53 : Int) (l54 : List Co) (a64 : Int) : ABlock := .cells [.int .i64 a27, .int .i64 a28, .int .i64 a29, .int .i64 a30, .int .i64 a31, .int .i64 a32, .int .i64 a52, .int .i64 a53, .lst (List.map encC l54) false, .int .i64 a64, .int .i64 0, .lst [] true]
abbrev kg062 (a27 : Int) (a28 : Int) (a29 : Int) (a30 : Int) (a31 : Int) (a32 : Int) (a52 : Int) (a53 : Int) (l54 : List Co) (a65 : Int) : ABlock := .cells [.int .i64 a27, .int .i64 a28, .int .i64 a29, .int .i64 a30, .int .i64 a31, .int .i64 a32, .int .i64 a52, .int .i64 a53, .lst (List.map encC l54) false, .int .i64 3, .int .i64 a65, .lst [] true]
abbrev kg063 (a27 : Int) (a28 : Int) (a29 : Int) (a30 : Int) (a31 : Int) (a32 : Int) (a52 : Int) (a53 : Int) (l54 : List Co) (a65 : Int) : ABlock := .cells [.int .i64 a27, .int .i64 a28, .int .i64 a29, .int .i64 a30, .int .i64 a31, .int .i64 a32, .int .i64 a52, .int .i64 a53, .lst (List.map encC l54) false, .int .i64 2, .int .i64 a65, .lst [] true]
abbrev kg064 (a27 : Int) (a28 : Int) (a29 : Int) (a30 : Int) (a31 : Int) (a32 : Int) (a39 : Int) (a40 : Int) (l41 : List Co) : ABlock := .cells [.int .i64 a27, .int .i64 a28, .int .i64 a29, .int .i64 a30, .int .i64 a31, .int .i64 a32, .int .i64 a39, .int .i64 a40, .lst (List.map encC l41) false, .int .i64 0, .int .i64 0, .lst [] true]
abbrev kg065 (a27 : Int) (a28 : Int) (a29 : Int) (a30 : Int) (a31 : Int) (a32 : Int) (a52 : Int) (a53 : Int) (l54 : List Co) : ABlock := .cells [.int .i64 a27, .int .i64 a28, .int .i64 a29, .int .i64 a30, .int .i64 a31, .int .i64 a32, .int .i64 a52, .int .i64 a53, .lst (List.map encC l54) false, .int .i64 0, .int .i64 0, .lst [] true]
abbrev kg066 (a27 : Int) (a28 : Int) (a29 : Int) (a30 : Int) (a31 : Int) (a32 : Int) (a39 : Int) (l41 : List Co) : ABlock := .cells [.int .i64 a27, .int .i64 a28, .int .i64 a29, .int .i64 a30, .int .i64 a31, .int .i64 a32, .int .i64 a39, .int .i64 0, .lst (List.map encC l41) false, .int .i64 0, .int .i64 0, .lst [] true]
abbrev kg067 (a27 : Int) (a28 : Int) (a29 : Int) (a30 : Int) (a31 : Int) (a32 : Int) (l41 : List Co) : ABlock := .cells [.int .i64 a27, .int .i64 a28, .int .i64 a29, .int .i64 a30, .int .i64 a31, .int .i64 a32, .int .i64 2, .int .i64 0, .lst (List.map encC l41) false, .int .i64 0, .int .i64 0, .lst [] true]
abbrev kg068 (a27 : Int) (a28 : Int) (a29 : Int) (a30 : Int) (a31 : Int) (a32 : Int) (a39 : Int) (a40 : Int) : ABlock := .cells [.int .i64 a27, .int .i64 a28, .int .i64 a29, .int .i64 a30, .int .i64 a31, .int .i64 a32, .int .i64 a39, .int .i64 a40, .lst [] true, .int .i64 0, .int .i64 0, .lst [] true]
abbrev kg069 (a27 : Int) (a28 : Int) (a29 : Int) (a30 : Int) (a31 : Int) (a32 : Int) (a39 : Int) : ABlock := .cells [.int .i64 a27, .int .i64 a28, .int .i64 a29, .int .i64 a30, .int .i64 a31, .int .i64 a32, .int .i64 a39, .int .i64 0, .lst [] true, .int .i64 0, .int .i64 0, .lst [] true]
abbrev kg070 (a27 : Int) (a28 : Int) (a29 : Int) (a30 : Int) (a31 : Int) (a32 : Int) : ABlock := .cells [.int .i64 a27, .int .i64 a28, .int .i64 a29, .int .i64 a30, .int .i64 a31, .int .i64 a32, .int .i64 0, .int .i64 0, .lst [] true, .int .i64 0, .int .i64 0, .lst [] true]
abbrev kg071 : ABlock := .cells [.int .i64 0, .int .i64 0, .int .i64 0, .int .i64 0, .int .i64 0, .int .i64 0, .int .i64 0, .int .i64 0, .lst [] true, .int .i64 0, .int .i64 0, .lst [] true]
abbrev kg072 (c1 : Co) : List (Nat × AVal) := [(2, .ptr 0 0), (3, .ptr 1 0), (4, .ptr 2 0), (5, .ptr 3 0), (9, .int .i64 (IntKind.wrap .i64 (((List.length c1.funs : Nat) : Int) - 1)))]
abbrev kg073 : List (Nat × AVal) := [(2, .ptr 0 0), (3, .ptr 1 0), (4, .ptr 2 0), (5, .ptr 3 0), (6, .int .i64 0)]
abbrev kg074 : List (Nat × AVal) := [(2, .ptr 0 0), (3, .ptr 1 0), (4, .ptr 2 0), (5, .ptr 3 0), (7, .ptr 4 0)]
abbrev kg075 : List (Nat × AVal) := [(2, .ptr 0 0), (3, .ptr 1 0), (4, .ptr 2 0), (5, .ptr 3 0), (8, .ptr 5 0)]
end Go.Ev.Seat
