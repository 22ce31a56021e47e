/-
  Part 6 of a proof: CodeAsks: for every input the law returns true, and what it was given reads behind the call as before. No conditions beyond the row's own.
-/
import Derived.Test.YtakcfihmibploaaGreatDoorP5
import Derived.OpenShut
namespace Go.Ev.Seat
set_option linter.unusedVariables false
set_option linter.unusedSimpArgs false
open Go Go.Ev
set_option maxRecDepth 20000
attribute [local irreducible] pcall callF
noncomputable def y1z : Option (List (List UInt8)) :=
  some [([99, 111, 110, 115, 116] : List UInt8), ([109, 111, 118, 101] : List UInt8), ([102, 114, 101, 101] : List UInt8), ([98, 111, 120] : List UInt8), ([117, 110, 98, 111, 120] : List UInt8), ([115, 101, 116, 45, 98, 111, 120] : List UInt8), ([103, 108, 111, 98, 97, 108] : List UInt8), ([100, 101, 102, 105, 110, 101] : List UInt8), ([106, 117, 109, 112] : List UInt8), ([102, 97, 108, 115, 101] : List UInt8), ([99, 108, 111, 115, 101] : List UInt8), ([112, 114, 105, 109] : List UInt8), ([102, 97, 115, 116] : List UInt8), ([99, 97, 108, 108] : List UInt8), ([102, 97, 115, 116, 45, 99, 97, 108, 108] : List UInt8), ([116, 97, 105, 108] : List UInt8), ([102, 97, 115, 116, 45, 116, 97, 105, 108] : List UInt8), ([114, 101, 116, 117, 114, 110] : List UInt8), ([99, 97, 115, 116] : List UInt8)]
theorem y3z {r : List (List UInt8)} (hr : y1z = some r) : PRes (tabOf tabL) 22 [] (.lst (List.map AVal.str r) false) := by
  refine pres_fin t22 ?_
  unfold y1z at hr
  refine L_seq ?_
  refine L_stmt ?_
  refine L_reg ?_
  refine G_p (v := .lst [] true) rfl rfl rfl ?_
  refine G_nil ?_
  refine L_nil ?_
  refine Sm_norm (e2 := []) (H1 := []) (H2 := []) rfl (by repeat (first | exact rzz | apply rcc rfl | apply rnn rfl)) rfl (?_ : GL _ _ _ _ _)
  refine L_seq ?_
  refine L_reg ?_
  refine G_h (v := .lst (List.map AVal.str [([99, 111, 110, 115, 116] : List UInt8), ([109, 111, 118, 101] : List UInt8), ([102, 114, 101, 101] : List UInt8), ([98, 111, 120] : List UInt8), ([117, 110, 98, 111, 120] : List UInt8), ([115, 101, 116, 45, 98, 111, 120] : List UInt8), ([103, 108, 111, 98, 97, 108] : List UInt8), ([100, 101, 102, 105, 110, 101] : List UInt8), ([106, 117, 109, 112] : List UInt8), ([102, 97, 108, 115, 101] : List UInt8), ([99, 108, 111, 115, 101] : List UInt8), ([112, 114, 105, 109] : List UInt8), ([102, 97, 115, 116] : List UInt8), ([99, 97, 108, 108] : List UInt8), ([102, 97, 115, 116, 45, 99, 97, 108, 108] : List UInt8), ([116, 97, 105, 108] : List UInt8), ([102, 97, 115, 116, 45, 116, 97, 105, 108] : List UInt8), ([114, 101, 116, 117, 114, 110] : List UInt8), ([99, 97, 115, 116] : List UInt8)]) true) rfl rfl rfl (fun _ => rfl) ?_
  refine G_p (v := .lst (List.map AVal.str [([99, 111, 110, 115, 116] : List UInt8), ([109, 111, 118, 101] : List UInt8), ([102, 114, 101, 101] : List UInt8), ([98, 111, 120] : List UInt8), ([117, 110, 98, 111, 120] : List UInt8), ([115, 101, 116, 45, 98, 111, 120] : List UInt8), ([103, 108, 111, 98, 97, 108] : List UInt8), ([100, 101, 102, 105, 110, 101] : List UInt8), ([106, 117, 109, 112] : List UInt8), ([102, 97, 108, 115, 101] : List UInt8), ([99, 108, 111, 115, 101] : List UInt8), ([112, 114, 105, 109] : List UInt8), ([102, 97, 115, 116] : List UInt8), ([99, 97, 108, 108] : List UInt8), ([102, 97, 115, 116, 45, 99, 97, 108, 108] : List UInt8), ([116, 97, 105, 108] : List UInt8), ([102, 97, 115, 116, 45, 116, 97, 105, 108] : List UInt8), ([114, 101, 116, 117, 114, 110] : List UInt8), ([99, 97, 115, 116] : List UInt8)]) true) rfl rfl rfl ?_
  refine G_nil ?_
  refine L_ret ?_
  have hr := some_s hr
  subst hr
  exact ⟨_, rfl, _, rfl, rfl⟩
noncomputable def y0r (op1 : Int) : Option (List UInt8) :=
  (cond ((decide (op1 < 1)) || (decide (19 < op1))) (some []) ((y1z).bind fun r2 => ((idx r2 (IntKind.wrap .i64 (op1 - 1))).bind fun e3 => some e3)))
theorem y07 {op1 : Int} {r : List UInt8} (hr : y0r op1 = some r) : PRes (tabOf tabL) 13 [.int .i64 op1] (.str r) := by
  refine pres_fin t13 ?_
  unfold y0r at hr
  refine L_seq ?_
  refine L_stmt ?_
  refine L_reg ?_
  refine G_p rfl rfl rfl ?_
  refine G_nil ?_
  refine L_nil ?_
  refine Sm_norm (e2 := [(0, .int .i64 op1)]) (H1 := []) (H2 := []) rfl (by repeat (first | exact rzz | apply rcc rfl | apply rnn rfl)) rfl (?_ : GL _ _ _ _ _)
  refine L_seq ?_
  refine L_stmt ?_
  refine L_seq ?_
  refine L_stmt ?_
  refine L_reg ?_
  refine G_p rfl rfl rfl ?_
  refine G_p rfl rfl rfl ?_
  refine G_p rfl rfl rfl ?_
  refine G_or (f := (decide (19 < op1))) [_, _] rfl rfl ?_ ?_
  · intro hb5
    refine G_p rfl rfl rfl ?_
    refine G_p rfl rfl rfl ?_
    exact G_nil (L_nil ⟨rfl, rfl, rfl⟩)
  · intro vs hvs
    obtain ⟨u6, u7, rfl⟩ := len2 hvs
    dsimp only [junk]
    refine G_nil ?_
    refine L_nil ?_
    refine Sm_norm (e2 := [(0, .int .i64 op1), (8, .bool ((decide (op1 < 1)) || (decide (19 < op1))))]) (H1 := []) (H2 := []) rfl (by repeat (first | exact rzz | apply rcc rfl | apply rnn rfl)) rfl (?_ : GL _ _ _ _ _)
    rcases cond_s hr with ⟨hc8, hr⟩ | ⟨hc8, hr⟩
    · refine L_T rfl hc8 ?_
      refine L_seq ?_
      refine L_reg ?_
      refine G_p rfl rfl rfl ?_
      refine G_nil ?_
      refine L_ret ?_
      refine Sm_ret ?_
      have hr := some_s hr
      subst hr
      exact ⟨_, rfl, _, rfl, rfl⟩
    · refine L_F rfl hc8 ?_
      refine L_skip ?_
      refine L_nil ?_
      refine Sm_norm (e2 := [(0, .int .i64 op1)]) (H1 := []) (H2 := []) rfl (by repeat (first | exact rzz | apply rcc rfl | apply rnn rfl)) rfl (?_ : GL _ _ _ _ _)
      refine L_seq ?_
      refine L_reg ?_
      obtain ⟨r2, hr2, hr⟩ := bind_s hr
      refine G_c 22 rfl rfl (CA_of (as := []) rfl (y3z hr2)) ?_
      refine G_p rfl rfl rfl ?_
      refine G_p rfl rfl rfl ?_
      obtain ⟨e3, he3, hr⟩ := bind_s hr
      refine G_h (v := .ro [.str e3]) rfl rfl rfl (ia_ev (cells := [.str e3]) rfl rfl (idx_s he3).1 (map_get (x := e3) (idx_s he3).2) rfl rfl) ?_
      refine G_h rfl rfl rfl (fun _ => rfl) ?_
      refine G_p rfl rfl rfl ?_
      refine G_nil ?_
      refine L_ret ?_
      have hr := some_s hr
      subst hr
      exact ⟨_, rfl, _, rfl, rfl⟩
noncomputable def y0h (i1 : Ins) : Option Int :=
  (cond (decide (i1.op = 1)) (cond (decide (i1.op = 1)) (some i1.a) (some (-1))) (cond (decide (i1.op = 2)) (cond (decide (i1.op = 2)) (some i1.a) (some (-1))) (cond (decide (i1.op = 3)) (cond (decide (i1.op = 3)) (some i1.a) (some (-1))) (cond (decide (i1.op = 4)) (cond (decide (i1.op = 4)) (some i1.a) (some (-1))) (cond (decide (i1.op = 5)) (cond (decide (i1.op = 5)) (some i1.a) (some (-1))) (cond (decide (i1.op = 7)) (cond (decide (i1.op = 7)) (some i1.a) (some (-1))) (cond (decide (i1.op = 11)) (cond (decide (i1.op = 11)) (some i1.a) (some (-1))) (cond (decide (i1.op = 12)) (cond (decide (i1.op = 12)) (some i1.a) (some (-1))) (cond (decide (i1.op = 13)) (cond (decide (i1.op = 13)) (some i1.a) (some (-1))) (cond (decide (i1.op = 14)) (cond (decide (i1.op = 14)) (some i1.a) (some (-1))) (cond (decide (i1.op = 15)) (cond (decide (i1.op = 15)) (some i1.a) (some (-1))) (cond (decide (i1.op = 19)) (some i1.a) (some (-1))))))))))))))
abbrev kg01 (i1 : Ins) : ABlock := .cells [.int .i64 i1.op, .int .i64 i1.a, .int .i64 i1.b, .lst (List.map (AVal.int .i64) i1.l) false]
theorem y0z {i1 : Ins} {r : Int} (hr : y0h i1 = some r) : PRes (tabOf tabL) 11 [.agg (cIns i1)] (.int .i64 r) := by
  refine pres_fin t11 ?_
  unfold y0h at hr
  refine L_seq ?_
  refine L_stmt ?_
  refine L_reg ?_
  refine G_n (B := (kg01 i1)) rfl rfl rfl ?_
  refine G_p rfl rfl rfl ?_
  refine G_nil ?_
  refine L_nil ?_
  refine Sm_norm (e2 := [(1, .ptr 0 0)]) (H1 := [(kg01 i1)]) (H2 := [(kg01 i1)]) rfl (by repeat (first | exact rzz | apply rcc rfl | apply rnn rfl)) rfl (?_ : GL _ _ _ _ _)
  refine L_seq ?_
  refine L_stmt ?_
  refine L_seq ?_
  refine L_stmt ?_
  refine L_reg ?_
  refine G_p rfl rfl rfl ?_
  refine G_h rfl rfl rfl (fun _ => rfl) ?_
  refine G_nil ?_
  refine L_nil ?_
  refine Sm_norm (e2 := [(1, .ptr 0 0), (4, .int .i64 i1.op)]) (H1 := [(kg01 i1)]) (H2 := [(kg01 i1)]) rfl (by repeat (first | exact rzz | apply rcc rfl | apply rnn rfl)) rfl (?_ : GL _ _ _ _ _)
  refine L_block ?_
  refine L_seq ?_
  refine L_stmt ?_
  refine L_seq ?_
  refine L_stmt ?_
  refine L_reg ?_
  refine G_p rfl rfl rfl ?_
  refine G_p rfl rfl rfl ?_
  refine G_nil ?_
  refine L_nil ?_
  refine Sm_norm (e2 := [(1, .ptr 0 0), (4, .int .i64 i1.op), (5, .bool (decide (i1.op = 1)))]) (H1 := [(kg01 i1)]) (H2 := [(kg01 i1)]) rfl (by repeat (first | exact rzz | apply rcc rfl | apply rnn rfl)) rfl (?_ : GL _ _ _ _ _)
  rcases cond_s hr with ⟨hc5, hr⟩ | ⟨hc5, hr⟩
  · refine L_T rfl hc5 ?_
    refine L_skip ?_
    refine L_nil ?_
    refine Sm_norm (e2 := [(1, .ptr 0 0), (5, .bool (decide (i1.op = 1)))]) (H1 := [(kg01 i1)]) (H2 := [(kg01 i1)]) rfl (by repeat (first | exact rzz | apply rcc rfl | apply rnn rfl)) rfl (?_ : GL _ _ _ _ _)
    rcases cond_s hr with ⟨hc5, hr⟩ | ⟨hc5, hr⟩
    · refine L_T rfl hc5 ?_
      refine L_seq ?_
      refine L_reg ?_
      refine G_p rfl rfl rfl ?_
      refine G_h rfl rfl rfl (fun _ => rfl) ?_
      refine G_p rfl rfl rfl ?_
      refine G_nil ?_
      refine L_ret ?_
      refine Blk_ret ?_
      refine Sm_ret ?_
      have hr := some_s hr
      subst hr
      exact ⟨_, rfl, _, rfl, rfl⟩
    · refine L_F rfl hc5 ?_
      refine L_skip ?_
      refine L_nil ?_
      refine Blk_norm (?_ : GL _ _ _ _ _)
      refine L_nil ?_
      refine Sm_norm (e2 := []) (H1 := [(kg01 i1)]) (H2 := [(kg01 i1)]) rfl (by repeat (first | exact rzz | apply rcc rfl | apply rnn rfl)) rfl (?_ : GL _ _ _ _ _)
      refine L_seq ?_
      refine L_reg ?_
      refine G_p rfl rfl rfl ?_
      refine G_nil ?_
      refine L_ret ?_
      have hr := some_s hr
      subst hr
      exact ⟨_, rfl, _, rfl, rfl⟩
  · refine L_F rfl hc5 ?_
    refine L_seq ?_
    refine L_stmt ?_
    refine L_reg ?_
    refine G_p rfl rfl rfl ?_
    refine G_p rfl rfl rfl ?_
    refine G_nil ?_
    refine L_nil ?_
    refine Sm_norm (e2 := [(1, .ptr 0 0), (4, .int .i64 i1.op), (5, .bool (decide (i1.op = 2)))]) (H1 := [(kg01 i1)]) (H2 := [(kg01 i1)]) rfl (by repeat (first | exact rzz | apply rcc rfl | apply rnn rfl)) rfl (?_ : GL _ _ _ _ _)
    rcases cond_s hr with ⟨hc5, hr⟩ | ⟨hc5, hr⟩
    · refine L_T rfl hc5 ?_
      refine L_skip ?_
      refine L_nil ?_
      refine Sm_norm (e2 := [(1, .ptr 0 0), (5, .bool (decide (i1.op = 2)))]) (H1 := [(kg01 i1)]) (H2 := [(kg01 i1)]) rfl (by repeat (first | exact rzz | apply rcc rfl | apply rnn rfl)) rfl (?_ : GL _ _ _ _ _)
      rcases cond_s hr with ⟨hc5, hr⟩ | ⟨hc5, hr⟩
      · refine L_T rfl hc5 ?_
        refine L_seq ?_
        refine L_reg ?_
        refine G_p rfl rfl rfl ?_
        refine G_h rfl rfl rfl (fun _ => rfl) ?_
        refine G_p rfl rfl rfl ?_
        refine G_nil ?_
        refine L_ret ?_
        refine Blk_ret ?_
        refine Sm_ret ?_
        have hr := some_s hr
        subst hr
        exact ⟨_, rfl, _, rfl, rfl⟩
      · refine L_F rfl hc5 ?_
        refine L_skip ?_
        refine L_nil ?_
        refine Blk_norm (?_ : GL _ _ _ _ _)
        refine L_nil ?_
        refine Sm_norm (e2 := []) (H1 := [(kg01 i1)]) (H2 := [(kg01 i1)]) rfl (by repeat (first | exact rzz | apply rcc rfl | apply rnn rfl)) rfl (?_ : GL _ _ _ _ _)
        refine L_seq ?_
        refine L_reg ?_
        refine G_p rfl rfl rfl ?_
        refine G_nil ?_
        refine L_ret ?_
        have hr := some_s hr
        subst hr
        exact ⟨_, rfl, _, rfl, rfl⟩
    · refine L_F rfl hc5 ?_
      refine L_seq ?_
      refine L_stmt ?_
      refine L_reg ?_
      refine G_p rfl rfl rfl ?_
      refine G_p rfl rfl rfl ?_
      refine G_nil ?_
      refine L_nil ?_
      refine Sm_norm (e2 := [(1, .ptr 0 0), (4, .int .i64 i1.op), (5, .bool (decide (i1.op = 3)))]) (H1 := [(kg01 i1)]) (H2 := [(kg01 i1)]) rfl (by repeat (first | exact rzz | apply rcc rfl | apply rnn rfl)) rfl (?_ : GL _ _ _ _ _)
      rcases cond_s hr with ⟨hc5, hr⟩ | ⟨hc5, hr⟩
      · refine L_T rfl hc5 ?_
        refine L_skip ?_
        refine L_nil ?_
        refine Sm_norm (e2 := [(1, .ptr 0 0), (5, .bool (decide (i1.op = 3)))]) (H1 := [(kg01 i1)]) (H2 := [(kg01 i1)]) rfl (by repeat (first | exact rzz | apply rcc rfl | apply rnn rfl)) rfl (?_ : GL _ _ _ _ _)
        rcases cond_s hr with ⟨hc5, hr⟩ | ⟨hc5, hr⟩
        · refine L_T rfl hc5 ?_
          refine L_seq ?_
          refine L_reg ?_
          refine G_p rfl rfl rfl ?_
          refine G_h rfl rfl rfl (fun _ => rfl) ?_
          refine G_p rfl rfl rfl ?_
          refine G_nil ?_
          refine L_ret ?_
          refine Blk_ret ?_
          refine Sm_ret ?_
          have hr := some_s hr
          subst hr
          exact ⟨_, rfl, _, rfl, rfl⟩
        · refine L_F rfl hc5 ?_
          refine L_skip ?_
          refine L_nil ?_
          refine Blk_norm (?_ : GL _ _ _ _ _)
          refine L_nil ?_
          refine Sm_norm (e2 := []) (H1 := [(kg01 i1)]) (H2 := [(kg01 i1)]) rfl (by repeat (first | exact rzz | apply rcc rfl | apply rnn rfl)) rfl (?_ : GL _ _ _ _ _)
          refine L_seq ?_
          refine L_reg ?_
          refine G_p rfl rfl rfl ?_
          refine G_nil ?_
          refine L_ret ?_
          have hr := some_s hr
          subst hr
          exact ⟨_, rfl, _, rfl, rfl⟩
      · refine L_F rfl hc5 ?_
        refine L_seq ?_
        refine L_stmt ?_
        refine L_reg ?_
        refine G_p rfl rfl rfl ?_
        refine G_p rfl rfl rfl ?_
        refine G_nil ?_
        refine L_nil ?_
        refine Sm_norm (e2 := [(1, .ptr 0 0), (4, .int .i64 i1.op), (5, .bool (decide (i1.op = 4)))]) (H1 := [(kg01 i1)]) (H2 := [(kg01 i1)]) rfl (by repeat (first | exact rzz | apply rcc rfl | apply rnn rfl)) rfl (?_ : GL _ _ _ _ _)
        rcases cond_s hr with ⟨hc5, hr⟩ | ⟨hc5, hr⟩
        · refine L_T rfl hc5 ?_
          refine L_skip ?_
          refine L_nil ?_
          refine Sm_norm (e2 := [(1, .ptr 0 0), (5, .bool (decide (i1.op = 4)))]) (H1 := [(kg01 i1)]) (H2 := [(kg01 i1)]) rfl (by repeat (first | exact rzz | apply rcc rfl | apply rnn rfl)) rfl (?_ : GL _ _ _ _ _)
          rcases cond_s hr with ⟨hc5, hr⟩ | ⟨hc5, hr⟩
          · refine L_T rfl hc5 ?_
            refine L_seq ?_
            refine L_reg ?_
            refine G_p rfl rfl rfl ?_
            refine G_h rfl rfl rfl (fun _ => rfl) ?_
            refine G_p rfl rfl rfl ?_
            refine G_nil ?_
            refine L_ret ?_
            refine Blk_ret ?_
            refine Sm_ret ?_
            have hr := some_s hr
            subst hr
            exact ⟨_, rfl, _, rfl, rfl⟩
          · refine L_F rfl hc5 ?_
            refine L_skip ?_
            refine L_nil ?_
            refine Blk_norm (?_ : GL _ _ _ _ _)
            refine L_nil ?_
            refine Sm_norm (e2 := []) (H1 := [(kg01 i1)]) (H2 := [(kg01 i1)]) rfl (by repeat (first | exact rzz | apply rcc rfl | apply rnn rfl)) rfl (?_ : GL _ _ _ _ _)
            refine L_seq ?_
            refine L_reg ?_
            refine G_p rfl rfl rfl ?_
            refine G_nil ?_
            refine L_ret ?_
            have hr := some_s hr
            subst hr
            exact ⟨_, rfl, _, rfl, rfl⟩
        · refine L_F rfl hc5 ?_
          refine L_seq ?_
          refine L_stmt ?_
          refine L_reg ?_
          refine G_p rfl rfl rfl ?_
          refine G_p rfl rfl rfl ?_
          refine G_nil ?_
          refine L_nil ?_
          refine Sm_norm (e2 := [(1, .ptr 0 0), (4, .int .i64 i1.op), (5, .bool (decide (i1.op = 5)))]) (H1 := [(kg01 i1)]) (H2 := [(kg01 i1)]) rfl (by repeat (first | exact rzz | apply rcc rfl | apply rnn rfl)) rfl (?_ : GL _ _ _ _ _)
          rcases cond_s hr with ⟨hc5, hr⟩ | ⟨hc5, hr⟩
          · refine L_T rfl hc5 ?_
            refine L_skip ?_
            refine L_nil ?_
            refine Sm_norm (e2 := [(1, .ptr 0 0), (5, .bool (decide (i1.op = 5)))]) (H1 := [(kg01 i1)]) (H2 := [(kg01 i1)]) rfl (by repeat (first | exact rzz | apply rcc rfl | apply rnn rfl)) rfl (?_ : GL _ _ _ _ _)
            rcases cond_s hr with ⟨hc5, hr⟩ | ⟨hc5, hr⟩
            · refine L_T rfl hc5 ?_
              refine L_seq ?_
              refine L_reg ?_
              refine G_p rfl rfl rfl ?_
              refine G_h rfl rfl rfl (fun _ => rfl) ?_
              refine G_p rfl rfl rfl ?_
              refine G_nil ?_
              refine L_ret ?_
              refine Blk_ret ?_
              refine Sm_ret ?_
              have hr := some_s hr
              subst hr
              exact ⟨_, rfl, _, rfl, rfl⟩
            · refine L_F rfl hc5 ?_
              refine L_skip ?_
              refine L_nil ?_
              refine Blk_norm (?_ : GL _ _ _ _ _)
              refine L_nil ?_
              refine Sm_norm (e2 := []) (H1 := [(kg01 i1)]) (H2 := [(kg01 i1)]) rfl (by repeat (first | exact rzz | apply rcc rfl | apply rnn rfl)) rfl (?_ : GL _ _ _ _ _)
              refine L_seq ?_
              refine L_reg ?_
              refine G_p rfl rfl rfl ?_
              refine G_nil ?_
              refine L_ret ?_
              have hr := some_s hr
              subst hr
              exact ⟨_, rfl, _, rfl, rfl⟩
          · refine L_F rfl hc5 ?_
            refine L_seq ?_
            refine L_stmt ?_
            refine L_reg ?_
            refine G_p rfl rfl rfl ?_
            refine G_p rfl rfl rfl ?_
            refine G_nil ?_
            refine L_nil ?_
            refine Sm_norm (e2 := [(1, .ptr 0 0), (4, .int .i64 i1.op), (5, .bool (decide (i1.op = 7)))]) (H1 := [(kg01 i1)]) (H2 := [(kg01 i1)]) rfl (by repeat (first | exact rzz | apply rcc rfl | apply rnn rfl)) rfl (?_ : GL _ _ _ _ _)
            rcases cond_s hr with ⟨hc5, hr⟩ | ⟨hc5, hr⟩
            · refine L_T rfl hc5 ?_
              refine L_skip ?_
              refine L_nil ?_
              refine Sm_norm (e2 := [(1, .ptr 0 0), (5, .bool (decide (i1.op = 7)))]) (H1 := [(kg01 i1)]) (H2 := [(kg01 i1)]) rfl (by repeat (first | exact rzz | apply rcc rfl | apply rnn rfl)) rfl (?_ : GL _ _ _ _ _)
              rcases cond_s hr with ⟨hc5, hr⟩ | ⟨hc5, hr⟩
              · refine L_T rfl hc5 ?_
                refine L_seq ?_
                refine L_reg ?_
                refine G_p rfl rfl rfl ?_
                refine G_h rfl rfl rfl (fun _ => rfl) ?_
                refine G_p rfl rfl rfl ?_
                refine G_nil ?_
                refine L_ret ?_
                refine Blk_ret ?_
                refine Sm_ret ?_
                have hr := some_s hr
                subst hr
                exact ⟨_, rfl, _, rfl, rfl⟩
              · refine L_F rfl hc5 ?_
                refine L_skip ?_
                refine L_nil ?_
                refine Blk_norm (?_ : GL _ _ _ _ _)
                refine L_nil ?_
                refine Sm_norm (e2 := []) (H1 := [(kg01 i1)]) (H2 := [(kg01 i1)]) rfl (by repeat (first | exact rzz | apply rcc rfl | apply rnn rfl)) rfl (?_ : GL _ _ _ _ _)
                refine L_seq ?_
                refine L_reg ?_
                refine G_p rfl rfl rfl ?_
                refine G_nil ?_
                refine L_ret ?_
                have hr := some_s hr
                subst hr
                exact ⟨_, rfl, _, rfl, rfl⟩
            · refine L_F rfl hc5 ?_
              refine L_seq ?_
              refine L_stmt ?_
              refine L_reg ?_
              refine G_p rfl rfl rfl ?_
              refine G_p rfl rfl rfl ?_
              refine G_nil ?_
              refine L_nil ?_
              refine Sm_norm (e2 := [(1, .ptr 0 0), (4, .int .i64 i1.op), (5, .bool (decide (i1.op = 11)))]) (H1 := [(kg01 i1)]) (H2 := [(kg01 i1)]) rfl (by repeat (first | exact rzz | apply rcc rfl | apply rnn rfl)) rfl (?_ : GL _ _ _ _ _)
              rcases cond_s hr with ⟨hc5, hr⟩ | ⟨hc5, hr⟩
              · refine L_T rfl hc5 ?_
                refine L_skip ?_
                refine L_nil ?_
                refine Sm_norm (e2 := [(1, .ptr 0 0), (5, .bool (decide (i1.op = 11)))]) (H1 := [(kg01 i1)]) (H2 := [(kg01 i1)]) rfl (by repeat (first | exact rzz | apply rcc rfl | apply rnn rfl)) rfl (?_ : GL _ _ _ _ _)
                rcases cond_s hr with ⟨hc5, hr⟩ | ⟨hc5, hr⟩
                · refine L_T rfl hc5 ?_
                  refine L_seq ?_
                  refine L_reg ?_
                  refine G_p rfl rfl rfl ?_
                  refine G_h rfl rfl rfl (fun _ => rfl) ?_
                  refine G_p rfl rfl rfl ?_
                  refine G_nil ?_
                  refine L_ret ?_
                  refine Blk_ret ?_
                  refine Sm_ret ?_
                  have hr := some_s hr
                  subst hr
                  exact ⟨_, rfl, _, rfl, rfl⟩
                · refine L_F rfl hc5 ?_
                  refine L_skip ?_
                  refine L_nil ?_
                  refine Blk_norm (?_ : GL _ _ _ _ _)
                  refine L_nil ?_
                  refine Sm_norm (e2 := []) (H1 := [(kg01 i1)]) (H2 := [(kg01 i1)]) rfl (by repeat (first | exact rzz | apply rcc rfl | apply rnn rfl)) rfl (?_ : GL _ _ _ _ _)
                  refine L_seq ?_
                  refine L_reg ?_
                  refine G_p rfl rfl rfl ?_
                  refine G_nil ?_
                  refine L_ret ?_
                  have hr := some_s hr
                  subst hr
                  exact ⟨_, rfl, _, rfl, rfl⟩
              · refine L_F rfl hc5 ?_
                refine L_seq ?_
                refine L_stmt ?_
                refine L_reg ?_
                refine G_p rfl rfl rfl ?_
                refine G_p rfl rfl rfl ?_
                refine G_nil ?_
                refine L_nil ?_
                refine Sm_norm (e2 := [(1, .ptr 0 0), (4, .int .i64 i1.op), (5, .bool (decide (i1.op = 12)))]) (H1 := [(kg01 i1)]) (H2 := [(kg01 i1)]) rfl (by repeat (first | exact rzz | apply rcc rfl | apply rnn rfl)) rfl (?_ : GL _ _ _ _ _)
                rcases cond_s hr with ⟨hc5, hr⟩ | ⟨hc5, hr⟩
                · refine L_T rfl hc5 ?_
                  refine L_skip ?_
                  refine L_nil ?_
                  refine Sm_norm (e2 := [(1, .ptr 0 0), (5, .bool (decide (i1.op = 12)))]) (H1 := [(kg01 i1)]) (H2 := [(kg01 i1)]) rfl (by repeat (first | exact rzz | apply rcc rfl | apply rnn rfl)) rfl (?_ : GL _ _ _ _ _)
                  rcases cond_s hr with ⟨hc5, hr⟩ | ⟨hc5, hr⟩
                  · refine L_T rfl hc5 ?_
                    refine L_seq ?_
                    refine L_reg ?_
                    refine G_p rfl rfl rfl ?_
                    refine G_h rfl rfl rfl (fun _ => rfl) ?_
                    refine G_p rfl rfl rfl ?_
                    refine G_nil ?_
                    refine L_ret ?_
                    refine Blk_ret ?_
                    refine Sm_ret ?_
                    have hr := some_s hr
                    subst hr
                    exact ⟨_, rfl, _, rfl, rfl⟩
                  · refine L_F rfl hc5 ?_
                    refine L_skip ?_
                    refine L_nil ?_
                    refine Blk_norm (?_ : GL _ _ _ _ _)
                    refine L_nil ?_
                    refine Sm_norm (e2 := []) (H1 := [(kg01 i1)]) (H2 := [(kg01 i1)]) rfl (by repeat (first | exact rzz | apply rcc rfl | apply rnn rfl)) rfl (?_ : GL _ _ _ _ _)
                    refine L_seq ?_
                    refine L_reg ?_
                    refine G_p rfl rfl rfl ?_
                    refine G_nil ?_
                    refine L_ret ?_
                    have hr := some_s hr
                    subst hr
                    exact ⟨_, rfl, _, rfl, rfl⟩
                · refine L_F rfl hc5 ?_
                  refine L_seq ?_
                  refine L_stmt ?_
                  refine L_reg ?_
                  refine G_p rfl rfl rfl ?_
                  refine G_p rfl rfl rfl ?_
                  refine G_nil ?_
                  refine L_nil ?_
                  refine Sm_norm (e2 := [(1, .ptr 0 0), (4, .int .i64 i1.op), (5, .bool (decide (i1.op = 13)))]) (H1 := [(kg01 i1)]) (H2 := [(kg01 i1)]) rfl (by repeat (first | exact rzz | apply rcc rfl | apply rnn rfl)) rfl (?_ : GL _ _ _ _ _)
                  rcases cond_s hr with ⟨hc5, hr⟩ | ⟨hc5, hr⟩
                  · refine L_T rfl hc5 ?_
                    refine L_skip ?_
                    refine L_nil ?_
                    refine Sm_norm (e2 := [(1, .ptr 0 0), (5, .bool (decide (i1.op = 13)))]) (H1 := [(kg01 i1)]) (H2 := [(kg01 i1)]) rfl (by repeat (first | exact rzz | apply rcc rfl | apply rnn rfl)) rfl (?_ : GL _ _ _ _ _)
                    rcases cond_s hr with ⟨hc5, hr⟩ | ⟨hc5, hr⟩
                    · refine L_T rfl hc5 ?_
                      refine L_seq ?_
                      refine L_reg ?_
                      refine G_p rfl rfl rfl ?_
                      refine G_h rfl rfl rfl (fun _ => rfl) ?_
                      refine G_p rfl rfl rfl ?_
                      refine G_nil ?_
                      refine L_ret ?_
                      refine Blk_ret ?_
                      refine Sm_ret ?_
                      have hr := some_s hr
                      subst hr
                      exact ⟨_, rfl, _, rfl, rfl⟩
                    · refine L_F rfl hc5 ?_
                      refine L_skip ?_
                      refine L_nil ?_
                      refine Blk_norm (?_ : GL _ _ _ _ _)
                      refine L_nil ?_
                      refine Sm_norm (e2 := []) (H1 := [(kg01 i1)]) (H2 := [(kg01 i1)]) rfl (by repeat (first | exact rzz | apply rcc rfl | apply rnn rfl)) rfl (?_ : GL _ _ _ _ _)
                      refine L_seq ?_
                      refine L_reg ?_
                      refine G_p rfl rfl rfl ?_
                      refine G_nil ?_
                      refine L_ret ?_
                      have hr := some_s hr
                      subst hr
                      exact ⟨_, rfl, _, rfl, rfl⟩
                  · refine L_F rfl hc5 ?_
                    refine L_seq ?_
                    refine L_stmt ?_
                    refine L_reg ?_
                    refine G_p rfl rfl rfl ?_
                    refine G_p rfl rfl rfl ?_
                    refine G_nil ?_
                    refine L_nil ?_
                    refine Sm_norm (e2 := [(1, .ptr 0 0), (4, .int .i64 i1.op), (5, .bool (decide (i1.op = 14)))]) (H1 := [(kg01 i1)]) (H2 := [(kg01 i1)]) rfl (by repeat (first | exact rzz | apply rcc rfl | apply rnn rfl)) rfl (?_ : GL _ _ _ _ _)
                    rcases cond_s hr with ⟨hc5, hr⟩ | ⟨hc5, hr⟩
                    · refine L_T rfl hc5 ?_
                      refine L_skip ?_
                      refine L_nil ?_
                      refine Sm_norm (e2 := [(1, .ptr 0 0), (5, .bool (decide (i1.op = 14)))]) (H1 := [(kg01 i1)]) (H2 := [(kg01 i1)]) rfl (by repeat (first | exact rzz | apply rcc rfl | apply rnn rfl)) rfl (?_ : GL _ _ _ _ _)
                      rcases cond_s hr with ⟨hc5, hr⟩ | ⟨hc5, hr⟩
                      · refine L_T rfl hc5 ?_
                        refine L_seq ?_
                        refine L_reg ?_
                        refine G_p rfl rfl rfl ?_
                        refine G_h rfl rfl rfl (fun _ => rfl) ?_
                        refine G_p rfl rfl rfl ?_
                        refine G_nil ?_
                        refine L_ret ?_
                        refine Blk_ret ?_
                        refine Sm_ret ?_
                        have hr := some_s hr
                        subst hr
                        exact ⟨_, rfl, _, rfl, rfl⟩
                      · refine L_F rfl hc5 ?_
                        refine L_skip ?_
                        refine L_nil ?_
                        refine Blk_norm (?_ : GL _ _ _ _ _)
                        refine L_nil ?_
                        refine Sm_norm (e2 := []) (H1 := [(kg01 i1)]) (H2 := [(kg01 i1)]) rfl (by repeat (first | exact rzz | apply rcc rfl | apply rnn rfl)) rfl (?_ : GL _ _ _ _ _)
                        refine L_seq ?_
                        refine L_reg ?_
                        refine G_p rfl rfl rfl ?_
                        refine G_nil ?_
                        refine L_ret ?_
                        have hr := some_s hr
                        subst hr
                        exact ⟨_, rfl, _, rfl, rfl⟩
                    · refine L_F rfl hc5 ?_
                      refine L_seq ?_
                      refine L_stmt ?_
                      refine L_reg ?_
                      refine G_p rfl rfl rfl ?_
                      refine G_p rfl rfl rfl ?_
                      refine G_nil ?_
                      refine L_nil ?_
                      refine Sm_norm (e2 := [(1, .ptr 0 0), (4, .int .i64 i1.op), (5, .bool (decide (i1.op = 15)))]) (H1 := [(kg01 i1)]) (H2 := [(kg01 i1)]) rfl (by repeat (first | exact rzz | apply rcc rfl | apply rnn rfl)) rfl (?_ : GL _ _ _ _ _)
                      rcases cond_s hr with ⟨hc5, hr⟩ | ⟨hc5, hr⟩
                      · refine L_T rfl hc5 ?_
                        refine L_skip ?_
                        refine L_nil ?_
                        refine Sm_norm (e2 := [(1, .ptr 0 0), (5, .bool (decide (i1.op = 15)))]) (H1 := [(kg01 i1)]) (H2 := [(kg01 i1)]) rfl (by repeat (first | exact rzz | apply rcc rfl | apply rnn rfl)) rfl (?_ : GL _ _ _ _ _)
                        rcases cond_s hr with ⟨hc5, hr⟩ | ⟨hc5, hr⟩
                        · refine L_T rfl hc5 ?_
                          refine L_seq ?_
                          refine L_reg ?_
                          refine G_p rfl rfl rfl ?_
                          refine G_h rfl rfl rfl (fun _ => rfl) ?_
                          refine G_p rfl rfl rfl ?_
                          refine G_nil ?_
                          refine L_ret ?_
                          refine Blk_ret ?_
                          refine Sm_ret ?_
                          have hr := some_s hr
                          subst hr
                          exact ⟨_, rfl, _, rfl, rfl⟩
                        · refine L_F rfl hc5 ?_
                          refine L_skip ?_
                          refine L_nil ?_
                          refine Blk_norm (?_ : GL _ _ _ _ _)
                          refine L_nil ?_
                          refine Sm_norm (e2 := []) (H1 := [(kg01 i1)]) (H2 := [(kg01 i1)]) rfl (by repeat (first | exact rzz | apply rcc rfl | apply rnn rfl)) rfl (?_ : GL _ _ _ _ _)
                          refine L_seq ?_
                          refine L_reg ?_
                          refine G_p rfl rfl rfl ?_
                          refine G_nil ?_
                          refine L_ret ?_
                          have hr := some_s hr
                          subst hr
                          exact ⟨_, rfl, _, rfl, rfl⟩
                      · refine L_F rfl hc5 ?_
                        refine L_reg ?_
                        refine G_p rfl rfl rfl ?_
                        refine G_p rfl rfl rfl ?_
                        refine G_nil ?_
                        refine L_nil ?_
                        refine Sm_norm (e2 := [(1, .ptr 0 0), (5, .bool (decide (i1.op = 19)))]) (H1 := [(kg01 i1)]) (H2 := [(kg01 i1)]) rfl (by repeat (first | exact rzz | apply rcc rfl | apply rnn rfl)) rfl (?_ : GL _ _ _ _ _)
                        rcases cond_s hr with ⟨hc5, hr⟩ | ⟨hc5, hr⟩
                        · refine L_T rfl hc5 ?_
                          refine L_seq ?_
                          refine L_reg ?_
                          refine G_p rfl rfl rfl ?_
                          refine G_h rfl rfl rfl (fun _ => rfl) ?_
                          refine G_p rfl rfl rfl ?_
                          refine G_nil ?_
                          refine L_ret ?_
                          refine Blk_ret ?_
                          refine Sm_ret ?_
                          have hr := some_s hr
                          subst hr
                          exact ⟨_, rfl, _, rfl, rfl⟩
                        · refine L_F rfl hc5 ?_
                          refine L_skip ?_
                          refine L_nil ?_
                          refine Blk_norm (?_ : GL _ _ _ _ _)
                          refine L_nil ?_
                          refine Sm_norm (e2 := []) (H1 := [(kg01 i1)]) (H2 := [(kg01 i1)]) rfl (by repeat (first | exact rzz | apply rcc rfl | apply rnn rfl)) rfl (?_ : GL _ _ _ _ _)
                          refine L_seq ?_
                          refine L_reg ?_
                          refine G_p rfl rfl rfl ?_
                          refine G_nil ?_
                          refine L_ret ?_
                          have hr := some_s hr
                          subst hr
                          exact ⟨_, rfl, _, rfl, rfl⟩
noncomputable def y0g (i1 : Ins) : Option (List Int) :=
  (cond (decide (i1.op = 9)) (some [i1.a]) (cond (decide (i1.op = 10)) (some [(-1), i1.b]) ((y0r i1.op).bind fun r3 => (cond ((((r3 == []) || (decide (i1.op = 16))) || (decide (i1.op = 17))) || (decide (i1.op = 18))) (some []) (some [(-1)])))))
abbrev kg02 (i1 : Ins) : ABlock := .cells [.int .i64 i1.op, .int .i64 i1.a, .int .i64 i1.b, .lst (List.map (AVal.int .i64) i1.l) false]
theorem y48 {i1 : Ins} {r : List Int} (hr : y0g i1 = some r) : PRes (tabOf tabL) 9 [.agg (cIns i1)] (.lst (List.map (AVal.int .i64) r) false) := by
  refine pres_fin t9 ?_
  unfold y0g at hr
  refine L_seq ?_
  refine L_stmt ?_
  refine L_reg ?_
  refine G_n (B := (kg02 i1)) rfl rfl rfl ?_
  refine G_p (v := .lst [] true) rfl rfl rfl ?_
  refine G_nil ?_
  refine L_nil ?_
  refine Sm_norm (e2 := [(1, .ptr 0 0)]) (H1 := [(kg02 i1)]) (H2 := [(kg02 i1)]) rfl (by repeat (first | exact rzz | apply rcc rfl | apply rnn rfl)) rfl (?_ : GL _ _ _ _ _)
  refine L_seq ?_
  refine L_stmt ?_
  refine L_block ?_
  refine L_seq ?_
  refine L_stmt ?_
  refine L_reg ?_
  refine G_p rfl rfl rfl ?_
  refine G_h rfl rfl rfl (fun _ => rfl) ?_
  refine G_p rfl rfl rfl ?_
  refine G_p rfl rfl rfl ?_
  refine G_nil ?_
  refine L_nil ?_
  refine Sm_norm (e2 := [(1, .ptr 0 0), (3, .bool (decide (i1.op = 9)))]) (H1 := [(kg02 i1)]) (H2 := [(kg02 i1)]) rfl (by repeat (first | exact rzz | apply rcc rfl | apply rnn rfl)) rfl (?_ : GL _ _ _ _ _)
  rcases cond_s hr with ⟨hc3, hr⟩ | ⟨hc3, hr⟩
  · refine L_T rfl hc3 ?_
    refine L_seq ?_
    refine L_reg ?_
    refine G_p rfl rfl rfl ?_
    refine G_h rfl rfl rfl (fun _ => rfl) ?_
    refine G_h (v := .lst (List.map (AVal.int .i64) [i1.a]) true) rfl rfl rfl (fun _ => rfl) ?_
    refine G_p (v := .lst (List.map (AVal.int .i64) [i1.a]) true) rfl rfl rfl ?_
    refine G_nil ?_
    refine L_ret ?_
    refine Blk_ret ?_
    refine Sm_ret ?_
    have hr := some_s hr
    subst hr
    exact ⟨_, rfl, _, rfl, rfl⟩
  · refine L_F rfl hc3 ?_
    refine L_seq ?_
    refine L_stmt ?_
    refine L_reg ?_
    refine G_p rfl rfl rfl ?_
    refine G_h rfl rfl rfl (fun _ => rfl) ?_
    refine G_p rfl rfl rfl ?_
    refine G_p rfl rfl rfl ?_
    refine G_nil ?_
    refine L_nil ?_
    refine Sm_norm (e2 := [(1, .ptr 0 0), (10, .bool (decide (i1.op = 10)))]) (H1 := [(kg02 i1)]) (H2 := [(kg02 i1)]) rfl (by repeat (first | exact rzz | apply rcc rfl | apply rnn rfl)) rfl (?_ : GL _ _ _ _ _)
    rcases cond_s hr with ⟨hc10, hr⟩ | ⟨hc10, hr⟩
    · refine L_T rfl hc10 ?_
      refine L_seq ?_
      refine L_reg ?_
      refine G_p rfl rfl rfl ?_
      refine G_h rfl rfl rfl (fun _ => rfl) ?_
      refine G_h (v := .lst (List.map (AVal.int .i64) [(-1), i1.b]) true) rfl rfl rfl (fun _ => rfl) ?_
      refine G_p (v := .lst (List.map (AVal.int .i64) [(-1), i1.b]) true) rfl rfl rfl ?_
      refine G_nil ?_
      refine L_ret ?_
      refine Blk_ret ?_
      refine Sm_ret ?_
      have hr := some_s hr
      subst hr
      exact ⟨_, rfl, _, rfl, rfl⟩
    · refine L_F rfl hc10 ?_
      refine L_seq ?_
      refine L_stmt ?_
      refine L_reg ?_
      refine G_p rfl rfl rfl ?_
      refine G_h rfl rfl rfl (fun _ => rfl) ?_
      obtain ⟨r3, hr3, hr⟩ := bind_s hr
      refine G_c 13 rfl rfl (CA_of (as := [.int .i64 i1.op]) rfl (y07 hr3)) ?_
      refine G_p rfl rfl rfl ?_
      refine G_p rfl rfl rfl ?_
      refine G_or (f := (decide (i1.op = 16))) [_, _, _] rfl rfl ?_ ?_
      · intro hb22
        refine G_p rfl rfl rfl ?_
        refine G_h rfl rfl rfl (fun _ => rfl) ?_
        refine G_p rfl rfl rfl ?_
        exact G_nil (L_nil ⟨rfl, rfl, rfl⟩)
      · intro vs hvs
        obtain ⟨u23, u24, u25, rfl⟩ := len3 hvs
        dsimp only [junk]
        refine G_p rfl rfl rfl ?_
        refine G_or (f := (decide (i1.op = 17))) [_, _, _] rfl rfl ?_ ?_
        · intro hb27
          refine G_p rfl rfl rfl ?_
          refine G_h rfl rfl rfl (fun _ => rfl) ?_
          refine G_p rfl rfl rfl ?_
          exact G_nil (L_nil ⟨rfl, rfl, rfl⟩)
        · intro vs hvs
          obtain ⟨u28, u29, u30, rfl⟩ := len3 hvs
          dsimp only [junk]
          refine G_p rfl rfl rfl ?_
          refine G_or (f := (decide (i1.op = 18))) [_, _, _] rfl rfl ?_ ?_
          · intro hb32
            refine G_p rfl rfl rfl ?_
            refine G_h rfl rfl rfl (fun _ => rfl) ?_
            refine G_p rfl rfl rfl ?_
            exact G_nil (L_nil ⟨rfl, rfl, rfl⟩)
          · intro vs hvs
            obtain ⟨u33, u34, u35, rfl⟩ := len3 hvs
            dsimp only [junk]
            refine G_p rfl rfl rfl ?_
            refine G_nil ?_
            refine L_nil ?_
            refine Sm_norm (e2 := [(17, .bool ((((r3 == []) || (decide (i1.op = 16))) || (decide (i1.op = 17))) || (decide (i1.op = 18))))]) (H1 := [(kg02 i1)]) (H2 := [(kg02 i1)]) rfl (by repeat (first | exact rzz | apply rcc rfl | apply rnn rfl)) rfl (?_ : GL _ _ _ _ _)
            rcases cond_s hr with ⟨hc17, hr⟩ | ⟨hc17, hr⟩
            · refine L_T rfl hc17 ?_
              refine L_seq ?_
              refine L_reg ?_
              refine G_p (v := .lst [] true) rfl rfl rfl ?_
              refine G_nil ?_
              refine L_ret ?_
              refine Blk_ret ?_
              refine Sm_ret ?_
              have hr := some_s hr
              subst hr
              exact ⟨_, rfl, _, rfl, rfl⟩
            · refine L_F rfl hc17 ?_
              refine L_skip ?_
              refine L_nil ?_
              refine Blk_norm (?_ : GL _ _ _ _ _)
              refine L_nil ?_
              refine Sm_norm (e2 := []) (H1 := [(kg02 i1)]) (H2 := [(kg02 i1)]) rfl (by repeat (first | exact rzz | apply rcc rfl | apply rnn rfl)) rfl (?_ : GL _ _ _ _ _)
              refine L_seq ?_
              refine L_reg ?_
              refine G_h (v := .lst (List.map (AVal.int .i64) [(-1)]) true) rfl rfl rfl (fun _ => rfl) ?_
              refine G_p (v := .lst (List.map (AVal.int .i64) [(-1)]) true) rfl rfl rfl ?_
              refine G_nil ?_
              refine L_ret ?_
              have hr := some_s hr
              subst hr
              exact ⟨_, rfl, _, rfl, rfl⟩
noncomputable def y0a (i1 : Ins) (b16 : Bool) : Option (List Int) :=
  (cond b16 ((oConcati [[i1.a], i1.l]).bind fun r17 => some r17) (some []))
noncomputable def y09 (i1 : Ins) (b14 : Bool) : Option (List Int) :=
  (cond b14 ((oConcati [[i1.b], i1.l]).bind fun r15 => some r15) (cond (decide (i1.op = 16)) (y0a i1 (decide (i1.op = 16))) (y0a i1 (decide (i1.op = 17)))))
noncomputable def y04 (i1 : Ins) (b12 : Bool) : Option (List Int) :=
  (cond b12 (cond (okLen i1.l) (some i1.l) none) (cond (decide (i1.op = 14)) (y09 i1 (decide (i1.op = 14))) (y09 i1 (decide (i1.op = 15)))))
noncomputable def y08 (i1 : Ins) (b11 : Bool) : Option (List Int) :=
  (cond b11 (some [i1.a]) (cond (decide (i1.op = 11)) (y04 i1 (decide (i1.op = 11))) (cond (decide (i1.op = 12)) (y04 i1 (decide (i1.op = 12))) (y04 i1 (decide (i1.op = 13))))))
noncomputable def y02 (i1 : Ins) (b10 : Bool) : Option (List Int) :=
  (cond b10 (some [i1.b]) (cond (decide (i1.op = 6)) (some [i1.a, i1.b]) (cond (decide (i1.op = 10)) (y08 i1 (decide (i1.op = 10))) (y08 i1 (decide (i1.op = 18))))))
noncomputable def y0i (i1 : Ins) : Option (List Int) :=
  (cond (decide (i1.op = 2)) (y02 i1 (decide (i1.op = 2))) (cond (decide (i1.op = 4)) (y02 i1 (decide (i1.op = 4))) (cond (decide (i1.op = 5)) (y02 i1 (decide (i1.op = 5))) (cond (decide (i1.op = 8)) (y02 i1 (decide (i1.op = 8))) (y02 i1 (decide (i1.op = 19)))))))
abbrev kg03 (i1 : Ins) : ABlock := .cells [.int .i64 i1.op, .int .i64 i1.a, .int .i64 i1.b, .lst (List.map (AVal.int .i64) i1.l) false]
theorem y45 {i1 : Ins} {r : List Int} (hr : y0i i1 = some r) : PRes (tabOf tabL) 7 [.agg (cIns i1)] (.lst (List.map (AVal.int .i64) r) false) := by
  refine pres_fin t7 ?_
  unfold y0i at hr
  refine L_seq ?_
  refine L_stmt ?_
  refine L_reg ?_
  refine G_n (B := (kg03 i1)) rfl rfl rfl ?_
  refine G_p (v := .lst [] true) rfl rfl rfl ?_
  refine G_nil ?_
  refine L_nil ?_
  refine Sm_norm (e2 := [(1, .ptr 0 0)]) (H1 := [(kg03 i1)]) (H2 := [(kg03 i1)]) rfl (by repeat (first | exact rzz | apply rcc rfl | apply rnn rfl)) rfl (?_ : GL _ _ _ _ _)
  refine L_seq ?_
  refine L_stmt ?_
  refine L_seq ?_
  refine L_stmt ?_
  refine L_reg ?_
  refine G_p rfl rfl rfl ?_
  refine G_h rfl rfl rfl (fun _ => rfl) ?_
  refine G_nil ?_
  refine L_nil ?_
  refine Sm_norm (e2 := [(1, .ptr 0 0), (4, .int .i64 i1.op)]) (H1 := [(kg03 i1)]) (H2 := [(kg03 i1)]) rfl (by repeat (first | exact rzz | apply rcc rfl | apply rnn rfl)) rfl (?_ : GL _ _ _ _ _)
  refine L_block ?_
  refine L_seq ?_
  refine L_stmtJ (S := Bool) (fun s => [(1, .ptr 0 0), (4, .int .i64 i1.op), (5, .bool s)]) (fun s => [(kg03 i1)]) (fun s => y02 i1 s = some r) ?_ ?_
  · skip
    refine L_seq ?_
    refine L_stmt ?_
    refine L_reg ?_
    refine G_p rfl rfl rfl ?_
    refine G_p rfl rfl rfl ?_
    refine G_nil ?_
    refine L_nil ?_
    refine Sm_norm (e2 := [(1, .ptr 0 0), (4, .int .i64 i1.op), (5, .bool (decide (i1.op = 2)))]) (H1 := [(kg03 i1)]) (H2 := [(kg03 i1)]) rfl (by repeat (first | exact rzz | apply rcc rfl | apply rnn rfl)) rfl (?_ : GL _ _ _ _ _)
    rcases cond_s hr with ⟨hc5, hr⟩ | ⟨hc5, hr⟩
    · refine L_T rfl hc5 ?_
      refine L_skip ?_
      refine L_nil ?_
      exact Sm_norm (e2 := [(1, .ptr 0 0), (4, .int .i64 i1.op), (5, .bool (decide (i1.op = 2)))]) (H1 := [(kg03 i1)]) (H2 := [(kg03 i1)]) rfl (by repeat (first | exact rzz | apply rcc rfl | apply rnn rfl)) rfl ⟨(decide (i1.op = 2)), rfl, rfl, hr⟩
    · refine L_F rfl hc5 ?_
      refine L_seq ?_
      refine L_stmt ?_
      refine L_reg ?_
      refine G_p rfl rfl rfl ?_
      refine G_p rfl rfl rfl ?_
      refine G_nil ?_
      refine L_nil ?_
      refine Sm_norm (e2 := [(1, .ptr 0 0), (4, .int .i64 i1.op), (5, .bool (decide (i1.op = 4)))]) (H1 := [(kg03 i1)]) (H2 := [(kg03 i1)]) rfl (by repeat (first | exact rzz | apply rcc rfl | apply rnn rfl)) rfl (?_ : GL _ _ _ _ _)
      rcases cond_s hr with ⟨hc5, hr⟩ | ⟨hc5, hr⟩
      · refine L_T rfl hc5 ?_
        refine L_skip ?_
        refine L_nil ?_
        exact Sm_norm (e2 := [(1, .ptr 0 0), (4, .int .i64 i1.op), (5, .bool (decide (i1.op = 4)))]) (H1 := [(kg03 i1)]) (H2 := [(kg03 i1)]) rfl (by repeat (first | exact rzz | apply rcc rfl | apply rnn rfl)) rfl ⟨(decide (i1.op = 4)), rfl, rfl, hr⟩
      · refine L_F rfl hc5 ?_
        refine L_seq ?_
        refine L_stmt ?_
        refine L_reg ?_
        refine G_p rfl rfl rfl ?_
        refine G_p rfl rfl rfl ?_
        refine G_nil ?_
        refine L_nil ?_
        refine Sm_norm (e2 := [(1, .ptr 0 0), (4, .int .i64 i1.op), (5, .bool (decide (i1.op = 5)))]) (H1 := [(kg03 i1)]) (H2 := [(kg03 i1)]) rfl (by repeat (first | exact rzz | apply rcc rfl | apply rnn rfl)) rfl (?_ : GL _ _ _ _ _)
        rcases cond_s hr with ⟨hc5, hr⟩ | ⟨hc5, hr⟩
        · refine L_T rfl hc5 ?_
          refine L_skip ?_
          refine L_nil ?_
          exact Sm_norm (e2 := [(1, .ptr 0 0), (4, .int .i64 i1.op), (5, .bool (decide (i1.op = 5)))]) (H1 := [(kg03 i1)]) (H2 := [(kg03 i1)]) rfl (by repeat (first | exact rzz | apply rcc rfl | apply rnn rfl)) rfl ⟨(decide (i1.op = 5)), rfl, rfl, hr⟩
        · refine L_F rfl hc5 ?_
          refine L_seq ?_
          refine L_stmt ?_
          refine L_reg ?_
          refine G_p rfl rfl rfl ?_
          refine G_p rfl rfl rfl ?_
          refine G_nil ?_
          refine L_nil ?_
          refine Sm_norm (e2 := [(1, .ptr 0 0), (4, .int .i64 i1.op), (5, .bool (decide (i1.op = 8)))]) (H1 := [(kg03 i1)]) (H2 := [(kg03 i1)]) rfl (by repeat (first | exact rzz | apply rcc rfl | apply rnn rfl)) rfl (?_ : GL _ _ _ _ _)
          rcases cond_s hr with ⟨hc5, hr⟩ | ⟨hc5, hr⟩
          · refine L_T rfl hc5 ?_
            refine L_skip ?_
            refine L_nil ?_
            exact Sm_norm (e2 := [(1, .ptr 0 0), (4, .int .i64 i1.op), (5, .bool (decide (i1.op = 8)))]) (H1 := [(kg03 i1)]) (H2 := [(kg03 i1)]) rfl (by repeat (first | exact rzz | apply rcc rfl | apply rnn rfl)) rfl ⟨(decide (i1.op = 8)), rfl, rfl, hr⟩
          · refine L_F rfl hc5 ?_
            refine L_reg ?_
            refine G_p rfl rfl rfl ?_
            refine G_p rfl rfl rfl ?_
            refine G_nil ?_
            refine L_nil ?_
            exact Sm_norm (e2 := [(1, .ptr 0 0), (4, .int .i64 i1.op), (5, .bool (decide (i1.op = 19)))]) (H1 := [(kg03 i1)]) (H2 := [(kg03 i1)]) rfl (by repeat (first | exact rzz | apply rcc rfl | apply rnn rfl)) rfl ⟨(decide (i1.op = 19)), rfl, rfl, hr⟩
  · rintro b10 hr
    show GL _ _ [(1, .ptr 0 0), (4, .int .i64 i1.op), (5, .bool b10)] [(kg03 i1)] _
    replace hr : y02 i1 b10 = some r := hr
    unfold y02 at hr
    rcases cond_s hr with ⟨hc5, hr⟩ | ⟨hc5, hr⟩
    · refine L_T rfl hc5 ?_
      refine L_seq ?_
      refine L_reg ?_
      refine G_p rfl rfl rfl ?_
      refine G_h rfl rfl rfl (fun _ => rfl) ?_
      refine G_h (v := .lst (List.map (AVal.int .i64) [i1.b]) true) rfl rfl rfl (fun _ => rfl) ?_
      refine G_p (v := .lst (List.map (AVal.int .i64) [i1.b]) true) rfl rfl rfl ?_
      refine G_nil ?_
      refine L_ret ?_
      refine Blk_ret ?_
      refine Sm_ret ?_
      have hr := some_s hr
      subst hr
      exact ⟨_, rfl, _, rfl, rfl⟩
    · refine L_F rfl hc5 ?_
      refine L_seq ?_
      refine L_stmt ?_
      refine L_reg ?_
      refine G_p rfl rfl rfl ?_
      refine G_p rfl rfl rfl ?_
      refine G_nil ?_
      refine L_nil ?_
      refine Sm_norm (e2 := [(1, .ptr 0 0), (4, .int .i64 i1.op), (14, .bool (decide (i1.op = 6)))]) (H1 := [(kg03 i1)]) (H2 := [(kg03 i1)]) rfl (by repeat (first | exact rzz | apply rcc rfl | apply rnn rfl)) rfl (?_ : GL _ _ _ _ _)
      rcases cond_s hr with ⟨hc14, hr⟩ | ⟨hc14, hr⟩
      · refine L_T rfl hc14 ?_
        refine L_seq ?_
        refine L_reg ?_
        refine G_p rfl rfl rfl ?_
        refine G_h rfl rfl rfl (fun _ => rfl) ?_
        refine G_p rfl rfl rfl ?_
        refine G_h rfl rfl rfl (fun _ => rfl) ?_
        refine G_h (v := .lst (List.map (AVal.int .i64) [i1.a, i1.b]) true) rfl rfl rfl (fun _ => rfl) ?_
        refine G_p (v := .lst (List.map (AVal.int .i64) [i1.a, i1.b]) true) rfl rfl rfl ?_
        refine G_nil ?_
        refine L_ret ?_
        refine Blk_ret ?_
        refine Sm_ret ?_
        have hr := some_s hr
        subst hr
        exact ⟨_, rfl, _, rfl, rfl⟩
      · refine L_F rfl hc14 ?_
        refine L_seq ?_
        refine L_stmtJ (S := Bool) (fun s => [(1, .ptr 0 0), (4, .int .i64 i1.op), (21, .bool s)]) (fun s => [(kg03 i1)]) (fun s => y08 i1 s = some r) ?_ ?_
        · skip
          refine L_seq ?_
          refine L_stmt ?_
          refine L_reg ?_
          refine G_p rfl rfl rfl ?_
          refine G_p rfl rfl rfl ?_
          refine G_nil ?_
          refine L_nil ?_
          refine Sm_norm (e2 := [(1, .ptr 0 0), (4, .int .i64 i1.op), (21, .bool (decide (i1.op = 10)))]) (H1 := [(kg03 i1)]) (H2 := [(kg03 i1)]) rfl (by repeat (first | exact rzz | apply rcc rfl | apply rnn rfl)) rfl (?_ : GL _ _ _ _ _)
          rcases cond_s hr with ⟨hc21, hr⟩ | ⟨hc21, hr⟩
          · refine L_T rfl hc21 ?_
            refine L_skip ?_
            refine L_nil ?_
            exact Sm_norm (e2 := [(1, .ptr 0 0), (4, .int .i64 i1.op), (21, .bool (decide (i1.op = 10)))]) (H1 := [(kg03 i1)]) (H2 := [(kg03 i1)]) rfl (by repeat (first | exact rzz | apply rcc rfl | apply rnn rfl)) rfl ⟨(decide (i1.op = 10)), rfl, rfl, hr⟩
          · refine L_F rfl hc21 ?_
            refine L_reg ?_
            refine G_p rfl rfl rfl ?_
            refine G_p rfl rfl rfl ?_
            refine G_nil ?_
            refine L_nil ?_
            exact Sm_norm (e2 := [(1, .ptr 0 0), (4, .int .i64 i1.op), (21, .bool (decide (i1.op = 18)))]) (H1 := [(kg03 i1)]) (H2 := [(kg03 i1)]) rfl (by repeat (first | exact rzz | apply rcc rfl | apply rnn rfl)) rfl ⟨(decide (i1.op = 18)), rfl, rfl, hr⟩
        · rintro b11 hr
          show GL _ _ [(1, .ptr 0 0), (4, .int .i64 i1.op), (21, .bool b11)] [(kg03 i1)] _
          replace hr : y08 i1 b11 = some r := hr
          unfold y08 at hr
          rcases cond_s hr with ⟨hc21, hr⟩ | ⟨hc21, hr⟩
          · refine L_T rfl hc21 ?_
            refine L_seq ?_
            refine L_reg ?_
            refine G_p rfl rfl rfl ?_
            refine G_h rfl rfl rfl (fun _ => rfl) ?_
            refine G_h (v := .lst (List.map (AVal.int .i64) [i1.a]) true) rfl rfl rfl (fun _ => rfl) ?_
            refine G_p (v := .lst (List.map (AVal.int .i64) [i1.a]) true) rfl rfl rfl ?_
            refine G_nil ?_
            refine L_ret ?_
            refine Blk_ret ?_
            refine Sm_ret ?_
            have hr := some_s hr
            subst hr
            exact ⟨_, rfl, _, rfl, rfl⟩
          · refine L_F rfl hc21 ?_
            refine L_seq ?_
            refine L_stmtJ (S := Bool) (fun s => [(1, .ptr 0 0), (4, .int .i64 i1.op), (27, .bool s)]) (fun s => [(kg03 i1)]) (fun s => y04 i1 s = some r) ?_ ?_
            · skip
              refine L_seq ?_
              refine L_stmt ?_
              refine L_reg ?_
              refine G_p rfl rfl rfl ?_
              refine G_p rfl rfl rfl ?_
              refine G_nil ?_
              refine L_nil ?_
              refine Sm_norm (e2 := [(1, .ptr 0 0), (4, .int .i64 i1.op), (27, .bool (decide (i1.op = 11)))]) (H1 := [(kg03 i1)]) (H2 := [(kg03 i1)]) rfl (by repeat (first | exact rzz | apply rcc rfl | apply rnn rfl)) rfl (?_ : GL _ _ _ _ _)
              rcases cond_s hr with ⟨hc27, hr⟩ | ⟨hc27, hr⟩
              · refine L_T rfl hc27 ?_
                refine L_skip ?_
                refine L_nil ?_
                exact Sm_norm (e2 := [(1, .ptr 0 0), (4, .int .i64 i1.op), (27, .bool (decide (i1.op = 11)))]) (H1 := [(kg03 i1)]) (H2 := [(kg03 i1)]) rfl (by repeat (first | exact rzz | apply rcc rfl | apply rnn rfl)) rfl ⟨(decide (i1.op = 11)), rfl, rfl, hr⟩
              · refine L_F rfl hc27 ?_
                refine L_seq ?_
                refine L_stmt ?_
                refine L_reg ?_
                refine G_p rfl rfl rfl ?_
                refine G_p rfl rfl rfl ?_
                refine G_nil ?_
                refine L_nil ?_
                refine Sm_norm (e2 := [(1, .ptr 0 0), (4, .int .i64 i1.op), (27, .bool (decide (i1.op = 12)))]) (H1 := [(kg03 i1)]) (H2 := [(kg03 i1)]) rfl (by repeat (first | exact rzz | apply rcc rfl | apply rnn rfl)) rfl (?_ : GL _ _ _ _ _)
                rcases cond_s hr with ⟨hc27, hr⟩ | ⟨hc27, hr⟩
                · refine L_T rfl hc27 ?_
                  refine L_skip ?_
                  refine L_nil ?_
                  exact Sm_norm (e2 := [(1, .ptr 0 0), (4, .int .i64 i1.op), (27, .bool (decide (i1.op = 12)))]) (H1 := [(kg03 i1)]) (H2 := [(kg03 i1)]) rfl (by repeat (first | exact rzz | apply rcc rfl | apply rnn rfl)) rfl ⟨(decide (i1.op = 12)), rfl, rfl, hr⟩
                · refine L_F rfl hc27 ?_
                  refine L_reg ?_
                  refine G_p rfl rfl rfl ?_
                  refine G_p rfl rfl rfl ?_
                  refine G_nil ?_
                  refine L_nil ?_
                  exact Sm_norm (e2 := [(1, .ptr 0 0), (4, .int .i64 i1.op), (27, .bool (decide (i1.op = 13)))]) (H1 := [(kg03 i1)]) (H2 := [(kg03 i1)]) rfl (by repeat (first | exact rzz | apply rcc rfl | apply rnn rfl)) rfl ⟨(decide (i1.op = 13)), rfl, rfl, hr⟩
            · rintro b12 hr
              show GL _ _ [(1, .ptr 0 0), (4, .int .i64 i1.op), (27, .bool b12)] [(kg03 i1)] _
              replace hr : y04 i1 b12 = some r := hr
              unfold y04 at hr
              rcases cond_s hr with ⟨hc27, hr⟩ | ⟨hc27, hr⟩
              · refine L_T rfl hc27 ?_
                refine L_seq ?_
                refine L_reg ?_
                refine G_p rfl rfl rfl ?_
                refine G_h (v := .lst (List.map (AVal.int .i64) i1.l) false) rfl rfl rfl (fun _ => rfl) ?_
                obtain ⟨hLq13, hr⟩ := guard_s hr
                rcases emp_or i1.l with hEq13 | hEq13
                · skip
                  refine G_c 20 rfl rfl (CA_raw (clone_e (f := (AVal.int .i64)) (ys := i1.l) t20 (fun _ => rfl) rfl hEq13) (by simp [cutH] <;> rfl)) ?_
                  refine G_p (v := .lst (List.map (AVal.int .i64) i1.l) true) rfl rfl rfl ?_
                  refine G_nil ?_
                  refine L_ret ?_
                  refine Blk_ret ?_
                  refine Sm_ret ?_
                  have hr := some_s hr
                  subst hr
                  exact ⟨_, rfl, _, rfl, rfl⟩
                · skip
                  refine G_c 20 rfl rfl (CA_raw (clone_n (f := (AVal.int .i64)) (ys := i1.l) t20 (fun _ => rfl) (by decide) rfl hEq13 hLq13) (by simp [cutH, lowV] <;> rfl)) ?_
                  refine G_p rfl rfl rfl ?_
                  refine G_nil ?_
                  refine L_ret ?_
                  refine Blk_ret ?_
                  refine Sm_ret ?_
                  have hr := some_s hr
                  subst hr
                  exact ⟨_, rfl, _, (shutR_gl rfl), rfl⟩
              · refine L_F rfl hc27 ?_
                refine L_seq ?_
                refine L_stmtJ (S := Bool) (fun s => [(1, .ptr 0 0), (4, .int .i64 i1.op), (34, .bool s)]) (fun s => [(kg03 i1)]) (fun s => y09 i1 s = some r) ?_ ?_
                · skip
                  refine L_seq ?_
                  refine L_stmt ?_
                  refine L_reg ?_
                  refine G_p rfl rfl rfl ?_
                  refine G_p rfl rfl rfl ?_
                  refine G_nil ?_
                  refine L_nil ?_
                  refine Sm_norm (e2 := [(1, .ptr 0 0), (4, .int .i64 i1.op), (34, .bool (decide (i1.op = 14)))]) (H1 := [(kg03 i1)]) (H2 := [(kg03 i1)]) rfl (by repeat (first | exact rzz | apply rcc rfl | apply rnn rfl)) rfl (?_ : GL _ _ _ _ _)
                  rcases cond_s hr with ⟨hc34, hr⟩ | ⟨hc34, hr⟩
                  · refine L_T rfl hc34 ?_
                    refine L_skip ?_
                    refine L_nil ?_
                    exact Sm_norm (e2 := [(1, .ptr 0 0), (4, .int .i64 i1.op), (34, .bool (decide (i1.op = 14)))]) (H1 := [(kg03 i1)]) (H2 := [(kg03 i1)]) rfl (by repeat (first | exact rzz | apply rcc rfl | apply rnn rfl)) rfl ⟨(decide (i1.op = 14)), rfl, rfl, hr⟩
                  · refine L_F rfl hc34 ?_
                    refine L_reg ?_
                    refine G_p rfl rfl rfl ?_
                    refine G_p rfl rfl rfl ?_
                    refine G_nil ?_
                    refine L_nil ?_
                    exact Sm_norm (e2 := [(1, .ptr 0 0), (4, .int .i64 i1.op), (34, .bool (decide (i1.op = 15)))]) (H1 := [(kg03 i1)]) (H2 := [(kg03 i1)]) rfl (by repeat (first | exact rzz | apply rcc rfl | apply rnn rfl)) rfl ⟨(decide (i1.op = 15)), rfl, rfl, hr⟩
                · rintro b14 hr
                  show GL _ _ [(1, .ptr 0 0), (4, .int .i64 i1.op), (34, .bool b14)] [(kg03 i1)] _
                  replace hr : y09 i1 b14 = some r := hr
                  unfold y09 at hr
                  rcases cond_s hr with ⟨hc34, hr⟩ | ⟨hc34, hr⟩
                  · refine L_T rfl hc34 ?_
                    refine L_seq ?_
                    refine L_reg ?_
                    refine G_p rfl rfl rfl ?_
                    refine G_h rfl rfl rfl (fun _ => rfl) ?_
                    refine G_h (v := .lst (List.map (AVal.int .i64) [i1.b]) true) rfl rfl rfl (fun _ => rfl) ?_
                    refine G_p rfl rfl rfl ?_
                    refine G_h (v := .lst (List.map (AVal.int .i64) i1.l) false) rfl rfl rfl (fun _ => rfl) ?_
                    refine G_h (v := .lst (List.map (encS (AVal.int .i64)) [[i1.b], i1.l]) true) rfl rfl rfl (fun _ => rfl) ?_
                    obtain ⟨r15, hr15, hr⟩ := bind_s hr
                    refine G_c 21 rfl rfl (CA_of (as := [.lst (List.map (encS (AVal.int .i64)) [[i1.b], i1.l]) false]) rfl (y34 hr15)) ?_
                    refine G_p (v := .lst (List.map (AVal.int .i64) r15) false) rfl rfl rfl ?_
                    refine G_nil ?_
                    refine L_ret ?_
                    refine Blk_ret ?_
                    refine Sm_ret ?_
                    have hr := some_s hr
                    subst hr
                    exact ⟨_, rfl, _, rfl, rfl⟩
                  · refine L_F rfl hc34 ?_
                    refine L_seq ?_
                    refine L_stmtJ (S := Bool) (fun s => [(1, .ptr 0 0), (44, .bool s)]) (fun s => [(kg03 i1)]) (fun s => y0a i1 s = some r) ?_ ?_
                    · skip
                      refine L_seq ?_
                      refine L_stmt ?_
                      refine L_reg ?_
                      refine G_p rfl rfl rfl ?_
                      refine G_p rfl rfl rfl ?_
                      refine G_nil ?_
                      refine L_nil ?_
                      refine Sm_norm (e2 := [(1, .ptr 0 0), (4, .int .i64 i1.op), (44, .bool (decide (i1.op = 16)))]) (H1 := [(kg03 i1)]) (H2 := [(kg03 i1)]) rfl (by repeat (first | exact rzz | apply rcc rfl | apply rnn rfl)) rfl (?_ : GL _ _ _ _ _)
                      rcases cond_s hr with ⟨hc44, hr⟩ | ⟨hc44, hr⟩
                      · refine L_T rfl hc44 ?_
                        refine L_skip ?_
                        refine L_nil ?_
                        exact Sm_norm (e2 := [(1, .ptr 0 0), (44, .bool (decide (i1.op = 16)))]) (H1 := [(kg03 i1)]) (H2 := [(kg03 i1)]) rfl (by repeat (first | exact rzz | apply rcc rfl | apply rnn rfl)) rfl ⟨(decide (i1.op = 16)), rfl, rfl, hr⟩
                      · refine L_F rfl hc44 ?_
                        refine L_reg ?_
                        refine G_p rfl rfl rfl ?_
                        refine G_p rfl rfl rfl ?_
                        refine G_nil ?_
                        refine L_nil ?_
                        exact Sm_norm (e2 := [(1, .ptr 0 0), (44, .bool (decide (i1.op = 17)))]) (H1 := [(kg03 i1)]) (H2 := [(kg03 i1)]) rfl (by repeat (first | exact rzz | apply rcc rfl | apply rnn rfl)) rfl ⟨(decide (i1.op = 17)), rfl, rfl, hr⟩
                    · rintro b16 hr
                      show GL _ _ [(1, .ptr 0 0), (44, .bool b16)] [(kg03 i1)] _
                      replace hr : y0a i1 b16 = some r := hr
                      unfold y0a at hr
                      rcases cond_s hr with ⟨hc44, hr⟩ | ⟨hc44, hr⟩
                      · refine L_T rfl hc44 ?_
                        refine L_seq ?_
                        refine L_reg ?_
                        refine G_p rfl rfl rfl ?_
                        refine G_h rfl rfl rfl (fun _ => rfl) ?_
                        refine G_h (v := .lst (List.map (AVal.int .i64) [i1.a]) true) rfl rfl rfl (fun _ => rfl) ?_
                        refine G_p rfl rfl rfl ?_
                        refine G_h (v := .lst (List.map (AVal.int .i64) i1.l) false) rfl rfl rfl (fun _ => rfl) ?_
                        refine G_h (v := .lst (List.map (encS (AVal.int .i64)) [[i1.a], i1.l]) true) rfl rfl rfl (fun _ => rfl) ?_
                        obtain ⟨r17, hr17, hr⟩ := bind_s hr
                        refine G_c 21 rfl rfl (CA_of (as := [.lst (List.map (encS (AVal.int .i64)) [[i1.a], i1.l]) false]) rfl (y34 hr17)) ?_
                        refine G_p (v := .lst (List.map (AVal.int .i64) r17) false) rfl rfl rfl ?_
                        refine G_nil ?_
                        refine L_ret ?_
                        refine Blk_ret ?_
                        refine Sm_ret ?_
                        have hr := some_s hr
                        subst hr
                        exact ⟨_, rfl, _, rfl, rfl⟩
                      · refine L_F rfl hc44 ?_
                        refine L_skip ?_
                        refine L_nil ?_
                        refine Blk_norm (?_ : GL _ _ _ _ _)
                        refine L_nil ?_
                        refine Sm_norm (e2 := []) (H1 := [(kg03 i1)]) (H2 := [(kg03 i1)]) rfl (by repeat (first | exact rzz | apply rcc rfl | apply rnn rfl)) rfl (?_ : GL _ _ _ _ _)
                        refine L_seq ?_
                        refine L_reg ?_
                        refine G_p (v := .lst [] true) rfl rfl rfl ?_
                        refine G_nil ?_
                        refine L_ret ?_
                        have hr := some_s hr
                        subst hr
                        exact ⟨_, rfl, _, rfl, rfl⟩
noncomputable def y29 : Option (List (List UInt8)) :=
  some [[], ([99, 111, 110, 115, 116] : List UInt8), ([109, 111, 118, 101] : List UInt8), ([102, 114, 101, 101] : List UInt8), ([98, 111, 120] : List UInt8), ([117, 110, 98, 111, 120] : List UInt8), ([115, 101, 116, 45, 98, 111, 120] : List UInt8), ([103, 108, 111, 98, 97, 108] : List UInt8), ([100, 101, 102, 105, 110, 101] : List UInt8), ([106, 117, 109, 112] : List UInt8), ([102, 97, 108, 115, 101] : List UInt8), ([99, 108, 111, 115, 101] : List UInt8), ([112, 114, 105, 109] : List UInt8), ([102, 97, 115, 116] : List UInt8), ([99, 97, 108, 108] : List UInt8), ([102, 97, 115, 116, 45, 99, 97, 108, 108] : List UInt8), ([116, 97, 105, 108] : List UInt8), ([102, 97, 115, 116, 45, 116, 97, 105, 108] : List UInt8), ([114, 101, 116, 117, 114, 110] : List UInt8), ([99, 97, 115, 116] : List UInt8)]
theorem y4a {r : List (List UInt8)} (hr : y29 = some r) : PRes (tabOf tabL) 23 [] (.lst (List.map AVal.str r) false) := by
  refine pres_fin t23 ?_
  unfold y29 at hr
  refine L_seq ?_
  refine L_stmt ?_
  refine L_reg ?_
  refine G_p (v := .lst [] true) rfl rfl rfl ?_
  refine G_nil ?_
  refine L_nil ?_
  refine Sm_norm (e2 := []) (H1 := []) (H2 := []) rfl (by repeat (first | exact rzz | apply rcc rfl | apply rnn rfl)) rfl (?_ : GL _ _ _ _ _)
  refine L_seq ?_
  refine L_reg ?_
  refine G_h (v := .lst (List.map AVal.str [[], ([99, 111, 110, 115, 116] : List UInt8), ([109, 111, 118, 101] : List UInt8), ([102, 114, 101, 101] : List UInt8), ([98, 111, 120] : List UInt8), ([117, 110, 98, 111, 120] : List UInt8), ([115, 101, 116, 45, 98, 111, 120] : List UInt8), ([103, 108, 111, 98, 97, 108] : List UInt8), ([100, 101, 102, 105, 110, 101] : List UInt8), ([106, 117, 109, 112] : List UInt8), ([102, 97, 108, 115, 101] : List UInt8), ([99, 108, 111, 115, 101] : List UInt8), ([112, 114, 105, 109] : List UInt8), ([102, 97, 115, 116] : List UInt8), ([99, 97, 108, 108] : List UInt8), ([102, 97, 115, 116, 45, 99, 97, 108, 108] : List UInt8), ([116, 97, 105, 108] : List UInt8), ([102, 97, 115, 116, 45, 116, 97, 105, 108] : List UInt8), ([114, 101, 116, 117, 114, 110] : List UInt8), ([99, 97, 115, 116] : List UInt8)]) true) rfl rfl rfl (fun _ => rfl) ?_
  refine G_p (v := .lst (List.map AVal.str [[], ([99, 111, 110, 115, 116] : List UInt8), ([109, 111, 118, 101] : List UInt8), ([102, 114, 101, 101] : List UInt8), ([98, 111, 120] : List UInt8), ([117, 110, 98, 111, 120] : List UInt8), ([115, 101, 116, 45, 98, 111, 120] : List UInt8), ([103, 108, 111, 98, 97, 108] : List UInt8), ([100, 101, 102, 105, 110, 101] : List UInt8), ([106, 117, 109, 112] : List UInt8), ([102, 97, 108, 115, 101] : List UInt8), ([99, 108, 111, 115, 101] : List UInt8), ([112, 114, 105, 109] : List UInt8), ([102, 97, 115, 116] : List UInt8), ([99, 97, 108, 108] : List UInt8), ([102, 97, 115, 116, 45, 99, 97, 108, 108] : List UInt8), ([116, 97, 105, 108] : List UInt8), ([102, 97, 115, 116, 45, 116, 97, 105, 108] : List UInt8), ([114, 101, 116, 117, 114, 110] : List UInt8), ([99, 97, 115, 116] : List UInt8)]) true) rfl rfl rfl ?_
  refine G_nil ?_
  refine L_ret ?_
  have hr := some_s hr
  subst hr
  exact ⟨_, rfl, _, rfl, rfl⟩
noncomputable def y12 (op1 : Int) : Option (List UInt8) :=
  (cond ((decide (op1 < 1)) || (decide (19 < op1))) (some []) ((y29).bind fun r2 => ((idx r2 op1).bind fun e3 => some e3)))
theorem y0f {op1 : Int} {r : List UInt8} (hr : y12 op1 = some r) : PRes (tabOf tabL) 14 [.int .i64 op1] (.str r) := by
  refine pres_fin t14 ?_
  unfold y12 at hr
  refine L_seq ?_
  refine L_stmt ?_
  refine L_reg ?_
  refine G_p rfl rfl rfl ?_
  refine G_nil ?_
  refine L_nil ?_
  refine Sm_norm (e2 := [(0, .int .i64 op1)]) (H1 := []) (H2 := []) rfl (by repeat (first | exact rzz | apply rcc rfl | apply rnn rfl)) rfl (?_ : GL _ _ _ _ _)
  refine L_seq ?_
  refine L_stmt ?_
  refine L_seq ?_
  refine L_stmt ?_
  refine L_reg ?_
  refine G_p rfl rfl rfl ?_
  refine G_p rfl rfl rfl ?_
  refine G_p rfl rfl rfl ?_
  refine G_or (f := (decide (19 < op1))) [_, _] rfl rfl ?_ ?_
  · intro hb5
    refine G_p rfl rfl rfl ?_
    refine G_p rfl rfl rfl ?_
    exact G_nil (L_nil ⟨rfl, rfl, rfl⟩)
  · intro vs hvs
    obtain ⟨u6, u7, rfl⟩ := len2 hvs
    dsimp only [junk]
    refine G_nil ?_
    refine L_nil ?_
    refine Sm_norm (e2 := [(0, .int .i64 op1), (8, .bool ((decide (op1 < 1)) || (decide (19 < op1))))]) (H1 := []) (H2 := []) rfl (by repeat (first | exact rzz | apply rcc rfl | apply rnn rfl)) rfl (?_ : GL _ _ _ _ _)
    rcases cond_s hr with ⟨hc8, hr⟩ | ⟨hc8, hr⟩
    · refine L_T rfl hc8 ?_
      refine L_seq ?_
      refine L_reg ?_
      refine G_p rfl rfl rfl ?_
      refine G_nil ?_
      refine L_ret ?_
      refine Sm_ret ?_
      have hr := some_s hr
      subst hr
      exact ⟨_, rfl, _, rfl, rfl⟩
    · refine L_F rfl hc8 ?_
      refine L_skip ?_
      refine L_nil ?_
      refine Sm_norm (e2 := [(0, .int .i64 op1)]) (H1 := []) (H2 := []) rfl (by repeat (first | exact rzz | apply rcc rfl | apply rnn rfl)) rfl (?_ : GL _ _ _ _ _)
      refine L_seq ?_
      refine L_reg ?_
      obtain ⟨r2, hr2, hr⟩ := bind_s hr
      refine G_c 23 rfl rfl (CA_of (as := []) rfl (y4a hr2)) ?_
      refine G_p rfl rfl rfl ?_
      obtain ⟨e3, he3, hr⟩ := bind_s hr
      refine G_h (v := .ro [.str e3]) rfl rfl rfl (ia_ev (cells := [.str e3]) rfl rfl (idx_s he3).1 (map_get (x := e3) (idx_s he3).2) rfl rfl) ?_
      refine G_h rfl rfl rfl (fun _ => rfl) ?_
      refine G_p rfl rfl rfl ?_
      refine G_nil ?_
      refine L_ret ?_
      have hr := some_s hr
      subst hr
      exact ⟨_, rfl, _, rfl, rfl⟩
noncomputable def y0n (i1 : Ins) : Option Int :=
  (cond (decide (i1.op = 1)) (cond (decide (i1.op = 1)) (some i1.a) (some (-1))) (cond (decide (i1.op = 2)) (cond (decide (i1.op = 2)) (some i1.a) (some (-1))) (cond (decide (i1.op = 3)) (cond (decide (i1.op = 3)) (some i1.a) (some (-1))) (cond (decide (i1.op = 4)) (cond (decide (i1.op = 4)) (some i1.a) (some (-1))) (cond (decide (i1.op = 5)) (cond (decide (i1.op = 5)) (some i1.a) (some (-1))) (cond (decide (i1.op = 7)) (cond (decide (i1.op = 7)) (some i1.a) (some (-1))) (cond (decide (i1.op = 11)) (cond (decide (i1.op = 11)) (some i1.a) (some (-1))) (cond (decide (i1.op = 12)) (cond (decide (i1.op = 12)) (some i1.a) (some (-1))) (cond (decide (i1.op = 13)) (cond (decide (i1.op = 13)) (some i1.a) (some (-1))) (cond (decide (i1.op = 14)) (cond (decide (i1.op = 14)) (some i1.a) (some (-1))) (cond (decide (i1.op = 15)) (cond (decide (i1.op = 15)) (some i1.a) (some (-1))) (cond (decide (i1.op = 19)) (some i1.a) (some (-1))))))))))))))
abbrev kg04 (i1 : Ins) : ABlock := .cells [.int .i64 i1.op, .int .i64 i1.a, .int .i64 i1.b, .lst (List.map (AVal.int .i64) i1.l) false]
theorem y17 {i1 : Ins} {r : Int} (hr : y0n i1 = some r) : PRes (tabOf tabL) 12 [.agg (cIns i1)] (.int .i64 r) := by
  refine pres_fin t12 ?_
  unfold y0n at hr
  refine L_seq ?_
  refine L_stmt ?_
  refine L_reg ?_
  refine G_n (B := (kg04 i1)) rfl rfl rfl ?_
  refine G_p rfl rfl rfl ?_
  refine G_nil ?_
  refine L_nil ?_
  refine Sm_norm (e2 := [(1, .ptr 0 0)]) (H1 := [(kg04 i1)]) (H2 := [(kg04 i1)]) rfl (by repeat (first | exact rzz | apply rcc rfl | apply rnn rfl)) rfl (?_ : GL _ _ _ _ _)
  refine L_seq ?_
  refine L_stmt ?_
  refine L_seq ?_
  refine L_stmt ?_
  refine L_reg ?_
  refine G_p rfl rfl rfl ?_
  refine G_h rfl rfl rfl (fun _ => rfl) ?_
  refine G_nil ?_
  refine L_nil ?_
  refine Sm_norm (e2 := [(1, .ptr 0 0), (4, .int .i64 i1.op)]) (H1 := [(kg04 i1)]) (H2 := [(kg04 i1)]) rfl (by repeat (first | exact rzz | apply rcc rfl | apply rnn rfl)) rfl (?_ : GL _ _ _ _ _)
  refine L_block ?_
  refine L_seq ?_
  refine L_stmt ?_
  refine L_seq ?_
  refine L_stmt ?_
  refine L_reg ?_
  refine G_p rfl rfl rfl ?_
  refine G_p rfl rfl rfl ?_
  refine G_nil ?_
  refine L_nil ?_
  refine Sm_norm (e2 := [(1, .ptr 0 0), (4, .int .i64 i1.op), (5, .bool (decide (i1.op = 1)))]) (H1 := [(kg04 i1)]) (H2 := [(kg04 i1)]) rfl (by repeat (first | exact rzz | apply rcc rfl | apply rnn rfl)) rfl (?_ : GL _ _ _ _ _)
  rcases cond_s hr with ⟨hc5, hr⟩ | ⟨hc5, hr⟩
  · refine L_T rfl hc5 ?_
    refine L_skip ?_
    refine L_nil ?_
    refine Sm_norm (e2 := [(1, .ptr 0 0), (5, .bool (decide (i1.op = 1)))]) (H1 := [(kg04 i1)]) (H2 := [(kg04 i1)]) rfl (by repeat (first | exact rzz | apply rcc rfl | apply rnn rfl)) rfl (?_ : GL _ _ _ _ _)
    rcases cond_s hr with ⟨hc5, hr⟩ | ⟨hc5, hr⟩
    · refine L_T rfl hc5 ?_
      refine L_seq ?_
      refine L_reg ?_
      refine G_p rfl rfl rfl ?_
      refine G_h rfl rfl rfl (fun _ => rfl) ?_
      refine G_p rfl rfl rfl ?_
      refine G_nil ?_
      refine L_ret ?_
      refine Blk_ret ?_
      refine Sm_ret ?_
      have hr := some_s hr
      subst hr
      exact ⟨_, rfl, _, rfl, rfl⟩
    · refine L_F rfl hc5 ?_
      refine L_skip ?_
      refine L_nil ?_
      refine Blk_norm (?_ : GL _ _ _ _ _)
      refine L_nil ?_
      refine Sm_norm (e2 := []) (H1 := [(kg04 i1)]) (H2 := [(kg04 i1)]) rfl (by repeat (first | exact rzz | apply rcc rfl | apply rnn rfl)) rfl (?_ : GL _ _ _ _ _)
      refine L_seq ?_
      refine L_reg ?_
      refine G_p rfl rfl rfl ?_
      refine G_nil ?_
      refine L_ret ?_
      have hr := some_s hr
      subst hr
      exact ⟨_, rfl, _, rfl, rfl⟩
  · refine L_F rfl hc5 ?_
    refine L_seq ?_
    refine L_stmt ?_
    refine L_reg ?_
    refine G_p rfl rfl rfl ?_
    refine G_p rfl rfl rfl ?_
    refine G_nil ?_
    refine L_nil ?_
    refine Sm_norm (e2 := [(1, .ptr 0 0), (4, .int .i64 i1.op), (5, .bool (decide (i1.op = 2)))]) (H1 := [(kg04 i1)]) (H2 := [(kg04 i1)]) rfl (by repeat (first | exact rzz | apply rcc rfl | apply rnn rfl)) rfl (?_ : GL _ _ _ _ _)
    rcases cond_s hr with ⟨hc5, hr⟩ | ⟨hc5, hr⟩
    · refine L_T rfl hc5 ?_
      refine L_skip ?_
      refine L_nil ?_
      refine Sm_norm (e2 := [(1, .ptr 0 0), (5, .bool (decide (i1.op = 2)))]) (H1 := [(kg04 i1)]) (H2 := [(kg04 i1)]) rfl (by repeat (first | exact rzz | apply rcc rfl | apply rnn rfl)) rfl (?_ : GL _ _ _ _ _)
      rcases cond_s hr with ⟨hc5, hr⟩ | ⟨hc5, hr⟩
      · refine L_T rfl hc5 ?_
        refine L_seq ?_
        refine L_reg ?_
        refine G_p rfl rfl rfl ?_
        refine G_h rfl rfl rfl (fun _ => rfl) ?_
        refine G_p rfl rfl rfl ?_
        refine G_nil ?_
        refine L_ret ?_
        refine Blk_ret ?_
        refine Sm_ret ?_
        have hr := some_s hr
        subst hr
        exact ⟨_, rfl, _, rfl, rfl⟩
      · refine L_F rfl hc5 ?_
        refine L_skip ?_
        refine L_nil ?_
        refine Blk_norm (?_ : GL _ _ _ _ _)
        refine L_nil ?_
        refine Sm_norm (e2 := []) (H1 := [(kg04 i1)]) (H2 := [(kg04 i1)]) rfl (by repeat (first | exact rzz | apply rcc rfl | apply rnn rfl)) rfl (?_ : GL _ _ _ _ _)
        refine L_seq ?_
        refine L_reg ?_
        refine G_p rfl rfl rfl ?_
        refine G_nil ?_
        refine L_ret ?_
        have hr := some_s hr
        subst hr
        exact ⟨_, rfl, _, rfl, rfl⟩
    · refine L_F rfl hc5 ?_
      refine L_seq ?_
      refine L_stmt ?_
      refine L_reg ?_
      refine G_p rfl rfl rfl ?_
      refine G_p rfl rfl rfl ?_
      refine G_nil ?_
      refine L_nil ?_
      refine Sm_norm (e2 := [(1, .ptr 0 0), (4, .int .i64 i1.op), (5, .bool (decide (i1.op = 3)))]) (H1 := [(kg04 i1)]) (H2 := [(kg04 i1)]) rfl (by repeat (first | exact rzz | apply rcc rfl | apply rnn rfl)) rfl (?_ : GL _ _ _ _ _)
      rcases cond_s hr with ⟨hc5, hr⟩ | ⟨hc5, hr⟩
      · refine L_T rfl hc5 ?_
        refine L_skip ?_
        refine L_nil ?_
        refine Sm_norm (e2 := [(1, .ptr 0 0), (5, .bool (decide (i1.op = 3)))]) (H1 := [(kg04 i1)]) (H2 := [(kg04 i1)]) rfl (by repeat (first | exact rzz | apply rcc rfl | apply rnn rfl)) rfl (?_ : GL _ _ _ _ _)
        rcases cond_s hr with ⟨hc5, hr⟩ | ⟨hc5, hr⟩
        · refine L_T rfl hc5 ?_
          refine L_seq ?_
          refine L_reg ?_
          refine G_p rfl rfl rfl ?_
          refine G_h rfl rfl rfl (fun _ => rfl) ?_
          refine G_p rfl rfl rfl ?_
          refine G_nil ?_
          refine L_ret ?_
          refine Blk_ret ?_
          refine Sm_ret ?_
          have hr := some_s hr
          subst hr
          exact ⟨_, rfl, _, rfl, rfl⟩
        · refine L_F rfl hc5 ?_
          refine L_skip ?_
          refine L_nil ?_
          refine Blk_norm (?_ : GL _ _ _ _ _)
          refine L_nil ?_
          refine Sm_norm (e2 := []) (H1 := [(kg04 i1)]) (H2 := [(kg04 i1)]) rfl (by repeat (first | exact rzz | apply rcc rfl | apply rnn rfl)) rfl (?_ : GL _ _ _ _ _)
          refine L_seq ?_
          refine L_reg ?_
          refine G_p rfl rfl rfl ?_
          refine G_nil ?_
          refine L_ret ?_
          have hr := some_s hr
          subst hr
          exact ⟨_, rfl, _, rfl, rfl⟩
      · refine L_F rfl hc5 ?_
        refine L_seq ?_
        refine L_stmt ?_
        refine L_reg ?_
        refine G_p rfl rfl rfl ?_
        refine G_p rfl rfl rfl ?_
        refine G_nil ?_
        refine L_nil ?_
        refine Sm_norm (e2 := [(1, .ptr 0 0), (4, .int .i64 i1.op), (5, .bool (decide (i1.op = 4)))]) (H1 := [(kg04 i1)]) (H2 := [(kg04 i1)]) rfl (by repeat (first | exact rzz | apply rcc rfl | apply rnn rfl)) rfl (?_ : GL _ _ _ _ _)
        rcases cond_s hr with ⟨hc5, hr⟩ | ⟨hc5, hr⟩
        · refine L_T rfl hc5 ?_
          refine L_skip ?_
          refine L_nil ?_
          refine Sm_norm (e2 := [(1, .ptr 0 0), (5, .bool (decide (i1.op = 4)))]) (H1 := [(kg04 i1)]) (H2 := [(kg04 i1)]) rfl (by repeat (first | exact rzz | apply rcc rfl | apply rnn rfl)) rfl (?_ : GL _ _ _ _ _)
          rcases cond_s hr with ⟨hc5, hr⟩ | ⟨hc5, hr⟩
          · refine L_T rfl hc5 ?_
            refine L_seq ?_
            refine L_reg ?_
            refine G_p rfl rfl rfl ?_
            refine G_h rfl rfl rfl (fun _ => rfl) ?_
            refine G_p rfl rfl rfl ?_
            refine G_nil ?_
            refine L_ret ?_
            refine Blk_ret ?_
            refine Sm_ret ?_
            have hr := some_s hr
            subst hr
            exact ⟨_, rfl, _, rfl, rfl⟩
          · refine L_F rfl hc5 ?_
            refine L_skip ?_
            refine L_nil ?_
            refine Blk_norm (?_ : GL _ _ _ _ _)
            refine L_nil ?_
            refine Sm_norm (e2 := []) (H1 := [(kg04 i1)]) (H2 := [(kg04 i1)]) rfl (by repeat (first | exact rzz | apply rcc rfl | apply rnn rfl)) rfl (?_ : GL _ _ _ _ _)
            refine L_seq ?_
            refine L_reg ?_
            refine G_p rfl rfl rfl ?_
            refine G_nil ?_
            refine L_ret ?_
            have hr := some_s hr
            subst hr
            exact ⟨_, rfl, _, rfl, rfl⟩
        · refine L_F rfl hc5 ?_
          refine L_seq ?_
          refine L_stmt ?_
          refine L_reg ?_
          refine G_p rfl rfl rfl ?_
          refine G_p rfl rfl rfl ?_
          refine G_nil ?_
          refine L_nil ?_
          refine Sm_norm (e2 := [(1, .ptr 0 0), (4, .int .i64 i1.op), (5, .bool (decide (i1.op = 5)))]) (H1 := [(kg04 i1)]) (H2 := [(kg04 i1)]) rfl (by repeat (first | exact rzz | apply rcc rfl | apply rnn rfl)) rfl (?_ : GL _ _ _ _ _)
          rcases cond_s hr with ⟨hc5, hr⟩ | ⟨hc5, hr⟩
          · refine L_T rfl hc5 ?_
            refine L_skip ?_
            refine L_nil ?_
            refine Sm_norm (e2 := [(1, .ptr 0 0), (5, .bool (decide (i1.op = 5)))]) (H1 := [(kg04 i1)]) (H2 := [(kg04 i1)]) rfl (by repeat (first | exact rzz | apply rcc rfl | apply rnn rfl)) rfl (?_ : GL _ _ _ _ _)
            rcases cond_s hr with ⟨hc5, hr⟩ | ⟨hc5, hr⟩
            · refine L_T rfl hc5 ?_
              refine L_seq ?_
              refine L_reg ?_
              refine G_p rfl rfl rfl ?_
              refine G_h rfl rfl rfl (fun _ => rfl) ?_
              refine G_p rfl rfl rfl ?_
              refine G_nil ?_
              refine L_ret ?_
              refine Blk_ret ?_
              refine Sm_ret ?_
              have hr := some_s hr
              subst hr
              exact ⟨_, rfl, _, rfl, rfl⟩
            · refine L_F rfl hc5 ?_
              refine L_skip ?_
              refine L_nil ?_
              refine Blk_norm (?_ : GL _ _ _ _ _)
              refine L_nil ?_
              refine Sm_norm (e2 := []) (H1 := [(kg04 i1)]) (H2 := [(kg04 i1)]) rfl (by repeat (first | exact rzz | apply rcc rfl | apply rnn rfl)) rfl (?_ : GL _ _ _ _ _)
              refine L_seq ?_
              refine L_reg ?_
              refine G_p rfl rfl rfl ?_
              refine G_nil ?_
              refine L_ret ?_
              have hr := some_s hr
              subst hr
              exact ⟨_, rfl, _, rfl, rfl⟩
          · refine L_F rfl hc5 ?_
            refine L_seq ?_
            refine L_stmt ?_
            refine L_reg ?_
            refine G_p rfl rfl rfl ?_
            refine G_p rfl rfl rfl ?_
            refine G_nil ?_
            refine L_nil ?_
            refine Sm_norm (e2 := [(1, .ptr 0 0), (4, .int .i64 i1.op), (5, .bool (decide (i1.op = 7)))]) (H1 := [(kg04 i1)]) (H2 := [(kg04 i1)]) rfl (by repeat (first | exact rzz | apply rcc rfl | apply rnn rfl)) rfl (?_ : GL _ _ _ _ _)
            rcases cond_s hr with ⟨hc5, hr⟩ | ⟨hc5, hr⟩
            · refine L_T rfl hc5 ?_
              refine L_skip ?_
              refine L_nil ?_
              refine Sm_norm (e2 := [(1, .ptr 0 0), (5, .bool (decide (i1.op = 7)))]) (H1 := [(kg04 i1)]) (H2 := [(kg04 i1)]) rfl (by repeat (first | exact rzz | apply rcc rfl | apply rnn rfl)) rfl (?_ : GL _ _ _ _ _)
              rcases cond_s hr with ⟨hc5, hr⟩ | ⟨hc5, hr⟩
              · refine L_T rfl hc5 ?_
                refine L_seq ?_
                refine L_reg ?_
                refine G_p rfl rfl rfl ?_
                refine G_h rfl rfl rfl (fun _ => rfl) ?_
                refine G_p rfl rfl rfl ?_
                refine G_nil ?_
                refine L_ret ?_
                refine Blk_ret ?_
                refine Sm_ret ?_
                have hr := some_s hr
                subst hr
                exact ⟨_, rfl, _, rfl, rfl⟩
              · refine L_F rfl hc5 ?_
                refine L_skip ?_
                refine L_nil ?_
                refine Blk_norm (?_ : GL _ _ _ _ _)
                refine L_nil ?_
                refine Sm_norm (e2 := []) (H1 := [(kg04 i1)]) (H2 := [(kg04 i1)]) rfl (by repeat (first | exact rzz | apply rcc rfl | apply rnn rfl)) rfl (?_ : GL _ _ _ _ _)
                refine L_seq ?_
                refine L_reg ?_
                refine G_p rfl rfl rfl ?_
                refine G_nil ?_
                refine L_ret ?_
                have hr := some_s hr
                subst hr
                exact ⟨_, rfl, _, rfl, rfl⟩
            · refine L_F rfl hc5 ?_
              refine L_seq ?_
              refine L_stmt ?_
              refine L_reg ?_
              refine G_p rfl rfl rfl ?_
              refine G_p rfl rfl rfl ?_
              refine G_nil ?_
              refine L_nil ?_
              refine Sm_norm (e2 := [(1, .ptr 0 0), (4, .int .i64 i1.op), (5, .bool (decide (i1.op = 11)))]) (H1 := [(kg04 i1)]) (H2 := [(kg04 i1)]) rfl (by repeat (first | exact rzz | apply rcc rfl | apply rnn rfl)) rfl (?_ : GL _ _ _ _ _)
              rcases cond_s hr with ⟨hc5, hr⟩ | ⟨hc5, hr⟩
              · refine L_T rfl hc5 ?_
                refine L_skip ?_
                refine L_nil ?_
                refine Sm_norm (e2 := [(1, .ptr 0 0), (5, .bool (decide (i1.op = 11)))]) (H1 := [(kg04 i1)]) (H2 := [(kg04 i1)]) rfl (by repeat (first | exact rzz | apply rcc rfl | apply rnn rfl)) rfl (?_ : GL _ _ _ _ _)
                rcases cond_s hr with ⟨hc5, hr⟩ | ⟨hc5, hr⟩
                · refine L_T rfl hc5 ?_
                  refine L_seq ?_
                  refine L_reg ?_
                  refine G_p rfl rfl rfl ?_
                  refine G_h rfl rfl rfl (fun _ => rfl) ?_
                  refine G_p rfl rfl rfl ?_
                  refine G_nil ?_
                  refine L_ret ?_
                  refine Blk_ret ?_
                  refine Sm_ret ?_
                  have hr := some_s hr
                  subst hr
                  exact ⟨_, rfl, _, rfl, rfl⟩
                · refine L_F rfl hc5 ?_
                  refine L_skip ?_
                  refine L_nil ?_
                  refine Blk_norm (?_ : GL _ _ _ _ _)
                  refine L_nil ?_
                  refine Sm_norm (e2 := []) (H1 := [(kg04 i1)]) (H2 := [(kg04 i1)]) rfl (by repeat (first | exact rzz | apply rcc rfl | apply rnn rfl)) rfl (?_ : GL _ _ _ _ _)
                  refine L_seq ?_
                  refine L_reg ?_
                  refine G_p rfl rfl rfl ?_
                  refine G_nil ?_
                  refine L_ret ?_
                  have hr := some_s hr
                  subst hr
                  exact ⟨_, rfl, _, rfl, rfl⟩
              · refine L_F rfl hc5 ?_
                refine L_seq ?_
                refine L_stmt ?_
                refine L_reg ?_
                refine G_p rfl rfl rfl ?_
                refine G_p rfl rfl rfl ?_
                refine G_nil ?_
                refine L_nil ?_
                refine Sm_norm (e2 := [(1, .ptr 0 0), (4, .int .i64 i1.op), (5, .bool (decide (i1.op = 12)))]) (H1 := [(kg04 i1)]) (H2 := [(kg04 i1)]) rfl (by repeat (first | exact rzz | apply rcc rfl | apply rnn rfl)) rfl (?_ : GL _ _ _ _ _)
                rcases cond_s hr with ⟨hc5, hr⟩ | ⟨hc5, hr⟩
                · refine L_T rfl hc5 ?_
                  refine L_skip ?_
                  refine L_nil ?_
                  refine Sm_norm (e2 := [(1, .ptr 0 0), (5, .bool (decide (i1.op = 12)))]) (H1 := [(kg04 i1)]) (H2 := [(kg04 i1)]) rfl (by repeat (first | exact rzz | apply rcc rfl | apply rnn rfl)) rfl (?_ : GL _ _ _ _ _)
                  rcases cond_s hr with ⟨hc5, hr⟩ | ⟨hc5, hr⟩
                  · refine L_T rfl hc5 ?_
                    refine L_seq ?_
                    refine L_reg ?_
                    refine G_p rfl rfl rfl ?_
                    refine G_h rfl rfl rfl (fun _ => rfl) ?_
                    refine G_p rfl rfl rfl ?_
                    refine G_nil ?_
                    refine L_ret ?_
                    refine Blk_ret ?_
                    refine Sm_ret ?_
                    have hr := some_s hr
                    subst hr
                    exact ⟨_, rfl, _, rfl, rfl⟩
                  · refine L_F rfl hc5 ?_
                    refine L_skip ?_
                    refine L_nil ?_
                    refine Blk_norm (?_ : GL _ _ _ _ _)
                    refine L_nil ?_
                    refine Sm_norm (e2 := []) (H1 := [(kg04 i1)]) (H2 := [(kg04 i1)]) rfl (by repeat (first | exact rzz | apply rcc rfl | apply rnn rfl)) rfl (?_ : GL _ _ _ _ _)
                    refine L_seq ?_
                    refine L_reg ?_
                    refine G_p rfl rfl rfl ?_
                    refine G_nil ?_
                    refine L_ret ?_
                    have hr := some_s hr
                    subst hr
                    exact ⟨_, rfl, _, rfl, rfl⟩
                · refine L_F rfl hc5 ?_
                  refine L_seq ?_
                  refine L_stmt ?_
                  refine L_reg ?_
                  refine G_p rfl rfl rfl ?_
                  refine G_p rfl rfl rfl ?_
                  refine G_nil ?_
                  refine L_nil ?_
                  refine Sm_norm (e2 := [(1, .ptr 0 0), (4, .int .i64 i1.op), (5, .bool (decide (i1.op = 13)))]) (H1 := [(kg04 i1)]) (H2 := [(kg04 i1)]) rfl (by repeat (first | exact rzz | apply rcc rfl | apply rnn rfl)) rfl (?_ : GL _ _ _ _ _)
                  rcases cond_s hr with ⟨hc5, hr⟩ | ⟨hc5, hr⟩
                  · refine L_T rfl hc5 ?_
                    refine L_skip ?_
                    refine L_nil ?_
                    refine Sm_norm (e2 := [(1, .ptr 0 0), (5, .bool (decide (i1.op = 13)))]) (H1 := [(kg04 i1)]) (H2 := [(kg04 i1)]) rfl (by repeat (first | exact rzz | apply rcc rfl | apply rnn rfl)) rfl (?_ : GL _ _ _ _ _)
                    rcases cond_s hr with ⟨hc5, hr⟩ | ⟨hc5, hr⟩
                    · refine L_T rfl hc5 ?_
                      refine L_seq ?_
                      refine L_reg ?_
                      refine G_p rfl rfl rfl ?_
                      refine G_h rfl rfl rfl (fun _ => rfl) ?_
                      refine G_p rfl rfl rfl ?_
                      refine G_nil ?_
                      refine L_ret ?_
                      refine Blk_ret ?_
                      refine Sm_ret ?_
                      have hr := some_s hr
                      subst hr
                      exact ⟨_, rfl, _, rfl, rfl⟩
                    · refine L_F rfl hc5 ?_
                      refine L_skip ?_
                      refine L_nil ?_
                      refine Blk_norm (?_ : GL _ _ _ _ _)
                      refine L_nil ?_
                      refine Sm_norm (e2 := []) (H1 := [(kg04 i1)]) (H2 := [(kg04 i1)]) rfl (by repeat (first | exact rzz | apply rcc rfl | apply rnn rfl)) rfl (?_ : GL _ _ _ _ _)
                      refine L_seq ?_
                      refine L_reg ?_
                      refine G_p rfl rfl rfl ?_
                      refine G_nil ?_
                      refine L_ret ?_
                      have hr := some_s hr
                      subst hr
                      exact ⟨_, rfl, _, rfl, rfl⟩
                  · refine L_F rfl hc5 ?_
                    refine L_seq ?_
                    refine L_stmt ?_
                    refine L_reg ?_
                    refine G_p rfl rfl rfl ?_
                    refine G_p rfl rfl rfl ?_
                    refine G_nil ?_
                    refine L_nil ?_
                    refine Sm_norm (e2 := [(1, .ptr 0 0), (4, .int .i64 i1.op), (5, .bool (decide (i1.op = 14)))]) (H1 := [(kg04 i1)]) (H2 := [(kg04 i1)]) rfl (by repeat (first | exact rzz | apply rcc rfl | apply rnn rfl)) rfl (?_ : GL _ _ _ _ _)
                    rcases cond_s hr with ⟨hc5, hr⟩ | ⟨hc5, hr⟩
                    · refine L_T rfl hc5 ?_
                      refine L_skip ?_
                      refine L_nil ?_
                      refine Sm_norm (e2 := [(1, .ptr 0 0), (5, .bool (decide (i1.op = 14)))]) (H1 := [(kg04 i1)]) (H2 := [(kg04 i1)]) rfl (by repeat (first | exact rzz | apply rcc rfl | apply rnn rfl)) rfl (?_ : GL _ _ _ _ _)
                      rcases cond_s hr with ⟨hc5, hr⟩ | ⟨hc5, hr⟩
                      · refine L_T rfl hc5 ?_
                        refine L_seq ?_
                        refine L_reg ?_
                        refine G_p rfl rfl rfl ?_
                        refine G_h rfl rfl rfl (fun _ => rfl) ?_
                        refine G_p rfl rfl rfl ?_
                        refine G_nil ?_
                        refine L_ret ?_
                        refine Blk_ret ?_
                        refine Sm_ret ?_
                        have hr := some_s hr
                        subst hr
                        exact ⟨_, rfl, _, rfl, rfl⟩
                      · refine L_F rfl hc5 ?_
                        refine L_skip ?_
                        refine L_nil ?_
                        refine Blk_norm (?_ : GL _ _ _ _ _)
                        refine L_nil ?_
                        refine Sm_norm (e2 := []) (H1 := [(kg04 i1)]) (H2 := [(kg04 i1)]) rfl (by repeat (first | exact rzz | apply rcc rfl | apply rnn rfl)) rfl (?_ : GL _ _ _ _ _)
                        refine L_seq ?_
                        refine L_reg ?_
                        refine G_p rfl rfl rfl ?_
                        refine G_nil ?_
                        refine L_ret ?_
                        have hr := some_s hr
                        subst hr
                        exact ⟨_, rfl, _, rfl, rfl⟩
                    · refine L_F rfl hc5 ?_
                      refine L_seq ?_
                      refine L_stmt ?_
                      refine L_reg ?_
                      refine G_p rfl rfl rfl ?_
                      refine G_p rfl rfl rfl ?_
                      refine G_nil ?_
                      refine L_nil ?_
                      refine Sm_norm (e2 := [(1, .ptr 0 0), (4, .int .i64 i1.op), (5, .bool (decide (i1.op = 15)))]) (H1 := [(kg04 i1)]) (H2 := [(kg04 i1)]) rfl (by repeat (first | exact rzz | apply rcc rfl | apply rnn rfl)) rfl (?_ : GL _ _ _ _ _)
                      rcases cond_s hr with ⟨hc5, hr⟩ | ⟨hc5, hr⟩
                      · refine L_T rfl hc5 ?_
                        refine L_skip ?_
                        refine L_nil ?_
                        refine Sm_norm (e2 := [(1, .ptr 0 0), (5, .bool (decide (i1.op = 15)))]) (H1 := [(kg04 i1)]) (H2 := [(kg04 i1)]) rfl (by repeat (first | exact rzz | apply rcc rfl | apply rnn rfl)) rfl (?_ : GL _ _ _ _ _)
                        rcases cond_s hr with ⟨hc5, hr⟩ | ⟨hc5, hr⟩
                        · refine L_T rfl hc5 ?_
                          refine L_seq ?_
                          refine L_reg ?_
                          refine G_p rfl rfl rfl ?_
                          refine G_h rfl rfl rfl (fun _ => rfl) ?_
                          refine G_p rfl rfl rfl ?_
                          refine G_nil ?_
                          refine L_ret ?_
                          refine Blk_ret ?_
                          refine Sm_ret ?_
                          have hr := some_s hr
                          subst hr
                          exact ⟨_, rfl, _, rfl, rfl⟩
                        · refine L_F rfl hc5 ?_
                          refine L_skip ?_
                          refine L_nil ?_
                          refine Blk_norm (?_ : GL _ _ _ _ _)
                          refine L_nil ?_
                          refine Sm_norm (e2 := []) (H1 := [(kg04 i1)]) (H2 := [(kg04 i1)]) rfl (by repeat (first | exact rzz | apply rcc rfl | apply rnn rfl)) rfl (?_ : GL _ _ _ _ _)
                          refine L_seq ?_
                          refine L_reg ?_
                          refine G_p rfl rfl rfl ?_
                          refine G_nil ?_
                          refine L_ret ?_
                          have hr := some_s hr
                          subst hr
                          exact ⟨_, rfl, _, rfl, rfl⟩
                      · refine L_F rfl hc5 ?_
                        refine L_reg ?_
                        refine G_p rfl rfl rfl ?_
                        refine G_p rfl rfl rfl ?_
                        refine G_nil ?_
                        refine L_nil ?_
                        refine Sm_norm (e2 := [(1, .ptr 0 0), (5, .bool (decide (i1.op = 19)))]) (H1 := [(kg04 i1)]) (H2 := [(kg04 i1)]) rfl (by repeat (first | exact rzz | apply rcc rfl | apply rnn rfl)) rfl (?_ : GL _ _ _ _ _)
                        rcases cond_s hr with ⟨hc5, hr⟩ | ⟨hc5, hr⟩
                        · refine L_T rfl hc5 ?_
                          refine L_seq ?_
                          refine L_reg ?_
                          refine G_p rfl rfl rfl ?_
                          refine G_h rfl rfl rfl (fun _ => rfl) ?_
                          refine G_p rfl rfl rfl ?_
                          refine G_nil ?_
                          refine L_ret ?_
                          refine Blk_ret ?_
                          refine Sm_ret ?_
                          have hr := some_s hr
                          subst hr
                          exact ⟨_, rfl, _, rfl, rfl⟩
                        · refine L_F rfl hc5 ?_
                          refine L_skip ?_
                          refine L_nil ?_
                          refine Blk_norm (?_ : GL _ _ _ _ _)
                          refine L_nil ?_
                          refine Sm_norm (e2 := []) (H1 := [(kg04 i1)]) (H2 := [(kg04 i1)]) rfl (by repeat (first | exact rzz | apply rcc rfl | apply rnn rfl)) rfl (?_ : GL _ _ _ _ _)
                          refine L_seq ?_
                          refine L_reg ?_
                          refine G_p rfl rfl rfl ?_
                          refine G_nil ?_
                          refine L_ret ?_
                          have hr := some_s hr
                          subst hr
                          exact ⟨_, rfl, _, rfl, rfl⟩
noncomputable def y0p (i1 : Ins) : Option (List Int) :=
  (cond (decide (i1.op = 9)) (some [i1.a]) (cond (decide (i1.op = 10)) (some [(-1), i1.b]) (cond ((decide (i1.op < 1)) || ((decide (15 < i1.op)) && (!decide (i1.op = 19)))) (some []) (some [(-1)]))))
abbrev kg05 (i1 : Ins) : ABlock := .cells [.int .i64 i1.op, .int .i64 i1.a, .int .i64 i1.b, .lst (List.map (AVal.int .i64) i1.l) false]
theorem y4b {i1 : Ins} {r : List Int} (hr : y0p i1 = some r) : PRes (tabOf tabL) 10 [.agg (cIns i1)] (.lst (List.map (AVal.int .i64) r) false) := by
  refine pres_fin t10 ?_
  unfold y0p at hr
  refine L_seq ?_
  refine L_stmt ?_
  refine L_reg ?_
  refine G_n (B := (kg05 i1)) rfl rfl rfl ?_
  refine G_p (v := .lst [] true) rfl rfl rfl ?_
  refine G_nil ?_
  refine L_nil ?_
  refine Sm_norm (e2 := [(1, .ptr 0 0)]) (H1 := [(kg05 i1)]) (H2 := [(kg05 i1)]) rfl (by repeat (first | exact rzz | apply rcc rfl | apply rnn rfl)) rfl (?_ : GL _ _ _ _ _)
  refine L_seq ?_
  refine L_stmt ?_
  refine L_seq ?_
  refine L_stmt ?_
  refine L_reg ?_
  refine G_p rfl rfl rfl ?_
  refine G_h rfl rfl rfl (fun _ => rfl) ?_
  refine G_p rfl rfl rfl ?_
  refine G_nil ?_
  refine L_nil ?_
  refine Sm_norm (e2 := [(1, .ptr 0 0), (5, .bool (decide (i1.op = 9)))]) (H1 := [(kg05 i1)]) (H2 := [(kg05 i1)]) rfl (by repeat (first | exact rzz | apply rcc rfl | apply rnn rfl)) rfl (?_ : GL _ _ _ _ _)
  rcases cond_s hr with ⟨hc5, hr⟩ | ⟨hc5, hr⟩
  · refine L_T rfl hc5 ?_
    refine L_seq ?_
    refine L_reg ?_
    refine G_p rfl rfl rfl ?_
    refine G_h rfl rfl rfl (fun _ => rfl) ?_
    refine G_h (v := .lst (List.map (AVal.int .i64) [i1.a]) true) rfl rfl rfl (fun _ => rfl) ?_
    refine G_p (v := .lst (List.map (AVal.int .i64) [i1.a]) true) rfl rfl rfl ?_
    refine G_nil ?_
    refine L_ret ?_
    refine Sm_ret ?_
    have hr := some_s hr
    subst hr
    exact ⟨_, rfl, _, rfl, rfl⟩
  · refine L_F rfl hc5 ?_
    refine L_skip ?_
    refine L_nil ?_
    refine Sm_norm (e2 := [(1, .ptr 0 0)]) (H1 := [(kg05 i1)]) (H2 := [(kg05 i1)]) rfl (by repeat (first | exact rzz | apply rcc rfl | apply rnn rfl)) rfl (?_ : GL _ _ _ _ _)
    refine L_seq ?_
    refine L_stmt ?_
    refine L_seq ?_
    refine L_stmt ?_
    refine L_reg ?_
    refine G_p rfl rfl rfl ?_
    refine G_h rfl rfl rfl (fun _ => rfl) ?_
    refine G_p rfl rfl rfl ?_
    refine G_nil ?_
    refine L_nil ?_
    refine Sm_norm (e2 := [(1, .ptr 0 0), (11, .bool (decide (i1.op = 10)))]) (H1 := [(kg05 i1)]) (H2 := [(kg05 i1)]) rfl (by repeat (first | exact rzz | apply rcc rfl | apply rnn rfl)) rfl (?_ : GL _ _ _ _ _)
    rcases cond_s hr with ⟨hc11, hr⟩ | ⟨hc11, hr⟩
    · refine L_T rfl hc11 ?_
      refine L_seq ?_
      refine L_reg ?_
      refine G_p rfl rfl rfl ?_
      refine G_h rfl rfl rfl (fun _ => rfl) ?_
      refine G_h (v := .lst (List.map (AVal.int .i64) [(-1), i1.b]) true) rfl rfl rfl (fun _ => rfl) ?_
      refine G_p (v := .lst (List.map (AVal.int .i64) [(-1), i1.b]) true) rfl rfl rfl ?_
      refine G_nil ?_
      refine L_ret ?_
      refine Sm_ret ?_
      have hr := some_s hr
      subst hr
      exact ⟨_, rfl, _, rfl, rfl⟩
    · refine L_F rfl hc11 ?_
      refine L_skip ?_
      refine L_nil ?_
      refine Sm_norm (e2 := [(1, .ptr 0 0)]) (H1 := [(kg05 i1)]) (H2 := [(kg05 i1)]) rfl (by repeat (first | exact rzz | apply rcc rfl | apply rnn rfl)) rfl (?_ : GL _ _ _ _ _)
      refine L_seq ?_
      refine L_stmt ?_
      refine L_seq ?_
      refine L_stmt ?_
      refine L_reg ?_
      refine G_p rfl rfl rfl ?_
      refine G_h rfl rfl rfl (fun _ => rfl) ?_
      refine G_p rfl rfl rfl ?_
      refine G_p rfl rfl rfl ?_
      refine G_or (f := ((decide (15 < i1.op)) && (!decide (i1.op = 19)))) [_, _, _, _, _, _, _, _] rfl rfl ?_ ?_
      · intro hb18
        refine G_p rfl rfl rfl ?_
        refine G_h rfl rfl rfl (fun _ => rfl) ?_
        refine G_p rfl rfl rfl ?_
        refine G_p rfl rfl rfl ?_
        refine G_and (f := (!decide (i1.op = 19))) [_, _, _] rfl rfl ?_ ?_
        · intro hb22
          refine G_p rfl rfl rfl ?_
          refine G_h rfl rfl rfl (fun _ => rfl) ?_
          refine G_p rfl rfl rfl ?_
          exact G_nil (L_nil ⟨rfl, rfl, rfl⟩)
        · intro vs hvs
          obtain ⟨u23, u24, u25, rfl⟩ := len3 hvs
          dsimp only [junk]
          exact G_nil (L_nil ⟨rfl, rfl, rfl⟩)
      · intro vs hvs
        obtain ⟨u19, u20, u21, u22, u23, u24, u25, u26, rfl⟩ := len8 hvs
        dsimp only [junk]
        refine G_nil ?_
        refine L_nil ?_
        refine Sm_norm (e2 := [(27, .bool ((decide (i1.op < 1)) || ((decide (15 < i1.op)) && (!decide (i1.op = 19)))))]) (H1 := [(kg05 i1)]) (H2 := [(kg05 i1)]) rfl (by repeat (first | exact rzz | apply rcc rfl | apply rnn rfl)) rfl (?_ : GL _ _ _ _ _)
        rcases cond_s hr with ⟨hc27, hr⟩ | ⟨hc27, hr⟩
        · refine L_T rfl hc27 ?_
          refine L_seq ?_
          refine L_reg ?_
          refine G_p (v := .lst [] true) rfl rfl rfl ?_
          refine G_nil ?_
          refine L_ret ?_
          refine Sm_ret ?_
          have hr := some_s hr
          subst hr
          exact ⟨_, rfl, _, rfl, rfl⟩
        · refine L_F rfl hc27 ?_
          refine L_skip ?_
          refine L_nil ?_
          refine Sm_norm (e2 := []) (H1 := [(kg05 i1)]) (H2 := [(kg05 i1)]) rfl (by repeat (first | exact rzz | apply rcc rfl | apply rnn rfl)) rfl (?_ : GL _ _ _ _ _)
          refine L_seq ?_
          refine L_reg ?_
          refine G_h (v := .lst (List.map (AVal.int .i64) [(-1)]) true) rfl rfl rfl (fun _ => rfl) ?_
          refine G_p (v := .lst (List.map (AVal.int .i64) [(-1)]) true) rfl rfl rfl ?_
          refine G_nil ?_
          refine L_ret ?_
          have hr := some_s hr
          subst hr
          exact ⟨_, rfl, _, rfl, rfl⟩
noncomputable def y0b (i1 : Ins) (b16 : Bool) : Option (List Int) :=
  (cond b16 ((catL [i1.a] i1.l).bind fun l17 => some l17) (some []))
noncomputable def y0c (i1 : Ins) (b14 : Bool) : Option (List Int) :=
  (cond b14 ((catL [i1.b] i1.l).bind fun l15 => some l15) (cond (decide (i1.op = 16)) (y0b i1 (decide (i1.op = 16))) (y0b i1 (decide (i1.op = 17)))))
noncomputable def y06 (i1 : Ins) (b12 : Bool) : Option (List Int) :=
  (cond b12 (cond (okLen i1.l) (some i1.l) none) (cond (decide (i1.op = 14)) (y0c i1 (decide (i1.op = 14))) (y0c i1 (decide (i1.op = 15)))))
noncomputable def y0d (i1 : Ins) (b11 : Bool) : Option (List Int) :=
  (cond b11 (some [i1.a]) (cond (decide (i1.op = 11)) (y06 i1 (decide (i1.op = 11))) (cond (decide (i1.op = 12)) (y06 i1 (decide (i1.op = 12))) (y06 i1 (decide (i1.op = 13))))))
noncomputable def y03 (i1 : Ins) (b10 : Bool) : Option (List Int) :=
  (cond b10 (some [i1.b]) (cond (decide (i1.op = 6)) (some [i1.a, i1.b]) (cond (decide (i1.op = 10)) (y0d i1 (decide (i1.op = 10))) (y0d i1 (decide (i1.op = 18))))))
noncomputable def y0q (i1 : Ins) : Option (List Int) :=
  (cond (decide (i1.op = 2)) (y03 i1 (decide (i1.op = 2))) (cond (decide (i1.op = 4)) (y03 i1 (decide (i1.op = 4))) (cond (decide (i1.op = 5)) (y03 i1 (decide (i1.op = 5))) (cond (decide (i1.op = 8)) (y03 i1 (decide (i1.op = 8))) (y03 i1 (decide (i1.op = 19)))))))
abbrev kg06 (i1 : Ins) : ABlock := .cells [.int .i64 i1.op, .int .i64 i1.a, .int .i64 i1.b, .lst (List.map (AVal.int .i64) i1.l) false]
theorem y46 {i1 : Ins} {r : List Int} (hr : y0q i1 = some r) : PRes (tabOf tabL) 8 [.agg (cIns i1)] (.lst (List.map (AVal.int .i64) r) false) := by
  refine pres_fin t8 ?_
  unfold y0q at hr
  refine L_seq ?_
  refine L_stmt ?_
  refine L_reg ?_
  refine G_n (B := (kg06 i1)) rfl rfl rfl ?_
  refine G_p (v := .lst [] true) rfl rfl rfl ?_
  refine G_nil ?_
  refine L_nil ?_
  refine Sm_norm (e2 := [(1, .ptr 0 0)]) (H1 := [(kg06 i1)]) (H2 := [(kg06 i1)]) rfl (by repeat (first | exact rzz | apply rcc rfl | apply rnn rfl)) rfl (?_ : GL _ _ _ _ _)
  refine L_seq ?_
  refine L_stmt ?_
  refine L_seq ?_
  refine L_stmt ?_
  refine L_reg ?_
  refine G_p rfl rfl rfl ?_
  refine G_h rfl rfl rfl (fun _ => rfl) ?_
  refine G_nil ?_
  refine L_nil ?_
  refine Sm_norm (e2 := [(1, .ptr 0 0), (4, .int .i64 i1.op)]) (H1 := [(kg06 i1)]) (H2 := [(kg06 i1)]) rfl (by repeat (first | exact rzz | apply rcc rfl | apply rnn rfl)) rfl (?_ : GL _ _ _ _ _)
  refine L_block ?_
  refine L_seq ?_
  refine L_stmtJ (S := Bool) (fun s => [(1, .ptr 0 0), (4, .int .i64 i1.op), (5, .bool s)]) (fun s => [(kg06 i1)]) (fun s => y03 i1 s = some r) ?_ ?_
  · skip
    refine L_seq ?_
    refine L_stmt ?_
    refine L_reg ?_
    refine G_p rfl rfl rfl ?_
    refine G_p rfl rfl rfl ?_
    refine G_nil ?_
    refine L_nil ?_
    refine Sm_norm (e2 := [(1, .ptr 0 0), (4, .int .i64 i1.op), (5, .bool (decide (i1.op = 2)))]) (H1 := [(kg06 i1)]) (H2 := [(kg06 i1)]) rfl (by repeat (first | exact rzz | apply rcc rfl | apply rnn rfl)) rfl (?_ : GL _ _ _ _ _)
    rcases cond_s hr with ⟨hc5, hr⟩ | ⟨hc5, hr⟩
    · refine L_T rfl hc5 ?_
      refine L_skip ?_
      refine L_nil ?_
      exact Sm_norm (e2 := [(1, .ptr 0 0), (4, .int .i64 i1.op), (5, .bool (decide (i1.op = 2)))]) (H1 := [(kg06 i1)]) (H2 := [(kg06 i1)]) rfl (by repeat (first | exact rzz | apply rcc rfl | apply rnn rfl)) rfl ⟨(decide (i1.op = 2)), rfl, rfl, hr⟩
    · refine L_F rfl hc5 ?_
      refine L_seq ?_
      refine L_stmt ?_
      refine L_reg ?_
      refine G_p rfl rfl rfl ?_
      refine G_p rfl rfl rfl ?_
      refine G_nil ?_
      refine L_nil ?_
      refine Sm_norm (e2 := [(1, .ptr 0 0), (4, .int .i64 i1.op), (5, .bool (decide (i1.op = 4)))]) (H1 := [(kg06 i1)]) (H2 := [(kg06 i1)]) rfl (by repeat (first | exact rzz | apply rcc rfl | apply rnn rfl)) rfl (?_ : GL _ _ _ _ _)
      rcases cond_s hr with ⟨hc5, hr⟩ | ⟨hc5, hr⟩
      · refine L_T rfl hc5 ?_
        refine L_skip ?_
        refine L_nil ?_
        exact Sm_norm (e2 := [(1, .ptr 0 0), (4, .int .i64 i1.op), (5, .bool (decide (i1.op = 4)))]) (H1 := [(kg06 i1)]) (H2 := [(kg06 i1)]) rfl (by repeat (first | exact rzz | apply rcc rfl | apply rnn rfl)) rfl ⟨(decide (i1.op = 4)), rfl, rfl, hr⟩
      · refine L_F rfl hc5 ?_
        refine L_seq ?_
        refine L_stmt ?_
        refine L_reg ?_
        refine G_p rfl rfl rfl ?_
        refine G_p rfl rfl rfl ?_
        refine G_nil ?_
        refine L_nil ?_
        refine Sm_norm (e2 := [(1, .ptr 0 0), (4, .int .i64 i1.op), (5, .bool (decide (i1.op = 5)))]) (H1 := [(kg06 i1)]) (H2 := [(kg06 i1)]) rfl (by repeat (first | exact rzz | apply rcc rfl | apply rnn rfl)) rfl (?_ : GL _ _ _ _ _)
        rcases cond_s hr with ⟨hc5, hr⟩ | ⟨hc5, hr⟩
        · refine L_T rfl hc5 ?_
          refine L_skip ?_
          refine L_nil ?_
          exact Sm_norm (e2 := [(1, .ptr 0 0), (4, .int .i64 i1.op), (5, .bool (decide (i1.op = 5)))]) (H1 := [(kg06 i1)]) (H2 := [(kg06 i1)]) rfl (by repeat (first | exact rzz | apply rcc rfl | apply rnn rfl)) rfl ⟨(decide (i1.op = 5)), rfl, rfl, hr⟩
        · refine L_F rfl hc5 ?_
          refine L_seq ?_
          refine L_stmt ?_
          refine L_reg ?_
          refine G_p rfl rfl rfl ?_
          refine G_p rfl rfl rfl ?_
          refine G_nil ?_
          refine L_nil ?_
          refine Sm_norm (e2 := [(1, .ptr 0 0), (4, .int .i64 i1.op), (5, .bool (decide (i1.op = 8)))]) (H1 := [(kg06 i1)]) (H2 := [(kg06 i1)]) rfl (by repeat (first | exact rzz | apply rcc rfl | apply rnn rfl)) rfl (?_ : GL _ _ _ _ _)
          rcases cond_s hr with ⟨hc5, hr⟩ | ⟨hc5, hr⟩
          · refine L_T rfl hc5 ?_
            refine L_skip ?_
            refine L_nil ?_
            exact Sm_norm (e2 := [(1, .ptr 0 0), (4, .int .i64 i1.op), (5, .bool (decide (i1.op = 8)))]) (H1 := [(kg06 i1)]) (H2 := [(kg06 i1)]) rfl (by repeat (first | exact rzz | apply rcc rfl | apply rnn rfl)) rfl ⟨(decide (i1.op = 8)), rfl, rfl, hr⟩
          · refine L_F rfl hc5 ?_
            refine L_reg ?_
            refine G_p rfl rfl rfl ?_
            refine G_p rfl rfl rfl ?_
            refine G_nil ?_
            refine L_nil ?_
            exact Sm_norm (e2 := [(1, .ptr 0 0), (4, .int .i64 i1.op), (5, .bool (decide (i1.op = 19)))]) (H1 := [(kg06 i1)]) (H2 := [(kg06 i1)]) rfl (by repeat (first | exact rzz | apply rcc rfl | apply rnn rfl)) rfl ⟨(decide (i1.op = 19)), rfl, rfl, hr⟩
  · rintro b10 hr
    show GL _ _ [(1, .ptr 0 0), (4, .int .i64 i1.op), (5, .bool b10)] [(kg06 i1)] _
    replace hr : y03 i1 b10 = some r := hr
    unfold y03 at hr
    rcases cond_s hr with ⟨hc5, hr⟩ | ⟨hc5, hr⟩
    · refine L_T rfl hc5 ?_
      refine L_seq ?_
      refine L_reg ?_
      refine G_p rfl rfl rfl ?_
      refine G_h rfl rfl rfl (fun _ => rfl) ?_
      refine G_h (v := .lst (List.map (AVal.int .i64) [i1.b]) true) rfl rfl rfl (fun _ => rfl) ?_
      refine G_p (v := .lst (List.map (AVal.int .i64) [i1.b]) true) rfl rfl rfl ?_
      refine G_nil ?_
      refine L_ret ?_
      refine Blk_ret ?_
      refine Sm_ret ?_
      have hr := some_s hr
      subst hr
      exact ⟨_, rfl, _, rfl, rfl⟩
    · refine L_F rfl hc5 ?_
      refine L_seq ?_
      refine L_stmt ?_
      refine L_reg ?_
      refine G_p rfl rfl rfl ?_
      refine G_p rfl rfl rfl ?_
      refine G_nil ?_
      refine L_nil ?_
      refine Sm_norm (e2 := [(1, .ptr 0 0), (4, .int .i64 i1.op), (14, .bool (decide (i1.op = 6)))]) (H1 := [(kg06 i1)]) (H2 := [(kg06 i1)]) rfl (by repeat (first | exact rzz | apply rcc rfl | apply rnn rfl)) rfl (?_ : GL _ _ _ _ _)
      rcases cond_s hr with ⟨hc14, hr⟩ | ⟨hc14, hr⟩
      · refine L_T rfl hc14 ?_
        refine L_seq ?_
        refine L_reg ?_
        refine G_p rfl rfl rfl ?_
        refine G_h rfl rfl rfl (fun _ => rfl) ?_
        refine G_p rfl rfl rfl ?_
        refine G_h rfl rfl rfl (fun _ => rfl) ?_
        refine G_h (v := .lst (List.map (AVal.int .i64) [i1.a, i1.b]) true) rfl rfl rfl (fun _ => rfl) ?_
        refine G_p (v := .lst (List.map (AVal.int .i64) [i1.a, i1.b]) true) rfl rfl rfl ?_
        refine G_nil ?_
        refine L_ret ?_
        refine Blk_ret ?_
        refine Sm_ret ?_
        have hr := some_s hr
        subst hr
        exact ⟨_, rfl, _, rfl, rfl⟩
      · refine L_F rfl hc14 ?_
        refine L_seq ?_
        refine L_stmtJ (S := Bool) (fun s => [(1, .ptr 0 0), (4, .int .i64 i1.op), (21, .bool s)]) (fun s => [(kg06 i1)]) (fun s => y0d i1 s = some r) ?_ ?_
        · skip
          refine L_seq ?_
          refine L_stmt ?_
          refine L_reg ?_
          refine G_p rfl rfl rfl ?_
          refine G_p rfl rfl rfl ?_
          refine G_nil ?_
          refine L_nil ?_
          refine Sm_norm (e2 := [(1, .ptr 0 0), (4, .int .i64 i1.op), (21, .bool (decide (i1.op = 10)))]) (H1 := [(kg06 i1)]) (H2 := [(kg06 i1)]) rfl (by repeat (first | exact rzz | apply rcc rfl | apply rnn rfl)) rfl (?_ : GL _ _ _ _ _)
          rcases cond_s hr with ⟨hc21, hr⟩ | ⟨hc21, hr⟩
          · refine L_T rfl hc21 ?_
            refine L_skip ?_
            refine L_nil ?_
            exact Sm_norm (e2 := [(1, .ptr 0 0), (4, .int .i64 i1.op), (21, .bool (decide (i1.op = 10)))]) (H1 := [(kg06 i1)]) (H2 := [(kg06 i1)]) rfl (by repeat (first | exact rzz | apply rcc rfl | apply rnn rfl)) rfl ⟨(decide (i1.op = 10)), rfl, rfl, hr⟩
          · refine L_F rfl hc21 ?_
            refine L_reg ?_
            refine G_p rfl rfl rfl ?_
            refine G_p rfl rfl rfl ?_
            refine G_nil ?_
            refine L_nil ?_
            exact Sm_norm (e2 := [(1, .ptr 0 0), (4, .int .i64 i1.op), (21, .bool (decide (i1.op = 18)))]) (H1 := [(kg06 i1)]) (H2 := [(kg06 i1)]) rfl (by repeat (first | exact rzz | apply rcc rfl | apply rnn rfl)) rfl ⟨(decide (i1.op = 18)), rfl, rfl, hr⟩
        · rintro b11 hr
          show GL _ _ [(1, .ptr 0 0), (4, .int .i64 i1.op), (21, .bool b11)] [(kg06 i1)] _
          replace hr : y0d i1 b11 = some r := hr
          unfold y0d at hr
          rcases cond_s hr with ⟨hc21, hr⟩ | ⟨hc21, hr⟩
          · refine L_T rfl hc21 ?_
            refine L_seq ?_
            refine L_reg ?_
            refine G_p rfl rfl rfl ?_
            refine G_h rfl rfl rfl (fun _ => rfl) ?_
            refine G_h (v := .lst (List.map (AVal.int .i64) [i1.a]) true) rfl rfl rfl (fun _ => rfl) ?_
            refine G_p (v := .lst (List.map (AVal.int .i64) [i1.a]) true) rfl rfl rfl ?_
            refine G_nil ?_
            refine L_ret ?_
            refine Blk_ret ?_
            refine Sm_ret ?_
            have hr := some_s hr
            subst hr
            exact ⟨_, rfl, _, rfl, rfl⟩
          · refine L_F rfl hc21 ?_
            refine L_seq ?_
            refine L_stmtJ (S := Bool) (fun s => [(1, .ptr 0 0), (4, .int .i64 i1.op), (27, .bool s)]) (fun s => [(kg06 i1)]) (fun s => y06 i1 s = some r) ?_ ?_
            · skip
              refine L_seq ?_
              refine L_stmt ?_
              refine L_reg ?_
              refine G_p rfl rfl rfl ?_
              refine G_p rfl rfl rfl ?_
              refine G_nil ?_
              refine L_nil ?_
              refine Sm_norm (e2 := [(1, .ptr 0 0), (4, .int .i64 i1.op), (27, .bool (decide (i1.op = 11)))]) (H1 := [(kg06 i1)]) (H2 := [(kg06 i1)]) rfl (by repeat (first | exact rzz | apply rcc rfl | apply rnn rfl)) rfl (?_ : GL _ _ _ _ _)
              rcases cond_s hr with ⟨hc27, hr⟩ | ⟨hc27, hr⟩
              · refine L_T rfl hc27 ?_
                refine L_skip ?_
                refine L_nil ?_
                exact Sm_norm (e2 := [(1, .ptr 0 0), (4, .int .i64 i1.op), (27, .bool (decide (i1.op = 11)))]) (H1 := [(kg06 i1)]) (H2 := [(kg06 i1)]) rfl (by repeat (first | exact rzz | apply rcc rfl | apply rnn rfl)) rfl ⟨(decide (i1.op = 11)), rfl, rfl, hr⟩
              · refine L_F rfl hc27 ?_
                refine L_seq ?_
                refine L_stmt ?_
                refine L_reg ?_
                refine G_p rfl rfl rfl ?_
                refine G_p rfl rfl rfl ?_
                refine G_nil ?_
                refine L_nil ?_
                refine Sm_norm (e2 := [(1, .ptr 0 0), (4, .int .i64 i1.op), (27, .bool (decide (i1.op = 12)))]) (H1 := [(kg06 i1)]) (H2 := [(kg06 i1)]) rfl (by repeat (first | exact rzz | apply rcc rfl | apply rnn rfl)) rfl (?_ : GL _ _ _ _ _)
                rcases cond_s hr with ⟨hc27, hr⟩ | ⟨hc27, hr⟩
                · refine L_T rfl hc27 ?_
                  refine L_skip ?_
                  refine L_nil ?_
                  exact Sm_norm (e2 := [(1, .ptr 0 0), (4, .int .i64 i1.op), (27, .bool (decide (i1.op = 12)))]) (H1 := [(kg06 i1)]) (H2 := [(kg06 i1)]) rfl (by repeat (first | exact rzz | apply rcc rfl | apply rnn rfl)) rfl ⟨(decide (i1.op = 12)), rfl, rfl, hr⟩
                · refine L_F rfl hc27 ?_
                  refine L_reg ?_
                  refine G_p rfl rfl rfl ?_
                  refine G_p rfl rfl rfl ?_
                  refine G_nil ?_
                  refine L_nil ?_
                  exact Sm_norm (e2 := [(1, .ptr 0 0), (4, .int .i64 i1.op), (27, .bool (decide (i1.op = 13)))]) (H1 := [(kg06 i1)]) (H2 := [(kg06 i1)]) rfl (by repeat (first | exact rzz | apply rcc rfl | apply rnn rfl)) rfl ⟨(decide (i1.op = 13)), rfl, rfl, hr⟩
            · rintro b12 hr
              show GL _ _ [(1, .ptr 0 0), (4, .int .i64 i1.op), (27, .bool b12)] [(kg06 i1)] _
              replace hr : y06 i1 b12 = some r := hr
              unfold y06 at hr
              rcases cond_s hr with ⟨hc27, hr⟩ | ⟨hc27, hr⟩
              · refine L_T rfl hc27 ?_
                refine L_seq ?_
                refine L_reg ?_
                refine G_h (v := .lst [] true) rfl rfl rfl (fun _ => rfl) ?_
                refine G_p rfl rfl rfl ?_
                refine G_h (v := .lst (List.map (AVal.int .i64) i1.l) false) rfl rfl rfl (fun _ => rfl) ?_
                obtain ⟨hLq13, hr⟩ := guard_s hr
                rcases emp_or i1.l with hEq13 | hEq13
                · skip
                  refine G_h rfl rfl rfl (appE_ev (es := 1) (ys := i1.l) (fun _ => rfl) rfl rfl rfl hEq13) ?_
                  refine G_p (v := .lst (List.map (AVal.int .i64) i1.l) true) rfl rfl rfl ?_
                  refine G_nil ?_
                  refine L_ret ?_
                  refine Blk_ret ?_
                  refine Sm_ret ?_
                  have hr := some_s hr
                  subst hr
                  exact ⟨_, rfl, _, rfl, rfl⟩
                · skip
                  refine G_h rfl rfl rfl (appN_ev (es := 1) (ys := i1.l) (fun _ => rfl) (show (8 : Nat) ≤ 1400 from by decide) rfl rfl rfl hEq13 hLq13 (newAt_end _ _)) ?_
                  refine G_p rfl rfl rfl ?_
                  refine G_nil ?_
                  refine L_ret ?_
                  refine Blk_ret ?_
                  refine Sm_ret ?_
                  have hr := some_s hr
                  subst hr
                  exact ⟨_, rfl, _, (shutR_gl rfl), rfl⟩
              · refine L_F rfl hc27 ?_
                refine L_seq ?_
                refine L_stmtJ (S := Bool) (fun s => [(1, .ptr 0 0), (4, .int .i64 i1.op), (35, .bool s)]) (fun s => [(kg06 i1)]) (fun s => y0c i1 s = some r) ?_ ?_
                · skip
                  refine L_seq ?_
                  refine L_stmt ?_
                  refine L_reg ?_
                  refine G_p rfl rfl rfl ?_
                  refine G_p rfl rfl rfl ?_
                  refine G_nil ?_
                  refine L_nil ?_
                  refine Sm_norm (e2 := [(1, .ptr 0 0), (4, .int .i64 i1.op), (35, .bool (decide (i1.op = 14)))]) (H1 := [(kg06 i1)]) (H2 := [(kg06 i1)]) rfl (by repeat (first | exact rzz | apply rcc rfl | apply rnn rfl)) rfl (?_ : GL _ _ _ _ _)
                  rcases cond_s hr with ⟨hc35, hr⟩ | ⟨hc35, hr⟩
                  · refine L_T rfl hc35 ?_
                    refine L_skip ?_
                    refine L_nil ?_
                    exact Sm_norm (e2 := [(1, .ptr 0 0), (4, .int .i64 i1.op), (35, .bool (decide (i1.op = 14)))]) (H1 := [(kg06 i1)]) (H2 := [(kg06 i1)]) rfl (by repeat (first | exact rzz | apply rcc rfl | apply rnn rfl)) rfl ⟨(decide (i1.op = 14)), rfl, rfl, hr⟩
                  · refine L_F rfl hc35 ?_
                    refine L_reg ?_
                    refine G_p rfl rfl rfl ?_
                    refine G_p rfl rfl rfl ?_
                    refine G_nil ?_
                    refine L_nil ?_
                    exact Sm_norm (e2 := [(1, .ptr 0 0), (4, .int .i64 i1.op), (35, .bool (decide (i1.op = 15)))]) (H1 := [(kg06 i1)]) (H2 := [(kg06 i1)]) rfl (by repeat (first | exact rzz | apply rcc rfl | apply rnn rfl)) rfl ⟨(decide (i1.op = 15)), rfl, rfl, hr⟩
                · rintro b14 hr
                  show GL _ _ [(1, .ptr 0 0), (4, .int .i64 i1.op), (35, .bool b14)] [(kg06 i1)] _
                  replace hr : y0c i1 b14 = some r := hr
                  unfold y0c at hr
                  rcases cond_s hr with ⟨hc35, hr⟩ | ⟨hc35, hr⟩
                  · refine L_T rfl hc35 ?_
                    refine L_seq ?_
                    refine L_reg ?_
                    refine G_p rfl rfl rfl ?_
                    refine G_h rfl rfl rfl (fun _ => rfl) ?_
                    refine G_h (v := .lst (List.map (AVal.int .i64) [i1.b]) true) rfl rfl rfl (fun _ => rfl) ?_
                    refine G_p rfl rfl rfl ?_
                    refine G_h (v := .lst (List.map (AVal.int .i64) i1.l) false) rfl rfl rfl (fun _ => rfl) ?_
                    obtain ⟨l15, hl15, hr⟩ := bind_s hr
                    rcases emp_or i1.l with hEl15 | hEl15
                    · skip
                      refine G_h rfl rfl rfl (appO_ev (es := 1) (fun _ => rfl) rfl rfl rfl hEl15 hl15) ?_
                      refine G_p (v := .lst (List.map (AVal.int .i64) l15) true) rfl rfl rfl ?_
                      refine G_nil ?_
                      refine L_ret ?_
                      refine Blk_ret ?_
                      refine Sm_ret ?_
                      have hr := some_s hr
                      subst hr
                      exact ⟨_, rfl, _, rfl, rfl⟩
                    · skip
                      refine G_h rfl rfl rfl (appM_ev (es := 1) (fun _ => rfl) (show (8 : Nat) ≤ 1400 from by decide) rfl rfl rfl hEl15 hl15 (newAt_end _ _)) ?_
                      refine G_p rfl rfl rfl ?_
                      refine G_nil ?_
                      refine L_ret ?_
                      refine Blk_ret ?_
                      refine Sm_ret ?_
                      have hr := some_s hr
                      subst hr
                      exact ⟨_, rfl, _, (shutR_gl rfl), rfl⟩
                  · refine L_F rfl hc35 ?_
                    refine L_seq ?_
                    refine L_stmtJ (S := Bool) (fun s => [(1, .ptr 0 0), (44, .bool s)]) (fun s => [(kg06 i1)]) (fun s => y0b i1 s = some r) ?_ ?_
                    · skip
                      refine L_seq ?_
                      refine L_stmt ?_
                      refine L_reg ?_
                      refine G_p rfl rfl rfl ?_
                      refine G_p rfl rfl rfl ?_
                      refine G_nil ?_
                      refine L_nil ?_
                      refine Sm_norm (e2 := [(1, .ptr 0 0), (4, .int .i64 i1.op), (44, .bool (decide (i1.op = 16)))]) (H1 := [(kg06 i1)]) (H2 := [(kg06 i1)]) rfl (by repeat (first | exact rzz | apply rcc rfl | apply rnn rfl)) rfl (?_ : GL _ _ _ _ _)
                      rcases cond_s hr with ⟨hc44, hr⟩ | ⟨hc44, hr⟩
                      · refine L_T rfl hc44 ?_
                        refine L_skip ?_
                        refine L_nil ?_
                        exact Sm_norm (e2 := [(1, .ptr 0 0), (44, .bool (decide (i1.op = 16)))]) (H1 := [(kg06 i1)]) (H2 := [(kg06 i1)]) rfl (by repeat (first | exact rzz | apply rcc rfl | apply rnn rfl)) rfl ⟨(decide (i1.op = 16)), rfl, rfl, hr⟩
                      · refine L_F rfl hc44 ?_
                        refine L_reg ?_
                        refine G_p rfl rfl rfl ?_
                        refine G_p rfl rfl rfl ?_
                        refine G_nil ?_
                        refine L_nil ?_
                        exact Sm_norm (e2 := [(1, .ptr 0 0), (44, .bool (decide (i1.op = 17)))]) (H1 := [(kg06 i1)]) (H2 := [(kg06 i1)]) rfl (by repeat (first | exact rzz | apply rcc rfl | apply rnn rfl)) rfl ⟨(decide (i1.op = 17)), rfl, rfl, hr⟩
                    · rintro b16 hr
                      show GL _ _ [(1, .ptr 0 0), (44, .bool b16)] [(kg06 i1)] _
                      replace hr : y0b i1 b16 = some r := hr
                      unfold y0b at hr
                      rcases cond_s hr with ⟨hc44, hr⟩ | ⟨hc44, hr⟩
                      · refine L_T rfl hc44 ?_
                        refine L_seq ?_
                        refine L_reg ?_
                        refine G_p rfl rfl rfl ?_
                        refine G_h rfl rfl rfl (fun _ => rfl) ?_
                        refine G_h (v := .lst (List.map (AVal.int .i64) [i1.a]) true) rfl rfl rfl (fun _ => rfl) ?_
                        refine G_p rfl rfl rfl ?_
                        refine G_h (v := .lst (List.map (AVal.int .i64) i1.l) false) rfl rfl rfl (fun _ => rfl) ?_
                        obtain ⟨l17, hl17, hr⟩ := bind_s hr
                        rcases emp_or i1.l with hEl17 | hEl17
                        · skip
                          refine G_h rfl rfl rfl (appO_ev (es := 1) (fun _ => rfl) rfl rfl rfl hEl17 hl17) ?_
                          refine G_p (v := .lst (List.map (AVal.int .i64) l17) true) rfl rfl rfl ?_
                          refine G_nil ?_
                          refine L_ret ?_
                          refine Blk_ret ?_
                          refine Sm_ret ?_
                          have hr := some_s hr
                          subst hr
                          exact ⟨_, rfl, _, rfl, rfl⟩
                        · skip
                          refine G_h rfl rfl rfl (appM_ev (es := 1) (fun _ => rfl) (show (8 : Nat) ≤ 1400 from by decide) rfl rfl rfl hEl17 hl17 (newAt_end _ _)) ?_
                          refine G_p rfl rfl rfl ?_
                          refine G_nil ?_
                          refine L_ret ?_
                          refine Blk_ret ?_
                          refine Sm_ret ?_
                          have hr := some_s hr
                          subst hr
                          exact ⟨_, rfl, _, (shutR_gl rfl), rfl⟩
                      · refine L_F rfl hc44 ?_
                        refine L_skip ?_
                        refine L_nil ?_
                        refine Blk_norm (?_ : GL _ _ _ _ _)
                        refine L_nil ?_
                        refine Sm_norm (e2 := []) (H1 := [(kg06 i1)]) (H2 := [(kg06 i1)]) rfl (by repeat (first | exact rzz | apply rcc rfl | apply rnn rfl)) rfl (?_ : GL _ _ _ _ _)
                        refine L_seq ?_
                        refine L_reg ?_
                        refine G_p (v := .lst [] true) rfl rfl rfl ?_
                        refine G_nil ?_
                        refine L_ret ?_
                        have hr := some_s hr
                        subst hr
                        exact ⟨_, rfl, _, rfl, rfl⟩
noncomputable def y0t : Option Bool :=
  some true
noncomputable def y05 (b2 : List Int) : List Int → Nat → Option Bool
  | [], _ => y0t
  | y32 :: rest34, i33 => ((idx b2 ((i33 : Nat) : Int)).bind fun e36 => (cond (!decide (y32 = e36)) (some false) ((y05 b2 rest34 (i33 + 1)))))
noncomputable def y0y (a1 : List Int) (b2 : List Int) : Option Bool :=
  (cond (!decide (((List.length a1 : Nat) : Int) = ((List.length b2 : Nat) : Int))) (some false) (cond (okLen a1) (y05 b2 a1 0) none))
theorem y2j {a1 : List Int} {b2 : List Int} {r : Bool} (hr : y0y a1 b2 = some r) : PRes (tabOf tabL) 6 [.lst (List.map (AVal.int .i64) a1) false, .lst (List.map (AVal.int .i64) b2) false] (.bool r) := by
  refine pres_fin t6 ?_
  unfold y0y at hr
  refine L_seq ?_
  refine L_stmt ?_
  refine L_reg ?_
  refine G_p rfl rfl rfl ?_
  refine G_nil ?_
  refine L_nil ?_
  refine Sm_norm (e2 := [(0, .lst (List.map (AVal.int .i64) a1) false), (1, .lst (List.map (AVal.int .i64) b2) false)]) (H1 := []) (H2 := []) rfl (by repeat (first | exact rzz | apply rcc rfl | apply rnn rfl)) rfl (?_ : GL _ _ _ _ _)
  refine L_seq ?_
  refine L_stmt ?_
  refine L_seq ?_
  refine L_stmt ?_
  refine L_reg ?_
  refine G_p (v := .lst (List.map (AVal.int .i64) a1) false) rfl rfl rfl ?_
  refine G_h rfl rfl rfl (lenL_ev rfl (List.length_map _)) ?_
  refine G_p (v := .lst (List.map (AVal.int .i64) b2) false) rfl rfl rfl ?_
  refine G_h rfl rfl rfl (lenL_ev rfl (List.length_map _)) ?_
  refine G_p rfl rfl rfl ?_
  refine G_nil ?_
  refine L_nil ?_
  refine Sm_norm (e2 := [(0, .lst (List.map (AVal.int .i64) a1) false), (1, .lst (List.map (AVal.int .i64) b2) false), (10, .bool (!decide (((List.length a1 : Nat) : Int) = ((List.length b2 : Nat) : Int))))]) (H1 := []) (H2 := []) rfl (by repeat (first | exact rzz | apply rcc rfl | apply rnn rfl)) rfl (?_ : GL _ _ _ _ _)
  rcases cond_s hr with ⟨hc10, hr⟩ | ⟨hc10, hr⟩
  · refine L_T rfl hc10 ?_
    refine L_seq ?_
    refine L_reg ?_
    refine G_p rfl rfl rfl ?_
    refine G_nil ?_
    refine L_ret ?_
    refine Sm_ret ?_
    have hr := some_s hr
    subst hr
    exact ⟨_, rfl, _, rfl, rfl⟩
  · refine L_F rfl hc10 ?_
    refine L_skip ?_
    refine L_nil ?_
    refine Sm_norm (e2 := [(0, .lst (List.map (AVal.int .i64) a1) false), (1, .lst (List.map (AVal.int .i64) b2) false)]) (H1 := []) (H2 := []) rfl (by repeat (first | exact rzz | apply rcc rfl | apply rnn rfl)) rfl (?_ : GL _ _ _ _ _)
    refine L_seq ?_
    refine L_stmtJ (S := Unit) (fun s => []) (fun s => []) (fun s => y0t = some r) ?_ ?_
    · skip
      refine L_seq ?_
      refine L_stmt ?_
      refine L_reg ?_
      refine G_p rfl rfl rfl ?_
      refine G_nil ?_
      refine L_nil ?_
      refine Sm_norm (e2 := [(0, .lst (List.map (AVal.int .i64) a1) false), (1, .lst (List.map (AVal.int .i64) b2) false), (5, .int .i64 0)]) (H1 := []) (H2 := []) rfl (by repeat (first | exact rzz | apply rcc rfl | apply rnn rfl)) rfl (?_ : GL _ _ _ _ _)
      refine L_block ?_
      obtain ⟨hLq31, hr⟩ := guard_s hr
      replace hLq31 := okLen_s hLq31
      refine L_range (X := Int) (S := Unit) a1 (fun i33 s => [(5, .int .i64 ((i33 : Nat) : Int)), (0, .lst (List.map (AVal.int .i64) a1) false), (1, .lst (List.map (AVal.int .i64) b2) false)]) (fun i33 s => []) (fun rest i33 s => y05 b2 rest i33 = some r) (()) ?_ rfl hr ?_ ?_
      · show restr _ _ = [(5, .int .i64 ((0 : Nat) : Int)), (0, .lst (List.map (AVal.int .i64) a1) false), (1, .lst (List.map (AVal.int .i64) b2) false)]
        (repeat (first | exact rzz | apply rcc rfl | apply rnn rfl))
      · rintro ⟨⟩ hr
        show GL _ _ [(5, .int .i64 (((List.length a1) : Nat) : Int)), (0, .lst (List.map (AVal.int .i64) a1) false), (1, .lst (List.map (AVal.int .i64) b2) false)] [] _
        replace hr : y05 b2 [] (List.length a1) = some r := hr
        rw [y05] at hr
        refine L_seq ?_
        refine L_stmt ?_
        refine L_seq ?_
        refine L_stmt ?_
        refine L_reg ?_
        refine G_p rfl rfl rfl ?_
        refine G_p (v := .lst (List.map (AVal.int .i64) a1) false) rfl rfl rfl ?_
        refine G_h rfl rfl rfl (lenL_ev rfl (List.length_map _)) ?_
        refine G_v (.bool false) rfl rfl rfl (congrArg AVal.bool (decide_eq_false (by omega))) ?_
        refine G_nil ?_
        refine L_nil ?_
        refine Sm_norm (e2 := [(0, .lst (List.map (AVal.int .i64) a1) false), (1, .lst (List.map (AVal.int .i64) b2) false), (5, .int .i64 ((List.length a1 : Nat) : Int)), (14, .bool false)]) (H1 := []) (H2 := []) rfl (by repeat (first | exact rzz | apply rcc rfl | apply rnn rfl)) rfl (?_ : GL _ _ _ _ _)
        refine L_F rfl rfl ?_
        refine L_exit ?_
        refine Sm_exit ?_
        refine Rd_exit ?_
        refine Blk_exit (?_ : GL _ _ _ _ _)
        refine L_nil ?_
        exact Sm_norm (e2 := []) (H1 := []) (H2 := []) rfl (by repeat (first | exact rzz | apply rcc rfl | apply rnn rfl)) rfl ⟨(), rfl, rfl, hr⟩
      · rintro y32 rest34 i33 ⟨⟩ hy32 hlti33 hr
        show GL _ _ [(5, .int .i64 ((i33 : Nat) : Int)), (0, .lst (List.map (AVal.int .i64) a1) false), (1, .lst (List.map (AVal.int .i64) b2) false)] [] _
        replace hr : y05 b2 (y32 :: rest34) i33 = some r := hr
        rw [y05] at hr
        refine L_seq ?_
        refine L_stmt ?_
        refine L_seq ?_
        refine L_stmt ?_
        refine L_reg ?_
        refine G_p rfl rfl rfl ?_
        refine G_p (v := .lst (List.map (AVal.int .i64) a1) false) rfl rfl rfl ?_
        refine G_h rfl rfl rfl (lenL_ev rfl (List.length_map _)) ?_
        refine G_v (.bool true) rfl rfl rfl (congrArg AVal.bool (decide_eq_true (by omega))) ?_
        refine G_nil ?_
        refine L_nil ?_
        refine Sm_norm (e2 := [(0, .lst (List.map (AVal.int .i64) a1) false), (1, .lst (List.map (AVal.int .i64) b2) false), (5, .int .i64 ((i33 : Nat) : Int)), (14, .bool true)]) (H1 := []) (H2 := []) rfl (by repeat (first | exact rzz | apply rcc rfl | apply rnn rfl)) rfl (?_ : GL _ _ _ _ _)
        refine L_T rfl rfl ?_
        refine L_skip ?_
        refine L_nil ?_
        refine Sm_norm (e2 := [(0, .lst (List.map (AVal.int .i64) a1) false), (1, .lst (List.map (AVal.int .i64) b2) false), (5, .int .i64 ((i33 : Nat) : Int))]) (H1 := []) (H2 := []) rfl (by repeat (first | exact rzz | apply rcc rfl | apply rnn rfl)) rfl (?_ : GL _ _ _ _ _)
        refine L_seq ?_
        refine L_stmt ?_
        refine L_block ?_
        refine L_seq ?_
        refine L_stmt ?_
        refine L_drawS (ops := [_, _, _, _, _, _, _, _, _]) rfl rfl ?_
        refine G_p (v := .lst (List.map (AVal.int .i64) a1) false) rfl rfl rfl ?_
        refine G_p rfl rfl rfl ?_
        refine G_h (v := .ro [.int .i64 y32]) rfl rfl rfl (ia_ev (cells := [.int .i64 y32]) rfl rfl (Int.natCast_nonneg _) (map_get (x := y32) (by rw [Int.toNat_natCast]; exact hy32)) rfl rfl) ?_
        refine G_h rfl rfl rfl (fun _ => rfl) ?_
        refine G_p (v := .lst (List.map (AVal.int .i64) b2) false) rfl rfl rfl ?_
        refine G_p rfl rfl rfl ?_
        obtain ⟨e36, he36, hr⟩ := bind_s hr
        refine G_h (v := .ro [.int .i64 e36]) rfl rfl rfl (ia_ev (cells := [.int .i64 e36]) rfl rfl (idx_s he36).1 (map_get (x := e36) (idx_s he36).2) rfl rfl) ?_
        refine G_h rfl rfl rfl (fun _ => rfl) ?_
        refine G_p rfl rfl rfl ?_
        refine G_nil (L_nil ⟨rfl, ?_⟩)
        refine L_nil ?_
        refine Sm_norm (e2 := [(0, .lst (List.map (AVal.int .i64) a1) false), (1, .lst (List.map (AVal.int .i64) b2) false), (5, .int .i64 ((i33 : Nat) : Int)), (25, .bool (!decide (y32 = e36)))]) (H1 := []) (H2 := []) rfl (by repeat (first | exact rzz | apply rcc rfl | apply rnn rfl)) rfl (?_ : GL _ _ _ _ _)
        rcases cond_s hr with ⟨hc25, hr⟩ | ⟨hc25, hr⟩
        · refine L_T rfl hc25 ?_
          refine L_seq ?_
          refine L_reg ?_
          refine G_p rfl rfl rfl ?_
          refine G_nil ?_
          refine L_ret ?_
          refine Blk_ret ?_
          refine Sm_ret ?_
          refine Rd_ret ?_
          refine Blk_ret ?_
          refine Sm_ret ?_
          have hr := some_s hr
          subst hr
          exact ⟨_, rfl, _, rfl, rfl⟩
        · refine L_F rfl hc25 ?_
          refine L_skip ?_
          refine L_nil ?_
          refine Blk_norm (?_ : GL _ _ _ _ _)
          refine L_nil ?_
          refine Sm_norm (e2 := [(0, .lst (List.map (AVal.int .i64) a1) false), (1, .lst (List.map (AVal.int .i64) b2) false), (5, .int .i64 ((i33 : Nat) : Int))]) (H1 := []) (H2 := []) rfl (by repeat (first | exact rzz | apply rcc rfl | apply rnn rfl)) rfl (?_ : GL _ _ _ _ _)
          refine L_reg ?_
          refine G_p rfl rfl rfl ?_
          refine G_v (.int .i64 ((i33 + 1 : Nat) : Int)) rfl rfl rfl (congrArg _ (wrap_next hLq31 hlti33)) ?_
          refine G_p rfl rfl rfl ?_
          refine G_nil ?_
          refine L_nil ?_
          refine Rd_norm ⟨(), ?_, rfl, hr⟩
          show restr _ _ = [(5, .int .i64 (((i33 + 1) : Nat) : Int)), (0, .lst (List.map (AVal.int .i64) a1) false), (1, .lst (List.map (AVal.int .i64) b2) false)]
          (repeat (first | exact rzz | apply rcc rfl | apply rnn rfl))
    · rintro ⟨⟩ hr
      show GL _ _ [] [] _
      replace hr : y0t = some r := hr
      unfold y0t at hr
      refine L_seq ?_
      refine L_reg ?_
      refine G_p rfl rfl rfl ?_
      refine G_nil ?_
      refine L_ret ?_
      have hr := some_s hr
      subst hr
      exact ⟨_, rfl, _, rfl, rfl⟩
noncomputable def y0x (i1 : Ins) : Option Bool :=
  ((oAwake).bind fun r2 => (cond (decide (100 < ((List.length i1.l : Nat) : Int))) (some r2) ((y0i i1).bind fun r3 => ((y0q i1).bind fun r4 => ((y0y r3 r4).bind fun r5 => ((y0g i1).bind fun r6 => ((y0p i1).bind fun r7 => ((y0y r6 r7).bind fun r8 => ((cond r2 (some r5) (some false)).bind fun v9 => ((cond v9 (some r8) (some false)).bind fun v10 => ((cond v10 (((y0h i1).bind fun r11 => ((y0n i1).bind fun r12 => some (decide (r11 = r12))))) (some false)).bind fun v13 => ((cond v13 (((y0r i1.op).bind fun r16 => ((y12 i1.op).bind fun r17 => some (r16 == r17)))) (some false)).bind fun v18 => some v18))))))))))))
abbrev kg07 (i1 : Ins) : ABlock := .cells [.int .i64 i1.op, .int .i64 i1.a, .int .i64 i1.b, .lst (List.map (AVal.int .i64) i1.l) false]
theorem y2y {i1 : Ins} {r : Bool} (hr : y0x i1 = some r) : PRes (tabOf tabL) 3 [.agg (cIns i1)] (.bool r) := by
  refine pres_fin t3 ?_
  unfold y0x at hr
  refine L_seq ?_
  refine L_stmt ?_
  refine L_reg ?_
  refine G_n (B := (kg07 i1)) rfl rfl rfl ?_
  refine G_p rfl rfl rfl ?_
  refine G_nil ?_
  refine L_nil ?_
  refine Sm_norm (e2 := [(1, .ptr 0 0)]) (H1 := [(kg07 i1)]) (H2 := [(kg07 i1)]) rfl (by repeat (first | exact rzz | apply rcc rfl | apply rnn rfl)) rfl (?_ : GL _ _ _ _ _)
  refine L_seq ?_
  refine L_stmt ?_
  refine L_reg ?_
  obtain ⟨r2, hr2, hr⟩ := bind_s hr
  refine G_c 5 rfl rfl (CA_of (as := []) rfl (oAwake_ok hr2)) ?_
  refine G_p rfl rfl rfl ?_
  refine G_nil ?_
  refine L_nil ?_
  refine Sm_norm (e2 := [(1, .ptr 0 0), (3, .bool r2)]) (H1 := [(kg07 i1)]) (H2 := [(kg07 i1)]) rfl (by repeat (first | exact rzz | apply rcc rfl | apply rnn rfl)) rfl (?_ : GL _ _ _ _ _)
  refine L_seq ?_
  refine L_stmt ?_
  refine L_seq ?_
  refine L_stmt ?_
  refine L_reg ?_
  refine G_p rfl rfl rfl ?_
  refine G_h (v := .lst (List.map (AVal.int .i64) i1.l) false) rfl rfl rfl (fun _ => rfl) ?_
  refine G_h rfl rfl rfl (lenL_ev rfl (List.length_map _)) ?_
  refine G_p rfl rfl rfl ?_
  refine G_nil ?_
  refine L_nil ?_
  refine Sm_norm (e2 := [(1, .ptr 0 0), (3, .bool r2), (11, .bool (decide (100 < ((List.length i1.l : Nat) : Int))))]) (H1 := [(kg07 i1)]) (H2 := [(kg07 i1)]) rfl (by repeat (first | exact rzz | apply rcc rfl | apply rnn rfl)) rfl (?_ : GL _ _ _ _ _)
  rcases cond_s hr with ⟨hc11, hr⟩ | ⟨hc11, hr⟩
  · refine L_T rfl hc11 ?_
    refine L_seq ?_
    refine L_reg ?_
    refine G_p rfl rfl rfl ?_
    refine G_p rfl rfl rfl ?_
    refine G_nil ?_
    refine L_ret ?_
    refine Sm_ret ?_
    have hr := some_s hr
    subst hr
    exact ⟨_, rfl, _, rfl, rfl⟩
  · refine L_F rfl hc11 ?_
    refine L_skip ?_
    refine L_nil ?_
    refine Sm_norm (e2 := [(1, .ptr 0 0), (3, .bool r2)]) (H1 := [(kg07 i1)]) (H2 := [(kg07 i1)]) rfl (by repeat (first | exact rzz | apply rcc rfl | apply rnn rfl)) rfl (?_ : GL _ _ _ _ _)
    refine L_seq ?_
    refine L_stmt ?_
    refine L_reg ?_
    refine G_p rfl rfl rfl ?_
    refine G_h rfl rfl rfl (fun _ => rfl) ?_
    refine G_p rfl rfl rfl ?_
    refine G_h rfl rfl rfl (fun _ => rfl) ?_
    refine G_p rfl rfl rfl ?_
    refine G_h rfl rfl rfl (fun _ => rfl) ?_
    refine G_p rfl rfl rfl ?_
    refine G_h (v := .lst (List.map (AVal.int .i64) i1.l) false) rfl rfl rfl (fun _ => rfl) ?_
    refine G_p (v := .agg [.int .i64 i1.op, .int .i64 i1.a, .int .i64 i1.b, .lst (List.map (AVal.int .i64) i1.l) false]) rfl rfl rfl ?_
    refine G_n (B := .cells [.int .i64 0, .int .i64 0, .int .i64 0, .lst [] true]) rfl rfl rfl ?_
    refine G_hn (H' := [(kg07 i1), (kg07 i1)]) rfl rfl rfl (fun _ => rfl) ?_
    refine G_nil ?_
    refine L_nil ?_
    refine Sm_norm (e2 := [(1, .ptr 0 0), (3, .bool r2), (4, .ptr 1 0)]) (H1 := [(kg07 i1), (kg07 i1)]) (H2 := [(kg07 i1), (kg07 i1)]) rfl (by repeat (first | exact rzz | apply rcc rfl | apply rnn rfl)) rfl (?_ : GL _ _ _ _ _)
    refine L_seq ?_
    refine L_stmt ?_
    refine L_drawT [] rfl ?_
    refine GS_h (d := some 22) (v := .agg (cIns i1)) rfl rfl rfl rfl (fun _ => rfl) ?_
    obtain ⟨r3, hr3, hr⟩ := bind_s hr
    refine GS_c 7 rfl rfl rfl (CA_of (as := [.agg (cIns i1)]) rfl (y45 hr3)) ?_
    refine GS_h (d := some 24) (v := .agg (cIns i1)) rfl rfl rfl rfl (fun _ => rfl) ?_
    obtain ⟨r4, hr4, hr⟩ := bind_s hr
    refine GS_c 8 rfl rfl rfl (CA_of (as := [.agg (cIns i1)]) rfl (y46 hr4)) ?_
    obtain ⟨r5, hr5, hr⟩ := bind_s hr
    refine GS_c 6 rfl rfl rfl (CA_of (as := [.lst (List.map (AVal.int .i64) r3) false, .lst (List.map (AVal.int .i64) r4) false]) rfl (y2j hr5)) ?_
    refine GS_p rfl rfl rfl ?_
    refine GS_nil ?_
    refine L_nil ?_
    refine Sm_norm (e2 := [(1, .ptr 0 0), (3, .bool r2), (4, .ptr 1 0), (5, .bool r5)]) (H1 := [(kg07 i1), (kg07 i1)]) (H2 := [(kg07 i1), (kg07 i1)]) rfl (by repeat (first | exact rzz | apply rcc rfl | apply rnn rfl)) rfl (?_ : GL _ _ _ _ _)
    refine L_seq ?_
    refine L_stmt ?_
    refine L_drawT [] rfl ?_
    refine GS_h (d := some 27) (v := .agg (cIns i1)) rfl rfl rfl rfl (fun _ => rfl) ?_
    obtain ⟨r6, hr6, hr⟩ := bind_s hr
    refine GS_c 9 rfl rfl rfl (CA_of (as := [.agg (cIns i1)]) rfl (y48 hr6)) ?_
    refine GS_h (d := some 29) (v := .agg (cIns i1)) rfl rfl rfl rfl (fun _ => rfl) ?_
    obtain ⟨r7, hr7, hr⟩ := bind_s hr
    refine GS_c 10 rfl rfl rfl (CA_of (as := [.agg (cIns i1)]) rfl (y4b hr7)) ?_
    obtain ⟨r8, hr8, hr⟩ := bind_s hr
    refine GS_c 6 rfl rfl rfl (CA_of (as := [.lst (List.map (AVal.int .i64) r6) false, .lst (List.map (AVal.int .i64) r7) false]) rfl (y2j hr8)) ?_
    refine GS_p rfl rfl rfl ?_
    refine GS_nil ?_
    refine L_nil ?_
    refine Sm_norm (e2 := [(1, .ptr 0 0), (3, .bool r2), (4, .ptr 1 0), (5, .bool r5), (6, .bool r8)]) (H1 := [(kg07 i1), (kg07 i1)]) (H2 := [(kg07 i1), (kg07 i1)]) rfl (by repeat (first | exact rzz | apply rcc rfl | apply rnn rfl)) rfl (?_ : GL _ _ _ _ _)
    refine L_seq ?_
    refine L_drawT [] rfl ?_
    refine GS_p rfl rfl rfl ?_
    refine GS_p rfl rfl rfl ?_
    obtain ⟨v9, hvv9, hr⟩ := bind_s hr
    rcases cond_s hvv9 with ⟨hb33, hvv9⟩ | ⟨hb33, hvv9⟩
    · skip
      have hkv9 := hr
      have hr := hvv9
      refine GS_p rfl (wt rfl hb33) rfl ?_
      replace hvv9 := some_s hr
      have hr := hkv9
      refine GS_v (.bool v9) rfl rfl (evP_pickT rfl hb33 rfl) (congrArg AVal.bool hvv9) ?_
      refine GS_p rfl rfl rfl ?_
      obtain ⟨v10, hvv10, hr⟩ := bind_s hr
      rcases cond_s hvv10 with ⟨hb36, hvv10⟩ | ⟨hb36, hvv10⟩
      · skip
        have hkv10 := hr
        have hr := hvv10
        refine GS_p rfl (wt rfl hb36) rfl ?_
        replace hvv10 := some_s hr
        have hr := hkv10
        refine GS_v (.bool v10) rfl rfl (evP_pickT rfl hb36 rfl) (congrArg AVal.bool hvv10) ?_
        refine GS_p rfl rfl rfl ?_
        obtain ⟨v13, hvv13, hr⟩ := bind_s hr
        rcases cond_s hvv13 with ⟨hb39, hvv13⟩ | ⟨hb39, hvv13⟩
        · skip
          have hkv13 := hr
          have hr := hvv13
          refine GS_h (d := some 40) (v := .agg (cIns i1)) rfl rfl rfl (wt rfl hb39) (fun _ => rfl) ?_
          obtain ⟨r14, hr14, hr⟩ := bind_s hr
          refine GS_c 11 (wt rfl hb39) rfl rfl (CA_of (as := [.agg (cIns i1)]) rfl (y0z hr14)) ?_
          refine GS_h (d := some 42) (v := .agg (cIns i1)) rfl rfl rfl (wt rfl hb39) (fun _ => rfl) ?_
          obtain ⟨r15, hr15, hr⟩ := bind_s hr
          refine GS_c 12 (wt rfl hb39) rfl rfl (CA_of (as := [.agg (cIns i1)]) rfl (y17 hr15)) ?_
          refine GS_p rfl (wt rfl hb39) rfl ?_
          replace hvv13 := some_s hr
          have hr := hkv13
          refine GS_v (.bool v13) rfl rfl (evP_pickT rfl hb39 rfl) (congrArg AVal.bool hvv13) ?_
          refine GS_p rfl rfl rfl ?_
          obtain ⟨v18, hvv18, hr⟩ := bind_s hr
          rcases cond_s hvv18 with ⟨hb46, hvv18⟩ | ⟨hb46, hvv18⟩
          · skip
            have hkv18 := hr
            have hr := hvv18
            refine GS_p rfl (wt rfl hb46) rfl ?_
            refine GS_h (d := some 48) rfl rfl rfl (wt rfl hb46) (fun _ => rfl) ?_
            obtain ⟨r19, hr19, hr⟩ := bind_s hr
            refine GS_c 13 (wt rfl hb46) rfl rfl (CA_of (as := [.int .i64 i1.op]) rfl (y07 hr19)) ?_
            refine GS_p rfl (wt rfl hb46) rfl ?_
            refine GS_h (d := some 51) rfl rfl rfl (wt rfl hb46) (fun _ => rfl) ?_
            obtain ⟨r20, hr20, hr⟩ := bind_s hr
            refine GS_c 14 (wt rfl hb46) rfl rfl (CA_of (as := [.int .i64 i1.op]) rfl (y0f hr20)) ?_
            refine GS_p rfl (wt rfl hb46) rfl ?_
            replace hvv18 := some_s hr
            have hr := hkv18
            refine GS_v (.bool v18) rfl rfl (evP_pickT rfl hb46 rfl) (congrArg AVal.bool hvv18) ?_
            refine GS_p rfl rfl rfl ?_
            refine GS_nil ?_
            refine L_ret ?_
            have hr := some_s hr
            subst hr
            exact ⟨_, rfl, _, rfl, rfl⟩
          · skip
            refine GS_s (wf rfl hb46) ?_
            refine GS_s (wf rfl hb46) ?_
            refine GS_s (wf rfl hb46) ?_
            refine GS_s (wf rfl hb46) ?_
            refine GS_s (wf rfl hb46) ?_
            refine GS_s (wf rfl hb46) ?_
            refine GS_s (wf rfl hb46) ?_
            replace hvv18 := some_s hvv18
            refine GS_v (.bool v18) rfl rfl (evP_pickF rfl hb46 rfl) (congrArg AVal.bool hvv18) ?_
            refine GS_p rfl rfl rfl ?_
            refine GS_nil ?_
            refine L_ret ?_
            have hr := some_s hr
            subst hr
            exact ⟨_, rfl, _, rfl, rfl⟩
        · skip
          refine GS_s (wf rfl hb39) ?_
          refine GS_s (wf rfl hb39) ?_
          refine GS_s (wf rfl hb39) ?_
          refine GS_s (wf rfl hb39) ?_
          refine GS_s (wf rfl hb39) ?_
          replace hvv13 := some_s hvv13
          refine GS_v (.bool v13) rfl rfl (evP_pickF rfl hb39 rfl) (congrArg AVal.bool hvv13) ?_
          refine GS_p rfl rfl rfl ?_
          obtain ⟨v23, hvv23, hr⟩ := bind_s hr
          rcases cond_s hvv23 with ⟨hb46, hvv23⟩ | ⟨hb46, hvv23⟩
          · skip
            have hkv23 := hr
            have hr := hvv23
            refine GS_p rfl (wt rfl hb46) rfl ?_
            refine GS_h (d := some 48) rfl rfl rfl (wt rfl hb46) (fun _ => rfl) ?_
            obtain ⟨r24, hr24, hr⟩ := bind_s hr
            refine GS_c 13 (wt rfl hb46) rfl rfl (CA_of (as := [.int .i64 i1.op]) rfl (y07 hr24)) ?_
            refine GS_p rfl (wt rfl hb46) rfl ?_
            refine GS_h (d := some 51) rfl rfl rfl (wt rfl hb46) (fun _ => rfl) ?_
            obtain ⟨r25, hr25, hr⟩ := bind_s hr
            refine GS_c 14 (wt rfl hb46) rfl rfl (CA_of (as := [.int .i64 i1.op]) rfl (y0f hr25)) ?_
            refine GS_p rfl (wt rfl hb46) rfl ?_
            replace hvv23 := some_s hr
            have hr := hkv23
            refine GS_v (.bool v23) rfl rfl (evP_pickT rfl hb46 rfl) (congrArg AVal.bool hvv23) ?_
            refine GS_p rfl rfl rfl ?_
            refine GS_nil ?_
            refine L_ret ?_
            have hr := some_s hr
            subst hr
            exact ⟨_, rfl, _, rfl, rfl⟩
          · skip
            refine GS_s (wf rfl hb46) ?_
            refine GS_s (wf rfl hb46) ?_
            refine GS_s (wf rfl hb46) ?_
            refine GS_s (wf rfl hb46) ?_
            refine GS_s (wf rfl hb46) ?_
            refine GS_s (wf rfl hb46) ?_
            refine GS_s (wf rfl hb46) ?_
            replace hvv23 := some_s hvv23
            refine GS_v (.bool v23) rfl rfl (evP_pickF rfl hb46 rfl) (congrArg AVal.bool hvv23) ?_
            refine GS_p rfl rfl rfl ?_
            refine GS_nil ?_
            refine L_ret ?_
            have hr := some_s hr
            subst hr
            exact ⟨_, rfl, _, rfl, rfl⟩
      · skip
        refine GS_s (wf rfl hb36) ?_
        replace hvv10 := some_s hvv10
        refine GS_v (.bool v10) rfl rfl (evP_pickF rfl hb36 rfl) (congrArg AVal.bool hvv10) ?_
        refine GS_p rfl rfl rfl ?_
        obtain ⟨v28, hvv28, hr⟩ := bind_s hr
        rcases cond_s hvv28 with ⟨hb39, hvv28⟩ | ⟨hb39, hvv28⟩
        · skip
          have hkv28 := hr
          have hr := hvv28
          refine GS_h (d := some 40) (v := .agg (cIns i1)) rfl rfl rfl (wt rfl hb39) (fun _ => rfl) ?_
          obtain ⟨r29, hr29, hr⟩ := bind_s hr
          refine GS_c 11 (wt rfl hb39) rfl rfl (CA_of (as := [.agg (cIns i1)]) rfl (y0z hr29)) ?_
          refine GS_h (d := some 42) (v := .agg (cIns i1)) rfl rfl rfl (wt rfl hb39) (fun _ => rfl) ?_
          obtain ⟨r30, hr30, hr⟩ := bind_s hr
          refine GS_c 12 (wt rfl hb39) rfl rfl (CA_of (as := [.agg (cIns i1)]) rfl (y17 hr30)) ?_
          refine GS_p rfl (wt rfl hb39) rfl ?_
          replace hvv28 := some_s hr
          have hr := hkv28
          refine GS_v (.bool v28) rfl rfl (evP_pickT rfl hb39 rfl) (congrArg AVal.bool hvv28) ?_
          refine GS_p rfl rfl rfl ?_
          obtain ⟨v33, hvv33, hr⟩ := bind_s hr
          rcases cond_s hvv33 with ⟨hb46, hvv33⟩ | ⟨hb46, hvv33⟩
          · skip
            have hkv33 := hr
            have hr := hvv33
            refine GS_p rfl (wt rfl hb46) rfl ?_
            refine GS_h (d := some 48) rfl rfl rfl (wt rfl hb46) (fun _ => rfl) ?_
            obtain ⟨r34, hr34, hr⟩ := bind_s hr
            refine GS_c 13 (wt rfl hb46) rfl rfl (CA_of (as := [.int .i64 i1.op]) rfl (y07 hr34)) ?_
            refine GS_p rfl (wt rfl hb46) rfl ?_
            refine GS_h (d := some 51) rfl rfl rfl (wt rfl hb46) (fun _ => rfl) ?_
            obtain ⟨r35, hr35, hr⟩ := bind_s hr
            refine GS_c 14 (wt rfl hb46) rfl rfl (CA_of (as := [.int .i64 i1.op]) rfl (y0f hr35)) ?_
            refine GS_p rfl (wt rfl hb46) rfl ?_
            replace hvv33 := some_s hr
            have hr := hkv33
            refine GS_v (.bool v33) rfl rfl (evP_pickT rfl hb46 rfl) (congrArg AVal.bool hvv33) ?_
            refine GS_p rfl rfl rfl ?_
            refine GS_nil ?_
            refine L_ret ?_
            have hr := some_s hr
            subst hr
            exact ⟨_, rfl, _, rfl, rfl⟩
          · skip
            refine GS_s (wf rfl hb46) ?_
            refine GS_s (wf rfl hb46) ?_
            refine GS_s (wf rfl hb46) ?_
            refine GS_s (wf rfl hb46) ?_
            refine GS_s (wf rfl hb46) ?_
            refine GS_s (wf rfl hb46) ?_
            refine GS_s (wf rfl hb46) ?_
            replace hvv33 := some_s hvv33
            refine GS_v (.bool v33) rfl rfl (evP_pickF rfl hb46 rfl) (congrArg AVal.bool hvv33) ?_
            refine GS_p rfl rfl rfl ?_
            refine GS_nil ?_
            refine L_ret ?_
            have hr := some_s hr
            subst hr
            exact ⟨_, rfl, _, rfl, rfl⟩
        · skip
          refine GS_s (wf rfl hb39) ?_
          refine GS_s (wf rfl hb39) ?_
          refine GS_s (wf rfl hb39) ?_
          refine GS_s (wf rfl hb39) ?_
          refine GS_s (wf rfl hb39) ?_
          replace hvv28 := some_s hvv28
          refine GS_v (.bool v28) rfl rfl (evP_pickF rfl hb39 rfl) (congrArg AVal.bool hvv28) ?_
          refine GS_p rfl rfl rfl ?_
          obtain ⟨v38, hvv38, hr⟩ := bind_s hr
          rcases cond_s hvv38 with ⟨hb46, hvv38⟩ | ⟨hb46, hvv38⟩
          · skip
            have hkv38 := hr
            have hr := hvv38
            refine GS_p rfl (wt rfl hb46) rfl ?_
            refine GS_h (d := some 48) rfl rfl rfl (wt rfl hb46) (fun _ => rfl) ?_
            obtain ⟨r39, hr39, hr⟩ := bind_s hr
            refine GS_c 13 (wt rfl hb46) rfl rfl (CA_of (as := [.int .i64 i1.op]) rfl (y07 hr39)) ?_
            refine GS_p rfl (wt rfl hb46) rfl ?_
            refine GS_h (d := some 51) rfl rfl rfl (wt rfl hb46) (fun _ => rfl) ?_
            obtain ⟨r40, hr40, hr⟩ := bind_s hr
            refine GS_c 14 (wt rfl hb46) rfl rfl (CA_of (as := [.int .i64 i1.op]) rfl (y0f hr40)) ?_
            refine GS_p rfl (wt rfl hb46) rfl ?_
            replace hvv38 := some_s hr
            have hr := hkv38
            refine GS_v (.bool v38) rfl rfl (evP_pickT rfl hb46 rfl) (congrArg AVal.bool hvv38) ?_
            refine GS_p rfl rfl rfl ?_
            refine GS_nil ?_
            refine L_ret ?_
            have hr := some_s hr
            subst hr
            exact ⟨_, rfl, _, rfl, rfl⟩
          · skip
            refine GS_s (wf rfl hb46) ?_
            refine GS_s (wf rfl hb46) ?_
            refine GS_s (wf rfl hb46) ?_
            refine GS_s (wf rfl hb46) ?_
            refine GS_s (wf rfl hb46) ?_
            refine GS_s (wf rfl hb46) ?_
            refine GS_s (wf rfl hb46) ?_
            replace hvv38 := some_s hvv38
            refine GS_v (.bool v38) rfl rfl (evP_pickF rfl hb46 rfl) (congrArg AVal.bool hvv38) ?_
            refine GS_p rfl rfl rfl ?_
            refine GS_nil ?_
            refine L_ret ?_
            have hr := some_s hr
            subst hr
            exact ⟨_, rfl, _, rfl, rfl⟩
    · skip
      refine GS_s (wf rfl hb33) ?_
      replace hvv9 := some_s hvv9
      refine GS_v (.bool v9) rfl rfl (evP_pickF rfl hb33 rfl) (congrArg AVal.bool hvv9) ?_
      refine GS_p rfl rfl rfl ?_
      obtain ⟨v41, hvv41, hr⟩ := bind_s hr
      rcases cond_s hvv41 with ⟨hb36, hvv41⟩ | ⟨hb36, hvv41⟩
      · skip
        have hkv41 := hr
        have hr := hvv41
        refine GS_p rfl (wt rfl hb36) rfl ?_
        replace hvv41 := some_s hr
        have hr := hkv41
        refine GS_v (.bool v41) rfl rfl (evP_pickT rfl hb36 rfl) (congrArg AVal.bool hvv41) ?_
        refine GS_p rfl rfl rfl ?_
        obtain ⟨v44, hvv44, hr⟩ := bind_s hr
        rcases cond_s hvv44 with ⟨hb39, hvv44⟩ | ⟨hb39, hvv44⟩
        · skip
          have hkv44 := hr
          have hr := hvv44
          refine GS_h (d := some 40) (v := .agg (cIns i1)) rfl rfl rfl (wt rfl hb39) (fun _ => rfl) ?_
          obtain ⟨r45, hr45, hr⟩ := bind_s hr
          refine GS_c 11 (wt rfl hb39) rfl rfl (CA_of (as := [.agg (cIns i1)]) rfl (y0z hr45)) ?_
          refine GS_h (d := some 42) (v := .agg (cIns i1)) rfl rfl rfl (wt rfl hb39) (fun _ => rfl) ?_
          obtain ⟨r46, hr46, hr⟩ := bind_s hr
          refine GS_c 12 (wt rfl hb39) rfl rfl (CA_of (as := [.agg (cIns i1)]) rfl (y17 hr46)) ?_
          refine GS_p rfl (wt rfl hb39) rfl ?_
          replace hvv44 := some_s hr
          have hr := hkv44
          refine GS_v (.bool v44) rfl rfl (evP_pickT rfl hb39 rfl) (congrArg AVal.bool hvv44) ?_
          refine GS_p rfl rfl rfl ?_
          obtain ⟨v49, hvv49, hr⟩ := bind_s hr
          rcases cond_s hvv49 with ⟨hb46, hvv49⟩ | ⟨hb46, hvv49⟩
          · skip
            have hkv49 := hr
            have hr := hvv49
            refine GS_p rfl (wt rfl hb46) rfl ?_
            refine GS_h (d := some 48) rfl rfl rfl (wt rfl hb46) (fun _ => rfl) ?_
            obtain ⟨r50, hr50, hr⟩ := bind_s hr
            refine GS_c 13 (wt rfl hb46) rfl rfl (CA_of (as := [.int .i64 i1.op]) rfl (y07 hr50)) ?_
            refine GS_p rfl (wt rfl hb46) rfl ?_
            refine GS_h (d := some 51) rfl rfl rfl (wt rfl hb46) (fun _ => rfl) ?_
            obtain ⟨r51, hr51, hr⟩ := bind_s hr
            refine GS_c 14 (wt rfl hb46) rfl rfl (CA_of (as := [.int .i64 i1.op]) rfl (y0f hr51)) ?_
            refine GS_p rfl (wt rfl hb46) rfl ?_
            replace hvv49 := some_s hr
            have hr := hkv49
            refine GS_v (.bool v49) rfl rfl (evP_pickT rfl hb46 rfl) (congrArg AVal.bool hvv49) ?_
            refine GS_p rfl rfl rfl ?_
            refine GS_nil ?_
            refine L_ret ?_
            have hr := some_s hr
            subst hr
            exact ⟨_, rfl, _, rfl, rfl⟩
          · skip
            refine GS_s (wf rfl hb46) ?_
            refine GS_s (wf rfl hb46) ?_
            refine GS_s (wf rfl hb46) ?_
            refine GS_s (wf rfl hb46) ?_
            refine GS_s (wf rfl hb46) ?_
            refine GS_s (wf rfl hb46) ?_
            refine GS_s (wf rfl hb46) ?_
            replace hvv49 := some_s hvv49
            refine GS_v (.bool v49) rfl rfl (evP_pickF rfl hb46 rfl) (congrArg AVal.bool hvv49) ?_
            refine GS_p rfl rfl rfl ?_
            refine GS_nil ?_
            refine L_ret ?_
            have hr := some_s hr
            subst hr
            exact ⟨_, rfl, _, rfl, rfl⟩
        · skip
          refine GS_s (wf rfl hb39) ?_
          refine GS_s (wf rfl hb39) ?_
          refine GS_s (wf rfl hb39) ?_
          refine GS_s (wf rfl hb39) ?_
          refine GS_s (wf rfl hb39) ?_
          replace hvv44 := some_s hvv44
          refine GS_v (.bool v44) rfl rfl (evP_pickF rfl hb39 rfl) (congrArg AVal.bool hvv44) ?_
          refine GS_p rfl rfl rfl ?_
          obtain ⟨v54, hvv54, hr⟩ := bind_s hr
          rcases cond_s hvv54 with ⟨hb46, hvv54⟩ | ⟨hb46, hvv54⟩
          · skip
            have hkv54 := hr
            have hr := hvv54
            refine GS_p rfl (wt rfl hb46) rfl ?_
            refine GS_h (d := some 48) rfl rfl rfl (wt rfl hb46) (fun _ => rfl) ?_
            obtain ⟨r55, hr55, hr⟩ := bind_s hr
            refine GS_c 13 (wt rfl hb46) rfl rfl (CA_of (as := [.int .i64 i1.op]) rfl (y07 hr55)) ?_
            refine GS_p rfl (wt rfl hb46) rfl ?_
            refine GS_h (d := some 51) rfl rfl rfl (wt rfl hb46) (fun _ => rfl) ?_
            obtain ⟨r56, hr56, hr⟩ := bind_s hr
            refine GS_c 14 (wt rfl hb46) rfl rfl (CA_of (as := [.int .i64 i1.op]) rfl (y0f hr56)) ?_
            refine GS_p rfl (wt rfl hb46) rfl ?_
            replace hvv54 := some_s hr
            have hr := hkv54
            refine GS_v (.bool v54) rfl rfl (evP_pickT rfl hb46 rfl) (congrArg AVal.bool hvv54) ?_
            refine GS_p rfl rfl rfl ?_
            refine GS_nil ?_
            refine L_ret ?_
            have hr := some_s hr
            subst hr
            exact ⟨_, rfl, _, rfl, rfl⟩
          · skip
            refine GS_s (wf rfl hb46) ?_
            refine GS_s (wf rfl hb46) ?_
            refine GS_s (wf rfl hb46) ?_
            refine GS_s (wf rfl hb46) ?_
            refine GS_s (wf rfl hb46) ?_
            refine GS_s (wf rfl hb46) ?_
            refine GS_s (wf rfl hb46) ?_
            replace hvv54 := some_s hvv54
            refine GS_v (.bool v54) rfl rfl (evP_pickF rfl hb46 rfl) (congrArg AVal.bool hvv54) ?_
            refine GS_p rfl rfl rfl ?_
            refine GS_nil ?_
            refine L_ret ?_
            have hr := some_s hr
            subst hr
            exact ⟨_, rfl, _, rfl, rfl⟩
      · skip
        refine GS_s (wf rfl hb36) ?_
        replace hvv41 := some_s hvv41
        refine GS_v (.bool v41) rfl rfl (evP_pickF rfl hb36 rfl) (congrArg AVal.bool hvv41) ?_
        refine GS_p rfl rfl rfl ?_
        obtain ⟨v59, hvv59, hr⟩ := bind_s hr
        rcases cond_s hvv59 with ⟨hb39, hvv59⟩ | ⟨hb39, hvv59⟩
        · skip
          have hkv59 := hr
          have hr := hvv59
          refine GS_h (d := some 40) (v := .agg (cIns i1)) rfl rfl rfl (wt rfl hb39) (fun _ => rfl) ?_
          obtain ⟨r60, hr60, hr⟩ := bind_s hr
          refine GS_c 11 (wt rfl hb39) rfl rfl (CA_of (as := [.agg (cIns i1)]) rfl (y0z hr60)) ?_
          refine GS_h (d := some 42) (v := .agg (cIns i1)) rfl rfl rfl (wt rfl hb39) (fun _ => rfl) ?_
          obtain ⟨r61, hr61, hr⟩ := bind_s hr
          refine GS_c 12 (wt rfl hb39) rfl rfl (CA_of (as := [.agg (cIns i1)]) rfl (y17 hr61)) ?_
          refine GS_p rfl (wt rfl hb39) rfl ?_
          replace hvv59 := some_s hr
          have hr := hkv59
          refine GS_v (.bool v59) rfl rfl (evP_pickT rfl hb39 rfl) (congrArg AVal.bool hvv59) ?_
          refine GS_p rfl rfl rfl ?_
          obtain ⟨v64, hvv64, hr⟩ := bind_s hr
          rcases cond_s hvv64 with ⟨hb46, hvv64⟩ | ⟨hb46, hvv64⟩
          · skip
            have hkv64 := hr
            have hr := hvv64
            refine GS_p rfl (wt rfl hb46) rfl ?_
            refine GS_h (d := some 48) rfl rfl rfl (wt rfl hb46) (fun _ => rfl) ?_
            obtain ⟨r65, hr65, hr⟩ := bind_s hr
            refine GS_c 13 (wt rfl hb46) rfl rfl (CA_of (as := [.int .i64 i1.op]) rfl (y07 hr65)) ?_
            refine GS_p rfl (wt rfl hb46) rfl ?_
            refine GS_h (d := some 51) rfl rfl rfl (wt rfl hb46) (fun _ => rfl) ?_
            obtain ⟨r66, hr66, hr⟩ := bind_s hr
            refine GS_c 14 (wt rfl hb46) rfl rfl (CA_of (as := [.int .i64 i1.op]) rfl (y0f hr66)) ?_
            refine GS_p rfl (wt rfl hb46) rfl ?_
            replace hvv64 := some_s hr
            have hr := hkv64
            refine GS_v (.bool v64) rfl rfl (evP_pickT rfl hb46 rfl) (congrArg AVal.bool hvv64) ?_
            refine GS_p rfl rfl rfl ?_
            refine GS_nil ?_
            refine L_ret ?_
            have hr := some_s hr
            subst hr
            exact ⟨_, rfl, _, rfl, rfl⟩
          · skip
            refine GS_s (wf rfl hb46) ?_
            refine GS_s (wf rfl hb46) ?_
            refine GS_s (wf rfl hb46) ?_
            refine GS_s (wf rfl hb46) ?_
            refine GS_s (wf rfl hb46) ?_
            refine GS_s (wf rfl hb46) ?_
            refine GS_s (wf rfl hb46) ?_
            replace hvv64 := some_s hvv64
            refine GS_v (.bool v64) rfl rfl (evP_pickF rfl hb46 rfl) (congrArg AVal.bool hvv64) ?_
            refine GS_p rfl rfl rfl ?_
            refine GS_nil ?_
            refine L_ret ?_
            have hr := some_s hr
            subst hr
            exact ⟨_, rfl, _, rfl, rfl⟩
        · skip
          refine GS_s (wf rfl hb39) ?_
          refine GS_s (wf rfl hb39) ?_
          refine GS_s (wf rfl hb39) ?_
          refine GS_s (wf rfl hb39) ?_
          refine GS_s (wf rfl hb39) ?_
          replace hvv59 := some_s hvv59
          refine GS_v (.bool v59) rfl rfl (evP_pickF rfl hb39 rfl) (congrArg AVal.bool hvv59) ?_
          refine GS_p rfl rfl rfl ?_
          obtain ⟨v69, hvv69, hr⟩ := bind_s hr
          rcases cond_s hvv69 with ⟨hb46, hvv69⟩ | ⟨hb46, hvv69⟩
          · skip
            have hkv69 := hr
            have hr := hvv69
            refine GS_p rfl (wt rfl hb46) rfl ?_
            refine GS_h (d := some 48) rfl rfl rfl (wt rfl hb46) (fun _ => rfl) ?_
            obtain ⟨r70, hr70, hr⟩ := bind_s hr
            refine GS_c 13 (wt rfl hb46) rfl rfl (CA_of (as := [.int .i64 i1.op]) rfl (y07 hr70)) ?_
            refine GS_p rfl (wt rfl hb46) rfl ?_
            refine GS_h (d := some 51) rfl rfl rfl (wt rfl hb46) (fun _ => rfl) ?_
            obtain ⟨r71, hr71, hr⟩ := bind_s hr
            refine GS_c 14 (wt rfl hb46) rfl rfl (CA_of (as := [.int .i64 i1.op]) rfl (y0f hr71)) ?_
            refine GS_p rfl (wt rfl hb46) rfl ?_
            replace hvv69 := some_s hr
            have hr := hkv69
            refine GS_v (.bool v69) rfl rfl (evP_pickT rfl hb46 rfl) (congrArg AVal.bool hvv69) ?_
            refine GS_p rfl rfl rfl ?_
            refine GS_nil ?_
            refine L_ret ?_
            have hr := some_s hr
            subst hr
            exact ⟨_, rfl, _, rfl, rfl⟩
          · skip
            refine GS_s (wf rfl hb46) ?_
            refine GS_s (wf rfl hb46) ?_
            refine GS_s (wf rfl hb46) ?_
            refine GS_s (wf rfl hb46) ?_
            refine GS_s (wf rfl hb46) ?_
            refine GS_s (wf rfl hb46) ?_
            refine GS_s (wf rfl hb46) ?_
            replace hvv69 := some_s hvv69
            refine GS_v (.bool v69) rfl rfl (evP_pickF rfl hb46 rfl) (congrArg AVal.bool hvv69) ?_
            refine GS_p rfl rfl rfl ?_
            refine GS_nil ?_
            refine L_ret ?_
            have hr := some_s hr
            subst hr
            exact ⟨_, rfl, _, rfl, rfl⟩
end Go.Ev.Seat
namespace Go.Ev.Seat
set_option linter.unusedVariables false
set_option linter.unusedSimpArgs false
open Go Go.Ev
theorem ints_l (b : List Int) : ∀ (rest P : List Int), b = P ++ rest → y05 b rest P.length = some true
  | [], P, h => by rw [y05, y0t]
  | x :: rest, P, h => by
    have := ints_l b rest (P ++ [x]) (by simpa using h)
    have e4 : ((P ++ [x]).length : Nat) = P.length + 1 := by simp
    rw [e4] at this
    have hx : idx b ((P.length : Nat) : Int) = some x := by
      rw [idx_nat, h, List.getElem?_append_right (Nat.le_refl _), Nat.sub_self]; rfl
    rw [y05, hx, Option.bind_some]
    simpa using this
theorem ints_r (a : List Int) (h : a.length < 1000) : y0y a a = some true := by
  unfold y0y
  rw [decide_eq_true rfl, Bool.not_true, cond_false, okLen_of (by omega), cond_true]
  exact ints_l a a [] rfl
theorem op_cases (n : Int) : n < 1 ∨ 19 < n ∨ n = 1 ∨ n = 2 ∨ n = 3 ∨ n = 4 ∨ n = 5 ∨ n = 6 ∨ n = 7 ∨ n = 8 ∨ n = 9 ∨ n = 10 ∨ n = 11 ∨ n = 12 ∨ n = 13 ∨ n = 14 ∨ n = 15 ∨ n = 16 ∨ n = 17 ∨ n = 18 ∨ n = 19 := by omega
theorem con_ok (x : Int) (l : List Int) (h : l.length ≤ 100) : oConcati [[x], l] = some (x :: l) := by
  show (if [x].length + l.length ≤ 1000000 then some ([x] ++ l) else none) = _
  rw [if_pos (by simp; omega)]; rfl
theorem cat_ok (x : Int) (l : List Int) (h : l.length ≤ 100) : catL [x] l = some (x :: l) := by
  rw [catL_of (by simp; omega)]; rfl
theorem name_eq (n : Int) : ∃ s, y0r n = some s ∧ y12 n = some s ∧ (s == []) = (decide (n < 1) || decide (19 < n)) := by
  rcases op_cases n with h | h | h | h | h | h | h | h | h | h | h | h | h | h | h | h | h | h | h | h | h
  · exact ⟨[], by simp [y0r, h], by simp [y12, h], by simp [h]⟩
  · exact ⟨[], by simp [y0r, h], by simp [y12, h], by simp [h]⟩
  all_goals (subst h; exact ⟨_, rfl, rfl, rfl⟩)
theorem reads_eq (i : Ins) (h : i.l.length ≤ 100) : ∃ r, y0i i = some r ∧ y0q i = some r ∧ r.length < 1000 := by
  have hc := con_ok i.a i.l h
  have hd := con_ok i.b i.l h
  have he := cat_ok i.a i.l h
  have hf := cat_ok i.b i.l h
  have hl : okLen i.l = true := okLen_of (by omega)
  rcases op_cases i.op with h1 | h1 | h1 | h1 | h1 | h1 | h1 | h1 | h1 | h1 | h1 | h1 | h1 | h1 | h1 | h1 | h1 | h1 | h1 | h1 | h1
  · have e : ∀ k : Int, 1 ≤ k → decide (i.op = k) = false := fun k hk => by simp; omega
    exact ⟨[], by simp [y0i, y02, y08, y04, y09, y0a, e], by simp [y0q, y03, y0d, y06, y0c, y0b, e], by simp⟩
  · have e : ∀ k : Int, k ≤ 19 → decide (i.op = k) = false := fun k hk => by simp; omega
    exact ⟨[], by simp [y0i, y02, y08, y04, y09, y0a, e], by simp [y0q, y03, y0d, y06, y0c, y0b, e], by simp⟩
  all_goals
    refine ⟨_, by simp [y0i, y02, y08, y04, y09, y0a, h1, hl, hc, hd]; rfl, by simp [y0q, y03, y0d, y06, y0c, y0b, h1, hl, he, hf], ?_⟩
    first | omega | (simp; omega) | simp
theorem goes_eq (i : Ins) : ∃ r, y0g i = some r ∧ y0p i = some r ∧ r.length < 1000 := by
  obtain ⟨s, s1, _, s3⟩ := name_eq i.op
  by_cases h9 : i.op = 9
  · exact ⟨[i.a], by simp [y0g, h9], by simp [y0p, h9], by simp⟩
  by_cases h10 : i.op = 10
  · exact ⟨[-1, i.b], by simp [y0g, h10], by simp [y0p, h10], by simp⟩
  have e1 : ((((decide (i.op < 1) || decide (19 < i.op)) || (decide (i.op = 16))) || (decide (i.op = 17))) || (decide (i.op = 18))) = ((decide (i.op < 1)) || ((decide (15 < i.op)) && (!decide (i.op = 19)))) := by
    rw [Bool.eq_iff_iff]
    simp only [Bool.or_eq_true, Bool.and_eq_true, Bool.not_eq_true', decide_eq_true_eq, decide_eq_false_iff_not]
    omega
  cases hb : ((decide (i.op < 1)) || ((decide (15 < i.op)) && (!decide (i.op = 19)))) with
  | true => exact ⟨[], by rw [y0g, decide_eq_false h9, cond_false, decide_eq_false h10, cond_false, s1, Option.bind_some, s3, e1, hb]; rfl, by rw [y0p, decide_eq_false h9, cond_false, decide_eq_false h10, cond_false, hb]; rfl, by simp⟩
  | false => exact ⟨[-1], by rw [y0g, decide_eq_false h9, cond_false, decide_eq_false h10, cond_false, s1, Option.bind_some, s3, e1, hb]; rfl, by rw [y0p, decide_eq_false h9, cond_false, decide_eq_false h10, cond_false, hb]; rfl, by simp⟩
theorem sets_eq (i : Ins) : ∃ r, y0h i = some r ∧ y0n i = some r := by
  have h : y0h i = y0n i := rfl
  rcases op_cases i.op with h1 | h1 | h1 | h1 | h1 | h1 | h1 | h1 | h1 | h1 | h1 | h1 | h1 | h1 | h1 | h1 | h1 | h1 | h1 | h1 | h1
  · have e : ∀ k : Int, 1 ≤ k → decide (i.op = k) = false := fun k hk => by simp; omega
    exact ⟨-1, by simp [y0h, e], by simp [y0n, e]⟩
  · have e : ∀ k : Int, k ≤ 19 → decide (i.op = k) = false := fun k hk => by simp; omega
    exact ⟨-1, by simp [y0h, e], by simp [y0n, e]⟩
  all_goals exact ⟨_, by simp [y0h, h1]; rfl, by simp [y0n, h1]⟩
theorem asks_t (i : Ins) : y0x i = some true := by
  unfold y0x oAwake
  rw [Option.bind_some]
  by_cases h : 100 < i.l.length
  · rw [decide_eq_true (by omega), cond_true]
  · rw [decide_eq_false (by omega), cond_false]
    obtain ⟨r, r1, r2, r3⟩ := reads_eq i (by omega)
    obtain ⟨g, g1, g2, g3⟩ := goes_eq i
    obtain ⟨s, s1, s2⟩ := sets_eq i
    obtain ⟨m, m1, m2, _⟩ := name_eq i.op
    simp only [r1, r2, g1, g2, s1, s2, m1, m2, Option.bind_some, ints_r r r3, ints_r g g3, cond_true, decide_true, beq_self_eq_true]
theorem asks (i : Ins) : ∃ n, pcall (tabOf tabL) n 3 [vIns i] = some (.ok (.bool true)) := (y2y (asks_t i)).get
end Go.Ev.Seat
namespace Go.Ev
set_option linter.unusedVariables false
set_option linter.unusedSimpArgs false
open Go
def HasT (P : Program) : Nat → TypeId → List AVal → Prop
  | 0, _, _ => False
  | n + 1, t, as => match P.underlying t with
    | some .bool => ∃ b, as = [.bool b]
    | some (.int k) => ∃ i, (Lit.int k i).wf = true ∧ as = [.int k i]
    | some .string => ∃ s : List UInt8, s.length ≤ maxLen ∧ as = [.str s]
    | some (.slice e) => ∃ xs : List AVal, xs.length ≤ maxLen ∧ as = [.lst xs false] ∧ ∀ x, x ∈ xs → HasT P n e x.flat ∧ (aggB P e = some true → ∃ cs, x = .agg cs) ∧ (aggB P e = some false → x.flat = [x])
    | some (.struct fs) => ∃ parts : List (List AVal), parts.length = fs.size ∧ as = parts.flatten ∧ ∀ (i : Nat) (f : Field) (p : List AVal), fs[i]? = some f → parts[i]? = some p → HasT P n f.type p
    | some (.array m e) => ∃ parts : List (List AVal), parts.length = m ∧ as = parts.flatten ∧ ∀ p, p ∈ parts → HasT P n e p
    | some (.pointer e) => as = [.nilp] ∨ ∃ cs, as = [.ro cs] ∧ HasT P n e cs
    | _ => False
def contig (P : Program) : Nat → List Field → Nat → Bool
  | off, [], tot => Nat.beq off tot
  | off, f :: fs, tot => Nat.beq f.offset off && contig P (off + P.cellsOf f.type) fs tot
def plainT (P : Program) (ts : List TypeId) (t : TypeId) : Bool :=
  match P.underlying t with
  | some .bool => true
  | some (.int _) => true
  | some .string => true
  | some (.slice e) => ts.contains e && Nat.ble 1 (P.cellsOf e)
  | some (.struct fs) => contig P 0 fs.toList (P.cellsOf t) && fs.toList.all fun f => ts.contains f.type
  | some (.array m e) => ts.contains e && Nat.beq (P.cellsOf t) (m * P.cellsOf e)
  | some (.pointer e) => ts.contains e && Nat.ble 1 (P.cellsOf e)
  | _ => false
def plainTs (P : Program) (ts : List TypeId) : Bool := ts.all (plainT P ts)
theorem build {α : Type} {Pr : Nat → α → Prop} : ∀ (n : Nat), (∀ i, i < n → ∃ y, Pr i y) → ∃ l : List α, l.length = n ∧ ∀ (i : Nat) (y : α), l[i]? = some y → Pr i y
  | 0, _ => ⟨[], rfl, by simp⟩
  | n + 1, h => by
    obtain ⟨l, h1, h2⟩ := build n (fun i hi => h i (by omega))
    obtain ⟨y, hy⟩ := h n (by omega)
    refine ⟨l ++ [y], by simp [h1], ?_⟩
    intro i z hz
    by_cases hi : i < l.length
    · rw [List.getElem?_append_left hi] at hz; exact h2 i z hz
    · rw [List.getElem?_append_right (by omega)] at hz
      have : i = n := by
        have := (List.getElem?_eq_some_iff.1 hz).1
        simp at this; omega
      subst this
      simp [h1] at hz; subst hz; exact hy
def scal : AVal → Bool
  | .agg _ => false
  | .tup _ => false
  | _ => true
def Flat1 (c : AVal) : Prop := rfree c ∧ scal c = true
theorem Flat1.flat {c : AVal} (h : Flat1 c) : c.flat = [c] := by
  have := h.2
  cases c <;> simp [scal] at this <;> rfl
theorem Flat1.one {Γ : Gh} {c : AVal} {d : Value} (h : Flat1 c) (hr : Rep Γ c d) : d.oneCell' = true := by
  have := h.2
  cases hr <;> first | rfl | (simp [scal] at this; done)
section
variable {H : Type} {enc : TypeId × Value → H} {P : Program} {w : World}
theorem y0v {Γ : Gh} : ∀ {parts : List (List AVal)} {cparts : List (List Value)}, parts.length = cparts.length → (∀ (i : Nat) (p : List AVal) (c : List Value), parts[i]? = some p → cparts[i]? = some c → Reps Γ p c) → Reps Γ parts.flatten cparts.flatten
  | [], [], _, _ => Reps.nil Γ
  | p :: ps, c :: cs, hl, h => by
    simp only [List.flatten_cons]
    exact (h 0 p c rfl rfl).append (y0v (by simpa using hl) fun i p c h1 h2 => h (i + 1) p c (by simpa using h1) (by simpa using h2))
  | [], _ :: _, hl, _ => by simp at hl
  | _ :: _, [], hl, _ => by simp at hl
theorem y2o : ∀ {fs : List Field} {off tot : Nat} {cs : List Value}, contig P off fs tot = true → cs.length = tot → (fs.map fun f => (cs.drop f.offset).take (P.cellsOf f.type)).flatten = cs.drop off
  | [], off, tot, cs, h, hl => by
    have := Nat.eq_of_beq_eq_true (by simpa [contig] using h)
    simp; omega
  | f :: fs, off, tot, cs, h, hl => by
    simp only [contig, Bool.and_eq_true] at h
    have h1 := Nat.eq_of_beq_eq_true h.1
    simp only [List.map_cons, List.flatten_cons]
    rw [y2o h.2 hl, h1, ← List.drop_drop, List.take_append_drop]
theorem y33 {z : Nat} : ∀ {m : Nat} {cs : List Value}, cs.length = m * z → ((List.range m).map fun i => (cs.drop (i * z)).take z).flatten = cs
  | 0, cs, hl => by
    have : cs = [] := List.length_eq_zero_iff.1 (by omega)
    simp [this]
  | m + 1, cs, hl => by
    rw [List.range_succ_eq_map, List.map_cons, List.flatten_cons, List.map_map]
    have h := y33 (z := z) (m := m) (cs := cs.drop z) (by simp [hl, Nat.add_mul])
    have e : ((fun i => (cs.drop (i * z)).take z) ∘ Nat.succ) = fun i => ((cs.drop z).drop (i * z)).take z := by
      funext i
      simp only [Function.comp, List.drop_drop, Nat.succ_eq_add_one, Nat.add_mul, Nat.one_mul]
      rw [Nat.add_comm]
    rw [e, h]
    simp
def mkEl (b : Option Bool) (p : List AVal) : AVal := match b with
  | some false => p.headD .nilp
  | _ => .agg p
theorem y5f {b : Option Bool} {p : List AVal} (h : ∀ c, c ∈ p → rfree c) : rfree (mkEl b p) := by
  unfold mkEl
  split
  · cases p with
    | nil => rfl
    | cons c cs => exact h c (by simp)
  · exact lowL_iff.2 h
theorem y27 {ts : List TypeId} (hp : plainTs P ts = true) {n : Nat} {e : TypeId} {p : List AVal} (he : e ∈ ts) (ha : aggB P e = some false) (h : HasT P n e p) : ∃ c, p = [c] := by
  cases n with
  | zero => cases h
  | succ n =>
    unfold aggB at ha
    unfold HasT at h
    cases hu : P.underlying e with
    | none => rw [hu] at h; cases h
    | some u =>
      rw [hu] at h ha
      cases u <;> simp only [reduceCtorEq] at h ha <;> first | (cases ha; done) | (cases h; done) | skip
      · obtain ⟨b, rfl⟩ := h; exact ⟨_, rfl⟩
      · obtain ⟨i, _, rfl⟩ := h; exact ⟨_, rfl⟩
      · obtain ⟨b, _, rfl⟩ := h; exact ⟨_, rfl⟩
      · rcases h with rfl | ⟨cs, rfl, _⟩ <;> exact ⟨_, rfl⟩
      · obtain ⟨xs, _, rfl, _⟩ := h; exact ⟨_, rfl⟩
theorem mkEl_flat {ts : List TypeId} (hp : plainTs P ts = true) {n : Nat} {e : TypeId} {p : List AVal} (he : e ∈ ts) (h : HasT P n e p) (hf : ∀ c, c ∈ p → Flat1 c) : (mkEl (aggB P e) p).flat = p := by
  unfold mkEl
  split
  · rename_i ha
    obtain ⟨c, rfl⟩ := y27 hp he ha h
    exact (hf c (by simp)).flat
  · rfl
theorem y3m {b : Option Bool} : ∀ {parts : List (List AVal)}, (∀ p, p ∈ parts → (mkEl b p).flat = p) → flatL (parts.map (mkEl b)) = parts.flatten
  | [], _ => rfl
  | p :: ps, h => by
    simp only [List.map_cons, flatL, List.flatten_cons, h p (by simp)]
    rw [y3m fun q hq => h q (by simp [hq])]
theorem y3a {α : Type} {z : Nat} (hz : 0 < z) : ∀ {parts : List (List α)} {j : Nat} {c : α}, (∀ p, p ∈ parts → p.length = z) → parts.flatten[j]? = some c → ∃ p, parts[j / z]? = some p ∧ p[j % z]? = some c
  | [], j, c, _, h => by simp at h
  | p :: ps, j, c, hl, h => by
    have hp := hl p (by simp)
    rw [List.flatten_cons] at h
    by_cases hj : j < z
    · rw [List.getElem?_append_left (by omega)] at h
      rw [Nat.div_eq_of_lt hj, Nat.mod_eq_of_lt hj]
      exact ⟨p, rfl, h⟩
    · rw [List.getElem?_append_right (by omega), hp] at h
      obtain ⟨q, h1, h2⟩ := y3a hz (fun q hq => hl q (by simp [hq])) h
      have e1 : j / z = (j - z) / z + 1 := by
        rw [← Nat.add_div_right _ hz]; congr 1; omega
      have e2 : j % z = (j - z) % z := by
        rw [Nat.mod_eq_sub_mod (by omega)]
      exact ⟨q, by rw [e1]; exact h1, by rw [e2]; exact h2⟩
theorem trod_has {ts : List TypeId} (hp : plainTs P ts = true) : ∀ (n : Nat) (t : TypeId) (cs : List Value) (x : DataW H × List MemPlace), t ∈ ts → DataW.trod enc P w 0 (fun _ => true) true n t cs = some x →
    ∃ as : List AVal, Reps (Gh.all w) as cs ∧ HasT P n t as ∧ ∀ c, c ∈ as → Flat1 c := by
  intro n
  induction n with
  | zero => intro t cs x _ h; simp [DataW.trod] at h
  | succ n ih =>
    intro t cs x ht h
    have hpt := List.all_eq_true.1 hp t ht
    unfold plainT at hpt
    have hT : ∀ as, HasT P (n + 1) t as = HasT P (n + 1) t as := fun _ => rfl
    have single : ∀ (a : AVal) (v : Value), cs = [v] → Rep (Gh.all w) a v → Flat1 a → ∀ Q : List AVal → Prop, Q [a] → ∃ as : List AVal, Reps (Gh.all w) as cs ∧ Q as ∧ ∀ c, c ∈ as → Flat1 c := by
      rintro a v rfl hr hf Q hQ
      exact ⟨[a], Reps.cons hr (Reps.nil _), hQ, by simpa using hf⟩
    split at hpt
    · rename_i hu
      obtain ⟨b, hc, _⟩ := DataW.trod_bool hu h
      simp only [HasT, hu]
      exact single (.bool b) _ hc (.bool b) ⟨rfl, rfl⟩ _ ⟨b, rfl⟩
    · rename_i k hu
      obtain ⟨i, hc, _, hw⟩ := DataW.trod_int hu h
      simp only [HasT, hu]
      exact single (.int k i) _ hc (.int k i) ⟨rfl, rfl⟩ _ ⟨i, hw, rfl⟩
    · rename_i hu
      obtain ⟨s, hc, _, hl⟩ := DataW.trod_string hu h
      simp only [HasT, hu]
      refine single (.str s.data.toList) _ hc ?_ ⟨rfl, rfl⟩ _ ⟨s.data.toList, by rw [Array.length_toList]; exact hl, rfl⟩
      have := Rep.str (Γ := Gh.all w) s.data.toList
      simpa using this
    · rename_i e hu
      simp only [Bool.and_eq_true] at hpt
      have hz : 1 ≤ P.cellsOf e := Nat.le_of_ble_eq_true hpt.2
      have he : e ∈ ts := by simpa using hpt.1
      simp only [HasT, hu]
      rcases DataW.trod_slice hu h with ⟨hc, _⟩ | ⟨a, len, cap, elems, rest, m, hm, hc, _, _, hlc, hmax, hel, hget, _, _⟩
      · exact single (.lst [] false) _ hc (.lstN false) ⟨rfl, rfl⟩ _ ⟨[], by simp, rfl, by simp⟩
      · cases hm
        have each : ∀ i, i < len → ∃ p : List AVal, ∃ ds : List Value, p.length = P.cellsOf e ∧ Reps (Gh.all w) p ds ∧ HasT P n e p ∧ (∀ c, c ∈ p → Flat1 c) ∧ ∀ j, j < P.cellsOf e → w.cell? ((a.add (i * P.cellsOf e)).add j) = ds[j]? := by
          intro i hi
          have h1 := hget i hi
          have hx : elems[i]? = some elems[i] := List.getElem?_eq_getElem (by omega)
          rw [hx] at h1
          obtain ⟨cs', hc1, hc2⟩ := Option.bind_eq_some_iff.1 h1
          obtain ⟨p, h2, h3, h4⟩ := ih e cs' elems[i] he hc2
          obtain ⟨_, hl, hcell⟩ := World.cells?_some hc1
          exact ⟨p, cs', by rw [← h2.1, hl], h2, h3, h4, hcell⟩
        obtain ⟨parts, hpl, hpe⟩ := build len each
        rcases Nat.eq_zero_or_pos len with hl0 | hpos
        · subst hl0
          exact single (.lst [] false) _ hc (.lstE (by simp)) ⟨rfl, rfl⟩ _ ⟨[], by simp, rfl, by simp⟩
        · obtain ⟨blk, off, spot⟩ := a
          have hspot : spot = none := by
            obtain ⟨p, ds, q1, q2, _, _, q3⟩ := each 0 hpos
            have h0 := q3 0 hz
            rw [Nat.zero_mul, Addr.add_zero', Addr.add_zero'] at h0
            cases hx : ds[0]? with
            | none => have := (List.getElem?_eq_none_iff.1 hx); have := q2.1; omega
            | some v => rw [hx] at h0; exact World.cell?_spot h0
          subst hspot
          refine single (.lst (parts.map (mkEl (aggB P e))) false) _ hc ?_ ⟨?_, rfl⟩ _ ⟨parts.map (mkEl (aggB P e)), by simpa [hpl] using Nat.le_trans hlc hmax, rfl, ?_⟩
          · have hfl : ∀ p, p ∈ parts → (mkEl (aggB P e) p).flat = p := by
              intro p hp1
              obtain ⟨i, hi⟩ := List.getElem?_of_mem hp1
              obtain ⟨ds, q1, q2, q3, q4, q5⟩ := hpe i p hi
              exact mkEl_flat hp he q3 q4
            have hlens : ∀ p, p ∈ parts → p.length = P.cellsOf e := by
              intro p hp1
              obtain ⟨i, hi⟩ := List.getElem?_of_mem hp1
              obtain ⟨ds, q1, _⟩ := hpe i p hi
              exact q1
            have hall : ∀ (j : Nat) (c : AVal), parts.flatten[j]? = some c → ∃ d, w.cell? ⟨blk, off + j, none⟩ = some d ∧ Rep (Gh.all w) c d ∧ Flat1 c := by
              intro j c hj
              obtain ⟨p, hp1, hp2⟩ := y3a hz hlens hj
              obtain ⟨ds, q1, q2, q3, q4, q5⟩ := hpe _ p hp1
              obtain ⟨d, hd, hr⟩ := q2.get hp2
              refine ⟨d, ?_, hr, q4 c (List.mem_of_getElem? hp2)⟩
              have h6 := q5 (j % P.cellsOf e) (Nat.mod_lt _ hz)
              rw [Addr.add_lit, Addr.add_lit] at h6
              rw [← hd, ← h6]
              congr 2
              rw [Nat.add_assoc, Nat.mul_comm, Nat.div_add_mod]
            have hflat : flatL (parts.map (mkEl (aggB P e))) = parts.flatten := y3m hfl
            have hlen2 : (parts.map (mkEl (aggB P e))).length = len := by simp [hpl]
            have key := Rep.lst (Γ := Gh.all w) (xs := parts.map (mkEl (aggB P e))) (e := false) (g := blk) (off := off) (cap := cap) (es := P.cellsOf e) (fun j => (w.cell? ⟨blk, off + j, none⟩).getD undef) (by omega) (by simp) ?_ ?_ ?_ ?_ ?_
            · rw [hlen2] at key; exact key
            · intro x hx
              obtain ⟨p, hp1, rfl⟩ := List.mem_map.1 hx
              simp only [AVal.width, hfl p hp1, hlens p hp1]
            · intro x hx
              obtain ⟨p, hp1, rfl⟩ := List.mem_map.1 hx
              obtain ⟨i, hi⟩ := List.getElem?_of_mem hp1
              obtain ⟨ds, q1, q2, q3, q4, q5⟩ := hpe i p hi
              exact y5f (fun c hc => (q4 c hc).1)
            · intro j c hj
              rw [hflat] at hj
              obtain ⟨d, h1, h2, h3⟩ := hall j c hj
              simp only [Gh.all, h1, Option.getD_some]
            · intro j c hj
              rw [hflat] at hj
              obtain ⟨d, h1, h2, h3⟩ := hall j c hj
              simp only [h1, Option.getD_some]
              exact h3.one h2
            · intro j c hj
              rw [hflat] at hj
              obtain ⟨d, h1, h2, h3⟩ := hall j c hj
              simp only [h1, Option.getD_some]
              exact h2
          · rfl
          · intro x hx
            obtain ⟨p, hp1, rfl⟩ := List.mem_map.1 hx
            obtain ⟨i, hi⟩ := List.getElem?_of_mem hp1
            obtain ⟨ds, q1, q2, q3, q4, q5⟩ := hpe i p hi
            have hf := mkEl_flat hp he q3 q4
            refine ⟨by rw [hf]; exact q3, ?_, ?_⟩
            · intro h; exact ⟨p, by rw [h]; rfl⟩
            · intro h
              rw [hf]
              obtain ⟨c, hc1⟩ := y27 hp he h q3
              rw [hc1, h]; rfl
    · rename_i fs hu
      simp only [Bool.and_eq_true] at hpt
      simp only [HasT, hu]
      obtain ⟨xs, m, hm, _, hlen, hxl, hget⟩ := DataW.trod_struct hu h
      cases hm
      have each : ∀ i, i < fs.size → ∃ p : List AVal, ∀ f, fs[i]? = some f → Reps (Gh.all w) p ((cs.drop f.offset).take (P.cellsOf f.type)) ∧ HasT P n f.type p ∧ ∀ c, c ∈ p → Flat1 c := by
        intro i hi
        have hfi : fs[i]? = some fs[i] := Array.getElem?_eq_getElem hi
        have hx : xs[i]? = some xs[i] := List.getElem?_eq_getElem (by omega)
        have hmem : fs[i].type ∈ ts := by
          have := List.all_eq_true.1 hpt.2 fs[i] (by simp)
          simpa using this
        obtain ⟨p, h1, h2, h3⟩ := ih fs[i].type _ xs[i] hmem (by rw [hget i _ hfi, hx])
        exact ⟨p, fun f hf => by rw [hfi] at hf; cases hf; exact ⟨h1, h2, h3⟩⟩
      obtain ⟨parts, hpl, hpe⟩ := build fs.size each
      refine ⟨parts.flatten, ?_, ⟨parts, hpl, rfl, fun i f p hf hp => ((hpe i p hp) f hf).2.1⟩, ?_⟩
      · have := y2o (cs := cs) hpt.1 hlen
        rw [List.drop_zero] at this
        rw [← this]
        refine y0v (by simp [hpl]) ?_
        intro i p c h1 h2
        rw [List.getElem?_map, Option.map_eq_some_iff] at h2
        obtain ⟨f, hf, rfl⟩ := h2
        exact ((hpe i p h1) f (by simpa using hf)).1
      · intro c hc
        obtain ⟨p, hp1, hp2⟩ := List.mem_flatten.1 hc
        obtain ⟨i, hi⟩ := List.getElem?_of_mem hp1
        have hlt : i < fs.size := by rw [← hpl]; exact (List.getElem?_eq_some_iff.1 hi).1
        exact ((hpe i p hi) fs[i] (Array.getElem?_eq_getElem hlt)).2.2 c hp2
    · rename_i m e hu
      simp only [Bool.and_eq_true] at hpt
      simp only [HasT, hu]
      have he : e ∈ ts := by simpa using hpt.1
      have hsz := Nat.eq_of_beq_eq_true hpt.2
      obtain ⟨xs, k, hm, _, hlen, hxl, hget⟩ := DataW.trod_array hu h
      cases hm
      have each : ∀ i, i < m → ∃ p : List AVal, Reps (Gh.all w) p ((cs.drop (i * P.cellsOf e)).take (P.cellsOf e)) ∧ HasT P n e p ∧ ∀ c, c ∈ p → Flat1 c := by
        intro i hi
        have hx : xs[i]? = some xs[i] := List.getElem?_eq_getElem (by omega)
        exact ih e _ xs[i] he (by rw [hget i hi, hx])
      obtain ⟨parts, hpl, hpe⟩ := build m each
      refine ⟨parts.flatten, ?_, ⟨parts, hpl, rfl, ?_⟩, ?_⟩
      · have := y33 (z := P.cellsOf e) (m := m) (cs := cs) (by omega)
        rw [← this]
        refine y0v (by simp [hpl]) ?_
        intro i p c h1 h2
        rw [List.getElem?_map, Option.map_eq_some_iff] at h2
        obtain ⟨j, hj, rfl⟩ := h2
        have hji : j = i := by
          have := List.getElem?_eq_some_iff.1 hj
          obtain ⟨hj1, hj2⟩ := this
          simp at hj2; omega
        subst hji
        exact (hpe j p h1).1
      · intro p hp1
        obtain ⟨i, hi⟩ := List.getElem?_of_mem hp1
        exact (hpe i p hi).2.1
      · intro c hc
        obtain ⟨p, hp1, hp2⟩ := List.mem_flatten.1 hc
        obtain ⟨i, hi⟩ := List.getElem?_of_mem hp1
        exact (hpe i p hi).2.2 c hp2
    · rename_i e hu
      simp only [Bool.and_eq_true] at hpt
      simp only [HasT, hu]
      have hz : 1 ≤ P.cellsOf e := Nat.le_of_ble_eq_true hpt.2
      have he : e ∈ ts := by simpa using hpt.1
      rcases DataW.trod_pointer hu h with ⟨hc, _⟩ | ⟨a, cs', y, m, hm, hc, _, hcells, hy⟩
      · exact single .nilp _ hc .nilp ⟨rfl, rfl⟩ _ (.inl rfl)
      · cases hm
        obtain ⟨p, h1, h2, h3⟩ := ih e cs' y he hy
        obtain ⟨hb, hl, hcell⟩ := World.cells?_some hcells
        have hspot : a.spot = none := by
          have h0 := hcell 0 (by omega)
          rw [Addr.add_zero'] at h0
          cases hx : cs'[0]? with
          | none => have := (List.getElem?_eq_none_iff.1 hx); omega
          | some v => rw [hx] at h0; exact World.cell?_spot h0
        obtain ⟨blk, off, spot⟩ := a
        simp only at hspot
        subst hspot
        refine single (.ro p) _ hc ?_ ⟨rfl, rfl⟩ _ (.inr ⟨p, rfl, h2⟩)
        have hd : ∀ (j : Nat) (c : AVal), p[j]? = some c → ∃ d, cs'[j]? = some d ∧ Rep (Gh.all w) c d ∧ w.cell? ⟨blk, off + j, none⟩ = some d := by
          intro j c hj
          obtain ⟨d, hd, hr⟩ := h1.get hj
          have hlt := (List.getElem?_eq_some_iff.1 hd).1
          refine ⟨d, hd, hr, ?_⟩
          have := hcell j (by omega)
          rw [Addr.add_lit] at this
          rw [this]; exact hd
        refine .ro (fun j => cs'.getD j undef) (fun c hc => (h3 c hc).1) ?_ ?_ ?_
        · intro j c hj
          obtain ⟨d, hd1, hr, hd2⟩ := hd j c hj
          simp only [Gh.all, hd2, List.getD, hd1, Option.getD_some]
        · intro j c hj
          obtain ⟨d, hd1, hr, hd2⟩ := hd j c hj
          simp only [List.getD, hd1, Option.getD_some]
          exact (h3 c (List.mem_of_getElem? hj)).one hr
        · intro j c hj
          obtain ⟨d, hd1, hr, hd2⟩ := hd j c hj
          simp only [List.getD, hd1, Option.getD_some]
          exact hr
    · cases hpt
end
section
variable {H : Type} {enc : TypeId × Value → H} {P : Program} {w : World}
theorem y5c {ts : List TypeId} (hp : plainTs P ts = true) {t : TypeId} {v : Value} {base : Nat} (ht : t ∈ ts) (ha : aggB P t = some false) (hok : Value.okWide P w .any base t v) : v.cells.toList = [v] := by
  have hpt := List.all_eq_true.1 hp t ht
  cases v <;> first | rfl | skip
  exfalso
  unfold aggB at ha
  unfold plainT at hpt
  unfold Value.okWide Cell.okWide Cell.ok at hok
  cases hu : P.underlying t with
  | none => rw [hu] at ha; cases ha
  | some u => rw [hu] at ha hpt hok; cases u <;> simp_all
theorem arg_has {ts : List TypeId} (hp : plainTs P ts = true) {t : TypeId} {v : Value} {d : DataW H} {ps : List MemPlace} {base : Nat} (ht : t ∈ ts) (hok : Value.okWide P w .any base t v)
    (h : DataW.Trod enc P w 0 (fun _ => true) true t v d ps) : ∃ (n : Nat) (as : List AVal), HasT P n t as ∧ (aggB P t = some true → Rep (Gh.all w) (.agg as) v) ∧ (aggB P t = some false → ∃ c, as = [c] ∧ Rep (Gh.all w) c v) := by
  obtain ⟨n, hf⟩ := h
  obtain ⟨as, h1, h2, h3⟩ := trod_has hp n t _ _ ht hf
  refine ⟨n, as, h2, ?_, ?_⟩
  · intro ha
    have hv : ∃ cs, v = .agg cs := by
      unfold Value.okWide at hok
      unfold aggB at ha
      cases hu : P.underlying t with
      | none => rw [hu] at ha; cases ha
      | some u =>
        rw [hu] at ha hok
        cases u <;> simp only [reduceCtorEq, Option.some.injEq, Bool.false_eq_true] at ha
        · obtain ⟨cs, hcs, _⟩ := hok; exact ⟨cs, hcs⟩
        · obtain ⟨cs, hcs, _⟩ := hok; exact ⟨cs, hcs⟩
    obtain ⟨cs, rfl⟩ := hv
    have e : (Value.agg cs).cells.toList = cs.toList := rfl
    rw [e] at h1
    have := Rep.agg (Γ := Gh.all w) h1.1 h1.2 (fun d hd => by
      obtain ⟨i, hi⟩ := List.getElem?_of_mem hd
      have hlt : i < as.length := by rw [← h1.1]; exact (List.getElem?_eq_some_iff.1 hi).1
      have ha' := List.getElem?_eq_getElem hlt
      exact (h3 _ (List.mem_of_getElem? ha')).one (h1.2 i _ _ ha' hi))
    simpa using this
  · intro ha
    have hc := y5c hp ht ha hok
    rw [hc] at h1
    obtain ⟨c, rfl⟩ := y27 hp ht ha h2
    exact ⟨c, rfl, h1.2 0 c v rfl rfl⟩
end
end Go.Ev
namespace Go.Ev
set_option linter.unusedVariables false
set_option linter.unusedSimpArgs false
open Go
theorem dec_list {α : Type} {enc : α → AVal} {Q : α → Prop} : ∀ {xs : List AVal}, (∀ x, x ∈ xs → ∃ y, x = enc y ∧ Q y) → ∃ ys : List α, xs = ys.map enc ∧ ∀ y, y ∈ ys → Q y
  | [], _ => ⟨[], rfl, by simp⟩
  | x :: xs, h => by
    obtain ⟨y, rfl, hy⟩ := h x (by simp)
    obtain ⟨ys, rfl, hys⟩ := dec_list (xs := xs) (fun z hz => h z (List.mem_cons_of_mem _ hz))
    exact ⟨y :: ys, rfl, by simpa using ⟨hy, hys⟩⟩
theorem HasT.int_of {P : Program} {n : Nat} {t : TypeId} {k : IntKind} {as : List AVal} (hu : P.underlying t = some (.int k)) (h : HasT P n t as) : ∃ i, (Lit.int k i).wf = true ∧ as = [.int k i] := by
  cases n with
  | zero => cases h
  | succ n => unfold HasT at h; rw [hu] at h; exact h
theorem HasT.slice_of {P : Program} {n : Nat} {t e : TypeId} {as : List AVal} (hu : P.underlying t = some (.slice e)) (h : HasT P (n + 1) t as) :
    ∃ xs : List AVal, xs.length ≤ maxLen ∧ as = [.lst xs false] ∧ ∀ x, x ∈ xs → HasT P n e x.flat ∧ (aggB P e = some true → ∃ cs, x = .agg cs) ∧ (aggB P e = some false → x.flat = [x]) := by
  unfold HasT at h; rw [hu] at h; exact h
theorem HasT.struct_of {P : Program} {n : Nat} {t : TypeId} {fs : Array Field} {l : List TypeId} {as : List AVal} (hu : P.underlying t = some (.struct fs)) (hl : fs.toList.map (·.type) = l) (h : HasT P (n + 1) t as) :
    ∃ parts : List (List AVal), parts.length = l.length ∧ as = parts.flatten ∧ ∀ (i : Nat) (u : TypeId) (p : List AVal), l[i]? = some u → parts[i]? = some p → HasT P n u p := by
  unfold HasT at h; rw [hu] at h
  obtain ⟨parts, h1, h2, h3⟩ := h
  refine ⟨parts, by rw [h1, ← hl]; simp, h2, ?_⟩
  intro i u p hu hp
  rw [← hl, List.getElem?_map, Option.map_eq_some_iff] at hu
  obtain ⟨f, hf, rfl⟩ := hu
  exact h3 i f p (by simpa using hf) hp
end Go.Ev
