/-
  Part 7 of a proof: ModuleKeeps: for every input the law returns true, and what it was given reads behind the call as before. No conditions beyond the row's own.
-/
import Derived.Test.YtpldpnbnhfcklaaGreatDoorP6
import Derived.OpenShut
namespace Go.Ev.Seat
set_option linter.unusedVariables false
set_option linter.unusedSimpArgs false
open Go Go.Ev
set_option maxRecDepth 20000
attribute [local irreducible] pcall callF
noncomputable def y14 : Option Bool :=
  some true
noncomputable def y09 (rec : Vl → Int → Option Bool) (left2 : Int) : List Vl → Nat → Option Bool
  | [], _ => y14
  | y32 :: rest34, i33 => ((rec y32 (IntKind.wrap .i64 (left2 - 1))).bind fun r36 => (cond (!r36) (some false) ((y09 rec left2 rest34 (i33 + 1)))))
noncomputable def y0x (rec : Vl → Int → Option Bool) (v1 : Vl) (left2 : Int) : Option Bool :=
  (cond ((decide (left2 = 0)) || (decide (10 < ((List.length v1.of : Nat) : Int)))) (some false) (cond (okLen v1.of) (y09 rec left2 v1.of 0) none))
abbrev kg11 (v1 : Vl) : ABlock := .cells [.int .i64 v1.tag, .lst (List.map encVl v1.of) false]
theorem y3w {rec : Vl → Int → Option Bool} {v1 : Vl} {left2 : Int} {r : Bool} (hrec : ∀ (a0 : Vl) (a1 : Int) (r : Bool), rec a0 a1 = some r → PRes (tabOf tabL) 16 [.agg (cVl a0), .int .i64 a1] (.bool r)) (hr : y0x rec v1 left2 = some r) : PRes (tabOf tabL) 16 [.agg (cVl v1), .int .i64 left2] (.bool r) := by
  refine pres_fin t16 ?_
  unfold y0x at hr
  refine L_seq ?_
  refine L_stmt ?_
  refine L_reg ?_
  refine G_n (B := (kg11 v1)) rfl rfl rfl ?_
  refine G_p rfl rfl rfl ?_
  refine G_nil ?_
  refine L_nil ?_
  refine Sm_norm (e2 := [(1, .int .i64 left2), (2, .ptr 0 0)]) (H1 := [(kg11 v1)]) (H2 := [(kg11 v1)]) rfl (by repeat (first | exact rzz | apply rcc rfl | apply rnn rfl)) rfl (?_ : GL _ _ _ _ _)
  refine L_seq ?_
  refine L_stmt ?_
  refine L_seq ?_
  refine L_stmt ?_
  refine L_reg ?_
  refine G_p rfl rfl rfl ?_
  refine G_p rfl rfl rfl ?_
  refine G_p rfl rfl rfl ?_
  refine G_or (f := (decide (10 < ((List.length v1.of : Nat) : Int)))) [_, _, _, _] rfl rfl ?_ ?_
  · intro hb8
    refine G_p rfl rfl rfl ?_
    refine G_h (v := .lst (List.map encVl v1.of) false) rfl rfl rfl (fun _ => rfl) ?_
    refine G_h rfl rfl rfl (lenL_ev rfl (List.length_map _)) ?_
    refine G_p rfl rfl rfl ?_
    exact G_nil (L_nil ⟨rfl, rfl, rfl⟩)
  · intro vs hvs
    obtain ⟨u9, u10, u11, u12, rfl⟩ := len4 hvs
    dsimp only [junk]
    refine G_nil ?_
    refine L_nil ?_
    refine Sm_norm (e2 := [(1, .int .i64 left2), (2, .ptr 0 0), (13, .bool ((decide (left2 = 0)) || (decide (10 < ((List.length v1.of : Nat) : Int)))))]) (H1 := [(kg11 v1)]) (H2 := [(kg11 v1)]) rfl (by repeat (first | exact rzz | apply rcc rfl | apply rnn rfl)) rfl (?_ : GL _ _ _ _ _)
    rcases cond_s hr with ⟨hc13, hr⟩ | ⟨hc13, hr⟩
    · refine L_T rfl hc13 ?_
      refine L_seq ?_
      refine L_reg ?_
      refine G_p rfl rfl rfl ?_
      refine G_nil ?_
      refine L_ret ?_
      refine Sm_ret ?_
      have hr := some_s hr
      subst hr
      exact ⟨_, rfl, _, rfl, rfl⟩
    · refine L_F rfl hc13 ?_
      refine L_skip ?_
      refine L_nil ?_
      refine Sm_norm (e2 := [(1, .int .i64 left2), (2, .ptr 0 0)]) (H1 := [(kg11 v1)]) (H2 := [(kg11 v1)]) rfl (by repeat (first | exact rzz | apply rcc rfl | apply rnn rfl)) rfl (?_ : GL _ _ _ _ _)
      refine L_seq ?_
      refine L_stmtJ (S := Unit) (fun s => []) (fun s => [(kg11 v1)]) (fun s => y14 = some r) ?_ ?_
      · skip
        refine L_seq ?_
        refine L_stmt ?_
        refine L_reg ?_
        refine G_p rfl rfl rfl ?_
        refine G_nil ?_
        refine L_nil ?_
        refine Sm_norm (e2 := [(1, .int .i64 left2), (2, .ptr 0 0), (5, .int .i64 0)]) (H1 := [(kg11 v1)]) (H2 := [(kg11 v1)]) rfl (by repeat (first | exact rzz | apply rcc rfl | apply rnn rfl)) rfl (?_ : GL _ _ _ _ _)
        refine L_block ?_
        obtain ⟨hLq31, hr⟩ := guard_s hr
        replace hLq31 := okLen_s hLq31
        refine L_range (X := Vl) (S := Unit) v1.of (fun i33 s => [(5, .int .i64 ((i33 : Nat) : Int)), (1, .int .i64 left2), (2, .ptr 0 0)]) (fun i33 s => [(kg11 v1)]) (fun rest i33 s => y09 rec left2 rest i33 = some r) (()) ?_ rfl hr ?_ ?_
        · show restr _ _ = [(5, .int .i64 ((0 : Nat) : Int)), (1, .int .i64 left2), (2, .ptr 0 0)]
          (repeat (first | exact rzz | apply rcc rfl | apply rnn rfl))
        · rintro ⟨⟩ hr
          show GL _ _ [(5, .int .i64 (((List.length v1.of) : Nat) : Int)), (1, .int .i64 left2), (2, .ptr 0 0)] [(kg11 v1)] _
          replace hr : y09 rec left2 [] (List.length v1.of) = some r := hr
          rw [y09] at hr
          refine L_seq ?_
          refine L_stmt ?_
          refine L_seq ?_
          refine L_stmt ?_
          refine L_reg ?_
          refine G_p rfl rfl rfl ?_
          refine G_p rfl rfl rfl ?_
          refine G_h (v := .lst (List.map encVl v1.of) false) rfl rfl rfl (fun _ => rfl) ?_
          refine G_h rfl rfl rfl (lenL_ev rfl (List.length_map _)) ?_
          refine G_v (.bool false) rfl rfl rfl (congrArg AVal.bool (decide_eq_false (by omega))) ?_
          refine G_nil ?_
          refine L_nil ?_
          refine Sm_norm (e2 := [(1, .int .i64 left2), (2, .ptr 0 0), (5, .int .i64 ((List.length v1.of : Nat) : Int)), (18, .bool false)]) (H1 := [(kg11 v1)]) (H2 := [(kg11 v1)]) rfl (by repeat (first | exact rzz | apply rcc rfl | apply rnn rfl)) rfl (?_ : GL _ _ _ _ _)
          refine L_F rfl rfl ?_
          refine L_exit ?_
          refine Sm_exit ?_
          refine Rd_exit ?_
          refine Blk_exit (?_ : GL _ _ _ _ _)
          refine L_nil ?_
          exact Sm_norm (e2 := []) (H1 := [(kg11 v1)]) (H2 := [(kg11 v1)]) rfl (by repeat (first | exact rzz | apply rcc rfl | apply rnn rfl)) rfl ⟨(), rfl, rfl, hr⟩
        · rintro y32 rest34 i33 ⟨⟩ hy32 hlti33 hr
          show GL _ _ [(5, .int .i64 ((i33 : Nat) : Int)), (1, .int .i64 left2), (2, .ptr 0 0)] [(kg11 v1)] _
          replace hr : y09 rec left2 (y32 :: rest34) i33 = some r := hr
          rw [y09] at hr
          refine L_seq ?_
          refine L_stmt ?_
          refine L_seq ?_
          refine L_stmt ?_
          refine L_reg ?_
          refine G_p rfl rfl rfl ?_
          refine G_p rfl rfl rfl ?_
          refine G_h (v := .lst (List.map encVl v1.of) false) rfl rfl rfl (fun _ => rfl) ?_
          refine G_h rfl rfl rfl (lenL_ev rfl (List.length_map _)) ?_
          refine G_v (.bool true) rfl rfl rfl (congrArg AVal.bool (decide_eq_true (by omega))) ?_
          refine G_nil ?_
          refine L_nil ?_
          refine Sm_norm (e2 := [(1, .int .i64 left2), (2, .ptr 0 0), (5, .int .i64 ((i33 : Nat) : Int)), (18, .bool true)]) (H1 := [(kg11 v1)]) (H2 := [(kg11 v1)]) rfl (by repeat (first | exact rzz | apply rcc rfl | apply rnn rfl)) rfl (?_ : GL _ _ _ _ _)
          refine L_T rfl rfl ?_
          refine L_skip ?_
          refine L_nil ?_
          refine Sm_norm (e2 := [(1, .int .i64 left2), (2, .ptr 0 0), (5, .int .i64 ((i33 : Nat) : Int))]) (H1 := [(kg11 v1)]) (H2 := [(kg11 v1)]) rfl (by repeat (first | exact rzz | apply rcc rfl | apply rnn rfl)) rfl (?_ : GL _ _ _ _ _)
          refine L_seq ?_
          refine L_stmt ?_
          refine L_block ?_
          refine L_seq ?_
          refine L_stmt ?_
          refine L_reg ?_
          refine G_p rfl rfl rfl ?_
          refine G_h (v := .lst (List.map encVl v1.of) false) rfl rfl rfl (fun _ => rfl) ?_
          refine G_p rfl rfl rfl ?_
          refine G_h (v := .ro [.int .i64 y32.tag, .lst (List.map encVl y32.of) false]) rfl rfl rfl (ia_ev (cells := [.int .i64 y32.tag, .lst (List.map encVl y32.of) false]) rfl rfl (Int.natCast_nonneg _) (map_get (x := y32) (by rw [Int.toNat_natCast]; exact hy32)) (y4c _) rfl) ?_
          refine G_h (v := .agg (cVl y32)) rfl rfl rfl (fun _ => rfl) ?_
          refine G_p rfl rfl rfl ?_
          refine G_p rfl rfl rfl ?_
          obtain ⟨r36, hr36, hr⟩ := bind_s hr
          refine G_c 16 rfl rfl (CA_of (as := [.agg (cVl y32), .int .i64 (IntKind.wrap .i64 (left2 - 1))]) rfl (hrec _ _ _ hr36)) ?_
          refine G_p rfl rfl rfl ?_
          refine G_nil ?_
          refine L_nil ?_
          refine Sm_norm (e2 := [(1, .int .i64 left2), (2, .ptr 0 0), (5, .int .i64 ((i33 : Nat) : Int)), (29, .bool (!r36))]) (H1 := [(kg11 v1)]) (H2 := [(kg11 v1)]) rfl (by repeat (first | exact rzz | apply rcc rfl | apply rnn rfl)) rfl (?_ : GL _ _ _ _ _)
          rcases cond_s hr with ⟨hc29, hr⟩ | ⟨hc29, hr⟩
          · refine L_T rfl hc29 ?_
            refine L_seq ?_
            refine L_reg ?_
            refine G_p rfl rfl rfl ?_
            refine G_nil ?_
            refine L_ret ?_
            refine Blk_ret ?_
            refine Sm_ret ?_
            refine Rd_ret ?_
            refine Blk_ret ?_
            refine Sm_ret ?_
            have hr := some_s hr
            subst hr
            exact ⟨_, rfl, _, rfl, rfl⟩
          · refine L_F rfl hc29 ?_
            refine L_skip ?_
            refine L_nil ?_
            refine Blk_norm (?_ : GL _ _ _ _ _)
            refine L_nil ?_
            refine Sm_norm (e2 := [(1, .int .i64 left2), (2, .ptr 0 0), (5, .int .i64 ((i33 : Nat) : Int))]) (H1 := [(kg11 v1)]) (H2 := [(kg11 v1)]) rfl (by repeat (first | exact rzz | apply rcc rfl | apply rnn rfl)) rfl (?_ : GL _ _ _ _ _)
            refine L_reg ?_
            refine G_p rfl rfl rfl ?_
            refine G_v (.int .i64 ((i33 + 1 : Nat) : Int)) rfl rfl rfl (congrArg _ (wrap_next hLq31 hlti33)) ?_
            refine G_p rfl rfl rfl ?_
            refine G_nil ?_
            refine L_nil ?_
            refine Rd_norm ⟨(), ?_, rfl, hr⟩
            show restr _ _ = [(5, .int .i64 (((i33 + 1) : Nat) : Int)), (1, .int .i64 left2), (2, .ptr 0 0)]
            (repeat (first | exact rzz | apply rcc rfl | apply rnn rfl))
      · rintro ⟨⟩ hr
        show GL _ _ [] [(kg11 v1)] _
        replace hr : y14 = some r := hr
        unfold y14 at hr
        refine L_seq ?_
        refine L_reg ?_
        refine G_p rfl rfl rfl ?_
        refine G_nil ?_
        refine L_ret ?_
        have hr := some_s hr
        subst hr
        exact ⟨_, rfl, _, rfl, rfl⟩
noncomputable def y0l : Nat → Vl → Int → Option Bool
  | 0, _, _ => none
  | n + 1, v1, left2 => y0x (y0l n) v1 left2
theorem y2m : ∀ (n : Nat) {v1 : Vl} {left2 : Int} {r : Bool} (hr : y0l n v1 left2 = some r), PRes (tabOf tabL) 16 [.agg (cVl v1), .int .i64 left2] (.bool r)
  | 0, _, _, _, hr => by cases hr
  | n + 1, _, _, _, hr => y3w (fun _ _ _ h => y2m n h) hr
noncomputable def y0h (rec : (List Co) → Vl → (List Int) → Option Int) (v2 : Vl) (steps3 : List Int) (x26 : Int) (l66 : List Co) : Option Int :=
  ((idx v2.of x26).bind fun e67 => ((subL steps3 1 (List.length steps3 : Nat)).bind fun l68 => ((rec l66 e67 l68).bind fun r69 => some r69)))
noncomputable def y07 (K5 : (List Co) → Option Int) (l108 : List Co) : Option Int :=
  K5 l108
noncomputable def y00 (rec : (List Co) → Vl → (List Int) → Option Int) (v2 : Vl) (steps3 : List Int) (x26 : Int) : List Co → Nat → (List Co) → Option Int
  | [], _, l82 => y0h rec v2 steps3 x26 l82
  | y97 :: rest99, i98, l82 => (cond ((decide (v2.tag = 64)) && (decide (x26 = 0))) ((oCar y97).bind fun r109 => ((catL l82 [r109]).bind fun l110 => y07 (y00 rec v2 steps3 x26 rest99 (i98 + 1)) l110)) (cond (decide (v2.tag = 64)) ((oCdr y97).bind fun r111 => ((catL l82 [r111]).bind fun l112 => y07 (y00 rec v2 steps3 x26 rest99 (i98 + 1)) l112)) (cond ((decide (y97.fn = 3)) || ((decide (y97.fn = 2)) && (!decide (((List.length y97.funs : Nat) : Int) = ((List.length v2.of : Nat) : Int))))) (some 2000) (cond ((decide (y97.fn = 2)) && (decide (x26 < (IntKind.wrap .i64 (((List.length v2.of : Nat) : Int) - 1))))) ((idx y97.funs x26).bind fun e113 => ((catL [e113] l82).bind fun l114 => y07 (y00 rec v2 steps3 x26 rest99 (i98 + 1)) l114)) (cond (decide (y97.fn = 2)) ((idx y97.funs x26).bind fun e115 => ((catL l82 [e115]).bind fun l116 => y07 (y00 rec v2 steps3 x26 rest99 (i98 + 1)) l116)) (y07 (y00 rec v2 steps3 x26 rest99 (i98 + 1)) l82))))))
noncomputable def y08 (rec : (List Co) → Vl → (List Int) → Option Int) (l1 : List Co) (v2 : Vl) (steps3 : List Int) : Option Int :=
  (cond (decide (((List.length steps3 : Nat) : Int) = 0)) (some v2.tag) ((cond (decide (((List.length v2.of : Nat) : Int) = 0)) (some true) (((idx steps3 0).bind fun e23 => some (decide (e23 < 0))))).bind fun v24 => (cond ((v24 || ((!decide (v2.tag = 64)) && (!decide (v2.tag = 128)))) || ((decide (v2.tag = 64)) && (!decide (((List.length v2.of : Nat) : Int) = 2)))) (some 3000) ((idx steps3 0).bind fun e25 => ((remI .i64 e25 ((List.length v2.of : Nat) : Int)).bind fun x26 => (cond (okLen l1) (y00 rec v2 steps3 x26 l1 0 []) none))))))
noncomputable def y05 (rec : (List Co) → Vl → (List Int) → Option Int) (l1 : List Co) (v2 : Vl) (steps3 : List Int) : List Co → Nat → Option Int
  | [], _ => y08 rec l1 v2 steps3
  | y129 :: rest131, i130 => ((oFirst y129 v2.tag).bind fun r133 => (cond (!decide (r133 = 0)) (some (IntKind.wrap .i64 (1000 + r133))) ((y05 rec l1 v2 steps3 rest131 (i130 + 1)))))
noncomputable def y0t (rec : (List Co) → Vl → (List Int) → Option Int) (l1 : List Co) (v2 : Vl) (steps3 : List Int) : Option Int :=
  (cond (okLen l1) (y05 rec l1 v2 steps3 l1 0) none)
abbrev kg12 (v2 : Vl) : ABlock := .cells [.int .i64 v2.tag, .lst (List.map encVl v2.of) false]
abbrev kg13 (l1 : List Co) (steps3 : List Int) : List (Nat × AVal) := [(0, .lst (List.map encC l1) false), (2, .lst (List.map (AVal.int .i64) steps3) false), (4, .ptr 0 0)]
theorem y4e {rec : (List Co) → Vl → (List Int) → Option Int} {l1 : List Co} {v2 : Vl} {steps3 : List Int} {r : Int} (hrec : ∀ (a0 : List Co) (a1 : Vl) (a2 : List Int) (r : Int), rec a0 a1 a2 = some r → PRes (tabOf tabL) 19 [.lst (List.map encC a0) false, .agg (cVl a1), .lst (List.map (AVal.int .i64) a2) false] (.int .i64 r)) (hr : y0t rec l1 v2 steps3 = some r) : PRes (tabOf tabL) 19 [.lst (List.map encC l1) false, .agg (cVl v2), .lst (List.map (AVal.int .i64) steps3) false] (.int .i64 r) := by
  refine pres_fin t19 ?_
  unfold y0t at hr
  refine L_seq ?_
  refine L_stmt ?_
  refine L_reg ?_
  refine G_n (B := (kg12 v2)) rfl rfl rfl ?_
  refine G_p rfl rfl rfl ?_
  refine G_nil ?_
  refine L_nil ?_
  refine Sm_norm (e2 := (kg13 l1 steps3)) (H1 := [(kg12 v2)]) (H2 := [(kg12 v2)]) rfl (by repeat (first | exact rzz | apply rcc rfl | apply rnn rfl)) rfl (?_ : GL _ _ _ _ _)
  refine L_seq ?_
  refine L_stmtJ (S := Unit) (fun s => (kg13 l1 steps3)) (fun s => [(kg12 v2)]) (fun s => y08 rec l1 v2 steps3 = some r) ?_ ?_
  · skip
    refine L_seq ?_
    refine L_stmt ?_
    refine L_reg ?_
    refine G_p rfl rfl rfl ?_
    refine G_nil ?_
    refine L_nil ?_
    refine Sm_norm (e2 := [(0, .lst (List.map encC l1) false), (2, .lst (List.map (AVal.int .i64) steps3) false), (4, .ptr 0 0), (7, .int .i64 0)]) (H1 := [(kg12 v2)]) (H2 := [(kg12 v2)]) rfl (by repeat (first | exact rzz | apply rcc rfl | apply rnn rfl)) rfl (?_ : GL _ _ _ _ _)
    refine L_block ?_
    obtain ⟨hLq128, hr⟩ := guard_s hr
    replace hLq128 := okLen_s hLq128
    refine L_range (X := Co) (S := Unit) l1 (fun i130 s => [(7, .int .i64 ((i130 : Nat) : Int)), (0, .lst (List.map encC l1) false), (2, .lst (List.map (AVal.int .i64) steps3) false), (4, .ptr 0 0)]) (fun i130 s => [(kg12 v2)]) (fun rest i130 s => y05 rec l1 v2 steps3 rest i130 = some r) (()) ?_ rfl hr ?_ ?_
    · show restr _ _ = [(7, .int .i64 ((0 : Nat) : Int)), (0, .lst (List.map encC l1) false), (2, .lst (List.map (AVal.int .i64) steps3) false), (4, .ptr 0 0)]
      (repeat (first | exact rzz | apply rcc rfl | apply rnn rfl))
    · rintro ⟨⟩ hr
      show GL _ _ [(7, .int .i64 (((List.length l1) : Nat) : Int)), (0, .lst (List.map encC l1) false), (2, .lst (List.map (AVal.int .i64) steps3) false), (4, .ptr 0 0)] [(kg12 v2)] _
      replace hr : y05 rec l1 v2 steps3 [] (List.length l1) = some r := hr
      rw [y05] at hr
      refine L_seq ?_
      refine L_stmt ?_
      refine L_seq ?_
      refine L_stmt ?_
      refine L_reg ?_
      refine G_p rfl rfl rfl ?_
      refine G_p (v := .lst (List.map encC l1) false) rfl rfl rfl ?_
      refine G_h rfl rfl rfl (lenL_ev rfl (List.length_map _)) ?_
      refine G_v (.bool false) rfl rfl rfl (congrArg AVal.bool (decide_eq_false (by omega))) ?_
      refine G_nil ?_
      refine L_nil ?_
      refine Sm_norm (e2 := [(0, .lst (List.map encC l1) false), (2, .lst (List.map (AVal.int .i64) steps3) false), (4, .ptr 0 0), (7, .int .i64 ((List.length l1 : Nat) : Int)), (17, .bool false)]) (H1 := [(kg12 v2)]) (H2 := [(kg12 v2)]) rfl (by repeat (first | exact rzz | apply rcc rfl | apply rnn rfl)) rfl (?_ : GL _ _ _ _ _)
      refine L_F rfl rfl ?_
      refine L_exit ?_
      refine Sm_exit ?_
      refine Rd_exit ?_
      refine Blk_exit (?_ : GL _ _ _ _ _)
      refine L_nil ?_
      exact Sm_norm (e2 := (kg13 l1 steps3)) (H1 := [(kg12 v2)]) (H2 := [(kg12 v2)]) rfl (by repeat (first | exact rzz | apply rcc rfl | apply rnn rfl)) rfl ⟨(), rfl, rfl, hr⟩
    · rintro y129 rest131 i130 ⟨⟩ hy129 hlti130 hr
      show GL _ _ [(7, .int .i64 ((i130 : Nat) : Int)), (0, .lst (List.map encC l1) false), (2, .lst (List.map (AVal.int .i64) steps3) false), (4, .ptr 0 0)] [(kg12 v2)] _
      replace hr : y05 rec l1 v2 steps3 (y129 :: rest131) i130 = some r := hr
      rw [y05] at hr
      refine L_seq ?_
      refine L_stmt ?_
      refine L_seq ?_
      refine L_stmt ?_
      refine L_reg ?_
      refine G_p rfl rfl rfl ?_
      refine G_p (v := .lst (List.map encC l1) false) rfl rfl rfl ?_
      refine G_h rfl rfl rfl (lenL_ev rfl (List.length_map _)) ?_
      refine G_v (.bool true) rfl rfl rfl (congrArg AVal.bool (decide_eq_true (by omega))) ?_
      refine G_nil ?_
      refine L_nil ?_
      refine Sm_norm (e2 := [(0, .lst (List.map encC l1) false), (2, .lst (List.map (AVal.int .i64) steps3) false), (4, .ptr 0 0), (7, .int .i64 ((i130 : Nat) : Int)), (17, .bool true)]) (H1 := [(kg12 v2)]) (H2 := [(kg12 v2)]) rfl (by repeat (first | exact rzz | apply rcc rfl | apply rnn rfl)) rfl (?_ : GL _ _ _ _ _)
      refine L_T rfl rfl ?_
      refine L_skip ?_
      refine L_nil ?_
      refine Sm_norm (e2 := [(0, .lst (List.map encC l1) false), (2, .lst (List.map (AVal.int .i64) steps3) false), (4, .ptr 0 0), (7, .int .i64 ((i130 : Nat) : Int))]) (H1 := [(kg12 v2)]) (H2 := [(kg12 v2)]) rfl (by repeat (first | exact rzz | apply rcc rfl | apply rnn rfl)) rfl (?_ : GL _ _ _ _ _)
      refine L_seq ?_
      refine L_stmt ?_
      refine L_block ?_
      refine L_seq ?_
      refine L_stmt ?_
      refine L_drawS (ops := [_, _, _, _, _, _, _, _]) rfl rfl ?_
      refine G_p (v := .lst (List.map encC l1) false) rfl rfl rfl ?_
      refine G_p rfl rfl rfl ?_
      refine G_h (v := .ro [.int .i64 (y129.flat 0), .int .i64 (y129.flat 1), .int .i64 (y129.flat 2), .int .i64 (y129.flat 3), .int .i64 (y129.flat 4), .int .i64 (y129.flat 5), .int .i64 y129.pair, .int .i64 y129.plab, .lst (List.map encC y129.pairs) false, .int .i64 y129.fn, .int .i64 y129.flab, .lst (List.map encC y129.funs) false]) rfl rfl rfl (ia_ev (cells := [.int .i64 (y129.flat 0), .int .i64 (y129.flat 1), .int .i64 (y129.flat 2), .int .i64 (y129.flat 3), .int .i64 (y129.flat 4), .int .i64 (y129.flat 5), .int .i64 y129.pair, .int .i64 y129.plab, .lst (List.map encC y129.pairs) false, .int .i64 y129.fn, .int .i64 y129.flab, .lst (List.map encC y129.funs) false]) rfl rfl (Int.natCast_nonneg _) (map_get (x := y129) (by rw [Int.toNat_natCast]; exact hy129)) (encC_flat _) rfl) ?_
      refine G_h (v := .agg (cC y129)) rfl rfl rfl (fun _ => rfl) ?_
      refine G_p rfl rfl rfl ?_
      refine G_h rfl rfl rfl (fun _ => rfl) ?_
      obtain ⟨r133, hr133, hr⟩ := bind_s hr
      refine G_c 39 rfl rfl (CA_of (as := [.agg (cC y129), .int .i64 v2.tag]) rfl (oFirst_ok hr133)) ?_
      refine G_p rfl rfl rfl ?_
      refine G_nil (L_nil ⟨rfl, ?_⟩)
      refine L_nil ?_
      refine Sm_norm (e2 := [(0, .lst (List.map encC l1) false), (2, .lst (List.map (AVal.int .i64) steps3) false), (4, .ptr 0 0), (7, .int .i64 ((i130 : Nat) : Int)), (8, .int .i64 r133)]) (H1 := [(kg12 v2)]) (H2 := [(kg12 v2)]) rfl (by repeat (first | exact rzz | apply rcc rfl | apply rnn rfl)) rfl (?_ : GL _ _ _ _ _)
      refine L_seq ?_
      refine L_stmt ?_
      refine L_reg ?_
      refine G_p rfl rfl rfl ?_
      refine G_p rfl rfl rfl ?_
      refine G_nil ?_
      refine L_nil ?_
      refine Sm_norm (e2 := [(0, .lst (List.map encC l1) false), (2, .lst (List.map (AVal.int .i64) steps3) false), (4, .ptr 0 0), (7, .int .i64 ((i130 : Nat) : Int)), (8, .int .i64 r133), (28, .bool (!decide (r133 = 0)))]) (H1 := [(kg12 v2)]) (H2 := [(kg12 v2)]) rfl (by repeat (first | exact rzz | apply rcc rfl | apply rnn rfl)) rfl (?_ : GL _ _ _ _ _)
      rcases cond_s hr with ⟨hc28, hr⟩ | ⟨hc28, hr⟩
      · refine L_T rfl hc28 ?_
        refine L_seq ?_
        refine L_reg ?_
        refine G_p rfl rfl rfl ?_
        refine G_p rfl rfl rfl ?_
        refine G_p rfl rfl rfl ?_
        refine G_nil ?_
        refine L_ret ?_
        refine Blk_ret ?_
        refine Sm_ret ?_
        refine Rd_ret ?_
        refine Blk_ret ?_
        refine Sm_ret ?_
        have hr := some_s hr
        subst hr
        exact ⟨_, rfl, _, rfl, rfl⟩
      · refine L_F rfl hc28 ?_
        refine L_skip ?_
        refine L_nil ?_
        refine Blk_norm (?_ : GL _ _ _ _ _)
        refine L_nil ?_
        refine Sm_norm (e2 := [(0, .lst (List.map encC l1) false), (2, .lst (List.map (AVal.int .i64) steps3) false), (4, .ptr 0 0), (7, .int .i64 ((i130 : Nat) : Int))]) (H1 := [(kg12 v2)]) (H2 := [(kg12 v2)]) rfl (by repeat (first | exact rzz | apply rcc rfl | apply rnn rfl)) rfl (?_ : GL _ _ _ _ _)
        refine L_reg ?_
        refine G_p rfl rfl rfl ?_
        refine G_v (.int .i64 ((i130 + 1 : Nat) : Int)) rfl rfl rfl (congrArg _ (wrap_next hLq128 hlti130)) ?_
        refine G_p rfl rfl rfl ?_
        refine G_nil ?_
        refine L_nil ?_
        refine Rd_norm ⟨(), ?_, rfl, hr⟩
        show restr _ _ = [(7, .int .i64 (((i130 + 1) : Nat) : Int)), (0, .lst (List.map encC l1) false), (2, .lst (List.map (AVal.int .i64) steps3) false), (4, .ptr 0 0)]
        (repeat (first | exact rzz | apply rcc rfl | apply rnn rfl))
  · rintro ⟨⟩ hr
    show GL _ _ (kg13 l1 steps3) [(kg12 v2)] _
    replace hr : y08 rec l1 v2 steps3 = some r := hr
    unfold y08 at hr
    refine L_seq ?_
    refine L_stmt ?_
    refine L_seq ?_
    refine L_stmt ?_
    refine L_reg ?_
    refine G_p (v := .lst (List.map (AVal.int .i64) steps3) false) rfl rfl rfl ?_
    refine G_h rfl rfl rfl (lenL_ev rfl (List.length_map _)) ?_
    refine G_p rfl rfl rfl ?_
    refine G_nil ?_
    refine L_nil ?_
    refine Sm_norm (e2 := [(0, .lst (List.map encC l1) false), (2, .lst (List.map (AVal.int .i64) steps3) false), (4, .ptr 0 0), (33, .bool (decide (((List.length steps3 : Nat) : Int) = 0)))]) (H1 := [(kg12 v2)]) (H2 := [(kg12 v2)]) rfl (by repeat (first | exact rzz | apply rcc rfl | apply rnn rfl)) rfl (?_ : GL _ _ _ _ _)
    rcases cond_s hr with ⟨hc33, hr⟩ | ⟨hc33, hr⟩
    · refine L_T rfl hc33 ?_
      refine L_seq ?_
      refine L_reg ?_
      refine G_p rfl rfl rfl ?_
      refine G_h rfl rfl rfl (fun _ => rfl) ?_
      refine G_p rfl rfl rfl ?_
      refine G_nil ?_
      refine L_ret ?_
      refine Sm_ret ?_
      have hr := some_s hr
      subst hr
      exact ⟨_, rfl, _, rfl, rfl⟩
    · refine L_F rfl hc33 ?_
      refine L_skip ?_
      refine L_nil ?_
      refine Sm_norm (e2 := (kg13 l1 steps3)) (H1 := [(kg12 v2)]) (H2 := [(kg12 v2)]) rfl (by repeat (first | exact rzz | apply rcc rfl | apply rnn rfl)) rfl (?_ : GL _ _ _ _ _)
      refine L_seq ?_
      refine L_stmt ?_
      refine L_reg ?_
      refine G_p rfl rfl rfl ?_
      refine G_h (v := .lst (List.map encVl v2.of) false) rfl rfl rfl (fun _ => rfl) ?_
      refine G_h rfl rfl rfl (lenL_ev rfl (List.length_map _)) ?_
      refine G_p rfl rfl rfl ?_
      refine G_nil ?_
      refine L_nil ?_
      refine Sm_norm (e2 := [(0, .lst (List.map encC l1) false), (2, .lst (List.map (AVal.int .i64) steps3) false), (4, .ptr 0 0), (9, .int .i64 ((List.length v2.of : Nat) : Int))]) (H1 := [(kg12 v2)]) (H2 := [(kg12 v2)]) rfl (by repeat (first | exact rzz | apply rcc rfl | apply rnn rfl)) rfl (?_ : GL _ _ _ _ _)
      refine L_seq ?_
      refine L_stmt ?_
      refine L_seq ?_
      refine L_stmt ?_
      refine L_reg ?_
      refine G_p rfl rfl rfl ?_
      refine G_p rfl rfl rfl ?_
      refine G_p rfl rfl rfl ?_
      obtain ⟨v24, hvv24, hr⟩ := bind_s hr
      refine G_pick false [_, _, _, _] (v := .bool v24) (vo := .bool true) rfl rfl ?_ ?_ rfl ?_
      · intro hb41
        have hr := condF hb41 hvv24
        refine G_p (v := .lst (List.map (AVal.int .i64) steps3) false) rfl rfl rfl ?_
        obtain ⟨e23, he23, hr⟩ := bind_s hr
        refine G_h (v := .ro [.int .i64 e23]) rfl rfl rfl (ia_ev (cells := [.int .i64 e23]) rfl rfl (idx_s he23).1 (map_get (x := e23) (idx_s he23).2) rfl rfl) ?_
        refine G_h rfl rfl rfl (fun _ => rfl) ?_
        refine G_p rfl rfl rfl ?_
        cases hr; exact G_nil (L_nil ⟨rfl, rfl, rfl⟩)
      · intro hb41; exact pickF hvv24 hb41
      · intro vs hvs
        obtain ⟨u42, u43, u44, u45, rfl⟩ := len4 hvs
        dsimp only [junk]
        refine G_p rfl rfl rfl ?_
        refine G_or (f := ((!decide (v2.tag = 64)) && (!decide (v2.tag = 128)))) [_, _, _, _, _, _, _, _] rfl rfl ?_ ?_
        · intro hb47
          refine G_p rfl rfl rfl ?_
          refine G_h rfl rfl rfl (fun _ => rfl) ?_
          refine G_p rfl rfl rfl ?_
          refine G_p rfl rfl rfl ?_
          refine G_and (f := (!decide (v2.tag = 128))) [_, _, _] rfl rfl ?_ ?_
          · intro hb51
            refine G_p rfl rfl rfl ?_
            refine G_h rfl rfl rfl (fun _ => rfl) ?_
            refine G_p rfl rfl rfl ?_
            exact G_nil (L_nil ⟨rfl, rfl, rfl⟩)
          · intro vs hvs
            obtain ⟨u52, u53, u54, rfl⟩ := len3 hvs
            dsimp only [junk]
            exact G_nil (L_nil ⟨rfl, rfl, rfl⟩)
        · intro vs hvs
          obtain ⟨u48, u49, u50, u51, u52, u53, u54, u55, rfl⟩ := len8 hvs
          dsimp only [junk]
          refine G_p rfl rfl rfl ?_
          refine G_or (f := ((decide (v2.tag = 64)) && (!decide (((List.length v2.of : Nat) : Int) = 2)))) [_, _, _, _, _, _, _] rfl rfl ?_ ?_
          · intro hb57
            refine G_p rfl rfl rfl ?_
            refine G_h rfl rfl rfl (fun _ => rfl) ?_
            refine G_p rfl rfl rfl ?_
            refine G_p rfl rfl rfl ?_
            refine G_and (f := (!decide (((List.length v2.of : Nat) : Int) = 2))) [_, _] rfl rfl ?_ ?_
            · intro hb61
              refine G_p rfl rfl rfl ?_
              refine G_p rfl rfl rfl ?_
              exact G_nil (L_nil ⟨rfl, rfl, rfl⟩)
            · intro vs hvs
              obtain ⟨u62, u63, rfl⟩ := len2 hvs
              dsimp only [junk]
              exact G_nil (L_nil ⟨rfl, rfl, rfl⟩)
          · intro vs hvs
            obtain ⟨u58, u59, u60, u61, u62, u63, u64, rfl⟩ := len7 hvs
            dsimp only [junk]
            refine G_nil ?_
            refine L_nil ?_
            refine Sm_norm (e2 := [(0, .lst (List.map encC l1) false), (2, .lst (List.map (AVal.int .i64) steps3) false), (4, .ptr 0 0), (9, .int .i64 ((List.length v2.of : Nat) : Int)), (65, .bool ((v24 || ((!decide (v2.tag = 64)) && (!decide (v2.tag = 128)))) || ((decide (v2.tag = 64)) && (!decide (((List.length v2.of : Nat) : Int) = 2)))))]) (H1 := [(kg12 v2)]) (H2 := [(kg12 v2)]) rfl (by repeat (first | exact rzz | apply rcc rfl | apply rnn rfl)) rfl (?_ : GL _ _ _ _ _)
            rcases cond_s hr with ⟨hc65, hr⟩ | ⟨hc65, hr⟩
            · refine L_T rfl hc65 ?_
              refine L_seq ?_
              refine L_reg ?_
              refine G_p rfl rfl rfl ?_
              refine G_nil ?_
              refine L_ret ?_
              refine Sm_ret ?_
              have hr := some_s hr
              subst hr
              exact ⟨_, rfl, _, rfl, rfl⟩
            · refine L_F rfl hc65 ?_
              refine L_skip ?_
              refine L_nil ?_
              refine Sm_norm (e2 := [(0, .lst (List.map encC l1) false), (2, .lst (List.map (AVal.int .i64) steps3) false), (4, .ptr 0 0), (9, .int .i64 ((List.length v2.of : Nat) : Int))]) (H1 := [(kg12 v2)]) (H2 := [(kg12 v2)]) rfl (by repeat (first | exact rzz | apply rcc rfl | apply rnn rfl)) rfl (?_ : GL _ _ _ _ _)
              refine L_seq ?_
              refine L_stmt ?_
              refine L_reg ?_
              refine G_p (v := .lst (List.map (AVal.int .i64) steps3) false) rfl rfl rfl ?_
              obtain ⟨e25, he25, hr⟩ := bind_s hr
              refine G_h (v := .ro [.int .i64 e25]) rfl rfl rfl (ia_ev (cells := [.int .i64 e25]) rfl rfl (idx_s he25).1 (map_get (x := e25) (idx_s he25).2) rfl rfl) ?_
              refine G_h rfl rfl rfl (fun _ => rfl) ?_
              refine G_p rfl rfl rfl ?_
              obtain ⟨x26, hx26, hr⟩ := bind_s hr
              refine G_p rfl rfl (evP_rem rfl rfl hx26) ?_
              refine G_p rfl rfl rfl ?_
              refine G_nil ?_
              refine L_nil ?_
              refine Sm_norm (e2 := [(0, .lst (List.map encC l1) false), (2, .lst (List.map (AVal.int .i64) steps3) false), (4, .ptr 0 0), (9, .int .i64 ((List.length v2.of : Nat) : Int)), (10, .int .i64 x26)]) (H1 := [(kg12 v2)]) (H2 := [(kg12 v2)]) rfl (by repeat (first | exact rzz | apply rcc rfl | apply rnn rfl)) rfl (?_ : GL _ _ _ _ _)
              refine L_seq ?_
              refine L_stmt ?_
              refine L_reg ?_
              refine G_p (v := .lst [] true) rfl rfl rfl ?_
              refine G_nil ?_
              refine L_nil ?_
              refine Sm_norm (e2 := [(0, .lst (List.map encC l1) false), (2, .lst (List.map (AVal.int .i64) steps3) false), (4, .ptr 0 0), (9, .int .i64 ((List.length v2.of : Nat) : Int)), (10, .int .i64 x26), (11, .lst [] true)]) (H1 := [(kg12 v2)]) (H2 := [(kg12 v2)]) rfl (by repeat (first | exact rzz | apply rcc rfl | apply rnn rfl)) rfl (?_ : GL _ _ _ _ _)
              refine L_seq ?_
              refine L_stmtJ (S := List Co) (fun s => [(2, .lst (List.map (AVal.int .i64) steps3) false), (4, .ptr 0 0), (10, .int .i64 x26), (11, .lst (List.map encC s) false)]) (fun s => [(kg12 v2)]) (fun s => y0h rec v2 steps3 x26 s = some r) ?_ ?_
              · skip
                refine L_seq ?_
                refine L_stmt ?_
                refine L_reg ?_
                refine G_p rfl rfl rfl ?_
                refine G_nil ?_
                refine L_nil ?_
                refine Sm_norm (e2 := [(0, .lst (List.map encC l1) false), (2, .lst (List.map (AVal.int .i64) steps3) false), (4, .ptr 0 0), (9, .int .i64 ((List.length v2.of : Nat) : Int)), (10, .int .i64 x26), (11, .lst [] true), (12, .int .i64 0)]) (H1 := [(kg12 v2)]) (H2 := [(kg12 v2)]) rfl (by repeat (first | exact rzz | apply rcc rfl | apply rnn rfl)) rfl (?_ : GL _ _ _ _ _)
                refine L_block ?_
                refine L_seq ?_
                refine L_own (H' := [(kg12 v2), growM 12 encC []]) rfl ?_
                obtain ⟨hLq96, hr⟩ := guard_s hr
                replace hLq96 := okLen_s hLq96
                refine L_range (X := Co) (S := List Co) l1 (fun i98 s => [(11, .gl 1 (List.length s)), (12, .int .i64 ((i98 : Nat) : Int)), (0, .lst (List.map encC l1) false), (2, .lst (List.map (AVal.int .i64) steps3) false), (4, .ptr 0 0), (9, .int .i64 ((List.length v2.of : Nat) : Int)), (10, .int .i64 x26)]) (fun i98 s => [(kg12 v2), growM 12 encC s]) (fun rest i98 s => y00 rec v2 steps3 x26 rest i98 s = some r) ([]) ?_ rfl hr ?_ ?_
                · show restr _ _ = [(11, .gl 1 (List.length [])), (12, .int .i64 ((0 : Nat) : Int)), (0, .lst (List.map encC l1) false), (2, .lst (List.map (AVal.int .i64) steps3) false), (4, .ptr 0 0), (9, .int .i64 ((List.length v2.of : Nat) : Int)), (10, .int .i64 x26)]
                  (repeat (first | exact rzz | apply rcc rfl | apply rnn rfl))
                · rintro l82 hr
                  show GL _ _ [(11, .gl 1 (List.length l82)), (12, .int .i64 (((List.length l1) : Nat) : Int)), (0, .lst (List.map encC l1) false), (2, .lst (List.map (AVal.int .i64) steps3) false), (4, .ptr 0 0), (9, .int .i64 ((List.length v2.of : Nat) : Int)), (10, .int .i64 x26)] [(kg12 v2), growM 12 encC l82] _
                  replace hr : y00 rec v2 steps3 x26 [] (List.length l1) l82 = some r := hr
                  rw [y00] at hr
                  refine L_seq ?_
                  refine L_stmt ?_
                  refine L_seq ?_
                  refine L_stmt ?_
                  refine L_reg ?_
                  refine G_p rfl rfl rfl ?_
                  refine G_p (v := .lst (List.map encC l1) false) rfl rfl rfl ?_
                  refine G_h rfl rfl rfl (lenL_ev rfl (List.length_map _)) ?_
                  refine G_v (.bool false) rfl rfl rfl (congrArg AVal.bool (decide_eq_false (by omega))) ?_
                  refine G_nil ?_
                  refine L_nil ?_
                  refine Sm_norm (e2 := [(0, .lst (List.map encC l1) false), (2, .lst (List.map (AVal.int .i64) steps3) false), (4, .ptr 0 0), (9, .int .i64 ((List.length v2.of : Nat) : Int)), (10, .int .i64 x26), (11, .gl 1 (List.length l82)), (12, .int .i64 ((List.length l1 : Nat) : Int)), (74, .bool false)]) (H1 := [(kg12 v2), growM 12 encC l82]) (H2 := [(kg12 v2), growM 12 encC l82]) rfl (by repeat (first | exact rzz | apply rcc rfl | apply rnn rfl)) rfl (?_ : GL _ _ _ _ _)
                  refine L_F rfl rfl ?_
                  refine L_exit ?_
                  refine Sm_exit ?_
                  refine Rd_exit ?_
                  refine Blk_exit (?_ : GL _ _ _ _ _)
                  refine L_nil ?_
                  exact Sm_norm (e2 := [(2, .lst (List.map (AVal.int .i64) steps3) false), (4, .ptr 0 0), (10, .int .i64 x26), (11, .lst (List.map encC l82) false)]) (H1 := [(kg12 v2), growM 12 encC l82]) (H2 := [(kg12 v2)]) (frz_c (frz_gl rfl rfl) rfl) (by repeat (first | exact rzz | apply rcc rfl | apply rnn rfl)) rfl ⟨l82, rfl, rfl, hr⟩
                · rintro y97 rest99 i98 l82 hy97 hlti98 hr
                  show GL _ _ [(11, .gl 1 (List.length l82)), (12, .int .i64 ((i98 : Nat) : Int)), (0, .lst (List.map encC l1) false), (2, .lst (List.map (AVal.int .i64) steps3) false), (4, .ptr 0 0), (9, .int .i64 ((List.length v2.of : Nat) : Int)), (10, .int .i64 x26)] [(kg12 v2), growM 12 encC l82] _
                  replace hr : y00 rec v2 steps3 x26 (y97 :: rest99) i98 l82 = some r := hr
                  rw [y00] at hr
                  refine L_seq ?_
                  refine L_stmt ?_
                  refine L_seq ?_
                  refine L_stmt ?_
                  refine L_reg ?_
                  refine G_p rfl rfl rfl ?_
                  refine G_p (v := .lst (List.map encC l1) false) rfl rfl rfl ?_
                  refine G_h rfl rfl rfl (lenL_ev rfl (List.length_map _)) ?_
                  refine G_v (.bool true) rfl rfl rfl (congrArg AVal.bool (decide_eq_true (by omega))) ?_
                  refine G_nil ?_
                  refine L_nil ?_
                  refine Sm_norm (e2 := [(0, .lst (List.map encC l1) false), (2, .lst (List.map (AVal.int .i64) steps3) false), (4, .ptr 0 0), (9, .int .i64 ((List.length v2.of : Nat) : Int)), (10, .int .i64 x26), (11, .gl 1 (List.length l82)), (12, .int .i64 ((i98 : Nat) : Int)), (74, .bool true)]) (H1 := [(kg12 v2), growM 12 encC l82]) (H2 := [(kg12 v2), growM 12 encC l82]) rfl (by repeat (first | exact rzz | apply rcc rfl | apply rnn rfl)) rfl (?_ : GL _ _ _ _ _)
                  refine L_T rfl rfl ?_
                  refine L_skip ?_
                  refine L_nil ?_
                  refine Sm_norm (e2 := [(0, .lst (List.map encC l1) false), (2, .lst (List.map (AVal.int .i64) steps3) false), (4, .ptr 0 0), (9, .int .i64 ((List.length v2.of : Nat) : Int)), (10, .int .i64 x26), (11, .gl 1 (List.length l82)), (12, .int .i64 ((i98 : Nat) : Int))]) (H1 := [(kg12 v2), growM 12 encC l82]) (H2 := [(kg12 v2), growM 12 encC l82]) rfl (by repeat (first | exact rzz | apply rcc rfl | apply rnn rfl)) rfl (?_ : GL _ _ _ _ _)
                  refine L_seq ?_
                  refine L_stmtJ (S := List Co) (fun s => [(0, .lst (List.map encC l1) false), (2, .lst (List.map (AVal.int .i64) steps3) false), (4, .ptr 0 0), (9, .int .i64 ((List.length v2.of : Nat) : Int)), (10, .int .i64 x26), (11, .gl 1 (List.length s)), (12, .int .i64 ((i98 : Nat) : Int))]) (fun s => [(kg12 v2), growM 12 encC s]) (fun s => y07 (y00 rec v2 steps3 x26 rest99 (i98 + 1)) s = some r) ?_ ?_
                  · skip
                    refine L_block ?_
                    refine L_seq ?_
                    refine L_stmt ?_
                    refine L_reg ?_
                    refine G_p (v := .lst (List.map encC l1) false) rfl rfl rfl ?_
                    refine G_p rfl rfl rfl ?_
                    refine G_h (v := .ro [.int .i64 (y97.flat 0), .int .i64 (y97.flat 1), .int .i64 (y97.flat 2), .int .i64 (y97.flat 3), .int .i64 (y97.flat 4), .int .i64 (y97.flat 5), .int .i64 y97.pair, .int .i64 y97.plab, .lst (List.map encC y97.pairs) false, .int .i64 y97.fn, .int .i64 y97.flab, .lst (List.map encC y97.funs) false]) rfl rfl rfl (ia_ev (cells := [.int .i64 (y97.flat 0), .int .i64 (y97.flat 1), .int .i64 (y97.flat 2), .int .i64 (y97.flat 3), .int .i64 (y97.flat 4), .int .i64 (y97.flat 5), .int .i64 y97.pair, .int .i64 y97.plab, .lst (List.map encC y97.pairs) false, .int .i64 y97.fn, .int .i64 y97.flab, .lst (List.map encC y97.funs) false]) rfl rfl (Int.natCast_nonneg _) (map_get (x := y97) (by rw [Int.toNat_natCast]; exact hy97)) (encC_flat _) rfl) ?_
                    refine G_h (v := .agg (cC y97)) rfl rfl rfl (fun _ => rfl) ?_
                    refine G_n (B := .cells [.int .i64 0, .int .i64 0, .int .i64 0, .int .i64 0, .int .i64 0, .int .i64 0, .int .i64 0, .int .i64 0, .lst [] true, .int .i64 0, .int .i64 0, .lst [] true]) rfl rfl rfl ?_
                    refine G_hn (H' := [(kg12 v2), growM 12 encC l82, .cells [.int .i64 (y97.flat 0), .int .i64 (y97.flat 1), .int .i64 (y97.flat 2), .int .i64 (y97.flat 3), .int .i64 (y97.flat 4), .int .i64 (y97.flat 5), .int .i64 y97.pair, .int .i64 y97.plab, .lst (List.map encC y97.pairs) false, .int .i64 y97.fn, .int .i64 y97.flab, .lst (List.map encC y97.funs) false]]) rfl rfl rfl (fun _ => rfl) ?_
                    refine G_nil ?_
                    refine L_nil ?_
                    refine Sm_norm (e2 := [(0, .lst (List.map encC l1) false), (2, .lst (List.map (AVal.int .i64) steps3) false), (4, .ptr 0 0), (9, .int .i64 ((List.length v2.of : Nat) : Int)), (10, .int .i64 x26), (11, .gl 1 (List.length l82)), (12, .int .i64 ((i98 : Nat) : Int)), (13, .ptr 2 0)]) (H1 := [(kg12 v2), growM 12 encC l82, .cells [.int .i64 (y97.flat 0), .int .i64 (y97.flat 1), .int .i64 (y97.flat 2), .int .i64 (y97.flat 3), .int .i64 (y97.flat 4), .int .i64 (y97.flat 5), .int .i64 y97.pair, .int .i64 y97.plab, .lst (List.map encC y97.pairs) false, .int .i64 y97.fn, .int .i64 y97.flab, .lst (List.map encC y97.funs) false]]) (H2 := [(kg12 v2), growM 12 encC l82, .cells [.int .i64 (y97.flat 0), .int .i64 (y97.flat 1), .int .i64 (y97.flat 2), .int .i64 (y97.flat 3), .int .i64 (y97.flat 4), .int .i64 (y97.flat 5), .int .i64 y97.pair, .int .i64 y97.plab, .lst (List.map encC y97.pairs) false, .int .i64 y97.fn, .int .i64 y97.flab, .lst (List.map encC y97.funs) false]]) rfl (by repeat (first | exact rzz | apply rcc rfl | apply rnn rfl)) rfl (?_ : GL _ _ _ _ _)
                    refine L_seq ?_
                    refine L_stmt ?_
                    refine L_reg ?_
                    refine G_p rfl rfl rfl ?_
                    refine G_h rfl rfl rfl (fun _ => rfl) ?_
                    refine G_p rfl rfl rfl ?_
                    refine G_p rfl rfl rfl ?_
                    refine G_and (f := (decide (x26 = 0))) [_, _] rfl rfl ?_ ?_
                    · intro hb84
                      refine G_p rfl rfl rfl ?_
                      refine G_p rfl rfl rfl ?_
                      exact G_nil (L_nil ⟨rfl, rfl, rfl⟩)
                    · intro vs hvs
                      obtain ⟨u85, u86, rfl⟩ := len2 hvs
                      dsimp only [junk]
                      refine G_nil ?_
                      refine L_nil ?_
                      refine Sm_norm (e2 := [(0, .lst (List.map encC l1) false), (2, .lst (List.map (AVal.int .i64) steps3) false), (4, .ptr 0 0), (9, .int .i64 ((List.length v2.of : Nat) : Int)), (10, .int .i64 x26), (11, .gl 1 (List.length l82)), (12, .int .i64 ((i98 : Nat) : Int)), (13, .ptr 2 0), (87, .bool ((decide (v2.tag = 64)) && (decide (x26 = 0))))]) (H1 := [(kg12 v2), growM 12 encC l82, .cells [.int .i64 (y97.flat 0), .int .i64 (y97.flat 1), .int .i64 (y97.flat 2), .int .i64 (y97.flat 3), .int .i64 (y97.flat 4), .int .i64 (y97.flat 5), .int .i64 y97.pair, .int .i64 y97.plab, .lst (List.map encC y97.pairs) false, .int .i64 y97.fn, .int .i64 y97.flab, .lst (List.map encC y97.funs) false]]) (H2 := [(kg12 v2), growM 12 encC l82, .cells [.int .i64 (y97.flat 0), .int .i64 (y97.flat 1), .int .i64 (y97.flat 2), .int .i64 (y97.flat 3), .int .i64 (y97.flat 4), .int .i64 (y97.flat 5), .int .i64 y97.pair, .int .i64 y97.plab, .lst (List.map encC y97.pairs) false, .int .i64 y97.fn, .int .i64 y97.flab, .lst (List.map encC y97.funs) false]]) rfl (by repeat (first | exact rzz | apply rcc rfl | apply rnn rfl)) rfl (?_ : GL _ _ _ _ _)
                      rcases cond_s hr with ⟨hc87, hr⟩ | ⟨hc87, hr⟩
                      · refine L_T rfl hc87 ?_
                        refine L_reg ?_
                        refine G_p rfl rfl rfl ?_
                        refine G_h (v := .agg (cC y97)) rfl rfl rfl (fun _ => rfl) ?_
                        obtain ⟨r109, hr109, hr⟩ := bind_s hr
                        refine G_c 40 rfl rfl (CA_of (as := [.agg (cC y97)]) rfl (oCar_ok hr109)) ?_
                        refine G_h (v := .lst (List.map encC [r109]) true) rfl rfl rfl (fun _ => Eq.trans (b := some (Ex.ok (AVal.lst [.agg (cC r109)] true), _)) rfl (congrArg (fun z => some (Ex.ok (AVal.lst z true), _)) (by first | rfl | (simp only [List.map_cons, List.map_nil, encC_eq] <;> rfl)))) ?_
                        obtain ⟨l110, hl110, hr⟩ := bind_s hr
                        refine G_h rfl rfl rfl (appG2_ev (es := 12) encC_w1 (show (128 : Nat) ≤ 1400 from by decide) rfl rfl rfl rfl hl110 rfl) ?_
                        refine G_p rfl rfl rfl ?_
                        refine G_nil ?_
                        refine L_nil ?_
                        refine Blk_norm (?_ : GL _ _ _ _ _)
                        refine L_nil ?_
                        exact Sm_norm (e2 := [(0, .lst (List.map encC l1) false), (2, .lst (List.map (AVal.int .i64) steps3) false), (4, .ptr 0 0), (9, .int .i64 ((List.length v2.of : Nat) : Int)), (10, .int .i64 x26), (11, .gl 1 (List.length l110)), (12, .int .i64 ((i98 : Nat) : Int))]) (H1 := [(kg12 v2), growM 12 encC l110, .cells [.int .i64 (y97.flat 0), .int .i64 (y97.flat 1), .int .i64 (y97.flat 2), .int .i64 (y97.flat 3), .int .i64 (y97.flat 4), .int .i64 (y97.flat 5), .int .i64 y97.pair, .int .i64 y97.plab, .lst (List.map encC y97.pairs) false, .int .i64 y97.fn, .int .i64 y97.flab, .lst (List.map encC y97.funs) false]]) (H2 := [(kg12 v2), growM 12 encC l110]) rfl (by repeat (first | exact rzz | apply rcc rfl | apply rnn rfl)) rfl ⟨l110, rfl, rfl, hr⟩
                      · refine L_F rfl hc87 ?_
                        refine L_seq ?_
                        refine L_stmt ?_
                        refine L_reg ?_
                        refine G_p rfl rfl rfl ?_
                        refine G_h rfl rfl rfl (fun _ => rfl) ?_
                        refine G_p rfl rfl rfl ?_
                        refine G_nil ?_
                        refine L_nil ?_
                        refine Sm_norm (e2 := [(0, .lst (List.map encC l1) false), (2, .lst (List.map (AVal.int .i64) steps3) false), (4, .ptr 0 0), (9, .int .i64 ((List.length v2.of : Nat) : Int)), (10, .int .i64 x26), (11, .gl 1 (List.length l82)), (12, .int .i64 ((i98 : Nat) : Int)), (13, .ptr 2 0), (95, .bool (decide (v2.tag = 64)))]) (H1 := [(kg12 v2), growM 12 encC l82, .cells [.int .i64 (y97.flat 0), .int .i64 (y97.flat 1), .int .i64 (y97.flat 2), .int .i64 (y97.flat 3), .int .i64 (y97.flat 4), .int .i64 (y97.flat 5), .int .i64 y97.pair, .int .i64 y97.plab, .lst (List.map encC y97.pairs) false, .int .i64 y97.fn, .int .i64 y97.flab, .lst (List.map encC y97.funs) false]]) (H2 := [(kg12 v2), growM 12 encC l82, .cells [.int .i64 (y97.flat 0), .int .i64 (y97.flat 1), .int .i64 (y97.flat 2), .int .i64 (y97.flat 3), .int .i64 (y97.flat 4), .int .i64 (y97.flat 5), .int .i64 y97.pair, .int .i64 y97.plab, .lst (List.map encC y97.pairs) false, .int .i64 y97.fn, .int .i64 y97.flab, .lst (List.map encC y97.funs) false]]) rfl (by repeat (first | exact rzz | apply rcc rfl | apply rnn rfl)) rfl (?_ : GL _ _ _ _ _)
                        rcases cond_s hr with ⟨hc95, hr⟩ | ⟨hc95, hr⟩
                        · refine L_T rfl hc95 ?_
                          refine L_reg ?_
                          refine G_p rfl rfl rfl ?_
                          refine G_h (v := .agg (cC y97)) rfl rfl rfl (fun _ => rfl) ?_
                          obtain ⟨r111, hr111, hr⟩ := bind_s hr
                          refine G_c 41 rfl rfl (CA_of (as := [.agg (cC y97)]) rfl (oCdr_ok hr111)) ?_
                          refine G_h (v := .lst (List.map encC [r111]) true) rfl rfl rfl (fun _ => Eq.trans (b := some (Ex.ok (AVal.lst [.agg (cC r111)] true), _)) rfl (congrArg (fun z => some (Ex.ok (AVal.lst z true), _)) (by first | rfl | (simp only [List.map_cons, List.map_nil, encC_eq] <;> rfl)))) ?_
                          obtain ⟨l112, hl112, hr⟩ := bind_s hr
                          refine G_h rfl rfl rfl (appG2_ev (es := 12) encC_w1 (show (128 : Nat) ≤ 1400 from by decide) rfl rfl rfl rfl hl112 rfl) ?_
                          refine G_p rfl rfl rfl ?_
                          refine G_nil ?_
                          refine L_nil ?_
                          refine Blk_norm (?_ : GL _ _ _ _ _)
                          refine L_nil ?_
                          exact Sm_norm (e2 := [(0, .lst (List.map encC l1) false), (2, .lst (List.map (AVal.int .i64) steps3) false), (4, .ptr 0 0), (9, .int .i64 ((List.length v2.of : Nat) : Int)), (10, .int .i64 x26), (11, .gl 1 (List.length l112)), (12, .int .i64 ((i98 : Nat) : Int))]) (H1 := [(kg12 v2), growM 12 encC l112, .cells [.int .i64 (y97.flat 0), .int .i64 (y97.flat 1), .int .i64 (y97.flat 2), .int .i64 (y97.flat 3), .int .i64 (y97.flat 4), .int .i64 (y97.flat 5), .int .i64 y97.pair, .int .i64 y97.plab, .lst (List.map encC y97.pairs) false, .int .i64 y97.fn, .int .i64 y97.flab, .lst (List.map encC y97.funs) false]]) (H2 := [(kg12 v2), growM 12 encC l112]) rfl (by repeat (first | exact rzz | apply rcc rfl | apply rnn rfl)) rfl ⟨l112, rfl, rfl, hr⟩
                        · refine L_F rfl hc95 ?_
                          refine L_seq ?_
                          refine L_stmt ?_
                          refine L_reg ?_
                          refine G_p rfl rfl rfl ?_
                          refine G_h rfl rfl rfl (fun _ => rfl) ?_
                          refine G_p rfl rfl rfl ?_
                          refine G_p rfl rfl rfl ?_
                          refine G_or (f := ((decide (y97.fn = 2)) && (!decide (((List.length y97.funs : Nat) : Int) = ((List.length v2.of : Nat) : Int))))) [_, _, _, _, _, _, _, _, _, _] rfl rfl ?_ ?_
                          · intro hb104
                            refine G_p rfl rfl rfl ?_
                            refine G_h rfl rfl rfl (fun _ => rfl) ?_
                            refine G_p rfl rfl rfl ?_
                            refine G_p rfl rfl rfl ?_
                            refine G_and (f := (!decide (((List.length y97.funs : Nat) : Int) = ((List.length v2.of : Nat) : Int)))) [_, _, _, _, _] rfl rfl ?_ ?_
                            · intro hb108
                              refine G_p rfl rfl rfl ?_
                              refine G_h (v := .lst (List.map encC y97.funs) false) rfl rfl rfl (fun _ => rfl) ?_
                              refine G_h rfl rfl rfl (lenL_ev rfl (List.length_map _)) ?_
                              refine G_p rfl rfl rfl ?_
                              refine G_p rfl rfl rfl ?_
                              exact G_nil (L_nil ⟨rfl, rfl, rfl⟩)
                            · intro vs hvs
                              obtain ⟨u109, u110, u111, u112, u113, rfl⟩ := len5 hvs
                              dsimp only [junk]
                              exact G_nil (L_nil ⟨rfl, rfl, rfl⟩)
                          · intro vs hvs
                            obtain ⟨u105, u106, u107, u108, u109, u110, u111, u112, u113, u114, rfl⟩ := len10 hvs
                            dsimp only [junk]
                            refine G_nil ?_
                            refine L_nil ?_
                            refine Sm_norm (e2 := [(0, .lst (List.map encC l1) false), (2, .lst (List.map (AVal.int .i64) steps3) false), (4, .ptr 0 0), (9, .int .i64 ((List.length v2.of : Nat) : Int)), (10, .int .i64 x26), (11, .gl 1 (List.length l82)), (12, .int .i64 ((i98 : Nat) : Int)), (13, .ptr 2 0), (115, .bool ((decide (y97.fn = 3)) || ((decide (y97.fn = 2)) && (!decide (((List.length y97.funs : Nat) : Int) = ((List.length v2.of : Nat) : Int))))))]) (H1 := [(kg12 v2), growM 12 encC l82, .cells [.int .i64 (y97.flat 0), .int .i64 (y97.flat 1), .int .i64 (y97.flat 2), .int .i64 (y97.flat 3), .int .i64 (y97.flat 4), .int .i64 (y97.flat 5), .int .i64 y97.pair, .int .i64 y97.plab, .lst (List.map encC y97.pairs) false, .int .i64 y97.fn, .int .i64 y97.flab, .lst (List.map encC y97.funs) false]]) (H2 := [(kg12 v2), growM 12 encC l82, .cells [.int .i64 (y97.flat 0), .int .i64 (y97.flat 1), .int .i64 (y97.flat 2), .int .i64 (y97.flat 3), .int .i64 (y97.flat 4), .int .i64 (y97.flat 5), .int .i64 y97.pair, .int .i64 y97.plab, .lst (List.map encC y97.pairs) false, .int .i64 y97.fn, .int .i64 y97.flab, .lst (List.map encC y97.funs) false]]) rfl (by repeat (first | exact rzz | apply rcc rfl | apply rnn rfl)) rfl (?_ : GL _ _ _ _ _)
                            rcases cond_s hr with ⟨hc115, hr⟩ | ⟨hc115, hr⟩
                            · refine L_T rfl hc115 ?_
                              refine L_seq ?_
                              refine L_reg ?_
                              refine G_p rfl rfl rfl ?_
                              refine G_nil ?_
                              refine L_ret ?_
                              refine Blk_ret ?_
                              refine Sm_ret ?_
                              refine Rd_ret ?_
                              refine Blk_ret ?_
                              refine Sm_ret ?_
                              have hr := some_s hr
                              subst hr
                              exact ⟨_, rfl, _, rfl, rfl⟩
                            · refine L_F rfl hc115 ?_
                              refine L_seq ?_
                              refine L_stmt ?_
                              refine L_reg ?_
                              refine G_p rfl rfl rfl ?_
                              refine G_h rfl rfl rfl (fun _ => rfl) ?_
                              refine G_p rfl rfl rfl ?_
                              refine G_p rfl rfl rfl ?_
                              refine G_and (f := (decide (x26 < (IntKind.wrap .i64 (((List.length v2.of : Nat) : Int) - 1))))) [_, _, _, _] rfl rfl ?_ ?_
                              · intro hb119
                                refine G_p rfl rfl rfl ?_
                                refine G_p rfl rfl rfl ?_
                                refine G_p rfl rfl rfl ?_
                                refine G_p rfl rfl rfl ?_
                                exact G_nil (L_nil ⟨rfl, rfl, rfl⟩)
                              · intro vs hvs
                                obtain ⟨u120, u121, u122, u123, rfl⟩ := len4 hvs
                                dsimp only [junk]
                                refine G_nil ?_
                                refine L_nil ?_
                                refine Sm_norm (e2 := [(0, .lst (List.map encC l1) false), (2, .lst (List.map (AVal.int .i64) steps3) false), (4, .ptr 0 0), (9, .int .i64 ((List.length v2.of : Nat) : Int)), (10, .int .i64 x26), (11, .gl 1 (List.length l82)), (12, .int .i64 ((i98 : Nat) : Int)), (13, .ptr 2 0), (124, .bool ((decide (y97.fn = 2)) && (decide (x26 < (IntKind.wrap .i64 (((List.length v2.of : Nat) : Int) - 1))))))]) (H1 := [(kg12 v2), growM 12 encC l82, .cells [.int .i64 (y97.flat 0), .int .i64 (y97.flat 1), .int .i64 (y97.flat 2), .int .i64 (y97.flat 3), .int .i64 (y97.flat 4), .int .i64 (y97.flat 5), .int .i64 y97.pair, .int .i64 y97.plab, .lst (List.map encC y97.pairs) false, .int .i64 y97.fn, .int .i64 y97.flab, .lst (List.map encC y97.funs) false]]) (H2 := [(kg12 v2), growM 12 encC l82, .cells [.int .i64 (y97.flat 0), .int .i64 (y97.flat 1), .int .i64 (y97.flat 2), .int .i64 (y97.flat 3), .int .i64 (y97.flat 4), .int .i64 (y97.flat 5), .int .i64 y97.pair, .int .i64 y97.plab, .lst (List.map encC y97.pairs) false, .int .i64 y97.fn, .int .i64 y97.flab, .lst (List.map encC y97.funs) false]]) rfl (by repeat (first | exact rzz | apply rcc rfl | apply rnn rfl)) rfl (?_ : GL _ _ _ _ _)
                                rcases cond_s hr with ⟨hc124, hr⟩ | ⟨hc124, hr⟩
                                · refine L_T rfl hc124 ?_
                                  refine L_seq ?_
                                  refine L_reg ?_
                                  refine G_p rfl rfl rfl ?_
                                  refine G_h (v := .lst (List.map encC y97.funs) false) rfl rfl rfl (fun _ => rfl) ?_
                                  refine G_p rfl rfl rfl ?_
                                  obtain ⟨e113, he113, hr⟩ := bind_s hr
                                  refine G_h (v := .ro [.int .i64 (e113.flat 0), .int .i64 (e113.flat 1), .int .i64 (e113.flat 2), .int .i64 (e113.flat 3), .int .i64 (e113.flat 4), .int .i64 (e113.flat 5), .int .i64 e113.pair, .int .i64 e113.plab, .lst (List.map encC e113.pairs) false, .int .i64 e113.fn, .int .i64 e113.flab, .lst (List.map encC e113.funs) false]) rfl rfl rfl (ia_ev (cells := [.int .i64 (e113.flat 0), .int .i64 (e113.flat 1), .int .i64 (e113.flat 2), .int .i64 (e113.flat 3), .int .i64 (e113.flat 4), .int .i64 (e113.flat 5), .int .i64 e113.pair, .int .i64 e113.plab, .lst (List.map encC e113.pairs) false, .int .i64 e113.fn, .int .i64 e113.flab, .lst (List.map encC e113.funs) false]) rfl rfl (idx_s he113).1 (map_get (x := e113) (idx_s he113).2) (encC_flat _) rfl) ?_
                                  refine G_h (v := .agg (cC e113)) rfl rfl rfl (fun _ => rfl) ?_
                                  refine G_h (v := .lst (List.map encC [e113]) true) rfl rfl rfl (fun _ => Eq.trans (b := some (Ex.ok (AVal.lst [.agg (cC e113)] true), _)) rfl (congrArg (fun z => some (Ex.ok (AVal.lst z true), _)) (by first | rfl | (simp only [List.map_cons, List.map_nil, encC_eq] <;> rfl)))) ?_
                                  refine G_p rfl rfl rfl ?_
                                  obtain ⟨l114, hl114, hr⟩ := bind_s hr
                                  rcases emp_or l82 with hEl114 | hEl114
                                  · skip
                                    refine G_h rfl rfl rfl (appO_ev (es := 12) encC_w1 rfl rfl (elems_gl rfl) hEl114 hl114) ?_
                                    refine G_p (v := .lst (List.map encC l114) true) rfl rfl rfl ?_
                                    refine G_nil ?_
                                    refine L_own (H' := [(kg12 v2), growM 12 encC l114, .cells [.int .i64 (y97.flat 0), .int .i64 (y97.flat 1), .int .i64 (y97.flat 2), .int .i64 (y97.flat 3), .int .i64 (y97.flat 4), .int .i64 (y97.flat 5), .int .i64 y97.pair, .int .i64 y97.plab, .lst (List.map encC y97.pairs) false, .int .i64 y97.fn, .int .i64 y97.flab, .lst (List.map encC y97.funs) false]]) (own_r0 (b := 1) (l := l114) (l0 := l82) encC_w1 rfl rfl rfl (by first | exact y3z (by assumption) | exact own_one (by assumption))) ?_
                                    refine L_nil ?_
                                    refine Blk_norm (?_ : GL _ _ _ _ _)
                                    refine L_nil ?_
                                    exact Sm_norm (e2 := [(0, .lst (List.map encC l1) false), (2, .lst (List.map (AVal.int .i64) steps3) false), (4, .ptr 0 0), (9, .int .i64 ((List.length v2.of : Nat) : Int)), (10, .int .i64 x26), (11, .gl 1 (List.length l114)), (12, .int .i64 ((i98 : Nat) : Int))]) (H1 := [(kg12 v2), growM 12 encC l114, .cells [.int .i64 (y97.flat 0), .int .i64 (y97.flat 1), .int .i64 (y97.flat 2), .int .i64 (y97.flat 3), .int .i64 (y97.flat 4), .int .i64 (y97.flat 5), .int .i64 y97.pair, .int .i64 y97.plab, .lst (List.map encC y97.pairs) false, .int .i64 y97.fn, .int .i64 y97.flab, .lst (List.map encC y97.funs) false]]) (H2 := [(kg12 v2), growM 12 encC l114]) rfl (by repeat (first | exact rzz | apply rcc rfl | apply rnn rfl)) rfl ⟨l114, rfl, rfl, hr⟩
                                  · skip
                                    refine G_h rfl rfl rfl (appM_ev (es := 12) encC_w1 (show (128 : Nat) ≤ 1400 from by decide) rfl rfl (elems_gl rfl) hEl114 hl114 (newAt_end _ _)) ?_
                                    refine G_p rfl rfl rfl ?_
                                    refine G_nil ?_
                                    refine L_own (H' := [(kg12 v2), growM 12 encC l114, .cells [.int .i64 (y97.flat 0), .int .i64 (y97.flat 1), .int .i64 (y97.flat 2), .int .i64 (y97.flat 3), .int .i64 (y97.flat 4), .int .i64 (y97.flat 5), .int .i64 y97.pair, .int .i64 y97.plab, .lst (List.map encC y97.pairs) false, .int .i64 y97.fn, .int .i64 y97.flab, .lst (List.map encC y97.funs) false], .dead]) (own_r (b := 1) (b' := 3) (l := l114) (l0 := l82) rfl rfl rfl rfl (by decide) rfl (by first | exact y3z (by assumption) | exact own_one (by assumption))) ?_
                                    refine L_nil ?_
                                    refine Blk_norm (?_ : GL _ _ _ _ _)
                                    refine L_nil ?_
                                    exact Sm_norm (e2 := [(0, .lst (List.map encC l1) false), (2, .lst (List.map (AVal.int .i64) steps3) false), (4, .ptr 0 0), (9, .int .i64 ((List.length v2.of : Nat) : Int)), (10, .int .i64 x26), (11, .gl 1 (List.length l114)), (12, .int .i64 ((i98 : Nat) : Int))]) (H1 := [(kg12 v2), growM 12 encC l114, .cells [.int .i64 (y97.flat 0), .int .i64 (y97.flat 1), .int .i64 (y97.flat 2), .int .i64 (y97.flat 3), .int .i64 (y97.flat 4), .int .i64 (y97.flat 5), .int .i64 y97.pair, .int .i64 y97.plab, .lst (List.map encC y97.pairs) false, .int .i64 y97.fn, .int .i64 y97.flab, .lst (List.map encC y97.funs) false], .dead]) (H2 := [(kg12 v2), growM 12 encC l114]) rfl (by repeat (first | exact rzz | apply rcc rfl | apply rnn rfl)) rfl ⟨l114, rfl, rfl, hr⟩
                                · refine L_F rfl hc124 ?_
                                  refine L_seq ?_
                                  refine L_stmt ?_
                                  refine L_reg ?_
                                  refine G_p rfl rfl rfl ?_
                                  refine G_h rfl rfl rfl (fun _ => rfl) ?_
                                  refine G_p rfl rfl rfl ?_
                                  refine G_nil ?_
                                  refine L_nil ?_
                                  refine Sm_norm (e2 := [(0, .lst (List.map encC l1) false), (2, .lst (List.map (AVal.int .i64) steps3) false), (4, .ptr 0 0), (9, .int .i64 ((List.length v2.of : Nat) : Int)), (10, .int .i64 x26), (11, .gl 1 (List.length l82)), (12, .int .i64 ((i98 : Nat) : Int)), (13, .ptr 2 0), (135, .bool (decide (y97.fn = 2)))]) (H1 := [(kg12 v2), growM 12 encC l82, .cells [.int .i64 (y97.flat 0), .int .i64 (y97.flat 1), .int .i64 (y97.flat 2), .int .i64 (y97.flat 3), .int .i64 (y97.flat 4), .int .i64 (y97.flat 5), .int .i64 y97.pair, .int .i64 y97.plab, .lst (List.map encC y97.pairs) false, .int .i64 y97.fn, .int .i64 y97.flab, .lst (List.map encC y97.funs) false]]) (H2 := [(kg12 v2), growM 12 encC l82, .cells [.int .i64 (y97.flat 0), .int .i64 (y97.flat 1), .int .i64 (y97.flat 2), .int .i64 (y97.flat 3), .int .i64 (y97.flat 4), .int .i64 (y97.flat 5), .int .i64 y97.pair, .int .i64 y97.plab, .lst (List.map encC y97.pairs) false, .int .i64 y97.fn, .int .i64 y97.flab, .lst (List.map encC y97.funs) false]]) rfl (by repeat (first | exact rzz | apply rcc rfl | apply rnn rfl)) rfl (?_ : GL _ _ _ _ _)
                                  rcases cond_s hr with ⟨hc135, hr⟩ | ⟨hc135, hr⟩
                                  · refine L_T rfl hc135 ?_
                                    refine L_reg ?_
                                    refine G_p rfl rfl rfl ?_
                                    refine G_p rfl rfl rfl ?_
                                    refine G_h (v := .lst (List.map encC y97.funs) false) rfl rfl rfl (fun _ => rfl) ?_
                                    refine G_p rfl rfl rfl ?_
                                    obtain ⟨e115, he115, hr⟩ := bind_s hr
                                    refine G_h (v := .ro [.int .i64 (e115.flat 0), .int .i64 (e115.flat 1), .int .i64 (e115.flat 2), .int .i64 (e115.flat 3), .int .i64 (e115.flat 4), .int .i64 (e115.flat 5), .int .i64 e115.pair, .int .i64 e115.plab, .lst (List.map encC e115.pairs) false, .int .i64 e115.fn, .int .i64 e115.flab, .lst (List.map encC e115.funs) false]) rfl rfl rfl (ia_ev (cells := [.int .i64 (e115.flat 0), .int .i64 (e115.flat 1), .int .i64 (e115.flat 2), .int .i64 (e115.flat 3), .int .i64 (e115.flat 4), .int .i64 (e115.flat 5), .int .i64 e115.pair, .int .i64 e115.plab, .lst (List.map encC e115.pairs) false, .int .i64 e115.fn, .int .i64 e115.flab, .lst (List.map encC e115.funs) false]) rfl rfl (idx_s he115).1 (map_get (x := e115) (idx_s he115).2) (encC_flat _) rfl) ?_
                                    refine G_h (v := .agg (cC e115)) rfl rfl rfl (fun _ => rfl) ?_
                                    refine G_h (v := .lst (List.map encC [e115]) true) rfl rfl rfl (fun _ => Eq.trans (b := some (Ex.ok (AVal.lst [.agg (cC e115)] true), _)) rfl (congrArg (fun z => some (Ex.ok (AVal.lst z true), _)) (by first | rfl | (simp only [List.map_cons, List.map_nil, encC_eq] <;> rfl)))) ?_
                                    obtain ⟨l116, hl116, hr⟩ := bind_s hr
                                    refine G_h rfl rfl rfl (appG2_ev (es := 12) encC_w1 (show (128 : Nat) ≤ 1400 from by decide) rfl rfl rfl rfl hl116 rfl) ?_
                                    refine G_p rfl rfl rfl ?_
                                    refine G_nil ?_
                                    refine L_nil ?_
                                    refine Blk_norm (?_ : GL _ _ _ _ _)
                                    refine L_nil ?_
                                    exact Sm_norm (e2 := [(0, .lst (List.map encC l1) false), (2, .lst (List.map (AVal.int .i64) steps3) false), (4, .ptr 0 0), (9, .int .i64 ((List.length v2.of : Nat) : Int)), (10, .int .i64 x26), (11, .gl 1 (List.length l116)), (12, .int .i64 ((i98 : Nat) : Int))]) (H1 := [(kg12 v2), growM 12 encC l116, .cells [.int .i64 (y97.flat 0), .int .i64 (y97.flat 1), .int .i64 (y97.flat 2), .int .i64 (y97.flat 3), .int .i64 (y97.flat 4), .int .i64 (y97.flat 5), .int .i64 y97.pair, .int .i64 y97.plab, .lst (List.map encC y97.pairs) false, .int .i64 y97.fn, .int .i64 y97.flab, .lst (List.map encC y97.funs) false]]) (H2 := [(kg12 v2), growM 12 encC l116]) rfl (by repeat (first | exact rzz | apply rcc rfl | apply rnn rfl)) rfl ⟨l116, rfl, rfl, hr⟩
                                  · refine L_F rfl hc135 ?_
                                    refine L_skip ?_
                                    refine L_nil ?_
                                    refine Blk_norm (?_ : GL _ _ _ _ _)
                                    refine L_nil ?_
                                    exact Sm_norm (e2 := [(0, .lst (List.map encC l1) false), (2, .lst (List.map (AVal.int .i64) steps3) false), (4, .ptr 0 0), (9, .int .i64 ((List.length v2.of : Nat) : Int)), (10, .int .i64 x26), (11, .gl 1 (List.length l82)), (12, .int .i64 ((i98 : Nat) : Int))]) (H1 := [(kg12 v2), growM 12 encC l82, .cells [.int .i64 (y97.flat 0), .int .i64 (y97.flat 1), .int .i64 (y97.flat 2), .int .i64 (y97.flat 3), .int .i64 (y97.flat 4), .int .i64 (y97.flat 5), .int .i64 y97.pair, .int .i64 y97.plab, .lst (List.map encC y97.pairs) false, .int .i64 y97.fn, .int .i64 y97.flab, .lst (List.map encC y97.funs) false]]) (H2 := [(kg12 v2), growM 12 encC l82]) rfl (by repeat (first | exact rzz | apply rcc rfl | apply rnn rfl)) rfl ⟨l82, rfl, rfl, hr⟩
                  · rintro l108 hr
                    show GL _ _ [(0, .lst (List.map encC l1) false), (2, .lst (List.map (AVal.int .i64) steps3) false), (4, .ptr 0 0), (9, .int .i64 ((List.length v2.of : Nat) : Int)), (10, .int .i64 x26), (11, .gl 1 (List.length l108)), (12, .int .i64 ((i98 : Nat) : Int))] [(kg12 v2), growM 12 encC l108] _
                    replace hr : y07 (y00 rec v2 steps3 x26 rest99 (i98 + 1)) l108 = some r := hr
                    unfold y07 at hr
                    refine L_reg ?_
                    refine G_p rfl rfl rfl ?_
                    refine G_v (.int .i64 ((i98 + 1 : Nat) : Int)) rfl rfl rfl (congrArg _ (wrap_next hLq96 hlti98)) ?_
                    refine G_p rfl rfl rfl ?_
                    refine G_nil ?_
                    refine L_nil ?_
                    refine Rd_norm ⟨l108, ?_, rfl, hr⟩
                    show restr _ _ = [(11, .gl 1 (List.length l108)), (12, .int .i64 (((i98 + 1) : Nat) : Int)), (0, .lst (List.map encC l1) false), (2, .lst (List.map (AVal.int .i64) steps3) false), (4, .ptr 0 0), (9, .int .i64 ((List.length v2.of : Nat) : Int)), (10, .int .i64 x26)]
                    (repeat (first | exact rzz | apply rcc rfl | apply rnn rfl))
              · rintro l66 hr
                show GL _ _ [(2, .lst (List.map (AVal.int .i64) steps3) false), (4, .ptr 0 0), (10, .int .i64 x26), (11, .lst (List.map encC l66) false)] [(kg12 v2)] _
                replace hr : y0h rec v2 steps3 x26 l66 = some r := hr
                unfold y0h at hr
                refine L_seq ?_
                refine L_draw0 ?_
                refine GD_p (v := .lst (List.map encC l66) false) rfl rfl rfl ?_
                refine GD_p rfl rfl rfl ?_
                refine GD_h (d := some 146) (v := .lst (List.map encVl v2.of) false) rfl rfl rfl rfl (fun _ => rfl) ?_
                refine GD_p rfl rfl rfl ?_
                obtain ⟨e67, he67, hr⟩ := bind_s hr
                refine GD_h (d := some 148) (v := .ro [.int .i64 e67.tag, .lst (List.map encVl e67.of) false]) rfl rfl rfl rfl (ia_ev (cells := [.int .i64 e67.tag, .lst (List.map encVl e67.of) false]) rfl rfl (idx_s he67).1 (map_get (x := e67) (idx_s he67).2) (y4c _) rfl) ?_
                refine GD_h (d := some 149) (v := .agg (cVl e67)) rfl rfl rfl rfl (fun _ => rfl) ?_
                refine GD_p (v := .lst (List.map (AVal.int .i64) steps3) false) rfl rfl rfl ?_
                obtain ⟨l68, hl68, hr⟩ := bind_s hr
                refine GD_h (d := some 151) (v := .lst (List.map (AVal.int .i64) l68) false) rfl rfl rfl rfl (sub_ev (fl := false) (fun _ => rfl) rfl rfl rfl (.inr ⟨_, rfl⟩) (.inl ⟨rfl, rfl⟩) hl68) ?_
                obtain ⟨r69, hr69, hr⟩ := bind_s hr
                refine GD_c 19 rfl rfl rfl (CA_of (as := [.lst (List.map encC l66) false, .agg (cVl e67), .lst (List.map (AVal.int .i64) l68) false]) rfl (hrec _ _ _ _ hr69)) ?_
                refine GD_p rfl rfl rfl ?_
                refine GD_nil2 (by first | (simp [okFs2, y0d, disj, noneIn, notIn, y0m, sameOn, partsGls, y0j, AOpd.ev, Env.get, Env.put, glsV, glsL]; done) | rfl) ?_
                refine L_ret ?_
                have hr := some_s hr
                subst hr
                exact ⟨_, rfl, _, rfl, rfl⟩
noncomputable def y04 : Nat → (List Co) → Vl → (List Int) → Option Int
  | 0, _, _, _ => none
  | n + 1, l1, v2, steps3 => y0t (y04 n) l1 v2 steps3
theorem y0y : ∀ (n : Nat) {l1 : List Co} {v2 : Vl} {steps3 : List Int} {r : Int} (hr : y04 n l1 v2 steps3 = some r), PRes (tabOf tabL) 19 [.lst (List.map encC l1) false, .agg (cVl v2), .lst (List.map (AVal.int .i64) steps3) false] (.int .i64 r)
  | 0, _, _, _, _, hr => by cases hr
  | n + 1, _, _, _, _, hr => y4e (fun _ _ _ _ h => y0y n h) hr
noncomputable def y0s (n : Nat) (w1 : Wy2) (v2 : Vl) (steps3 : List Int) : Option Bool :=
  ((oAwake).bind fun r4 => ((oLightT w1.s).bind fun r5 => ((oLightT w1.t).bind fun r6 => ((y0l n v2 8).bind fun r7 => ((cond ((((!r5) || (!r6)) || (!r7)) || (decide (10 < ((List.length steps3 : Nat) : Int)))) (some true) (((oRightT w1.s).bind fun r14 => some (!r14)))).bind fun v15 => ((cond v15 (some true) (((oRightT w1.t).bind fun r16 => some (!r16)))).bind fun v17 => ((cond ((((v17 || (decide (w1.a < 1))) || (decide (99 < w1.a))) || (decide (w1.b < 1))) || (decide (99 < w1.b))) (some true) (((oSub w1.s w1.t).bind fun r18 => some (!r18)))).bind fun v19 => (cond v19 (some r4) (cond w1.out ((oFrom w1.t w1.a).bind fun r27 => ((cond r4 (((oSafe w1.t true).bind fun r28 => ((cond (!r28) (some true) (((oFrom w1.s w1.b).bind fun r29 => ((y04 n [r29, r27] v2 steps3).bind fun r30 => ((y04 n [r27] v2 steps3).bind fun r31 => some (decide (r30 = r31))))))).bind fun v32 => some v32))) (some false)).bind fun v36 => some v36)) ((oTo w1.s w1.a).bind fun r45 => ((cond r4 (((oSafe w1.s false).bind fun r46 => ((cond (!r46) (some true) (((oTo w1.t w1.b).bind fun r47 => ((y04 n [r45, r47] v2 steps3).bind fun r48 => ((y04 n [r45] v2 steps3).bind fun r49 => some (decide (r48 = r49))))))).bind fun v50 => some v50))) (some false)).bind fun v54 => some v54)))))))))))
abbrev kg14 (w1 : Wy2) : ABlock := .cells [.bool w1.s.all, .int .i64 w1.s.flat, .int .i64 w1.s.pair, .lst (List.map encT w1.s.pairs) false, .int .i64 w1.s.fn, .lst (List.map encT w1.s.funs) false, .bool w1.t.all, .int .i64 w1.t.flat, .int .i64 w1.t.pair, .lst (List.map encT w1.t.pairs) false, .int .i64 w1.t.fn, .lst (List.map encT w1.t.funs) false, .int .i64 w1.a, .int .i64 w1.b, .bool w1.out]
abbrev kg15 (v2 : Vl) : ABlock := .cells [.int .i64 v2.tag, .lst (List.map encVl v2.of) false]
theorem y2s {n : Nat} {w1 : Wy2} {v2 : Vl} {steps3 : List Int} {r : Bool} (hr : y0s n w1 v2 steps3 = some r) : PRes (tabOf tabL) 6 [.agg (cWy2 w1), .agg (cVl v2), .lst (List.map (AVal.int .i64) steps3) false] (.bool r) := by
  refine pres_fin t6 ?_
  unfold y0s at hr
  refine L_seq ?_
  refine L_stmt ?_
  refine L_reg ?_
  refine G_n (B := (kg14 w1)) rfl rfl rfl ?_
  refine G_n (B := (kg15 v2)) rfl rfl rfl ?_
  refine G_p rfl rfl rfl ?_
  refine G_nil ?_
  refine L_nil ?_
  refine Sm_norm (e2 := [(2, .lst (List.map (AVal.int .i64) steps3) false), (3, .ptr 0 0), (4, .ptr 1 0)]) (H1 := [(kg14 w1), (kg15 v2)]) (H2 := [(kg14 w1), (kg15 v2)]) rfl (by repeat (first | exact rzz | apply rcc rfl | apply rnn rfl)) rfl (?_ : GL _ _ _ _ _)
  refine L_seq ?_
  refine L_stmt ?_
  refine L_reg ?_
  obtain ⟨r4, hr4, hr⟩ := bind_s hr
  refine G_c 7 rfl rfl (CA_of (as := []) rfl (oAwake_ok hr4)) ?_
  refine G_p rfl rfl rfl ?_
  refine G_nil ?_
  refine L_nil ?_
  refine Sm_norm (e2 := [(2, .lst (List.map (AVal.int .i64) steps3) false), (3, .ptr 0 0), (4, .ptr 1 0), (7, .bool r4)]) (H1 := [(kg14 w1), (kg15 v2)]) (H2 := [(kg14 w1), (kg15 v2)]) rfl (by repeat (first | exact rzz | apply rcc rfl | apply rnn rfl)) rfl (?_ : GL _ _ _ _ _)
  refine L_seq ?_
  refine L_stmt ?_
  refine L_reg ?_
  refine G_p rfl rfl rfl ?_
  refine G_h (v := .agg (cT w1.s)) rfl rfl rfl (fun _ => rfl) ?_
  obtain ⟨r5, hr5, hr⟩ := bind_s hr
  refine G_c 12 rfl rfl (CA_of (as := [.agg (cT w1.s)]) rfl (y4j hr5)) ?_
  refine G_p rfl rfl rfl ?_
  refine G_nil ?_
  refine L_nil ?_
  refine Sm_norm (e2 := [(2, .lst (List.map (AVal.int .i64) steps3) false), (3, .ptr 0 0), (4, .ptr 1 0), (7, .bool r4), (8, .bool r5)]) (H1 := [(kg14 w1), (kg15 v2)]) (H2 := [(kg14 w1), (kg15 v2)]) rfl (by repeat (first | exact rzz | apply rcc rfl | apply rnn rfl)) rfl (?_ : GL _ _ _ _ _)
  refine L_seq ?_
  refine L_stmt ?_
  refine L_reg ?_
  refine G_p rfl rfl rfl ?_
  refine G_h (v := .agg (cT w1.t)) rfl rfl rfl (fun _ => rfl) ?_
  obtain ⟨r6, hr6, hr⟩ := bind_s hr
  refine G_c 12 rfl rfl (CA_of (as := [.agg (cT w1.t)]) rfl (y4j hr6)) ?_
  refine G_p rfl rfl rfl ?_
  refine G_nil ?_
  refine L_nil ?_
  refine Sm_norm (e2 := [(2, .lst (List.map (AVal.int .i64) steps3) false), (3, .ptr 0 0), (4, .ptr 1 0), (7, .bool r4), (8, .bool r5), (9, .bool r6)]) (H1 := [(kg14 w1), (kg15 v2)]) (H2 := [(kg14 w1), (kg15 v2)]) rfl (by repeat (first | exact rzz | apply rcc rfl | apply rnn rfl)) rfl (?_ : GL _ _ _ _ _)
  refine L_seq ?_
  refine L_stmt ?_
  refine L_reg ?_
  refine G_h (v := .agg (cVl v2)) rfl rfl rfl (fun _ => rfl) ?_
  obtain ⟨r7, hr7, hr⟩ := bind_s hr
  refine G_c 16 rfl rfl (CA_of (as := [.agg (cVl v2), .int .i64 8]) rfl (y2m n hr7)) ?_
  refine G_p rfl rfl rfl ?_
  refine G_nil ?_
  refine L_nil ?_
  refine Sm_norm (e2 := [(2, .lst (List.map (AVal.int .i64) steps3) false), (3, .ptr 0 0), (4, .ptr 1 0), (7, .bool r4), (8, .bool r5), (9, .bool r6), (10, .bool r7)]) (H1 := [(kg14 w1), (kg15 v2)]) (H2 := [(kg14 w1), (kg15 v2)]) rfl (by repeat (first | exact rzz | apply rcc rfl | apply rnn rfl)) rfl (?_ : GL _ _ _ _ _)
  refine L_seq ?_
  refine L_stmt ?_
  refine L_seq ?_
  refine L_stmt ?_
  refine L_reg ?_
  refine G_p rfl rfl rfl ?_
  refine G_p rfl rfl rfl ?_
  refine G_p rfl rfl rfl ?_
  refine G_or (f := (!r6)) [_, _] rfl rfl ?_ ?_
  · intro hb24
    refine G_p rfl rfl rfl ?_
    refine G_p rfl rfl rfl ?_
    exact G_nil (L_nil ⟨rfl, rfl, rfl⟩)
  · intro vs hvs
    obtain ⟨u25, u26, rfl⟩ := len2 hvs
    dsimp only [junk]
    refine G_p rfl rfl rfl ?_
    refine G_or (f := (!r7)) [_, _] rfl rfl ?_ ?_
    · intro hb28
      refine G_p rfl rfl rfl ?_
      refine G_p rfl rfl rfl ?_
      exact G_nil (L_nil ⟨rfl, rfl, rfl⟩)
    · intro vs hvs
      obtain ⟨u29, u30, rfl⟩ := len2 hvs
      dsimp only [junk]
      refine G_p rfl rfl rfl ?_
      refine G_or (f := (decide (10 < ((List.length steps3 : Nat) : Int)))) [_, _, _] rfl rfl ?_ ?_
      · intro hb32
        refine G_p (v := .lst (List.map (AVal.int .i64) steps3) false) rfl rfl rfl ?_
        refine G_h rfl rfl rfl (lenL_ev rfl (List.length_map _)) ?_
        refine G_p rfl rfl rfl ?_
        exact G_nil (L_nil ⟨rfl, rfl, rfl⟩)
      · intro vs hvs
        obtain ⟨u33, u34, u35, rfl⟩ := len3 hvs
        dsimp only [junk]
        refine G_p rfl rfl rfl ?_
        obtain ⟨v15, hvv15, hr⟩ := bind_s hr
        refine G_pick false [_, _, _, _] (v := .bool v15) (vo := .bool true) rfl rfl ?_ ?_ rfl ?_
        · intro hb37
          have hr := condF hb37 hvv15
          refine G_p rfl rfl rfl ?_
          refine G_h (v := .agg (cT w1.s)) rfl rfl rfl (fun _ => rfl) ?_
          obtain ⟨r14, hr14, hr⟩ := bind_s hr
          refine G_c 13 rfl rfl (CA_of (as := [.agg (cT w1.s)]) rfl (y44 hr14)) ?_
          refine G_p rfl rfl rfl ?_
          cases hr; exact G_nil (L_nil ⟨rfl, rfl, rfl⟩)
        · intro hb37; exact pickF hvv15 hb37
        · intro vs hvs
          obtain ⟨u38, u39, u40, u41, rfl⟩ := len4 hvs
          dsimp only [junk]
          refine G_p rfl rfl rfl ?_
          obtain ⟨v17, hvv17, hr⟩ := bind_s hr
          refine G_pick false [_, _, _, _] (v := .bool v17) (vo := .bool true) rfl rfl ?_ ?_ rfl ?_
          · intro hb43
            have hr := condF hb43 hvv17
            refine G_p rfl rfl rfl ?_
            refine G_h (v := .agg (cT w1.t)) rfl rfl rfl (fun _ => rfl) ?_
            obtain ⟨r16, hr16, hr⟩ := bind_s hr
            refine G_c 13 rfl rfl (CA_of (as := [.agg (cT w1.t)]) rfl (y44 hr16)) ?_
            refine G_p rfl rfl rfl ?_
            cases hr; exact G_nil (L_nil ⟨rfl, rfl, rfl⟩)
          · intro hb43; exact pickF hvv17 hb43
          · intro vs hvs
            obtain ⟨u44, u45, u46, u47, rfl⟩ := len4 hvs
            dsimp only [junk]
            refine G_p rfl rfl rfl ?_
            refine G_or (f := (decide (w1.a < 1))) [_, _, _] rfl rfl ?_ ?_
            · intro hb49
              refine G_p rfl rfl rfl ?_
              refine G_h rfl rfl rfl (fun _ => rfl) ?_
              refine G_p rfl rfl rfl ?_
              exact G_nil (L_nil ⟨rfl, rfl, rfl⟩)
            · intro vs hvs
              obtain ⟨u50, u51, u52, rfl⟩ := len3 hvs
              dsimp only [junk]
              refine G_p rfl rfl rfl ?_
              refine G_or (f := (decide (99 < w1.a))) [_, _, _] rfl rfl ?_ ?_
              · intro hb54
                refine G_p rfl rfl rfl ?_
                refine G_h rfl rfl rfl (fun _ => rfl) ?_
                refine G_p rfl rfl rfl ?_
                exact G_nil (L_nil ⟨rfl, rfl, rfl⟩)
              · intro vs hvs
                obtain ⟨u55, u56, u57, rfl⟩ := len3 hvs
                dsimp only [junk]
                refine G_p rfl rfl rfl ?_
                refine G_or (f := (decide (w1.b < 1))) [_, _, _] rfl rfl ?_ ?_
                · intro hb59
                  refine G_p rfl rfl rfl ?_
                  refine G_h rfl rfl rfl (fun _ => rfl) ?_
                  refine G_p rfl rfl rfl ?_
                  exact G_nil (L_nil ⟨rfl, rfl, rfl⟩)
                · intro vs hvs
                  obtain ⟨u60, u61, u62, rfl⟩ := len3 hvs
                  dsimp only [junk]
                  refine G_p rfl rfl rfl ?_
                  refine G_or (f := (decide (99 < w1.b))) [_, _, _] rfl rfl ?_ ?_
                  · intro hb64
                    refine G_p rfl rfl rfl ?_
                    refine G_h rfl rfl rfl (fun _ => rfl) ?_
                    refine G_p rfl rfl rfl ?_
                    exact G_nil (L_nil ⟨rfl, rfl, rfl⟩)
                  · intro vs hvs
                    obtain ⟨u65, u66, u67, rfl⟩ := len3 hvs
                    dsimp only [junk]
                    refine G_p rfl rfl rfl ?_
                    obtain ⟨v19, hvv19, hr⟩ := bind_s hr
                    refine G_pick false [_, _, _, _, _, _] (v := .bool v19) (vo := .bool true) rfl rfl ?_ ?_ rfl ?_
                    · intro hb69
                      have hr := condF hb69 hvv19
                      refine G_p rfl rfl rfl ?_
                      refine G_h (v := .agg (cT w1.s)) rfl rfl rfl (fun _ => rfl) ?_
                      refine G_p rfl rfl rfl ?_
                      refine G_h (v := .agg (cT w1.t)) rfl rfl rfl (fun _ => rfl) ?_
                      obtain ⟨r18, hr18, hr⟩ := bind_s hr
                      refine G_c 17 rfl rfl (CA_of (as := [.agg (cT w1.s), .agg (cT w1.t)]) rfl (oSub_ok hr18)) ?_
                      refine G_p rfl rfl rfl ?_
                      cases hr; exact G_nil (L_nil ⟨rfl, rfl, rfl⟩)
                    · intro hb69; exact pickF hvv19 hb69
                    · intro vs hvs
                      obtain ⟨u70, u71, u72, u73, u74, u75, rfl⟩ := len6 hvs
                      dsimp only [junk]
                      refine G_nil ?_
                      refine L_nil ?_
                      refine Sm_norm (e2 := [(2, .lst (List.map (AVal.int .i64) steps3) false), (3, .ptr 0 0), (4, .ptr 1 0), (7, .bool r4), (76, .bool v19)]) (H1 := [(kg14 w1), (kg15 v2)]) (H2 := [(kg14 w1), (kg15 v2)]) rfl (by repeat (first | exact rzz | apply rcc rfl | apply rnn rfl)) rfl (?_ : GL _ _ _ _ _)
                      rcases cond_s hr with ⟨hc76, hr⟩ | ⟨hc76, hr⟩
                      · refine L_T rfl hc76 ?_
                        refine L_seq ?_
                        refine L_reg ?_
                        refine G_p rfl rfl rfl ?_
                        refine G_p rfl rfl rfl ?_
                        refine G_nil ?_
                        refine L_ret ?_
                        refine Sm_ret ?_
                        have hr := some_s hr
                        subst hr
                        exact ⟨_, rfl, _, rfl, rfl⟩
                      · refine L_F rfl hc76 ?_
                        refine L_skip ?_
                        refine L_nil ?_
                        refine Sm_norm (e2 := [(2, .lst (List.map (AVal.int .i64) steps3) false), (3, .ptr 0 0), (4, .ptr 1 0), (7, .bool r4)]) (H1 := [(kg14 w1), (kg15 v2)]) (H2 := [(kg14 w1), (kg15 v2)]) rfl (by repeat (first | exact rzz | apply rcc rfl | apply rnn rfl)) rfl (?_ : GL _ _ _ _ _)
                        refine L_seq ?_
                        refine L_stmt ?_
                        refine L_seq ?_
                        refine L_stmt ?_
                        refine L_reg ?_
                        refine G_p rfl rfl rfl ?_
                        refine G_h rfl rfl rfl (fun _ => rfl) ?_
                        refine G_nil ?_
                        refine L_nil ?_
                        refine Sm_norm (e2 := [(2, .lst (List.map (AVal.int .i64) steps3) false), (3, .ptr 0 0), (4, .ptr 1 0), (7, .bool r4), (79, .bool w1.out)]) (H1 := [(kg14 w1), (kg15 v2)]) (H2 := [(kg14 w1), (kg15 v2)]) rfl (by repeat (first | exact rzz | apply rcc rfl | apply rnn rfl)) rfl (?_ : GL _ _ _ _ _)
                        rcases cond_s hr with ⟨hc79, hr⟩ | ⟨hc79, hr⟩
                        · refine L_T rfl hc79 ?_
                          refine L_seq ?_
                          refine L_stmt ?_
                          refine L_reg ?_
                          refine G_p rfl rfl rfl ?_
                          refine G_h (v := .agg (cT w1.t)) rfl rfl rfl (fun _ => rfl) ?_
                          refine G_p rfl rfl rfl ?_
                          refine G_h rfl rfl rfl (fun _ => rfl) ?_
                          obtain ⟨r27, hr27, hr⟩ := bind_s hr
                          refine G_c 18 rfl rfl (CA_of (as := [.agg (cT w1.t), .int .i64 w1.a]) rfl (oFrom_ok hr27)) ?_
                          refine G_n (B := .cells [.int .i64 0, .int .i64 0, .int .i64 0, .int .i64 0, .int .i64 0, .int .i64 0, .int .i64 0, .int .i64 0, .lst [] true, .int .i64 0, .int .i64 0, .lst [] true]) rfl rfl rfl ?_
                          refine G_hn (H' := [(kg14 w1), (kg15 v2), .cells [.int .i64 (r27.flat 0), .int .i64 (r27.flat 1), .int .i64 (r27.flat 2), .int .i64 (r27.flat 3), .int .i64 (r27.flat 4), .int .i64 (r27.flat 5), .int .i64 r27.pair, .int .i64 r27.plab, .lst (List.map encC r27.pairs) false, .int .i64 r27.fn, .int .i64 r27.flab, .lst (List.map encC r27.funs) false]]) rfl rfl rfl (fun _ => rfl) ?_
                          refine G_nil ?_
                          refine L_nil ?_
                          refine Sm_norm (e2 := [(2, .lst (List.map (AVal.int .i64) steps3) false), (3, .ptr 0 0), (4, .ptr 1 0), (7, .bool r4), (11, .ptr 2 0)]) (H1 := [(kg14 w1), (kg15 v2), .cells [.int .i64 (r27.flat 0), .int .i64 (r27.flat 1), .int .i64 (r27.flat 2), .int .i64 (r27.flat 3), .int .i64 (r27.flat 4), .int .i64 (r27.flat 5), .int .i64 r27.pair, .int .i64 r27.plab, .lst (List.map encC r27.pairs) false, .int .i64 r27.fn, .int .i64 r27.flab, .lst (List.map encC r27.funs) false]]) (H2 := [(kg14 w1), (kg15 v2), .cells [.int .i64 (r27.flat 0), .int .i64 (r27.flat 1), .int .i64 (r27.flat 2), .int .i64 (r27.flat 3), .int .i64 (r27.flat 4), .int .i64 (r27.flat 5), .int .i64 r27.pair, .int .i64 r27.plab, .lst (List.map encC r27.pairs) false, .int .i64 r27.fn, .int .i64 r27.flab, .lst (List.map encC r27.funs) false]]) rfl (by repeat (first | exact rzz | apply rcc rfl | apply rnn rfl)) rfl (?_ : GL _ _ _ _ _)
                          refine L_seq ?_
                          refine L_draw0 ?_
                          refine GD_p rfl rfl rfl ?_
                          refine GD_p rfl rfl rfl ?_
                          obtain ⟨v36, hvv36, hr⟩ := bind_s hr
                          rcases cond_s hvv36 with ⟨hb86, hvv36⟩ | ⟨hb86, hvv36⟩
                          · skip
                            have hkv36 := hr
                            have hr := hvv36
                            refine GD_p rfl (wt rfl hb86) rfl ?_
                            refine GD_h (d := some 88) (v := .agg (cT w1.t)) rfl rfl (wt rfl hb86) rfl (fun _ => rfl) ?_
                            obtain ⟨r37, hr37, hr⟩ := bind_s hr
                            refine GD_c 14 (wt rfl hb86) rfl rfl (CA_of (as := [.agg (cT w1.t), .bool true]) rfl (oSafe_ok hr37)) ?_
                            refine GD_p rfl (wt rfl hb86) rfl ?_
                            refine GD_p rfl (wt rfl hb86) rfl ?_
                            obtain ⟨v41, hvv41, hr⟩ := bind_s hr
                            rcases cond_s hvv41 with ⟨hb91, hvv41⟩ | ⟨hb91, hvv41⟩
                            · skip
                              refine GD_s (wf rfl hb91) ?_
                              refine GD_s (wf rfl hb91) ?_
                              refine GD_s (wf rfl hb91) ?_
                              refine GD_s (wf rfl hb91) ?_
                              refine GD_s (wf rfl hb91) ?_
                              refine GD_s (wf rfl hb91) ?_
                              refine GD_s (wf rfl hb91) ?_
                              refine GD_s (wf rfl hb91) ?_
                              refine GD_s (wf rfl hb91) ?_
                              refine GD_s (wf rfl hb91) ?_
                              refine GD_s (wf rfl hb91) ?_
                              refine GD_s (wf rfl hb91) ?_
                              refine GD_s (wf rfl hb91) ?_
                              refine GD_s (wf rfl hb91) ?_
                              refine GD_s (wf rfl hb91) ?_
                              refine GD_s (wf rfl hb91) ?_
                              replace hvv41 := some_s hvv41
                              refine GD_v (.bool v41) rfl (wt rfl hb86) (evP_pickT rfl hb91 rfl) (congrArg AVal.bool hvv41) ?_
                              replace hvv36 := some_s hr
                              have hr := hkv36
                              refine GD_v (.bool v36) rfl rfl (evP_pickT rfl hb86 rfl) (congrArg AVal.bool hvv36) ?_
                              refine GD_p rfl rfl rfl ?_
                              refine GD_nil2 (by first | (simp [okFs2, y0d, disj, noneIn, notIn, y0m, sameOn, partsGls, y0j, AOpd.ev, Env.get, Env.put, glsV, glsL]; done) | rfl) ?_
                              refine L_ret ?_
                              refine Sm_ret ?_
                              have hr := some_s hr
                              subst hr
                              exact ⟨_, rfl, _, rfl, rfl⟩
                            · skip
                              have hkv41 := hr
                              have hr := hvv41
                              refine GD_p rfl (wt rfl hb91) rfl ?_
                              refine GD_h (d := some 93) (v := .agg (cT w1.s)) rfl rfl (wt rfl hb91) rfl (fun _ => rfl) ?_
                              refine GD_p rfl (wt rfl hb91) rfl ?_
                              refine GD_h (d := some 95) rfl rfl (wt rfl hb91) rfl (fun _ => rfl) ?_
                              obtain ⟨r42, hr42, hr⟩ := bind_s hr
                              refine GD_c 18 (wt rfl hb91) rfl rfl (CA_of (as := [.agg (cT w1.s), .int .i64 w1.b]) rfl (oFrom_ok hr42)) ?_
                              refine GD_h (d := some 97) (v := .agg (cC r27)) rfl rfl (wt rfl hb91) rfl (fun _ => rfl) ?_
                              refine GD_h (d := some 98) (v := .lst (List.map encC [r42, r27]) true) rfl rfl (wt rfl hb91) rfl (fun _ => Eq.trans (b := some (Ex.ok (AVal.lst [.agg (cC r42), .agg (cC r27)] true), _)) rfl (congrArg (fun z => some (Ex.ok (AVal.lst z true), _)) (by first | rfl | (simp only [List.map_cons, List.map_nil, encC_eq] <;> rfl)))) ?_
                              refine GD_h (d := some 99) (v := .agg (cVl v2)) rfl rfl (wt rfl hb91) rfl (fun _ => rfl) ?_
                              refine GD_p (v := .lst (List.map (AVal.int .i64) steps3) false) rfl (wt rfl hb91) rfl ?_
                              obtain ⟨r43, hr43, hr⟩ := bind_s hr
                              refine GD_c 19 (wt rfl hb91) rfl rfl (CA_of (as := [.lst (List.map encC [r42, r27]) false, .agg (cVl v2), .lst (List.map (AVal.int .i64) steps3) false]) rfl (y0y n hr43)) ?_
                              refine GD_h (d := some 102) (v := .agg (cC r27)) rfl rfl (wt rfl hb91) rfl (fun _ => rfl) ?_
                              refine GD_h (d := some 103) (v := .lst (List.map encC [r27]) true) rfl rfl (wt rfl hb91) rfl (fun _ => Eq.trans (b := some (Ex.ok (AVal.lst [.agg (cC r27)] true), _)) rfl (congrArg (fun z => some (Ex.ok (AVal.lst z true), _)) (by first | rfl | (simp only [List.map_cons, List.map_nil, encC_eq] <;> rfl)))) ?_
                              refine GD_h (d := some 104) (v := .agg (cVl v2)) rfl rfl (wt rfl hb91) rfl (fun _ => rfl) ?_
                              refine GD_p (v := .lst (List.map (AVal.int .i64) steps3) false) rfl (wt rfl hb91) rfl ?_
                              obtain ⟨r44, hr44, hr⟩ := bind_s hr
                              refine GD_c 19 (wt rfl hb91) rfl rfl (CA_of (as := [.lst (List.map encC [r27]) false, .agg (cVl v2), .lst (List.map (AVal.int .i64) steps3) false]) rfl (y0y n hr44)) ?_
                              refine GD_p rfl (wt rfl hb91) rfl ?_
                              replace hvv41 := some_s hr
                              have hr := hkv41
                              refine GD_v (.bool v41) rfl (wt rfl hb86) (evP_pickF rfl hb91 rfl) (congrArg AVal.bool hvv41) ?_
                              replace hvv36 := some_s hr
                              have hr := hkv36
                              refine GD_v (.bool v36) rfl rfl (evP_pickT rfl hb86 rfl) (congrArg AVal.bool hvv36) ?_
                              refine GD_p rfl rfl rfl ?_
                              refine GD_nil2 (by first | (simp [okFs2, y0d, disj, noneIn, notIn, y0m, sameOn, partsGls, y0j, AOpd.ev, Env.get, Env.put, glsV, glsL]; done) | rfl) ?_
                              refine L_ret ?_
                              refine Sm_ret ?_
                              have hr := some_s hr
                              subst hr
                              exact ⟨_, rfl, _, rfl, rfl⟩
                          · skip
                            refine GD_s (wf rfl hb86) ?_
                            refine GD_s (wf rfl hb86) ?_
                            refine GD_s (wf rfl hb86) ?_
                            refine GD_s (wf rfl hb86) ?_
                            refine GD_s (wf rfl hb86) ?_
                            refine GD_s rfl ?_
                            refine GD_s rfl ?_
                            refine GD_s rfl ?_
                            refine GD_s rfl ?_
                            refine GD_s rfl ?_
                            refine GD_s rfl ?_
                            refine GD_s rfl ?_
                            refine GD_s rfl ?_
                            refine GD_s rfl ?_
                            refine GD_s rfl ?_
                            refine GD_s rfl ?_
                            refine GD_s rfl ?_
                            refine GD_s rfl ?_
                            refine GD_s rfl ?_
                            refine GD_s rfl ?_
                            refine GD_s rfl ?_
                            refine GD_s (wf rfl hb86) ?_
                            replace hvv36 := some_s hvv36
                            refine GD_v (.bool v36) rfl rfl (evP_pickF rfl hb86 rfl) (congrArg AVal.bool hvv36) ?_
                            refine GD_p rfl rfl rfl ?_
                            refine GD_nil2 (by first | (simp [okFs2, y0d, disj, noneIn, notIn, y0m, sameOn, partsGls, y0j, AOpd.ev, Env.get, Env.put, glsV, glsL]; done) | rfl) ?_
                            refine L_ret ?_
                            refine Sm_ret ?_
                            have hr := some_s hr
                            subst hr
                            exact ⟨_, rfl, _, rfl, rfl⟩
                        · refine L_F rfl hc79 ?_
                          refine L_skip ?_
                          refine L_nil ?_
                          refine Sm_norm (e2 := [(2, .lst (List.map (AVal.int .i64) steps3) false), (3, .ptr 0 0), (4, .ptr 1 0), (7, .bool r4)]) (H1 := [(kg14 w1), (kg15 v2)]) (H2 := [(kg14 w1), (kg15 v2)]) rfl (by repeat (first | exact rzz | apply rcc rfl | apply rnn rfl)) rfl (?_ : GL _ _ _ _ _)
                          refine L_seq ?_
                          refine L_stmt ?_
                          refine L_reg ?_
                          refine G_p rfl rfl rfl ?_
                          refine G_h (v := .agg (cT w1.s)) rfl rfl rfl (fun _ => rfl) ?_
                          refine G_p rfl rfl rfl ?_
                          refine G_h rfl rfl rfl (fun _ => rfl) ?_
                          obtain ⟨r45, hr45, hr⟩ := bind_s hr
                          refine G_c 20 rfl rfl (CA_of (as := [.agg (cT w1.s), .int .i64 w1.a]) rfl (oTo_ok hr45)) ?_
                          refine G_n (B := .cells [.int .i64 0, .int .i64 0, .int .i64 0, .int .i64 0, .int .i64 0, .int .i64 0, .int .i64 0, .int .i64 0, .lst [] true, .int .i64 0, .int .i64 0, .lst [] true]) rfl rfl rfl ?_
                          refine G_hn (H' := [(kg14 w1), (kg15 v2), .cells [.int .i64 (r45.flat 0), .int .i64 (r45.flat 1), .int .i64 (r45.flat 2), .int .i64 (r45.flat 3), .int .i64 (r45.flat 4), .int .i64 (r45.flat 5), .int .i64 r45.pair, .int .i64 r45.plab, .lst (List.map encC r45.pairs) false, .int .i64 r45.fn, .int .i64 r45.flab, .lst (List.map encC r45.funs) false]]) rfl rfl rfl (fun _ => rfl) ?_
                          refine G_nil ?_
                          refine L_nil ?_
                          refine Sm_norm (e2 := [(2, .lst (List.map (AVal.int .i64) steps3) false), (3, .ptr 0 0), (4, .ptr 1 0), (7, .bool r4), (12, .ptr 2 0)]) (H1 := [(kg14 w1), (kg15 v2), .cells [.int .i64 (r45.flat 0), .int .i64 (r45.flat 1), .int .i64 (r45.flat 2), .int .i64 (r45.flat 3), .int .i64 (r45.flat 4), .int .i64 (r45.flat 5), .int .i64 r45.pair, .int .i64 r45.plab, .lst (List.map encC r45.pairs) false, .int .i64 r45.fn, .int .i64 r45.flab, .lst (List.map encC r45.funs) false]]) (H2 := [(kg14 w1), (kg15 v2), .cells [.int .i64 (r45.flat 0), .int .i64 (r45.flat 1), .int .i64 (r45.flat 2), .int .i64 (r45.flat 3), .int .i64 (r45.flat 4), .int .i64 (r45.flat 5), .int .i64 r45.pair, .int .i64 r45.plab, .lst (List.map encC r45.pairs) false, .int .i64 r45.fn, .int .i64 r45.flab, .lst (List.map encC r45.funs) false]]) rfl (by repeat (first | exact rzz | apply rcc rfl | apply rnn rfl)) rfl (?_ : GL _ _ _ _ _)
                          refine L_seq ?_
                          refine L_draw0 ?_
                          refine GD_p rfl rfl rfl ?_
                          refine GD_p rfl rfl rfl ?_
                          obtain ⟨v54, hvv54, hr⟩ := bind_s hr
                          rcases cond_s hvv54 with ⟨hb116, hvv54⟩ | ⟨hb116, hvv54⟩
                          · skip
                            have hkv54 := hr
                            have hr := hvv54
                            refine GD_p rfl (wt rfl hb116) rfl ?_
                            refine GD_h (d := some 118) (v := .agg (cT w1.s)) rfl rfl (wt rfl hb116) rfl (fun _ => rfl) ?_
                            obtain ⟨r55, hr55, hr⟩ := bind_s hr
                            refine GD_c 14 (wt rfl hb116) rfl rfl (CA_of (as := [.agg (cT w1.s), .bool false]) rfl (oSafe_ok hr55)) ?_
                            refine GD_p rfl (wt rfl hb116) rfl ?_
                            refine GD_p rfl (wt rfl hb116) rfl ?_
                            obtain ⟨v59, hvv59, hr⟩ := bind_s hr
                            rcases cond_s hvv59 with ⟨hb121, hvv59⟩ | ⟨hb121, hvv59⟩
                            · skip
                              refine GD_s (wf rfl hb121) ?_
                              refine GD_s (wf rfl hb121) ?_
                              refine GD_s (wf rfl hb121) ?_
                              refine GD_s (wf rfl hb121) ?_
                              refine GD_s (wf rfl hb121) ?_
                              refine GD_s (wf rfl hb121) ?_
                              refine GD_s (wf rfl hb121) ?_
                              refine GD_s (wf rfl hb121) ?_
                              refine GD_s (wf rfl hb121) ?_
                              refine GD_s (wf rfl hb121) ?_
                              refine GD_s (wf rfl hb121) ?_
                              refine GD_s (wf rfl hb121) ?_
                              refine GD_s (wf rfl hb121) ?_
                              refine GD_s (wf rfl hb121) ?_
                              refine GD_s (wf rfl hb121) ?_
                              refine GD_s (wf rfl hb121) ?_
                              replace hvv59 := some_s hvv59
                              refine GD_v (.bool v59) rfl (wt rfl hb116) (evP_pickT rfl hb121 rfl) (congrArg AVal.bool hvv59) ?_
                              replace hvv54 := some_s hr
                              have hr := hkv54
                              refine GD_v (.bool v54) rfl rfl (evP_pickT rfl hb116 rfl) (congrArg AVal.bool hvv54) ?_
                              refine GD_p rfl rfl rfl ?_
                              refine GD_nil2 (by first | (simp [okFs2, y0d, disj, noneIn, notIn, y0m, sameOn, partsGls, y0j, AOpd.ev, Env.get, Env.put, glsV, glsL]; done) | rfl) ?_
                              refine L_ret ?_
                              have hr := some_s hr
                              subst hr
                              exact ⟨_, rfl, _, rfl, rfl⟩
                            · skip
                              have hkv59 := hr
                              have hr := hvv59
                              refine GD_h (d := some 122) (v := .agg (cC r45)) rfl rfl (wt rfl hb121) rfl (fun _ => rfl) ?_
                              refine GD_p rfl (wt rfl hb121) rfl ?_
                              refine GD_h (d := some 124) (v := .agg (cT w1.t)) rfl rfl (wt rfl hb121) rfl (fun _ => rfl) ?_
                              refine GD_p rfl (wt rfl hb121) rfl ?_
                              refine GD_h (d := some 126) rfl rfl (wt rfl hb121) rfl (fun _ => rfl) ?_
                              obtain ⟨r60, hr60, hr⟩ := bind_s hr
                              refine GD_c 20 (wt rfl hb121) rfl rfl (CA_of (as := [.agg (cT w1.t), .int .i64 w1.b]) rfl (oTo_ok hr60)) ?_
                              refine GD_h (d := some 128) (v := .lst (List.map encC [r45, r60]) true) rfl rfl (wt rfl hb121) rfl (fun _ => Eq.trans (b := some (Ex.ok (AVal.lst [.agg (cC r45), .agg (cC r60)] true), _)) rfl (congrArg (fun z => some (Ex.ok (AVal.lst z true), _)) (by first | rfl | (simp only [List.map_cons, List.map_nil, encC_eq] <;> rfl)))) ?_
                              refine GD_h (d := some 129) (v := .agg (cVl v2)) rfl rfl (wt rfl hb121) rfl (fun _ => rfl) ?_
                              refine GD_p (v := .lst (List.map (AVal.int .i64) steps3) false) rfl (wt rfl hb121) rfl ?_
                              obtain ⟨r61, hr61, hr⟩ := bind_s hr
                              refine GD_c 19 (wt rfl hb121) rfl rfl (CA_of (as := [.lst (List.map encC [r45, r60]) false, .agg (cVl v2), .lst (List.map (AVal.int .i64) steps3) false]) rfl (y0y n hr61)) ?_
                              refine GD_h (d := some 132) (v := .agg (cC r45)) rfl rfl (wt rfl hb121) rfl (fun _ => rfl) ?_
                              refine GD_h (d := some 133) (v := .lst (List.map encC [r45]) true) rfl rfl (wt rfl hb121) rfl (fun _ => Eq.trans (b := some (Ex.ok (AVal.lst [.agg (cC r45)] true), _)) rfl (congrArg (fun z => some (Ex.ok (AVal.lst z true), _)) (by first | rfl | (simp only [List.map_cons, List.map_nil, encC_eq] <;> rfl)))) ?_
                              refine GD_h (d := some 134) (v := .agg (cVl v2)) rfl rfl (wt rfl hb121) rfl (fun _ => rfl) ?_
                              refine GD_p (v := .lst (List.map (AVal.int .i64) steps3) false) rfl (wt rfl hb121) rfl ?_
                              obtain ⟨r62, hr62, hr⟩ := bind_s hr
                              refine GD_c 19 (wt rfl hb121) rfl rfl (CA_of (as := [.lst (List.map encC [r45]) false, .agg (cVl v2), .lst (List.map (AVal.int .i64) steps3) false]) rfl (y0y n hr62)) ?_
                              refine GD_p rfl (wt rfl hb121) rfl ?_
                              replace hvv59 := some_s hr
                              have hr := hkv59
                              refine GD_v (.bool v59) rfl (wt rfl hb116) (evP_pickF rfl hb121 rfl) (congrArg AVal.bool hvv59) ?_
                              replace hvv54 := some_s hr
                              have hr := hkv54
                              refine GD_v (.bool v54) rfl rfl (evP_pickT rfl hb116 rfl) (congrArg AVal.bool hvv54) ?_
                              refine GD_p rfl rfl rfl ?_
                              refine GD_nil2 (by first | (simp [okFs2, y0d, disj, noneIn, notIn, y0m, sameOn, partsGls, y0j, AOpd.ev, Env.get, Env.put, glsV, glsL]; done) | rfl) ?_
                              refine L_ret ?_
                              have hr := some_s hr
                              subst hr
                              exact ⟨_, rfl, _, rfl, rfl⟩
                          · skip
                            refine GD_s (wf rfl hb116) ?_
                            refine GD_s (wf rfl hb116) ?_
                            refine GD_s (wf rfl hb116) ?_
                            refine GD_s (wf rfl hb116) ?_
                            refine GD_s (wf rfl hb116) ?_
                            refine GD_s rfl ?_
                            refine GD_s rfl ?_
                            refine GD_s rfl ?_
                            refine GD_s rfl ?_
                            refine GD_s rfl ?_
                            refine GD_s rfl ?_
                            refine GD_s rfl ?_
                            refine GD_s rfl ?_
                            refine GD_s rfl ?_
                            refine GD_s rfl ?_
                            refine GD_s rfl ?_
                            refine GD_s rfl ?_
                            refine GD_s rfl ?_
                            refine GD_s rfl ?_
                            refine GD_s rfl ?_
                            refine GD_s rfl ?_
                            refine GD_s (wf rfl hb116) ?_
                            replace hvv54 := some_s hvv54
                            refine GD_v (.bool v54) rfl rfl (evP_pickF rfl hb116 rfl) (congrArg AVal.bool hvv54) ?_
                            refine GD_p rfl rfl rfl ?_
                            refine GD_nil2 (by first | (simp [okFs2, y0d, disj, noneIn, notIn, y0m, sameOn, partsGls, y0j, AOpd.ev, Env.get, Env.put, glsV, glsL]; done) | rfl) ?_
                            refine L_ret ?_
                            have hr := some_s hr
                            subst hr
                            exact ⟨_, rfl, _, rfl, rfl⟩
end Go.Ev.Seat
namespace Go.Ev
set_option linter.unusedVariables false
set_option linter.unusedSimpArgs false
open Go
theorem y1o {c : Co} (h : passC c = true) : (∀ i, i < 6 → c.flat i = 0) ∧ c.pair = 0 ∧ c.fn = 0 := by
  unfold passC at h
  simp only [Bool.and_eq_true, decide_eq_true_eq, six] at h
  obtain ⟨⟨⟨⟨⟨⟨h1, h2⟩, h3⟩, h4⟩, h5⟩, h6⟩, h7⟩ := h
  refine ⟨fun i hi => ?_, h2, h5⟩
  obtain rfl | rfl | rfl | rfl | rfl | rfl : i = 0 ∨ i = 1 ∨ i = 2 ∨ i = 3 ∨ i = 4 ∨ i = 5 := by omega
  all_goals simp_all
theorem pass_of {c : Co} (h1 : ∀ i, i < 6 → c.flat i = 0) (h2 : c.pair = 0) (h3 : c.plab = 0) (h4 : c.pairs = []) (h5 : c.fn = 0) (h6 : c.flab = 0) (h7 : c.funs = []) : passC c = true := by
  simp [passC, six, h1 0, h1 1, h1 2, h1 3, h1 4, h1 5, h2, h3, h4, h5, h6, h7]
theorem anyA_f {l : List Co} : anyA l = false ↔ ∀ c, c ∈ l → passC c = true := by
  unfold anyA
  rw [List.any_eq_false]
  simp
theorem goC_all {t : Ty} (h : t.all = true) (l : Int) : goC true l t = zeroC := by rw [goC_eq, goK, h]; rfl
theorem goC_f (l : Int) (t : Ty) : goC false l t = .mk (flatG false l t.flat) (pairG false l t.pair (goCs false l t.pairs)).1 (pairG false l t.pair (goCs false l t.pairs)).2.1 (pairG false l t.pair (goCs false l t.pairs)).2.2 (funG false l t.fn (goFs false l t.funs)).1 (funG false l t.fn (goFs false l t.funs)).2.1 (funG false l t.fn (goFs false l t.funs)).2.2 := by
  rw [goC_eq, goK]; rfl
theorem goC_t {t : Ty} (h : t.all = false) (l : Int) : goC true l t = .mk (flatG true l t.flat) (pairG true l t.pair (goCs true l t.pairs)).1 (pairG true l t.pair (goCs true l t.pairs)).2.1 (pairG true l t.pair (goCs true l t.pairs)).2.2 (funG true l t.fn (goFs true l t.funs)).1 (funG true l t.fn (goFs true l t.funs)).2.1 (funG true l t.fn (goFs true l t.funs)).2.2 := by
  rw [goC_eq, goK, h]; rfl
theorem goC_n {up : Bool} {t : Ty} (h : up = true → t.all = false) (l : Int) : goC up l t = .mk (flatG up l t.flat) (pairG up l t.pair (goCs up l t.pairs)).1 (pairG up l t.pair (goCs up l t.pairs)).2.1 (pairG up l t.pair (goCs up l t.pairs)).2.2 (funG up l t.fn (goFs up l t.funs)).1 (funG up l t.fn (goFs up l t.funs)).2.1 (funG up l t.fn (goFs up l t.funs)).2.2 := by
  cases up
  · exact goC_f l t
  · exact goC_t (h rfl) l
def PassF (up : Bool) (l : Int) (ts : List Ty) : Prop := ∀ (k : Nat) (x : Ty), ts[k]? = some x → passC (goC (if k + 1 = ts.length then up else !up) l x) = true
theorem passF_iff {up : Bool} {l : Int} {ts : List Ty} : anyA (goFs up l ts) = false ↔ PassF up l ts := by
  rw [anyA_f]
  constructor
  · intro h k x hk
    have := goFs_get up l ts k x hk
    split at this
    · rename_i e; rw [if_pos e]; exact h _ (List.mem_of_getElem? this)
    · rename_i e; rw [if_neg e]; exact h _ (List.mem_of_getElem? this)
  · intro h c hc
    obtain ⟨k, hk⟩ := List.getElem?_of_mem hc
    have hlt : k < ts.length := by
      have := (List.getElem?_eq_some_iff.1 hk).1
      rwa [goFs_len] at this
    have hx : ts[k]? = some ts[k] := List.getElem?_eq_getElem hlt
    have h1 := goFs_get up l ts k _ hx
    have h2 := h k _ hx
    rw [hk] at h1
    simp only [Option.some.injEq] at h1
    split at h1
    · rename_i e; rw [if_pos e] at h2; rw [h1]; exact h2
    · rename_i e; rw [if_neg e] at h2; rw [h1]; exact h2
theorem pass_list (up : Bool) {l : Int} (hl : 1 ≤ l) (x : Ty) : passC (goC up l (listT x)) = true ↔ up = false ∧ passC (goC up l x) = true := by
  rw [goC_n (by intro _; rfl)]
  cases up
  · simp only [listT, Ty.flat, Ty.pair, Ty.pairs, Ty.fn, Ty.funs, goCs, goFs]
    constructor
    · intro h
      refine ⟨by trivial, ?_⟩
      have := (y1o h).2.1
      simp only [pairG, Co.pair] at this
      by_cases ha : anyA [goC false l x] = true
      · simp [ha] at this
      · have := anyA_f.1 (by simpa using ha)
        exact this _ (by simp)
    · rintro ⟨_, h⟩
      have ha : anyA [goC false l x] = false := anyA_f.2 (by simpa using h)
      exact pass_of (fun i hi => by simp [Co.flat, flatG]) (by simp [Co.pair, pairG, ha]) (by simp [Co.plab, pairG, ha]) (by simp [Co.pairs, pairG, ha]) (by simp [Co.fn, funG]) (by simp [Co.flab, funG]) (by simp [Co.funs, funG])
  · constructor
    · intro h
      have := (y1o h).2.1
      simp [listT, Ty.pair, pairG, Co.pair] at this
    · rintro ⟨h, _⟩; cases h
theorem y0v {up : Bool} {l : Int} {t : Ty} (hr : Rt t) (hl : 1 ≤ l) (hn : t.all = false) : passC (goC up l t) = true ↔
    (up = true → ∀ i, i < 6 → bit0 t.flat i = false) ∧ (up = true → t.pair = 1) ∧ (t.pair ≠ 0 → passC (goC up l (carT t)) = true ∧ (t.pair = 1 → passC (goC up l (cdrT t)) = true)) ∧
    (up = true → t.fn ≠ 0) ∧ (t.fn = 1 → PassF up l t.funs) := by
  have hf := okT_facts hr.ok
  rw [goC_n (fun _ => hn)]
  constructor
  · intro h
    obtain ⟨h1, h2, h3⟩ := y1o h
    simp only [Co.flat, Co.pair, Co.fn] at h1 h2 h3
    have hp : up = true → t.pair = 1 := by
      rintro rfl
      rcases (show t.pair = 0 ∨ t.pair = 1 ∨ t.pair = 2 by omega) with e | e | e
      · simp [pairG, e] at h2
      · exact e
      · simp [pairG, e] at h2
    refine ⟨?_, hp, ?_, ?_, ?_⟩
    · rintro rfl i hi
      have := h1 i hi
      simp only [flatG, Bool.true_and] at this
      cases hb : bit0 t.flat i
      · rfl
      · rw [hb] at this; simp at this; omega
    · intro h0
      rcases y0f hr hn h0 with ⟨e, x, y, e0, e1, e2⟩ | ⟨e, x, e0, e1, e2⟩
      · rw [e0, goCs, goCs, goCs] at h2
        have ha : anyA [goC up l x, goC up l y] = false := by
          cases ha : anyA [goC up l x, goC up l y]
          · rfl
          · simp [pairG, e, ha] at h2
        rw [anyA_f] at ha
        rw [e1, e2]
        exact ⟨ha _ (by simp), fun _ => ha _ (by simp)⟩
      · cases up
        · rw [e0, goCs, goCs] at h2
          have ha : anyA [goC false l x] = false := by
            cases ha : anyA [goC false l x]
            · rfl
            · simp [pairG, e, ha] at h2
          rw [anyA_f] at ha
          rw [e1]
          exact ⟨ha _ (by simp), fun h => by omega⟩
        · have := hp rfl; omega
    · rintro rfl h0
      simp [funG, h0] at h3
    · intro e
      rw [← passF_iff]
      cases ha : anyA (goFs up l t.funs)
      · rfl
      · simp [funG, e, ha] at h3
  · rintro ⟨h1, h2, h3, h4, h5⟩
    have hP : pairG up l t.pair (goCs up l t.pairs) = (0, 0, []) := by
      by_cases h0 : t.pair = 0
      · cases up
        · simp [pairG, h0]
        · have := h2 rfl; omega
      · obtain ⟨k1, k2⟩ := h3 h0
        rcases y0f hr hn h0 with ⟨e, x, y, e0, e1, e2⟩ | ⟨e, x, e0, e1, e2⟩
        · rw [e1] at k1; rw [e2] at k2
          have ha : anyA [goC up l x, goC up l y] = false := anyA_f.2 (by simpa using ⟨k1, k2 e⟩)
          rw [e0, goCs, goCs, goCs]
          simp [pairG, e, ha]
        · cases up
          · rw [e1] at k1
            have ha : anyA [goC false l x] = false := anyA_f.2 (by simpa using k1)
            rw [e0, goCs, goCs]
            simp [pairG, e, ha]
          · have := h2 rfl; omega
    have hF : funG up l t.fn (goFs up l t.funs) = (0, 0, []) := by
      rcases (show t.fn = 0 ∨ t.fn = 1 ∨ t.fn = 2 by omega) with e | e | e
      · cases up
        · simp [funG, e]
        · exact absurd e (h4 rfl)
      · have := passF_iff.2 (h5 e)
        simp [funG, e, this]
      · simp [funG, e]
    rw [hP, hF]
    refine pass_of (fun i hi => ?_) rfl rfl rfl rfl rfl rfl
    simp only [Co.flat, flatG]
    cases up
    · rfl
    · simp [h1 rfl i hi]
theorem bit0_sub {a b : Int} (ha : 0 ≤ a ∧ a ≤ 63) (hb : 0 ≤ b ∧ b ≤ 63) (h : subF a b = true) {i : Nat} (hi : i < 6) (h0 : bit0 a i = false) : bit0 b i = false := by
  have key : ∀ (x y : Fin 64) (i : Fin 6), subF (x.val : Int) (y.val : Int) = true → bit0 (x.val : Int) i.val = false → bit0 (y.val : Int) i.val = false := by decide +kernel
  have e1 : ((a.toNat : Nat) : Int) = a := Int.toNat_of_nonneg ha.1
  have e2 : ((b.toNat : Nat) : Int) = b := Int.toNat_of_nonneg hb.1
  have := key ⟨a.toNat, by omega⟩ ⟨b.toNat, by omega⟩ ⟨i, hi⟩
  simp only [e1, e2] at this
  exact this h h0
end Go.Ev
namespace Go.Ev
set_option linter.unusedVariables false
set_option linter.unusedSimpArgs false
open Go
theorem gD_of {l : List Ty} {k : Nat} {x : Ty} (h : l[k]? = some x) : l.getD k zeroT = x := by simp [List.getD, h]
theorem gD_some {l : List Ty} {k : Nat} (h : k < l.length) : l[k]? = some (l.getD k zeroT) := by simp [List.getD, List.getElem?_eq_getElem h]
theorem zero_pass (l : Int) : passC (goC false l zeroT) = true := by
  rw [goC_f]; rfl
theorem sub_parts {a b : Ty} (ha : Rt a) (hb : Rt b) (hS : S a b = true) (hB : b.all = false) : a.all = false ∧ SubP a b := by
  have hA : a.all = false := by
    cases h : a.all
    · rfl
    · rw [S_nall hB h] at hS; cases hS
  exact ⟨hA, (S_iff ha hb hA hB).1 hS⟩
theorem all_facts {t : Ty} (h : Rt t) (ha : t.all = true) : t.flat = 0 ∧ t.pair = 0 ∧ t.fn = 0 := by
  have := (okT_facts h.ok).2.2.2.1 ha
  rw [this]; exact ⟨rfl, rfl, rfl⟩
theorem pass_sub : ∀ (n : Nat) (a b : Ty) (A B : Int), szT a + szT b ≤ n → Rt a → Rt b → 1 ≤ A → 1 ≤ B → S a b = true →
    (safeT a false = true → passC (goC true A a) = true → passC (goC true B b) = true) ∧ (safeT b true = true → passC (goC false B b) = true → passC (goC false A a) = true)
  | 0, a, b, _, _, h, _, _, _, _, _ => by have := szT_pos a; omega
  | n + 1, a, b, A, B, hn, ha, hb, hA, hB, hS => by
    have fa := okT_facts ha.ok
    have fb := okT_facts hb.ok
    refine ⟨fun hs hp => ?_, fun hs hp => ?_⟩
    · cases h2 : b.all with
      | true => rw [goC_all h2]; rfl
      | false =>
        obtain ⟨h1, P⟩ := sub_parts ha hb hS h2
        rw [y0v ha hA h1] at hp
        obtain ⟨p1, p2, p3, p4, p5⟩ := hp
        have ap := p2 rfl
        have ap0 : a.pair ≠ 0 := by omega
        obtain ⟨q1, q2, q3⟩ := P.pair ap0
        obtain ⟨s1, s2, s3, s4, s5, s6⟩ := cd_small ha hb h1 h2 ap0 q1
        have hnl : ¬(a.pair = 2 ∧ b.pair = 2) := by omega
        obtain ⟨t1, t2⟩ := safe_pair ha hs h1 ap0
        have c1 := (pass_sub n (carT a) (carT b) A B (by omega) s1 s2 hA hB q2).1 t1 (p3 ap0).1
        have c2 := (pass_sub n (cdrT a) (cdrT b) A B (by have := s6 hnl; omega) s4 s5 hA hB (q3 hnl)).1 t2 ((p3 ap0).2 ap)
        have bp : b.pair = 1 := by
          rcases y0f hb h2 q1 with ⟨e, _⟩ | ⟨e, x, e0, e1, e2⟩
          · exact e
          · rw [e2, pass_list true hB] at c2
            simp at c2
        have an : a.fn ≠ 0 := p4 rfl
        obtain ⟨f1, f2⟩ := P.fn an
        rw [y0v hb hB h2]
        refine ⟨fun _ i hi => bit0_sub fa.1 fb.1 P.flat hi (p1 rfl i hi), fun _ => bp, fun _ => ⟨c1, fun _ => c2⟩, fun _ => f1, fun e => ?_⟩
        obtain ⟨g1, g2, g3, g4⟩ := f2 (by omega)
        have an1 : a.fn = 1 := by omega
        have pf := p5 an1
        intro k x hk
        have hlt : k < b.funs.length := (List.getElem?_eq_some_iff.1 hk).1
        have hka := gD_some (l := a.funs) (k := k) (by omega)
        have hx := gD_of hk
        have pk := pf k _ hka
        have sk := safe_funs hs hka
        have m1 := szTs_mem (List.mem_of_getElem? hk)
        have m2 := szTs_mem (List.mem_of_getElem? hka)
        have z1 := szT_eq a
        have z2 := szT_eq b
        have ra := ha.funs (List.mem_of_getElem? hka)
        have rb := hb.funs (List.mem_of_getElem? hk)
        by_cases hl : k + 1 = b.funs.length
        · rw [if_pos (by omega)] at pk sk
          rw [if_pos hl]
          have h4 := g4
          rw [show a.funs.length - 1 = k by omega, hx] at h4
          exact (pass_sub n _ x A B (by omega) ra rb hA hB h4).1 sk pk
        · rw [if_neg (by omega)] at pk sk
          rw [if_neg hl]
          have h3 := g3 k (by omega)
          rw [hx] at h3
          exact (pass_sub n x _ B A (by omega) rb ra hB hA h3).2 sk pk
    · obtain ⟨h2, bf⟩ := safe_out hs
      obtain ⟨h1, P⟩ := sub_parts ha hb hS h2
      rw [y0v hb hB h2] at hp
      obtain ⟨p1, p2, p3, p4, p5⟩ := hp
      rw [y0v ha hA h1]
      refine ⟨(by intro h; cases h), (by intro h; cases h), fun ap0 => ?_, (by intro h; cases h), fun an1 => ?_⟩
      · obtain ⟨q1, q2, q3⟩ := P.pair ap0
        obtain ⟨s1, s2, s3, s4, s5, s6⟩ := cd_small ha hb h1 h2 ap0 q1
        obtain ⟨t1, t2⟩ := safe_pair hb hs h2 q1
        obtain ⟨c1, c2⟩ := p3 q1
        refine ⟨(pass_sub n (carT a) (carT b) A B (by omega) s1 s2 hA hB q2).2 t1 c1, fun ap => ?_⟩
        have hnl : ¬(a.pair = 2 ∧ b.pair = 2) := by omega
        refine (pass_sub n (cdrT a) (cdrT b) A B (by have := s6 hnl; omega) s4 s5 hA hB (q3 hnl)).2 t2 ?_
        rcases y0f hb h2 q1 with ⟨e, _⟩ | ⟨e, x, e0, e1, e2⟩
        · exact c2 e
        · rw [e2, pass_list false hB]; rw [e1] at c1; exact ⟨rfl, c1⟩
      · obtain ⟨f1, f2⟩ := P.fn (by omega)
        obtain ⟨g1, g2, g3, g4⟩ := f2 bf
        have pf := p5 (by omega)
        intro k x hk
        have hlt : k < a.funs.length := (List.getElem?_eq_some_iff.1 hk).1
        have hkb := gD_some (l := b.funs) (k := k) (by omega)
        have hx := gD_of hk
        have pk := pf k _ hkb
        have sk := safe_funs hs hkb
        have m1 := szTs_mem (List.mem_of_getElem? hk)
        have m2 := szTs_mem (List.mem_of_getElem? hkb)
        have z1 := szT_eq a
        have z2 := szT_eq b
        have ra := ha.funs (List.mem_of_getElem? hk)
        have rb := hb.funs (List.mem_of_getElem? hkb)
        by_cases hl : k + 1 = a.funs.length
        · rw [if_pos (by omega)] at pk sk
          rw [if_pos hl]
          have h4 := g4
          rw [show a.funs.length - 1 = k by omega, hx] at h4
          exact (pass_sub n x _ A B (by omega) ra rb hA hB h4).2 sk pk
        · rw [if_neg (by omega)] at pk sk
          rw [if_neg hl]
          have h3 := g3 k (by omega)
          rw [hx] at h3
          exact (pass_sub n _ x B A (by omega) rb ra hB hA h3).1 sk pk
end Go.Ev
namespace Go.Ev
set_option linter.unusedVariables false
set_option linter.unusedSimpArgs false
open Go
def Is (up : Bool) (l : Int) (t : Ty) (c : Co) : Prop := c = goC up l t ∨ (passC (goC up l t) = true ∧ c = zeroC)
theorem Is.ok {up : Bool} {l : Int} {t : Ty} {c : Co} (h : Is up l t c) (hr : Rt t) (hl : 1 ≤ l ∧ l ≤ 99) : okC c = true := by
  rcases h with rfl | ⟨_, rfl⟩
  · exact goC_ok hr.ok up hl
  · exact okC_zero
theorem Is.zero (l : Int) : Is false l zeroT zeroC := .inr ⟨zero_pass l, rfl⟩
theorem carC_of {c : Co} (h : c.pair < 2) : carC c = zeroC := by simp [carC, h]
theorem cdrC_of {c : Co} (h : c.pair < 2) : cdrC c = zeroC := by
  unfold cdrC
  rw [if_neg (by omega), if_neg (by omega)]
theorem allF (l : Int) {t : Ty} (hr : Rt t) (ha : t.all = true) : passC (goC false l t) = true := by
  have := (okT_facts hr.ok).2.2.2.1 ha
  rw [this, goC_f]; rfl
theorem goC_pair {up : Bool} {t : Ty} (h : up = true → t.all = false) (l : Int) : (goC up l t).pair = (pairG up l t.pair (goCs up l t.pairs)).1 ∧ (goC up l t).plab = (pairG up l t.pair (goCs up l t.pairs)).2.1 ∧ (goC up l t).pairs = (pairG up l t.pair (goCs up l t.pairs)).2.2 := by
  rw [goC_n h]; exact ⟨rfl, rfl, rfl⟩
theorem goC_fun {up : Bool} {t : Ty} (h : up = true → t.all = false) (l : Int) : (goC up l t).fn = (funG up l t.fn (goFs up l t.funs)).1 ∧ (goC up l t).flab = (funG up l t.fn (goFs up l t.funs)).2.1 ∧ (goC up l t).funs = (funG up l t.fn (goFs up l t.funs)).2.2 := by
  rw [goC_n h]; exact ⟨rfl, rfl, rfl⟩
theorem list_go (up : Bool) {l : Int} (hl : 1 ≤ l) (x : Ty) (ha : up = false → passC (goC false l x) = false) : listsC (goC up l x) (if up then l else 0) = goC up l (listT x) := by
  have hflat : (fun i => if i = 4 then 0 else l) = flatG true l 16 := by
    funext i
    unfold flatG bit0
    by_cases h4 : i = 4
    · subst h4; simp
    · rw [if_neg h4]
      have : decide ((16 : Int) / 2 ^ i % 2 = 0) = true := by
        rcases (show i < 4 ∨ 4 < i by omega) with h | h
        · obtain rfl | rfl | rfl | rfl : i = 0 ∨ i = 1 ∨ i = 2 ∨ i = 3 := by omega
          all_goals decide
        · have h1 : (16 : Int) / 2 ^ i = 0 := by
            apply Int.ediv_eq_zero_of_lt (by omega)
            have : (2 : Nat) ^ 5 ≤ 2 ^ i := Nat.pow_le_pow_right (by omega) (by omega)
            have h2 : ((2 ^ i : Nat) : Int) = (2 : Int) ^ i := by simp
            rw [← h2]; omega
          rw [h1]; rfl
      simp [this]
  rw [goC_n (up := up) (t := listT x) (fun _ => rfl)]
  cases up
  · have := ha rfl
    have hz : (fun i : Nat => if i = 4 then (0 : Int) else 0) = flatG false l 16 := by funext i; simp [flatG]
    simp only [listsC, Bool.false_eq_true, if_false, hz, listT, Ty.flat, Ty.pair, Ty.pairs, Ty.fn, Ty.funs, goCs, goFs]
    simp [pairG, funG, anyA, this]
  · simp only [listsC, if_true, hflat, listT, Ty.flat, Ty.pair, Ty.pairs, Ty.fn, Ty.funs, goCs, goFs]
    have : l ≠ 0 := by omega
    simp [pairG, funG, this]
theorem Is.parts {up : Bool} {l : Int} {t : Ty} {c : Co} (h : Is up l t c) (hr : Rt t) (hl : 1 ≤ l) (hp : up = true → t.all = true ∨ t.pair ≠ 0) : Is up l (carT t) (carC c) ∧ Is up l (cdrT t) (cdrC c) := by
  cases ha : t.all with
  | true =>
    have e1 : carT t = t := by simp [carT, ha]
    have e2 : cdrT t = t := by simp [cdrT, ha]
    rw [e1, e2]
    have hz : passC (goC up l t) = true := by
      cases up
      · exact allF l hr ha
      · rw [goC_all ha]; rfl
    have hc : c.pair = 0 := by
      rcases h with rfl | ⟨_, rfl⟩
      · exact (y1o hz).2.1
      · rfl
    rw [carC_of (by omega), cdrC_of (by omega)]
    exact ⟨.inr ⟨hz, rfl⟩, .inr ⟨hz, rfl⟩⟩
  | false =>
    by_cases h0 : t.pair = 0
    · cases up
      · have e1 : carT t = zeroT := by simp [carT, ha, h0]
        have e2 : cdrT t = zeroT := by simp [cdrT, ha, h0]
        rw [e1, e2]
        have hc : c.pair = 0 := by
          rcases h with rfl | ⟨_, rfl⟩
          · rw [(goC_pair (by intro h; cases h) l).1]; simp [pairG, h0]
          · rfl
        rw [carC_of (by omega), cdrC_of (by omega)]
        exact ⟨.zero l, .zero l⟩
      · rcases hp rfl with h1 | h1
        · rw [ha] at h1; cases h1
        · exact absurd h0 h1
    · have hz : passC (goC up l t) = true → Is up l (carT t) zeroC ∧ Is up l (cdrT t) zeroC := by
        intro hp1
        have := (y0v hr hl ha).1 hp1
        obtain ⟨_, q2, q3, _⟩ := this
        obtain ⟨r1, r2⟩ := q3 h0
        refine ⟨.inr ⟨r1, rfl⟩, ?_⟩
        rcases y0f hr ha h0 with ⟨e, x, y, e0, e1, e2⟩ | ⟨e, x, e0, e1, e2⟩
        · exact .inr ⟨r2 e, rfl⟩
        · rw [e2]
          cases up
          · exact .inr ⟨(pass_list false hl x).2 ⟨rfl, by rw [e1] at r1; exact r1⟩, rfl⟩
          · have := q2 rfl; omega
      rcases h with rfl | ⟨hp1, rfl⟩
      · obtain ⟨g1, g2, g3⟩ := goC_pair (up := up) (fun _ => ha) l
        rcases y0f hr ha h0 with ⟨e, x, y, e0, e1, e2⟩ | ⟨e, x, e0, e1, e2⟩
        · rw [e0, goCs, goCs, goCs, e] at g1 g2 g3
          rw [e1, e2]
          cases hA : anyA [goC up l x, goC up l y] with
          | true =>
            simp [pairG, hA] at g1 g2 g3
            rw [carC, cdrC, if_neg (by omega), if_pos g1, g3]
            exact ⟨.inl rfl, .inl rfl⟩
          | false =>
            simp [pairG, hA] at g1 g2 g3
            rw [carC_of (by omega), cdrC_of (by omega)]
            have := anyA_f.1 hA
            exact ⟨.inr ⟨this _ (by simp), rfl⟩, .inr ⟨this _ (by simp), rfl⟩⟩
        · rw [e0, goCs, goCs, e] at g1 g2 g3
          rw [e1, e2]
          cases up
          · cases hA : anyA [goC false l x] with
            | true =>
              simp [pairG, hA] at g1 g2 g3
              rw [carC, cdrC, if_neg (by omega), if_neg (by omega), if_pos g1, g3, g2]
              refine ⟨.inl rfl, .inl ?_⟩
              have := list_go false hl x (fun _ => by simpa [anyA] using hA)
              simpa using this
            | false =>
              simp [pairG, hA] at g1 g2 g3
              rw [carC_of (by omega), cdrC_of (by omega)]
              have := anyA_f.1 hA
              have hx := this (goC false l x) (by simp)
              exact ⟨.inr ⟨hx, rfl⟩, .inr ⟨(pass_list false hl x).2 ⟨rfl, hx⟩, rfl⟩⟩
          · simp [pairG] at g1 g2 g3
            rw [carC, cdrC, if_neg (by omega), if_neg (by omega), if_pos g1, g3, g2]
            refine ⟨.inl rfl, .inl ?_⟩
            have := list_go true hl x (by intro h; cases h)
            simpa using this
      · rw [carC_of (by decide), cdrC_of (by decide)]
        exact hz hp1
theorem Is.nofun {up : Bool} {l : Int} {t : Ty} {c : Co} (h : Is up l t c) (hr : Rt t) (hn : t.fn ≠ 1) : c.fn ≠ 2 ∧ c.fn ≠ 3 := by
  have hf := okT_facts hr.ok
  rcases h with rfl | ⟨_, rfl⟩
  · cases ha : t.all with
    | true =>
      cases up
      · have := (y1o (allF l hr ha)).2.2; omega
      · rw [goC_all ha]; decide
    | false =>
      obtain ⟨g1, _⟩ := goC_fun (up := up) (fun _ => ha) l
      rcases (show t.fn = 0 ∨ t.fn = 2 by omega) with e | e
      · cases up <;> simp [funG, e] at g1 <;> omega
      · simp [funG, e] at g1; omega
  · decide
theorem Is.func {up : Bool} {l : Int} {t : Ty} {c : Co} (h : Is up l t c) (hr : Rt t) (hl : 1 ≤ l) (hn : t.fn = 1) :
    (c.fn = 2 ∧ c.funs.length = t.funs.length ∧ ¬PassF up l t.funs ∧ ∀ (k : Nat) (x : Ty), t.funs[k]? = some x → c.funs[k]? = some (goC (if k + 1 = t.funs.length then up else !up) l x)) ∨ (c.fn = 0 ∧ PassF up l t.funs) := by
  have ha : t.all = false := by
    cases ha : t.all
    · rfl
    · have := (all_facts hr ha).2.2; omega
  rcases h with rfl | ⟨hp, rfl⟩
  · obtain ⟨g1, g2, g3⟩ := goC_fun (up := up) (fun _ => ha) l
    rw [hn] at g1 g3
    cases hA : anyA (goFs up l t.funs) with
    | true =>
      simp [funG, hA] at g1 g3
      refine .inl ⟨g1, by rw [g3, goFs_len], fun hp => ?_, fun k x hk => ?_⟩
      · rw [← passF_iff, hA] at hp; cases hp
      · rw [g3, goFs_get up l _ k x hk]
        split <;> rfl
    | false =>
      simp [funG, hA] at g1
      exact .inr ⟨g1, passF_iff.1 hA⟩
  · exact .inr ⟨rfl, ((y0v hr hl ha).1 hp).2.2.2.2 hn⟩
theorem passF_sub {a b : Ty} {A B : Int} (ha : Rt a) (hb : Rt b) (hA : 1 ≤ A) (hB : 1 ≤ B) (h1 : a.all = false) (h2 : b.all = false) (P : SubP a b) (an : a.fn = 1) (bn : b.fn = 1) :
    (safeT a false = true → PassF true A a.funs → PassF true B b.funs) ∧ (safeT b true = true → PassF false B b.funs → PassF false A a.funs) := by
  obtain ⟨f1, f2⟩ := P.fn (by omega)
  obtain ⟨g1, g2, g3, g4⟩ := f2 (by omega)
  refine ⟨fun hs pf k x hk => ?_, fun hs pf k x hk => ?_⟩
  · have hlt : k < b.funs.length := (List.getElem?_eq_some_iff.1 hk).1
    have hka := gD_some (l := a.funs) (k := k) (by omega)
    have hx := gD_of hk
    have pk := pf k _ hka
    have sk := safe_funs hs hka
    have ra := ha.funs (List.mem_of_getElem? hka)
    have rb := hb.funs (List.mem_of_getElem? hk)
    by_cases hl : k + 1 = b.funs.length
    · rw [if_pos (by omega)] at pk sk
      rw [if_pos hl]
      have h4 := g4
      rw [show a.funs.length - 1 = k by omega, hx] at h4
      exact (pass_sub _ _ x A B (Nat.le_refl _) ra rb hA hB h4).1 sk pk
    · rw [if_neg (by omega)] at pk sk
      rw [if_neg hl]
      have h3 := g3 k (by omega)
      rw [hx] at h3
      exact (pass_sub _ x _ B A (Nat.le_refl _) rb ra hB hA h3).2 sk pk
  · have hlt : k < a.funs.length := (List.getElem?_eq_some_iff.1 hk).1
    have hkb := gD_some (l := b.funs) (k := k) (by omega)
    have hx := gD_of hk
    have pk := pf k _ hkb
    have sk := safe_funs hs hkb
    have ra := ha.funs (List.mem_of_getElem? hk)
    have rb := hb.funs (List.mem_of_getElem? hkb)
    by_cases hl : k + 1 = a.funs.length
    · rw [if_pos (by omega)] at pk sk
      rw [if_pos hl]
      have h4 := g4
      rw [show a.funs.length - 1 = k by omega, hx] at h4
      exact (pass_sub _ x _ A B (Nat.le_refl _) ra rb hA hB h4).2 sk pk
    · rw [if_neg (by omega)] at pk sk
      rw [if_neg hl]
      have h3 := g3 k (by omega)
      rw [hx] at h3
      exact (pass_sub _ _ x B A (Nat.le_refl _) rb ra hB hA h3).1 sk pk
theorem pairG_1 {up : Bool} {l p : Int} {qs : List Co} (h : (pairG up l p qs).1 = 1) : up = true ∧ p = 0 := by
  unfold pairG at h
  by_cases h0 : p = 0
  · cases up
    · simp [h0] at h
    · exact ⟨rfl, h0⟩
  · by_cases h1 : p = 1
    · cases ha : anyA qs <;> simp [h1, ha] at h
    · cases up <;> cases ha : anyA qs <;> simp [h0, h1, ha] at h
theorem funG_1 {up : Bool} {l p : Int} {qs : List Co} (h : (funG up l p qs).1 = 1) : up = true ∧ p = 0 := by
  unfold funG at h
  by_cases h0 : p = 0
  · cases up
    · simp [h0] at h
    · exact ⟨rfl, h0⟩
  · by_cases h1 : p = 1
    · cases ha : anyA qs <;> simp [h1, ha] at h
    · simp [h0, h1] at h
theorem first_64 {c : Co} : firstC c 64 = if c.pair = 1 then c.plab else 0 := by
  unfold firstC flatAt
  by_cases h : c.pair = 1 <;> simp [h]
theorem first_128 {c : Co} : firstC c 128 = if c.fn = 1 then c.flab else 0 := by
  unfold firstC flatAt
  by_cases h : c.fn = 1 <;> simp [h]
theorem first_bit {c : Co} {i : Nat} (h : i < 6) : firstC c ((2 ^ i : Nat) : Int) = c.flat i := by
  obtain rfl | rfl | rfl | rfl | rfl | rfl : i = 0 ∨ i = 1 ∨ i = 2 ∨ i = 3 ∨ i = 4 ∨ i = 5 := by omega
  all_goals simp [firstC, flatAt]
theorem y5u {c : Co} {tag : Int} (h1 : tag ≠ 64) (h2 : tag ≠ 128) (h3 : ∀ i, i < 6 → tag ≠ ((2 ^ i : Nat) : Int)) : firstC c tag = 0 := by
  have k0 := h3 0 (by omega)
  have k1 := h3 1 (by omega)
  have k2 := h3 2 (by omega)
  have k3 := h3 3 (by omega)
  have k4 := h3 4 (by omega)
  have k5 := h3 5 (by omega)
  simp at k0 k1 k2 k3 k4 k5
  simp [firstC, flatAt, h1, h2, k0, k1, k2, k3, k4, k5]
def Frees (t : Ty) (tag : Int) : Prop := (tag = 64 → t.pair ≠ 0) ∧ (tag = 128 → t.fn ≠ 0) ∧ ∀ i : Nat, i < 6 → tag = ((2 ^ i : Nat) : Int) → bit0 t.flat i = false
theorem first_of {c : Co} {tag : Int} (h1 : tag = 64 → firstC c 64 = 0) (h2 : tag = 128 → firstC c 128 = 0) (h3 : ∀ i : Nat, i < 6 → tag = ((2 ^ i : Nat) : Int) → c.flat i = 0) : firstC c tag = 0 := by
  by_cases k1 : tag = 64
  · subst k1; exact h1 rfl
  by_cases k2 : tag = 128
  · subst k2; exact h2 rfl
  by_cases k3 : ∃ i : Nat, i < 6 ∧ tag = ((2 ^ i : Nat) : Int)
  · obtain ⟨i, hi, rfl⟩ := k3
    rw [first_bit hi]; exact h3 i hi rfl
  · exact y5u k1 k2 fun i hi e => k3 ⟨i, hi, e⟩
theorem y2q (tag : Int) : firstC zeroC tag = 0 := first_of (fun _ => rfl) (fun _ => rfl) (fun _ _ _ => rfl)
theorem Is.first_f {l : Int} {t : Ty} {c : Co} (h : Is false l t c) (hr : Rt t) (tag : Int) : firstC c tag = 0 := by
  rcases h with rfl | ⟨_, rfl⟩
  · obtain ⟨g1, g2, _⟩ := goC_pair (up := false) (t := t) (by intro h; cases h) l
    obtain ⟨f1, f2, _⟩ := goC_fun (up := false) (t := t) (by intro h; cases h) l
    have hf := okT_facts hr.ok
    refine first_of (fun _ => ?_) (fun _ => ?_) (fun i _ _ => by rw [goC_f]; simp [Co.flat, flatG])
    · rw [first_64, g1, if_neg]
      intro e; have := pairG_1 e; simp at this
    · rw [first_128, f1, if_neg]
      intro e; have := funG_1 e; simp at this
  · exact y2q tag
theorem Is.first_t {l : Int} {t : Ty} {c : Co} {tag : Int} (h : Is true l t c) (hr : Rt t) (hl : 1 ≤ l) (ha : t.all = false) (h0 : firstC c tag = 0) : Frees t tag := by
  have hf := okT_facts hr.ok
  rcases h with rfl | ⟨hp, rfl⟩
  · obtain ⟨g1, g2, _⟩ := goC_pair (up := true) (t := t) (fun _ => ha) l
    obtain ⟨f1, f2, _⟩ := goC_fun (up := true) (t := t) (fun _ => ha) l
    refine ⟨?_, ?_, ?_⟩
    · rintro rfl e
      simp [pairG, e] at g1 g2
      rw [first_64, if_pos g1, g2] at h0; omega
    · rintro rfl e
      simp [funG, e] at f1 f2
      rw [first_128, if_pos f1, f2] at h0; omega
    · rintro i hi rfl
      rw [first_bit hi, goC_t ha] at h0
      simp only [Co.flat, flatG, Bool.true_and] at h0
      cases hb : bit0 t.flat i
      · rfl
      · rw [hb] at h0; simp at h0; omega
  · obtain ⟨p1, p2, _, p4, _⟩ := (y0v hr hl ha).1 hp
    exact ⟨fun _ => by have := p2 rfl; omega, fun _ => p4 rfl, fun i hi _ => p1 rfl i hi⟩
theorem Is.first_s {l : Int} {t : Ty} {c : Co} {tag : Int} (h : Is true l t c) (hr : Rt t) (ha : t.all = false) (h0 : Frees t tag) : firstC c tag = 0 := by
  have hf := okT_facts hr.ok
  rcases h with rfl | ⟨hp, rfl⟩
  · obtain ⟨g1, g2, _⟩ := goC_pair (up := true) (t := t) (fun _ => ha) l
    obtain ⟨f1, f2, _⟩ := goC_fun (up := true) (t := t) (fun _ => ha) l
    refine first_of (fun e => ?_) (fun e => ?_) (fun i hi e => ?_)
    · have := h0.1 e
      rw [first_64, g1, if_neg]
      intro e2; exact this (pairG_1 e2).2
    · have := h0.2.1 e
      rw [first_128, f1, if_neg]
      intro e2; exact this (funG_1 e2).2
    · rw [goC_t ha]
      simp [Co.flat, flatG, h0.2.2 i hi e]
  · exact y2q tag
theorem Is.allc {l : Int} {t : Ty} {c : Co} (h : Is true l t c) (ha : t.all = true) : c = zeroC := by
  rcases h with rfl | ⟨_, rfl⟩
  · exact goC_all ha l
  · rfl
theorem Frees.sub {a b : Ty} {tag : Int} (ha : Rt a) (hb : Rt b) (P : SubP a b) (h : Frees a tag) : Frees b tag := by
  have fa := okT_facts ha.ok
  have fb := okT_facts hb.ok
  exact ⟨fun e => (P.pair (h.1 e)).1, fun e => (P.fn (h.2.1 e)).1, fun i hi e => bit0_sub fa.1 fb.1 P.flat hi (h.2.2 i hi e)⟩
theorem Rt.carz {t : Ty} (h : Rt t) : Rt (carT t) ∧ Rt (cdrT t) := by
  cases ha : t.all with
  | true =>
    have e1 : carT t = t := by simp [carT, ha]
    have e2 : cdrT t = t := by simp [cdrT, ha]
    rw [e1, e2]; exact ⟨h, h⟩
  | false =>
    by_cases h0 : t.pair = 0
    · have e1 : carT t = zeroT := by simp [carT, ha, h0]
      have e2 : cdrT t = zeroT := by simp [cdrT, ha, h0]
      rw [e1, e2]; exact ⟨.zero, .zero⟩
    · rcases y0f h ha h0 with ⟨e, x, y, e0, e1, e2⟩ | ⟨e, x, e0, e1, e2⟩
      · rw [e1, e2]; exact ⟨h.pairs (by simp [e0]), h.pairs (by simp [e0])⟩
      · rw [e1, e2]; have := h.pairs (x := x) (by simp [e0]); exact ⟨this, this.list⟩
theorem safe_carz {t : Ty} {out : Bool} (h : Rt t) (hs : safeT t out = true) : safeT (carT t) out = true ∧ safeT (cdrT t) out = true := by
  cases ha : t.all with
  | true =>
    have e1 : carT t = t := by simp [carT, ha]
    have e2 : cdrT t = t := by simp [cdrT, ha]
    rw [e1, e2]; exact ⟨hs, hs⟩
  | false =>
    by_cases h0 : t.pair = 0
    · have e1 : carT t = zeroT := by simp [carT, ha, h0]
      have e2 : cdrT t = zeroT := by simp [cdrT, ha, h0]
      have : safeT zeroT out = true := by cases out <;> rfl
      rw [e1, e2]; exact ⟨this, this⟩
    · exact safe_pair h hs ha h0
theorem sub_carz {a b : Ty} (ha : Rt a) (hb : Rt b) (hS : S a b = true) (h : a.all = true ∨ a.pair ≠ 0 ∨ b.all = false) : S (carT a) (carT b) = true ∧ S (cdrT a) (cdrT b) = true := by
  cases h2 : b.all with
  | true =>
    have e1 : carT b = b := by simp [carT, h2]
    have e2 : cdrT b = b := by simp [cdrT, h2]
    rw [e1, e2]; exact ⟨S_all h2, S_all h2⟩
  | false =>
    obtain ⟨h1, P⟩ := sub_parts ha hb hS h2
    by_cases h0 : a.pair = 0
    · have e1 : carT a = zeroT := by simp [carT, h1, h0]
      have e2 : cdrT a = zeroT := by simp [cdrT, h1, h0]
      rw [e1, e2]; exact ⟨S_zero hb.carz.1, S_zero hb.carz.2⟩
    · obtain ⟨q1, q2, q3⟩ := P.pair h0
      refine ⟨q2, ?_⟩
      by_cases hb2 : a.pair = 2 ∧ b.pair = 2
      · rcases y0f ha h1 h0 with ⟨e, _⟩ | ⟨e, x, e0, e1, e2⟩
        · omega
        rcases y0f hb h2 q1 with ⟨e', _⟩ | ⟨e', y, e0', e1', e2'⟩
        · omega
        rw [e2, e2']
        rw [e1, e1'] at q2
        exact S_list (ha.pairs (by simp [e0])) (hb.pairs (by simp [e0'])) q2
      · exact q3 hb2
end Go.Ev
namespace Go.Ev.Seat
set_option linter.unusedVariables false
set_option linter.unusedSimpArgs false
open Go Go.Ev
section
variable {rec : (List Co) → Vl → (List Int) → Option Int} {v : Vl} {steps : List Int} {x : Int}
theorem l2_idx : ∀ (l : List Co) (i j : Nat) (acc : List Co), y00 rec v steps x l i acc = y00 rec v steps x l j acc
  | [], i, j, acc => by rw [y00, y00]
  | y :: l, i, j, acc => by
    have : y00 rec v steps x l (i + 1) = y00 rec v steps x l (j + 1) := by funext a; exact l2_idx l _ _ a
    rw [y00, y00, this]
theorem l2_car {y : Co} {l : List Co} {i : Nat} {acc : List Co} (ht : v.tag = 64) (hx : x = 0) (hy : okC y = true) (ha : acc.length ≤ 5) : y00 rec v steps x (y :: l) i acc = y00 rec v steps x l (i + 1) (acc ++ [carC y]) := by
  rw [y00, decide_eq_true ht, decide_eq_true hx, Bool.and_self, cond_true, oCar, if_pos hy, Option.bind_some, catL_of (by simp; omega), Option.bind_some, y07]
theorem l2_cdr {y : Co} {l : List Co} {i : Nat} {acc : List Co} (ht : v.tag = 64) (hx : x ≠ 0) (hy : okC y = true) (ha : acc.length ≤ 5) : y00 rec v steps x (y :: l) i acc = y00 rec v steps x l (i + 1) (acc ++ [cdrC y]) := by
  rw [y00, decide_eq_true ht, decide_eq_false hx, Bool.and_false, cond_false, cond_true, oCdr, if_pos hy, Option.bind_some, catL_of (by simp; omega), Option.bind_some, y07]
theorem l2_none {y : Co} {l : List Co} {i : Nat} {acc : List Co} (ht : v.tag ≠ 64) (h2 : y.fn ≠ 2) (h3 : y.fn ≠ 3) : y00 rec v steps x (y :: l) i acc = y00 rec v steps x l (i + 1) acc := by
  rw [y00, decide_eq_false ht, Bool.false_and, cond_false, cond_false, decide_eq_false h3, decide_eq_false h2]
  rfl
theorem l2_dead {y : Co} {l : List Co} {i : Nat} {acc : List Co} (ht : v.tag ≠ 64) (h2 : y.fn = 2) (hn : y.funs.length ≠ v.of.length) : y00 rec v steps x (y :: l) i acc = some 2000 := by
  rw [y00, decide_eq_false ht, Bool.false_and, cond_false, cond_false, decide_eq_false (by omega), decide_eq_true h2, decide_eq_false (by omega)]
  rfl
theorem l2_arg {y d : Co} {l : List Co} {i k : Nat} {acc : List Co} (ht : v.tag ≠ 64) (h2 : y.fn = 2) (hn : y.funs.length = v.of.length) (hk : x = (k : Nat)) (hm : v.of.length ≤ 1000) (hl : k + 1 < v.of.length) (hd : y.funs[k]? = some d) (ha : acc.length ≤ 5) :
    y00 rec v steps x (y :: l) i acc = y00 rec v steps x l (i + 1) (d :: acc) := by
  rw [y00, decide_eq_false ht, Bool.false_and, cond_false, cond_false, decide_eq_false (by omega), decide_eq_true h2, decide_eq_true (by omega : ((List.length y.funs : Nat) : Int) = ((List.length v.of : Nat) : Int)),
    len_w (by omega) (by omega), decide_eq_true (by omega), hk, idx_nat, hd]
  simp only [Bool.not_true, Bool.and_false, Bool.false_or, cond_false, Bool.and_self, cond_true, Option.bind_some]
  rw [catL_of (by simp; omega), Option.bind_some, y07]; rfl
theorem l2_res {y d : Co} {l : List Co} {i k : Nat} {acc : List Co} (ht : v.tag ≠ 64) (h2 : y.fn = 2) (hn : y.funs.length = v.of.length) (hk : x = (k : Nat)) (hm : v.of.length ≤ 1000) (hl : k + 1 = v.of.length) (hd : y.funs[k]? = some d) (ha : acc.length ≤ 5) :
    y00 rec v steps x (y :: l) i acc = y00 rec v steps x l (i + 1) (acc ++ [d]) := by
  rw [y00, decide_eq_false ht, Bool.false_and, cond_false, cond_false, decide_eq_false (by omega), decide_eq_true h2, decide_eq_true (by omega : ((List.length y.funs : Nat) : Int) = ((List.length v.of : Nat) : Int)),
    len_w (by omega) (by omega), decide_eq_false (by omega), hk, idx_nat, hd]
  simp only [Bool.not_true, Bool.and_false, Bool.false_or, cond_false, Bool.and_self, cond_true, Option.bind_some]
  rw [catL_of (by simp; omega), Option.bind_some, y07]
theorem l2_last {y c : Co} {i : Nat} {acc : List Co} (ht : v.tag ≠ 64) (h2 : c.fn ≠ 2) (h3 : c.fn ≠ 3) : y00 rec v steps x [y, c] i acc = y00 rec v steps x [y] i acc := by
  have : y00 rec v steps x [c] (i + 1) = y00 rec v steps x [] (i + 1) := by
    funext a
    rw [l2_none ht h2 h3]; exact l2_idx _ _ _ _
  rw [y00, this]
  conv => rhs; rw [y00]
theorem l2_nil {i : Nat} {acc acc' : List Co} (h : ∀ e s, rec acc e s = rec acc' e s) : y00 rec v steps x [] i acc = y00 rec v steps x [] i acc' := by
  rw [y00, y00, y0h, y0h]
  simp only [h]
theorem j4_same {l l' : List Co} (hl : l.length ≤ 5) (hl' : l'.length ≤ 5)
    (h : ∀ x : Int, v.of.length ≠ 0 → (v.tag = 64 → v.of.length = 2) → (v.tag = 64 ∨ v.tag = 128) → (∃ k : Nat, x = (k : Nat) ∧ k < v.of.length) → y00 rec v steps x l 0 [] = y00 rec v steps x l' 0 []) :
    y08 rec l v steps = y08 rec l' v steps := by
  unfold y08
  rw [okLen_of (l := l) (by omega), okLen_of (l := l') (by omega)]
  simp only [cond_true]
  cases hs : idx steps 0 with
  | none => rfl
  | some s =>
    simp only [Option.bind_some]
    by_cases h0 : v.of.length = 0
    · rw [decide_eq_true (by omega : ((List.length v.of : Nat) : Int) = 0)]
      simp only [cond_true, Option.bind_some, Bool.true_or]
    · rw [decide_eq_false (by omega : ¬((List.length v.of : Nat) : Int) = 0)]
      simp only [cond_false, Option.bind_some]
      by_cases hneg : s < 0
      · rw [decide_eq_true hneg]
        simp only [Bool.true_or, cond_true]
      rw [decide_eq_false hneg, Bool.false_or]
      have hr : remI .i64 s ((List.length v.of : Nat) : Int) = some (s.tmod ((List.length v.of : Nat) : Int)) := by rw [remI, if_neg (by omega)]
      rw [hr]
      simp only [Option.bind_some]
      by_cases h6 : v.tag = 64
      · by_cases hn : v.of.length = 2
        · rw [h (s.tmod ((List.length v.of : Nat) : Int)) h0 (fun _ => hn) (.inl h6) ?_]
          exact ⟨(s.tmod ((List.length v.of : Nat) : Int)).toNat, (Int.toNat_of_nonneg (Int.tmod_nonneg _ (by omega))).symm, by have := Int.tmod_lt_of_pos s (b := ((List.length v.of : Nat) : Int)) (by omega); have := Int.tmod_nonneg (a := s) ((List.length v.of : Nat) : Int) (by omega); omega⟩
        · rw [decide_eq_true h6, decide_eq_false (by omega : ¬((List.length v.of : Nat) : Int) = 2)]
          simp only [Bool.not_false, Bool.and_self, Bool.or_true, cond_true]
      · by_cases h8 : v.tag = 128
        · rw [h (s.tmod ((List.length v.of : Nat) : Int)) h0 (fun h => absurd h h6) (.inr h8) ?_]
          exact ⟨(s.tmod ((List.length v.of : Nat) : Int)).toNat, (Int.toNat_of_nonneg (Int.tmod_nonneg _ (by omega))).symm, by have := Int.tmod_lt_of_pos s (b := ((List.length v.of : Nat) : Int)) (by omega); have := Int.tmod_nonneg (a := s) ((List.length v.of : Nat) : Int) (by omega); omega⟩
        · rw [decide_eq_false h6, decide_eq_false h8]
          simp only [Bool.not_false, Bool.and_self, Bool.true_or, cond_true]
end
theorem look_1 (n : Nat) (c : Co) (v : Vl) (steps : List Int) : y04 (n + 1) [c] v steps = if firstC c v.tag = 0 then y08 (y04 n) [c] v steps else some (IntKind.wrap .i64 (1000 + firstC c v.tag)) := by
  rw [y04, y0t, okLen_of (by simp), cond_true, y05, oFirst, Option.bind_some]
  by_cases h : firstC c v.tag = 0
  · rw [if_pos h, decide_eq_true h, y05]; rfl
  · rw [if_neg h, decide_eq_false h]; rfl
theorem look_2 (n : Nat) (c d : Co) (v : Vl) (steps : List Int) : y04 (n + 1) [c, d] v steps = if firstC c v.tag = 0 then (if firstC d v.tag = 0 then y08 (y04 n) [c, d] v steps else some (IntKind.wrap .i64 (1000 + firstC d v.tag))) else some (IntKind.wrap .i64 (1000 + firstC c v.tag)) := by
  rw [y04, y0t, okLen_of (by simp), cond_true, y05, oFirst, Option.bind_some]
  by_cases h : firstC c v.tag = 0
  · rw [if_pos h, decide_eq_true h, y05, oFirst, Option.bind_some]
    by_cases h2 : firstC d v.tag = 0
    · rw [if_pos h2, decide_eq_true h2, y05]; rfl
    · rw [if_neg h2, decide_eq_false h2]; rfl
  · rw [if_neg h, decide_eq_false h]; rfl
theorem y2p : ∀ (n : Nat) (a b : Ty) (A B : Int) (c1 c2 : Co) (v : Vl) (steps : List Int), Rt a → Rt b → (1 ≤ A ∧ A ≤ 99) → (1 ≤ B ∧ B ≤ 99) → S a b = true →
    (safeT a false = true → Is true A a c1 → Is true B b c2 → y04 n [c1, c2] v steps = y04 n [c1] v steps) ∧
    (safeT b true = true → Is false A a c1 → Is false B b c2 → y04 n [c1, c2] v steps = y04 n [c2] v steps)
  | 0, a, b, A, B, c1, c2, v, steps, ra, rb, hA, hB, hS => ⟨fun _ _ _ => rfl, fun _ _ _ => rfl⟩
  | n + 1, a, b, A, B, c1, c2, v, steps, ra, rb, hA, hB, hS => by
    have ih := y2p n
    have fa := okT_facts ra.ok
    have fb := okT_facts rb.ok
    refine ⟨fun hs i1 i2 => ?_, fun hs i1 i2 => ?_⟩
    · rw [look_2, look_1]
      by_cases h0 : firstC c1 v.tag = 0
      · rw [if_pos h0, if_pos h0]
        have hab : a.all = true → b.all = true := fun h => by
          cases hb : b.all
          · rw [S_nall hb h] at hS; cases hS
          · rfl
        have h2 : firstC c2 v.tag = 0 := by
          cases hb : b.all with
          | true => rw [i2.allc hb]; exact y2q _
          | false =>
            obtain ⟨h1, P⟩ := sub_parts ra rb hS hb
            exact i2.first_s rb hb (Frees.sub ra rb P (i1.first_t ra hA.1 h1 h0))
        rw [if_pos h2]
        have ok1 := i1.ok ra hA
        have ok2 := i2.ok rb hB
        refine j4_same (by simp) (by simp) ?_
        rintro x hn0 hn2 htag ⟨k, rfl, hk⟩
        by_cases t64 : v.tag = 64
        · have hp : a.all = true ∨ a.pair ≠ 0 := by
            cases ha : a.all
            · exact .inr ((i1.first_t ra hA.1 ha h0).1 t64)
            · exact .inl rfl
          have hpb : b.all = true ∨ b.pair ≠ 0 := by
            cases hb : b.all
            · obtain ⟨h1, P⟩ := sub_parts ra rb hS hb
              rcases hp with h | h
              · rw [h1] at h; cases h
              · exact .inr (P.pair h).1
            · exact .inl rfl
          obtain ⟨p1, q1⟩ := i1.parts ra hA.1 (fun _ => hp)
          obtain ⟨p2, q2⟩ := i2.parts rb hB.1 (fun _ => hpb)
          obtain ⟨s1, s2⟩ := sub_carz ra rb hS (by rcases hp with h | h; exact .inl h; exact .inr (.inl h))
          obtain ⟨z1, z2⟩ := safe_carz ra hs
          by_cases hk0 : k = 0
          · rw [l2_car t64 (by omega) ok1 (by simp), l2_car t64 (by omega) ok2 (by simp), l2_car t64 (by omega) ok1 (by simp), l2_idx [] (0 + 1 + 1) (0 + 1)]
            exact l2_nil fun e s => (ih _ _ A B _ _ e s ra.carz.1 rb.carz.1 hA hB s1).1 z1 p1 p2
          · rw [l2_cdr t64 (by omega) ok1 (by simp), l2_cdr t64 (by omega) ok2 (by simp), l2_cdr t64 (by omega) ok1 (by simp), l2_idx [] (0 + 1 + 1) (0 + 1)]
            exact l2_nil fun e s => (ih _ _ A B _ _ e s ra.carz.2 rb.carz.2 hA hB s2).1 z2 q1 q2
        · have t128 : v.tag = 128 := by rcases htag with h | h; exact absurd h t64; exact h
          by_cases bn : b.fn = 1
          · have hb : b.all = false := by
              cases hb : b.all
              · rfl
              · have := (all_facts rb hb).2.2; omega
            obtain ⟨h1, P⟩ := sub_parts ra rb hS hb
            have fr := (i1.first_t ra hA.1 h1 h0).2.1 t128
            obtain ⟨f1, f2⟩ := P.fn fr
            obtain ⟨g1, g2, g3, g4⟩ := f2 (by omega)
            have an : a.fn = 1 := by omega
            rcases i2.func rb hB.1 bn with ⟨v1, v2, v3, v4⟩ | ⟨v1, v2⟩
            · rcases i1.func ra hA.1 an with ⟨u1, u2, u3, u4⟩ | ⟨u1, u2⟩
              · by_cases hlen : a.funs.length = v.of.length
                · have h9 := (fa.2.2.2.2.2.2.2.1 an).2
                  have ka := gD_some (l := a.funs) (k := k) (by omega)
                  have kb := gD_some (l := b.funs) (k := k) (by omega)
                  have da := u4 k _ ka
                  have db := v4 k _ kb
                  have sk := safe_funs hs ka
                  have rka := ra.funs (List.mem_of_getElem? ka)
                  have rkb := rb.funs (List.mem_of_getElem? kb)
                  by_cases hl : k + 1 = v.of.length
                  · rw [if_pos (by omega)] at da db sk
                    rw [l2_res t64 u1 (by omega) rfl (by omega) hl da (by simp), l2_res t64 v1 (by omega) rfl (by omega) hl db (by simp), l2_res t64 u1 (by omega) rfl (by omega) hl da (by simp), l2_idx [] (0 + 1 + 1) (0 + 1)]
                    have h4 := g4
                    rw [show a.funs.length - 1 = k by omega] at h4
                    exact l2_nil fun e s => (ih _ _ A B _ _ e s rka rkb hA hB h4).1 sk (.inl rfl) (.inl rfl)
                  · rw [if_neg (by omega)] at da db sk
                    rw [l2_arg t64 u1 (by omega) rfl (by omega) (by omega) da (by simp), l2_arg t64 v1 (by omega) rfl (by omega) (by omega) db (by simp), l2_arg t64 u1 (by omega) rfl (by omega) (by omega) da (by simp), l2_idx [] (0 + 1 + 1) (0 + 1)]
                    exact l2_nil fun e s => (ih _ _ B A _ _ e s rkb rka hB hA (g3 k (by omega))).2 sk (.inl rfl) (.inl rfl)
                · rw [l2_dead t64 u1 (by omega), l2_dead t64 u1 (by omega)]
              · exact absurd ((passF_sub ra rb hA.1 hB.1 h1 hb P an bn).1 hs u2) v3
            · exact l2_last t64 (by omega) (by omega)
          · obtain ⟨w1, w2⟩ := i2.nofun rb bn
            exact l2_last t64 w1 w2
      · rw [if_neg h0, if_neg h0]
    · obtain ⟨hb, bf⟩ := safe_out hs
      obtain ⟨h1, P⟩ := sub_parts ra rb hS hb
      have ok1 := i1.ok ra hA
      have ok2 := i2.ok rb hB
      rw [look_2, look_1, if_pos (i1.first_f ra _), if_pos (i2.first_f rb _), if_pos (i2.first_f rb _)]
      refine j4_same (by simp) (by simp) ?_
      rintro x hn0 hn2 htag ⟨k, rfl, hk⟩
      by_cases t64 : v.tag = 64
      · obtain ⟨p1, q1⟩ := i1.parts ra hA.1 (by intro h; cases h)
        obtain ⟨p2, q2⟩ := i2.parts rb hB.1 (by intro h; cases h)
        obtain ⟨s1, s2⟩ := sub_carz ra rb hS (.inr (.inr hb))
        obtain ⟨z1, z2⟩ := safe_carz rb hs
        by_cases hk0 : k = 0
        · rw [l2_car t64 (by omega) ok1 (by simp), l2_car t64 (by omega) ok2 (by simp), l2_car t64 (by omega) ok2 (by simp), l2_idx [] (0 + 1 + 1) (0 + 1)]
          exact l2_nil fun e s => (ih _ _ A B _ _ e s ra.carz.1 rb.carz.1 hA hB s1).2 z1 p1 p2
        · rw [l2_cdr t64 (by omega) ok1 (by simp), l2_cdr t64 (by omega) ok2 (by simp), l2_cdr t64 (by omega) ok2 (by simp), l2_idx [] (0 + 1 + 1) (0 + 1)]
          exact l2_nil fun e s => (ih _ _ A B _ _ e s ra.carz.2 rb.carz.2 hA hB s2).2 z2 q1 q2
      · by_cases an : a.fn = 1
        · obtain ⟨f1, f2⟩ := P.fn (by omega)
          obtain ⟨g1, g2, g3, g4⟩ := f2 bf
          have bn : b.fn = 1 := by omega
          rcases i1.func ra hA.1 an with ⟨u1, u2, u3, u4⟩ | ⟨u1, u2⟩
          · rcases i2.func rb hB.1 bn with ⟨v1, v2, v3, v4⟩ | ⟨v1, v2⟩
            · by_cases hlen : a.funs.length = v.of.length
              · have h9 := (fa.2.2.2.2.2.2.2.1 an).2
                have ka := gD_some (l := a.funs) (k := k) (by omega)
                have kb := gD_some (l := b.funs) (k := k) (by omega)
                have da := u4 k _ ka
                have db := v4 k _ kb
                have sk := safe_funs hs kb
                have rka := ra.funs (List.mem_of_getElem? ka)
                have rkb := rb.funs (List.mem_of_getElem? kb)
                by_cases hl : k + 1 = v.of.length
                · rw [if_pos (by omega)] at da db sk
                  rw [l2_res t64 u1 (by omega) rfl (by omega) hl da (by simp), l2_res t64 v1 (by omega) rfl (by omega) hl db (by simp), l2_res t64 v1 (by omega) rfl (by omega) hl db (by simp), l2_idx [] (0 + 1 + 1) (0 + 1)]
                  have h4 := g4
                  rw [show a.funs.length - 1 = k by omega] at h4
                  exact l2_nil fun e s => (ih _ _ A B _ _ e s rka rkb hA hB h4).2 sk (.inl rfl) (.inl rfl)
                · rw [if_neg (by omega)] at da db sk
                  rw [l2_arg t64 u1 (by omega) rfl (by omega) (by omega) da (by simp), l2_arg t64 v1 (by omega) rfl (by omega) (by omega) db (by simp), l2_arg t64 v1 (by omega) rfl (by omega) (by omega) db (by simp), l2_idx [] (0 + 1 + 1) (0 + 1)]
                  exact l2_nil fun e s => (ih _ _ B A _ _ e s rkb rka hB hA (g3 k (by omega))).1 sk (.inl rfl) (.inl rfl)
              · rw [l2_dead t64 u1 (by omega), l2_dead t64 v1 (by omega)]
            · exact absurd ((passF_sub ra rb hA.1 hB.1 h1 hb P an bn).2 hs v2) u3
          · rw [l2_none t64 (by omega) (by omega)]; exact l2_idx _ _ _ _
        · obtain ⟨w1, w2⟩ := i1.nofun ra an
          rw [l2_none t64 w1 w2]; exact l2_idx _ _ _ _
theorem rtc_zero : RtC zeroC := ⟨1, by rfl⟩
theorem rtc_car {c : Co} (h : RtC c) : RtC (carC c) := by
  by_cases hp : 2 ≤ c.pair
  · exact (h.car hp).1
  · rw [carC_of (by omega)]; exact rtc_zero
theorem rtc_cdr {c : Co} (h : RtC c) : RtC (cdrC c) := by
  by_cases hp : 2 ≤ c.pair
  · exact (h.cdr hp).1
  · rw [cdrC_of (by omega)]; exact rtc_zero
theorem rtc_nine {c : Co} (h : RtC c) (h2 : c.fn = 2) : c.funs.length ≤ 9 := by
  obtain ⟨_, _, _, _, _, _, _, _, _, _, _, _, q, _⟩ := (okC_iff c).1 h.ok
  exact (q h2).1
theorem rtc_funs {c x : Co} (h : RtC c) (hx : x ∈ c.funs) : RtC x := h.funs hx
theorem rtc_go {t : Ty} {l : Int} (hr : Rt t) (hl : 1 ≤ l ∧ l ≤ 99) (up : Bool) : RtC (goC up l t) := by
  obtain ⟨d, h⟩ := hr
  exact ⟨d, goC_right hl d t up h⟩
theorem small_tot : ∀ (k n : Nat) (v : Vl), k < n → k ≤ 8 → ∃ r, y0l n v (k : Nat) = some r
  | k, 0, v, h, _ => by omega
  | 0, n + 1, v, h, _ => by
    rw [y0l, y0x, decide_eq_true (by omega : ((0 : Nat) : Int) = 0), Bool.true_or, cond_true]
    exact ⟨_, rfl⟩
  | k + 1, n + 1, v, h, h8 => by
    rw [y0l, y0x, decide_eq_false (by omega : ¬((k + 1 : Nat) : Int) = 0), Bool.false_or]
    by_cases hl : (10 : Int) < ((List.length v.of : Nat) : Int)
    · rw [decide_eq_true hl]; exact ⟨_, rfl⟩
    · rw [decide_eq_false hl, cond_false, okLen_of (by omega), cond_true]
      have : ∀ (l : List Vl) (i : Nat), ∃ r, y09 (y0l n) ((k + 1 : Nat) : Int) l i = some r := by
        intro l
        induction l with
        | nil => intro i; rw [y09]; exact ⟨_, rfl⟩
        | cons y l ih =>
          intro i
          rw [y09, len_w (by omega) (by omega), show (((k + 1 : Nat) : Int) - 1) = ((k : Nat) : Int) by omega]
          obtain ⟨r, hr⟩ := small_tot k n y (by omega) (by omega)
          rw [hr, Option.bind_some]
          cases r
          · exact ⟨_, rfl⟩
          · simpa using ih (i + 1)
      exact this _ _
section
variable {rec : (List Co) → Vl → (List Int) → Option Int} {v : Vl} {steps : List Int} {k : Nat}
theorem l2_tot (hk : k < v.of.length) (hs : 1 ≤ steps.length) (hr : ∀ acc e, acc.length ≤ 2 → (∀ c, c ∈ acc → RtC c) → ∃ r, rec acc e (steps.drop 1) = some r) :
    ∀ (l : List Co) (i : Nat) (acc : List Co), l.length + acc.length ≤ 2 → (∀ c, c ∈ l → RtC c) → (∀ c, c ∈ acc → RtC c) → ∃ r, y00 rec v steps (k : Nat) l i acc = some r
  | [], i, acc, hl, _, ha => by
    rw [y00, y0h, idx_nat, List.getElem?_eq_getElem hk, Option.bind_some, subL, if_pos (by omega), Option.bind_some]
    have e : ((List.take (Int.toNat ((List.length steps : Nat) : Int)) steps).drop (Int.toNat 1)) = steps.drop 1 := by simp
    rw [e]
    obtain ⟨r, h⟩ := hr acc _ (by simpa using hl) ha
    rw [h]; exact ⟨r, rfl⟩
  | y :: l, i, acc, hl, hy, ha => by
    simp only [List.length_cons] at hl
    have ry := hy y (by simp)
    have oky := ry.ok
    have hyl : ∀ c, c ∈ l → RtC c := fun c hc => hy c (List.mem_cons_of_mem _ hc)
    by_cases t64 : v.tag = 64
    · by_cases hk0 : ((k : Nat) : Int) = 0
      · rw [l2_car t64 hk0 oky (by omega)]
        refine l2_tot hk hs hr l (i + 1) _ (by simp; omega) hyl ?_
        intro c hc
        simp only [List.mem_append, List.mem_singleton] at hc
        rcases hc with hc | rfl
        · exact ha c hc
        · exact rtc_car ry
      · rw [l2_cdr t64 hk0 oky (by omega)]
        refine l2_tot hk hs hr l (i + 1) _ (by simp; omega) hyl ?_
        intro c hc
        simp only [List.mem_append, List.mem_singleton] at hc
        rcases hc with hc | rfl
        · exact ha c hc
        · exact rtc_cdr ry
    · by_cases h3 : y.fn = 3
      · rw [y00, decide_eq_false t64, decide_eq_true h3]; exact ⟨_, rfl⟩
      · by_cases h2 : y.fn = 2
        · by_cases hn : y.funs.length = v.of.length
          · have h9 := rtc_nine ry h2
            have hd := List.getElem?_eq_getElem (l := y.funs) (i := k) (by omega)
            have rd : RtC (y.funs[k]'(by omega)) := rtc_funs ry (List.getElem_mem _)
            by_cases hl1 : k + 1 = v.of.length
            · rw [l2_res t64 h2 hn rfl (by omega) hl1 hd (by omega)]
              refine l2_tot hk hs hr l (i + 1) _ (by simp; omega) hyl ?_
              intro c hc
              simp only [List.mem_append, List.mem_singleton] at hc
              rcases hc with hc | rfl
              · exact ha c hc
              · exact rd
            · rw [l2_arg t64 h2 hn rfl (by omega) (by omega) hd (by omega)]
              refine l2_tot hk hs hr l (i + 1) _ (by simp; omega) hyl ?_
              intro c hc
              rcases List.mem_cons.1 hc with rfl | hc
              · exact rd
              · exact ha c hc
          · rw [l2_dead t64 h2 hn]; exact ⟨_, rfl⟩
        · rw [l2_none t64 h2 h3]
          exact l2_tot hk hs hr l (i + 1) acc (by omega) hyl ha
end
theorem look_tot : ∀ (n : Nat) (l : List Co) (v : Vl) (steps : List Int), steps.length < n → l.length ≤ 2 → (∀ c, c ∈ l → RtC c) → ∃ r, y04 n l v steps = some r
  | 0, l, v, steps, h, _, _ => by omega
  | n + 1, l, v, steps, h, hl, hc => by
    have j4 : ∃ r, y08 (y04 n) l v steps = some r := by
      unfold y08
      cases steps with
      | nil => exact ⟨_, rfl⟩
      | cons s st =>
        rw [decide_eq_false (by simp only [List.length_cons]; omega), cond_false]
        have hi : idx (s :: st) 0 = some s := rfl
        rw [hi, okLen_of (l := l) (by omega)]
        simp only [Option.bind_some, cond_true]
        by_cases h0 : v.of.length = 0
        · rw [decide_eq_true (by omega : ((List.length v.of : Nat) : Int) = 0)]
          exact ⟨_, rfl⟩
        rw [decide_eq_false (by omega : ¬((List.length v.of : Nat) : Int) = 0)]
        simp only [cond_false, Option.bind_some]
        by_cases hneg : s < 0
        · rw [decide_eq_true hneg]; exact ⟨_, rfl⟩
        have hr : remI .i64 s ((List.length v.of : Nat) : Int) = some (s.tmod ((List.length v.of : Nat) : Int)) := by rw [remI, if_neg (by omega)]
        rw [hr]
        simp only [Option.bind_some]
        have e : s.tmod ((List.length v.of : Nat) : Int) = (((s.tmod ((List.length v.of : Nat) : Int)).toNat : Nat) : Int) := (Int.toNat_of_nonneg (Int.tmod_nonneg _ (by omega))).symm
        have hlt : (s.tmod ((List.length v.of : Nat) : Int)).toNat < v.of.length := by
          have := Int.tmod_lt_of_pos s (b := ((List.length v.of : Nat) : Int)) (by omega)
          have := Int.tmod_nonneg (a := s) ((List.length v.of : Nat) : Int) (by omega)
          omega
        rw [e]
        obtain ⟨r, hr2⟩ := l2_tot (rec := y04 n) (v := v) (steps := s :: st) hlt (by simp) (fun acc e ha hac => look_tot n acc e _ (by simpa using h) ha hac) l 0 [] (by simpa using hl) hc (by simp)
        rw [hr2]
        generalize ((decide (s < 0) || (!decide (v.tag = 64)) && (!decide (v.tag = 128))) || (decide (v.tag = 64)) && (!decide (((List.length v.of : Nat) : Int) = 2))) = q
        cases q <;> exact ⟨_, rfl⟩
    have l5 : ∀ (m : List Co) (i : Nat), ∃ r, y05 (y04 n) l v steps m i = some r := by
      intro m
      induction m with
      | nil => intro i; rw [y05]; exact j4
      | cons y m ih =>
        intro i
        rw [y05, oFirst, Option.bind_some]
        by_cases h0 : firstC y v.tag = 0
        · rw [decide_eq_true h0]; exact ih _
        · rw [decide_eq_false h0]; exact ⟨_, rfl⟩
    rw [y04, y0t, okLen_of (by omega), cond_true]
    exact l5 _ _
theorem keeps_t (w : Wy2) (v : Vl) (steps : List Int) (hs : WfT w.s) (ht : WfT w.t) : y0s 20 w v steps = some true := by
  unfold y0s oAwake
  obtain ⟨sm, hsm⟩ := small_tot 8 20 v (by omega) (by omega)
  have hsm : y0l 20 v 8 = some sm := hsm
  rw [Option.bind_some, oLightT, if_pos hs, Option.bind_some, oLightT, if_pos ht, Option.bind_some, hsm, Option.bind_some, oRightT, if_pos hs, oRightT, if_pos ht]
  simp only [Option.bind_some]
  by_cases l1 : rsz w.s 60 < 120
  rotate_left
  · rw [decide_eq_false l1]; simp
  by_cases l2 : rsz w.t 60 < 120
  rotate_left
  · rw [decide_eq_false l2]; simp
  rw [decide_eq_true l1, decide_eq_true l2]
  cases sm
  · simp
  by_cases l3 : (10 : Int) < ((List.length steps : Nat) : Int)
  · rw [decide_eq_true l3]; simp
  rw [decide_eq_false l3]
  simp only [Bool.not_true, Bool.or_false, cond_false, Option.bind_some, Bool.or_self]
  cases r1 : (decide (rsz w.s 60 ≤ 300) && rightT w.s 20)
  · simp
  cases r2 : (decide (rsz w.t 60 ≤ 300) && rightT w.t 20)
  · simp
  simp only [Bool.and_eq_true, decide_eq_true_eq] at r1 r2
  have ra : Rt w.s := ⟨20, r1.2⟩
  have rb : Rt w.t := ⟨20, r2.2⟩
  simp only [Bool.not_true, cond_false, Option.bind_some, Bool.false_or]
  by_cases hA : 1 ≤ w.a ∧ w.a ≤ 99
  rotate_left
  · have : (decide (w.a < 1) || decide (99 < w.a)) = true := by simp; omega
    rw [this]; simp
  by_cases hB : 1 ≤ w.b ∧ w.b ≤ 99
  rotate_left
  · have : ((decide (w.a < 1) || decide (99 < w.a)) || decide (w.b < 1) || decide (99 < w.b)) = true := by simp; omega
    rw [this]; simp
  have hg : ((decide (w.a < 1) || decide (99 < w.a)) || decide (w.b < 1) || decide (99 < w.b)) = false := by simp; omega
  rw [hg, oSub, if_pos ⟨ra, rb, hs, ht⟩]
  simp only [cond_false, Option.bind_some]
  cases hS : S w.s w.t
  · simp
  simp only [Bool.not_true, cond_false]
  have z1 : szT w.s = rsz w.s 60 := rsz_sz w.s 60 (by omega)
  have z2 : szT w.t = rsz w.t 60 := rsz_sz w.t 60 (by omega)
  rw [oFrom, if_pos rb, oFrom, if_pos ra, oTo, if_pos ra, oTo, if_pos rb, oSafe, if_pos (by omega), oSafe, if_pos (by omega)]
  simp only [cond_true, Option.bind_some]
  cases w.out
  · simp only [cond_false]
    cases hsf : safeT w.s false
    · simp
    · obtain ⟨r, hr⟩ := look_tot 20 [goC true w.a w.s] v steps (by omega) (by simp) (by intro c hc; simp at hc; subst hc; exact rtc_go ra hA _)
      have := (y2p 20 w.s w.t w.a w.b _ _ v steps ra rb hA hB hS).1 hsf (.inl rfl) (.inl rfl)
      rw [this, hr]; simp
  · simp only [cond_true]
    cases hsf : safeT w.t true
    · simp
    · obtain ⟨r, hr⟩ := look_tot 20 [goC false w.a w.t] v steps (by omega) (by simp) (by intro c hc; simp at hc; subst hc; exact rtc_go rb hA _)
      have := (y2p 20 w.s w.t w.b w.a _ _ v steps ra rb hB hA hS).2 hsf (.inl rfl) (.inl rfl)
      rw [this, hr]; simp
theorem mkeeps (w : Wy2) (v : Vl) (steps : List Int) (hs : WfT w.s) (ht : WfT w.t) : ∃ n, pcall (tabOf tabL) n 6 [vWy2 w, vVl v, .lst (steps.map (AVal.int .i64)) false] = some (.ok (.bool true)) := (y2s (keeps_t w v steps hs ht)).get
end Go.Ev.Seat
namespace Go.Ev
set_option linter.unusedVariables false
set_option linter.unusedSimpArgs false
open Go
def HasT (P : Program) : Nat → TypeId → List AVal → Prop
  | 0, _, _ => False
  | n + 1, t, as => match P.underlying t with
    | some .bool => ∃ b, as = [.bool b]
    | some (.int k) => ∃ i, (Lit.int k i).wf = true ∧ as = [.int k i]
    | some .string => ∃ s : List UInt8, s.length ≤ maxLen ∧ as = [.str s]
    | some (.slice e) => ∃ xs : List AVal, xs.length ≤ maxLen ∧ as = [.lst xs false] ∧ ∀ x, x ∈ xs → HasT P n e x.flat ∧ (aggB P e = some true → ∃ cs, x = .agg cs) ∧ (aggB P e = some false → x.flat = [x])
    | some (.struct fs) => ∃ parts : List (List AVal), parts.length = fs.size ∧ as = parts.flatten ∧ ∀ (i : Nat) (f : Field) (p : List AVal), fs[i]? = some f → parts[i]? = some p → HasT P n f.type p
    | some (.array m e) => ∃ parts : List (List AVal), parts.length = m ∧ as = parts.flatten ∧ ∀ p, p ∈ parts → HasT P n e p
    | some (.pointer e) => as = [.nilp] ∨ ∃ cs, as = [.ro cs] ∧ HasT P n e cs
    | _ => False
def contig (P : Program) : Nat → List Field → Nat → Bool
  | off, [], tot => Nat.beq off tot
  | off, f :: fs, tot => Nat.beq f.offset off && contig P (off + P.cellsOf f.type) fs tot
def plainT (P : Program) (ts : List TypeId) (t : TypeId) : Bool :=
  match P.underlying t with
  | some .bool => true
  | some (.int _) => true
  | some .string => true
  | some (.slice e) => ts.contains e && Nat.ble 1 (P.cellsOf e)
  | some (.struct fs) => contig P 0 fs.toList (P.cellsOf t) && fs.toList.all fun f => ts.contains f.type
  | some (.array m e) => ts.contains e && Nat.beq (P.cellsOf t) (m * P.cellsOf e)
  | some (.pointer e) => ts.contains e && Nat.ble 1 (P.cellsOf e)
  | _ => false
def plainTs (P : Program) (ts : List TypeId) : Bool := ts.all (plainT P ts)
theorem build {α : Type} {Pr : Nat → α → Prop} : ∀ (n : Nat), (∀ i, i < n → ∃ y, Pr i y) → ∃ l : List α, l.length = n ∧ ∀ (i : Nat) (y : α), l[i]? = some y → Pr i y
  | 0, _ => ⟨[], rfl, by simp⟩
  | n + 1, h => by
    obtain ⟨l, h1, h2⟩ := build n (fun i hi => h i (by omega))
    obtain ⟨y, hy⟩ := h n (by omega)
    refine ⟨l ++ [y], by simp [h1], ?_⟩
    intro i z hz
    by_cases hi : i < l.length
    · rw [List.getElem?_append_left hi] at hz; exact h2 i z hz
    · rw [List.getElem?_append_right (by omega)] at hz
      have : i = n := by
        have := (List.getElem?_eq_some_iff.1 hz).1
        simp at this; omega
      subst this
      simp [h1] at hz; subst hz; exact hy
def scal : AVal → Bool
  | .agg _ => false
  | .tup _ => false
  | _ => true
def Flat1 (c : AVal) : Prop := rfree c ∧ scal c = true
theorem Flat1.flat {c : AVal} (h : Flat1 c) : c.flat = [c] := by
  have := h.2
  cases c <;> simp [scal] at this <;> rfl
theorem Flat1.one {Γ : Gh} {c : AVal} {d : Value} (h : Flat1 c) (hr : Rep Γ c d) : d.oneCell' = true := by
  have := h.2
  cases hr <;> first | rfl | (simp [scal] at this; done)
section
variable {H : Type} {enc : TypeId × Value → H} {P : Program} {w : World}
theorem y11 {Γ : Gh} : ∀ {parts : List (List AVal)} {cparts : List (List Value)}, parts.length = cparts.length → (∀ (i : Nat) (p : List AVal) (c : List Value), parts[i]? = some p → cparts[i]? = some c → Reps Γ p c) → Reps Γ parts.flatten cparts.flatten
  | [], [], _, _ => Reps.nil Γ
  | p :: ps, c :: cs, hl, h => by
    simp only [List.flatten_cons]
    exact (h 0 p c rfl rfl).append (y11 (by simpa using hl) fun i p c h1 h2 => h (i + 1) p c (by simpa using h1) (by simpa using h2))
  | [], _ :: _, hl, _ => by simp at hl
  | _ :: _, [], hl, _ => by simp at hl
theorem y3c : ∀ {fs : List Field} {off tot : Nat} {cs : List Value}, contig P off fs tot = true → cs.length = tot → (fs.map fun f => (cs.drop f.offset).take (P.cellsOf f.type)).flatten = cs.drop off
  | [], off, tot, cs, h, hl => by
    have := Nat.eq_of_beq_eq_true (by simpa [contig] using h)
    simp; omega
  | f :: fs, off, tot, cs, h, hl => by
    simp only [contig, Bool.and_eq_true] at h
    have h1 := Nat.eq_of_beq_eq_true h.1
    simp only [List.map_cons, List.flatten_cons]
    rw [y3c h.2 hl, h1, ← List.drop_drop, List.take_append_drop]
theorem y3g {z : Nat} : ∀ {m : Nat} {cs : List Value}, cs.length = m * z → ((List.range m).map fun i => (cs.drop (i * z)).take z).flatten = cs
  | 0, cs, hl => by
    have : cs = [] := List.length_eq_zero_iff.1 (by omega)
    simp [this]
  | m + 1, cs, hl => by
    rw [List.range_succ_eq_map, List.map_cons, List.flatten_cons, List.map_map]
    have h := y3g (z := z) (m := m) (cs := cs.drop z) (by simp [hl, Nat.add_mul])
    have e : ((fun i => (cs.drop (i * z)).take z) ∘ Nat.succ) = fun i => ((cs.drop z).drop (i * z)).take z := by
      funext i
      simp only [Function.comp, List.drop_drop, Nat.succ_eq_add_one, Nat.add_mul, Nat.one_mul]
      rw [Nat.add_comm]
    rw [e, h]
    simp
def mkEl (b : Option Bool) (p : List AVal) : AVal := match b with
  | some false => p.headD .nilp
  | _ => .agg p
theorem y61 {b : Option Bool} {p : List AVal} (h : ∀ c, c ∈ p → rfree c) : rfree (mkEl b p) := by
  unfold mkEl
  split
  · cases p with
    | nil => rfl
    | cons c cs => exact h c (by simp)
  · exact lowL_iff.2 h
theorem y2b {ts : List TypeId} (hp : plainTs P ts = true) {n : Nat} {e : TypeId} {p : List AVal} (he : e ∈ ts) (ha : aggB P e = some false) (h : HasT P n e p) : ∃ c, p = [c] := by
  cases n with
  | zero => cases h
  | succ n =>
    unfold aggB at ha
    unfold HasT at h
    cases hu : P.underlying e with
    | none => rw [hu] at h; cases h
    | some u =>
      rw [hu] at h ha
      cases u <;> simp only [reduceCtorEq] at h ha <;> first | (cases ha; done) | (cases h; done) | skip
      · obtain ⟨b, rfl⟩ := h; exact ⟨_, rfl⟩
      · obtain ⟨i, _, rfl⟩ := h; exact ⟨_, rfl⟩
      · obtain ⟨b, _, rfl⟩ := h; exact ⟨_, rfl⟩
      · rcases h with rfl | ⟨cs, rfl, _⟩ <;> exact ⟨_, rfl⟩
      · obtain ⟨xs, _, rfl, _⟩ := h; exact ⟨_, rfl⟩
theorem mkEl_flat {ts : List TypeId} (hp : plainTs P ts = true) {n : Nat} {e : TypeId} {p : List AVal} (he : e ∈ ts) (h : HasT P n e p) (hf : ∀ c, c ∈ p → Flat1 c) : (mkEl (aggB P e) p).flat = p := by
  unfold mkEl
  split
  · rename_i ha
    obtain ⟨c, rfl⟩ := y2b hp he ha h
    exact (hf c (by simp)).flat
  · rfl
theorem y4h {b : Option Bool} : ∀ {parts : List (List AVal)}, (∀ p, p ∈ parts → (mkEl b p).flat = p) → flatL (parts.map (mkEl b)) = parts.flatten
  | [], _ => rfl
  | p :: ps, h => by
    simp only [List.map_cons, flatL, List.flatten_cons, h p (by simp)]
    rw [y4h fun q hq => h q (by simp [hq])]
theorem y3k {α : Type} {z : Nat} (hz : 0 < z) : ∀ {parts : List (List α)} {j : Nat} {c : α}, (∀ p, p ∈ parts → p.length = z) → parts.flatten[j]? = some c → ∃ p, parts[j / z]? = some p ∧ p[j % z]? = some c
  | [], j, c, _, h => by simp at h
  | p :: ps, j, c, hl, h => by
    have hp := hl p (by simp)
    rw [List.flatten_cons] at h
    by_cases hj : j < z
    · rw [List.getElem?_append_left (by omega)] at h
      rw [Nat.div_eq_of_lt hj, Nat.mod_eq_of_lt hj]
      exact ⟨p, rfl, h⟩
    · rw [List.getElem?_append_right (by omega), hp] at h
      obtain ⟨q, h1, h2⟩ := y3k hz (fun q hq => hl q (by simp [hq])) h
      have e1 : j / z = (j - z) / z + 1 := by
        rw [← Nat.add_div_right _ hz]; congr 1; omega
      have e2 : j % z = (j - z) % z := by
        rw [Nat.mod_eq_sub_mod (by omega)]
      exact ⟨q, by rw [e1]; exact h1, by rw [e2]; exact h2⟩
theorem trod_has {ts : List TypeId} (hp : plainTs P ts = true) : ∀ (n : Nat) (t : TypeId) (cs : List Value) (x : DataW H × List MemPlace), t ∈ ts → DataW.trod enc P w 0 (fun _ => true) true n t cs = some x →
    ∃ as : List AVal, Reps (Gh.all w) as cs ∧ HasT P n t as ∧ ∀ c, c ∈ as → Flat1 c := by
  intro n
  induction n with
  | zero => intro t cs x _ h; simp [DataW.trod] at h
  | succ n ih =>
    intro t cs x ht h
    have hpt := List.all_eq_true.1 hp t ht
    unfold plainT at hpt
    have hT : ∀ as, HasT P (n + 1) t as = HasT P (n + 1) t as := fun _ => rfl
    have single : ∀ (a : AVal) (v : Value), cs = [v] → Rep (Gh.all w) a v → Flat1 a → ∀ Q : List AVal → Prop, Q [a] → ∃ as : List AVal, Reps (Gh.all w) as cs ∧ Q as ∧ ∀ c, c ∈ as → Flat1 c := by
      rintro a v rfl hr hf Q hQ
      exact ⟨[a], Reps.cons hr (Reps.nil _), hQ, by simpa using hf⟩
    split at hpt
    · rename_i hu
      obtain ⟨b, hc, _⟩ := DataW.trod_bool hu h
      simp only [HasT, hu]
      exact single (.bool b) _ hc (.bool b) ⟨rfl, rfl⟩ _ ⟨b, rfl⟩
    · rename_i k hu
      obtain ⟨i, hc, _, hw⟩ := DataW.trod_int hu h
      simp only [HasT, hu]
      exact single (.int k i) _ hc (.int k i) ⟨rfl, rfl⟩ _ ⟨i, hw, rfl⟩
    · rename_i hu
      obtain ⟨s, hc, _, hl⟩ := DataW.trod_string hu h
      simp only [HasT, hu]
      refine single (.str s.data.toList) _ hc ?_ ⟨rfl, rfl⟩ _ ⟨s.data.toList, by rw [Array.length_toList]; exact hl, rfl⟩
      have := Rep.str (Γ := Gh.all w) s.data.toList
      simpa using this
    · rename_i e hu
      simp only [Bool.and_eq_true] at hpt
      have hz : 1 ≤ P.cellsOf e := Nat.le_of_ble_eq_true hpt.2
      have he : e ∈ ts := by simpa using hpt.1
      simp only [HasT, hu]
      rcases DataW.trod_slice hu h with ⟨hc, _⟩ | ⟨a, len, cap, elems, rest, m, hm, hc, _, _, hlc, hmax, hel, hget, _, _⟩
      · exact single (.lst [] false) _ hc (.lstN false) ⟨rfl, rfl⟩ _ ⟨[], by simp, rfl, by simp⟩
      · cases hm
        have each : ∀ i, i < len → ∃ p : List AVal, ∃ ds : List Value, p.length = P.cellsOf e ∧ Reps (Gh.all w) p ds ∧ HasT P n e p ∧ (∀ c, c ∈ p → Flat1 c) ∧ ∀ j, j < P.cellsOf e → w.cell? ((a.add (i * P.cellsOf e)).add j) = ds[j]? := by
          intro i hi
          have h1 := hget i hi
          have hx : elems[i]? = some elems[i] := List.getElem?_eq_getElem (by omega)
          rw [hx] at h1
          obtain ⟨cs', hc1, hc2⟩ := Option.bind_eq_some_iff.1 h1
          obtain ⟨p, h2, h3, h4⟩ := ih e cs' elems[i] he hc2
          obtain ⟨_, hl, hcell⟩ := World.cells?_some hc1
          exact ⟨p, cs', by rw [← h2.1, hl], h2, h3, h4, hcell⟩
        obtain ⟨parts, hpl, hpe⟩ := build len each
        rcases Nat.eq_zero_or_pos len with hl0 | hpos
        · subst hl0
          exact single (.lst [] false) _ hc (.lstE (by simp)) ⟨rfl, rfl⟩ _ ⟨[], by simp, rfl, by simp⟩
        · obtain ⟨blk, off, spot⟩ := a
          have hspot : spot = none := by
            obtain ⟨p, ds, q1, q2, _, _, q3⟩ := each 0 hpos
            have h0 := q3 0 hz
            rw [Nat.zero_mul, Addr.add_zero', Addr.add_zero'] at h0
            cases hx : ds[0]? with
            | none => have := (List.getElem?_eq_none_iff.1 hx); have := q2.1; omega
            | some v => rw [hx] at h0; exact World.cell?_spot h0
          subst hspot
          refine single (.lst (parts.map (mkEl (aggB P e))) false) _ hc ?_ ⟨?_, rfl⟩ _ ⟨parts.map (mkEl (aggB P e)), by simpa [hpl] using Nat.le_trans hlc hmax, rfl, ?_⟩
          · have hfl : ∀ p, p ∈ parts → (mkEl (aggB P e) p).flat = p := by
              intro p hp1
              obtain ⟨i, hi⟩ := List.getElem?_of_mem hp1
              obtain ⟨ds, q1, q2, q3, q4, q5⟩ := hpe i p hi
              exact mkEl_flat hp he q3 q4
            have hlens : ∀ p, p ∈ parts → p.length = P.cellsOf e := by
              intro p hp1
              obtain ⟨i, hi⟩ := List.getElem?_of_mem hp1
              obtain ⟨ds, q1, _⟩ := hpe i p hi
              exact q1
            have hall : ∀ (j : Nat) (c : AVal), parts.flatten[j]? = some c → ∃ d, w.cell? ⟨blk, off + j, none⟩ = some d ∧ Rep (Gh.all w) c d ∧ Flat1 c := by
              intro j c hj
              obtain ⟨p, hp1, hp2⟩ := y3k hz hlens hj
              obtain ⟨ds, q1, q2, q3, q4, q5⟩ := hpe _ p hp1
              obtain ⟨d, hd, hr⟩ := q2.get hp2
              refine ⟨d, ?_, hr, q4 c (List.mem_of_getElem? hp2)⟩
              have h6 := q5 (j % P.cellsOf e) (Nat.mod_lt _ hz)
              rw [Addr.add_lit, Addr.add_lit] at h6
              rw [← hd, ← h6]
              congr 2
              rw [Nat.add_assoc, Nat.mul_comm, Nat.div_add_mod]
            have hflat : flatL (parts.map (mkEl (aggB P e))) = parts.flatten := y4h hfl
            have hlen2 : (parts.map (mkEl (aggB P e))).length = len := by simp [hpl]
            have key := Rep.lst (Γ := Gh.all w) (xs := parts.map (mkEl (aggB P e))) (e := false) (g := blk) (off := off) (cap := cap) (es := P.cellsOf e) (fun j => (w.cell? ⟨blk, off + j, none⟩).getD undef) (by omega) (by simp) ?_ ?_ ?_ ?_ ?_
            · rw [hlen2] at key; exact key
            · intro x hx
              obtain ⟨p, hp1, rfl⟩ := List.mem_map.1 hx
              simp only [AVal.width, hfl p hp1, hlens p hp1]
            · intro x hx
              obtain ⟨p, hp1, rfl⟩ := List.mem_map.1 hx
              obtain ⟨i, hi⟩ := List.getElem?_of_mem hp1
              obtain ⟨ds, q1, q2, q3, q4, q5⟩ := hpe i p hi
              exact y61 (fun c hc => (q4 c hc).1)
            · intro j c hj
              rw [hflat] at hj
              obtain ⟨d, h1, h2, h3⟩ := hall j c hj
              simp only [Gh.all, h1, Option.getD_some]
            · intro j c hj
              rw [hflat] at hj
              obtain ⟨d, h1, h2, h3⟩ := hall j c hj
              simp only [h1, Option.getD_some]
              exact h3.one h2
            · intro j c hj
              rw [hflat] at hj
              obtain ⟨d, h1, h2, h3⟩ := hall j c hj
              simp only [h1, Option.getD_some]
              exact h2
          · rfl
          · intro x hx
            obtain ⟨p, hp1, rfl⟩ := List.mem_map.1 hx
            obtain ⟨i, hi⟩ := List.getElem?_of_mem hp1
            obtain ⟨ds, q1, q2, q3, q4, q5⟩ := hpe i p hi
            have hf := mkEl_flat hp he q3 q4
            refine ⟨by rw [hf]; exact q3, ?_, ?_⟩
            · intro h; exact ⟨p, by rw [h]; rfl⟩
            · intro h
              rw [hf]
              obtain ⟨c, hc1⟩ := y2b hp he h q3
              rw [hc1, h]; rfl
    · rename_i fs hu
      simp only [Bool.and_eq_true] at hpt
      simp only [HasT, hu]
      obtain ⟨xs, m, hm, _, hlen, hxl, hget⟩ := DataW.trod_struct hu h
      cases hm
      have each : ∀ i, i < fs.size → ∃ p : List AVal, ∀ f, fs[i]? = some f → Reps (Gh.all w) p ((cs.drop f.offset).take (P.cellsOf f.type)) ∧ HasT P n f.type p ∧ ∀ c, c ∈ p → Flat1 c := by
        intro i hi
        have hfi : fs[i]? = some fs[i] := Array.getElem?_eq_getElem hi
        have hx : xs[i]? = some xs[i] := List.getElem?_eq_getElem (by omega)
        have hmem : fs[i].type ∈ ts := by
          have := List.all_eq_true.1 hpt.2 fs[i] (by simp)
          simpa using this
        obtain ⟨p, h1, h2, h3⟩ := ih fs[i].type _ xs[i] hmem (by rw [hget i _ hfi, hx])
        exact ⟨p, fun f hf => by rw [hfi] at hf; cases hf; exact ⟨h1, h2, h3⟩⟩
      obtain ⟨parts, hpl, hpe⟩ := build fs.size each
      refine ⟨parts.flatten, ?_, ⟨parts, hpl, rfl, fun i f p hf hp => ((hpe i p hp) f hf).2.1⟩, ?_⟩
      · have := y3c (cs := cs) hpt.1 hlen
        rw [List.drop_zero] at this
        rw [← this]
        refine y11 (by simp [hpl]) ?_
        intro i p c h1 h2
        rw [List.getElem?_map, Option.map_eq_some_iff] at h2
        obtain ⟨f, hf, rfl⟩ := h2
        exact ((hpe i p h1) f (by simpa using hf)).1
      · intro c hc
        obtain ⟨p, hp1, hp2⟩ := List.mem_flatten.1 hc
        obtain ⟨i, hi⟩ := List.getElem?_of_mem hp1
        have hlt : i < fs.size := by rw [← hpl]; exact (List.getElem?_eq_some_iff.1 hi).1
        exact ((hpe i p hi) fs[i] (Array.getElem?_eq_getElem hlt)).2.2 c hp2
    · rename_i m e hu
      simp only [Bool.and_eq_true] at hpt
      simp only [HasT, hu]
      have he : e ∈ ts := by simpa using hpt.1
      have hsz := Nat.eq_of_beq_eq_true hpt.2
      obtain ⟨xs, k, hm, _, hlen, hxl, hget⟩ := DataW.trod_array hu h
      cases hm
      have each : ∀ i, i < m → ∃ p : List AVal, Reps (Gh.all w) p ((cs.drop (i * P.cellsOf e)).take (P.cellsOf e)) ∧ HasT P n e p ∧ ∀ c, c ∈ p → Flat1 c := by
        intro i hi
        have hx : xs[i]? = some xs[i] := List.getElem?_eq_getElem (by omega)
        exact ih e _ xs[i] he (by rw [hget i hi, hx])
      obtain ⟨parts, hpl, hpe⟩ := build m each
      refine ⟨parts.flatten, ?_, ⟨parts, hpl, rfl, ?_⟩, ?_⟩
      · have := y3g (z := P.cellsOf e) (m := m) (cs := cs) (by omega)
        rw [← this]
        refine y11 (by simp [hpl]) ?_
        intro i p c h1 h2
        rw [List.getElem?_map, Option.map_eq_some_iff] at h2
        obtain ⟨j, hj, rfl⟩ := h2
        have hji : j = i := by
          have := List.getElem?_eq_some_iff.1 hj
          obtain ⟨hj1, hj2⟩ := this
          simp at hj2; omega
        subst hji
        exact (hpe j p h1).1
      · intro p hp1
        obtain ⟨i, hi⟩ := List.getElem?_of_mem hp1
        exact (hpe i p hi).2.1
      · intro c hc
        obtain ⟨p, hp1, hp2⟩ := List.mem_flatten.1 hc
        obtain ⟨i, hi⟩ := List.getElem?_of_mem hp1
        exact (hpe i p hi).2.2 c hp2
    · rename_i e hu
      simp only [Bool.and_eq_true] at hpt
      simp only [HasT, hu]
      have hz : 1 ≤ P.cellsOf e := Nat.le_of_ble_eq_true hpt.2
      have he : e ∈ ts := by simpa using hpt.1
      rcases DataW.trod_pointer hu h with ⟨hc, _⟩ | ⟨a, cs', y, m, hm, hc, _, hcells, hy⟩
      · exact single .nilp _ hc .nilp ⟨rfl, rfl⟩ _ (.inl rfl)
      · cases hm
        obtain ⟨p, h1, h2, h3⟩ := ih e cs' y he hy
        obtain ⟨hb, hl, hcell⟩ := World.cells?_some hcells
        have hspot : a.spot = none := by
          have h0 := hcell 0 (by omega)
          rw [Addr.add_zero'] at h0
          cases hx : cs'[0]? with
          | none => have := (List.getElem?_eq_none_iff.1 hx); omega
          | some v => rw [hx] at h0; exact World.cell?_spot h0
        obtain ⟨blk, off, spot⟩ := a
        simp only at hspot
        subst hspot
        refine single (.ro p) _ hc ?_ ⟨rfl, rfl⟩ _ (.inr ⟨p, rfl, h2⟩)
        have hd : ∀ (j : Nat) (c : AVal), p[j]? = some c → ∃ d, cs'[j]? = some d ∧ Rep (Gh.all w) c d ∧ w.cell? ⟨blk, off + j, none⟩ = some d := by
          intro j c hj
          obtain ⟨d, hd, hr⟩ := h1.get hj
          have hlt := (List.getElem?_eq_some_iff.1 hd).1
          refine ⟨d, hd, hr, ?_⟩
          have := hcell j (by omega)
          rw [Addr.add_lit] at this
          rw [this]; exact hd
        refine .ro (fun j => cs'.getD j undef) (fun c hc => (h3 c hc).1) ?_ ?_ ?_
        · intro j c hj
          obtain ⟨d, hd1, hr, hd2⟩ := hd j c hj
          simp only [Gh.all, hd2, List.getD, hd1, Option.getD_some]
        · intro j c hj
          obtain ⟨d, hd1, hr, hd2⟩ := hd j c hj
          simp only [List.getD, hd1, Option.getD_some]
          exact (h3 c (List.mem_of_getElem? hj)).one hr
        · intro j c hj
          obtain ⟨d, hd1, hr, hd2⟩ := hd j c hj
          simp only [List.getD, hd1, Option.getD_some]
          exact hr
    · cases hpt
end
section
variable {H : Type} {enc : TypeId × Value → H} {P : Program} {w : World}
theorem y5l {ts : List TypeId} (hp : plainTs P ts = true) {t : TypeId} {v : Value} {base : Nat} (ht : t ∈ ts) (ha : aggB P t = some false) (hok : Value.okWide P w .any base t v) : v.cells.toList = [v] := by
  have hpt := List.all_eq_true.1 hp t ht
  cases v <;> first | rfl | skip
  exfalso
  unfold aggB at ha
  unfold plainT at hpt
  unfold Value.okWide Cell.okWide Cell.ok at hok
  cases hu : P.underlying t with
  | none => rw [hu] at ha; cases ha
  | some u => rw [hu] at ha hpt hok; cases u <;> simp_all
theorem arg_has {ts : List TypeId} (hp : plainTs P ts = true) {t : TypeId} {v : Value} {d : DataW H} {ps : List MemPlace} {base : Nat} (ht : t ∈ ts) (hok : Value.okWide P w .any base t v)
    (h : DataW.Trod enc P w 0 (fun _ => true) true t v d ps) : ∃ (n : Nat) (as : List AVal), HasT P n t as ∧ (aggB P t = some true → Rep (Gh.all w) (.agg as) v) ∧ (aggB P t = some false → ∃ c, as = [c] ∧ Rep (Gh.all w) c v) := by
  obtain ⟨n, hf⟩ := h
  obtain ⟨as, h1, h2, h3⟩ := trod_has hp n t _ _ ht hf
  refine ⟨n, as, h2, ?_, ?_⟩
  · intro ha
    have hv : ∃ cs, v = .agg cs := by
      unfold Value.okWide at hok
      unfold aggB at ha
      cases hu : P.underlying t with
      | none => rw [hu] at ha; cases ha
      | some u =>
        rw [hu] at ha hok
        cases u <;> simp only [reduceCtorEq, Option.some.injEq, Bool.false_eq_true] at ha
        · obtain ⟨cs, hcs, _⟩ := hok; exact ⟨cs, hcs⟩
        · obtain ⟨cs, hcs, _⟩ := hok; exact ⟨cs, hcs⟩
    obtain ⟨cs, rfl⟩ := hv
    have e : (Value.agg cs).cells.toList = cs.toList := rfl
    rw [e] at h1
    have := Rep.agg (Γ := Gh.all w) h1.1 h1.2 (fun d hd => by
      obtain ⟨i, hi⟩ := List.getElem?_of_mem hd
      have hlt : i < as.length := by rw [← h1.1]; exact (List.getElem?_eq_some_iff.1 hi).1
      have ha' := List.getElem?_eq_getElem hlt
      exact (h3 _ (List.mem_of_getElem? ha')).one (h1.2 i _ _ ha' hi))
    simpa using this
  · intro ha
    have hc := y5l hp ht ha hok
    rw [hc] at h1
    obtain ⟨c, rfl⟩ := y2b hp ht ha h2
    exact ⟨c, rfl, h1.2 0 c v rfl rfl⟩
end
end Go.Ev
namespace Go.Ev
set_option linter.unusedVariables false
set_option linter.unusedSimpArgs false
open Go
theorem dec_list {α : Type} {enc : α → AVal} {Q : α → Prop} : ∀ {xs : List AVal}, (∀ x, x ∈ xs → ∃ y, x = enc y ∧ Q y) → ∃ ys : List α, xs = ys.map enc ∧ ∀ y, y ∈ ys → Q y
  | [], _ => ⟨[], rfl, by simp⟩
  | x :: xs, h => by
    obtain ⟨y, rfl, hy⟩ := h x (by simp)
    obtain ⟨ys, rfl, hys⟩ := dec_list (xs := xs) (fun z hz => h z (List.mem_cons_of_mem _ hz))
    exact ⟨y :: ys, rfl, by simpa using ⟨hy, hys⟩⟩
structure TyP (P : Program) (t s b i : TypeId) : Prop where
  fs : ∃ fs : Array Field, P.underlying t = some (.struct fs) ∧ fs.toList.map (·.type) = [b, i, i, s, i, s]
  sl : P.underlying s = some (.slice t)
  bo : P.underlying b = some .bool
  int : P.underlying i = some (.int .i64)
theorem HasT.bool_of {P : Program} {n : Nat} {t : TypeId} {as : List AVal} (hu : P.underlying t = some .bool) (h : HasT P n t as) : ∃ b, as = [.bool b] := by
  cases n with
  | zero => cases h
  | succ n => unfold HasT at h; rw [hu] at h; exact h
theorem HasT.int_of {P : Program} {n : Nat} {t : TypeId} {k : IntKind} {as : List AVal} (hu : P.underlying t = some (.int k)) (h : HasT P n t as) : ∃ i, (Lit.int k i).wf = true ∧ as = [.int k i] := by
  cases n with
  | zero => cases h
  | succ n => unfold HasT at h; rw [hu] at h; exact h
theorem HasT.slice_of {P : Program} {n : Nat} {t e : TypeId} {as : List AVal} (hu : P.underlying t = some (.slice e)) (h : HasT P (n + 1) t as) :
    ∃ xs : List AVal, xs.length ≤ maxLen ∧ as = [.lst xs false] ∧ ∀ x, x ∈ xs → HasT P n e x.flat ∧ (aggB P e = some true → ∃ cs, x = .agg cs) ∧ (aggB P e = some false → x.flat = [x]) := by
  unfold HasT at h; rw [hu] at h; exact h
theorem HasT.struct_of {P : Program} {n : Nat} {t : TypeId} {fs : Array Field} {l : List TypeId} {as : List AVal} (hu : P.underlying t = some (.struct fs)) (hl : fs.toList.map (·.type) = l) (h : HasT P (n + 1) t as) :
    ∃ parts : List (List AVal), parts.length = l.length ∧ as = parts.flatten ∧ ∀ (i : Nat) (u : TypeId) (p : List AVal), l[i]? = some u → parts[i]? = some p → HasT P n u p := by
  unfold HasT at h; rw [hu] at h
  obtain ⟨parts, h1, h2, h3⟩ := h
  refine ⟨parts, by rw [h1, ← hl]; simp, h2, ?_⟩
  intro i u p hu hp
  rw [← hl, List.getElem?_map, Option.map_eq_some_iff] at hu
  obtain ⟨f, hf, rfl⟩ := hu
  exact h3 i f p (by simpa using hf) hp
theorem i64_wf {i : Int} (h : (Lit.int .i64 i).wf = true) : -9223372036854775808 ≤ i ∧ i < 9223372036854775808 := by
  simp only [Lit.wf, Bool.and_eq_true, IntKind.min, IntKind.max, IntKind.signed, IntKind.bits] at h
  simp at h
  exact ⟨by omega, by omega⟩
theorem ty_dec {P : Program} {t s b i : TypeId} (hP : TyP P t s b i) : ∀ (n : Nat) (as : List AVal), HasT P n t as → ∃ x : Ty, as = cT x ∧ WfT x := by
  obtain ⟨fs, hu, hl⟩ := hP.fs
  have hagg : aggB P t = some true := by unfold aggB; rw [hu]
  intro n
  induction n using Nat.strongRecOn with
  | ind n ih =>
    intro as h
    cases n with
    | zero => cases h
    | succ n =>
      obtain ⟨parts, h1, rfl, h3⟩ := HasT.struct_of hu hl h
      obtain ⟨p0, p1, p2, p3, p4, p5, rfl⟩ := len6 h1
      obtain ⟨v0, rfl⟩ := HasT.bool_of hP.bo (h3 0 b p0 rfl rfl)
      obtain ⟨v1, w1, rfl⟩ := HasT.int_of hP.int (h3 1 i p1 rfl rfl)
      obtain ⟨v2, w2, rfl⟩ := HasT.int_of hP.int (h3 2 i p2 rfl rfl)
      obtain ⟨v4, w4, rfl⟩ := HasT.int_of hP.int (h3 4 i p4 rfl rfl)
      have hs3 := h3 3 s p3 rfl rfl
      have hs5 := h3 5 s p5 rfl rfl
      cases n with
      | zero => cases hs3
      | succ n =>
        have list : ∀ p, HasT P (n + 1) s p → ∃ ys : List Ty, p = [.lst (ys.map encT) false] ∧ ys.length < 9223372036854775808 ∧ ∀ y, y ∈ ys → WfT y := by
          intro p hp
          obtain ⟨xs, k1, rfl, k3⟩ := HasT.slice_of hP.sl hp
          obtain ⟨ys, rfl, hys⟩ := dec_list (enc := encT) (Q := WfT) (xs := xs) (by
            intro x hx
            obtain ⟨q1, q2, _⟩ := k3 x hx
            obtain ⟨cs, rfl⟩ := q2 hagg
            obtain ⟨y, hy, hw⟩ := ih n (by omega) _ q1
            refine ⟨y, ?_, hw⟩
            rw [encT_eq]
            have : cs = cT y := hy
            rw [this])
          refine ⟨ys, rfl, ?_, hys⟩
          rw [List.length_map] at k1
          have : maxLen = 9223372036854775807 := rfl
          omega
        obtain ⟨ys3, rfl, l3, q3⟩ := list p3 hs3
        obtain ⟨ys5, rfl, l5, q5⟩ := list p5 hs5
        exact ⟨⟨v0, v1, v2, ys3, v4, ys5⟩, rfl, .mk (i64_wf w1) (i64_wf w2) (i64_wf w4) l3 l5 q3 q5⟩
end Go.Ev
