/-
  Part 6 of a proof: NarrowHolds: for every input the law returns true, and what it was given reads behind the call as before. No conditions.
-/
import Derived.Test.YtoacjncdnnkbaaaP5
namespace Go.Ev.Seat
set_option linter.unusedVariables false
set_option linter.unusedSimpArgs false
open Go Go.Ev
set_option maxRecDepth 20000
attribute [local irreducible] pcall callF
theorem y7n {n : Nat} {a1 : Fts} {b2 : Fts} {r : Fts} (hr : y4k n a1 b2 = some r) : PRes (tabOf tabL) 13 [.agg (cFts a1), .agg (cFts b2)] (.agg (cFts r)) := by
  refine pres_fin t13 ?_
  unfold y4k at hr
  refine L_seq ?_
  refine L_stmt ?_
  refine L_reg ?_
  refine G_n (B := .cells [.bool a1.never, .lst (List.map encFct a1.l) false]) rfl rfl rfl ?_
  refine G_n (B := .cells [.bool b2.never, .lst (List.map encFct b2.l) false]) rfl rfl rfl ?_
  refine G_n (B := .cells [.bool false, .lst [] true]) rfl rfl rfl ?_
  refine G_nil ?_
  refine L_nil ?_
  refine Sm_norm (e2 := [(2, .ptr 0 0), (3, .ptr 1 0), (4, .ptr 2 0)]) (H1 := [.cells [.bool a1.never, .lst (List.map encFct a1.l) false], .cells [.bool b2.never, .lst (List.map encFct b2.l) false], .cells [.bool false, .lst [] true]]) (H2 := [.cells [.bool a1.never, .lst (List.map encFct a1.l) false], .cells [.bool b2.never, .lst (List.map encFct b2.l) false], .cells [.bool false, .lst [] true]]) rfl (by repeat (first | exact rzz | apply rcc rfl | apply rnn rfl)) rfl (?_ : GL _ _ _ _ _)
  refine L_seq ?_
  refine L_stmt ?_
  refine L_block ?_
  refine L_seq ?_
  refine L_stmt ?_
  refine L_reg ?_
  refine G_p rfl rfl rfl ?_
  refine G_h rfl rfl rfl (fun _ => rfl) ?_
  refine G_p rfl rfl rfl ?_
  refine G_nil ?_
  refine L_nil ?_
  refine Sm_norm (e2 := [(2, .ptr 0 0), (3, .ptr 1 0), (4, .ptr 2 0), (10, .bool a1.never)]) (H1 := [.cells [.bool a1.never, .lst (List.map encFct a1.l) false], .cells [.bool b2.never, .lst (List.map encFct b2.l) false], .cells [.bool false, .lst [] true]]) (H2 := [.cells [.bool a1.never, .lst (List.map encFct a1.l) false], .cells [.bool b2.never, .lst (List.map encFct b2.l) false], .cells [.bool false, .lst [] true]]) rfl (by repeat (first | exact rzz | apply rcc rfl | apply rnn rfl)) rfl (?_ : GL _ _ _ _ _)
  rcases cond_s hr with ⟨hc10, hr⟩ | ⟨hc10, hr⟩
  · refine L_T rfl hc10 ?_
    refine L_seq ?_
    refine L_reg ?_
    refine G_h (v := .agg (cFts b2)) rfl rfl rfl (fun _ => rfl) ?_
    refine G_p (v := .agg [.bool false, .lst [] true]) rfl rfl rfl ?_
    obtain ⟨r5, hr5, hr⟩ := bind_s hr
    refine G_c 11 rfl rfl (CA_of (as := [.agg (cFts b2), .agg (cFts (Fts.mk false []))]) rfl (y46 hr5)) ?_
    refine G_hn (H' := [.cells [.bool a1.never, .lst (List.map encFct a1.l) false], .cells [.bool b2.never, .lst (List.map encFct b2.l) false], .cells [.bool r5.never, .lst (List.map encFct r5.l) false]]) rfl rfl rfl (fun _ => rfl) ?_
    refine G_nil ?_
    refine L_ret ?_
    refine Blk_ret ?_
    refine Sm_ret ?_
    have hr := some_s hr
    subst hr
    exact ⟨_, rfl, _, rfl, rfl⟩
  · refine L_F rfl hc10 ?_
    refine L_seq ?_
    refine L_stmt ?_
    refine L_reg ?_
    refine G_p rfl rfl rfl ?_
    refine G_h rfl rfl rfl (fun _ => rfl) ?_
    refine G_p rfl rfl rfl ?_
    refine G_nil ?_
    refine L_nil ?_
    refine Sm_norm (e2 := [(2, .ptr 0 0), (3, .ptr 1 0), (4, .ptr 2 0), (16, .bool b2.never)]) (H1 := [.cells [.bool a1.never, .lst (List.map encFct a1.l) false], .cells [.bool b2.never, .lst (List.map encFct b2.l) false], .cells [.bool false, .lst [] true]]) (H2 := [.cells [.bool a1.never, .lst (List.map encFct a1.l) false], .cells [.bool b2.never, .lst (List.map encFct b2.l) false], .cells [.bool false, .lst [] true]]) rfl (by repeat (first | exact rzz | apply rcc rfl | apply rnn rfl)) rfl (?_ : GL _ _ _ _ _)
    rcases cond_s hr with ⟨hc16, hr⟩ | ⟨hc16, hr⟩
    · refine L_T rfl hc16 ?_
      refine L_seq ?_
      refine L_reg ?_
      refine G_h (v := .agg (cFts a1)) rfl rfl rfl (fun _ => rfl) ?_
      refine G_p (v := .agg [.bool false, .lst [] true]) rfl rfl rfl ?_
      obtain ⟨r6, hr6, hr⟩ := bind_s hr
      refine G_c 11 rfl rfl (CA_of (as := [.agg (cFts a1), .agg (cFts (Fts.mk false []))]) rfl (y46 hr6)) ?_
      refine G_hn (H' := [.cells [.bool a1.never, .lst (List.map encFct a1.l) false], .cells [.bool b2.never, .lst (List.map encFct b2.l) false], .cells [.bool r6.never, .lst (List.map encFct r6.l) false]]) rfl rfl rfl (fun _ => rfl) ?_
      refine G_nil ?_
      refine L_ret ?_
      refine Blk_ret ?_
      refine Sm_ret ?_
      have hr := some_s hr
      subst hr
      exact ⟨_, rfl, _, rfl, rfl⟩
    · refine L_F rfl hc16 ?_
      refine L_skip ?_
      refine L_nil ?_
      refine Blk_norm (?_ : GL _ _ _ _ _)
      refine L_nil ?_
      refine Sm_norm (e2 := [(2, .ptr 0 0), (3, .ptr 1 0), (4, .ptr 2 0)]) (H1 := [.cells [.bool a1.never, .lst (List.map encFct a1.l) false], .cells [.bool b2.never, .lst (List.map encFct b2.l) false], .cells [.bool false, .lst [] true]]) (H2 := [.cells [.bool a1.never, .lst (List.map encFct a1.l) false], .cells [.bool b2.never, .lst (List.map encFct b2.l) false], .cells [.bool false, .lst [] true]]) rfl (by repeat (first | exact rzz | apply rcc rfl | apply rnn rfl)) rfl (?_ : GL _ _ _ _ _)
      refine L_seq ?_
      refine L_stmt ?_
      refine L_reg ?_
      refine G_p (v := .lst [] true) rfl rfl rfl ?_
      refine G_nil ?_
      refine L_nil ?_
      refine Sm_norm (e2 := [(2, .ptr 0 0), (3, .ptr 1 0), (4, .ptr 2 0), (5, .lst [] true)]) (H1 := [.cells [.bool a1.never, .lst (List.map encFct a1.l) false], .cells [.bool b2.never, .lst (List.map encFct b2.l) false], .cells [.bool false, .lst [] true]]) (H2 := [.cells [.bool a1.never, .lst (List.map encFct a1.l) false], .cells [.bool b2.never, .lst (List.map encFct b2.l) false], .cells [.bool false, .lst [] true]]) rfl (by repeat (first | exact rzz | apply rcc rfl | apply rnn rfl)) rfl (?_ : GL _ _ _ _ _)
      refine L_seq ?_
      refine L_stmt ?_
      refine L_reg ?_
      refine G_p rfl rfl rfl ?_
      refine G_h (v := .lst (List.map encFct b2.l) false) rfl rfl rfl (fun _ => rfl) ?_
      refine G_cx 38 rfl rfl (ca_finx t38 (Or.inl rfl) ?_)
      refine L_seq ?_
      refine L_stmt ?_
      refine L_reg ?_
      refine G_p (v := .lst [] true) rfl rfl rfl ?_
      refine G_nil ?_
      refine L_nil ?_
      refine Sm_norm (e2 := [(0, .lst (List.map encFct b2.l) false)]) (H1 := [.cells [.bool a1.never, .lst (List.map encFct a1.l) false], .cells [.bool b2.never, .lst (List.map encFct b2.l) false], .cells [.bool false, .lst [] true]]) (H2 := [.cells [.bool a1.never, .lst (List.map encFct a1.l) false], .cells [.bool b2.never, .lst (List.map encFct b2.l) false], .cells [.bool false, .lst [] true]]) rfl (by repeat (first | exact rzz | apply rcc rfl | apply rnn rfl)) rfl (?_ : GL _ _ _ _ _)
      refine L_seq ?_
      refine L_stmtJ (S := Unit) (fun s => [(0, .gl 3 (List.length b2.l))]) (fun s => [.cells [.bool a1.never, .lst (List.map encFct a1.l) false], .cells [.bool b2.never, .lst (List.map encFct b2.l) false], .cells [.bool false, .lst [] true], openM 2 encFct b2.l]) (fun s => y2i n a1 b2 = some r) ?_ ?_
      · skip
        refine L_seq ?_
        refine L_reg ?_
        refine G_p (v := .lst (List.map encFct b2.l) false) rfl rfl rfl ?_
        obtain ⟨hLq953, hr⟩ := guard_s hr
        rcases emp_or b2.l with hEq953 | hEq953
        · skip
          refine G_c 70 rfl rfl (CA_raw (cloneo_e (f := encFct) (ys := b2.l) t70 encFct_w1 rfl hEq953) (by simp [cutH] <;> rfl)) ?_
          refine G_p (v := .lst (List.map encFct b2.l) true) rfl rfl rfl ?_
          refine G_nil ?_
          refine L_own (H' := [.cells [.bool a1.never, .lst (List.map encFct a1.l) false], .cells [.bool b2.never, .lst (List.map encFct b2.l) false], .cells [.bool false, .lst [] true], openM 2 encFct b2.l]) (own_e (w := 2) rfl hEq953) ?_
          refine L_nil ?_
          exact Sm_norm (e2 := [(0, .gl 3 (List.length b2.l))]) (H1 := [.cells [.bool a1.never, .lst (List.map encFct a1.l) false], .cells [.bool b2.never, .lst (List.map encFct b2.l) false], .cells [.bool false, .lst [] true], openM 2 encFct b2.l]) (H2 := [.cells [.bool a1.never, .lst (List.map encFct a1.l) false], .cells [.bool b2.never, .lst (List.map encFct b2.l) false], .cells [.bool false, .lst [] true], openM 2 encFct b2.l]) rfl (by repeat (first | exact rzz | apply rcc rfl | apply rnn rfl)) rfl ⟨(), rfl, rfl, hr⟩
        · skip
          refine G_c 70 rfl rfl (CA_raw (cloneo_n (f := encFct) (ys := b2.l) t70 encFct_w1 (by decide) rfl hEq953 hLq953) (by simp [cutH, lowV] <;> rfl)) ?_
          refine G_p rfl rfl rfl ?_
          refine G_nil ?_
          refine L_own (H' := [.cells [.bool a1.never, .lst (List.map encFct a1.l) false], .cells [.bool b2.never, .lst (List.map encFct b2.l) false], .cells [.bool false, .lst [] true], openM 2 encFct b2.l]) rfl ?_
          refine L_nil ?_
          exact Sm_norm (e2 := [(0, .gl 3 (List.length b2.l))]) (H1 := [.cells [.bool a1.never, .lst (List.map encFct a1.l) false], .cells [.bool b2.never, .lst (List.map encFct b2.l) false], .cells [.bool false, .lst [] true], openM 2 encFct b2.l]) (H2 := [.cells [.bool a1.never, .lst (List.map encFct a1.l) false], .cells [.bool b2.never, .lst (List.map encFct b2.l) false], .cells [.bool false, .lst [] true], openM 2 encFct b2.l]) rfl (by repeat (first | exact rzz | apply rcc rfl | apply rnn rfl)) rfl ⟨(), rfl, rfl, hr⟩
      · rintro ⟨⟩ hr
        show GL _ _ [(0, .gl 3 (List.length b2.l))] [.cells [.bool a1.never, .lst (List.map encFct a1.l) false], .cells [.bool b2.never, .lst (List.map encFct b2.l) false], .cells [.bool false, .lst [] true], openM 2 encFct b2.l] _
        replace hr : y2i n a1 b2 = some r := hr
        unfold y2i at hr
        refine L_seq ?_
        refine L_stmt ?_
        refine L_reg ?_
        refine G_p rfl rfl rfl ?_
        obtain ⟨l62, hl62, hr⟩ := bind_s hr
        refine G_c (H' := [.cells [.bool a1.never, .lst (List.map encFct a1.l) false], .cells [.bool b2.never, .lst (List.map encFct b2.l) false], .cells [.bool false, .lst [] true], openM 2 encFct l62]) 71 rfl rfl ((y13 (callG_s hl62).1) ([.cells [.bool a1.never, .lst (List.map encFct a1.l) false], .cells [.bool b2.never, .lst (List.map encFct b2.l) false], .cells [.bool false, .lst [] true], openM 2 encFct b2.l]) 3 _ (by simp) rfl) ?_
        refine G_nil ?_
        refine L_nil ?_
        refine Sm_norm (e2 := [(0, .gl 3 (List.length b2.l))]) (H1 := [.cells [.bool a1.never, .lst (List.map encFct a1.l) false], .cells [.bool b2.never, .lst (List.map encFct b2.l) false], .cells [.bool false, .lst [] true], openM 2 encFct l62]) (H2 := [.cells [.bool a1.never, .lst (List.map encFct a1.l) false], .cells [.bool b2.never, .lst (List.map encFct b2.l) false], .cells [.bool false, .lst [] true], openM 2 encFct l62]) rfl (by repeat (first | exact rzz | apply rcc rfl | apply rnn rfl)) rfl (?_ : GL _ _ _ _ _)
        refine L_seq ?_
        refine L_shutl (H' := [.cells [.bool a1.never, .lst (List.map encFct a1.l) false], .cells [.bool b2.never, .lst (List.map encFct b2.l) false], .cells [.bool false, .lst [] true], growM 2 encFct l62]) (seal_o (callG_s hl62).2 rfl rfl rfl) ?_
        refine L_seq ?_
        refine L_stmt ?_
        refine L_reg ?_
        refine G_p (v := .lst [] true) rfl rfl rfl ?_
        refine G_nil ?_
        refine L_nil ?_
        refine Sm_norm (e2 := [(0, .gl 3 (List.length b2.l)), (3, .lst [] true)]) (H1 := [.cells [.bool a1.never, .lst (List.map encFct a1.l) false], .cells [.bool b2.never, .lst (List.map encFct b2.l) false], .cells [.bool false, .lst [] true], growM 2 encFct l62]) (H2 := [.cells [.bool a1.never, .lst (List.map encFct a1.l) false], .cells [.bool b2.never, .lst (List.map encFct b2.l) false], .cells [.bool false, .lst [] true], growM 2 encFct l62]) rfl (by repeat (first | exact rzz | apply rcc rfl | apply rnn rfl)) rfl (?_ : GL _ _ _ _ _)
        refine L_seq ?_
        refine L_stmtJ (S := List Fct) (fun s => [(3, .gl 4 (List.length s))]) (fun s => [.cells [.bool a1.never, .lst (List.map encFct a1.l) false], .cells [.bool b2.never, .lst (List.map encFct b2.l) false], .cells [.bool false, .lst [] true], growM 2 encFct l62, openM 2 encFct s]) (fun s => y21 n a1 b2 l62 s = some r) ?_ ?_
        · skip
          refine L_seq ?_
          refine L_stmt ?_
          refine L_reg ?_
          refine G_p rfl rfl rfl ?_
          refine G_h rfl rfl rfl (fun _ => rfl) ?_
          refine G_p rfl rfl rfl ?_
          refine G_nil ?_
          refine L_nil ?_
          refine Sm_norm (e2 := [(3, .lst [] true), (11, .gl 3 (List.length b2.l)), (12, .int .i64 ((List.length b2.l : Nat) : Int)), (13, .int .i64 0)]) (H1 := [.cells [.bool a1.never, .lst (List.map encFct a1.l) false], .cells [.bool b2.never, .lst (List.map encFct b2.l) false], .cells [.bool false, .lst [] true], growM 2 encFct l62]) (H2 := [.cells [.bool a1.never, .lst (List.map encFct a1.l) false], .cells [.bool b2.never, .lst (List.map encFct b2.l) false], .cells [.bool false, .lst [] true], growM 2 encFct l62]) rfl (by repeat (first | exact rzz | apply rcc rfl | apply rnn rfl)) rfl (?_ : GL _ _ _ _ _)
          refine L_block ?_
          refine L_seq ?_
          refine L_own (H' := [.cells [.bool a1.never, .lst (List.map encFct a1.l) false], .cells [.bool b2.never, .lst (List.map encFct b2.l) false], .cells [.bool false, .lst [] true], growM 2 encFct l62, openM 2 encFct []]) rfl ?_
          obtain ⟨hLq924, hr⟩ := guard_s hr
          replace hLq924 := okLen_s hLq924
          refine L_range (X := Fct) (S := List Fct) b2.l (fun i926 s => [(3, .gl 4 (List.length s)), (13, .int .i64 ((i926 : Nat) : Int)), (11, .gl 3 (List.length b2.l)), (12, .int .i64 ((List.length b2.l : Nat) : Int))]) (fun i926 s => [.cells [.bool a1.never, .lst (List.map encFct a1.l) false], .cells [.bool b2.never, .lst (List.map encFct b2.l) false], .cells [.bool false, .lst [] true], growM 2 encFct l62, openM 2 encFct s]) (fun rest i926 s => y10 n a1 b2 l62 rest i926 s = some r) ([]) ?_ rfl hr ?_ ?_
          · show restr _ _ = [(3, .gl 4 (List.length [])), (13, .int .i64 ((0 : Nat) : Int)), (11, .gl 3 (List.length b2.l)), (12, .int .i64 ((List.length b2.l : Nat) : Int))]
            (repeat (first | exact rzz | apply rcc rfl | apply rnn rfl))
          · rintro l907 hr
            show GL _ _ [(3, .gl 4 (List.length l907)), (13, .int .i64 (((List.length b2.l) : Nat) : Int)), (11, .gl 3 (List.length b2.l)), (12, .int .i64 ((List.length b2.l : Nat) : Int))] [.cells [.bool a1.never, .lst (List.map encFct a1.l) false], .cells [.bool b2.never, .lst (List.map encFct b2.l) false], .cells [.bool false, .lst [] true], growM 2 encFct l62, openM 2 encFct l907] _
            replace hr : y10 n a1 b2 l62 [] (List.length b2.l) l907 = some r := hr
            rw [y10] at hr
            refine L_seq ?_
            refine L_stmt ?_
            refine L_reg ?_
            refine G_v (.bool false) rfl rfl rfl (congrArg AVal.bool (decide_eq_false (by omega))) ?_
            refine G_nil ?_
            refine L_nil ?_
            refine Sm_norm (e2 := [(3, .gl 4 (List.length l907)), (11, .gl 3 (List.length b2.l)), (12, .int .i64 ((List.length b2.l : Nat) : Int)), (13, .int .i64 ((List.length b2.l : Nat) : Int)), (14, .bool false)]) (H1 := [.cells [.bool a1.never, .lst (List.map encFct a1.l) false], .cells [.bool b2.never, .lst (List.map encFct b2.l) false], .cells [.bool false, .lst [] true], growM 2 encFct l62, openM 2 encFct l907]) (H2 := [.cells [.bool a1.never, .lst (List.map encFct a1.l) false], .cells [.bool b2.never, .lst (List.map encFct b2.l) false], .cells [.bool false, .lst [] true], growM 2 encFct l62, openM 2 encFct l907]) rfl (by repeat (first | exact rzz | apply rcc rfl | apply rnn rfl)) rfl (?_ : GL _ _ _ _ _)
            refine L_seq ?_
            refine L_stmt ?_
            refine L_F rfl rfl ?_
            refine L_exit ?_
            refine Sm_exit ?_
            refine Rd_exit ?_
            refine Blk_exit (?_ : GL _ _ _ _ _)
            refine L_nil ?_
            exact Sm_norm (e2 := [(3, .gl 4 (List.length l907))]) (H1 := [.cells [.bool a1.never, .lst (List.map encFct a1.l) false], .cells [.bool b2.never, .lst (List.map encFct b2.l) false], .cells [.bool false, .lst [] true], growM 2 encFct l62, openM 2 encFct l907]) (H2 := [.cells [.bool a1.never, .lst (List.map encFct a1.l) false], .cells [.bool b2.never, .lst (List.map encFct b2.l) false], .cells [.bool false, .lst [] true], growM 2 encFct l62, openM 2 encFct l907]) rfl (by repeat (first | exact rzz | apply rcc rfl | apply rnn rfl)) rfl ⟨l907, rfl, rfl, hr⟩
          · rintro y925 rest927 i926 l907 hy925 hlti926 hr
            show GL _ _ [(3, .gl 4 (List.length l907)), (13, .int .i64 ((i926 : Nat) : Int)), (11, .gl 3 (List.length b2.l)), (12, .int .i64 ((List.length b2.l : Nat) : Int))] [.cells [.bool a1.never, .lst (List.map encFct a1.l) false], .cells [.bool b2.never, .lst (List.map encFct b2.l) false], .cells [.bool false, .lst [] true], growM 2 encFct l62, openM 2 encFct l907] _
            replace hr : y10 n a1 b2 l62 (y925 :: rest927) i926 l907 = some r := hr
            rw [y10] at hr
            refine L_seq ?_
            refine L_stmt ?_
            refine L_reg ?_
            refine G_v (.bool true) rfl rfl rfl (congrArg AVal.bool (decide_eq_true (by omega))) ?_
            refine G_nil ?_
            refine L_nil ?_
            refine Sm_norm (e2 := [(3, .gl 4 (List.length l907)), (11, .gl 3 (List.length b2.l)), (12, .int .i64 ((List.length b2.l : Nat) : Int)), (13, .int .i64 ((i926 : Nat) : Int)), (14, .bool true)]) (H1 := [.cells [.bool a1.never, .lst (List.map encFct a1.l) false], .cells [.bool b2.never, .lst (List.map encFct b2.l) false], .cells [.bool false, .lst [] true], growM 2 encFct l62, openM 2 encFct l907]) (H2 := [.cells [.bool a1.never, .lst (List.map encFct a1.l) false], .cells [.bool b2.never, .lst (List.map encFct b2.l) false], .cells [.bool false, .lst [] true], growM 2 encFct l62, openM 2 encFct l907]) rfl (by repeat (first | exact rzz | apply rcc rfl | apply rnn rfl)) rfl (?_ : GL _ _ _ _ _)
            refine L_seq ?_
            refine L_stmt ?_
            refine L_T rfl rfl ?_
            refine L_skip ?_
            refine L_nil ?_
            refine Sm_norm (e2 := [(3, .gl 4 (List.length l907)), (11, .gl 3 (List.length b2.l)), (12, .int .i64 ((List.length b2.l : Nat) : Int)), (13, .int .i64 ((i926 : Nat) : Int))]) (H1 := [.cells [.bool a1.never, .lst (List.map encFct a1.l) false], .cells [.bool b2.never, .lst (List.map encFct b2.l) false], .cells [.bool false, .lst [] true], growM 2 encFct l62, openM 2 encFct l907]) (H2 := [.cells [.bool a1.never, .lst (List.map encFct a1.l) false], .cells [.bool b2.never, .lst (List.map encFct b2.l) false], .cells [.bool false, .lst [] true], growM 2 encFct l62, openM 2 encFct l907]) rfl (by repeat (first | exact rzz | apply rcc rfl | apply rnn rfl)) rfl (?_ : GL _ _ _ _ _)
            refine L_seq ?_
            refine L_stmtJ (S := List Fct) (fun s => [(3, .gl 4 (List.length s)), (11, .gl 3 (List.length b2.l)), (12, .int .i64 ((List.length b2.l : Nat) : Int)), (13, .int .i64 ((i926 : Nat) : Int))]) (fun s => [.cells [.bool a1.never, .lst (List.map encFct a1.l) false], .cells [.bool b2.never, .lst (List.map encFct b2.l) false], .cells [.bool false, .lst [] true], growM 2 encFct l62, openM 2 encFct s]) (fun s => y20 (y10 n a1 b2 l62 rest927 (i926 + 1)) s = some r) ?_ ?_
            · skip
              refine L_block ?_
              refine L_seq ?_
              refine L_stmt ?_
              refine L_reg ?_
              obtain ⟨e941, he941, hr⟩ := bind_s hr
              refine G_h (v := .ro [.int .i64 e941.var, .int .i64 e941.tags]) rfl rfl rfl (iagL_ev (cells := [.int .i64 e941.var, .int .i64 e941.tags]) (callG_s hl62).2 rfl rfl rfl (idx_s he941).1 (map_get (x := e941) (idx_s he941).2) (y0c _) rfl) ?_
              refine G_h (v := .agg (cFct e941)) rfl rfl rfl (fun _ => rfl) ?_
              refine G_n (B := .cells [.int .i64 0, .int .i64 0]) rfl rfl rfl ?_
              refine G_hn (H' := [.cells [.bool a1.never, .lst (List.map encFct a1.l) false], .cells [.bool b2.never, .lst (List.map encFct b2.l) false], .cells [.bool false, .lst [] true], growM 2 encFct l62, openM 2 encFct l907, .cells [.int .i64 e941.var, .int .i64 e941.tags]]) rfl rfl rfl (fun _ => rfl) ?_
              refine G_nil ?_
              refine L_nil ?_
              refine Sm_norm (e2 := [(3, .gl 4 (List.length l907)), (5, .ptr 5 0), (11, .gl 3 (List.length b2.l)), (12, .int .i64 ((List.length b2.l : Nat) : Int)), (13, .int .i64 ((i926 : Nat) : Int))]) (H1 := [.cells [.bool a1.never, .lst (List.map encFct a1.l) false], .cells [.bool b2.never, .lst (List.map encFct b2.l) false], .cells [.bool false, .lst [] true], growM 2 encFct l62, openM 2 encFct l907, .cells [.int .i64 e941.var, .int .i64 e941.tags]]) (H2 := [.cells [.bool a1.never, .lst (List.map encFct a1.l) false], .cells [.bool b2.never, .lst (List.map encFct b2.l) false], .cells [.bool false, .lst [] true], growM 2 encFct l62, openM 2 encFct l907, .cells [.int .i64 e941.var, .int .i64 e941.tags]]) rfl (by repeat (first | exact rzz | apply rcc rfl | apply rnn rfl)) rfl (?_ : GL _ _ _ _ _)
              refine L_seq ?_
              refine L_stmt ?_
              refine L_reg ?_
              refine G_p rfl rfl rfl ?_
              refine G_h rfl rfl rfl (fun _ => rfl) ?_
              refine G_p rfl rfl rfl ?_
              refine G_p rfl rfl rfl ?_
              refine G_hn (H' := [.cells [.bool a1.never, .lst (List.map encFct a1.l) false], .cells [.bool b2.never, .lst (List.map encFct b2.l) false], .cells [.bool false, .lst [] true], growM 2 encFct l62, openM 2 encFct l907, .cells [.int .i64 e941.var, .int .i64 (andB .i64 e941.tags 255)]]) rfl rfl rfl (fun _ => rfl) ?_
              refine G_nil ?_
              refine L_nil ?_
              refine Sm_norm (e2 := [(3, .gl 4 (List.length l907)), (5, .ptr 5 0), (11, .gl 3 (List.length b2.l)), (12, .int .i64 ((List.length b2.l : Nat) : Int)), (13, .int .i64 ((i926 : Nat) : Int))]) (H1 := [.cells [.bool a1.never, .lst (List.map encFct a1.l) false], .cells [.bool b2.never, .lst (List.map encFct b2.l) false], .cells [.bool false, .lst [] true], growM 2 encFct l62, openM 2 encFct l907, .cells [.int .i64 e941.var, .int .i64 (andB .i64 e941.tags 255)]]) (H2 := [.cells [.bool a1.never, .lst (List.map encFct a1.l) false], .cells [.bool b2.never, .lst (List.map encFct b2.l) false], .cells [.bool false, .lst [] true], growM 2 encFct l62, openM 2 encFct l907, .cells [.int .i64 e941.var, .int .i64 (andB .i64 e941.tags 255)]]) rfl (by repeat (first | exact rzz | apply rcc rfl | apply rnn rfl)) rfl (?_ : GL _ _ _ _ _)
              refine L_seq ?_
              refine L_stmt ?_
              refine L_seq ?_
              refine L_stmt ?_
              refine L_reg ?_
              refine G_p rfl rfl rfl ?_
              refine G_h rfl rfl rfl (fun _ => rfl) ?_
              refine G_p rfl rfl rfl ?_
              refine G_nil ?_
              refine L_nil ?_
              refine Sm_norm (e2 := [(3, .gl 4 (List.length l907)), (5, .ptr 5 0), (6, .int .i64 ((List.length l907 : Nat) : Int)), (11, .gl 3 (List.length b2.l)), (12, .int .i64 ((List.length b2.l : Nat) : Int)), (13, .int .i64 ((i926 : Nat) : Int))]) (H1 := [.cells [.bool a1.never, .lst (List.map encFct a1.l) false], .cells [.bool b2.never, .lst (List.map encFct b2.l) false], .cells [.bool false, .lst [] true], growM 2 encFct l62, openM 2 encFct l907, .cells [.int .i64 e941.var, .int .i64 (andB .i64 e941.tags 255)]]) (H2 := [.cells [.bool a1.never, .lst (List.map encFct a1.l) false], .cells [.bool b2.never, .lst (List.map encFct b2.l) false], .cells [.bool false, .lst [] true], growM 2 encFct l62, openM 2 encFct l907, .cells [.int .i64 e941.var, .int .i64 (andB .i64 e941.tags 255)]]) rfl (by repeat (first | exact rzz | apply rcc rfl | apply rnn rfl)) rfl (?_ : GL _ _ _ _ _)
              refine L_seq ?_
              refine L_stmt ?_
              refine L_drawS (ops := [_, _, _, _, _, _, _, _, _, _, _, _, _]) rfl rfl ?_
              refine G_p rfl rfl rfl ?_
              refine G_p rfl rfl rfl ?_
              refine G_p rfl rfl rfl ?_
              obtain ⟨v948, hvv948, hr⟩ := bind_s hr
              refine G_pick true [_, _, _, _, _, _, _, _, _] (v := .bool v948) (vo := .bool false) rfl rfl ?_ ?_ rfl ?_
              · intro hb25
                have hr := condT hb25 hvv948
                refine G_p rfl rfl rfl ?_
                refine G_p rfl rfl rfl ?_
                refine G_p rfl rfl rfl ?_
                obtain ⟨e947, he947, hr⟩ := bind_s hr
                refine G_h rfl rfl rfl (iao_ev encFct_w1 rfl rfl rfl rfl (idx_s he947).1 (map_get (x := e947) (idx_s he947).2)) ?_
                refine G_p rfl rfl rfl ?_
                refine G_h rfl rfl rfl (ldso_ev (off := 0) rfl rfl rfl rfl (idx_s he947).2 (by decide) (y0c _) rfl) ?_
                refine G_p rfl rfl rfl ?_
                refine G_h rfl rfl rfl (fun _ => rfl) ?_
                refine G_p rfl rfl rfl ?_
                cases hr; exact G_nil (L_nil ⟨rfl, rfl, rfl⟩)
              · intro hb25; exact pickT hvv948 hb25
              · intro vs hvs
                obtain ⟨u26, u27, u28, u29, u30, u31, u32, u33, u34, rfl⟩ := len9 hvs
                dsimp only [junk]
                refine G_nil (L_nil ⟨rfl, ?_⟩)
                refine L_nil ?_
                refine Sm_norm (e2 := [(3, .gl 4 (List.length l907)), (5, .ptr 5 0), (6, .int .i64 ((List.length l907 : Nat) : Int)), (11, .gl 3 (List.length b2.l)), (12, .int .i64 ((List.length b2.l : Nat) : Int)), (13, .int .i64 ((i926 : Nat) : Int)), (35, .bool v948)]) (H1 := [.cells [.bool a1.never, .lst (List.map encFct a1.l) false], .cells [.bool b2.never, .lst (List.map encFct b2.l) false], .cells [.bool false, .lst [] true], growM 2 encFct l62, openM 2 encFct l907, .cells [.int .i64 e941.var, .int .i64 (andB .i64 e941.tags 255)]]) (H2 := [.cells [.bool a1.never, .lst (List.map encFct a1.l) false], .cells [.bool b2.never, .lst (List.map encFct b2.l) false], .cells [.bool false, .lst [] true], growM 2 encFct l62, openM 2 encFct l907, .cells [.int .i64 e941.var, .int .i64 (andB .i64 e941.tags 255)]]) rfl (by repeat (first | exact rzz | apply rcc rfl | apply rnn rfl)) rfl (?_ : GL _ _ _ _ _)
                rcases cond_s hr with ⟨hc35, hr⟩ | ⟨hc35, hr⟩
                · refine L_T rfl hc35 ?_
                  refine L_seq ?_
                  refine L_drawS (ops := [_, _, _, _, _, _, _, _, _, _, _, _]) rfl rfl ?_
                  refine G_p rfl rfl rfl ?_
                  refine G_p rfl rfl rfl ?_
                  refine G_p rfl rfl rfl ?_
                  obtain ⟨e949, he949, hr⟩ := bind_s hr
                  refine G_h rfl rfl rfl (iao_ev encFct_w1 rfl rfl rfl rfl (idx_s he949).1 (map_get (x := e949) (idx_s he949).2)) ?_
                  refine G_p rfl rfl rfl ?_
                  refine G_h rfl rfl rfl (ldso_ev (off := 1) rfl rfl rfl rfl (idx_s he949).2 (by decide) (y0c _) rfl) ?_
                  refine G_p rfl rfl rfl ?_
                  refine G_h rfl rfl rfl (fun _ => rfl) ?_
                  refine G_p rfl rfl rfl ?_
                  obtain ⟨e950, he950, hr⟩ := bind_s hr
                  refine G_h rfl rfl rfl (iao_ev encFct_w1 rfl rfl rfl rfl (idx_s he950).1 (map_get (x := e950) (idx_s he950).2)) ?_
                  refine G_p rfl rfl rfl ?_
                  obtain ⟨l951, hl951, hr⟩ := bind_s hr
                  refine G_hn (H' := [.cells [.bool a1.never, .lst (List.map encFct a1.l) false], .cells [.bool b2.never, .lst (List.map encFct b2.l) false], .cells [.bool false, .lst [] true], growM 2 encFct l62, openM 2 encFct l951, .cells [.int .i64 e941.var, .int .i64 (andB .i64 e941.tags 255)]]) rfl rfl rfl (stko_ev (off := 1) rfl rfl rfl rfl rfl (idx_s he950).2 (by decide) (by decide) ⟨rfl, rfl⟩ rfl (by (try simp only [encFct_eq]); rfl) (setL_s hl951) rfl) ?_
                  refine G_nil (L_nil ⟨rfl, ?_⟩)
                  refine L_exit ?_
                  refine Sm_exit ?_
                  refine Blk_exit (?_ : GL _ _ _ _ _)
                  refine L_nil ?_
                  exact Sm_norm (e2 := [(3, .gl 4 (List.length l951)), (11, .gl 3 (List.length b2.l)), (12, .int .i64 ((List.length b2.l : Nat) : Int)), (13, .int .i64 ((i926 : Nat) : Int))]) (H1 := [.cells [.bool a1.never, .lst (List.map encFct a1.l) false], .cells [.bool b2.never, .lst (List.map encFct b2.l) false], .cells [.bool false, .lst [] true], growM 2 encFct l62, openM 2 encFct l951, .cells [.int .i64 e941.var, .int .i64 (andB .i64 e941.tags 255)]]) (H2 := [.cells [.bool a1.never, .lst (List.map encFct a1.l) false], .cells [.bool b2.never, .lst (List.map encFct b2.l) false], .cells [.bool false, .lst [] true], growM 2 encFct l62, openM 2 encFct l951]) rfl (by (try rw [show List.length l951 = List.length l907 from (setL_len hl951)]); (repeat (first | exact rzz | apply rcc rfl | apply rnn rfl))) rfl ⟨l951, rfl, rfl, hr⟩
                · refine L_F rfl hc35 ?_
                  refine L_skip ?_
                  refine L_nil ?_
                  refine Sm_norm (e2 := [(3, .gl 4 (List.length l907)), (5, .ptr 5 0), (11, .gl 3 (List.length b2.l)), (12, .int .i64 ((List.length b2.l : Nat) : Int)), (13, .int .i64 ((i926 : Nat) : Int))]) (H1 := [.cells [.bool a1.never, .lst (List.map encFct a1.l) false], .cells [.bool b2.never, .lst (List.map encFct b2.l) false], .cells [.bool false, .lst [] true], growM 2 encFct l62, openM 2 encFct l907, .cells [.int .i64 e941.var, .int .i64 (andB .i64 e941.tags 255)]]) (H2 := [.cells [.bool a1.never, .lst (List.map encFct a1.l) false], .cells [.bool b2.never, .lst (List.map encFct b2.l) false], .cells [.bool false, .lst [] true], growM 2 encFct l62, openM 2 encFct l907, .cells [.int .i64 e941.var, .int .i64 (andB .i64 e941.tags 255)]]) rfl (by repeat (first | exact rzz | apply rcc rfl | apply rnn rfl)) rfl (?_ : GL _ _ _ _ _)
                  refine L_reg ?_
                  refine G_p rfl rfl rfl ?_
                  refine G_h (v := .agg [.int .i64 e941.var, .int .i64 (andB .i64 e941.tags 255)]) rfl rfl rfl (fun _ => rfl) ?_
                  refine G_h (v := .lst (List.map encFct [(Fct.mk e941.var (andB .i64 e941.tags 255))]) true) rfl rfl rfl (fun _ => Eq.trans (b := some (Ex.ok (AVal.lst [.agg [.int .i64 e941.var, .int .i64 (andB .i64 e941.tags 255)]] true), _)) rfl (congrArg (fun z => some (Ex.ok (AVal.lst z true), _)) (by first | rfl | (simp only [List.map_cons, List.map_nil, encFct_eq] <;> rfl)))) ?_
                  obtain ⟨l952, hl952, hr⟩ := bind_s hr
                  refine G_h rfl rfl rfl (appGo_ev (es := 2) encFct_w1 (show (16 : Nat) ≤ 1400 from by decide) rfl rfl rfl rfl hl952 rfl) ?_
                  refine G_p rfl rfl rfl ?_
                  refine G_nil ?_
                  refine L_nil ?_
                  refine Blk_norm (?_ : GL _ _ _ _ _)
                  refine L_nil ?_
                  exact Sm_norm (e2 := [(3, .gl 4 (List.length l952)), (11, .gl 3 (List.length b2.l)), (12, .int .i64 ((List.length b2.l : Nat) : Int)), (13, .int .i64 ((i926 : Nat) : Int))]) (H1 := [.cells [.bool a1.never, .lst (List.map encFct a1.l) false], .cells [.bool b2.never, .lst (List.map encFct b2.l) false], .cells [.bool false, .lst [] true], growM 2 encFct l62, openM 2 encFct l952, .cells [.int .i64 e941.var, .int .i64 (andB .i64 e941.tags 255)]]) (H2 := [.cells [.bool a1.never, .lst (List.map encFct a1.l) false], .cells [.bool b2.never, .lst (List.map encFct b2.l) false], .cells [.bool false, .lst [] true], growM 2 encFct l62, openM 2 encFct l952]) rfl (by repeat (first | exact rzz | apply rcc rfl | apply rnn rfl)) rfl ⟨l952, rfl, rfl, hr⟩
            · rintro l940 hr
              show GL _ _ [(3, .gl 4 (List.length l940)), (11, .gl 3 (List.length b2.l)), (12, .int .i64 ((List.length b2.l : Nat) : Int)), (13, .int .i64 ((i926 : Nat) : Int))] [.cells [.bool a1.never, .lst (List.map encFct a1.l) false], .cells [.bool b2.never, .lst (List.map encFct b2.l) false], .cells [.bool false, .lst [] true], growM 2 encFct l62, openM 2 encFct l940] _
              replace hr : y20 (y10 n a1 b2 l62 rest927 (i926 + 1)) l940 = some r := hr
              unfold y20 at hr
              refine L_reg ?_
              refine G_v (.int .i64 ((i926 + 1 : Nat) : Int)) rfl rfl rfl (congrArg _ (wrap_next hLq924 hlti926)) ?_
              refine G_p rfl rfl rfl ?_
              refine G_nil ?_
              refine L_nil ?_
              refine Rd_norm ⟨l940, ?_, rfl, hr⟩
              show restr _ _ = [(3, .gl 4 (List.length l940)), (13, .int .i64 (((i926 + 1) : Nat) : Int)), (11, .gl 3 (List.length b2.l)), (12, .int .i64 ((List.length b2.l : Nat) : Int))]
              (repeat (first | exact rzz | apply rcc rfl | apply rnn rfl))
        · rintro l112 hr
          show GL _ _ [(3, .gl 4 (List.length l112))] [.cells [.bool a1.never, .lst (List.map encFct a1.l) false], .cells [.bool b2.never, .lst (List.map encFct b2.l) false], .cells [.bool false, .lst [] true], growM 2 encFct l62, openM 2 encFct l112] _
          replace hr : y21 n a1 b2 l62 l112 = some r := hr
          unfold y21 at hr
          refine L_seq ?_
          refine L_reg ?_
          refine G_p rfl rfl rfl ?_
          refine G_p rfl rfl rfl ?_
          refine G_nil ?_
          refine L_ret ?_
          refine ⟨_, rfl, (?_ : GO _ _ _ ((24, .gl 4 (List.length l112)) :: _) [.cells [.bool a1.never, .lst (List.map encFct a1.l) false], .cells [.bool b2.never, .lst (List.map encFct b2.l) false], .cells [.bool false, .lst [] true], growM 2 encFct l62, openM 2 encFct l112] _)⟩
          refine G_p rfl rfl rfl ?_
          refine G_nil ?_
          refine L_nil ?_
          refine Sm_norm (e2 := [(2, .ptr 0 0), (4, .ptr 2 0), (5, .lst [] true), (6, .gl 4 (List.length l112))]) (H1 := [.cells [.bool a1.never, .lst (List.map encFct a1.l) false], .cells [.bool b2.never, .lst (List.map encFct b2.l) false], .cells [.bool false, .lst [] true], growM 2 encFct l62, openM 2 encFct l112]) (H2 := [.cells [.bool a1.never, .lst (List.map encFct a1.l) false], .cells [.bool b2.never, .lst (List.map encFct b2.l) false], .cells [.bool false, .lst [] true], growM 2 encFct l62, openM 2 encFct l112]) rfl (by repeat (first | exact rzz | apply rcc rfl | apply rnn rfl)) rfl (?_ : GL _ _ _ _ _)
          refine L_seq ?_
          refine L_stmtJ (S := List Fct × List Fct × List Fct) (fun s => [(4, .ptr 2 0), (5, .gl 7 (List.length s.2.2))]) (fun s => [.cells [.bool a1.never, .lst (List.map encFct a1.l) false], .cells [.bool b2.never, .lst (List.map encFct b2.l) false], .cells [.bool false, .lst [] true], growM 2 encFct l62, openM 2 encFct l112, growM 2 encFct s.1, openM 2 encFct s.2.1, openM 2 encFct s.2.2]) (fun s => y1t n s.1 s.2.1 s.2.2 = some r) ?_ ?_
          · skip
            refine L_seq ?_
            refine L_stmt ?_
            refine L_reg ?_
            refine G_p rfl rfl rfl ?_
            refine G_h (v := .lst (List.map encFct a1.l) false) rfl rfl rfl (fun _ => rfl) ?_
            refine G_cx 38 rfl rfl (ca_finx t38 (Or.inl rfl) ?_)
            refine L_seq ?_
            refine L_stmt ?_
            refine L_reg ?_
            refine G_p (v := .lst [] true) rfl rfl rfl ?_
            refine G_nil ?_
            refine L_nil ?_
            refine Sm_norm (e2 := [(0, .lst (List.map encFct a1.l) false)]) (H1 := [.cells [.bool a1.never, .lst (List.map encFct a1.l) false], .cells [.bool b2.never, .lst (List.map encFct b2.l) false], .cells [.bool false, .lst [] true], growM 2 encFct l62, openM 2 encFct l112]) (H2 := [.cells [.bool a1.never, .lst (List.map encFct a1.l) false], .cells [.bool b2.never, .lst (List.map encFct b2.l) false], .cells [.bool false, .lst [] true], growM 2 encFct l62, openM 2 encFct l112]) rfl (by repeat (first | exact rzz | apply rcc rfl | apply rnn rfl)) rfl (?_ : GL _ _ _ _ _)
            refine L_seq ?_
            refine L_stmtJ (S := Unit) (fun s => [(0, .gl 5 (List.length a1.l))]) (fun s => [.cells [.bool a1.never, .lst (List.map encFct a1.l) false], .cells [.bool b2.never, .lst (List.map encFct b2.l) false], .cells [.bool false, .lst [] true], growM 2 encFct l62, openM 2 encFct l112, openM 2 encFct a1.l]) (fun s => y2m n a1 b2 l62 l112 = some r) ?_ ?_
            · skip
              refine L_seq ?_
              refine L_reg ?_
              refine G_p (v := .lst (List.map encFct a1.l) false) rfl rfl rfl ?_
              obtain ⟨hLq891, hr⟩ := guard_s hr
              rcases emp_or a1.l with hEq891 | hEq891
              · skip
                refine G_c 70 rfl rfl (CA_raw (cloneo_e (f := encFct) (ys := a1.l) t70 encFct_w1 rfl hEq891) (by simp [cutH] <;> rfl)) ?_
                refine G_p (v := .lst (List.map encFct a1.l) true) rfl rfl rfl ?_
                refine G_nil ?_
                refine L_own (H' := [.cells [.bool a1.never, .lst (List.map encFct a1.l) false], .cells [.bool b2.never, .lst (List.map encFct b2.l) false], .cells [.bool false, .lst [] true], growM 2 encFct l62, openM 2 encFct l112, openM 2 encFct a1.l]) (own_e (w := 2) rfl hEq891) ?_
                refine L_nil ?_
                exact Sm_norm (e2 := [(0, .gl 5 (List.length a1.l))]) (H1 := [.cells [.bool a1.never, .lst (List.map encFct a1.l) false], .cells [.bool b2.never, .lst (List.map encFct b2.l) false], .cells [.bool false, .lst [] true], growM 2 encFct l62, openM 2 encFct l112, openM 2 encFct a1.l]) (H2 := [.cells [.bool a1.never, .lst (List.map encFct a1.l) false], .cells [.bool b2.never, .lst (List.map encFct b2.l) false], .cells [.bool false, .lst [] true], growM 2 encFct l62, openM 2 encFct l112, openM 2 encFct a1.l]) rfl (by repeat (first | exact rzz | apply rcc rfl | apply rnn rfl)) rfl ⟨(), rfl, rfl, hr⟩
              · skip
                refine G_c 70 rfl rfl (CA_raw (cloneo_n (f := encFct) (ys := a1.l) t70 encFct_w1 (by decide) rfl hEq891 hLq891) (by simp [cutH, lowV] <;> rfl)) ?_
                refine G_p rfl rfl rfl ?_
                refine G_nil ?_
                refine L_own (H' := [.cells [.bool a1.never, .lst (List.map encFct a1.l) false], .cells [.bool b2.never, .lst (List.map encFct b2.l) false], .cells [.bool false, .lst [] true], growM 2 encFct l62, openM 2 encFct l112, openM 2 encFct a1.l]) rfl ?_
                refine L_nil ?_
                exact Sm_norm (e2 := [(0, .gl 5 (List.length a1.l))]) (H1 := [.cells [.bool a1.never, .lst (List.map encFct a1.l) false], .cells [.bool b2.never, .lst (List.map encFct b2.l) false], .cells [.bool false, .lst [] true], growM 2 encFct l62, openM 2 encFct l112, openM 2 encFct a1.l]) (H2 := [.cells [.bool a1.never, .lst (List.map encFct a1.l) false], .cells [.bool b2.never, .lst (List.map encFct b2.l) false], .cells [.bool false, .lst [] true], growM 2 encFct l62, openM 2 encFct l112, openM 2 encFct a1.l]) rfl (by repeat (first | exact rzz | apply rcc rfl | apply rnn rfl)) rfl ⟨(), rfl, rfl, hr⟩
            · rintro ⟨⟩ hr
              show GL _ _ [(0, .gl 5 (List.length a1.l))] [.cells [.bool a1.never, .lst (List.map encFct a1.l) false], .cells [.bool b2.never, .lst (List.map encFct b2.l) false], .cells [.bool false, .lst [] true], growM 2 encFct l62, openM 2 encFct l112, openM 2 encFct a1.l] _
              replace hr : y2m n a1 b2 l62 l112 = some r := hr
              unfold y2m at hr
              refine L_seq ?_
              refine L_stmt ?_
              refine L_reg ?_
              refine G_p rfl rfl rfl ?_
              obtain ⟨l636, hl636, hr⟩ := bind_s hr
              refine G_c (H' := [.cells [.bool a1.never, .lst (List.map encFct a1.l) false], .cells [.bool b2.never, .lst (List.map encFct b2.l) false], .cells [.bool false, .lst [] true], growM 2 encFct l62, openM 2 encFct l112, openM 2 encFct l636]) 71 rfl rfl ((y13 (callG_s hl636).1) ([.cells [.bool a1.never, .lst (List.map encFct a1.l) false], .cells [.bool b2.never, .lst (List.map encFct b2.l) false], .cells [.bool false, .lst [] true], growM 2 encFct l62, openM 2 encFct l112, openM 2 encFct a1.l]) 5 _ (by simp) rfl) ?_
              refine G_nil ?_
              refine L_nil ?_
              refine Sm_norm (e2 := [(0, .gl 5 (List.length a1.l))]) (H1 := [.cells [.bool a1.never, .lst (List.map encFct a1.l) false], .cells [.bool b2.never, .lst (List.map encFct b2.l) false], .cells [.bool false, .lst [] true], growM 2 encFct l62, openM 2 encFct l112, openM 2 encFct l636]) (H2 := [.cells [.bool a1.never, .lst (List.map encFct a1.l) false], .cells [.bool b2.never, .lst (List.map encFct b2.l) false], .cells [.bool false, .lst [] true], growM 2 encFct l62, openM 2 encFct l112, openM 2 encFct l636]) rfl (by repeat (first | exact rzz | apply rcc rfl | apply rnn rfl)) rfl (?_ : GL _ _ _ _ _)
              refine L_seq ?_
              refine L_shutl (H' := [.cells [.bool a1.never, .lst (List.map encFct a1.l) false], .cells [.bool b2.never, .lst (List.map encFct b2.l) false], .cells [.bool false, .lst [] true], growM 2 encFct l62, openM 2 encFct l112, growM 2 encFct l636]) (seal_o (callG_s hl636).2 rfl rfl rfl) ?_
              refine L_seq ?_
              refine L_stmt ?_
              refine L_reg ?_
              refine G_p (v := .lst [] true) rfl rfl rfl ?_
              refine G_nil ?_
              refine L_nil ?_
              refine Sm_norm (e2 := [(0, .gl 5 (List.length a1.l)), (3, .lst [] true)]) (H1 := [.cells [.bool a1.never, .lst (List.map encFct a1.l) false], .cells [.bool b2.never, .lst (List.map encFct b2.l) false], .cells [.bool false, .lst [] true], growM 2 encFct l62, openM 2 encFct l112, growM 2 encFct l636]) (H2 := [.cells [.bool a1.never, .lst (List.map encFct a1.l) false], .cells [.bool b2.never, .lst (List.map encFct b2.l) false], .cells [.bool false, .lst [] true], growM 2 encFct l62, openM 2 encFct l112, growM 2 encFct l636]) rfl (by repeat (first | exact rzz | apply rcc rfl | apply rnn rfl)) rfl (?_ : GL _ _ _ _ _)
              refine L_seq ?_
              refine L_stmtJ (S := List Fct) (fun s => [(3, .gl 6 (List.length s))]) (fun s => [.cells [.bool a1.never, .lst (List.map encFct a1.l) false], .cells [.bool b2.never, .lst (List.map encFct b2.l) false], .cells [.bool false, .lst [] true], growM 2 encFct l62, openM 2 encFct l112, growM 2 encFct l636, openM 2 encFct s]) (fun s => y1z n a1 b2 l62 l112 l636 s = some r) ?_ ?_
              · skip
                refine L_seq ?_
                refine L_stmt ?_
                refine L_reg ?_
                refine G_p rfl rfl rfl ?_
                refine G_h rfl rfl rfl (fun _ => rfl) ?_
                refine G_p rfl rfl rfl ?_
                refine G_nil ?_
                refine L_nil ?_
                refine Sm_norm (e2 := [(3, .lst [] true), (11, .gl 5 (List.length a1.l)), (12, .int .i64 ((List.length a1.l : Nat) : Int)), (13, .int .i64 0)]) (H1 := [.cells [.bool a1.never, .lst (List.map encFct a1.l) false], .cells [.bool b2.never, .lst (List.map encFct b2.l) false], .cells [.bool false, .lst [] true], growM 2 encFct l62, openM 2 encFct l112, growM 2 encFct l636]) (H2 := [.cells [.bool a1.never, .lst (List.map encFct a1.l) false], .cells [.bool b2.never, .lst (List.map encFct b2.l) false], .cells [.bool false, .lst [] true], growM 2 encFct l62, openM 2 encFct l112, growM 2 encFct l636]) rfl (by repeat (first | exact rzz | apply rcc rfl | apply rnn rfl)) rfl (?_ : GL _ _ _ _ _)
                refine L_block ?_
                refine L_seq ?_
                refine L_own (H' := [.cells [.bool a1.never, .lst (List.map encFct a1.l) false], .cells [.bool b2.never, .lst (List.map encFct b2.l) false], .cells [.bool false, .lst [] true], growM 2 encFct l62, openM 2 encFct l112, growM 2 encFct l636, openM 2 encFct []]) rfl ?_
                obtain ⟨hLq862, hr⟩ := guard_s hr
                replace hLq862 := okLen_s hLq862
                refine L_range (X := Fct) (S := List Fct) a1.l (fun i864 s => [(3, .gl 6 (List.length s)), (13, .int .i64 ((i864 : Nat) : Int)), (11, .gl 5 (List.length a1.l)), (12, .int .i64 ((List.length a1.l : Nat) : Int))]) (fun i864 s => [.cells [.bool a1.never, .lst (List.map encFct a1.l) false], .cells [.bool b2.never, .lst (List.map encFct b2.l) false], .cells [.bool false, .lst [] true], growM 2 encFct l62, openM 2 encFct l112, growM 2 encFct l636, openM 2 encFct s]) (fun rest i864 s => y0x n a1 b2 l62 l112 l636 rest i864 s = some r) ([]) ?_ rfl hr ?_ ?_
                · show restr _ _ = [(3, .gl 6 (List.length [])), (13, .int .i64 ((0 : Nat) : Int)), (11, .gl 5 (List.length a1.l)), (12, .int .i64 ((List.length a1.l : Nat) : Int))]
                  (repeat (first | exact rzz | apply rcc rfl | apply rnn rfl))
                · rintro l845 hr
                  show GL _ _ [(3, .gl 6 (List.length l845)), (13, .int .i64 (((List.length a1.l) : Nat) : Int)), (11, .gl 5 (List.length a1.l)), (12, .int .i64 ((List.length a1.l : Nat) : Int))] [.cells [.bool a1.never, .lst (List.map encFct a1.l) false], .cells [.bool b2.never, .lst (List.map encFct b2.l) false], .cells [.bool false, .lst [] true], growM 2 encFct l62, openM 2 encFct l112, growM 2 encFct l636, openM 2 encFct l845] _
                  replace hr : y0x n a1 b2 l62 l112 l636 [] (List.length a1.l) l845 = some r := hr
                  rw [y0x] at hr
                  refine L_seq ?_
                  refine L_stmt ?_
                  refine L_reg ?_
                  refine G_v (.bool false) rfl rfl rfl (congrArg AVal.bool (decide_eq_false (by omega))) ?_
                  refine G_nil ?_
                  refine L_nil ?_
                  refine Sm_norm (e2 := [(3, .gl 6 (List.length l845)), (11, .gl 5 (List.length a1.l)), (12, .int .i64 ((List.length a1.l : Nat) : Int)), (13, .int .i64 ((List.length a1.l : Nat) : Int)), (14, .bool false)]) (H1 := [.cells [.bool a1.never, .lst (List.map encFct a1.l) false], .cells [.bool b2.never, .lst (List.map encFct b2.l) false], .cells [.bool false, .lst [] true], growM 2 encFct l62, openM 2 encFct l112, growM 2 encFct l636, openM 2 encFct l845]) (H2 := [.cells [.bool a1.never, .lst (List.map encFct a1.l) false], .cells [.bool b2.never, .lst (List.map encFct b2.l) false], .cells [.bool false, .lst [] true], growM 2 encFct l62, openM 2 encFct l112, growM 2 encFct l636, openM 2 encFct l845]) rfl (by repeat (first | exact rzz | apply rcc rfl | apply rnn rfl)) rfl (?_ : GL _ _ _ _ _)
                  refine L_seq ?_
                  refine L_stmt ?_
                  refine L_F rfl rfl ?_
                  refine L_exit ?_
                  refine Sm_exit ?_
                  refine Rd_exit ?_
                  refine Blk_exit (?_ : GL _ _ _ _ _)
                  refine L_nil ?_
                  exact Sm_norm (e2 := [(3, .gl 6 (List.length l845))]) (H1 := [.cells [.bool a1.never, .lst (List.map encFct a1.l) false], .cells [.bool b2.never, .lst (List.map encFct b2.l) false], .cells [.bool false, .lst [] true], growM 2 encFct l62, openM 2 encFct l112, growM 2 encFct l636, openM 2 encFct l845]) (H2 := [.cells [.bool a1.never, .lst (List.map encFct a1.l) false], .cells [.bool b2.never, .lst (List.map encFct b2.l) false], .cells [.bool false, .lst [] true], growM 2 encFct l62, openM 2 encFct l112, growM 2 encFct l636, openM 2 encFct l845]) rfl (by repeat (first | exact rzz | apply rcc rfl | apply rnn rfl)) rfl ⟨l845, rfl, rfl, hr⟩
                · rintro y863 rest865 i864 l845 hy863 hlti864 hr
                  show GL _ _ [(3, .gl 6 (List.length l845)), (13, .int .i64 ((i864 : Nat) : Int)), (11, .gl 5 (List.length a1.l)), (12, .int .i64 ((List.length a1.l : Nat) : Int))] [.cells [.bool a1.never, .lst (List.map encFct a1.l) false], .cells [.bool b2.never, .lst (List.map encFct b2.l) false], .cells [.bool false, .lst [] true], growM 2 encFct l62, openM 2 encFct l112, growM 2 encFct l636, openM 2 encFct l845] _
                  replace hr : y0x n a1 b2 l62 l112 l636 (y863 :: rest865) i864 l845 = some r := hr
                  rw [y0x] at hr
                  refine L_seq ?_
                  refine L_stmt ?_
                  refine L_reg ?_
                  refine G_v (.bool true) rfl rfl rfl (congrArg AVal.bool (decide_eq_true (by omega))) ?_
                  refine G_nil ?_
                  refine L_nil ?_
                  refine Sm_norm (e2 := [(3, .gl 6 (List.length l845)), (11, .gl 5 (List.length a1.l)), (12, .int .i64 ((List.length a1.l : Nat) : Int)), (13, .int .i64 ((i864 : Nat) : Int)), (14, .bool true)]) (H1 := [.cells [.bool a1.never, .lst (List.map encFct a1.l) false], .cells [.bool b2.never, .lst (List.map encFct b2.l) false], .cells [.bool false, .lst [] true], growM 2 encFct l62, openM 2 encFct l112, growM 2 encFct l636, openM 2 encFct l845]) (H2 := [.cells [.bool a1.never, .lst (List.map encFct a1.l) false], .cells [.bool b2.never, .lst (List.map encFct b2.l) false], .cells [.bool false, .lst [] true], growM 2 encFct l62, openM 2 encFct l112, growM 2 encFct l636, openM 2 encFct l845]) rfl (by repeat (first | exact rzz | apply rcc rfl | apply rnn rfl)) rfl (?_ : GL _ _ _ _ _)
                  refine L_seq ?_
                  refine L_stmt ?_
                  refine L_T rfl rfl ?_
                  refine L_skip ?_
                  refine L_nil ?_
                  refine Sm_norm (e2 := [(3, .gl 6 (List.length l845)), (11, .gl 5 (List.length a1.l)), (12, .int .i64 ((List.length a1.l : Nat) : Int)), (13, .int .i64 ((i864 : Nat) : Int))]) (H1 := [.cells [.bool a1.never, .lst (List.map encFct a1.l) false], .cells [.bool b2.never, .lst (List.map encFct b2.l) false], .cells [.bool false, .lst [] true], growM 2 encFct l62, openM 2 encFct l112, growM 2 encFct l636, openM 2 encFct l845]) (H2 := [.cells [.bool a1.never, .lst (List.map encFct a1.l) false], .cells [.bool b2.never, .lst (List.map encFct b2.l) false], .cells [.bool false, .lst [] true], growM 2 encFct l62, openM 2 encFct l112, growM 2 encFct l636, openM 2 encFct l845]) rfl (by repeat (first | exact rzz | apply rcc rfl | apply rnn rfl)) rfl (?_ : GL _ _ _ _ _)
                  refine L_seq ?_
                  refine L_stmtJ (S := List Fct) (fun s => [(3, .gl 6 (List.length s)), (11, .gl 5 (List.length a1.l)), (12, .int .i64 ((List.length a1.l : Nat) : Int)), (13, .int .i64 ((i864 : Nat) : Int))]) (fun s => [.cells [.bool a1.never, .lst (List.map encFct a1.l) false], .cells [.bool b2.never, .lst (List.map encFct b2.l) false], .cells [.bool false, .lst [] true], growM 2 encFct l62, openM 2 encFct l112, growM 2 encFct l636, openM 2 encFct s]) (fun s => y23 (y0x n a1 b2 l62 l112 l636 rest865 (i864 + 1)) s = some r) ?_ ?_
                  · skip
                    refine L_block ?_
                    refine L_seq ?_
                    refine L_stmt ?_
                    refine L_reg ?_
                    obtain ⟨e879, he879, hr⟩ := bind_s hr
                    refine G_h (v := .ro [.int .i64 e879.var, .int .i64 e879.tags]) rfl rfl rfl (iagL_ev (cells := [.int .i64 e879.var, .int .i64 e879.tags]) (callG_s hl636).2 rfl rfl rfl (idx_s he879).1 (map_get (x := e879) (idx_s he879).2) (y0c _) rfl) ?_
                    refine G_h (v := .agg (cFct e879)) rfl rfl rfl (fun _ => rfl) ?_
                    refine G_n (B := .cells [.int .i64 0, .int .i64 0]) rfl rfl rfl ?_
                    refine G_hn (H' := [.cells [.bool a1.never, .lst (List.map encFct a1.l) false], .cells [.bool b2.never, .lst (List.map encFct b2.l) false], .cells [.bool false, .lst [] true], growM 2 encFct l62, openM 2 encFct l112, growM 2 encFct l636, openM 2 encFct l845, .cells [.int .i64 e879.var, .int .i64 e879.tags]]) rfl rfl rfl (fun _ => rfl) ?_
                    refine G_nil ?_
                    refine L_nil ?_
                    refine Sm_norm (e2 := [(3, .gl 6 (List.length l845)), (5, .ptr 7 0), (11, .gl 5 (List.length a1.l)), (12, .int .i64 ((List.length a1.l : Nat) : Int)), (13, .int .i64 ((i864 : Nat) : Int))]) (H1 := [.cells [.bool a1.never, .lst (List.map encFct a1.l) false], .cells [.bool b2.never, .lst (List.map encFct b2.l) false], .cells [.bool false, .lst [] true], growM 2 encFct l62, openM 2 encFct l112, growM 2 encFct l636, openM 2 encFct l845, .cells [.int .i64 e879.var, .int .i64 e879.tags]]) (H2 := [.cells [.bool a1.never, .lst (List.map encFct a1.l) false], .cells [.bool b2.never, .lst (List.map encFct b2.l) false], .cells [.bool false, .lst [] true], growM 2 encFct l62, openM 2 encFct l112, growM 2 encFct l636, openM 2 encFct l845, .cells [.int .i64 e879.var, .int .i64 e879.tags]]) rfl (by repeat (first | exact rzz | apply rcc rfl | apply rnn rfl)) rfl (?_ : GL _ _ _ _ _)
                    refine L_seq ?_
                    refine L_stmt ?_
                    refine L_reg ?_
                    refine G_p rfl rfl rfl ?_
                    refine G_h rfl rfl rfl (fun _ => rfl) ?_
                    refine G_p rfl rfl rfl ?_
                    refine G_p rfl rfl rfl ?_
                    refine G_hn (H' := [.cells [.bool a1.never, .lst (List.map encFct a1.l) false], .cells [.bool b2.never, .lst (List.map encFct b2.l) false], .cells [.bool false, .lst [] true], growM 2 encFct l62, openM 2 encFct l112, growM 2 encFct l636, openM 2 encFct l845, .cells [.int .i64 e879.var, .int .i64 (andB .i64 e879.tags 255)]]) rfl rfl rfl (fun _ => rfl) ?_
                    refine G_nil ?_
                    refine L_nil ?_
                    refine Sm_norm (e2 := [(3, .gl 6 (List.length l845)), (5, .ptr 7 0), (11, .gl 5 (List.length a1.l)), (12, .int .i64 ((List.length a1.l : Nat) : Int)), (13, .int .i64 ((i864 : Nat) : Int))]) (H1 := [.cells [.bool a1.never, .lst (List.map encFct a1.l) false], .cells [.bool b2.never, .lst (List.map encFct b2.l) false], .cells [.bool false, .lst [] true], growM 2 encFct l62, openM 2 encFct l112, growM 2 encFct l636, openM 2 encFct l845, .cells [.int .i64 e879.var, .int .i64 (andB .i64 e879.tags 255)]]) (H2 := [.cells [.bool a1.never, .lst (List.map encFct a1.l) false], .cells [.bool b2.never, .lst (List.map encFct b2.l) false], .cells [.bool false, .lst [] true], growM 2 encFct l62, openM 2 encFct l112, growM 2 encFct l636, openM 2 encFct l845, .cells [.int .i64 e879.var, .int .i64 (andB .i64 e879.tags 255)]]) rfl (by repeat (first | exact rzz | apply rcc rfl | apply rnn rfl)) rfl (?_ : GL _ _ _ _ _)
                    refine L_seq ?_
                    refine L_stmt ?_
                    refine L_seq ?_
                    refine L_stmt ?_
                    refine L_reg ?_
                    refine G_p rfl rfl rfl ?_
                    refine G_h rfl rfl rfl (fun _ => rfl) ?_
                    refine G_p rfl rfl rfl ?_
                    refine G_nil ?_
                    refine L_nil ?_
                    refine Sm_norm (e2 := [(3, .gl 6 (List.length l845)), (5, .ptr 7 0), (6, .int .i64 ((List.length l845 : Nat) : Int)), (11, .gl 5 (List.length a1.l)), (12, .int .i64 ((List.length a1.l : Nat) : Int)), (13, .int .i64 ((i864 : Nat) : Int))]) (H1 := [.cells [.bool a1.never, .lst (List.map encFct a1.l) false], .cells [.bool b2.never, .lst (List.map encFct b2.l) false], .cells [.bool false, .lst [] true], growM 2 encFct l62, openM 2 encFct l112, growM 2 encFct l636, openM 2 encFct l845, .cells [.int .i64 e879.var, .int .i64 (andB .i64 e879.tags 255)]]) (H2 := [.cells [.bool a1.never, .lst (List.map encFct a1.l) false], .cells [.bool b2.never, .lst (List.map encFct b2.l) false], .cells [.bool false, .lst [] true], growM 2 encFct l62, openM 2 encFct l112, growM 2 encFct l636, openM 2 encFct l845, .cells [.int .i64 e879.var, .int .i64 (andB .i64 e879.tags 255)]]) rfl (by repeat (first | exact rzz | apply rcc rfl | apply rnn rfl)) rfl (?_ : GL _ _ _ _ _)
                    refine L_seq ?_
                    refine L_stmt ?_
                    refine L_drawS (ops := [_, _, _, _, _, _, _, _, _, _, _, _, _]) rfl rfl ?_
                    refine G_p rfl rfl rfl ?_
                    refine G_p rfl rfl rfl ?_
                    refine G_p rfl rfl rfl ?_
                    obtain ⟨v886, hvv886, hr⟩ := bind_s hr
                    refine G_pick true [_, _, _, _, _, _, _, _, _] (v := .bool v886) (vo := .bool false) rfl rfl ?_ ?_ rfl ?_
                    · intro hb25
                      have hr := condT hb25 hvv886
                      refine G_p rfl rfl rfl ?_
                      refine G_p rfl rfl rfl ?_
                      refine G_p rfl rfl rfl ?_
                      obtain ⟨e885, he885, hr⟩ := bind_s hr
                      refine G_h rfl rfl rfl (iao_ev encFct_w1 rfl rfl rfl rfl (idx_s he885).1 (map_get (x := e885) (idx_s he885).2)) ?_
                      refine G_p rfl rfl rfl ?_
                      refine G_h rfl rfl rfl (ldso_ev (off := 0) rfl rfl rfl rfl (idx_s he885).2 (by decide) (y0c _) rfl) ?_
                      refine G_p rfl rfl rfl ?_
                      refine G_h rfl rfl rfl (fun _ => rfl) ?_
                      refine G_p rfl rfl rfl ?_
                      cases hr; exact G_nil (L_nil ⟨rfl, rfl, rfl⟩)
                    · intro hb25; exact pickT hvv886 hb25
                    · intro vs hvs
                      obtain ⟨u26, u27, u28, u29, u30, u31, u32, u33, u34, rfl⟩ := len9 hvs
                      dsimp only [junk]
                      refine G_nil (L_nil ⟨rfl, ?_⟩)
                      refine L_nil ?_
                      refine Sm_norm (e2 := [(3, .gl 6 (List.length l845)), (5, .ptr 7 0), (6, .int .i64 ((List.length l845 : Nat) : Int)), (11, .gl 5 (List.length a1.l)), (12, .int .i64 ((List.length a1.l : Nat) : Int)), (13, .int .i64 ((i864 : Nat) : Int)), (35, .bool v886)]) (H1 := [.cells [.bool a1.never, .lst (List.map encFct a1.l) false], .cells [.bool b2.never, .lst (List.map encFct b2.l) false], .cells [.bool false, .lst [] true], growM 2 encFct l62, openM 2 encFct l112, growM 2 encFct l636, openM 2 encFct l845, .cells [.int .i64 e879.var, .int .i64 (andB .i64 e879.tags 255)]]) (H2 := [.cells [.bool a1.never, .lst (List.map encFct a1.l) false], .cells [.bool b2.never, .lst (List.map encFct b2.l) false], .cells [.bool false, .lst [] true], growM 2 encFct l62, openM 2 encFct l112, growM 2 encFct l636, openM 2 encFct l845, .cells [.int .i64 e879.var, .int .i64 (andB .i64 e879.tags 255)]]) rfl (by repeat (first | exact rzz | apply rcc rfl | apply rnn rfl)) rfl (?_ : GL _ _ _ _ _)
                      rcases cond_s hr with ⟨hc35, hr⟩ | ⟨hc35, hr⟩
                      · refine L_T rfl hc35 ?_
                        refine L_seq ?_
                        refine L_drawS (ops := [_, _, _, _, _, _, _, _, _, _, _, _]) rfl rfl ?_
                        refine G_p rfl rfl rfl ?_
                        refine G_p rfl rfl rfl ?_
                        refine G_p rfl rfl rfl ?_
                        obtain ⟨e887, he887, hr⟩ := bind_s hr
                        refine G_h rfl rfl rfl (iao_ev encFct_w1 rfl rfl rfl rfl (idx_s he887).1 (map_get (x := e887) (idx_s he887).2)) ?_
                        refine G_p rfl rfl rfl ?_
                        refine G_h rfl rfl rfl (ldso_ev (off := 1) rfl rfl rfl rfl (idx_s he887).2 (by decide) (y0c _) rfl) ?_
                        refine G_p rfl rfl rfl ?_
                        refine G_h rfl rfl rfl (fun _ => rfl) ?_
                        refine G_p rfl rfl rfl ?_
                        obtain ⟨e888, he888, hr⟩ := bind_s hr
                        refine G_h rfl rfl rfl (iao_ev encFct_w1 rfl rfl rfl rfl (idx_s he888).1 (map_get (x := e888) (idx_s he888).2)) ?_
                        refine G_p rfl rfl rfl ?_
                        obtain ⟨l889, hl889, hr⟩ := bind_s hr
                        refine G_hn (H' := [.cells [.bool a1.never, .lst (List.map encFct a1.l) false], .cells [.bool b2.never, .lst (List.map encFct b2.l) false], .cells [.bool false, .lst [] true], growM 2 encFct l62, openM 2 encFct l112, growM 2 encFct l636, openM 2 encFct l889, .cells [.int .i64 e879.var, .int .i64 (andB .i64 e879.tags 255)]]) rfl rfl rfl (stko_ev (off := 1) rfl rfl rfl rfl rfl (idx_s he888).2 (by decide) (by decide) ⟨rfl, rfl⟩ rfl (by (try simp only [encFct_eq]); rfl) (setL_s hl889) rfl) ?_
                        refine G_nil (L_nil ⟨rfl, ?_⟩)
                        refine L_exit ?_
                        refine Sm_exit ?_
                        refine Blk_exit (?_ : GL _ _ _ _ _)
                        refine L_nil ?_
                        exact Sm_norm (e2 := [(3, .gl 6 (List.length l889)), (11, .gl 5 (List.length a1.l)), (12, .int .i64 ((List.length a1.l : Nat) : Int)), (13, .int .i64 ((i864 : Nat) : Int))]) (H1 := [.cells [.bool a1.never, .lst (List.map encFct a1.l) false], .cells [.bool b2.never, .lst (List.map encFct b2.l) false], .cells [.bool false, .lst [] true], growM 2 encFct l62, openM 2 encFct l112, growM 2 encFct l636, openM 2 encFct l889, .cells [.int .i64 e879.var, .int .i64 (andB .i64 e879.tags 255)]]) (H2 := [.cells [.bool a1.never, .lst (List.map encFct a1.l) false], .cells [.bool b2.never, .lst (List.map encFct b2.l) false], .cells [.bool false, .lst [] true], growM 2 encFct l62, openM 2 encFct l112, growM 2 encFct l636, openM 2 encFct l889]) rfl (by (try rw [show List.length l889 = List.length l845 from (setL_len hl889)]); (repeat (first | exact rzz | apply rcc rfl | apply rnn rfl))) rfl ⟨l889, rfl, rfl, hr⟩
                      · refine L_F rfl hc35 ?_
                        refine L_skip ?_
                        refine L_nil ?_
                        refine Sm_norm (e2 := [(3, .gl 6 (List.length l845)), (5, .ptr 7 0), (11, .gl 5 (List.length a1.l)), (12, .int .i64 ((List.length a1.l : Nat) : Int)), (13, .int .i64 ((i864 : Nat) : Int))]) (H1 := [.cells [.bool a1.never, .lst (List.map encFct a1.l) false], .cells [.bool b2.never, .lst (List.map encFct b2.l) false], .cells [.bool false, .lst [] true], growM 2 encFct l62, openM 2 encFct l112, growM 2 encFct l636, openM 2 encFct l845, .cells [.int .i64 e879.var, .int .i64 (andB .i64 e879.tags 255)]]) (H2 := [.cells [.bool a1.never, .lst (List.map encFct a1.l) false], .cells [.bool b2.never, .lst (List.map encFct b2.l) false], .cells [.bool false, .lst [] true], growM 2 encFct l62, openM 2 encFct l112, growM 2 encFct l636, openM 2 encFct l845, .cells [.int .i64 e879.var, .int .i64 (andB .i64 e879.tags 255)]]) rfl (by repeat (first | exact rzz | apply rcc rfl | apply rnn rfl)) rfl (?_ : GL _ _ _ _ _)
                        refine L_reg ?_
                        refine G_p rfl rfl rfl ?_
                        refine G_h (v := .agg [.int .i64 e879.var, .int .i64 (andB .i64 e879.tags 255)]) rfl rfl rfl (fun _ => rfl) ?_
                        refine G_h (v := .lst (List.map encFct [(Fct.mk e879.var (andB .i64 e879.tags 255))]) true) rfl rfl rfl (fun _ => Eq.trans (b := some (Ex.ok (AVal.lst [.agg [.int .i64 e879.var, .int .i64 (andB .i64 e879.tags 255)]] true), _)) rfl (congrArg (fun z => some (Ex.ok (AVal.lst z true), _)) (by first | rfl | (simp only [List.map_cons, List.map_nil, encFct_eq] <;> rfl)))) ?_
                        obtain ⟨l890, hl890, hr⟩ := bind_s hr
                        refine G_h rfl rfl rfl (appGo_ev (es := 2) encFct_w1 (show (16 : Nat) ≤ 1400 from by decide) rfl rfl rfl rfl hl890 rfl) ?_
                        refine G_p rfl rfl rfl ?_
                        refine G_nil ?_
                        refine L_nil ?_
                        refine Blk_norm (?_ : GL _ _ _ _ _)
                        refine L_nil ?_
                        exact Sm_norm (e2 := [(3, .gl 6 (List.length l890)), (11, .gl 5 (List.length a1.l)), (12, .int .i64 ((List.length a1.l : Nat) : Int)), (13, .int .i64 ((i864 : Nat) : Int))]) (H1 := [.cells [.bool a1.never, .lst (List.map encFct a1.l) false], .cells [.bool b2.never, .lst (List.map encFct b2.l) false], .cells [.bool false, .lst [] true], growM 2 encFct l62, openM 2 encFct l112, growM 2 encFct l636, openM 2 encFct l890, .cells [.int .i64 e879.var, .int .i64 (andB .i64 e879.tags 255)]]) (H2 := [.cells [.bool a1.never, .lst (List.map encFct a1.l) false], .cells [.bool b2.never, .lst (List.map encFct b2.l) false], .cells [.bool false, .lst [] true], growM 2 encFct l62, openM 2 encFct l112, growM 2 encFct l636, openM 2 encFct l890]) rfl (by repeat (first | exact rzz | apply rcc rfl | apply rnn rfl)) rfl ⟨l890, rfl, rfl, hr⟩
                  · rintro l878 hr
                    show GL _ _ [(3, .gl 6 (List.length l878)), (11, .gl 5 (List.length a1.l)), (12, .int .i64 ((List.length a1.l : Nat) : Int)), (13, .int .i64 ((i864 : Nat) : Int))] [.cells [.bool a1.never, .lst (List.map encFct a1.l) false], .cells [.bool b2.never, .lst (List.map encFct b2.l) false], .cells [.bool false, .lst [] true], growM 2 encFct l62, openM 2 encFct l112, growM 2 encFct l636, openM 2 encFct l878] _
                    replace hr : y23 (y0x n a1 b2 l62 l112 l636 rest865 (i864 + 1)) l878 = some r := hr
                    unfold y23 at hr
                    refine L_reg ?_
                    refine G_v (.int .i64 ((i864 + 1 : Nat) : Int)) rfl rfl rfl (congrArg _ (wrap_next hLq862 hlti864)) ?_
                    refine G_p rfl rfl rfl ?_
                    refine G_nil ?_
                    refine L_nil ?_
                    refine Rd_norm ⟨l878, ?_, rfl, hr⟩
                    show restr _ _ = [(3, .gl 6 (List.length l878)), (13, .int .i64 (((i864 + 1) : Nat) : Int)), (11, .gl 5 (List.length a1.l)), (12, .int .i64 ((List.length a1.l : Nat) : Int))]
                    (repeat (first | exact rzz | apply rcc rfl | apply rnn rfl))
              · rintro l686 hr
                show GL _ _ [(3, .gl 6 (List.length l686))] [.cells [.bool a1.never, .lst (List.map encFct a1.l) false], .cells [.bool b2.never, .lst (List.map encFct b2.l) false], .cells [.bool false, .lst [] true], growM 2 encFct l62, openM 2 encFct l112, growM 2 encFct l636, openM 2 encFct l686] _
                replace hr : y1z n a1 b2 l62 l112 l636 l686 = some r := hr
                unfold y1z at hr
                refine L_seq ?_
                refine L_reg ?_
                refine G_p rfl rfl rfl ?_
                refine G_p rfl rfl rfl ?_
                refine G_nil ?_
                refine L_ret ?_
                refine ⟨_, rfl, (?_ : GO _ _ _ ((27, .gl 6 (List.length l686)) :: _) [.cells [.bool a1.never, .lst (List.map encFct a1.l) false], .cells [.bool b2.never, .lst (List.map encFct b2.l) false], .cells [.bool false, .lst [] true], growM 2 encFct l62, openM 2 encFct l112, growM 2 encFct l636, openM 2 encFct l686] _)⟩
                refine G_h rfl rfl rfl (fun _ => rfl) ?_
                refine G_p rfl rfl rfl ?_
                refine G_nil ?_
                refine L_nil ?_
                refine Sm_norm (e2 := [(4, .ptr 2 0), (5, .lst [] true), (6, .gl 4 (List.length l112)), (27, .gl 6 (List.length l686)), (28, .int .i64 ((List.length l686 : Nat) : Int)), (29, .int .i64 0)]) (H1 := [.cells [.bool a1.never, .lst (List.map encFct a1.l) false], .cells [.bool b2.never, .lst (List.map encFct b2.l) false], .cells [.bool false, .lst [] true], growM 2 encFct l62, openM 2 encFct l112, growM 2 encFct l636, openM 2 encFct l686]) (H2 := [.cells [.bool a1.never, .lst (List.map encFct a1.l) false], .cells [.bool b2.never, .lst (List.map encFct b2.l) false], .cells [.bool false, .lst [] true], growM 2 encFct l62, openM 2 encFct l112, growM 2 encFct l636, openM 2 encFct l686]) rfl (by repeat (first | exact rzz | apply rcc rfl | apply rnn rfl)) rfl (?_ : GL _ _ _ _ _)
                refine L_block ?_
                refine L_seq ?_
                refine L_own (H' := [.cells [.bool a1.never, .lst (List.map encFct a1.l) false], .cells [.bool b2.never, .lst (List.map encFct b2.l) false], .cells [.bool false, .lst [] true], growM 2 encFct l62, openM 2 encFct l112, growM 2 encFct l636, openM 2 encFct l686, openM 2 encFct []]) rfl ?_
                obtain ⟨hLq741, hr⟩ := guard_s hr
                replace hLq741 := okLen_s hLq741
                refine L_range (X := Fct) (S := List Fct) l686 (fun i743 s => [(5, .gl 7 (List.length s)), (29, .int .i64 ((i743 : Nat) : Int)), (4, .ptr 2 0), (6, .gl 4 (List.length l112)), (27, .gl 6 (List.length l686)), (28, .int .i64 ((List.length l686 : Nat) : Int))]) (fun i743 s => [.cells [.bool a1.never, .lst (List.map encFct a1.l) false], .cells [.bool b2.never, .lst (List.map encFct b2.l) false], .cells [.bool false, .lst [] true], growM 2 encFct l62, openM 2 encFct l112, growM 2 encFct l636, openM 2 encFct l686, openM 2 encFct s]) (fun rest i743 s => y0n n a1 b2 l62 l112 l636 l686 rest i743 s = some r) ([]) ?_ rfl hr ?_ ?_
                · show restr _ _ = [(5, .gl 7 (List.length [])), (29, .int .i64 ((0 : Nat) : Int)), (4, .ptr 2 0), (6, .gl 4 (List.length l112)), (27, .gl 6 (List.length l686)), (28, .int .i64 ((List.length l686 : Nat) : Int))]
                  (repeat (first | exact rzz | apply rcc rfl | apply rnn rfl))
                · rintro l713 hr
                  show GL _ _ [(5, .gl 7 (List.length l713)), (29, .int .i64 (((List.length l686) : Nat) : Int)), (4, .ptr 2 0), (6, .gl 4 (List.length l112)), (27, .gl 6 (List.length l686)), (28, .int .i64 ((List.length l686 : Nat) : Int))] [.cells [.bool a1.never, .lst (List.map encFct a1.l) false], .cells [.bool b2.never, .lst (List.map encFct b2.l) false], .cells [.bool false, .lst [] true], growM 2 encFct l62, openM 2 encFct l112, growM 2 encFct l636, openM 2 encFct l686, openM 2 encFct l713] _
                  replace hr : y0n n a1 b2 l62 l112 l636 l686 [] (List.length l686) l713 = some r := hr
                  rw [y0n] at hr
                  refine L_seq ?_
                  refine L_stmt ?_
                  refine L_reg ?_
                  refine G_v (.bool false) rfl rfl rfl (congrArg AVal.bool (decide_eq_false (by omega))) ?_
                  refine G_nil ?_
                  refine L_nil ?_
                  refine Sm_norm (e2 := [(4, .ptr 2 0), (5, .gl 7 (List.length l713)), (6, .gl 4 (List.length l112)), (27, .gl 6 (List.length l686)), (28, .int .i64 ((List.length l686 : Nat) : Int)), (29, .int .i64 ((List.length l686 : Nat) : Int)), (30, .bool false)]) (H1 := [.cells [.bool a1.never, .lst (List.map encFct a1.l) false], .cells [.bool b2.never, .lst (List.map encFct b2.l) false], .cells [.bool false, .lst [] true], growM 2 encFct l62, openM 2 encFct l112, growM 2 encFct l636, openM 2 encFct l686, openM 2 encFct l713]) (H2 := [.cells [.bool a1.never, .lst (List.map encFct a1.l) false], .cells [.bool b2.never, .lst (List.map encFct b2.l) false], .cells [.bool false, .lst [] true], growM 2 encFct l62, openM 2 encFct l112, growM 2 encFct l636, openM 2 encFct l686, openM 2 encFct l713]) rfl (by repeat (first | exact rzz | apply rcc rfl | apply rnn rfl)) rfl (?_ : GL _ _ _ _ _)
                  refine L_seq ?_
                  refine L_stmt ?_
                  refine L_F rfl rfl ?_
                  refine L_exit ?_
                  refine Sm_exit ?_
                  refine Rd_exit ?_
                  refine Blk_exit (?_ : GL _ _ _ _ _)
                  refine L_nil ?_
                  exact Sm_norm (e2 := [(4, .ptr 2 0), (5, .gl 7 (List.length l713))]) (H1 := [.cells [.bool a1.never, .lst (List.map encFct a1.l) false], .cells [.bool b2.never, .lst (List.map encFct b2.l) false], .cells [.bool false, .lst [] true], growM 2 encFct l62, openM 2 encFct l112, growM 2 encFct l636, openM 2 encFct l686, openM 2 encFct l713]) (H2 := [.cells [.bool a1.never, .lst (List.map encFct a1.l) false], .cells [.bool b2.never, .lst (List.map encFct b2.l) false], .cells [.bool false, .lst [] true], growM 2 encFct l62, openM 2 encFct l112, growM 2 encFct l636, openM 2 encFct l686, openM 2 encFct l713]) rfl (by (try rw [show List.length l636 = List.length a1.l from (callG_s hl636).2]); (repeat (first | exact rzz | apply rcc rfl | apply rnn rfl))) rfl ⟨(l636, l686, l713), rfl, rfl, hr⟩
                · rintro y742 rest744 i743 l713 hy742 hlti743 hr
                  show GL _ _ [(5, .gl 7 (List.length l713)), (29, .int .i64 ((i743 : Nat) : Int)), (4, .ptr 2 0), (6, .gl 4 (List.length l112)), (27, .gl 6 (List.length l686)), (28, .int .i64 ((List.length l686 : Nat) : Int))] [.cells [.bool a1.never, .lst (List.map encFct a1.l) false], .cells [.bool b2.never, .lst (List.map encFct b2.l) false], .cells [.bool false, .lst [] true], growM 2 encFct l62, openM 2 encFct l112, growM 2 encFct l636, openM 2 encFct l686, openM 2 encFct l713] _
                  replace hr : y0n n a1 b2 l62 l112 l636 l686 (y742 :: rest744) i743 l713 = some r := hr
                  rw [y0n] at hr
                  refine L_seq ?_
                  refine L_stmt ?_
                  refine L_reg ?_
                  refine G_v (.bool true) rfl rfl rfl (congrArg AVal.bool (decide_eq_true (by omega))) ?_
                  refine G_nil ?_
                  refine L_nil ?_
                  refine Sm_norm (e2 := [(4, .ptr 2 0), (5, .gl 7 (List.length l713)), (6, .gl 4 (List.length l112)), (27, .gl 6 (List.length l686)), (28, .int .i64 ((List.length l686 : Nat) : Int)), (29, .int .i64 ((i743 : Nat) : Int)), (30, .bool true)]) (H1 := [.cells [.bool a1.never, .lst (List.map encFct a1.l) false], .cells [.bool b2.never, .lst (List.map encFct b2.l) false], .cells [.bool false, .lst [] true], growM 2 encFct l62, openM 2 encFct l112, growM 2 encFct l636, openM 2 encFct l686, openM 2 encFct l713]) (H2 := [.cells [.bool a1.never, .lst (List.map encFct a1.l) false], .cells [.bool b2.never, .lst (List.map encFct b2.l) false], .cells [.bool false, .lst [] true], growM 2 encFct l62, openM 2 encFct l112, growM 2 encFct l636, openM 2 encFct l686, openM 2 encFct l713]) rfl (by repeat (first | exact rzz | apply rcc rfl | apply rnn rfl)) rfl (?_ : GL _ _ _ _ _)
                  refine L_seq ?_
                  refine L_stmt ?_
                  refine L_T rfl rfl ?_
                  refine L_skip ?_
                  refine L_nil ?_
                  refine Sm_norm (e2 := [(4, .ptr 2 0), (5, .gl 7 (List.length l713)), (6, .gl 4 (List.length l112)), (27, .gl 6 (List.length l686)), (28, .int .i64 ((List.length l686 : Nat) : Int)), (29, .int .i64 ((i743 : Nat) : Int))]) (H1 := [.cells [.bool a1.never, .lst (List.map encFct a1.l) false], .cells [.bool b2.never, .lst (List.map encFct b2.l) false], .cells [.bool false, .lst [] true], growM 2 encFct l62, openM 2 encFct l112, growM 2 encFct l636, openM 2 encFct l686, openM 2 encFct l713]) (H2 := [.cells [.bool a1.never, .lst (List.map encFct a1.l) false], .cells [.bool b2.never, .lst (List.map encFct b2.l) false], .cells [.bool false, .lst [] true], growM 2 encFct l62, openM 2 encFct l112, growM 2 encFct l636, openM 2 encFct l686, openM 2 encFct l713]) rfl (by repeat (first | exact rzz | apply rcc rfl | apply rnn rfl)) rfl (?_ : GL _ _ _ _ _)
                  refine L_seq ?_
                  refine L_stmtJ (S := List Fct) (fun s => [(4, .ptr 2 0), (5, .gl 7 (List.length s)), (6, .gl 4 (List.length l112)), (27, .gl 6 (List.length l686)), (28, .int .i64 ((List.length l686 : Nat) : Int)), (29, .int .i64 ((i743 : Nat) : Int))]) (fun s => [.cells [.bool a1.never, .lst (List.map encFct a1.l) false], .cells [.bool b2.never, .lst (List.map encFct b2.l) false], .cells [.bool false, .lst [] true], growM 2 encFct l62, openM 2 encFct l112, growM 2 encFct l636, openM 2 encFct l686, openM 2 encFct s]) (fun s => y1w (y0n n a1 b2 l62 l112 l636 l686 rest744 (i743 + 1)) s = some r) ?_ ?_
                  · skip
                    refine L_block ?_
                    refine L_seq ?_
                    refine L_stmt ?_
                    refine L_reg ?_
                    obtain ⟨e769, he769, hr⟩ := bind_s hr
                    refine G_h rfl rfl rfl (iao_ev encFct_w1 rfl rfl rfl rfl (idx_s he769).1 (map_get (x := e769) (idx_s he769).2)) ?_
                    refine G_h (v := .agg (cFct e769)) rfl rfl rfl (ldao_ev (off := 0) rfl rfl rfl rfl (idx_s he769).2 (by decide) (by decide) (y0c _) rfl) ?_
                    refine G_n (B := .cells [.int .i64 0, .int .i64 0]) rfl rfl rfl ?_
                    refine G_hn (H' := [.cells [.bool a1.never, .lst (List.map encFct a1.l) false], .cells [.bool b2.never, .lst (List.map encFct b2.l) false], .cells [.bool false, .lst [] true], growM 2 encFct l62, openM 2 encFct l112, growM 2 encFct l636, openM 2 encFct l686, openM 2 encFct l713, .cells [.int .i64 e769.var, .int .i64 e769.tags]]) rfl rfl rfl (fun _ => rfl) ?_
                    refine G_nil ?_
                    refine L_nil ?_
                    refine Sm_norm (e2 := [(4, .ptr 2 0), (5, .gl 7 (List.length l713)), (6, .gl 4 (List.length l112)), (8, .ptr 8 0), (27, .gl 6 (List.length l686)), (28, .int .i64 ((List.length l686 : Nat) : Int)), (29, .int .i64 ((i743 : Nat) : Int))]) (H1 := [.cells [.bool a1.never, .lst (List.map encFct a1.l) false], .cells [.bool b2.never, .lst (List.map encFct b2.l) false], .cells [.bool false, .lst [] true], growM 2 encFct l62, openM 2 encFct l112, growM 2 encFct l636, openM 2 encFct l686, openM 2 encFct l713, .cells [.int .i64 e769.var, .int .i64 e769.tags]]) (H2 := [.cells [.bool a1.never, .lst (List.map encFct a1.l) false], .cells [.bool b2.never, .lst (List.map encFct b2.l) false], .cells [.bool false, .lst [] true], growM 2 encFct l62, openM 2 encFct l112, growM 2 encFct l636, openM 2 encFct l686, openM 2 encFct l713, .cells [.int .i64 e769.var, .int .i64 e769.tags]]) rfl (by repeat (first | exact rzz | apply rcc rfl | apply rnn rfl)) rfl (?_ : GL _ _ _ _ _)
                    refine L_seq ?_
                    refine L_stmtJ (S := Int) (fun s => [(4, .ptr 2 0), (5, .gl 7 (List.length l713)), (6, .gl 4 (List.length l112)), (8, .ptr 8 0), (9, .int .i64 s), (27, .gl 6 (List.length l686)), (28, .int .i64 ((List.length l686 : Nat) : Int)), (29, .int .i64 ((i743 : Nat) : Int))]) (fun s => [.cells [.bool a1.never, .lst (List.map encFct a1.l) false], .cells [.bool b2.never, .lst (List.map encFct b2.l) false], .cells [.bool false, .lst [] true], growM 2 encFct l62, openM 2 encFct l112, growM 2 encFct l636, openM 2 encFct l686, openM 2 encFct l713, .cells [.int .i64 e769.var, .int .i64 e769.tags]]) (fun s => y1v l112 l713 e769 (y0n n a1 b2 l62 l112 l636 l686 rest744 (i743 + 1)) s = some r) ?_ ?_
                    · skip
                      refine L_reg ?_
                      refine G_p rfl rfl rfl ?_
                      refine G_p rfl rfl rfl ?_
                      refine G_cx 42 rfl rfl (ca_finx t42 (Or.inl rfl) ?_)
                      refine L_seq ?_
                      refine L_stmt ?_
                      refine L_reg ?_
                      refine G_p rfl rfl rfl ?_
                      refine G_nil ?_
                      refine L_nil ?_
                      refine Sm_norm (e2 := [(0, .gl 4 (List.length l112)), (1, .fn 43 [.ptr 8 0])]) (H1 := [.cells [.bool a1.never, .lst (List.map encFct a1.l) false], .cells [.bool b2.never, .lst (List.map encFct b2.l) false], .cells [.bool false, .lst [] true], growM 2 encFct l62, openM 2 encFct l112, growM 2 encFct l636, openM 2 encFct l686, openM 2 encFct l713, .cells [.int .i64 e769.var, .int .i64 e769.tags]]) (H2 := [.cells [.bool a1.never, .lst (List.map encFct a1.l) false], .cells [.bool b2.never, .lst (List.map encFct b2.l) false], .cells [.bool false, .lst [] true], growM 2 encFct l62, openM 2 encFct l112, growM 2 encFct l636, openM 2 encFct l686, openM 2 encFct l713, .cells [.int .i64 e769.var, .int .i64 e769.tags]]) rfl (by repeat (first | exact rzz | apply rcc rfl | apply rnn rfl)) rfl (?_ : GL _ _ _ _ _)
                      refine L_seq ?_
                      refine L_stmtJ (S := Unit) (fun s => []) (fun s => [.cells [.bool a1.never, .lst (List.map encFct a1.l) false], .cells [.bool b2.never, .lst (List.map encFct b2.l) false], .cells [.bool false, .lst [] true], growM 2 encFct l62, openM 2 encFct l112, growM 2 encFct l636, openM 2 encFct l686, openM 2 encFct l713, .cells [.int .i64 e769.var, .int .i64 e769.tags]]) (fun s => y2l l112 l713 e769 (y0n n a1 b2 l62 l112 l636 l686 rest744 (i743 + 1)) = some r) ?_ ?_
                      · skip
                        refine L_seq ?_
                        refine L_stmt ?_
                        refine L_reg ?_
                        refine G_p rfl rfl rfl ?_
                        refine G_h rfl rfl rfl (fun _ => rfl) ?_
                        refine G_p rfl rfl rfl ?_
                        refine G_nil ?_
                        refine L_nil ?_
                        refine Sm_norm (e2 := [(0, .gl 4 (List.length l112)), (1, .fn 43 [.ptr 8 0]), (7, .int .i64 ((List.length l112 : Nat) : Int)), (8, .int .i64 0)]) (H1 := [.cells [.bool a1.never, .lst (List.map encFct a1.l) false], .cells [.bool b2.never, .lst (List.map encFct b2.l) false], .cells [.bool false, .lst [] true], growM 2 encFct l62, openM 2 encFct l112, growM 2 encFct l636, openM 2 encFct l686, openM 2 encFct l713, .cells [.int .i64 e769.var, .int .i64 e769.tags]]) (H2 := [.cells [.bool a1.never, .lst (List.map encFct a1.l) false], .cells [.bool b2.never, .lst (List.map encFct b2.l) false], .cells [.bool false, .lst [] true], growM 2 encFct l62, openM 2 encFct l112, growM 2 encFct l636, openM 2 encFct l686, openM 2 encFct l713, .cells [.int .i64 e769.var, .int .i64 e769.tags]]) rfl (by repeat (first | exact rzz | apply rcc rfl | apply rnn rfl)) rfl (?_ : GL _ _ _ _ _)
                        refine L_block ?_
                        obtain ⟨hLq822, hr⟩ := guard_s hr
                        replace hLq822 := okLen_s hLq822
                        refine L_range (X := Fct) (S := Unit) l112 (fun i824 s => [(8, .int .i64 ((i824 : Nat) : Int)), (0, .gl 4 (List.length l112)), (1, .fn 43 [.ptr 8 0]), (7, .int .i64 ((List.length l112 : Nat) : Int))]) (fun i824 s => [.cells [.bool a1.never, .lst (List.map encFct a1.l) false], .cells [.bool b2.never, .lst (List.map encFct b2.l) false], .cells [.bool false, .lst [] true], growM 2 encFct l62, openM 2 encFct l112, growM 2 encFct l636, openM 2 encFct l686, openM 2 encFct l713, .cells [.int .i64 e769.var, .int .i64 e769.tags]]) (fun rest i824 s => y17 a1 b2 l62 l112 l636 l686 l713 e769 (y0n n a1 b2 l62 l112 l636 l686 rest744 (i743 + 1)) rest i824 = some r) (()) ?_ rfl hr ?_ ?_
                        · show restr _ _ = [(8, .int .i64 ((0 : Nat) : Int)), (0, .gl 4 (List.length l112)), (1, .fn 43 [.ptr 8 0]), (7, .int .i64 ((List.length l112 : Nat) : Int))]
                          (repeat (first | exact rzz | apply rcc rfl | apply rnn rfl))
                        · rintro ⟨⟩ hr
                          show GL _ _ [(8, .int .i64 (((List.length l112) : Nat) : Int)), (0, .gl 4 (List.length l112)), (1, .fn 43 [.ptr 8 0]), (7, .int .i64 ((List.length l112 : Nat) : Int))] [.cells [.bool a1.never, .lst (List.map encFct a1.l) false], .cells [.bool b2.never, .lst (List.map encFct b2.l) false], .cells [.bool false, .lst [] true], growM 2 encFct l62, openM 2 encFct l112, growM 2 encFct l636, openM 2 encFct l686, openM 2 encFct l713, .cells [.int .i64 e769.var, .int .i64 e769.tags]] _
                          replace hr : y17 a1 b2 l62 l112 l636 l686 l713 e769 (y0n n a1 b2 l62 l112 l636 l686 rest744 (i743 + 1)) [] (List.length l112) = some r := hr
                          rw [y17] at hr
                          refine L_seq ?_
                          refine L_stmt ?_
                          refine L_reg ?_
                          refine G_v (.bool false) rfl rfl rfl (congrArg AVal.bool (decide_eq_false (by omega))) ?_
                          refine G_nil ?_
                          refine L_nil ?_
                          refine Sm_norm (e2 := [(0, .gl 4 (List.length l112)), (1, .fn 43 [.ptr 8 0]), (7, .int .i64 ((List.length l112 : Nat) : Int)), (8, .int .i64 ((List.length l112 : Nat) : Int)), (9, .bool false)]) (H1 := [.cells [.bool a1.never, .lst (List.map encFct a1.l) false], .cells [.bool b2.never, .lst (List.map encFct b2.l) false], .cells [.bool false, .lst [] true], growM 2 encFct l62, openM 2 encFct l112, growM 2 encFct l636, openM 2 encFct l686, openM 2 encFct l713, .cells [.int .i64 e769.var, .int .i64 e769.tags]]) (H2 := [.cells [.bool a1.never, .lst (List.map encFct a1.l) false], .cells [.bool b2.never, .lst (List.map encFct b2.l) false], .cells [.bool false, .lst [] true], growM 2 encFct l62, openM 2 encFct l112, growM 2 encFct l636, openM 2 encFct l686, openM 2 encFct l713, .cells [.int .i64 e769.var, .int .i64 e769.tags]]) rfl (by repeat (first | exact rzz | apply rcc rfl | apply rnn rfl)) rfl (?_ : GL _ _ _ _ _)
                          refine L_seq ?_
                          refine L_stmt ?_
                          refine L_F rfl rfl ?_
                          refine L_exit ?_
                          refine Sm_exit ?_
                          refine Rd_exit ?_
                          refine Blk_exit (?_ : GL _ _ _ _ _)
                          refine L_nil ?_
                          exact Sm_norm (e2 := []) (H1 := [.cells [.bool a1.never, .lst (List.map encFct a1.l) false], .cells [.bool b2.never, .lst (List.map encFct b2.l) false], .cells [.bool false, .lst [] true], growM 2 encFct l62, openM 2 encFct l112, growM 2 encFct l636, openM 2 encFct l686, openM 2 encFct l713, .cells [.int .i64 e769.var, .int .i64 e769.tags]]) (H2 := [.cells [.bool a1.never, .lst (List.map encFct a1.l) false], .cells [.bool b2.never, .lst (List.map encFct b2.l) false], .cells [.bool false, .lst [] true], growM 2 encFct l62, openM 2 encFct l112, growM 2 encFct l636, openM 2 encFct l686, openM 2 encFct l713, .cells [.int .i64 e769.var, .int .i64 e769.tags]]) rfl (by repeat (first | exact rzz | apply rcc rfl | apply rnn rfl)) rfl ⟨(), rfl, rfl, hr⟩
                        · rintro y823 rest825 i824 ⟨⟩ hy823 hlti824 hr
                          show GL _ _ [(8, .int .i64 ((i824 : Nat) : Int)), (0, .gl 4 (List.length l112)), (1, .fn 43 [.ptr 8 0]), (7, .int .i64 ((List.length l112 : Nat) : Int))] [.cells [.bool a1.never, .lst (List.map encFct a1.l) false], .cells [.bool b2.never, .lst (List.map encFct b2.l) false], .cells [.bool false, .lst [] true], growM 2 encFct l62, openM 2 encFct l112, growM 2 encFct l636, openM 2 encFct l686, openM 2 encFct l713, .cells [.int .i64 e769.var, .int .i64 e769.tags]] _
                          replace hr : y17 a1 b2 l62 l112 l636 l686 l713 e769 (y0n n a1 b2 l62 l112 l636 l686 rest744 (i743 + 1)) (y823 :: rest825) i824 = some r := hr
                          rw [y17] at hr
                          refine L_seq ?_
                          refine L_stmt ?_
                          refine L_reg ?_
                          refine G_v (.bool true) rfl rfl rfl (congrArg AVal.bool (decide_eq_true (by omega))) ?_
                          refine G_nil ?_
                          refine L_nil ?_
                          refine Sm_norm (e2 := [(0, .gl 4 (List.length l112)), (1, .fn 43 [.ptr 8 0]), (7, .int .i64 ((List.length l112 : Nat) : Int)), (8, .int .i64 ((i824 : Nat) : Int)), (9, .bool true)]) (H1 := [.cells [.bool a1.never, .lst (List.map encFct a1.l) false], .cells [.bool b2.never, .lst (List.map encFct b2.l) false], .cells [.bool false, .lst [] true], growM 2 encFct l62, openM 2 encFct l112, growM 2 encFct l636, openM 2 encFct l686, openM 2 encFct l713, .cells [.int .i64 e769.var, .int .i64 e769.tags]]) (H2 := [.cells [.bool a1.never, .lst (List.map encFct a1.l) false], .cells [.bool b2.never, .lst (List.map encFct b2.l) false], .cells [.bool false, .lst [] true], growM 2 encFct l62, openM 2 encFct l112, growM 2 encFct l636, openM 2 encFct l686, openM 2 encFct l713, .cells [.int .i64 e769.var, .int .i64 e769.tags]]) rfl (by repeat (first | exact rzz | apply rcc rfl | apply rnn rfl)) rfl (?_ : GL _ _ _ _ _)
                          refine L_seq ?_
                          refine L_stmt ?_
                          refine L_T rfl rfl ?_
                          refine L_skip ?_
                          refine L_nil ?_
                          refine Sm_norm (e2 := [(0, .gl 4 (List.length l112)), (1, .fn 43 [.ptr 8 0]), (7, .int .i64 ((List.length l112 : Nat) : Int)), (8, .int .i64 ((i824 : Nat) : Int))]) (H1 := [.cells [.bool a1.never, .lst (List.map encFct a1.l) false], .cells [.bool b2.never, .lst (List.map encFct b2.l) false], .cells [.bool false, .lst [] true], growM 2 encFct l62, openM 2 encFct l112, growM 2 encFct l636, openM 2 encFct l686, openM 2 encFct l713, .cells [.int .i64 e769.var, .int .i64 e769.tags]]) (H2 := [.cells [.bool a1.never, .lst (List.map encFct a1.l) false], .cells [.bool b2.never, .lst (List.map encFct b2.l) false], .cells [.bool false, .lst [] true], growM 2 encFct l62, openM 2 encFct l112, growM 2 encFct l636, openM 2 encFct l686, openM 2 encFct l713, .cells [.int .i64 e769.var, .int .i64 e769.tags]]) rfl (by repeat (first | exact rzz | apply rcc rfl | apply rnn rfl)) rfl (?_ : GL _ _ _ _ _)
                          refine L_seq ?_
                          refine L_stmt ?_
                          refine L_block ?_
                          refine L_seq ?_
                          refine L_stmt ?_
                          refine L_reg ?_
                          refine G_p rfl rfl rfl ?_
                          refine G_p rfl rfl rfl ?_
                          refine G_nil ?_
                          refine L_nil ?_
                          refine Sm_norm (e2 := [(0, .gl 4 (List.length l112)), (1, .fn 43 [.ptr 8 0]), (5, .int .i64 ((i824 : Nat) : Int)), (7, .int .i64 ((List.length l112 : Nat) : Int)), (8, .int .i64 ((i824 : Nat) : Int))]) (H1 := [.cells [.bool a1.never, .lst (List.map encFct a1.l) false], .cells [.bool b2.never, .lst (List.map encFct b2.l) false], .cells [.bool false, .lst [] true], growM 2 encFct l62, openM 2 encFct l112, growM 2 encFct l636, openM 2 encFct l686, openM 2 encFct l713, .cells [.int .i64 e769.var, .int .i64 e769.tags]]) (H2 := [.cells [.bool a1.never, .lst (List.map encFct a1.l) false], .cells [.bool b2.never, .lst (List.map encFct b2.l) false], .cells [.bool false, .lst [] true], growM 2 encFct l62, openM 2 encFct l112, growM 2 encFct l636, openM 2 encFct l686, openM 2 encFct l713, .cells [.int .i64 e769.var, .int .i64 e769.tags]]) rfl (by repeat (first | exact rzz | apply rcc rfl | apply rnn rfl)) rfl (?_ : GL _ _ _ _ _)
                          refine L_seq ?_
                          refine L_stmt ?_
                          refine L_reg ?_
                          refine G_p rfl rfl rfl ?_
                          refine G_p rfl rfl rfl ?_
                          refine G_p rfl rfl rfl ?_
                          obtain ⟨e828, he828, hr⟩ := bind_s hr
                          refine G_h rfl rfl rfl (iao_ev encFct_w1 rfl rfl rfl rfl (idx_s he828).1 (map_get (x := e828) (idx_s he828).2)) ?_
                          refine G_h (v := .agg (cFct e828)) rfl rfl rfl (ldao_ev (off := 0) rfl rfl rfl rfl (idx_s he828).2 (by decide) (by decide) (y0c _) rfl) ?_
                          obtain ⟨r829, hr829, hr⟩ := bind_s hr
                          refine G_cv rfl rfl rfl (y4v hr829) ?_
                          refine G_nil ?_
                          refine L_nil ?_
                          refine Sm_norm (e2 := [(0, .gl 4 (List.length l112)), (1, .fn 43 [.ptr 8 0]), (5, .int .i64 ((i824 : Nat) : Int)), (7, .int .i64 ((List.length l112 : Nat) : Int)), (8, .int .i64 ((i824 : Nat) : Int)), (16, .bool r829)]) (H1 := [.cells [.bool a1.never, .lst (List.map encFct a1.l) false], .cells [.bool b2.never, .lst (List.map encFct b2.l) false], .cells [.bool false, .lst [] true], growM 2 encFct l62, openM 2 encFct l112, growM 2 encFct l636, openM 2 encFct l686, openM 2 encFct l713, .cells [.int .i64 e769.var, .int .i64 e769.tags]]) (H2 := [.cells [.bool a1.never, .lst (List.map encFct a1.l) false], .cells [.bool b2.never, .lst (List.map encFct b2.l) false], .cells [.bool false, .lst [] true], growM 2 encFct l62, openM 2 encFct l112, growM 2 encFct l636, openM 2 encFct l686, openM 2 encFct l713, .cells [.int .i64 e769.var, .int .i64 e769.tags]]) rfl (by repeat (first | exact rzz | apply rcc rfl | apply rnn rfl)) rfl (?_ : GL _ _ _ _ _)
                          rcases cond_s hr with ⟨hc16, hr⟩ | ⟨hc16, hr⟩
                          · refine L_T rfl hc16 ?_
                            refine L_seq ?_
                            refine L_reg ?_
                            refine G_p rfl rfl rfl ?_
                            refine G_p rfl rfl rfl ?_
                            refine G_nil ?_
                            refine L_ret ?_
                            refine Blk_ret ?_
                            refine Sm_ret ?_
                            refine Rd_ret ?_
                            refine Blk_ret ?_
                            refine Sm_ret ?_
                            refine ⟨_, rfl, (?_ : GO _ _ _ ((35, .int .i64 ((i824 : Nat) : Int)) :: _) [.cells [.bool a1.never, .lst (List.map encFct a1.l) false], .cells [.bool b2.never, .lst (List.map encFct b2.l) false], .cells [.bool false, .lst [] true], growM 2 encFct l62, openM 2 encFct l112, growM 2 encFct l636, openM 2 encFct l686, openM 2 encFct l713, .cells [.int .i64 e769.var, .int .i64 e769.tags]] _)⟩
                            refine G_p rfl rfl rfl ?_
                            refine G_nil ?_
                            refine L_nil ?_
                            exact Sm_norm (e2 := [(4, .ptr 2 0), (5, .gl 7 (List.length l713)), (6, .gl 4 (List.length l112)), (8, .ptr 8 0), (9, .int .i64 ((i824 : Nat) : Int)), (27, .gl 6 (List.length l686)), (28, .int .i64 ((List.length l686 : Nat) : Int)), (29, .int .i64 ((i743 : Nat) : Int))]) (H1 := [.cells [.bool a1.never, .lst (List.map encFct a1.l) false], .cells [.bool b2.never, .lst (List.map encFct b2.l) false], .cells [.bool false, .lst [] true], growM 2 encFct l62, openM 2 encFct l112, growM 2 encFct l636, openM 2 encFct l686, openM 2 encFct l713, .cells [.int .i64 e769.var, .int .i64 e769.tags]]) (H2 := [.cells [.bool a1.never, .lst (List.map encFct a1.l) false], .cells [.bool b2.never, .lst (List.map encFct b2.l) false], .cells [.bool false, .lst [] true], growM 2 encFct l62, openM 2 encFct l112, growM 2 encFct l636, openM 2 encFct l686, openM 2 encFct l713, .cells [.int .i64 e769.var, .int .i64 e769.tags]]) rfl (by repeat (first | exact rzz | apply rcc rfl | apply rnn rfl)) rfl ⟨((i824 : Nat) : Int), rfl, rfl, hr⟩
                          · refine L_F rfl hc16 ?_
                            refine L_skip ?_
                            refine L_nil ?_
                            refine Blk_norm (?_ : GL _ _ _ _ _)
                            refine L_nil ?_
                            refine Sm_norm (e2 := [(0, .gl 4 (List.length l112)), (1, .fn 43 [.ptr 8 0]), (7, .int .i64 ((List.length l112 : Nat) : Int)), (8, .int .i64 ((i824 : Nat) : Int))]) (H1 := [.cells [.bool a1.never, .lst (List.map encFct a1.l) false], .cells [.bool b2.never, .lst (List.map encFct b2.l) false], .cells [.bool false, .lst [] true], growM 2 encFct l62, openM 2 encFct l112, growM 2 encFct l636, openM 2 encFct l686, openM 2 encFct l713, .cells [.int .i64 e769.var, .int .i64 e769.tags]]) (H2 := [.cells [.bool a1.never, .lst (List.map encFct a1.l) false], .cells [.bool b2.never, .lst (List.map encFct b2.l) false], .cells [.bool false, .lst [] true], growM 2 encFct l62, openM 2 encFct l112, growM 2 encFct l636, openM 2 encFct l686, openM 2 encFct l713, .cells [.int .i64 e769.var, .int .i64 e769.tags]]) rfl (by repeat (first | exact rzz | apply rcc rfl | apply rnn rfl)) rfl (?_ : GL _ _ _ _ _)
                            refine L_reg ?_
                            refine G_v (.int .i64 ((i824 + 1 : Nat) : Int)) rfl rfl rfl (congrArg _ (wrap_next hLq822 hlti824)) ?_
                            refine G_p rfl rfl rfl ?_
                            refine G_nil ?_
                            refine L_nil ?_
                            refine Rd_norm ⟨(), ?_, rfl, hr⟩
                            show restr _ _ = [(8, .int .i64 (((i824 + 1) : Nat) : Int)), (0, .gl 4 (List.length l112)), (1, .fn 43 [.ptr 8 0]), (7, .int .i64 ((List.length l112 : Nat) : Int))]
                            (repeat (first | exact rzz | apply rcc rfl | apply rnn rfl))
                      · rintro ⟨⟩ hr
                        show GL _ _ [] [.cells [.bool a1.never, .lst (List.map encFct a1.l) false], .cells [.bool b2.never, .lst (List.map encFct b2.l) false], .cells [.bool false, .lst [] true], growM 2 encFct l62, openM 2 encFct l112, growM 2 encFct l636, openM 2 encFct l686, openM 2 encFct l713, .cells [.int .i64 e769.var, .int .i64 e769.tags]] _
                        replace hr : y2l l112 l713 e769 (y0n n a1 b2 l62 l112 l636 l686 rest744 (i743 + 1)) = some r := hr
                        unfold y2l at hr
                        refine L_seq ?_
                        refine L_reg ?_
                        refine G_p rfl rfl rfl ?_
                        refine G_nil ?_
                        refine L_ret ?_
                        refine ⟨_, rfl, (?_ : GO _ _ _ ((35, .int .i64 (-1)) :: _) [.cells [.bool a1.never, .lst (List.map encFct a1.l) false], .cells [.bool b2.never, .lst (List.map encFct b2.l) false], .cells [.bool false, .lst [] true], growM 2 encFct l62, openM 2 encFct l112, growM 2 encFct l636, openM 2 encFct l686, openM 2 encFct l713, .cells [.int .i64 e769.var, .int .i64 e769.tags]] _)⟩
                        refine G_p rfl rfl rfl ?_
                        refine G_nil ?_
                        refine L_nil ?_
                        exact Sm_norm (e2 := [(4, .ptr 2 0), (5, .gl 7 (List.length l713)), (6, .gl 4 (List.length l112)), (8, .ptr 8 0), (9, .int .i64 (-1)), (27, .gl 6 (List.length l686)), (28, .int .i64 ((List.length l686 : Nat) : Int)), (29, .int .i64 ((i743 : Nat) : Int))]) (H1 := [.cells [.bool a1.never, .lst (List.map encFct a1.l) false], .cells [.bool b2.never, .lst (List.map encFct b2.l) false], .cells [.bool false, .lst [] true], growM 2 encFct l62, openM 2 encFct l112, growM 2 encFct l636, openM 2 encFct l686, openM 2 encFct l713, .cells [.int .i64 e769.var, .int .i64 e769.tags]]) (H2 := [.cells [.bool a1.never, .lst (List.map encFct a1.l) false], .cells [.bool b2.never, .lst (List.map encFct b2.l) false], .cells [.bool false, .lst [] true], growM 2 encFct l62, openM 2 encFct l112, growM 2 encFct l636, openM 2 encFct l686, openM 2 encFct l713, .cells [.int .i64 e769.var, .int .i64 e769.tags]]) rfl (by repeat (first | exact rzz | apply rcc rfl | apply rnn rfl)) rfl ⟨(-1), rfl, rfl, hr⟩
                    · rintro a789 hr
                      show GL _ _ [(4, .ptr 2 0), (5, .gl 7 (List.length l713)), (6, .gl 4 (List.length l112)), (8, .ptr 8 0), (9, .int .i64 a789), (27, .gl 6 (List.length l686)), (28, .int .i64 ((List.length l686 : Nat) : Int)), (29, .int .i64 ((i743 : Nat) : Int))] [.cells [.bool a1.never, .lst (List.map encFct a1.l) false], .cells [.bool b2.never, .lst (List.map encFct b2.l) false], .cells [.bool false, .lst [] true], growM 2 encFct l62, openM 2 encFct l112, growM 2 encFct l636, openM 2 encFct l686, openM 2 encFct l713, .cells [.int .i64 e769.var, .int .i64 e769.tags]] _
                      replace hr : y1v l112 l713 e769 (y0n n a1 b2 l62 l112 l636 l686 rest744 (i743 + 1)) a789 = some r := hr
                      unfold y1v at hr
                      refine L_seq ?_
                      refine L_stmt ?_
                      refine L_reg ?_
                      refine G_p rfl rfl rfl ?_
                      refine G_p rfl rfl rfl ?_
                      refine G_nil ?_
                      refine L_nil ?_
                      refine Sm_norm (e2 := [(4, .ptr 2 0), (5, .gl 7 (List.length l713)), (6, .gl 4 (List.length l112)), (8, .ptr 8 0), (9, .int .i64 a789), (27, .gl 6 (List.length l686)), (28, .int .i64 ((List.length l686 : Nat) : Int)), (29, .int .i64 ((i743 : Nat) : Int)), (37, .bool (decide (0 ≤ a789)))]) (H1 := [.cells [.bool a1.never, .lst (List.map encFct a1.l) false], .cells [.bool b2.never, .lst (List.map encFct b2.l) false], .cells [.bool false, .lst [] true], growM 2 encFct l62, openM 2 encFct l112, growM 2 encFct l636, openM 2 encFct l686, openM 2 encFct l713, .cells [.int .i64 e769.var, .int .i64 e769.tags]]) (H2 := [.cells [.bool a1.never, .lst (List.map encFct a1.l) false], .cells [.bool b2.never, .lst (List.map encFct b2.l) false], .cells [.bool false, .lst [] true], growM 2 encFct l62, openM 2 encFct l112, growM 2 encFct l636, openM 2 encFct l686, openM 2 encFct l713, .cells [.int .i64 e769.var, .int .i64 e769.tags]]) rfl (by repeat (first | exact rzz | apply rcc rfl | apply rnn rfl)) rfl (?_ : GL _ _ _ _ _)
                      rcases cond_s hr with ⟨hc37, hr⟩ | ⟨hc37, hr⟩
                      · refine L_T rfl hc37 ?_
                        refine L_draw ?_
                        refine GD_p rfl rfl rfl ?_
                        refine GD_p rfl rfl rfl ?_
                        refine GD_h (d := some 40) rfl rfl rfl rfl (fun _ => rfl) ?_
                        refine GD_p rfl rfl rfl ?_
                        refine GD_h (d := some 42) rfl rfl rfl rfl (fun _ => rfl) ?_
                        refine GD_p rfl rfl rfl ?_
                        refine GD_p rfl rfl rfl ?_
                        obtain ⟨e790, he790, hr⟩ := bind_s hr
                        refine GD_h (d := some 45) rfl rfl rfl rfl (iao_ev encFct_w1 rfl rfl rfl rfl (idx_s he790).1 (map_get (x := e790) (idx_s he790).2)) ?_
                        refine GD_p rfl rfl rfl ?_
                        refine GD_h (d := some 47) rfl rfl rfl rfl (ldso_ev (off := 1) rfl rfl rfl rfl (idx_s he790).2 (by decide) (y0c _) rfl) ?_
                        refine GD_p rfl rfl rfl ?_
                        refine GD_p (v := .agg [.int .i64 e769.var, .int .i64 (orB .i64 e769.tags e790.tags)]) rfl rfl rfl ?_
                        refine GD_h (d := some 50) (v := .lst (List.map encFct [(Fct.mk e769.var (orB .i64 e769.tags e790.tags))]) true) rfl rfl rfl rfl (fun _ => Eq.trans (b := some (Ex.ok (AVal.lst [.agg [.int .i64 e769.var, .int .i64 (orB .i64 e769.tags e790.tags)]] true), _)) rfl (congrArg (fun z => some (Ex.ok (AVal.lst z true), _)) (by first | rfl | (simp only [List.map_cons, List.map_nil, encFct_eq] <;> rfl)))) ?_
                        obtain ⟨l791, hl791, hr⟩ := bind_s hr
                        refine GD_o (d := some 51) (H' := [.cells [.bool a1.never, .lst (List.map encFct a1.l) false], .cells [.bool b2.never, .lst (List.map encFct b2.l) false], .cells [.bool false, .lst [] true], growM 2 encFct l62, openM 2 encFct l112, growM 2 encFct l636, openM 2 encFct l686, openM 2 encFct l791, .cells [.int .i64 e769.var, .int .i64 e769.tags], .hole]) rfl rfl rfl rfl (appGo_ev (es := 2) encFct_w1 (show (16 : Nat) ≤ 1400 from by decide) rfl rfl rfl rfl hl791 rfl) ?_
                        refine GD_p rfl rfl rfl ?_
                        refine GD_nil2 (by first | (simp [okFs2, y1x, disj, noneIn, notIn, y2r, sameOn, partsGls, y2k, AOpd.ev, Env.get, Env.put, glsV, glsL]; done) | rfl) ?_
                        refine L_nil ?_
                        refine Blk_norm (?_ : GL _ _ _ _ _)
                        refine L_nil ?_
                        exact Sm_norm (e2 := [(4, .ptr 2 0), (5, .gl 7 (List.length l791)), (6, .gl 4 (List.length l112)), (27, .gl 6 (List.length l686)), (28, .int .i64 ((List.length l686 : Nat) : Int)), (29, .int .i64 ((i743 : Nat) : Int))]) (H1 := [.cells [.bool a1.never, .lst (List.map encFct a1.l) false], .cells [.bool b2.never, .lst (List.map encFct b2.l) false], .cells [.bool false, .lst [] true], growM 2 encFct l62, openM 2 encFct l112, growM 2 encFct l636, openM 2 encFct l686, openM 2 encFct l791, .cells [.int .i64 e769.var, .int .i64 e769.tags], .hole]) (H2 := [.cells [.bool a1.never, .lst (List.map encFct a1.l) false], .cells [.bool b2.never, .lst (List.map encFct b2.l) false], .cells [.bool false, .lst [] true], growM 2 encFct l62, openM 2 encFct l112, growM 2 encFct l636, openM 2 encFct l686, openM 2 encFct l791]) rfl (by repeat (first | exact rzz | apply rcc rfl | apply rnn rfl)) rfl ⟨l791, rfl, rfl, hr⟩
                      · refine L_F rfl hc37 ?_
                        refine L_skip ?_
                        refine L_nil ?_
                        refine Blk_norm (?_ : GL _ _ _ _ _)
                        refine L_nil ?_
                        exact Sm_norm (e2 := [(4, .ptr 2 0), (5, .gl 7 (List.length l713)), (6, .gl 4 (List.length l112)), (27, .gl 6 (List.length l686)), (28, .int .i64 ((List.length l686 : Nat) : Int)), (29, .int .i64 ((i743 : Nat) : Int))]) (H1 := [.cells [.bool a1.never, .lst (List.map encFct a1.l) false], .cells [.bool b2.never, .lst (List.map encFct b2.l) false], .cells [.bool false, .lst [] true], growM 2 encFct l62, openM 2 encFct l112, growM 2 encFct l636, openM 2 encFct l686, openM 2 encFct l713, .cells [.int .i64 e769.var, .int .i64 e769.tags]]) (H2 := [.cells [.bool a1.never, .lst (List.map encFct a1.l) false], .cells [.bool b2.never, .lst (List.map encFct b2.l) false], .cells [.bool false, .lst [] true], growM 2 encFct l62, openM 2 encFct l112, growM 2 encFct l636, openM 2 encFct l686, openM 2 encFct l713]) rfl (by repeat (first | exact rzz | apply rcc rfl | apply rnn rfl)) rfl ⟨l713, rfl, rfl, hr⟩
                  · rintro l768 hr
                    show GL _ _ [(4, .ptr 2 0), (5, .gl 7 (List.length l768)), (6, .gl 4 (List.length l112)), (27, .gl 6 (List.length l686)), (28, .int .i64 ((List.length l686 : Nat) : Int)), (29, .int .i64 ((i743 : Nat) : Int))] [.cells [.bool a1.never, .lst (List.map encFct a1.l) false], .cells [.bool b2.never, .lst (List.map encFct b2.l) false], .cells [.bool false, .lst [] true], growM 2 encFct l62, openM 2 encFct l112, growM 2 encFct l636, openM 2 encFct l686, openM 2 encFct l768] _
                    replace hr : y1w (y0n n a1 b2 l62 l112 l636 l686 rest744 (i743 + 1)) l768 = some r := hr
                    unfold y1w at hr
                    refine L_reg ?_
                    refine G_v (.int .i64 ((i743 + 1 : Nat) : Int)) rfl rfl rfl (congrArg _ (wrap_next hLq741 hlti743)) ?_
                    refine G_p rfl rfl rfl ?_
                    refine G_nil ?_
                    refine L_nil ?_
                    refine Rd_norm ⟨l768, ?_, rfl, hr⟩
                    show restr _ _ = [(5, .gl 7 (List.length l768)), (29, .int .i64 (((i743 + 1) : Nat) : Int)), (4, .ptr 2 0), (6, .gl 4 (List.length l112)), (27, .gl 6 (List.length l686)), (28, .int .i64 ((List.length l686 : Nat) : Int))]
                    (repeat (first | exact rzz | apply rcc rfl | apply rnn rfl))
          · rintro ⟨l301, l302, l303⟩ hr
            show GL _ _ [(4, .ptr 2 0), (5, .gl 7 (List.length l303))] [.cells [.bool a1.never, .lst (List.map encFct a1.l) false], .cells [.bool b2.never, .lst (List.map encFct b2.l) false], .cells [.bool false, .lst [] true], growM 2 encFct l62, openM 2 encFct l112, growM 2 encFct l301, openM 2 encFct l302, openM 2 encFct l303] _
            replace hr : y1t n l301 l302 l303 = some r := hr
            unfold y1t at hr
            refine L_seq ?_
            refine L_stmt ?_
            refine L_reg ?_
            refine G_p rfl rfl rfl ?_
            refine G_cx 37 rfl rfl (ca_finx t37 (Or.inl rfl) ?_)
            refine L_seq ?_
            refine L_stmt ?_
            refine L_reg ?_
            refine G_n (B := .cells [.bool false, .lst [] true]) rfl rfl rfl ?_
            refine G_nil ?_
            refine L_nil ?_
            refine Sm_norm (e2 := [(0, .gl 7 (List.length l303)), (2, .ptr 8 0)]) (H1 := [.cells [.bool a1.never, .lst (List.map encFct a1.l) false], .cells [.bool b2.never, .lst (List.map encFct b2.l) false], .cells [.bool false, .lst [] true], growM 2 encFct l62, openM 2 encFct l112, growM 2 encFct l301, openM 2 encFct l302, openM 2 encFct l303, .cells [.bool false, .lst [] true]]) (H2 := [.cells [.bool a1.never, .lst (List.map encFct a1.l) false], .cells [.bool b2.never, .lst (List.map encFct b2.l) false], .cells [.bool false, .lst [] true], growM 2 encFct l62, openM 2 encFct l112, growM 2 encFct l301, openM 2 encFct l302, openM 2 encFct l303, .cells [.bool false, .lst [] true]]) rfl (by repeat (first | exact rzz | apply rcc rfl | apply rnn rfl)) rfl (?_ : GL _ _ _ _ _)
            refine L_seq ?_
            refine L_stmt ?_
            refine L_reg ?_
            refine G_p rfl rfl rfl ?_
            refine G_cx 68 rfl rfl (ca_finx t68 (Or.inl rfl) ?_)
            refine L_seq ?_
            refine L_stmt ?_
            refine L_reg ?_
            refine G_p (v := .lst [] true) rfl rfl rfl ?_
            refine G_nil ?_
            refine L_nil ?_
            refine Sm_norm (e2 := [(0, .gl 7 (List.length l303)), (1, .fn 69 [])]) (H1 := [.cells [.bool a1.never, .lst (List.map encFct a1.l) false], .cells [.bool b2.never, .lst (List.map encFct b2.l) false], .cells [.bool false, .lst [] true], growM 2 encFct l62, openM 2 encFct l112, growM 2 encFct l301, openM 2 encFct l302, openM 2 encFct l303, .cells [.bool false, .lst [] true]]) (H2 := [.cells [.bool a1.never, .lst (List.map encFct a1.l) false], .cells [.bool b2.never, .lst (List.map encFct b2.l) false], .cells [.bool false, .lst [] true], growM 2 encFct l62, openM 2 encFct l112, growM 2 encFct l301, openM 2 encFct l302, openM 2 encFct l303, .cells [.bool false, .lst [] true]]) rfl (by repeat (first | exact rzz | apply rcc rfl | apply rnn rfl)) rfl (?_ : GL _ _ _ _ _)
            refine L_seq ?_
            refine L_stmtJ (S := Int) (fun s => [(0, .gl 7 (List.length l303)), (1, .fn 69 []), (5, .int .i64 s)]) (fun s => [.cells [.bool a1.never, .lst (List.map encFct a1.l) false], .cells [.bool b2.never, .lst (List.map encFct b2.l) false], .cells [.bool false, .lst [] true], growM 2 encFct l62, openM 2 encFct l112, growM 2 encFct l301, openM 2 encFct l302, openM 2 encFct l303, .cells [.bool false, .lst [] true]]) (fun s => y1u n l303 s = some r) ?_ ?_
            · skip
              refine L_reg ?_
              refine G_p rfl rfl rfl ?_
              refine G_p rfl rfl rfl ?_
              refine G_cx 42 rfl rfl (ca_finx t42 (Or.inl rfl) ?_)
              refine L_seq ?_
              refine L_stmt ?_
              refine L_reg ?_
              refine G_p rfl rfl rfl ?_
              refine G_nil ?_
              refine L_nil ?_
              refine Sm_norm (e2 := [(0, .gl 7 (List.length l303)), (1, .fn 69 [])]) (H1 := [.cells [.bool a1.never, .lst (List.map encFct a1.l) false], .cells [.bool b2.never, .lst (List.map encFct b2.l) false], .cells [.bool false, .lst [] true], growM 2 encFct l62, openM 2 encFct l112, growM 2 encFct l301, openM 2 encFct l302, openM 2 encFct l303, .cells [.bool false, .lst [] true]]) (H2 := [.cells [.bool a1.never, .lst (List.map encFct a1.l) false], .cells [.bool b2.never, .lst (List.map encFct b2.l) false], .cells [.bool false, .lst [] true], growM 2 encFct l62, openM 2 encFct l112, growM 2 encFct l301, openM 2 encFct l302, openM 2 encFct l303, .cells [.bool false, .lst [] true]]) rfl (by repeat (first | exact rzz | apply rcc rfl | apply rnn rfl)) rfl (?_ : GL _ _ _ _ _)
              refine L_seq ?_
              refine L_stmtJ (S := Unit) (fun s => []) (fun s => [.cells [.bool a1.never, .lst (List.map encFct a1.l) false], .cells [.bool b2.never, .lst (List.map encFct b2.l) false], .cells [.bool false, .lst [] true], growM 2 encFct l62, openM 2 encFct l112, growM 2 encFct l301, openM 2 encFct l302, openM 2 encFct l303, .cells [.bool false, .lst [] true]]) (fun s => y30 n l303 = some r) ?_ ?_
              · skip
                refine L_seq ?_
                refine L_stmt ?_
                refine L_reg ?_
                refine G_p rfl rfl rfl ?_
                refine G_h rfl rfl rfl (fun _ => rfl) ?_
                refine G_p rfl rfl rfl ?_
                refine G_nil ?_
                refine L_nil ?_
                refine Sm_norm (e2 := [(0, .gl 7 (List.length l303)), (1, .fn 69 []), (7, .int .i64 ((List.length l303 : Nat) : Int)), (8, .int .i64 0)]) (H1 := [.cells [.bool a1.never, .lst (List.map encFct a1.l) false], .cells [.bool b2.never, .lst (List.map encFct b2.l) false], .cells [.bool false, .lst [] true], growM 2 encFct l62, openM 2 encFct l112, growM 2 encFct l301, openM 2 encFct l302, openM 2 encFct l303, .cells [.bool false, .lst [] true]]) (H2 := [.cells [.bool a1.never, .lst (List.map encFct a1.l) false], .cells [.bool b2.never, .lst (List.map encFct b2.l) false], .cells [.bool false, .lst [] true], growM 2 encFct l62, openM 2 encFct l112, growM 2 encFct l301, openM 2 encFct l302, openM 2 encFct l303, .cells [.bool false, .lst [] true]]) rfl (by repeat (first | exact rzz | apply rcc rfl | apply rnn rfl)) rfl (?_ : GL _ _ _ _ _)
                refine L_block ?_
                obtain ⟨hLq573, hr⟩ := guard_s hr
                replace hLq573 := okLen_s hLq573
                refine L_range (X := Fct) (S := Unit) l303 (fun i575 s => [(8, .int .i64 ((i575 : Nat) : Int)), (0, .gl 7 (List.length l303)), (1, .fn 69 []), (7, .int .i64 ((List.length l303 : Nat) : Int))]) (fun i575 s => [.cells [.bool a1.never, .lst (List.map encFct a1.l) false], .cells [.bool b2.never, .lst (List.map encFct b2.l) false], .cells [.bool false, .lst [] true], growM 2 encFct l62, openM 2 encFct l112, growM 2 encFct l301, openM 2 encFct l302, openM 2 encFct l303, .cells [.bool false, .lst [] true]]) (fun rest i575 s => y1g n l303 rest i575 = some r) (()) ?_ rfl hr ?_ ?_
                · show restr _ _ = [(8, .int .i64 ((0 : Nat) : Int)), (0, .gl 7 (List.length l303)), (1, .fn 69 []), (7, .int .i64 ((List.length l303 : Nat) : Int))]
                  (repeat (first | exact rzz | apply rcc rfl | apply rnn rfl))
                · rintro ⟨⟩ hr
                  show GL _ _ [(8, .int .i64 (((List.length l303) : Nat) : Int)), (0, .gl 7 (List.length l303)), (1, .fn 69 []), (7, .int .i64 ((List.length l303 : Nat) : Int))] [.cells [.bool a1.never, .lst (List.map encFct a1.l) false], .cells [.bool b2.never, .lst (List.map encFct b2.l) false], .cells [.bool false, .lst [] true], growM 2 encFct l62, openM 2 encFct l112, growM 2 encFct l301, openM 2 encFct l302, openM 2 encFct l303, .cells [.bool false, .lst [] true]] _
                  replace hr : y1g n l303 [] (List.length l303) = some r := hr
                  rw [y1g] at hr
                  refine L_seq ?_
                  refine L_stmt ?_
                  refine L_reg ?_
                  refine G_v (.bool false) rfl rfl rfl (congrArg AVal.bool (decide_eq_false (by omega))) ?_
                  refine G_nil ?_
                  refine L_nil ?_
                  refine Sm_norm (e2 := [(0, .gl 7 (List.length l303)), (1, .fn 69 []), (7, .int .i64 ((List.length l303 : Nat) : Int)), (8, .int .i64 ((List.length l303 : Nat) : Int)), (9, .bool false)]) (H1 := [.cells [.bool a1.never, .lst (List.map encFct a1.l) false], .cells [.bool b2.never, .lst (List.map encFct b2.l) false], .cells [.bool false, .lst [] true], growM 2 encFct l62, openM 2 encFct l112, growM 2 encFct l301, openM 2 encFct l302, openM 2 encFct l303, .cells [.bool false, .lst [] true]]) (H2 := [.cells [.bool a1.never, .lst (List.map encFct a1.l) false], .cells [.bool b2.never, .lst (List.map encFct b2.l) false], .cells [.bool false, .lst [] true], growM 2 encFct l62, openM 2 encFct l112, growM 2 encFct l301, openM 2 encFct l302, openM 2 encFct l303, .cells [.bool false, .lst [] true]]) rfl (by repeat (first | exact rzz | apply rcc rfl | apply rnn rfl)) rfl (?_ : GL _ _ _ _ _)
                  refine L_seq ?_
                  refine L_stmt ?_
                  refine L_F rfl rfl ?_
                  refine L_exit ?_
                  refine Sm_exit ?_
                  refine Rd_exit ?_
                  refine Blk_exit (?_ : GL _ _ _ _ _)
                  refine L_nil ?_
                  exact Sm_norm (e2 := []) (H1 := [.cells [.bool a1.never, .lst (List.map encFct a1.l) false], .cells [.bool b2.never, .lst (List.map encFct b2.l) false], .cells [.bool false, .lst [] true], growM 2 encFct l62, openM 2 encFct l112, growM 2 encFct l301, openM 2 encFct l302, openM 2 encFct l303, .cells [.bool false, .lst [] true]]) (H2 := [.cells [.bool a1.never, .lst (List.map encFct a1.l) false], .cells [.bool b2.never, .lst (List.map encFct b2.l) false], .cells [.bool false, .lst [] true], growM 2 encFct l62, openM 2 encFct l112, growM 2 encFct l301, openM 2 encFct l302, openM 2 encFct l303, .cells [.bool false, .lst [] true]]) rfl (by repeat (first | exact rzz | apply rcc rfl | apply rnn rfl)) rfl ⟨(), rfl, rfl, hr⟩
                · rintro y574 rest576 i575 ⟨⟩ hy574 hlti575 hr
                  show GL _ _ [(8, .int .i64 ((i575 : Nat) : Int)), (0, .gl 7 (List.length l303)), (1, .fn 69 []), (7, .int .i64 ((List.length l303 : Nat) : Int))] [.cells [.bool a1.never, .lst (List.map encFct a1.l) false], .cells [.bool b2.never, .lst (List.map encFct b2.l) false], .cells [.bool false, .lst [] true], growM 2 encFct l62, openM 2 encFct l112, growM 2 encFct l301, openM 2 encFct l302, openM 2 encFct l303, .cells [.bool false, .lst [] true]] _
                  replace hr : y1g n l303 (y574 :: rest576) i575 = some r := hr
                  rw [y1g] at hr
                  refine L_seq ?_
                  refine L_stmt ?_
                  refine L_reg ?_
                  refine G_v (.bool true) rfl rfl rfl (congrArg AVal.bool (decide_eq_true (by omega))) ?_
                  refine G_nil ?_
                  refine L_nil ?_
                  refine Sm_norm (e2 := [(0, .gl 7 (List.length l303)), (1, .fn 69 []), (7, .int .i64 ((List.length l303 : Nat) : Int)), (8, .int .i64 ((i575 : Nat) : Int)), (9, .bool true)]) (H1 := [.cells [.bool a1.never, .lst (List.map encFct a1.l) false], .cells [.bool b2.never, .lst (List.map encFct b2.l) false], .cells [.bool false, .lst [] true], growM 2 encFct l62, openM 2 encFct l112, growM 2 encFct l301, openM 2 encFct l302, openM 2 encFct l303, .cells [.bool false, .lst [] true]]) (H2 := [.cells [.bool a1.never, .lst (List.map encFct a1.l) false], .cells [.bool b2.never, .lst (List.map encFct b2.l) false], .cells [.bool false, .lst [] true], growM 2 encFct l62, openM 2 encFct l112, growM 2 encFct l301, openM 2 encFct l302, openM 2 encFct l303, .cells [.bool false, .lst [] true]]) rfl (by repeat (first | exact rzz | apply rcc rfl | apply rnn rfl)) rfl (?_ : GL _ _ _ _ _)
                  refine L_seq ?_
                  refine L_stmt ?_
                  refine L_T rfl rfl ?_
                  refine L_skip ?_
                  refine L_nil ?_
                  refine Sm_norm (e2 := [(0, .gl 7 (List.length l303)), (1, .fn 69 []), (7, .int .i64 ((List.length l303 : Nat) : Int)), (8, .int .i64 ((i575 : Nat) : Int))]) (H1 := [.cells [.bool a1.never, .lst (List.map encFct a1.l) false], .cells [.bool b2.never, .lst (List.map encFct b2.l) false], .cells [.bool false, .lst [] true], growM 2 encFct l62, openM 2 encFct l112, growM 2 encFct l301, openM 2 encFct l302, openM 2 encFct l303, .cells [.bool false, .lst [] true]]) (H2 := [.cells [.bool a1.never, .lst (List.map encFct a1.l) false], .cells [.bool b2.never, .lst (List.map encFct b2.l) false], .cells [.bool false, .lst [] true], growM 2 encFct l62, openM 2 encFct l112, growM 2 encFct l301, openM 2 encFct l302, openM 2 encFct l303, .cells [.bool false, .lst [] true]]) rfl (by repeat (first | exact rzz | apply rcc rfl | apply rnn rfl)) rfl (?_ : GL _ _ _ _ _)
                  refine L_seq ?_
                  refine L_stmt ?_
                  refine L_block ?_
                  refine L_seq ?_
                  refine L_stmt ?_
                  refine L_reg ?_
                  refine G_p rfl rfl rfl ?_
                  refine G_p rfl rfl rfl ?_
                  refine G_nil ?_
                  refine L_nil ?_
                  refine Sm_norm (e2 := [(0, .gl 7 (List.length l303)), (1, .fn 69 []), (5, .int .i64 ((i575 : Nat) : Int)), (7, .int .i64 ((List.length l303 : Nat) : Int)), (8, .int .i64 ((i575 : Nat) : Int))]) (H1 := [.cells [.bool a1.never, .lst (List.map encFct a1.l) false], .cells [.bool b2.never, .lst (List.map encFct b2.l) false], .cells [.bool false, .lst [] true], growM 2 encFct l62, openM 2 encFct l112, growM 2 encFct l301, openM 2 encFct l302, openM 2 encFct l303, .cells [.bool false, .lst [] true]]) (H2 := [.cells [.bool a1.never, .lst (List.map encFct a1.l) false], .cells [.bool b2.never, .lst (List.map encFct b2.l) false], .cells [.bool false, .lst [] true], growM 2 encFct l62, openM 2 encFct l112, growM 2 encFct l301, openM 2 encFct l302, openM 2 encFct l303, .cells [.bool false, .lst [] true]]) rfl (by repeat (first | exact rzz | apply rcc rfl | apply rnn rfl)) rfl (?_ : GL _ _ _ _ _)
                  refine L_seq ?_
                  refine L_stmt ?_
                  refine L_reg ?_
                  refine G_p rfl rfl rfl ?_
                  refine G_p rfl rfl rfl ?_
                  refine G_p rfl rfl rfl ?_
                  obtain ⟨e579, he579, hr⟩ := bind_s hr
                  refine G_h rfl rfl rfl (iao_ev encFct_w1 rfl rfl rfl rfl (idx_s he579).1 (map_get (x := e579) (idx_s he579).2)) ?_
                  refine G_h (v := .agg (cFct e579)) rfl rfl rfl (ldao_ev (off := 0) rfl rfl rfl rfl (idx_s he579).2 (by decide) (by decide) (y0c _) rfl) ?_
                  obtain ⟨r580, hr580, hr⟩ := bind_s hr
                  refine G_cv rfl rfl rfl (CA_of (as := [.agg (cFct e579)]) rfl (y2g hr580)) ?_
                  refine G_nil ?_
                  refine L_nil ?_
                  refine Sm_norm (e2 := [(0, .gl 7 (List.length l303)), (1, .fn 69 []), (5, .int .i64 ((i575 : Nat) : Int)), (7, .int .i64 ((List.length l303 : Nat) : Int)), (8, .int .i64 ((i575 : Nat) : Int)), (16, .bool r580)]) (H1 := [.cells [.bool a1.never, .lst (List.map encFct a1.l) false], .cells [.bool b2.never, .lst (List.map encFct b2.l) false], .cells [.bool false, .lst [] true], growM 2 encFct l62, openM 2 encFct l112, growM 2 encFct l301, openM 2 encFct l302, openM 2 encFct l303, .cells [.bool false, .lst [] true]]) (H2 := [.cells [.bool a1.never, .lst (List.map encFct a1.l) false], .cells [.bool b2.never, .lst (List.map encFct b2.l) false], .cells [.bool false, .lst [] true], growM 2 encFct l62, openM 2 encFct l112, growM 2 encFct l301, openM 2 encFct l302, openM 2 encFct l303, .cells [.bool false, .lst [] true]]) rfl (by repeat (first | exact rzz | apply rcc rfl | apply rnn rfl)) rfl (?_ : GL _ _ _ _ _)
                  rcases cond_s hr with ⟨hc16, hr⟩ | ⟨hc16, hr⟩
                  · refine L_T rfl hc16 ?_
                    refine L_seq ?_
                    refine L_reg ?_
                    refine G_p rfl rfl rfl ?_
                    refine G_p rfl rfl rfl ?_
                    refine G_nil ?_
                    refine L_ret ?_
                    refine Blk_ret ?_
                    refine Sm_ret ?_
                    refine Rd_ret ?_
                    refine Blk_ret ?_
                    refine Sm_ret ?_
                    refine ⟨_, rfl, (?_ : GO _ _ _ ((10, .int .i64 ((i575 : Nat) : Int)) :: _) [.cells [.bool a1.never, .lst (List.map encFct a1.l) false], .cells [.bool b2.never, .lst (List.map encFct b2.l) false], .cells [.bool false, .lst [] true], growM 2 encFct l62, openM 2 encFct l112, growM 2 encFct l301, openM 2 encFct l302, openM 2 encFct l303, .cells [.bool false, .lst [] true]] _)⟩
                    refine G_p rfl rfl rfl ?_
                    refine G_nil ?_
                    refine L_nil ?_
                    exact Sm_norm (e2 := [(0, .gl 7 (List.length l303)), (1, .fn 69 []), (5, .int .i64 ((i575 : Nat) : Int))]) (H1 := [.cells [.bool a1.never, .lst (List.map encFct a1.l) false], .cells [.bool b2.never, .lst (List.map encFct b2.l) false], .cells [.bool false, .lst [] true], growM 2 encFct l62, openM 2 encFct l112, growM 2 encFct l301, openM 2 encFct l302, openM 2 encFct l303, .cells [.bool false, .lst [] true]]) (H2 := [.cells [.bool a1.never, .lst (List.map encFct a1.l) false], .cells [.bool b2.never, .lst (List.map encFct b2.l) false], .cells [.bool false, .lst [] true], growM 2 encFct l62, openM 2 encFct l112, growM 2 encFct l301, openM 2 encFct l302, openM 2 encFct l303, .cells [.bool false, .lst [] true]]) rfl (by repeat (first | exact rzz | apply rcc rfl | apply rnn rfl)) rfl ⟨((i575 : Nat) : Int), rfl, rfl, hr⟩
                  · refine L_F rfl hc16 ?_
                    refine L_skip ?_
                    refine L_nil ?_
                    refine Blk_norm (?_ : GL _ _ _ _ _)
                    refine L_nil ?_
                    refine Sm_norm (e2 := [(0, .gl 7 (List.length l303)), (1, .fn 69 []), (7, .int .i64 ((List.length l303 : Nat) : Int)), (8, .int .i64 ((i575 : Nat) : Int))]) (H1 := [.cells [.bool a1.never, .lst (List.map encFct a1.l) false], .cells [.bool b2.never, .lst (List.map encFct b2.l) false], .cells [.bool false, .lst [] true], growM 2 encFct l62, openM 2 encFct l112, growM 2 encFct l301, openM 2 encFct l302, openM 2 encFct l303, .cells [.bool false, .lst [] true]]) (H2 := [.cells [.bool a1.never, .lst (List.map encFct a1.l) false], .cells [.bool b2.never, .lst (List.map encFct b2.l) false], .cells [.bool false, .lst [] true], growM 2 encFct l62, openM 2 encFct l112, growM 2 encFct l301, openM 2 encFct l302, openM 2 encFct l303, .cells [.bool false, .lst [] true]]) rfl (by repeat (first | exact rzz | apply rcc rfl | apply rnn rfl)) rfl (?_ : GL _ _ _ _ _)
                    refine L_reg ?_
                    refine G_v (.int .i64 ((i575 + 1 : Nat) : Int)) rfl rfl rfl (congrArg _ (wrap_next hLq573 hlti575)) ?_
                    refine G_p rfl rfl rfl ?_
                    refine G_nil ?_
                    refine L_nil ?_
                    refine Rd_norm ⟨(), ?_, rfl, hr⟩
                    show restr _ _ = [(8, .int .i64 (((i575 + 1) : Nat) : Int)), (0, .gl 7 (List.length l303)), (1, .fn 69 []), (7, .int .i64 ((List.length l303 : Nat) : Int))]
                    (repeat (first | exact rzz | apply rcc rfl | apply rnn rfl))
              · rintro ⟨⟩ hr
                show GL _ _ [] [.cells [.bool a1.never, .lst (List.map encFct a1.l) false], .cells [.bool b2.never, .lst (List.map encFct b2.l) false], .cells [.bool false, .lst [] true], growM 2 encFct l62, openM 2 encFct l112, growM 2 encFct l301, openM 2 encFct l302, openM 2 encFct l303, .cells [.bool false, .lst [] true]] _
                replace hr : y30 n l303 = some r := hr
                unfold y30 at hr
                refine L_seq ?_
                refine L_reg ?_
                refine G_p rfl rfl rfl ?_
                refine G_nil ?_
                refine L_ret ?_
                refine ⟨_, rfl, (?_ : GO _ _ _ ((10, .int .i64 (-1)) :: _) [.cells [.bool a1.never, .lst (List.map encFct a1.l) false], .cells [.bool b2.never, .lst (List.map encFct b2.l) false], .cells [.bool false, .lst [] true], growM 2 encFct l62, openM 2 encFct l112, growM 2 encFct l301, openM 2 encFct l302, openM 2 encFct l303, .cells [.bool false, .lst [] true]] _)⟩
                refine G_p rfl rfl rfl ?_
                refine G_nil ?_
                refine L_nil ?_
                exact Sm_norm (e2 := [(0, .gl 7 (List.length l303)), (1, .fn 69 []), (5, .int .i64 (-1))]) (H1 := [.cells [.bool a1.never, .lst (List.map encFct a1.l) false], .cells [.bool b2.never, .lst (List.map encFct b2.l) false], .cells [.bool false, .lst [] true], growM 2 encFct l62, openM 2 encFct l112, growM 2 encFct l301, openM 2 encFct l302, openM 2 encFct l303, .cells [.bool false, .lst [] true]]) (H2 := [.cells [.bool a1.never, .lst (List.map encFct a1.l) false], .cells [.bool b2.never, .lst (List.map encFct b2.l) false], .cells [.bool false, .lst [] true], growM 2 encFct l62, openM 2 encFct l112, growM 2 encFct l301, openM 2 encFct l302, openM 2 encFct l303, .cells [.bool false, .lst [] true]]) rfl (by repeat (first | exact rzz | apply rcc rfl | apply rnn rfl)) rfl ⟨(-1), rfl, rfl, hr⟩
            · rintro a479 hr
              show GL _ _ [(0, .gl 7 (List.length l303)), (1, .fn 69 []), (5, .int .i64 a479)] [.cells [.bool a1.never, .lst (List.map encFct a1.l) false], .cells [.bool b2.never, .lst (List.map encFct b2.l) false], .cells [.bool false, .lst [] true], growM 2 encFct l62, openM 2 encFct l112, growM 2 encFct l301, openM 2 encFct l302, openM 2 encFct l303, .cells [.bool false, .lst [] true]] _
              replace hr : y1u n l303 a479 = some r := hr
              unfold y1u at hr
              refine L_seq ?_
              refine L_stmt ?_
              refine L_seq ?_
              refine L_stmt ?_
              refine L_reg ?_
              refine G_p rfl rfl rfl ?_
              refine G_p rfl rfl rfl ?_
              refine G_nil ?_
              refine L_nil ?_
              refine Sm_norm (e2 := [(0, .gl 7 (List.length l303)), (1, .fn 69 []), (5, .int .i64 a479), (12, .bool (decide (a479 = (-1))))]) (H1 := [.cells [.bool a1.never, .lst (List.map encFct a1.l) false], .cells [.bool b2.never, .lst (List.map encFct b2.l) false], .cells [.bool false, .lst [] true], growM 2 encFct l62, openM 2 encFct l112, growM 2 encFct l301, openM 2 encFct l302, openM 2 encFct l303, .cells [.bool false, .lst [] true]]) (H2 := [.cells [.bool a1.never, .lst (List.map encFct a1.l) false], .cells [.bool b2.never, .lst (List.map encFct b2.l) false], .cells [.bool false, .lst [] true], growM 2 encFct l62, openM 2 encFct l112, growM 2 encFct l301, openM 2 encFct l302, openM 2 encFct l303, .cells [.bool false, .lst [] true]]) rfl (by repeat (first | exact rzz | apply rcc rfl | apply rnn rfl)) rfl (?_ : GL _ _ _ _ _)
              rcases cond_s hr with ⟨hc12, hr⟩ | ⟨hc12, hr⟩
              · refine L_T rfl hc12 ?_
                refine L_seq ?_
                refine L_reg ?_
                refine G_p rfl rfl rfl ?_
                refine G_p rfl rfl rfl ?_
                refine G_nil ?_
                refine L_ret ?_
                refine Sm_ret ?_
                refine ⟨_, rfl, (?_ : GO _ _ _ ((4, .gl 7 (List.length l303)) :: _) [.cells [.bool a1.never, .lst (List.map encFct a1.l) false], .cells [.bool b2.never, .lst (List.map encFct b2.l) false], .cells [.bool false, .lst [] true], growM 2 encFct l62, openM 2 encFct l112, growM 2 encFct l301, openM 2 encFct l302, openM 2 encFct l303, .cells [.bool false, .lst [] true]] _)⟩
                refine G_p (v := .agg [.bool false, .gl 7 (List.length l303)]) rfl rfl rfl ?_
                refine G_hn (H' := [.cells [.bool a1.never, .lst (List.map encFct a1.l) false], .cells [.bool b2.never, .lst (List.map encFct b2.l) false], .cells [.bool false, .lst [] true], growM 2 encFct l62, openM 2 encFct l112, growM 2 encFct l301, openM 2 encFct l302, openM 2 encFct l303, .cells [.bool false, .gl 7 (List.length l303)]]) rfl rfl rfl (fun _ => rfl) ?_
                refine G_nil ?_
                refine L_nil ?_
                refine Sm_norm (e2 := [(2, .ptr 8 0)]) (H1 := [.cells [.bool a1.never, .lst (List.map encFct a1.l) false], .cells [.bool b2.never, .lst (List.map encFct b2.l) false], .cells [.bool false, .lst [] true], growM 2 encFct l62, openM 2 encFct l112, growM 2 encFct l301, openM 2 encFct l302, openM 2 encFct l303, .cells [.bool false, .gl 7 (List.length l303)]]) (H2 := [.cells [.bool a1.never, .lst (List.map encFct a1.l) false], .cells [.bool b2.never, .lst (List.map encFct b2.l) false], .cells [.bool false, .lst [] true], growM 2 encFct l62, openM 2 encFct l112, growM 2 encFct l301, openM 2 encFct l302, openM 2 encFct l303, .cells [.bool false, .gl 7 (List.length l303)]]) rfl (by repeat (first | exact rzz | apply rcc rfl | apply rnn rfl)) rfl (?_ : GL _ _ _ _ _)
                refine L_seq ?_
                refine L_shutl (H' := [.cells [.bool a1.never, .lst (List.map encFct a1.l) false], .cells [.bool b2.never, .lst (List.map encFct b2.l) false], .cells [.bool false, .lst [] true], growM 2 encFct l62, openM 2 encFct l112, growM 2 encFct l301, openM 2 encFct l302, growM 2 encFct l303, .cells [.bool false, .gl 7 (List.length l303)]]) (seal_oC rfl rfl rfl rfl rfl rfl) ?_
                refine L_ret ?_
                refine ⟨_, rfl, (?_ : GO _ _ _ ((54, .agg [.bool false, .gl 7 (List.length l303)]) :: _) [.cells [.bool a1.never, .lst (List.map encFct a1.l) false], .cells [.bool b2.never, .lst (List.map encFct b2.l) false], .cells [.bool false, .lst [] true], growM 2 encFct l62, openM 2 encFct l112, growM 2 encFct l301, openM 2 encFct l302, growM 2 encFct l303] _)⟩
                refine G_hn (H' := [.cells [.bool a1.never, .lst (List.map encFct a1.l) false], .cells [.bool b2.never, .lst (List.map encFct b2.l) false], .cells [.bool false, .gl 7 (List.length l303)], growM 2 encFct l62, openM 2 encFct l112, growM 2 encFct l301, openM 2 encFct l302, growM 2 encFct l303]) rfl rfl rfl (fun _ => rfl) ?_
                refine G_nil ?_
                refine L_nil ?_
                refine Sm_norm (e2 := [(4, .ptr 2 0)]) (H1 := [.cells [.bool a1.never, .lst (List.map encFct a1.l) false], .cells [.bool b2.never, .lst (List.map encFct b2.l) false], .cells [.bool false, .gl 7 (List.length l303)], growM 2 encFct l62, openM 2 encFct l112, growM 2 encFct l301, openM 2 encFct l302, growM 2 encFct l303]) (H2 := [.cells [.bool a1.never, .lst (List.map encFct a1.l) false], .cells [.bool b2.never, .lst (List.map encFct b2.l) false], .cells [.bool false, .gl 7 (List.length l303)], growM 2 encFct l62, openM 2 encFct l112, growM 2 encFct l301, openM 2 encFct l302, growM 2 encFct l303]) rfl (by repeat (first | exact rzz | apply rcc rfl | apply rnn rfl)) rfl (?_ : GL _ _ _ _ _)
                refine L_seq ?_
                refine L_shutl (H' := [.cells [.bool a1.never, .lst (List.map encFct a1.l) false], .cells [.bool b2.never, .lst (List.map encFct b2.l) false], .cells [.bool false, .gl 7 (List.length l303)], growM 2 encFct l62, openM 2 encFct l112, growM 2 encFct l301, openM 2 encFct l302, growM 2 encFct l303]) rfl ?_
                refine L_ret ?_
                have hr := some_s hr
                subst hr
                exact ⟨_, rfl, _, (shutR_agg (y26 rfl (y26 (shutR_gl rfl) rfl))), rfl⟩
              · refine L_F rfl hc12 ?_
                refine L_skip ?_
                refine L_nil ?_
                refine Sm_norm (e2 := [(0, .gl 7 (List.length l303)), (1, .fn 69 []), (5, .int .i64 a479)]) (H1 := [.cells [.bool a1.never, .lst (List.map encFct a1.l) false], .cells [.bool b2.never, .lst (List.map encFct b2.l) false], .cells [.bool false, .lst [] true], growM 2 encFct l62, openM 2 encFct l112, growM 2 encFct l301, openM 2 encFct l302, openM 2 encFct l303, .cells [.bool false, .lst [] true]]) (H2 := [.cells [.bool a1.never, .lst (List.map encFct a1.l) false], .cells [.bool b2.never, .lst (List.map encFct b2.l) false], .cells [.bool false, .lst [] true], growM 2 encFct l62, openM 2 encFct l112, growM 2 encFct l301, openM 2 encFct l302, openM 2 encFct l303, .cells [.bool false, .lst [] true]]) rfl (by repeat (first | exact rzz | apply rcc rfl | apply rnn rfl)) rfl (?_ : GL _ _ _ _ _)
                refine L_seq ?_
                refine L_stmtJ (S := List Fct × Int) (fun s => [(0, .gl 7 (List.length s.1)), (5, .int .i64 s.2)]) (fun s => [.cells [.bool a1.never, .lst (List.map encFct a1.l) false], .cells [.bool b2.never, .lst (List.map encFct b2.l) false], .cells [.bool false, .lst [] true], growM 2 encFct l62, openM 2 encFct l112, growM 2 encFct l301, openM 2 encFct l302, openM 2 encFct s.1, .cells [.bool false, .lst [] true]]) (fun s => y2u s.1 s.2 = some r) ?_ ?_
                · skip
                  refine L_seq ?_
                  refine L_stmt ?_
                  refine L_reg ?_
                  refine G_p rfl rfl rfl ?_
                  refine G_p rfl rfl rfl ?_
                  refine G_p rfl rfl rfl ?_
                  refine G_nil ?_
                  refine L_nil ?_
                  refine Sm_norm (e2 := [(0, .gl 7 (List.length l303)), (1, .fn 69 []), (5, .int .i64 a479), (6, .int .i64 (IntKind.wrap .i64 (a479 + 1)))]) (H1 := [.cells [.bool a1.never, .lst (List.map encFct a1.l) false], .cells [.bool b2.never, .lst (List.map encFct b2.l) false], .cells [.bool false, .lst [] true], growM 2 encFct l62, openM 2 encFct l112, growM 2 encFct l301, openM 2 encFct l302, openM 2 encFct l303, .cells [.bool false, .lst [] true]]) (H2 := [.cells [.bool a1.never, .lst (List.map encFct a1.l) false], .cells [.bool b2.never, .lst (List.map encFct b2.l) false], .cells [.bool false, .lst [] true], growM 2 encFct l62, openM 2 encFct l112, growM 2 encFct l301, openM 2 encFct l302, openM 2 encFct l303, .cells [.bool false, .lst [] true]]) rfl (by repeat (first | exact rzz | apply rcc rfl | apply rnn rfl)) rfl (?_ : GL _ _ _ _ _)
                  refine L_block ?_
                  refine L_while (S := List Fct × Int × Int) n (fun s => [(5, .int .i64 s.2.1), (6, .int .i64 s.2.2), (0, .gl 7 (List.length s.1)), (1, .fn 69 [])]) (fun s => [.cells [.bool a1.never, .lst (List.map encFct a1.l) false], .cells [.bool b2.never, .lst (List.map encFct b2.l) false], .cells [.bool false, .lst [] true], growM 2 encFct l62, openM 2 encFct l112, growM 2 encFct l301, openM 2 encFct l302, openM 2 encFct s.1, .cells [.bool false, .lst [] true]]) (fun k s => y1h k s.1 s.2.1 s.2.2 = some r) ((l303, a479, (IntKind.wrap .i64 (a479 + 1)))) ?_ rfl hr ?_ ?_
                  · show restr _ _ = [(5, .int .i64 a479), (6, .int .i64 (IntKind.wrap .i64 (a479 + 1))), (0, .gl 7 (List.length l303)), (1, .fn 69 [])]
                    (repeat (first | exact rzz | apply rcc rfl | apply rnn rfl))
                  · rintro ⟨l521, a522, a523⟩ hr; exact absurd hr (by simp [y1h])
                  · rintro m26 ⟨l521, a522, a523⟩ hr
                    show GL _ _ [(5, .int .i64 a522), (6, .int .i64 a523), (0, .gl 7 (List.length l521)), (1, .fn 69 [])] [.cells [.bool a1.never, .lst (List.map encFct a1.l) false], .cells [.bool b2.never, .lst (List.map encFct b2.l) false], .cells [.bool false, .lst [] true], growM 2 encFct l62, openM 2 encFct l112, growM 2 encFct l301, openM 2 encFct l302, openM 2 encFct l521, .cells [.bool false, .lst [] true]] _
                    replace hr : y1h (m26 + 1) l521 a522 a523 = some r := hr
                    rw [y1h] at hr
                    refine L_seq ?_
                    refine L_stmt ?_
                    refine L_seq ?_
                    refine L_stmt ?_
                    refine L_reg ?_
                    refine G_p rfl rfl rfl ?_
                    refine G_p rfl rfl rfl ?_
                    refine G_h rfl rfl rfl (fun _ => rfl) ?_
                    refine G_p rfl rfl rfl ?_
                    refine G_nil ?_
                    refine L_nil ?_
                    refine Sm_norm (e2 := [(0, .gl 7 (List.length l521)), (1, .fn 69 []), (5, .int .i64 a522), (6, .int .i64 a523), (19, .bool (decide (a523 < ((List.length l521 : Nat) : Int))))]) (H1 := [.cells [.bool a1.never, .lst (List.map encFct a1.l) false], .cells [.bool b2.never, .lst (List.map encFct b2.l) false], .cells [.bool false, .lst [] true], growM 2 encFct l62, openM 2 encFct l112, growM 2 encFct l301, openM 2 encFct l302, openM 2 encFct l521, .cells [.bool false, .lst [] true]]) (H2 := [.cells [.bool a1.never, .lst (List.map encFct a1.l) false], .cells [.bool b2.never, .lst (List.map encFct b2.l) false], .cells [.bool false, .lst [] true], growM 2 encFct l62, openM 2 encFct l112, growM 2 encFct l301, openM 2 encFct l302, openM 2 encFct l521, .cells [.bool false, .lst [] true]]) rfl (by repeat (first | exact rzz | apply rcc rfl | apply rnn rfl)) rfl (?_ : GL _ _ _ _ _)
                    rcases cond_s hr with ⟨hc19, hr⟩ | ⟨hc19, hr⟩
                    · refine L_T rfl hc19 ?_
                      refine L_skip ?_
                      refine L_nil ?_
                      refine Sm_norm (e2 := [(0, .gl 7 (List.length l521)), (1, .fn 69 []), (5, .int .i64 a522), (6, .int .i64 a523)]) (H1 := [.cells [.bool a1.never, .lst (List.map encFct a1.l) false], .cells [.bool b2.never, .lst (List.map encFct b2.l) false], .cells [.bool false, .lst [] true], growM 2 encFct l62, openM 2 encFct l112, growM 2 encFct l301, openM 2 encFct l302, openM 2 encFct l521, .cells [.bool false, .lst [] true]]) (H2 := [.cells [.bool a1.never, .lst (List.map encFct a1.l) false], .cells [.bool b2.never, .lst (List.map encFct b2.l) false], .cells [.bool false, .lst [] true], growM 2 encFct l62, openM 2 encFct l112, growM 2 encFct l301, openM 2 encFct l302, openM 2 encFct l521, .cells [.bool false, .lst [] true]]) rfl (by repeat (first | exact rzz | apply rcc rfl | apply rnn rfl)) rfl (?_ : GL _ _ _ _ _)
                      refine L_seq ?_
                      refine L_stmt ?_
                      refine L_block ?_
                      refine L_seq ?_
                      refine L_stmt ?_
                      refine L_reg ?_
                      refine G_p rfl rfl rfl ?_
                      refine G_p rfl rfl rfl ?_
                      obtain ⟨e539, he539, hr⟩ := bind_s hr
                      refine G_h rfl rfl rfl (iao_ev encFct_w1 rfl rfl rfl rfl (idx_s he539).1 (map_get (x := e539) (idx_s he539).2)) ?_
                      refine G_h (v := .agg (cFct e539)) rfl rfl rfl (ldao_ev (off := 0) rfl rfl rfl rfl (idx_s he539).2 (by decide) (by decide) (y0c _) rfl) ?_
                      refine G_n (B := .cells [.int .i64 0, .int .i64 0]) rfl rfl rfl ?_
                      refine G_hn (H' := [.cells [.bool a1.never, .lst (List.map encFct a1.l) false], .cells [.bool b2.never, .lst (List.map encFct b2.l) false], .cells [.bool false, .lst [] true], growM 2 encFct l62, openM 2 encFct l112, growM 2 encFct l301, openM 2 encFct l302, openM 2 encFct l521, .cells [.bool false, .lst [] true], .cells [.int .i64 e539.var, .int .i64 e539.tags]]) rfl rfl rfl (fun _ => rfl) ?_
                      refine G_nil ?_
                      refine L_nil ?_
                      refine Sm_norm (e2 := [(0, .gl 7 (List.length l521)), (1, .fn 69 []), (5, .int .i64 a522), (6, .int .i64 a523), (7, .ptr 9 0)]) (H1 := [.cells [.bool a1.never, .lst (List.map encFct a1.l) false], .cells [.bool b2.never, .lst (List.map encFct b2.l) false], .cells [.bool false, .lst [] true], growM 2 encFct l62, openM 2 encFct l112, growM 2 encFct l301, openM 2 encFct l302, openM 2 encFct l521, .cells [.bool false, .lst [] true], .cells [.int .i64 e539.var, .int .i64 e539.tags]]) (H2 := [.cells [.bool a1.never, .lst (List.map encFct a1.l) false], .cells [.bool b2.never, .lst (List.map encFct b2.l) false], .cells [.bool false, .lst [] true], growM 2 encFct l62, openM 2 encFct l112, growM 2 encFct l301, openM 2 encFct l302, openM 2 encFct l521, .cells [.bool false, .lst [] true], .cells [.int .i64 e539.var, .int .i64 e539.tags]]) rfl (by repeat (first | exact rzz | apply rcc rfl | apply rnn rfl)) rfl (?_ : GL _ _ _ _ _)
                      refine L_seq ?_
                      refine L_stmt ?_
                      refine L_reg ?_
                      refine G_p rfl rfl rfl ?_
                      refine G_h (v := .agg (cFct e539)) rfl rfl rfl (fun _ => rfl) ?_
                      obtain ⟨r540, hr540, hr⟩ := bind_s hr
                      refine G_cv rfl rfl rfl (CA_of (as := [.agg (cFct e539)]) rfl (y2g hr540)) ?_
                      refine G_p rfl rfl rfl ?_
                      refine G_nil ?_
                      refine L_nil ?_
                      refine Sm_norm (e2 := [(0, .gl 7 (List.length l521)), (1, .fn 69 []), (5, .int .i64 a522), (6, .int .i64 a523), (7, .ptr 9 0), (29, .bool (!r540))]) (H1 := [.cells [.bool a1.never, .lst (List.map encFct a1.l) false], .cells [.bool b2.never, .lst (List.map encFct b2.l) false], .cells [.bool false, .lst [] true], growM 2 encFct l62, openM 2 encFct l112, growM 2 encFct l301, openM 2 encFct l302, openM 2 encFct l521, .cells [.bool false, .lst [] true], .cells [.int .i64 e539.var, .int .i64 e539.tags]]) (H2 := [.cells [.bool a1.never, .lst (List.map encFct a1.l) false], .cells [.bool b2.never, .lst (List.map encFct b2.l) false], .cells [.bool false, .lst [] true], growM 2 encFct l62, openM 2 encFct l112, growM 2 encFct l301, openM 2 encFct l302, openM 2 encFct l521, .cells [.bool false, .lst [] true], .cells [.int .i64 e539.var, .int .i64 e539.tags]]) rfl (by repeat (first | exact rzz | apply rcc rfl | apply rnn rfl)) rfl (?_ : GL _ _ _ _ _)
                      rcases cond_s hr with ⟨hc29, hr⟩ | ⟨hc29, hr⟩
                      · refine L_T rfl hc29 ?_
                        refine L_seq ?_
                        refine L_stmt ?_
                        refine L_reg ?_
                        refine G_p rfl rfl rfl ?_
                        refine G_p rfl rfl rfl ?_
                        refine G_h (v := .agg (cFct e539)) rfl rfl rfl (fun _ => rfl) ?_
                        obtain ⟨e541, he541, hr⟩ := bind_s hr
                        refine G_h rfl rfl rfl (iao_ev encFct_w1 rfl rfl rfl rfl (idx_s he541).1 (map_get (x := e541) (idx_s he541).2)) ?_
                        obtain ⟨l542, hl542, hr⟩ := bind_s hr
                        refine G_hn (H' := [.cells [.bool a1.never, .lst (List.map encFct a1.l) false], .cells [.bool b2.never, .lst (List.map encFct b2.l) false], .cells [.bool false, .lst [] true], growM 2 encFct l62, openM 2 encFct l112, growM 2 encFct l301, openM 2 encFct l302, openM 2 encFct l542, .cells [.bool false, .lst [] true], .cells [.int .i64 e539.var, .int .i64 e539.tags]]) rfl rfl rfl (stko_ev (off := 0) rfl rfl rfl rfl rfl (idx_s he541).2 (by decide) (by decide) ⟨rfl, rfl⟩ rfl (by (try simp only [encFct_eq]); rfl) (setL_s hl542) rfl) ?_
                        refine G_nil ?_
                        refine L_nil ?_
                        refine Sm_norm (e2 := [(0, .gl 7 (List.length l521)), (1, .fn 69 []), (5, .int .i64 a522), (6, .int .i64 a523)]) (H1 := [.cells [.bool a1.never, .lst (List.map encFct a1.l) false], .cells [.bool b2.never, .lst (List.map encFct b2.l) false], .cells [.bool false, .lst [] true], growM 2 encFct l62, openM 2 encFct l112, growM 2 encFct l301, openM 2 encFct l302, openM 2 encFct l542, .cells [.bool false, .lst [] true], .cells [.int .i64 e539.var, .int .i64 e539.tags]]) (H2 := [.cells [.bool a1.never, .lst (List.map encFct a1.l) false], .cells [.bool b2.never, .lst (List.map encFct b2.l) false], .cells [.bool false, .lst [] true], growM 2 encFct l62, openM 2 encFct l112, growM 2 encFct l301, openM 2 encFct l302, openM 2 encFct l542, .cells [.bool false, .lst [] true], .cells [.int .i64 e539.var, .int .i64 e539.tags]]) rfl (by repeat (first | exact rzz | apply rcc rfl | apply rnn rfl)) rfl (?_ : GL _ _ _ _ _)
                        refine L_reg ?_
                        refine G_p rfl rfl rfl ?_
                        refine G_p rfl rfl rfl ?_
                        refine G_p rfl rfl rfl ?_
                        refine G_nil ?_
                        refine L_nil ?_
                        refine Blk_norm (?_ : GL _ _ _ _ _)
                        refine L_nil ?_
                        refine Sm_norm (e2 := [(0, .gl 7 (List.length l521)), (1, .fn 69 []), (5, .int .i64 (IntKind.wrap .i64 (a522 + 1))), (6, .int .i64 a523)]) (H1 := [.cells [.bool a1.never, .lst (List.map encFct a1.l) false], .cells [.bool b2.never, .lst (List.map encFct b2.l) false], .cells [.bool false, .lst [] true], growM 2 encFct l62, openM 2 encFct l112, growM 2 encFct l301, openM 2 encFct l302, openM 2 encFct l542, .cells [.bool false, .lst [] true], .cells [.int .i64 e539.var, .int .i64 e539.tags]]) (H2 := [.cells [.bool a1.never, .lst (List.map encFct a1.l) false], .cells [.bool b2.never, .lst (List.map encFct b2.l) false], .cells [.bool false, .lst [] true], growM 2 encFct l62, openM 2 encFct l112, growM 2 encFct l301, openM 2 encFct l302, openM 2 encFct l542, .cells [.bool false, .lst [] true]]) rfl (by repeat (first | exact rzz | apply rcc rfl | apply rnn rfl)) rfl (?_ : GL _ _ _ _ _)
                        refine L_reg ?_
                        refine G_p rfl rfl rfl ?_
                        refine G_p rfl rfl rfl ?_
                        refine G_p rfl rfl rfl ?_
                        refine G_nil ?_
                        refine L_nil ?_
                        refine Rd_norm ⟨(l542, (IntKind.wrap .i64 (a522 + 1)), (IntKind.wrap .i64 (a523 + 1))), ?_, rfl, hr⟩
                        show restr _ _ = [(5, .int .i64 (IntKind.wrap .i64 (a522 + 1))), (6, .int .i64 (IntKind.wrap .i64 (a523 + 1))), (0, .gl 7 (List.length l542)), (1, .fn 69 [])]
                        (try rw [show List.length l542 = List.length l521 from (setL_len hl542)])
                        (repeat (first | exact rzz | apply rcc rfl | apply rnn rfl))
                      · refine L_F rfl hc29 ?_
                        refine L_skip ?_
                        refine L_nil ?_
                        refine Blk_norm (?_ : GL _ _ _ _ _)
                        refine L_nil ?_
                        refine Sm_norm (e2 := [(0, .gl 7 (List.length l521)), (1, .fn 69 []), (5, .int .i64 a522), (6, .int .i64 a523)]) (H1 := [.cells [.bool a1.never, .lst (List.map encFct a1.l) false], .cells [.bool b2.never, .lst (List.map encFct b2.l) false], .cells [.bool false, .lst [] true], growM 2 encFct l62, openM 2 encFct l112, growM 2 encFct l301, openM 2 encFct l302, openM 2 encFct l521, .cells [.bool false, .lst [] true], .cells [.int .i64 e539.var, .int .i64 e539.tags]]) (H2 := [.cells [.bool a1.never, .lst (List.map encFct a1.l) false], .cells [.bool b2.never, .lst (List.map encFct b2.l) false], .cells [.bool false, .lst [] true], growM 2 encFct l62, openM 2 encFct l112, growM 2 encFct l301, openM 2 encFct l302, openM 2 encFct l521, .cells [.bool false, .lst [] true]]) rfl (by repeat (first | exact rzz | apply rcc rfl | apply rnn rfl)) rfl (?_ : GL _ _ _ _ _)
                        refine L_reg ?_
                        refine G_p rfl rfl rfl ?_
                        refine G_p rfl rfl rfl ?_
                        refine G_p rfl rfl rfl ?_
                        refine G_nil ?_
                        refine L_nil ?_
                        refine Rd_norm ⟨(l521, a522, (IntKind.wrap .i64 (a523 + 1))), ?_, rfl, hr⟩
                        show restr _ _ = [(5, .int .i64 a522), (6, .int .i64 (IntKind.wrap .i64 (a523 + 1))), (0, .gl 7 (List.length l521)), (1, .fn 69 [])]
                        (repeat (first | exact rzz | apply rcc rfl | apply rnn rfl))
                    · refine L_F rfl hc19 ?_
                      refine L_exit ?_
                      refine Sm_exit ?_
                      refine Rd_exit ?_
                      refine Blk_exit (?_ : GL _ _ _ _ _)
                      refine L_nil ?_
                      exact Sm_norm (e2 := [(0, .gl 7 (List.length l521)), (5, .int .i64 a522)]) (H1 := [.cells [.bool a1.never, .lst (List.map encFct a1.l) false], .cells [.bool b2.never, .lst (List.map encFct b2.l) false], .cells [.bool false, .lst [] true], growM 2 encFct l62, openM 2 encFct l112, growM 2 encFct l301, openM 2 encFct l302, openM 2 encFct l521, .cells [.bool false, .lst [] true]]) (H2 := [.cells [.bool a1.never, .lst (List.map encFct a1.l) false], .cells [.bool b2.never, .lst (List.map encFct b2.l) false], .cells [.bool false, .lst [] true], growM 2 encFct l62, openM 2 encFct l112, growM 2 encFct l301, openM 2 encFct l302, openM 2 encFct l521, .cells [.bool false, .lst [] true]]) rfl (by repeat (first | exact rzz | apply rcc rfl | apply rnn rfl)) rfl ⟨(l521, a522), rfl, rfl, hr⟩
                · rintro ⟨l507, a508⟩ hr
                  show GL _ _ [(0, .gl 7 (List.length l507)), (5, .int .i64 a508)] [.cells [.bool a1.never, .lst (List.map encFct a1.l) false], .cells [.bool b2.never, .lst (List.map encFct b2.l) false], .cells [.bool false, .lst [] true], growM 2 encFct l62, openM 2 encFct l112, growM 2 encFct l301, openM 2 encFct l302, openM 2 encFct l507, .cells [.bool false, .lst [] true]] _
                  replace hr : y2u l507 a508 = some r := hr
                  unfold y2u at hr
                  refine L_seq ?_
                  refine L_stmt ?_
                  refine L_reg ?_
                  refine G_p rfl rfl rfl ?_
                  refine G_p rfl rfl rfl ?_
                  obtain ⟨k509, hk509, hr⟩ := bind_s hr
                  refine G_h rfl rfl rfl (slcT_ev rfl rfl rfl rfl hk509) ?_
                  obtain ⟨l510, hl510, hr⟩ := bind_s hr
                  refine G_hn (H' := [.cells [.bool a1.never, .lst (List.map encFct a1.l) false], .cells [.bool b2.never, .lst (List.map encFct b2.l) false], .cells [.bool false, .lst [] true], growM 2 encFct l62, openM 2 encFct l112, growM 2 encFct l301, openM 2 encFct l302, openM 2 encFct l510, .cells [.bool false, .lst [] true]]) rfl rfl rfl (clrT_ev (z := (Fct.mk 0 0)) encFct_w1 rfl rfl rfl hk509 hl510 (by (try simp only [encFct_eq]); rfl) rfl rfl (fun _ => rfl) rfl) ?_
                  refine G_nil ?_
                  refine L_nil ?_
                  refine Sm_norm (e2 := [(0, .gl 7 (List.length l507)), (5, .int .i64 a508)]) (H1 := [.cells [.bool a1.never, .lst (List.map encFct a1.l) false], .cells [.bool b2.never, .lst (List.map encFct b2.l) false], .cells [.bool false, .lst [] true], growM 2 encFct l62, openM 2 encFct l112, growM 2 encFct l301, openM 2 encFct l302, openM 2 encFct l510, .cells [.bool false, .lst [] true]]) (H2 := [.cells [.bool a1.never, .lst (List.map encFct a1.l) false], .cells [.bool b2.never, .lst (List.map encFct b2.l) false], .cells [.bool false, .lst [] true], growM 2 encFct l62, openM 2 encFct l112, growM 2 encFct l301, openM 2 encFct l302, openM 2 encFct l510, .cells [.bool false, .lst [] true]]) rfl (by repeat (first | exact rzz | apply rcc rfl | apply rnn rfl)) rfl (?_ : GL _ _ _ _ _)
                  refine L_seq ?_
                  refine L_reg ?_
                  refine G_p rfl rfl rfl ?_
                  refine G_p rfl rfl rfl ?_
                  obtain ⟨hNEl511, hr⟩ := guard_s hr
                  obtain ⟨l511, hl511, hr⟩ := bind_s hr
                  refine G_h (H' := [.cells [.bool a1.never, .lst (List.map encFct a1.l) false], .cells [.bool b2.never, .lst (List.map encFct b2.l) false], .cells [.bool false, .lst [] true], growM 2 encFct l62, openM 2 encFct l112, growM 2 encFct l301, openM 2 encFct l302, .dead, .cells [.bool false, .lst [] true], openX 2 encFct l511]) rfl rfl rfl (slcO_ev encFct_w1 (clrL_len hk509 hl510) rfl rfl rfl (neb_s hNEl511) hl511 rfl) ?_
                  refine G_p rfl rfl rfl ?_
                  refine G_nil ?_
                  refine L_ret ?_
                  refine ⟨_, rfl, (?_ : GO _ _ _ ((4, .gl 9 (List.length l511)) :: _) [.cells [.bool a1.never, .lst (List.map encFct a1.l) false], .cells [.bool b2.never, .lst (List.map encFct b2.l) false], .cells [.bool false, .lst [] true], growM 2 encFct l62, openM 2 encFct l112, growM 2 encFct l301, openM 2 encFct l302, .dead, .cells [.bool false, .lst [] true], openX 2 encFct l511] _)⟩
                  refine G_p (v := .agg [.bool false, .gl 9 (List.length l511)]) rfl rfl rfl ?_
                  refine G_hn (H' := [.cells [.bool a1.never, .lst (List.map encFct a1.l) false], .cells [.bool b2.never, .lst (List.map encFct b2.l) false], .cells [.bool false, .lst [] true], growM 2 encFct l62, openM 2 encFct l112, growM 2 encFct l301, openM 2 encFct l302, .dead, .cells [.bool false, .gl 9 (List.length l511)], openX 2 encFct l511]) rfl rfl rfl (fun _ => rfl) ?_
                  refine G_nil ?_
                  refine L_nil ?_
                  refine Sm_norm (e2 := [(2, .ptr 8 0)]) (H1 := [.cells [.bool a1.never, .lst (List.map encFct a1.l) false], .cells [.bool b2.never, .lst (List.map encFct b2.l) false], .cells [.bool false, .lst [] true], growM 2 encFct l62, openM 2 encFct l112, growM 2 encFct l301, openM 2 encFct l302, .dead, .cells [.bool false, .gl 9 (List.length l511)], openX 2 encFct l511]) (H2 := [.cells [.bool a1.never, .lst (List.map encFct a1.l) false], .cells [.bool b2.never, .lst (List.map encFct b2.l) false], .cells [.bool false, .lst [] true], growM 2 encFct l62, openM 2 encFct l112, growM 2 encFct l301, openM 2 encFct l302, .dead, .cells [.bool false, .gl 9 (List.length l511)], openX 2 encFct l511]) rfl (by repeat (first | exact rzz | apply rcc rfl | apply rnn rfl)) rfl (?_ : GL _ _ _ _ _)
                  refine L_seq ?_
                  refine L_shutl (H' := [.cells [.bool a1.never, .lst (List.map encFct a1.l) false], .cells [.bool b2.never, .lst (List.map encFct b2.l) false], .cells [.bool false, .lst [] true], growM 2 encFct l62, openM 2 encFct l112, growM 2 encFct l301, openM 2 encFct l302, .dead, .cells [.bool false, .gl 9 (List.length l511)], growX 2 encFct l511]) (seal_xC rfl rfl rfl rfl rfl rfl) ?_
                  refine L_ret ?_
                  refine ⟨_, rfl, (?_ : GO _ _ _ ((54, .agg [.bool false, .gl 9 (List.length l511)]) :: _) [.cells [.bool a1.never, .lst (List.map encFct a1.l) false], .cells [.bool b2.never, .lst (List.map encFct b2.l) false], .cells [.bool false, .lst [] true], growM 2 encFct l62, openM 2 encFct l112, growM 2 encFct l301, openM 2 encFct l302, .dead, .cells [.bool false, .gl 9 (List.length l511)], growX 2 encFct l511] _)⟩
                  refine G_hn (H' := [.cells [.bool a1.never, .lst (List.map encFct a1.l) false], .cells [.bool b2.never, .lst (List.map encFct b2.l) false], .cells [.bool false, .gl 9 (List.length l511)], growM 2 encFct l62, openM 2 encFct l112, growM 2 encFct l301, openM 2 encFct l302, .dead, .cells [.bool false, .gl 9 (List.length l511)], growX 2 encFct l511]) rfl rfl rfl (fun _ => rfl) ?_
                  refine G_nil ?_
                  refine L_nil ?_
                  refine Sm_norm (e2 := [(4, .ptr 2 0)]) (H1 := [.cells [.bool a1.never, .lst (List.map encFct a1.l) false], .cells [.bool b2.never, .lst (List.map encFct b2.l) false], .cells [.bool false, .gl 9 (List.length l511)], growM 2 encFct l62, openM 2 encFct l112, growM 2 encFct l301, openM 2 encFct l302, .dead, .cells [.bool false, .gl 9 (List.length l511)], growX 2 encFct l511]) (H2 := [.cells [.bool a1.never, .lst (List.map encFct a1.l) false], .cells [.bool b2.never, .lst (List.map encFct b2.l) false], .cells [.bool false, .gl 9 (List.length l511)], growM 2 encFct l62, openM 2 encFct l112, growM 2 encFct l301, openM 2 encFct l302, .dead, .cells [.bool false, .gl 9 (List.length l511)], growX 2 encFct l511]) rfl (by repeat (first | exact rzz | apply rcc rfl | apply rnn rfl)) rfl (?_ : GL _ _ _ _ _)
                  refine L_seq ?_
                  refine L_shutl (H' := [.cells [.bool a1.never, .lst (List.map encFct a1.l) false], .cells [.bool b2.never, .lst (List.map encFct b2.l) false], .cells [.bool false, .gl 9 (List.length l511)], growM 2 encFct l62, openM 2 encFct l112, growM 2 encFct l301, openM 2 encFct l302, .dead, .cells [.bool false, .gl 9 (List.length l511)], growX 2 encFct l511]) rfl ?_
                  refine L_ret ?_
                  have hr := some_s hr
                  subst hr
                  exact ⟨_, rfl, _, (shutR_agg (y26 rfl (y26 (shutR_glX rfl rfl) rfl))), rfl⟩
end Go.Ev.Seat
namespace Go.Ev.Seat
set_option linter.unusedVariables false
set_option linter.unusedSimpArgs false
open Go Go.Ev
def lowN (t : Int) : Nat := (BitVec.ofInt 64 t &&& 255#64).toNat
theorem lowN_lt (t : Int) : lowN t < 256 := by
  unfold lowN
  rw [BitVec.toNat_and]
  exact Nat.lt_of_le_of_lt Nat.and_le_right (by decide)
theorem low_eq (t : Int) : andB .i64 t 255 = ((lowN t : Nat) : Int) := by
  have h := lowN_lt t
  show IntKind.i64.wrap (((BitVec.ofInt 64 t &&& BitVec.ofInt 64 255).toNat : Nat) : Int) = _
  have : (BitVec.ofInt 64 t &&& BitVec.ofInt 64 255).toNat = lowN t := rfl
  rw [this, wI (by omega) (by omega)]
theorem ofInt_nat {x : Nat} (h : x < 256) : (BitVec.ofInt 64 (x : Int)).toNat = x := by
  rw [BitVec.toNat_ofInt]; omega
theorem and_nat {x y : Nat} (hx : x < 256) (hy : y < 256) : andB .i64 (x : Int) (y : Int) = ((x &&& y : Nat) : Int) := by
  have : x &&& y < 256 := Nat.lt_of_le_of_lt Nat.and_le_left hx
  show IntKind.i64.wrap (((BitVec.ofInt 64 (x : Int) &&& BitVec.ofInt 64 (y : Int)).toNat : Nat) : Int) = _
  rw [BitVec.toNat_and, ofInt_nat hx, ofInt_nat hy, wI (by omega) (by omega)]
theorem or_nat {x y : Nat} (hx : x < 256) (hy : y < 256) : orB .i64 (x : Int) (y : Int) = ((x ||| y : Nat) : Int) := by
  have : x ||| y < 256 := Nat.or_lt_two_pow (n := 8) hx hy
  show IntKind.i64.wrap (((BitVec.ofInt 64 (x : Int) ||| BitVec.ofInt 64 (y : Int)).toNat : Nat) : Int) = _
  rw [BitVec.toNat_or, ofInt_nat hx, ofInt_nat hy, wI (by omega) (by omega)]
def tgN : List Fct → Int → Nat
  | [], _ => 255
  | f :: l, v => if f.var = v then lowN f.tags &&& tgN l v else tgN l v
theorem tgN_lt : ∀ (l : List Fct) (v : Int), tgN l v < 256
  | [], _ => by simp [tgN]
  | f :: l, v => by
    unfold tgN; split
    · exact Nat.lt_of_le_of_lt Nat.and_le_left (lowN_lt _)
    · exact tgN_lt l v
theorem and255 {x : Nat} (h : x < 256) : x &&& 255 = x := by
  have : x &&& (2 ^ 8 - 1) = x % 2 ^ 8 := Nat.and_two_pow_sub_one_eq_mod x 8
  rw [show 255 = 2 ^ 8 - 1 by decide, this]; exact Nat.mod_eq_of_lt h
theorem tgN_app : ∀ (l m : List Fct) (v : Int), tgN (l ++ m) v = tgN l v &&& tgN m v
  | [], m, v => by show tgN m v = 255 &&& tgN m v; rw [Nat.and_comm, and255 (tgN_lt m v)]
  | f :: l, m, v => by
    show (if f.var = v then lowN f.tags &&& tgN (l ++ m) v else tgN (l ++ m) v) = (if f.var = v then lowN f.tags &&& tgN l v else tgN l v) &&& tgN m v
    rw [tgN_app l m v]; split
    · rw [Nat.and_assoc]
    · rfl
theorem tgN_none : ∀ {l : List Fct} {v : Int}, v ∉ l.map (·.var) → tgN l v = 255
  | [], _, _ => rfl
  | f :: l, v, h => by
    simp only [List.map_cons, List.mem_cons, not_or] at h
    unfold tgN; rw [if_neg (fun e => h.1 e.symm)]; exact tgN_none h.2
theorem tgN_perm {l m : List Fct} (h : l.Perm m) (v : Int) : tgN l v = tgN m v := by
  induction h with
  | nil => rfl
  | cons x _ ih => unfold tgN; rw [ih]
  | swap x y l =>
    simp only [tgN]
    split <;> split <;> first | rfl | (rw [← Nat.and_assoc, ← Nat.and_assoc, Nat.and_comm (lowN y.tags)])
  | trans _ _ h1 h2 => rw [h1, h2]
def insV (v : Int) : List Int → List Int
  | [] => [v]
  | w :: l => if v < w then v :: w :: l else if v = w then w :: l else w :: insV v l
def vsF : List Fct → List Int
  | [] => []
  | f :: l => insV f.var (vsF l)
abbrev Ris (l : List Int) : Prop := l.Pairwise fun x y => x < y
theorem insV_mem (v : Int) : ∀ (l : List Int) (x : Int), x ∈ insV v l ↔ x = v ∨ x ∈ l
  | [], x => by simp [insV]
  | w :: l, x => by
    unfold insV
    split
    · simp
    · split
      · rename_i h; subst h; simp
      · simp only [List.mem_cons, insV_mem v l x]
        constructor
        · rintro (h | h | h) <;> simp [h]
        · rintro (h | h | h) <;> simp [h]
theorem insV_ris (v : Int) : ∀ {l : List Int}, Ris l → Ris (insV v l)
  | [], _ => List.pairwise_singleton _ _
  | w :: l, h => by
    obtain ⟨h1, h2⟩ := List.pairwise_cons.1 h
    unfold insV
    split
    · rename_i hv
      refine List.pairwise_cons.2 ⟨fun y hy => ?_, h⟩
      rcases List.mem_cons.1 hy with rfl | hy
      · exact hv
      · exact Int.lt_trans hv (h1 y hy)
    · split
      · exact h
      · rename_i hv hv2
        refine List.pairwise_cons.2 ⟨fun y hy => ?_, insV_ris v h2⟩
        rcases (insV_mem v l y).1 hy with rfl | hy
        · omega
        · exact h1 y hy
theorem vsF_mem : ∀ (l : List Fct) (x : Int), x ∈ vsF l ↔ x ∈ l.map (·.var)
  | [], x => by simp [vsF]
  | f :: l, x => by rw [vsF, insV_mem, vsF_mem l x, List.map_cons, List.mem_cons]
theorem vsF_ris : ∀ l : List Fct, Ris (vsF l)
  | [] => List.Pairwise.nil
  | f :: l => insV_ris _ (vsF_ris l)
theorem ris_eq : ∀ {a b : List Int}, Ris a → Ris b → (∀ v, v ∈ a ↔ v ∈ b) → a = b
  | [], [], _, _, _ => rfl
  | [], y :: b, _, _, h => absurd ((h y).2 (by simp)) (by simp)
  | x :: a, [], _, _, h => absurd ((h x).1 (by simp)) (by simp)
  | x :: a, y :: b, h1, h2, h => by
    obtain ⟨a1, a2⟩ := List.pairwise_cons.1 h1
    obtain ⟨b1, b2⟩ := List.pairwise_cons.1 h2
    have hxy : x = y := by
      rcases List.mem_cons.1 ((h x).1 (by simp)) with e | e
      · exact e
      · rcases List.mem_cons.1 ((h y).2 (by simp)) with e2 | e2
        · exact e2.symm
        · have := a1 y e2; have := b1 x e; omega
    subst hxy
    rw [ris_eq a2 b2 fun v => ?_]
    constructor
    · intro hv
      rcases List.mem_cons.1 ((h v).1 (by simp [hv])) with e | e
      · have := a1 v hv; omega
      · exact e
    · intro hv
      rcases List.mem_cons.1 ((h v).2 (by simp [hv])) with e | e
      · have := b1 v hv; omega
      · exact e
theorem insV_len (v : Int) : ∀ l : List Int, (insV v l).length ≤ l.length + 1
  | [] => by simp [insV]
  | w :: l => by
    unfold insV
    split
    · simp
    · split
      · simp
      · have := insV_len v l; simp only [List.length_cons]; omega
theorem vsF_len : ∀ l : List Fct, (vsF l).length ≤ l.length
  | [] => by simp [vsF]
  | f :: l => by have := insV_len f.var (vsF l); have := vsF_len l; simp only [vsF, List.length_cons]; omega
def canF (l : List Fct) : List Fct := (vsF l).map fun v => ⟨v, ((tgN l v : Nat) : Int)⟩
def sayF (l : List Fct) : List Fct := l.filter fun f => !decide (f.tags = 255)
def stepT (acc : List Fct) (f : Fct) : List Fct := match acc.getLast? with
  | some e => if e.var = f.var then acc.dropLast ++ [⟨e.var, andB .i64 e.tags (andB .i64 f.tags 255)⟩] else acc ++ [⟨f.var, andB .i64 f.tags 255⟩]
  | none => acc ++ [⟨f.var, andB .i64 f.tags 255⟩]
theorem step_ok {β : Type} (acc : List Fct) (f : Fct) (K : List Fct → Option β) (hl : acc.length < 10000000000) :
    (((cond (decide (0 < ((List.length acc : Nat) : Int))) (((idx acc (IntKind.wrap .i64 (((List.length acc : Nat) : Int) - 1))).bind fun e285 => some (decide (e285.var = f.var)))) (some false)).bind fun v286 => (cond v286 ((idx acc (IntKind.wrap .i64 (((List.length acc : Nat) : Int) - 1))).bind fun e287 => ((idx acc (IntKind.wrap .i64 (((List.length acc : Nat) : Int) - 1))).bind fun e288 => ((setL acc (IntKind.wrap .i64 (((List.length acc : Nat) : Int) - 1)) (Fct.mk e288.var (andB .i64 e287.tags (andB .i64 f.tags 255)))).bind fun l289 => K l289))) ((catL acc [(Fct.mk f.var (andB .i64 f.tags 255))]).bind fun l290 => K l290)))) = K (stepT acc f) := by
  rcases List.eq_nil_or_concat acc with rfl | ⟨A, e, rfl⟩
  · simp only [List.length_nil, stepT, List.getLast?_nil, List.nil_append]
    rw [show decide (0 < ((0 : Nat) : Int)) = false by decide, cond_false, Option.bind_some, cond_false, catL_of (by simp), Option.bind_some]; simp
  · simp only [List.concat_eq_append] at hl ⊢
    simp only [List.length_append, List.length_cons, List.length_nil] at hl
    have e0 : decide (0 < ((List.length (A ++ [e]) : Nat) : Int)) = true := by simp <;> omega
    have e1 : IntKind.wrap .i64 (((List.length (A ++ [e]) : Nat) : Int) - 1) = ((A.length : Nat) : Int) := by rw [wI (by simp <;> omega) (by simp <;> omega)]; simp
    rw [e0, cond_true, e1, idx_at (A := A) (B := []) (x := e) rfl rfl, Option.bind_some, Option.bind_some]
    by_cases hc : e.var = f.var
    · rw [decide_eq_true hc, cond_true, Option.bind_some, Option.bind_some, setL_at (A := A) (B := []) (x := e) rfl rfl, Option.bind_some]
      simp [stepT, hc]
    · rw [decide_eq_false hc, cond_false, catL_of (by simp; omega), Option.bind_some]
      simp [stepT, hc]
theorem stepT_len (acc : List Fct) (f : Fct) : (stepT acc f).length ≤ acc.length + 1 := by
  rcases List.eq_nil_or_concat acc with rfl | ⟨A, e, rfl⟩
  · simp [stepT]
  · simp only [List.concat_eq_append, stepT, List.getLast?_append, List.getLast?_singleton, Option.some_or]
    split <;> simp
structure CanOf (P acc : List Fct) : Prop where
  ris : Ris (acc.map (·.var))
  mem : ∀ v, v ∈ acc.map (·.var) ↔ v ∈ P.map (·.var)
  tag : ∀ f, f ∈ acc → f.tags = ((tgN P f.var : Nat) : Int)
theorem y8k {P acc : List Fct} {f : Fct} (h : CanOf P acc) (hs : ∀ x, x ∈ P → x.var ≤ f.var) : CanOf (P ++ [f]) (stepT acc f) := by
  have tg1 : ∀ v, tgN (P ++ [f]) v = tgN P v &&& (if f.var = v then lowN f.tags else 255) := by
    intro v
    rw [tgN_app]
    congr 1
    simp only [tgN]
    split
    · exact and255 (lowN_lt _)
    · rfl
  have app : f.var ∉ P.map (·.var) → CanOf (P ++ [f]) (acc ++ [⟨f.var, andB .i64 f.tags 255⟩]) := by
    intro hn
    refine ⟨?_, ?_, ?_⟩
    · rw [List.map_append]
      refine List.pairwise_append.2 ⟨h.ris, List.pairwise_singleton _ _, fun u hu w hw => ?_⟩
      have hw : w = f.var := by simpa using hw
      subst hw
      have hu' := (h.mem u).1 hu
      obtain ⟨x, hx, rfl⟩ := List.mem_map.1 hu'
      have := hs x hx
      have : x.var ≠ f.var := fun e => hn (by rw [← e]; exact hu')
      omega
    · intro v
      rw [List.map_append, List.map_append, List.mem_append, List.mem_append, h.mem v]; simp
    · intro g hg
      rcases List.mem_append.1 hg with hg | hg
      · have : f.var ≠ g.var := fun e => hn ((h.mem _).1 (by rw [e]; exact List.mem_map.2 ⟨g, hg, rfl⟩))
        rw [tg1, if_neg this, and255 (tgN_lt _ _)]; exact h.tag g hg
      · obtain rfl := List.mem_singleton.1 hg
        show andB .i64 f.tags 255 = _
        rw [tg1, if_pos rfl, tgN_none hn, Nat.and_comm, and255 (lowN_lt _), low_eq]
  rcases List.eq_nil_or_concat acc with rfl | ⟨A, e, rfl⟩
  · have := app (fun hn => by have := (h.mem f.var).2 hn; simp at this)
    simpa [stepT] using this
  · simp only [List.concat_eq_append] at h app ⊢
    by_cases hc : e.var = f.var
    · have e1 : stepT (A ++ [e]) f = A ++ [⟨e.var, andB .i64 e.tags (andB .i64 f.tags 255)⟩] := by simp [stepT, hc]
      rw [e1]
      have hev : e.var ∈ P.map (·.var) := (h.mem _).1 (by simp)
      refine ⟨?_, ?_, ?_⟩
      · have := h.ris; simpa using this
      · intro v
        have := h.mem v
        simp only [List.map_append, List.map_cons, List.map_nil, List.mem_append, List.mem_singleton] at this ⊢
        rw [this]
        constructor
        · exact fun x => .inl x
        · rintro (x | x)
          · exact x
          · rw [x, ← hc]; exact hev
      · intro g hg
        rcases List.mem_append.1 hg with hg | hg
        · have hlt : g.var < e.var := by
            have := h.ris
            rw [List.map_append] at this
            exact (List.pairwise_append.1 this).2.2 g.var (List.mem_map.2 ⟨g, hg, rfl⟩) e.var (by simp)
          rw [tg1, if_neg (by omega), and255 (tgN_lt _ _)]; exact h.tag g (by simp [hg])
        · obtain rfl := List.mem_singleton.1 hg
          show andB .i64 e.tags (andB .i64 f.tags 255) = ((tgN (P ++ [f]) e.var : Nat) : Int)
          rw [tg1, if_pos hc.symm, h.tag e (by simp), low_eq, and_nat (tgN_lt _ _) (lowN_lt _)]
    · have e1 : stepT (A ++ [e]) f = (A ++ [e]) ++ [⟨f.var, andB .i64 f.tags 255⟩] := by simp [stepT, hc]
      rw [e1]
      refine app fun hn => ?_
      have h1 := (h.mem _).2 hn
      rw [List.map_append] at h1
      rcases List.mem_append.1 h1 with h2 | h2
      · have h3 : f.var < e.var := by
          have := h.ris
          rw [List.map_append] at this
          exact (List.pairwise_append.1 this).2.2 f.var h2 e.var (by simp)
        have hev : e.var ∈ P.map (·.var) := (h.mem _).1 (by simp)
        obtain ⟨x, hx, hxe⟩ := List.mem_map.1 hev
        have := hs x hx
        omega
      · exact hc (List.mem_singleton.1 h2).symm
theorem y77 : ∀ (s P acc : List Fct), CanOf P acc → Srt (P ++ s) → CanOf (P ++ s) (s.foldl stepT acc)
  | [], P, acc, h, _ => by simpa using h
  | f :: s, P, acc, h, hs => by
    have h1 := y8k h (f := f) (fun x hx => (List.pairwise_append.1 hs).2.2 x hx f (by simp))
    have := y77 s (P ++ [f]) (stepT acc f) h1 (by simpa using hs)
    simpa using this
theorem canF_of {m s : List Fct} (hp : s.Perm m) (hs : Srt s) : s.foldl stepT [] = canF m := by
  have h := y77 s [] [] ⟨List.Pairwise.nil, fun v => Iff.rfl, fun f hf => by simp at hf⟩ (by simpa using hs)
  simp only [List.nil_append] at h
  have e1 : (s.foldl stepT []).map (·.var) = vsF m := ris_eq h.ris (vsF_ris m) fun v => by
    rw [h.mem v, vsF_mem]; exact (hp.map _).mem_iff
  have e2 : s.foldl stepT [] = ((s.foldl stepT []).map (·.var)).map fun v => ⟨v, ((tgN m v : Nat) : Int)⟩ := by
    rw [List.map_map]
    conv => lhs; rw [← List.map_id (s.foldl stepT [])]
    apply List.map_congr_left
    intro f hf
    have := h.tag f hf
    rw [tgN_perm hp] at this
    show f = (⟨f.var, ((tgN m f.var : Nat) : Int)⟩ : Fct)
    rw [← this]
  rw [e2, e1]; rfl
theorem y67 (n : Nat) (s : List Fct) : ∀ (rest : List Fct) (i : Nat) (acc : List Fct), rest.length + i = s.length → acc.length + rest.length < 10000000000 →
    y0z n  s rest i acc = y1r n  ((s.drop i).foldl stepT acc)
  | [], i, acc, h1, h2 => by
    rw [y0z, List.drop_eq_nil_of_le (by simp at h1; omega)]; rfl
  | q :: rest, i, acc, h1, h2 => by
    simp only [List.length_cons] at h1 h2
    have hi : i < s.length := by omega
    have hl := stepT_len acc s[i]
    have ih := y67 n  s rest (i + 1) (stepT acc s[i]) (by omega) (by omega)
    rw [y0z, idx_nat, List.getElem?_eq_getElem hi, Option.bind_some]
    refine (step_ok acc s[i] (fun l => y1y (y0z n  s rest (i + 1)) l) (by omega)).trans ?_
    rw [List.drop_eq_getElem_cons hi, List.foldl_cons, ← ih]; rfl
theorem del_And (kept : List Fct) : ∀ (rest junk : List Fct) (n : Nat), junk ≠ [] → rest.length < n → (kept ++ junk ++ rest).length < 10000000000 → ∀ kept2, kept2 = kept →
    y19 n (kept ++ junk ++ rest) (kept.length : Nat) ((kept.length + junk.length : Nat) : Int) = some (Fts.mk false (kept ++ sayF rest)) := by
  intro rest
  induction rest generalizing kept with
  | nil =>
    intro junk n hj hn hb _ _
    obtain ⟨n, rfl⟩ : ∃ m, n = m + 1 := ⟨n - 1, by omega⟩
    have hjl : 0 < junk.length := List.length_pos_iff.2 hj
    simp only [List.append_nil, List.length_append] at hb ⊢
    rw [y19]
    have e1 : decide (((kept.length + junk.length : Nat) : Int) < ((List.length (kept ++ junk) : Nat) : Int)) = false := by simp
    have ht : tailL (kept ++ junk) ((kept.length : Nat) : Int) = some kept.length := by unfold tailL; rw [if_pos ⟨by omega, by simp; omega⟩]; simp
    have hc : clrL (kept ++ junk) kept.length (Fct.mk 0 0) = some (kept ++ List.replicate junk.length (Fct.mk 0 0)) := by
      unfold clrL; rw [List.take_left]; congr 3; simp
    have hne : (!List.isEmpty (kept ++ List.replicate junk.length (Fct.mk 0 0))) = true := by
      cases kept with
      | nil => cases hq : junk.length with
        | zero => omega
        | succ k => simp [List.replicate_succ]
      | cons a b => simp
    have hs : subL (kept ++ List.replicate junk.length (Fct.mk 0 0)) 0 ((kept.length : Nat) : Int) = some kept := by
      unfold subL; rw [if_pos ⟨by omega, by omega, by simp; omega⟩]; simp
    rw [e1, cond_false, y2n, ht, Option.bind_some, hc, Option.bind_some, hne, cond_true, hs, Option.bind_some]; simp [sayF]
  | cons e rest ih =>
    intro junk n hj hn hb _ _
    obtain ⟨n, rfl⟩ : ∃ m, n = m + 1 := ⟨n - 1, by omega⟩
    simp only [List.length_append, List.length_cons] at hb hn
    have hjl : 0 < junk.length := List.length_pos_iff.2 hj
    rw [y19]
    have e1 : decide (((kept.length + junk.length : Nat) : Int) < ((List.length (kept ++ junk ++ e :: rest) : Nat) : Int)) = true := by simp; omega
    have i1 : idx (kept ++ junk ++ e :: rest) ((kept.length + junk.length : Nat) : Int) = some e := idx_at (A := kept ++ junk) (B := rest) rfl (by simp)
    have w1 : IntKind.i64.wrap (((kept.length + junk.length : Nat) : Int) + 1) = ((kept.length + junk.length + 1 : Nat) : Int) := by rw [wI (by omega) (by omega)]; omega
    have w2 : IntKind.i64.wrap (((kept.length : Nat) : Int) + 1) = ((kept.length + 1 : Nat) : Int) := by rw [wI (by omega) (by omega)]; omega
    rw [e1, cond_true, i1, Option.bind_some, y1a, Option.bind_some, w1, w2]
    by_cases hc : e.tags = 255
    · rw [decide_eq_true hc, Bool.not_true, cond_false]
      have h := ih kept (junk ++ [e]) n (by simp) (by omega) (by simp; omega) kept rfl
      have e2 : (kept.length + (junk ++ [e]).length : Nat) = kept.length + junk.length + 1 := by simp; omega
      rw [e2] at h
      have e3 : sayF (e :: rest) = sayF rest := by simp [sayF, hc]
      rw [e3, ← h]; simp
    · rw [decide_eq_false hc, Bool.not_false, cond_true]
      cases junk with
      | nil => simp at hjl
      | cons x junk =>
        rw [idx_at (A := kept) (B := junk ++ e :: rest) (x := x) (by simp) rfl, Option.bind_some]
        rw [setL_at (A := kept) (B := junk ++ e :: rest) (x := x) (by simp) rfl, Option.bind_some]
        have h := ih (kept ++ [e]) (junk ++ [e]) n (by simp) (by omega) (by simp at hb; simp; omega) _ rfl
        have e2 : ((kept ++ [e]).length + (junk ++ [e]).length : Nat) = kept.length + (x :: junk).length + 1 := by simp; omega
        have e3 : sayF (e :: rest) = e :: sayF rest := by simp [sayF, hc]
        have e4 : ((kept ++ [e]).length : Nat) = kept.length + 1 := by simp
        rw [e2, e4] at h
        rw [e3]
        have h5 : kept ++ [e] ++ (junk ++ [e]) ++ rest = kept ++ e :: (junk ++ e :: rest) := by simp
        rw [h5] at h
        rw [h]; simp
theorem say_And (n : Nat) (l : List Fct) (hn : l.length < n) (hb : l.length < 10000000000) : ∀ (rest P : List Fct), l = P ++ rest → sayF P = P → y18 n l rest P.length = some (Fts.mk false (sayF l))
  | [], P, h, hp => by
    have : P = l := by simpa using h.symm
    subst this
    rw [y18, y2p, y1q, hp]; simp
  | e :: rest, P, h, hp => by
    subst h
    simp only [List.length_append, List.length_cons] at hn hb
    rw [y18, idx_at (A := P) (B := rest) rfl rfl, Option.bind_some, y1a, Option.bind_some]
    have hsp : sayF (P ++ e :: rest) = P ++ sayF (e :: rest) := by
      have : sayF (P ++ e :: rest) = sayF P ++ sayF (e :: rest) := by simp [sayF]
      rw [this, hp]
    by_cases hc : e.tags = 255
    · rw [decide_eq_true hc, cond_true, y1q]
      have e1 : decide (((P.length : Nat) : Int) = -1) = false := by simp <;> omega
      have w1 : IntKind.i64.wrap (((P.length : Nat) : Int) + 1) = ((P.length + [e].length : Nat) : Int) := by rw [wI (by omega) (by omega)]; simp
      have h := del_And P rest [e] n (by simp) (by omega) (by simp; omega) P rfl
      have e3 : sayF (e :: rest) = sayF rest := by simp [sayF, hc]
      rw [e1, cond_false, w1, hsp, e3, ← h]; simp
    · rw [decide_eq_false hc, cond_false]
      have e3 : sayF [e] = [e] := by simp [sayF, hc]
      have h := say_And n (P ++ e :: rest) (by simp; omega) (by simp; omega) rest (P ++ [e]) (by simp) (by
        have : sayF (P ++ [e]) = sayF P ++ sayF [e] := by simp [sayF]
        rw [this, hp, e3])
      have e4 : ((P ++ [e]).length : Nat) = P.length + 1 := by simp
      rw [e4] at h
      exact h
theorem said_And (n : Nat) (l : List Fct) (hn : l.length < n) (hb : l.length < 10000000000) : y1r n  l = some (Fts.mk false (sayF l)) := by
  rw [y1r, okLen_of (by omega), cond_true]
  exact say_And n l hn hb l [] rfl rfl
theorem y6g (n : Nat) (a b : Fts) (s : List Fct) : ∀ (rest : List Fct) (i : Nat) (acc : List Fct), rest.length + i = s.length → acc.length + rest.length < 10000000000 →
    y10 n a b s rest i acc = y21 n a b s ((s.drop i).foldl stepT acc)
  | [], i, acc, h1, h2 => by
    rw [y10, List.drop_eq_nil_of_le (by simp at h1; omega)]; rfl
  | q :: rest, i, acc, h1, h2 => by
    simp only [List.length_cons] at h1 h2
    have hi : i < s.length := by omega
    have hl := stepT_len acc s[i]
    have ih := y6g n a b s rest (i + 1) (stepT acc s[i]) (by omega) (by omega)
    rw [y10, idx_nat, List.getElem?_eq_getElem hi, Option.bind_some]
    refine (step_ok acc s[i] (fun l => y20 (y10 n a b s rest (i + 1)) l) (by omega)).trans ?_
    rw [List.drop_eq_getElem_cons hi, List.foldl_cons, ← ih]; rfl
theorem y6l (n : Nat) (a b : Fts) (u w : List Fct) (s : List Fct) : ∀ (rest : List Fct) (i : Nat) (acc : List Fct), rest.length + i = s.length → acc.length + rest.length < 10000000000 →
    y0x n a b u w s rest i acc = y1z n a b u w s ((s.drop i).foldl stepT acc)
  | [], i, acc, h1, h2 => by
    rw [y0x, List.drop_eq_nil_of_le (by simp at h1; omega)]; rfl
  | q :: rest, i, acc, h1, h2 => by
    simp only [List.length_cons] at h1 h2
    have hi : i < s.length := by omega
    have hl := stepT_len acc s[i]
    have ih := y6l n a b u w s rest (i + 1) (stepT acc s[i]) (by omega) (by omega)
    rw [y0x, idx_nat, List.getElem?_eq_getElem hi, Option.bind_some]
    refine (step_ok acc s[i] (fun l => y23 (y0x n a b u w s rest (i + 1)) l) (by omega)).trans ?_
    rw [List.drop_eq_getElem_cons hi, List.foldl_cons, ← ih]; rfl
theorem del_Or (kept : List Fct) : ∀ (rest junk : List Fct) (n : Nat), junk ≠ [] → rest.length < n → (kept ++ junk ++ rest).length < 10000000000 → ∀ kept2, kept2 = kept →
    y1h n (kept ++ junk ++ rest) (kept.length : Nat) ((kept.length + junk.length : Nat) : Int) = some (Fts.mk false (kept ++ sayF rest)) := by
  intro rest
  induction rest generalizing kept with
  | nil =>
    intro junk n hj hn hb _ _
    obtain ⟨n, rfl⟩ : ∃ m, n = m + 1 := ⟨n - 1, by omega⟩
    have hjl : 0 < junk.length := List.length_pos_iff.2 hj
    simp only [List.append_nil, List.length_append] at hb ⊢
    rw [y1h]
    have e1 : decide (((kept.length + junk.length : Nat) : Int) < ((List.length (kept ++ junk) : Nat) : Int)) = false := by simp
    have ht : tailL (kept ++ junk) ((kept.length : Nat) : Int) = some kept.length := by unfold tailL; rw [if_pos ⟨by omega, by simp; omega⟩]; simp
    have hc : clrL (kept ++ junk) kept.length (Fct.mk 0 0) = some (kept ++ List.replicate junk.length (Fct.mk 0 0)) := by
      unfold clrL; rw [List.take_left]; congr 3; simp
    have hne : (!List.isEmpty (kept ++ List.replicate junk.length (Fct.mk 0 0))) = true := by
      cases kept with
      | nil => cases hq : junk.length with
        | zero => omega
        | succ k => simp [List.replicate_succ]
      | cons a b => simp
    have hs : subL (kept ++ List.replicate junk.length (Fct.mk 0 0)) 0 ((kept.length : Nat) : Int) = some kept := by
      unfold subL; rw [if_pos ⟨by omega, by omega, by simp; omega⟩]; simp
    rw [e1, cond_false, y2u, ht, Option.bind_some, hc, Option.bind_some, hne, cond_true, hs, Option.bind_some]; simp [sayF]
  | cons e rest ih =>
    intro junk n hj hn hb _ _
    obtain ⟨n, rfl⟩ : ∃ m, n = m + 1 := ⟨n - 1, by omega⟩
    simp only [List.length_append, List.length_cons] at hb hn
    have hjl : 0 < junk.length := List.length_pos_iff.2 hj
    rw [y1h]
    have e1 : decide (((kept.length + junk.length : Nat) : Int) < ((List.length (kept ++ junk ++ e :: rest) : Nat) : Int)) = true := by simp; omega
    have i1 : idx (kept ++ junk ++ e :: rest) ((kept.length + junk.length : Nat) : Int) = some e := idx_at (A := kept ++ junk) (B := rest) rfl (by simp)
    have w1 : IntKind.i64.wrap (((kept.length + junk.length : Nat) : Int) + 1) = ((kept.length + junk.length + 1 : Nat) : Int) := by rw [wI (by omega) (by omega)]; omega
    have w2 : IntKind.i64.wrap (((kept.length : Nat) : Int) + 1) = ((kept.length + 1 : Nat) : Int) := by rw [wI (by omega) (by omega)]; omega
    rw [e1, cond_true, i1, Option.bind_some, y1a, Option.bind_some, w1, w2]
    by_cases hc : e.tags = 255
    · rw [decide_eq_true hc, Bool.not_true, cond_false]
      have h := ih kept (junk ++ [e]) n (by simp) (by omega) (by simp; omega) kept rfl
      have e2 : (kept.length + (junk ++ [e]).length : Nat) = kept.length + junk.length + 1 := by simp; omega
      rw [e2] at h
      have e3 : sayF (e :: rest) = sayF rest := by simp [sayF, hc]
      rw [e3, ← h]; simp
    · rw [decide_eq_false hc, Bool.not_false, cond_true]
      cases junk with
      | nil => simp at hjl
      | cons x junk =>
        rw [idx_at (A := kept) (B := junk ++ e :: rest) (x := x) (by simp) rfl, Option.bind_some]
        rw [setL_at (A := kept) (B := junk ++ e :: rest) (x := x) (by simp) rfl, Option.bind_some]
        have h := ih (kept ++ [e]) (junk ++ [e]) n (by simp) (by omega) (by simp at hb; simp; omega) _ rfl
        have e2 : ((kept ++ [e]).length + (junk ++ [e]).length : Nat) = kept.length + (x :: junk).length + 1 := by simp; omega
        have e3 : sayF (e :: rest) = e :: sayF rest := by simp [sayF, hc]
        have e4 : ((kept ++ [e]).length : Nat) = kept.length + 1 := by simp
        rw [e2, e4] at h
        rw [e3]
        have h5 : kept ++ [e] ++ (junk ++ [e]) ++ rest = kept ++ e :: (junk ++ e :: rest) := by simp
        rw [h5] at h
        rw [h]; simp
theorem say_Or (n : Nat) (l : List Fct) (hn : l.length < n) (hb : l.length < 10000000000) : ∀ (rest P : List Fct), l = P ++ rest → sayF P = P → y1g n l rest P.length = some (Fts.mk false (sayF l))
  | [], P, h, hp => by
    have : P = l := by simpa using h.symm
    subst this
    rw [y1g, y30, y1u, hp]; simp
  | e :: rest, P, h, hp => by
    subst h
    simp only [List.length_append, List.length_cons] at hn hb
    rw [y1g, idx_at (A := P) (B := rest) rfl rfl, Option.bind_some, y1a, Option.bind_some]
    have hsp : sayF (P ++ e :: rest) = P ++ sayF (e :: rest) := by
      have : sayF (P ++ e :: rest) = sayF P ++ sayF (e :: rest) := by simp [sayF]
      rw [this, hp]
    by_cases hc : e.tags = 255
    · rw [decide_eq_true hc, cond_true, y1u]
      have e1 : decide (((P.length : Nat) : Int) = -1) = false := by simp <;> omega
      have w1 : IntKind.i64.wrap (((P.length : Nat) : Int) + 1) = ((P.length + [e].length : Nat) : Int) := by rw [wI (by omega) (by omega)]; simp
      have h := del_Or P rest [e] n (by simp) (by omega) (by simp; omega) P rfl
      have e3 : sayF (e :: rest) = sayF rest := by simp [sayF, hc]
      rw [e1, cond_false, w1, hsp, e3, ← h]; simp
    · rw [decide_eq_false hc, cond_false]
      have e3 : sayF [e] = [e] := by simp [sayF, hc]
      have h := say_Or n (P ++ e :: rest) (by simp; omega) (by simp; omega) rest (P ++ [e]) (by simp) (by
        have : sayF (P ++ [e]) = sayF P ++ sayF [e] := by simp [sayF]
        rw [this, hp, e3])
      have e4 : ((P ++ [e]).length : Nat) = P.length + 1 := by simp
      rw [e4] at h
      exact h
theorem said_Or (n : Nat) (u w : List Fct) (l : List Fct) (hn : l.length < n) (hb : l.length < 10000000000) : y1t n u w l = some (Fts.mk false (sayF l)) := by
  rw [y1t, okLen_of (by omega), cond_true]
  exact say_Or n l hn hb l [] rfl rfl
def andF (a b : Fts) : Fts := if a.never || b.never then ⟨true, []⟩ else ⟨false, sayF (canF (a.l ++ b.l))⟩
def orF (a b : Fts) : Fts := if a.never then andF b ⟨false, []⟩ else if b.never then andF a ⟨false, []⟩ else
  ⟨false, sayF (((vsF a.l).filter fun v => decide (v ∈ vsF b.l)).map fun v => ⟨v, ((tgN a.l v ||| tgN b.l v : Nat) : Int)⟩)⟩
theorem canF_len (l : List Fct) : (canF l).length ≤ l.length := by rw [canF, List.length_map]; exact vsF_len l
theorem and_p (a b : Fts) (n : Nat) (h : a.l.length + b.l.length ≤ 1000000) (hn : a.l.length + b.l.length + 10 < n) : y2y n a b = some (andF a b) := by
  unfold y2y andF
  cases hv : (a.never || b.never) with
  | true => simp
  | false =>
    rw [cond_false, if_neg (by simp)]
    have hc : oConcat [a.l, b.l] = some (a.l ++ b.l) := by show (if a.l.length + b.l.length ≤ 1000000 then some (a.l ++ b.l) else none) = _; rw [if_pos h]
    have hl : (a.l ++ b.l).length = a.l.length + b.l.length := List.length_append
    rw [hc, Option.bind_some, okLen_of (by omega), cond_true]
    obtain ⟨s, s1, s2, s3⟩ := sort_ok (a.l ++ b.l) n (by omega) (by omega)
    have hsl : s.length = (a.l ++ b.l).length := s2.length_eq
    have ht := y67 n s (a.l ++ b.l) 0 [] (by omega) (by simp; omega)
    have hcl := canF_len (a.l ++ b.l)
    rw [y2q, callG_of s1 hsl, Option.bind_some, okLen_of (by omega), cond_true, ht, List.drop_zero, canF_of s2 s3, said_And n _ (by omega) (by omega)]
theorem find_or {a b : Fts} {l62 l636 l686 l713 : List Fct} {e : Fct} {K : List Fct → Option Fts} (tb : List Fct) (hb : tb.length < 10000000000) (hc : l713.length < 10000000000) : ∀ (rest P : List Fct), tb = P ++ rest → (∀ x, x ∈ P → x.var ≠ e.var) →
    y17 a b l62 tb l636 l686 l713 e K rest P.length = K (l713 ++ (match rest.find? fun g => decide (g.var = e.var) with
      | some g => [⟨e.var, orB .i64 e.tags g.tags⟩]
      | none => []))
  | [], P, h, hp => by
    rw [y17, y2l, y1v, y1w]; simp
  | g :: rest, P, h, hp => by
    subst h
    rw [y17, idx_at (A := P) (B := rest) rfl rfl, Option.bind_some, y24, Option.bind_some]
    by_cases hg : g.var = e.var
    · have e0 : decide (0 ≤ ((P.length : Nat) : Int)) = true := by simp
      rw [decide_eq_true hg, cond_true, y1v, e0, cond_true, idx_at (A := P) (B := rest) rfl rfl, Option.bind_some, catL_of (by simp; omega), Option.bind_some, y1w]
      simp [hg]
    · rw [decide_eq_false hg, cond_false]
      have := find_or (a := a) (b := b) (l62 := l62) (l636 := l636) (l686 := l686) (l713 := l713) (e := e) (K := K) (P ++ g :: rest) hb hc rest (P ++ [g]) (by simp) (by
        intro x hx
        rcases List.mem_append.1 hx with hx | hx
        · exact hp x hx
        · rw [List.mem_singleton.1 hx]; exact hg)
      have e4 : ((P ++ [g]).length : Nat) = P.length + 1 := by simp
      rw [e4] at this
      rw [this]; simp [hg]
def orOne (tb : List Fct) (e : Fct) : List Fct := match tb.find? fun g => decide (g.var = e.var) with
  | some g => [⟨e.var, orB .i64 e.tags g.tags⟩]
  | none => []
theorem orOne_len (tb : List Fct) (e : Fct) : (orOne tb e).length ≤ 1 := by unfold orOne; split <;> simp
theorem or_l7 (n : Nat) (a b : Fts) (u tb w ta : List Fct) (hb : tb.length < 10000000000) : ∀ (rest P out : List Fct), ta = P ++ rest → out.length + rest.length < 10000000000 →
    y0n n a b u tb w ta rest P.length out = y1t n w ta (out ++ rest.flatMap (orOne tb))
  | [], P, out, h, hl => by rw [y0n]; simp
  | e :: rest, P, out, h, hl => by
    subst h
    simp only [List.length_cons] at hl
    have h1 := orOne_len tb e
    have ih := or_l7 n a b u tb w (P ++ e :: rest) hb rest (P ++ [e]) (out ++ orOne tb e) (by simp) (by simp; omega)
    have e4 : ((P ++ [e]).length : Nat) = P.length + 1 := by simp
    rw [e4] at ih
    rw [y0n, idx_at (A := P) (B := rest) rfl rfl, Option.bind_some, okLen_of (by omega), cond_true]
    have := find_or (a := a) (b := b) (l62 := u) (l636 := w) (l686 := P ++ e :: rest) (l713 := out) (e := e) (K := y0n n a b u tb w (P ++ e :: rest) rest (P.length + 1)) tb hb (by omega) tb [] rfl (by simp)
    rw [List.length_nil] at this
    rw [this]
    refine Eq.trans ?_ (ih.trans ?_)
    · rfl
    · simp
theorem or_can (a b : List Fct) : (canF a).flatMap (orOne (canF b)) = ((vsF a).filter fun v => decide (v ∈ vsF b)).map fun v => ⟨v, ((tgN a v ||| tgN b v : Nat) : Int)⟩ := by
  unfold canF
  generalize vsF a = va
  induction va with
  | nil => rfl
  | cons v va ih =>
    rw [List.map_cons, List.flatMap_cons, ih, List.filter_cons]
    have hf : orOne ((vsF b).map fun v => ⟨v, ((tgN b v : Nat) : Int)⟩) ⟨v, ((tgN a v : Nat) : Int)⟩ = if v ∈ vsF b then [⟨v, ((tgN a v ||| tgN b v : Nat) : Int)⟩] else [] := by
      unfold orOne
      by_cases hv : v ∈ vsF b
      · rw [if_pos hv]
        cases hq : ((vsF b).map fun v => (⟨v, ((tgN b v : Nat) : Int)⟩ : Fct)).find? fun g => decide (g.var = v) with
        | none =>
          have := List.find?_eq_none.1 hq ⟨v, ((tgN b v : Nat) : Int)⟩ (List.mem_map.2 ⟨v, hv, rfl⟩)
          simp at this
        | some g =>
          have h1 := List.find?_some hq
          have h2 := List.mem_of_find?_eq_some hq
          obtain ⟨w, _, rfl⟩ := List.mem_map.1 h2
          have h1 : w = v := by simpa using h1
          subst h1
          simp only []
          rw [or_nat (tgN_lt _ _) (tgN_lt _ _)]
      · rw [if_neg hv]
        have : ((vsF b).map fun v => (⟨v, ((tgN b v : Nat) : Int)⟩ : Fct)).find? (fun g => decide (g.var = v)) = none := by
          rw [List.find?_eq_none]
          intro x hx
          obtain ⟨w, hw, rfl⟩ := List.mem_map.1 hx
          simp only [decide_eq_true_eq]
          exact fun e => hv (e ▸ hw)
        simp only [] at this ⊢
        rw [this]
    rw [hf]
    by_cases hv : v ∈ vsF b <;> simp [hv]
theorem or_p (a b : Fts) (n : Nat) (h : a.l.length + b.l.length ≤ 1000000) (hn : a.l.length + b.l.length + 10 < n) : y4k n a b = some (orF a b) := by
  unfold y4k orF
  cases ha : a.never with
  | true => rw [cond_true, and_p b ⟨false, []⟩ n (by simp; omega) (by simp; omega)]; simp
  | false =>
    rw [cond_false, if_neg (by simp)]
    cases hb : b.never with
    | true => rw [cond_true, and_p a ⟨false, []⟩ n (by simp; omega) (by simp; omega)]; simp
    | false =>
      rw [cond_false, if_neg (by simp), okLen_of (by omega), cond_true]
      obtain ⟨s, s1, s2, s3⟩ := sort_ok b.l n (by omega) (by omega)
      obtain ⟨t, tt1, tt2, tt3⟩ := sort_ok a.l n (by omega) (by omega)
      have hsl : s.length = b.l.length := s2.length_eq
      have htl : t.length = a.l.length := tt2.length_eq
      have h1 := y6g n a b s b.l 0 [] (by omega) (by simp; omega)
      rw [List.drop_zero, canF_of s2 s3] at h1
      have h2 := y6l n a b s (canF b.l) t a.l 0 [] (by omega) (by simp; omega)
      rw [List.drop_zero, canF_of tt2 tt3] at h2
      have c1 := canF_len a.l
      have c2 := canF_len b.l
      have h3 := or_l7 n a b s (canF b.l) t (canF a.l) (by omega) (canF a.l) [] [] rfl (by simp; omega)
      rw [List.length_nil, List.nil_append, or_can] at h3
      rw [y2i, callG_of s1 hsl, Option.bind_some, okLen_of (by omega), cond_true, h1, y21, okLen_of (by omega), cond_true, y2m, callG_of tt1 htl, Option.bind_some, okLen_of (by omega), cond_true, h2, y1z, okLen_of (by omega), cond_true, h3]
      have hfl : (((vsF a.l).filter fun v => decide (v ∈ vsF b.l)).map fun v => (⟨v, ((tgN a.l v ||| tgN b.l v : Nat) : Int)⟩ : Fct)).length ≤ a.l.length := by
        rw [List.length_map]; exact Nat.le_trans (List.length_filter_le _ _) (vsF_len _)
      exact said_Or n t (canF a.l) _ (by omega) (by omega)
end Go.Ev.Seat
