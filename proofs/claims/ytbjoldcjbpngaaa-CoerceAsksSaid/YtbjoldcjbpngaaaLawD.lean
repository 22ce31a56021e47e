/-
  CoerceAsks in the evaluator's reading: true of any two coercions, and any number.
-/
import Derived.Test.YtbjoldcjbpngaaaCoerce5
set_option linter.unusedVariables false
set_option linter.unusedSimpArgs false
namespace Go.Ev.Seat
open Go Go.Ev
set_option maxRecDepth 20000
attribute [local irreducible] pcall callF
theorem awake_c (n : Nat) : pcall (tabOf tabL) (n + 60) 7 [] = some (.ok (.bool true)) := by kernel_rfl
theorem same_self (n : Nat) (c : Co) (h : szC c < n) (hs : szC c < 1000000) : pcall (tabOf tabL) (n + 1) 11 [vC c, vC c] = some (.ok (.bool true)) := by
  rw [same_law n c c h (smC_sz 1000000 c hs (by omega)), sameC_refl]
set_option maxHeartbeats 1000000 in
theorem asks (a b : Co) (tag : Int) (wa : WfC a) (wb : WfC b) : pcall (tabOf tabL) (100 * (szC a + szC b) + 400 + 1) 6 [vC a, vC b, .int .i64 tag] = some (.ok (.bool true)) := by
  have sa := szC_pos a
  have sb := szC_pos b
  generalize hn : 100 * (szC a + szC b) + 400 = n
  obtain ⟨n, rfl⟩ : ∃ m, n = m + 400 := ⟨n - 400, by omega⟩
  refine pcall_fin t6 ?_
  refine WL_seq ?_
  refine WL_reg ?_
  refine O_n rfl rfl rfl ?_
  refine O_n rfl rfl rfl ?_
  refine O_p rfl rfl rfl ?_
  refine WO_nil ?_
  refine WL_seq ?_
  apply WL_prune
  · (repeat (first | exact restr_nil | apply restr_cons rfl | apply restr_none rfl))
  conv => arg 4; (try simp only [List.set_cons_zero, List.set_cons_succ, List.nil_append, List.cons_append, List.length_cons, List.length_nil, Nat.zero_add, Nat.add_zero, Nat.reduceAdd, putCells_cT, take_cT,  putCells, List.take_succ_cons, List.take_zero, List.take_nil, List.drop_succ_cons, List.drop_zero, List.drop_nil, AVal.flat])
  conv => arg 3; (try simp only [List.set_cons_zero, List.set_cons_succ, List.nil_append, List.cons_append, List.length_cons, List.length_nil, Nat.zero_add, Nat.add_zero, Nat.reduceAdd, putCells_cT, take_cT,  putCells, List.take_succ_cons, List.take_zero, List.take_nil, List.drop_succ_cons, List.drop_zero, List.drop_nil, AVal.flat])
  refine WL_seq ?_
  refine WL_reg ?_
  refine O_c 7 rfl rfl (callA_of rfl (awake_c (n + 340))) ?_
  refine O_p rfl rfl rfl ?_
  refine WO_nil ?_
  refine WL_seq ?_
  apply WL_prune
  · (repeat (first | exact restr_nil | apply restr_cons rfl | apply restr_none rfl))
  conv => arg 4; (try simp only [List.set_cons_zero, List.set_cons_succ, List.nil_append, List.cons_append, List.length_cons, List.length_nil, Nat.zero_add, Nat.add_zero, Nat.reduceAdd, putCells_cT, take_cT,  putCells, List.take_succ_cons, List.take_zero, List.take_nil, List.drop_succ_cons, List.drop_zero, List.drop_nil, AVal.flat])
  conv => arg 3; (try simp only [List.set_cons_zero, List.set_cons_succ, List.nil_append, List.cons_append, List.length_cons, List.length_nil, Nat.zero_add, Nat.add_zero, Nat.reduceAdd, putCells_cT, take_cT,  putCells, List.take_succ_cons, List.take_zero, List.take_nil, List.drop_succ_cons, List.drop_zero, List.drop_nil, AVal.flat])
  refine WL_seq ?_
  refine WL_reg ?_
  refine O_h rfl rfl rfl rfl ?_
  refine O_c 9 rfl rfl (callA_of rfl (light_law (n + 397) a (by omega) wa)) ?_
  refine O_p rfl rfl rfl ?_
  refine WO_nil ?_
  refine WL_seq ?_
  apply WL_prune
  · (repeat (first | exact restr_nil | apply restr_cons rfl | apply restr_none rfl))
  conv => arg 4; (try simp only [List.set_cons_zero, List.set_cons_succ, List.nil_append, List.cons_append, List.length_cons, List.length_nil, Nat.zero_add, Nat.add_zero, Nat.reduceAdd, putCells_cT, take_cT,  putCells, List.take_succ_cons, List.take_zero, List.take_nil, List.drop_succ_cons, List.drop_zero, List.drop_nil, AVal.flat])
  conv => arg 3; (try simp only [List.set_cons_zero, List.set_cons_succ, List.nil_append, List.cons_append, List.length_cons, List.length_nil, Nat.zero_add, Nat.add_zero, Nat.reduceAdd, putCells_cT, take_cT,  putCells, List.take_succ_cons, List.take_zero, List.take_nil, List.drop_succ_cons, List.drop_zero, List.drop_nil, AVal.flat])
  refine WL_seq ?_
  refine WL_reg ?_
  refine O_h rfl rfl rfl rfl ?_
  refine O_c 9 rfl rfl (callA_of rfl (light_law (n + 397) b (by omega) wb)) ?_
  refine O_p rfl rfl rfl ?_
  refine WO_nil ?_
  refine WL_seq ?_
  apply WL_prune
  · (repeat (first | exact restr_nil | apply restr_cons rfl | apply restr_none rfl))
  conv => arg 4; (try simp only [List.set_cons_zero, List.set_cons_succ, List.nil_append, List.cons_append, List.length_cons, List.length_nil, Nat.zero_add, Nat.add_zero, Nat.reduceAdd, putCells_cT, take_cT,  putCells, List.take_succ_cons, List.take_zero, List.take_nil, List.drop_succ_cons, List.drop_zero, List.drop_nil, AVal.flat])
  conv => arg 3; (try simp only [List.set_cons_zero, List.set_cons_succ, List.nil_append, List.cons_append, List.length_cons, List.length_nil, Nat.zero_add, Nat.add_zero, Nat.reduceAdd, putCells_cT, take_cT,  putCells, List.take_succ_cons, List.take_zero, List.take_nil, List.drop_succ_cons, List.drop_zero, List.drop_nil, AVal.flat])
  refine WL_seq ?_
  refine WL_seq ?_
  refine WL_reg ?_
  refine O_p rfl rfl rfl ?_
  refine O_p rfl rfl rfl ?_
  refine O_p rfl rfl rfl ?_
  apply O_or [_, _] rfl rfl (hT := ?hT23) (h := ?hR23)
  case hT23 =>
    intro hb20
    refine O_p rfl rfl rfl ?_
    refine O_p rfl rfl rfl ?_
    exact WO_nil (WL_nil ⟨rfl, rfl, rfl⟩)
  case hR23 =>
    intro vs hvs
    obtain ⟨u21, u22, rfl⟩ := len2 hvs
    clear hvs; dsimp only [junk]
    refine WO_nil ?_
    refine WL_seq ?_
    apply WL_prune
    · (repeat (first | exact restr_nil | apply restr_cons rfl | apply restr_none rfl))
    conv => arg 4; (try simp only [List.set_cons_zero, List.set_cons_succ, List.nil_append, List.cons_append, List.length_cons, List.length_nil, Nat.zero_add, Nat.add_zero, Nat.reduceAdd, putCells_cT, take_cT,  putCells, List.take_succ_cons, List.take_zero, List.take_nil, List.drop_succ_cons, List.drop_zero, List.drop_nil, AVal.flat])
    conv => arg 3; (try simp only [List.set_cons_zero, List.set_cons_succ, List.nil_append, List.cons_append, List.length_cons, List.length_nil, Nat.zero_add, Nat.add_zero, Nat.reduceAdd, putCells_cT, take_cT,  putCells, List.take_succ_cons, List.take_zero, List.take_nil, List.drop_succ_cons, List.drop_zero, List.drop_nil, AVal.flat])
    try clear u21 u22
    refine WL_cond rfl (fun h23 => ?_) (fun h23 => ?_)
    · skip
      refine WL_seq ?_
      refine WL_reg ?_
      refine O_p rfl rfl rfl ?_
      refine O_p rfl rfl rfl ?_
      refine WO_nil ?_
      refine WL_ret ?_
      exact ⟨_, rfl, _, rfl, rfl⟩
    · skip
      simp at h23
      have za := lightC_sz (c := a) (by simp [h23])
      have zb := lightC_sz (c := b) (by simp [h23])
      have ma := smC_sz 1000000 a (by omega) (by omega)
      have mb := smC_sz 1000000 b (by omega) (by omega)
      refine WL_skip ?_
      refine WL_seq ?_
      apply WL_prune
      · (repeat (first | exact restr_nil | apply restr_cons rfl | apply restr_none rfl))
      conv => arg 4; (try simp only [List.set_cons_zero, List.set_cons_succ, List.nil_append, List.cons_append, List.length_cons, List.length_nil, Nat.zero_add, Nat.add_zero, Nat.reduceAdd, putCells_cT, take_cT,  putCells, List.take_succ_cons, List.take_zero, List.take_nil, List.drop_succ_cons, List.drop_zero, List.drop_nil, AVal.flat])
      conv => arg 3; (try simp only [List.set_cons_zero, List.set_cons_succ, List.nil_append, List.cons_append, List.length_cons, List.length_nil, Nat.zero_add, Nat.add_zero, Nat.reduceAdd, putCells_cT, take_cT,  putCells, List.take_succ_cons, List.take_zero, List.take_nil, List.drop_succ_cons, List.drop_zero, List.drop_nil, AVal.flat])
      refine WL_seq ?_
      refine WL_reg ?_
      refine O_h rfl rfl rfl rfl ?_
      refine O_c 16 rfl rfl (callA_of rfl (to_c _ a (by omega) ma)) ?_
      refine O_n rfl rfl rfl ?_
      refine O_hn rfl rfl rfl rfl ?_
      refine WO_nil ?_
      refine WL_seq ?_
      apply WL_prune
      · (repeat (first | exact restr_nil | apply restr_cons rfl | apply restr_none rfl))
      conv => arg 4; (try simp only [List.set_cons_zero, List.set_cons_succ, List.nil_append, List.cons_append, List.length_cons, List.length_nil, Nat.zero_add, Nat.add_zero, Nat.reduceAdd, putCells_cT, take_cT,  putCells, List.take_succ_cons, List.take_zero, List.take_nil, List.drop_succ_cons, List.drop_zero, List.drop_nil, AVal.flat])
      conv => arg 3; (try simp only [List.set_cons_zero, List.set_cons_succ, List.nil_append, List.cons_append, List.length_cons, List.length_nil, Nat.zero_add, Nat.add_zero, Nat.reduceAdd, putCells_cT, take_cT,  putCells, List.take_succ_cons, List.take_zero, List.take_nil, List.drop_succ_cons, List.drop_zero, List.drop_nil, AVal.flat])
      refine WL_seq ?_
      refine WL_seq ?_
      refine WL_drawT [] rfl ?_
      refine S_h (d := some 27) rfl rfl rfl rfl rfl ?_
      refine S_c 20 rfl rfl rfl (callA_of rfl (right_prog (n + 399) a (by omega) (by omega))) ?_
      refine S_h (d := some 29) rfl rfl rfl rfl rfl ?_
      refine S_c 17 rfl rfl rfl (callA_of rfl (right_ref (n + 399) a (by omega) (by omega))) ?_
      refine S_v (.bool false) rfl rfl rfl (by simp) ?_
      refine S_p rfl rfl rfl ?_
      refine S_h (d := some 33) rfl rfl rfl rfl rfl ?_
      refine S_h (d := some 34) rfl rfl rfl rfl rfl ?_
      refine S_c 25 rfl rfl rfl (callA_of rfl (same_c _ a b (by omega) ma)) ?_
      refine S_h (d := some 36) rfl rfl rfl rfl rfl ?_
      refine S_h (d := some 37) rfl rfl rfl rfl rfl ?_
      refine S_c 16 rfl rfl rfl (callA_of rfl (to_c _ b (by omega) mb)) ?_
      refine S_c 26 rfl rfl rfl (callA_of rfl (same_ref _ a b (by omega) ma)) ?_
      refine S_v (.bool false) rfl rfl rfl (by simp) ?_
      refine S_p rfl rfl rfl ?_
      refine S_p rfl rfl rfl ?_
      refine S_h (d := some 43) rfl rfl rfl rfl rfl ?_
      refine S_c 27 rfl rfl rfl (callA_of rfl (pass_c (n + 399) a)) ?_
      refine S_h (d := some 45) rfl rfl rfl rfl rfl ?_
      refine S_c 28 rfl rfl rfl (callA_of rfl (passR_c (n + 398) a (by omega))) ?_
      refine S_v (.bool false) rfl rfl rfl (by simp) ?_
      refine S_p rfl rfl rfl ?_
      refine S_p rfl rfl rfl ?_
      refine S_h (d := some 50) rfl rfl rfl rfl rfl ?_
      refine S_c 21 rfl rfl rfl (callA_of rfl (height_c _ a (by omega) (by omega))) ?_
      refine S_h (d := some 52) rfl rfl rfl rfl rfl ?_
      refine S_c 29 rfl rfl rfl (callA_of rfl (heightR_c _ a (by omega) (by omega))) ?_
      refine S_v (.bool false) rfl rfl rfl (by simp) ?_
      refine S_p rfl rfl rfl ?_
      refine S_p rfl rfl rfl ?_
      refine S_h (d := some 57) rfl rfl rfl rfl rfl ?_
      refine S_c 22 rfl rfl rfl (callA_of rfl (size_c _ a (by omega) (by omega))) ?_
      refine S_h (d := some 59) rfl rfl rfl rfl rfl ?_
      refine S_c 30 rfl rfl rfl (callA_of rfl (sizeR_c _ a (by omega) (by omega))) ?_
      refine S_v (.bool false) rfl rfl rfl (by simp) ?_
      refine S_p rfl rfl rfl ?_
      refine WS_nil ?_
      refine WL_seq ?_
      apply WL_prune
      · (repeat (first | exact restr_nil | apply restr_cons rfl | apply restr_none rfl))
      conv => arg 4; (try simp only [List.set_cons_zero, List.set_cons_succ, List.nil_append, List.cons_append, List.length_cons, List.length_nil, Nat.zero_add, Nat.add_zero, Nat.reduceAdd, putCells_cT, take_cT,  putCells, List.take_succ_cons, List.take_zero, List.take_nil, List.drop_succ_cons, List.drop_zero, List.drop_nil, AVal.flat])
      conv => arg 3; (try simp only [List.set_cons_zero, List.set_cons_succ, List.nil_append, List.cons_append, List.length_cons, List.length_nil, Nat.zero_add, Nat.add_zero, Nat.reduceAdd, putCells_cT, take_cT,  putCells, List.take_succ_cons, List.take_zero, List.take_nil, List.drop_succ_cons, List.drop_zero, List.drop_nil, AVal.flat])
      refine WL_cond rfl (fun h62 => ?_) (fun h62 => ?_)
      · skip
        cases h62
      · skip
        refine WL_skip ?_
        refine WL_seq ?_
        apply WL_prune
        · (repeat (first | exact restr_nil | apply restr_cons rfl | apply restr_none rfl))
        conv => arg 4; (try simp only [List.set_cons_zero, List.set_cons_succ, List.nil_append, List.cons_append, List.length_cons, List.length_nil, Nat.zero_add, Nat.add_zero, Nat.reduceAdd, putCells_cT, take_cT,  putCells, List.take_succ_cons, List.take_zero, List.take_nil, List.drop_succ_cons, List.drop_zero, List.drop_nil, AVal.flat])
        conv => arg 3; (try simp only [List.set_cons_zero, List.set_cons_succ, List.nil_append, List.cons_append, List.length_cons, List.length_nil, Nat.zero_add, Nat.add_zero, Nat.reduceAdd, putCells_cT, take_cT,  putCells, List.take_succ_cons, List.take_zero, List.take_nil, List.drop_succ_cons, List.drop_zero, List.drop_nil, AVal.flat])
        refine WL_seq ?_
        refine WL_seq ?_
        refine WL_reg ?_
        refine O_h rfl rfl rfl rfl ?_
        refine O_c 17 rfl rfl (callA_of rfl (right_ref (n + 399) a (by omega) (by omega))) ?_
        refine O_p rfl rfl rfl ?_
        refine WO_nil ?_
        refine WL_seq ?_
        apply WL_prune
        · (repeat (first | exact restr_nil | apply restr_cons rfl | apply restr_none rfl))
        conv => arg 4; (try simp only [List.set_cons_zero, List.set_cons_succ, List.nil_append, List.cons_append, List.length_cons, List.length_nil, Nat.zero_add, Nat.add_zero, Nat.reduceAdd, putCells_cT, take_cT,  putCells, List.take_succ_cons, List.take_zero, List.take_nil, List.drop_succ_cons, List.drop_zero, List.drop_nil, AVal.flat])
        conv => arg 3; (try simp only [List.set_cons_zero, List.set_cons_succ, List.nil_append, List.cons_append, List.length_cons, List.length_nil, Nat.zero_add, Nat.add_zero, Nat.reduceAdd, putCells_cT, take_cT,  putCells, List.take_succ_cons, List.take_zero, List.take_nil, List.drop_succ_cons, List.drop_zero, List.drop_nil, AVal.flat])
        refine WL_cond rfl (fun h65 => ?_) (fun h65 => ?_)
        · skip
          refine WL_seq ?_
          refine WL_reg ?_
          refine O_p rfl rfl rfl ?_
          refine O_p rfl rfl rfl ?_
          refine WO_nil ?_
          refine WL_ret ?_
          exact ⟨_, rfl, _, rfl, rfl⟩
        · skip
          simp at h65
          have oa := rightC_ok h65
          refine WL_skip ?_
          refine WL_seq ?_
          apply WL_prune
          · (repeat (first | exact restr_nil | apply restr_cons rfl | apply restr_none rfl))
          conv => arg 4; (try simp only [List.set_cons_zero, List.set_cons_succ, List.nil_append, List.cons_append, List.length_cons, List.length_nil, Nat.zero_add, Nat.add_zero, Nat.reduceAdd, putCells_cT, take_cT,  putCells, List.take_succ_cons, List.take_zero, List.take_nil, List.drop_succ_cons, List.drop_zero, List.drop_nil, AVal.flat])
          conv => arg 3; (try simp only [List.set_cons_zero, List.set_cons_succ, List.nil_append, List.cons_append, List.length_cons, List.length_nil, Nat.zero_add, Nat.add_zero, Nat.reduceAdd, putCells_cT, take_cT,  putCells, List.take_succ_cons, List.take_zero, List.take_nil, List.drop_succ_cons, List.drop_zero, List.drop_nil, AVal.flat])
          refine WL_seq ?_
          refine WL_drawT [] rfl ?_
          refine S_h (d := some 67) rfl rfl rfl rfl rfl ?_
          refine S_c 31 rfl rfl rfl (callA_of rfl (car_c (n + 399) a oa)) ?_
          refine S_h (d := some 69) rfl rfl rfl rfl rfl ?_
          refine S_c 32 rfl rfl rfl (callA_of rfl (carR_c (n + 399) a oa)) ?_
          refine S_c 11 rfl rfl rfl (callA_of rfl (same_self (n + 399) _ (by have := carC_sz a; omega) (by have := carC_sz a; omega))) ?_
          refine S_p rfl rfl rfl ?_
          refine WS_nil ?_
          refine WL_seq ?_
          apply WL_prune
          · (repeat (first | exact restr_nil | apply restr_cons rfl | apply restr_none rfl))
          conv => arg 4; (try simp only [List.set_cons_zero, List.set_cons_succ, List.nil_append, List.cons_append, List.length_cons, List.length_nil, Nat.zero_add, Nat.add_zero, Nat.reduceAdd, putCells_cT, take_cT,  putCells, List.take_succ_cons, List.take_zero, List.take_nil, List.drop_succ_cons, List.drop_zero, List.drop_nil, AVal.flat])
          conv => arg 3; (try simp only [List.set_cons_zero, List.set_cons_succ, List.nil_append, List.cons_append, List.length_cons, List.length_nil, Nat.zero_add, Nat.add_zero, Nat.reduceAdd, putCells_cT, take_cT,  putCells, List.take_succ_cons, List.take_zero, List.take_nil, List.drop_succ_cons, List.drop_zero, List.drop_nil, AVal.flat])
          refine WL_seq ?_
          refine WL_drawT [] rfl ?_
          refine S_h (d := some 72) rfl rfl rfl rfl rfl ?_
          refine S_c 33 rfl rfl rfl (callA_of rfl (cdr_c (n + 399) a oa)) ?_
          refine S_h (d := some 74) rfl rfl rfl rfl rfl ?_
          refine S_c 34 rfl rfl rfl (callA_of rfl (cdrR_c (n + 399) a (by omega) oa)) ?_
          refine S_c 11 rfl rfl rfl (callA_of rfl (same_self (n + 399) _ (by have := cdrC_sz a; omega) (by have := cdrC_sz a; omega))) ?_
          refine S_p rfl rfl rfl ?_
          refine WS_nil ?_
          refine WL_seq ?_
          apply WL_prune
          · (repeat (first | exact restr_nil | apply restr_cons rfl | apply restr_none rfl))
          conv => arg 4; (try simp only [List.set_cons_zero, List.set_cons_succ, List.nil_append, List.cons_append, List.length_cons, List.length_nil, Nat.zero_add, Nat.add_zero, Nat.reduceAdd, putCells_cT, take_cT,  putCells, List.take_succ_cons, List.take_zero, List.take_nil, List.drop_succ_cons, List.drop_zero, List.drop_nil, AVal.flat])
          conv => arg 3; (try simp only [List.set_cons_zero, List.set_cons_succ, List.nil_append, List.cons_append, List.length_cons, List.length_nil, Nat.zero_add, Nat.add_zero, Nat.reduceAdd, putCells_cT, take_cT,  putCells, List.take_succ_cons, List.take_zero, List.take_nil, List.drop_succ_cons, List.drop_zero, List.drop_nil, AVal.flat])
          refine WL_seq ?_
          refine WL_drawT [] rfl ?_
          refine S_p rfl rfl rfl ?_
          refine S_p rfl rfl rfl ?_
          refine S_p rfl rfl rfl ?_
          refine S_p rfl rfl rfl ?_
          refine S_p rfl rfl rfl ?_
          refine S_p rfl rfl rfl ?_
          refine S_p rfl rfl rfl ?_
          refine S_p rfl rfl rfl ?_
          refine S_h (d := some 85) rfl rfl rfl rfl rfl ?_
          refine S_p rfl rfl rfl ?_
          refine S_c 24 rfl rfl rfl (callA_of rfl (first_c (n + 399) a tag (by omega))) ?_
          refine S_h (d := some 88) rfl rfl rfl rfl rfl ?_
          refine S_p rfl rfl rfl ?_
          refine S_c 35 rfl rfl rfl (callA_of rfl (firstR_c (n + 399) a tag (by omega))) ?_
          refine S_v (.bool true) rfl rfl rfl (by simp) ?_
          refine S_p rfl rfl rfl ?_
          refine S_p rfl rfl rfl ?_
          refine S_h (d := some 94) rfl rfl rfl rfl rfl ?_
          refine S_p rfl rfl rfl ?_
          refine S_c 36 rfl rfl rfl (callA_of rfl (wraps_c (n + 399) a tag)) ?_
          refine S_h (d := some 97) rfl rfl rfl rfl rfl ?_
          refine S_p rfl rfl rfl ?_
          refine S_c 37 rfl rfl rfl (callA_of rfl (wrapsR_c (n + 399) a tag)) ?_
          refine S_v (.bool true) rfl rfl rfl (by simp) ?_
          refine S_p rfl rfl rfl ?_
          refine S_p rfl rfl rfl ?_
          refine WS_nil ?_
          refine WL_ret ?_
          exact ⟨_, rfl, _, rfl, rfl⟩
end Go.Ev.Seat
