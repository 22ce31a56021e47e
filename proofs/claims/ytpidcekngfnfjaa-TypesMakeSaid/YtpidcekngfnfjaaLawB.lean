/-
  TypesMake in the evaluator's reading: true of any flat tags and any two types.
-/
import Derived.Test.YtpidcekngfnfjaaLawA
set_option linter.unusedVariables false
set_option linter.unusedSimpArgs false
namespace Go.Ev.Seat
open Go Go.Ev
set_option maxRecDepth 20000
attribute [local irreducible] pcall callF
theorem flat_c (n : Nat) (t : Int) (h0 : 0 ≤ t) (h1 : t < 9223372036854775808) : pcall (tabOf tabL) (n + 1) 22 [.int .i64 t] = some (.ok (vT (flatT (t.tmod 64)))) := by
  refine pcall_fin t22 ?_
  refine WL_seq ?_
  refine WL_reg ?_
  refine O_n rfl rfl rfl ?_
  refine WO_nil ?_
  refine WL_seq ?_
  apply WL_prune
  · (repeat (first | exact restr_nil | apply restr_cons rfl | apply restr_none rfl))
  refine WL_seq ?_
  refine WL_reg ?_
  refine O_p rfl rfl rfl ?_
  refine O_p rfl rfl rfl ?_
  refine O_p rfl rfl rfl ?_
  refine O_hn rfl rfl rfl rfl ?_
  refine WO_nil ?_
  refine WL_ret ?_
  exact ⟨_, rfl, _, rfl, by rw [and63 h0 h1]; rfl⟩
theorem pair_c (n : Nat) (a b : Ty) : pcall (tabOf tabL) (n + 1) 25 [vT a, vT b] = some (.ok (vT (pairT a b))) := by
  refine pcall_fin t25 ?_
  refine WL_seq ?_
  refine WL_reg ?_
  refine O_n rfl rfl rfl ?_
  refine O_n rfl rfl rfl ?_
  refine O_n rfl rfl rfl ?_
  refine WO_nil ?_
  refine WL_seq ?_
  apply WL_prune
  · (repeat (first | exact restr_nil | apply restr_cons rfl | apply restr_none rfl))
  refine WL_seq ?_
  refine WL_reg ?_
  refine O_h rfl rfl rfl rfl ?_
  refine O_h rfl rfl rfl rfl ?_
  refine O_h rfl rfl rfl rfl ?_
  refine O_p rfl rfl rfl ?_
  refine O_hn rfl rfl rfl rfl ?_
  refine WO_nil ?_
  refine WL_ret ?_
  exact ⟨_, rfl, _, rfl, by simp [vT, cT, pairT, encT_eq, Ty.all, Ty.flat, Ty.pair, Ty.pairs, Ty.fn, Ty.funs]⟩
theorem clone2_c (n : Nat) (x y : Ty) (H : Heap) : callF (tabOf tabL) (n + 1) 38 [.lst [vT x, vT y] false] H = some (.ok (.gl H.length 2), H ++ [.grow 6 [vT x, vT y] none]) := by
  refine callF_fin t38 ?_
  refine WL_seq ?_
  refine WL_reg ?_
  refine O_p rfl rfl rfl ?_
  refine WO_nil ?_
  refine WL_seq ?_
  apply WL_prune
  · (repeat (first | exact restr_nil | apply restr_cons rfl | apply restr_none rfl))
  refine WL_seq ?_
  refine WL_seq ?_
  refine WL_reg ?_
  refine O_p rfl rfl rfl ?_
  refine O_p rfl rfl rfl ?_
  refine WO_nil ?_
  refine WL_seq ?_
  apply WL_prune
  · (repeat (first | exact restr_nil | apply restr_cons rfl | apply restr_none rfl))
  refine WL_cond rfl (fun h4 => ?_) (fun h4 => ?_)
  · skip
    cases h4
  · skip
    refine WL_skip ?_
    refine WL_seq ?_
    apply WL_prune
    · (repeat (first | exact restr_nil | apply restr_cons rfl | apply restr_none rfl))
    refine WL_seq ?_
    refine WL_reg ?_
    refine O_h rfl rfl rfl rfl ?_
    refine O_p rfl rfl rfl ?_
    refine O_appN rfl rfl rfl rfl rfl (by simp) ?_
    refine O_p rfl rfl rfl ?_
    refine WO_nil ?_
    refine WL_ret ?_
    exact ⟨_, rfl, rfl, rfl⟩
theorem fun2_c (n : Nat) (a x y : Ty) : pcall (tabOf tabL) (n + 2) 26 [vT a, .lst [vT x, vT y] false] = some (.ok (vT (procT [x, y, a]))) := by
  refine pcall_fin t26 ?_
  refine WL_seq ?_
  refine WL_reg ?_
  refine O_n rfl rfl rfl ?_
  refine O_n rfl rfl rfl ?_
  refine WO_nil ?_
  refine WL_seq ?_
  apply WL_prune
  · (repeat (first | exact restr_nil | apply restr_cons rfl | apply restr_none rfl))
  conv => arg 4; (try simp only [List.set_cons_zero, List.set_cons_succ, List.nil_append, List.cons_append, List.length_cons, List.length_nil, Nat.zero_add, Nat.add_zero, Nat.reduceAdd, putCells_cT, take_cT, putCells, List.take_succ_cons, List.take_zero, List.take_nil, List.drop_succ_cons, List.drop_zero, List.drop_nil, AVal.flat])
  conv => arg 3; (try simp only [List.set_cons_zero, List.set_cons_succ, List.nil_append, List.cons_append, List.length_cons, List.length_nil, Nat.zero_add, Nat.add_zero, Nat.reduceAdd, putCells_cT, take_cT, putCells, List.take_succ_cons, List.take_zero, List.take_nil, List.drop_succ_cons, List.drop_zero, List.drop_nil, AVal.flat])
  refine WL_seq ?_
  refine WL_draw ?_
  refine D_p rfl rfl rfl ?_
  refine D_cr 38 rfl rfl (Or.inl rfl) (callA_raw (H2 := [.cells (cT a), zeroB, .hole, .grow 6 [vT x, vT y] none]) (clone2_c n x y _) rfl) ?_
  refine D_h (d := some 7) rfl rfl rfl rfl rfl ?_
  refine D_h (d := some 8) rfl rfl rfl rfl rfl ?_
  refine D_o (d := some 9) rfl rfl rfl rfl rfl ?_
  refine D_p rfl rfl rfl ?_
  refine D_h (d := none) rfl rfl rfl rfl rfl ?_
  refine WD_nil ⟨by first | rfl | (simp [okFs, okEarlier, disj, notIn, noneIn, sameOn, sameB_self, glsL, glsV, partsGls, AOpd.ev, zeroB, outB] <;> (repeat' apply And.intro) <;> rfl), ?_⟩
  refine WL_ret ?_
  exact ⟨_, rfl, _, rfl, by simp [vT, cT, procT, encT_eq, Ty.all, Ty.flat, Ty.pair, Ty.pairs, Ty.fn, Ty.funs]⟩
set_option maxHeartbeats 1000000 in
theorem make (t : Int) (a b : Ty) (ht : -9223372036854775808 ≤ t ∧ t < 9223372036854775808) (wa : WfT a) (wb : WfT b) : pcall (tabOf tabL) (100 * (szT a + szT b) + 200 + 1) 4 [.int .i64 t, vT a, vT b] = some (.ok (.bool true)) := by
  have sa := szT_pos a
  have sb := szT_pos b
  generalize hn : 100 * (szT a + szT b) + 200 = n
  obtain ⟨n, rfl⟩ : ∃ m, n = m + 200 := ⟨n - 200, by omega⟩
  have wf : 0 ≤ t → WfT (flatT (t.tmod 64)) := fun h => .flat_ (by rw [Int.tmod_eq_emod_of_nonneg h]; omega)
  refine pcall_fin t4 ?_
  refine WL_seq ?_
  refine WL_reg ?_
  refine O_n rfl rfl rfl ?_
  refine O_n rfl rfl rfl ?_
  refine O_p rfl rfl rfl ?_
  refine WO_nil ?_
  refine WL_seq ?_
  apply WL_prune
  · (repeat (first | exact restr_nil | apply restr_cons rfl | apply restr_none rfl))
  conv => arg 4; (try simp only [List.set_cons_zero, List.set_cons_succ, List.nil_append, List.cons_append, List.length_cons, List.length_nil, Nat.zero_add, Nat.add_zero, Nat.reduceAdd, putCells_cT, take_cT, putCells, List.take_succ_cons, List.take_zero, List.take_nil, List.drop_succ_cons, List.drop_zero, List.drop_nil, AVal.flat])
  conv => arg 3; (try simp only [List.set_cons_zero, List.set_cons_succ, List.nil_append, List.cons_append, List.length_cons, List.length_nil, Nat.zero_add, Nat.add_zero, Nat.reduceAdd, putCells_cT, take_cT, putCells, List.take_succ_cons, List.take_zero, List.take_nil, List.drop_succ_cons, List.drop_zero, List.drop_nil, AVal.flat])
  refine WL_seq ?_
  refine WL_reg ?_
  refine O_c 8 rfl rfl (callA_of rfl (awake_c (n + 140))) ?_
  refine O_p rfl rfl rfl ?_
  refine WO_nil ?_
  refine WL_seq ?_
  apply WL_prune
  · (repeat (first | exact restr_nil | apply restr_cons rfl | apply restr_none rfl))
  conv => arg 4; (try simp only [List.set_cons_zero, List.set_cons_succ, List.nil_append, List.cons_append, List.length_cons, List.length_nil, Nat.zero_add, Nat.add_zero, Nat.reduceAdd, putCells_cT, take_cT, putCells, List.take_succ_cons, List.take_zero, List.take_nil, List.drop_succ_cons, List.drop_zero, List.drop_nil, AVal.flat])
  conv => arg 3; (try simp only [List.set_cons_zero, List.set_cons_succ, List.nil_append, List.cons_append, List.length_cons, List.length_nil, Nat.zero_add, Nat.add_zero, Nat.reduceAdd, putCells_cT, take_cT, putCells, List.take_succ_cons, List.take_zero, List.take_nil, List.drop_succ_cons, List.drop_zero, List.drop_nil, AVal.flat])
  refine WL_seq ?_
  refine WL_reg ?_
  refine O_h rfl rfl rfl rfl ?_
  refine O_c 9 rfl rfl (callA_of rfl (light_c _ a (by omega) wa)) ?_
  refine O_p rfl rfl rfl ?_
  refine WO_nil ?_
  refine WL_seq ?_
  apply WL_prune
  · (repeat (first | exact restr_nil | apply restr_cons rfl | apply restr_none rfl))
  conv => arg 4; (try simp only [List.set_cons_zero, List.set_cons_succ, List.nil_append, List.cons_append, List.length_cons, List.length_nil, Nat.zero_add, Nat.add_zero, Nat.reduceAdd, putCells_cT, take_cT, putCells, List.take_succ_cons, List.take_zero, List.take_nil, List.drop_succ_cons, List.drop_zero, List.drop_nil, AVal.flat])
  conv => arg 3; (try simp only [List.set_cons_zero, List.set_cons_succ, List.nil_append, List.cons_append, List.length_cons, List.length_nil, Nat.zero_add, Nat.add_zero, Nat.reduceAdd, putCells_cT, take_cT, putCells, List.take_succ_cons, List.take_zero, List.take_nil, List.drop_succ_cons, List.drop_zero, List.drop_nil, AVal.flat])
  refine WL_seq ?_
  refine WL_reg ?_
  refine O_h rfl rfl rfl rfl ?_
  refine O_c 9 rfl rfl (callA_of rfl (light_c _ b (by omega) wb)) ?_
  refine O_p rfl rfl rfl ?_
  refine WO_nil ?_
  refine WL_seq ?_
  apply WL_prune
  · (repeat (first | exact restr_nil | apply restr_cons rfl | apply restr_none rfl))
  conv => arg 4; (try simp only [List.set_cons_zero, List.set_cons_succ, List.nil_append, List.cons_append, List.length_cons, List.length_nil, Nat.zero_add, Nat.add_zero, Nat.reduceAdd, putCells_cT, take_cT, putCells, List.take_succ_cons, List.take_zero, List.take_nil, List.drop_succ_cons, List.drop_zero, List.drop_nil, AVal.flat])
  conv => arg 3; (try simp only [List.set_cons_zero, List.set_cons_succ, List.nil_append, List.cons_append, List.length_cons, List.length_nil, Nat.zero_add, Nat.add_zero, Nat.reduceAdd, putCells_cT, take_cT, putCells, List.take_succ_cons, List.take_zero, List.take_nil, List.drop_succ_cons, List.drop_zero, List.drop_nil, AVal.flat])
  refine WL_seq ?_
  refine WL_seq ?_
  refine WL_reg ?_
  refine O_p rfl rfl rfl ?_
  refine O_p rfl rfl rfl ?_
  refine O_p rfl rfl rfl ?_
  apply O_or [_, _] rfl rfl (hT := ?hT24) (h := ?hR24)
  case hT24 =>
    intro hb21
    refine O_p rfl rfl rfl ?_
    refine O_p rfl rfl rfl ?_
    exact WO_nil (WL_nil ⟨rfl, rfl, rfl⟩)
  case hR24 =>
    intro vs hvs
    obtain ⟨u22, u23, rfl⟩ := len2 hvs
    clear hvs; dsimp only [junk]
    refine O_p rfl rfl rfl ?_
    apply O_or [_, _] rfl rfl (hT := ?hT28) (h := ?hR28)
    case hT28 =>
      intro hb25
      refine O_p rfl rfl rfl ?_
      refine O_p rfl rfl rfl ?_
      exact WO_nil (WL_nil ⟨rfl, rfl, rfl⟩)
    case hR28 =>
      intro vs hvs
      obtain ⟨u26, u27, rfl⟩ := len2 hvs
      clear hvs; dsimp only [junk]
      refine WO_nil ?_
      refine WL_seq ?_
      apply WL_prune
      · (repeat (first | exact restr_nil | apply restr_cons rfl | apply restr_none rfl))
      conv => arg 4; (try simp only [List.set_cons_zero, List.set_cons_succ, List.nil_append, List.cons_append, List.length_cons, List.length_nil, Nat.zero_add, Nat.add_zero, Nat.reduceAdd, putCells_cT, take_cT, putCells, List.take_succ_cons, List.take_zero, List.take_nil, List.drop_succ_cons, List.drop_zero, List.drop_nil, AVal.flat])
      conv => arg 3; (try simp only [List.set_cons_zero, List.set_cons_succ, List.nil_append, List.cons_append, List.length_cons, List.length_nil, Nat.zero_add, Nat.add_zero, Nat.reduceAdd, putCells_cT, take_cT, putCells, List.take_succ_cons, List.take_zero, List.take_nil, List.drop_succ_cons, List.drop_zero, List.drop_nil, AVal.flat])
      try clear u22 u23 u26 u27
      refine WL_cond rfl (fun h28 => ?_) (fun h28 => ?_)
      · skip
        refine WL_seq ?_
        refine WL_reg ?_
        refine O_p rfl rfl rfl ?_
        refine O_p rfl rfl rfl ?_
        refine WO_nil ?_
        refine WL_ret ?_
        exact ⟨_, rfl, _, rfl, rfl⟩
      · skip
        simp at h28
        have ht0 : 0 ≤ t := h28.2
        refine WL_skip ?_
        refine WL_seq ?_
        apply WL_prune
        · (repeat (first | exact restr_nil | apply restr_cons rfl | apply restr_none rfl))
        conv => arg 4; (try simp only [List.set_cons_zero, List.set_cons_succ, List.nil_append, List.cons_append, List.length_cons, List.length_nil, Nat.zero_add, Nat.add_zero, Nat.reduceAdd, putCells_cT, take_cT, putCells, List.take_succ_cons, List.take_zero, List.take_nil, List.drop_succ_cons, List.drop_zero, List.drop_nil, AVal.flat])
        conv => arg 3; (try simp only [List.set_cons_zero, List.set_cons_succ, List.nil_append, List.cons_append, List.length_cons, List.length_nil, Nat.zero_add, Nat.add_zero, Nat.reduceAdd, putCells_cT, take_cT, putCells, List.take_succ_cons, List.take_zero, List.take_nil, List.drop_succ_cons, List.drop_zero, List.drop_nil, AVal.flat])
        refine WL_seq ?_
        refine WL_reg ?_
        refine O_p rfl rfl rfl ?_
        refine O_c 22 rfl rfl (callA_of rfl (flat_c _ t ht0 ht.2)) ?_
        refine O_p rfl rfl rfl ?_
        refine O_p rfl rfl rfl ?_
        refine O_p rfl rfl rfl ?_
        refine O_c 13 rfl rfl (callA_of rfl (same_self _ (flatT (t.tmod 64)) (by rw [szT_flat]; omega) (wf ht0))) ?_
        refine O_p rfl rfl rfl ?_
        refine WO_nil ?_
        refine WL_seq ?_
        apply WL_prune
        · (repeat (first | exact restr_nil | apply restr_cons rfl | apply restr_none rfl))
        conv => arg 4; (try simp only [List.set_cons_zero, List.set_cons_succ, List.nil_append, List.cons_append, List.length_cons, List.length_nil, Nat.zero_add, Nat.add_zero, Nat.reduceAdd, putCells_cT, take_cT, putCells, List.take_succ_cons, List.take_zero, List.take_nil, List.drop_succ_cons, List.drop_zero, List.drop_nil, AVal.flat])
        conv => arg 3; (try simp only [List.set_cons_zero, List.set_cons_succ, List.nil_append, List.cons_append, List.length_cons, List.length_nil, Nat.zero_add, Nat.add_zero, Nat.reduceAdd, putCells_cT, take_cT, putCells, List.take_succ_cons, List.take_zero, List.take_nil, List.drop_succ_cons, List.drop_zero, List.drop_nil, AVal.flat])
        refine WL_seq ?_
        refine WL_drawT [] rfl ?_
        refine S_h (d := some 36) rfl rfl rfl rfl rfl ?_
        refine S_c 23 rfl rfl rfl (callA_of rfl (list_c _ a)) ?_
        refine S_h (d := some 38) rfl rfl rfl rfl rfl ?_
        refine S_c 24 rfl rfl rfl (callA_of rfl (list_ref _ a)) ?_
        refine S_c 13 rfl rfl rfl (callA_of rfl (same_self _ (listT a) (by rw [szT_list]; omega) wa.list)) ?_
        refine S_p rfl rfl rfl ?_
        refine WS_nil ?_
        refine WL_seq ?_
        apply WL_prune
        · (repeat (first | exact restr_nil | apply restr_cons rfl | apply restr_none rfl))
        conv => arg 4; (try simp only [List.set_cons_zero, List.set_cons_succ, List.nil_append, List.cons_append, List.length_cons, List.length_nil, Nat.zero_add, Nat.add_zero, Nat.reduceAdd, putCells_cT, take_cT, putCells, List.take_succ_cons, List.take_zero, List.take_nil, List.drop_succ_cons, List.drop_zero, List.drop_nil, AVal.flat])
        conv => arg 3; (try simp only [List.set_cons_zero, List.set_cons_succ, List.nil_append, List.cons_append, List.length_cons, List.length_nil, Nat.zero_add, Nat.add_zero, Nat.reduceAdd, putCells_cT, take_cT, putCells, List.take_succ_cons, List.take_zero, List.take_nil, List.drop_succ_cons, List.drop_zero, List.drop_nil, AVal.flat])
        refine WL_seq ?_
        refine WL_draw0 ?_
        refine D_h (d := some 41) rfl rfl rfl rfl rfl ?_
        refine D_h (d := some 42) rfl rfl rfl rfl rfl ?_
        refine D_c 25 rfl rfl rfl (callA_of rfl (pair_c _ a b)) ?_
        refine D_h (d := some 44) rfl rfl rfl rfl rfl ?_
        refine D_h (d := some 45) rfl rfl rfl rfl rfl ?_
        refine D_h (d := some 46) rfl rfl rfl rfl rfl ?_
        refine D_p rfl rfl rfl ?_
        refine D_c 13 rfl rfl rfl (callA_of (as := [vT (pairT a b), vT (pairT a b)]) (by simp [shutL, shutV, vT, cT, pairT, encT_eq, Ty.all, Ty.flat, Ty.pair, Ty.pairs, Ty.fn, Ty.funs, putCells, AVal.flat]) (same_self _ (pairT a b) (by rw [szT_pair]; omega) (wa.pair_ wb))) ?_
        refine D_p rfl rfl rfl ?_
        refine WD_nil ⟨by first | rfl | (simp [okFs, okEarlier, disj, notIn, noneIn, sameOn, sameB_self, glsL, glsV, partsGls, AOpd.ev, zeroB, outB] <;> (repeat' apply And.intro) <;> rfl), ?_⟩
        refine WL_seq ?_
        apply WL_prune
        · (repeat (first | exact restr_nil | apply restr_cons rfl | apply restr_none rfl))
        conv => arg 4; (try simp only [List.set_cons_zero, List.set_cons_succ, List.nil_append, List.cons_append, List.length_cons, List.length_nil, Nat.zero_add, Nat.add_zero, Nat.reduceAdd, putCells_cT, take_cT, putCells, List.take_succ_cons, List.take_zero, List.take_nil, List.drop_succ_cons, List.drop_zero, List.drop_nil, AVal.flat])
        conv => arg 3; (try simp only [List.set_cons_zero, List.set_cons_succ, List.nil_append, List.cons_append, List.length_cons, List.length_nil, Nat.zero_add, Nat.add_zero, Nat.reduceAdd, putCells_cT, take_cT, putCells, List.take_succ_cons, List.take_zero, List.take_nil, List.drop_succ_cons, List.drop_zero, List.drop_nil, AVal.flat])
        refine WL_seq ?_
        refine WL_draw0 ?_
        refine D_h (d := some 49) rfl rfl rfl rfl rfl ?_
        refine D_h (d := some 50) rfl rfl rfl rfl rfl ?_
        refine D_h (d := some 51) rfl rfl rfl rfl rfl ?_
        refine D_h (d := some 52) rfl rfl rfl rfl rfl ?_
        refine D_c 26 rfl rfl rfl (callA_of (as := [vT a, .lst [vT b, vT b] false]) rfl (fun2_c _ a b b)) ?_
        refine D_h (d := some 54) rfl rfl rfl rfl rfl ?_
        refine D_h (d := some 55) rfl rfl rfl rfl rfl ?_
        refine D_h (d := some 56) rfl rfl rfl rfl rfl ?_
        refine D_h (d := some 57) rfl rfl rfl rfl rfl ?_
        refine D_p rfl rfl rfl ?_
        refine D_c 13 rfl rfl rfl (callA_of (as := [vT (procT [b, b, a]), vT (procT [b, b, a])]) (by simp [shutL, shutV, vT, cT, procT, encT_eq, Ty.all, Ty.flat, Ty.pair, Ty.pairs, Ty.fn, Ty.funs, putCells, AVal.flat]) (same_self _ (procT [b, b, a]) (by rw [szT_proc]; simp [szTs]; omega) (.proc_ (by simp) (by intro z hz; simp at hz; rcases hz with rfl | rfl; exact wb; exact wa)))) ?_
        refine D_p rfl rfl rfl ?_
        refine WD_nil ⟨by first | rfl | (simp [okFs, okEarlier, disj, notIn, noneIn, sameOn, sameB_self, glsL, glsV, partsGls, AOpd.ev, zeroB, outB] <;> (repeat' apply And.intro) <;> rfl), ?_⟩
        refine WL_seq ?_
        apply WL_prune
        · (repeat (first | exact restr_nil | apply restr_cons rfl | apply restr_none rfl))
        conv => arg 4; (try simp only [List.set_cons_zero, List.set_cons_succ, List.nil_append, List.cons_append, List.length_cons, List.length_nil, Nat.zero_add, Nat.add_zero, Nat.reduceAdd, putCells_cT, take_cT, putCells, List.take_succ_cons, List.take_zero, List.take_nil, List.drop_succ_cons, List.drop_zero, List.drop_nil, AVal.flat])
        conv => arg 3; (try simp only [List.set_cons_zero, List.set_cons_succ, List.nil_append, List.cons_append, List.length_cons, List.length_nil, Nat.zero_add, Nat.add_zero, Nat.reduceAdd, putCells_cT, take_cT, putCells, List.take_succ_cons, List.take_zero, List.take_nil, List.drop_succ_cons, List.drop_zero, List.drop_nil, AVal.flat])
        refine WL_seq ?_
        refine WL_reg ?_
        refine O_p rfl rfl rfl ?_
        refine O_p rfl rfl rfl ?_
        apply O_and [_] rfl rfl (hT := ?hT63) (h := ?hR63)
        case hT63 =>
          intro hb61
          refine O_p rfl rfl rfl ?_
          exact WO_nil (WL_nil ⟨rfl, rfl, rfl⟩)
        case hR63 =>
          intro vs hvs
          obtain ⟨u62, rfl⟩ := len1 hvs
          clear hvs; dsimp only [junk]
          refine O_p rfl rfl rfl ?_
          apply O_and [_] rfl rfl (hT := ?hT66) (h := ?hR66)
          case hT66 =>
            intro hb64
            refine O_p rfl rfl rfl ?_
            exact WO_nil (WL_nil ⟨rfl, rfl, rfl⟩)
          case hR66 =>
            intro vs hvs
            obtain ⟨u65, rfl⟩ := len1 hvs
            clear hvs; dsimp only [junk]
            refine O_p rfl rfl rfl ?_
            apply O_and [_] rfl rfl (hT := ?hT69) (h := ?hR69)
            case hT69 =>
              intro hb67
              refine O_p rfl rfl rfl ?_
              exact WO_nil (WL_nil ⟨rfl, rfl, rfl⟩)
            case hR69 =>
              intro vs hvs
              obtain ⟨u68, rfl⟩ := len1 hvs
              clear hvs; dsimp only [junk]
              refine O_p rfl rfl rfl ?_
              apply O_and [_] rfl rfl (hT := ?hT72) (h := ?hR72)
              case hT72 =>
                intro hb70
                refine O_p rfl rfl rfl ?_
                exact WO_nil (WL_nil ⟨rfl, rfl, rfl⟩)
              case hR72 =>
                intro vs hvs
                obtain ⟨u71, rfl⟩ := len1 hvs
                clear hvs; dsimp only [junk]
                refine O_p rfl rfl rfl ?_
                apply O_and [_, _, _] rfl rfl (hT := ?hT77) (h := ?hR77)
                case hT77 =>
                  intro hb73
                  refine O_c 27 rfl rfl (callA_of rfl (all_c _)) ?_
                  refine O_p rfl rfl rfl ?_
                  refine O_c 13 rfl rfl (callA_of rfl (same_self _ allT (by show 1 < _; omega) .allT)) ?_
                  exact WO_nil (WL_nil ⟨rfl, rfl, rfl⟩)
                case hR77 =>
                  intro vs hvs
                  obtain ⟨u74, u75, u76, rfl⟩ := len3 hvs
                  clear hvs; dsimp only [junk]
                  refine O_p rfl rfl rfl ?_
                  refine WO_nil ?_
                  refine WL_ret ?_
                  exact ⟨_, rfl, _, rfl, rfl⟩
end Go.Ev.Seat
