/-
  The functions about coercions: the parts of pairs, who is blamed.
-/
import Derived.Test.YtbjoldcjbpngaaaCoerce4
set_option linter.unusedVariables false
set_option linter.unusedSimpArgs false
namespace Go.Ev.Seat
open Go Go.Ev
set_option maxRecDepth 20000
attribute [local irreducible] pcall callF
theorem car_c (n : Nat) (c : Co) (hok : okC c = true) : pcall (tabOf tabL) (n + 1) 31 [vC c] = some (.ok (vC (carC c))) := by
  have hfc := okC_facts hok
  refine pcall_fin t31 ?_
  refine WL_seq ?_
  refine WL_reg ?_
  refine O_n rfl rfl rfl ?_
  refine O_n rfl rfl rfl ?_
  refine WO_nil ?_
  refine WL_seq ?_
  apply WL_prune
  · (repeat (first | exact restr_nil | apply restr_cons rfl | apply restr_none rfl))
  refine WL_seq ?_
  refine WL_seq ?_
  refine WL_reg ?_
  refine O_p rfl rfl rfl ?_
  refine O_h rfl rfl rfl rfl ?_
  refine O_p rfl rfl rfl ?_
  refine WO_nil ?_
  refine WL_seq ?_
  apply WL_prune
  · (repeat (first | exact restr_nil | apply restr_cons rfl | apply restr_none rfl))
  refine WL_cond rfl (fun h5 => ?_) (fun h5 => ?_)
  · skip
    have hr : carC c = zeroC := by
      simp at h5; unfold carC; rw [if_pos h5]
    refine WL_seq ?_
    refine WL_reg ?_
    refine O_p rfl rfl rfl ?_
    refine O_hn rfl rfl rfl rfl ?_
    refine WO_nil ?_
    refine WL_ret ?_
    exact ⟨_, rfl, _, rfl, by rw [hr]; rfl⟩
  · skip
    simp at h5
    obtain ⟨x, hx, hr⟩ : ∃ x, c.pairs[0]? = some x ∧ carC c = x := by
      unfold carC; rw [if_neg (by omega)]
      rcases (show c.pair = 2 ∨ c.pair = 3 by omega) with q | q
      · obtain ⟨x, y, hp⟩ := pairs2 hok q; exact ⟨x, by rw [hp]; rfl, by rw [hp]; rfl⟩
      · obtain ⟨x, hp⟩ := pairs3 hok q; exact ⟨x, by rw [hp]; rfl, by rw [hp]; rfl⟩
    refine WL_skip ?_
    refine WL_seq ?_
    apply WL_prune
    · (repeat (first | exact restr_nil | apply restr_cons rfl | apply restr_none rfl))
    refine WL_seq ?_
    refine WL_reg ?_
    refine O_p rfl rfl rfl ?_
    refine O_h rfl rfl rfl rfl ?_
    refine O_ia rfl rfl (Int.natCast_nonneg _) (encC_get (i := (0 : Nat)) hx) (encC_flat _) rfl ?_
    refine O_h rfl rfl rfl rfl ?_
    refine O_hn rfl rfl rfl rfl ?_
    refine WO_nil ?_
    refine WL_ret ?_
    exact ⟨_, rfl, _, rfl, by rw [hr]; rfl⟩
theorem carR_c (n : Nat) (c : Co) (hok : okC c = true) : pcall (tabOf tabL) (n + 1) 32 [vC c] = some (.ok (vC (carC c))) := by
  have hfc := okC_facts hok
  refine pcall_fin t32 ?_
  refine WL_seq ?_
  refine WL_reg ?_
  refine O_n rfl rfl rfl ?_
  refine O_n rfl rfl rfl ?_
  refine WO_nil ?_
  refine WL_seq ?_
  apply WL_prune
  · (repeat (first | exact restr_nil | apply restr_cons rfl | apply restr_none rfl))
  refine WL_seq ?_
  refine WL_seq ?_
  refine WL_reg ?_
  refine O_p rfl rfl rfl ?_
  refine O_h rfl rfl rfl rfl ?_
  refine O_p rfl rfl rfl ?_
  refine WO_nil ?_
  refine WL_seq ?_
  apply WL_prune
  · (repeat (first | exact restr_nil | apply restr_cons rfl | apply restr_none rfl))
  refine WL_cond rfl (fun h5 => ?_) (fun h5 => ?_)
  · skip
    have hr : carC c = zeroC := by
      simp at h5; unfold carC; rw [if_pos h5]
    refine WL_seq ?_
    refine WL_reg ?_
    refine O_p rfl rfl rfl ?_
    refine O_hn rfl rfl rfl rfl ?_
    refine WO_nil ?_
    refine WL_ret ?_
    exact ⟨_, rfl, _, rfl, by rw [hr]; rfl⟩
  · skip
    simp at h5
    obtain ⟨x, hx, hr⟩ : ∃ x, c.pairs[0]? = some x ∧ carC c = x := by
      unfold carC; rw [if_neg (by omega)]
      rcases (show c.pair = 2 ∨ c.pair = 3 by omega) with q | q
      · obtain ⟨x, y, hp⟩ := pairs2 hok q; exact ⟨x, by rw [hp]; rfl, by rw [hp]; rfl⟩
      · obtain ⟨x, hp⟩ := pairs3 hok q; exact ⟨x, by rw [hp]; rfl, by rw [hp]; rfl⟩
    refine WL_skip ?_
    refine WL_seq ?_
    apply WL_prune
    · (repeat (first | exact restr_nil | apply restr_cons rfl | apply restr_none rfl))
    refine WL_seq ?_
    refine WL_reg ?_
    refine O_p rfl rfl rfl ?_
    refine O_h rfl rfl rfl rfl ?_
    refine O_ia rfl rfl (Int.natCast_nonneg _) (encC_get (i := (0 : Nat)) hx) (encC_flat _) rfl ?_
    refine O_h rfl rfl rfl rfl ?_
    refine O_hn rfl rfl rfl rfl ?_
    refine WO_nil ?_
    refine WL_ret ?_
    exact ⟨_, rfl, _, rfl, by rw [hr]; rfl⟩
theorem listsR_c (n : Nat) (x : Co) (l : Int) (hn : 10 < n) (h : l ≠ 0 ∨ passC x = false) : pcall (tabOf tabL) (n + 1) 54 [vC x, .int .i64 l] = some (.ok (vC (listsC x l))) := by
  obtain ⟨n, rfl⟩ : ∃ m, n = m + 2 := ⟨n - 2, by omega⟩
  refine pcall_fin t54 ?_
  refine WL_seq ?_
  refine WL_reg ?_
  refine O_n rfl rfl rfl ?_
  refine O_n rfl rfl rfl ?_
  refine WO_nil ?_
  refine WL_seq ?_
  apply WL_prune
  · (repeat (first | exact restr_nil | apply restr_cons rfl | apply restr_none rfl))
  conv => arg 4; (try simp only [List.set_cons_zero, List.set_cons_succ, List.nil_append, List.cons_append, List.length_cons, List.length_nil, Nat.zero_add, Nat.add_zero, Nat.reduceAdd, putCells_cT, take_cT,  putCells, List.take_succ_cons, List.take_zero, List.take_nil, List.drop_succ_cons, List.drop_zero, List.drop_nil, AVal.flat, List.replicate_succ, List.replicate_zero])
  conv => arg 3; (try simp only [List.set_cons_zero, List.set_cons_succ, List.nil_append, List.cons_append, List.length_cons, List.length_nil, Nat.zero_add, Nat.add_zero, Nat.reduceAdd, putCells_cT, take_cT,  putCells, List.take_succ_cons, List.take_zero, List.take_nil, List.drop_succ_cons, List.drop_zero, List.drop_nil, AVal.flat, List.replicate_succ, List.replicate_zero])
  refine WL_seq ?_
  refine WL_seq ?_
  refine WL_reg ?_
  refine O_h rfl rfl rfl rfl ?_
  refine O_c 28 rfl rfl (callA_of rfl (passR_c n x (by omega))) ?_
  refine O_p rfl rfl rfl ?_
  apply O_and [_, _] rfl rfl (hT := ?hT11) (h := ?hR11)
  case hT11 =>
    intro hb8
    refine O_p rfl rfl rfl ?_
    refine O_p rfl rfl rfl ?_
    exact WO_nil (WL_nil ⟨rfl, rfl, rfl⟩)
  case hR11 =>
    intro vs hvs
    obtain ⟨u9, u10, rfl⟩ := len2 hvs
    clear hvs; dsimp only [junk]
    refine WO_nil ?_
    refine WL_seq ?_
    apply WL_prune
    · (repeat (first | exact restr_nil | apply restr_cons rfl | apply restr_none rfl))
    conv => arg 4; (try simp only [List.set_cons_zero, List.set_cons_succ, List.nil_append, List.cons_append, List.length_cons, List.length_nil, Nat.zero_add, Nat.add_zero, Nat.reduceAdd, putCells_cT, take_cT,  putCells, List.take_succ_cons, List.take_zero, List.take_nil, List.drop_succ_cons, List.drop_zero, List.drop_nil, AVal.flat, List.replicate_succ, List.replicate_zero])
    conv => arg 3; (try simp only [List.set_cons_zero, List.set_cons_succ, List.nil_append, List.cons_append, List.length_cons, List.length_nil, Nat.zero_add, Nat.add_zero, Nat.reduceAdd, putCells_cT, take_cT,  putCells, List.take_succ_cons, List.take_zero, List.take_nil, List.drop_succ_cons, List.drop_zero, List.drop_nil, AVal.flat, List.replicate_succ, List.replicate_zero])
    try clear u9 u10
    refine WL_cond rfl (fun h11 => ?_) (fun h11 => ?_)
    · skip
      simp at h11; rcases h with q | q; exact absurd h11.2 q; rw [q] at h11; exact absurd h11.1 (by simp)
    · skip
      refine WL_skip ?_
      refine WL_seq ?_
      apply WL_prune
      · (repeat (first | exact restr_nil | apply restr_cons rfl | apply restr_none rfl))
      conv => arg 4; (try simp only [List.set_cons_zero, List.set_cons_succ, List.nil_append, List.cons_append, List.length_cons, List.length_nil, Nat.zero_add, Nat.add_zero, Nat.reduceAdd, putCells_cT, take_cT,  putCells, List.take_succ_cons, List.take_zero, List.take_nil, List.drop_succ_cons, List.drop_zero, List.drop_nil, AVal.flat, List.replicate_succ, List.replicate_zero])
      conv => arg 3; (try simp only [List.set_cons_zero, List.set_cons_succ, List.nil_append, List.cons_append, List.length_cons, List.length_nil, Nat.zero_add, Nat.add_zero, Nat.reduceAdd, putCells_cT, take_cT,  putCells, List.take_succ_cons, List.take_zero, List.take_nil, List.drop_succ_cons, List.drop_zero, List.drop_nil, AVal.flat, List.replicate_succ, List.replicate_zero])
      refine WL_seq ?_
      refine WL_reg ?_
      refine O_p rfl rfl rfl ?_
      refine O_p rfl rfl rfl ?_
      refine O_p rfl rfl rfl ?_
      refine O_p rfl rfl rfl ?_
      refine O_p rfl rfl rfl ?_
      refine O_v (.agg ([.int .i64 (l), .int .i64 (l), .int .i64 (l), .int .i64 (l), .int .i64 0, .int .i64 (l)])) rfl rfl rfl rfl ?_
      refine O_p rfl rfl rfl ?_
      refine O_h (v := vC x) rfl rfl rfl rfl ?_
      refine O_h (v := .lst [vC x] true) rfl rfl rfl rfl ?_
      refine O_v (.agg ([.int .i64 (l), .int .i64 (l), .int .i64 (l), .int .i64 (l), .int .i64 0, .int .i64 (l), .int .i64 3, .int .i64 (l), .lst [vC x] true, .int .i64 0, .int .i64 0, .lst [] true])) rfl rfl rfl rfl ?_
      refine O_n rfl rfl rfl ?_
      refine O_hn rfl rfl rfl rfl ?_
      refine WO_nil ?_
      refine WL_seq ?_
      apply WL_prune
      · (repeat (first | exact restr_nil | apply restr_cons rfl | apply restr_none rfl))
      conv => arg 4; (try simp only [List.set_cons_zero, List.set_cons_succ, List.nil_append, List.cons_append, List.length_cons, List.length_nil, Nat.zero_add, Nat.add_zero, Nat.reduceAdd, putCells_cT, take_cT,  putCells, List.take_succ_cons, List.take_zero, List.take_nil, List.drop_succ_cons, List.drop_zero, List.drop_nil, AVal.flat, List.replicate_succ, List.replicate_zero])
      conv => arg 3; (try simp only [List.set_cons_zero, List.set_cons_succ, List.nil_append, List.cons_append, List.length_cons, List.length_nil, Nat.zero_add, Nat.add_zero, Nat.reduceAdd, putCells_cT, take_cT,  putCells, List.take_succ_cons, List.take_zero, List.take_nil, List.drop_succ_cons, List.drop_zero, List.drop_nil, AVal.flat, List.replicate_succ, List.replicate_zero])
      refine WL_seq ?_
      refine WL_seq ?_
      refine WL_reg ?_
      refine O_p rfl rfl rfl ?_
      refine O_p rfl rfl rfl ?_
      refine WO_nil ?_
      refine WL_seq ?_
      apply WL_prune
      · (repeat (first | exact restr_nil | apply restr_cons rfl | apply restr_none rfl))
      conv => arg 4; (try simp only [List.set_cons_zero, List.set_cons_succ, List.nil_append, List.cons_append, List.length_cons, List.length_nil, Nat.zero_add, Nat.add_zero, Nat.reduceAdd, putCells_cT, take_cT,  putCells, List.take_succ_cons, List.take_zero, List.take_nil, List.drop_succ_cons, List.drop_zero, List.drop_nil, AVal.flat, List.replicate_succ, List.replicate_zero])
      conv => arg 3; (try simp only [List.set_cons_zero, List.set_cons_succ, List.nil_append, List.cons_append, List.length_cons, List.length_nil, Nat.zero_add, Nat.add_zero, Nat.reduceAdd, putCells_cT, take_cT,  putCells, List.take_succ_cons, List.take_zero, List.take_nil, List.drop_succ_cons, List.drop_zero, List.drop_nil, AVal.flat, List.replicate_succ, List.replicate_zero])
      refine WL_cond rfl (fun h24 => ?_) (fun h24 => ?_)
      · skip
        simp at h24
        have hr := listsC_1 x l h24
        refine WL_seq ?_
        refine WL_reg ?_
        refine O_p rfl rfl rfl ?_
        refine O_hn rfl rfl rfl rfl ?_
        refine WO_nil ?_
        refine WL_seq ?_
        apply WL_prune
        · (repeat (first | exact restr_nil | apply restr_cons rfl | apply restr_none rfl))
        conv => arg 4; (try simp only [List.set_cons_zero, List.set_cons_succ, List.nil_append, List.cons_append, List.length_cons, List.length_nil, Nat.zero_add, Nat.add_zero, Nat.reduceAdd, putCells_cT, take_cT,  putCells, List.take_succ_cons, List.take_zero, List.take_nil, List.drop_succ_cons, List.drop_zero, List.drop_nil, AVal.flat, List.replicate_succ, List.replicate_zero])
        conv => arg 3; (try simp only [List.set_cons_zero, List.set_cons_succ, List.nil_append, List.cons_append, List.length_cons, List.length_nil, Nat.zero_add, Nat.add_zero, Nat.reduceAdd, putCells_cT, take_cT,  putCells, List.take_succ_cons, List.take_zero, List.take_nil, List.drop_succ_cons, List.drop_zero, List.drop_nil, AVal.flat, List.replicate_succ, List.replicate_zero])
        refine WL_reg ?_
        refine O_p rfl rfl rfl ?_
        refine O_p rfl rfl rfl ?_
        refine O_hn rfl rfl rfl rfl ?_
        refine WO_nil ?_
        refine WL_seq ?_
        apply WL_prune
        · (repeat (first | exact restr_nil | apply restr_cons rfl | apply restr_none rfl))
        conv => arg 4; (try simp only [List.set_cons_zero, List.set_cons_succ, List.nil_append, List.cons_append, List.length_cons, List.length_nil, Nat.zero_add, Nat.add_zero, Nat.reduceAdd, putCells_cT, take_cT,  putCells, List.take_succ_cons, List.take_zero, List.take_nil, List.drop_succ_cons, List.drop_zero, List.drop_nil, AVal.flat, List.replicate_succ, List.replicate_zero])
        conv => arg 3; (try simp only [List.set_cons_zero, List.set_cons_succ, List.nil_append, List.cons_append, List.length_cons, List.length_nil, Nat.zero_add, Nat.add_zero, Nat.reduceAdd, putCells_cT, take_cT,  putCells, List.take_succ_cons, List.take_zero, List.take_nil, List.drop_succ_cons, List.drop_zero, List.drop_nil, AVal.flat, List.replicate_succ, List.replicate_zero])
        refine WL_seq ?_
        refine WL_reg ?_
        refine O_h rfl rfl rfl rfl ?_
        refine O_hn rfl rfl rfl rfl ?_
        refine WO_nil ?_
        refine WL_ret ?_
        exact ⟨_, rfl, _, rfl, by show _ = Ex.ok _; rw [show vC (listsC x l) = .agg (cC (listsC x l)) from rfl, hr]; try rfl⟩
      · skip
        simp at h24
        have hr := listsC_0 x l h24
        refine WL_skip ?_
        refine WL_seq ?_
        apply WL_prune
        · (repeat (first | exact restr_nil | apply restr_cons rfl | apply restr_none rfl))
        conv => arg 4; (try simp only [List.set_cons_zero, List.set_cons_succ, List.nil_append, List.cons_append, List.length_cons, List.length_nil, Nat.zero_add, Nat.add_zero, Nat.reduceAdd, putCells_cT, take_cT,  putCells, List.take_succ_cons, List.take_zero, List.take_nil, List.drop_succ_cons, List.drop_zero, List.drop_nil, AVal.flat, List.replicate_succ, List.replicate_zero])
        conv => arg 3; (try simp only [List.set_cons_zero, List.set_cons_succ, List.nil_append, List.cons_append, List.length_cons, List.length_nil, Nat.zero_add, Nat.add_zero, Nat.reduceAdd, putCells_cT, take_cT,  putCells, List.take_succ_cons, List.take_zero, List.take_nil, List.drop_succ_cons, List.drop_zero, List.drop_nil, AVal.flat, List.replicate_succ, List.replicate_zero])
        refine WL_seq ?_
        refine WL_reg ?_
        refine O_h rfl rfl rfl rfl ?_
        refine O_hn rfl rfl rfl rfl ?_
        refine WO_nil ?_
        refine WL_ret ?_
        exact ⟨_, rfl, _, rfl, by show _ = Ex.ok _; rw [show vC (listsC x l) = .agg (cC (listsC x l)) from rfl, hr]; try rfl⟩
theorem cdr_c (n : Nat) (c : Co) (hok : okC c = true) : pcall (tabOf tabL) (n + 1) 33 [vC c] = some (.ok (vC (cdrC c))) := by
  have hfc := okC_facts hok
  refine pcall_fin t33 ?_
  refine WL_seq ?_
  refine WL_reg ?_
  refine O_n rfl rfl rfl ?_
  refine O_n rfl rfl rfl ?_
  refine WO_nil ?_
  refine WL_seq ?_
  apply WL_prune
  · (repeat (first | exact restr_nil | apply restr_cons rfl | apply restr_none rfl))
  conv => arg 4; (try simp only [List.set_cons_zero, List.set_cons_succ, List.nil_append, List.cons_append, List.length_cons, List.length_nil, Nat.zero_add, Nat.add_zero, Nat.reduceAdd, putCells_cT, take_cT,  putCells, List.take_succ_cons, List.take_zero, List.take_nil, List.drop_succ_cons, List.drop_zero, List.drop_nil, AVal.flat, List.replicate_succ, List.replicate_zero])
  conv => arg 3; (try simp only [List.set_cons_zero, List.set_cons_succ, List.nil_append, List.cons_append, List.length_cons, List.length_nil, Nat.zero_add, Nat.add_zero, Nat.reduceAdd, putCells_cT, take_cT,  putCells, List.take_succ_cons, List.take_zero, List.take_nil, List.drop_succ_cons, List.drop_zero, List.drop_nil, AVal.flat, List.replicate_succ, List.replicate_zero])
  refine WL_seq ?_
  refine WL_seq ?_
  refine WL_reg ?_
  refine O_p rfl rfl rfl ?_
  refine O_h rfl rfl rfl rfl ?_
  refine WO_nil ?_
  refine WL_seq ?_
  apply WL_prune
  · (repeat (first | exact restr_nil | apply restr_cons rfl | apply restr_none rfl))
  conv => arg 4; (try simp only [List.set_cons_zero, List.set_cons_succ, List.nil_append, List.cons_append, List.length_cons, List.length_nil, Nat.zero_add, Nat.add_zero, Nat.reduceAdd, putCells_cT, take_cT,  putCells, List.take_succ_cons, List.take_zero, List.take_nil, List.drop_succ_cons, List.drop_zero, List.drop_nil, AVal.flat, List.replicate_succ, List.replicate_zero])
  conv => arg 3; (try simp only [List.set_cons_zero, List.set_cons_succ, List.nil_append, List.cons_append, List.length_cons, List.length_nil, Nat.zero_add, Nat.add_zero, Nat.reduceAdd, putCells_cT, take_cT,  putCells, List.take_succ_cons, List.take_zero, List.take_nil, List.drop_succ_cons, List.drop_zero, List.drop_nil, AVal.flat, List.replicate_succ, List.replicate_zero])
  refine WL_block ?_
  refine WL_seq ?_
  refine WL_reg ?_
  refine O_p rfl rfl rfl ?_
  refine O_p rfl rfl rfl ?_
  refine WO_nil ?_
  refine WL_seq ?_
  apply WL_prune
  · (repeat (first | exact restr_nil | apply restr_cons rfl | apply restr_none rfl))
  conv => arg 4; (try simp only [List.set_cons_zero, List.set_cons_succ, List.nil_append, List.cons_append, List.length_cons, List.length_nil, Nat.zero_add, Nat.add_zero, Nat.reduceAdd, putCells_cT, take_cT,  putCells, List.take_succ_cons, List.take_zero, List.take_nil, List.drop_succ_cons, List.drop_zero, List.drop_nil, AVal.flat, List.replicate_succ, List.replicate_zero])
  conv => arg 3; (try simp only [List.set_cons_zero, List.set_cons_succ, List.nil_append, List.cons_append, List.length_cons, List.length_nil, Nat.zero_add, Nat.add_zero, Nat.reduceAdd, putCells_cT, take_cT,  putCells, List.take_succ_cons, List.take_zero, List.take_nil, List.drop_succ_cons, List.drop_zero, List.drop_nil, AVal.flat, List.replicate_succ, List.replicate_zero])
  refine WL_cond rfl (fun h7 => ?_) (fun h7 => ?_)
  · skip
    simp at h7
    obtain ⟨x, y, hp⟩ := pairs2 hok h7
    have hy : c.pairs[1]? = some y := by rw [hp]; rfl
    have hr : cC (cdrC c) = cC y := by unfold cdrC; rw [if_pos h7, hp]; rfl
    refine WL_seq ?_
    refine WL_reg ?_
    refine O_p rfl rfl rfl ?_
    refine O_h rfl rfl rfl rfl ?_
    refine O_ia rfl rfl (Int.natCast_nonneg _) (encC_get (i := (1 : Nat)) hy) (encC_flat _) rfl ?_
    refine O_h rfl rfl rfl rfl ?_
    refine O_hn rfl rfl rfl rfl ?_
    refine WO_nil ?_
    refine WL_ret ?_
    refine Blk_ret ?_
    exact ⟨_, rfl, _, rfl, by show _ = Ex.ok _; rw [show vC (cdrC c) = .agg (cC (cdrC c)) from rfl, hr]; try rfl⟩
  · skip
    simp at h7
    refine WL_seq ?_
    refine WL_reg ?_
    refine O_p rfl rfl rfl ?_
    refine O_p rfl rfl rfl ?_
    refine WO_nil ?_
    refine WL_seq ?_
    apply WL_prune
    · (repeat (first | exact restr_nil | apply restr_cons rfl | apply restr_none rfl))
    conv => arg 4; (try simp only [List.set_cons_zero, List.set_cons_succ, List.nil_append, List.cons_append, List.length_cons, List.length_nil, Nat.zero_add, Nat.add_zero, Nat.reduceAdd, putCells_cT, take_cT,  putCells, List.take_succ_cons, List.take_zero, List.take_nil, List.drop_succ_cons, List.drop_zero, List.drop_nil, AVal.flat, List.replicate_succ, List.replicate_zero])
    conv => arg 3; (try simp only [List.set_cons_zero, List.set_cons_succ, List.nil_append, List.cons_append, List.length_cons, List.length_nil, Nat.zero_add, Nat.add_zero, Nat.reduceAdd, putCells_cT, take_cT,  putCells, List.take_succ_cons, List.take_zero, List.take_nil, List.drop_succ_cons, List.drop_zero, List.drop_nil, AVal.flat, List.replicate_succ, List.replicate_zero])
    refine WL_cond rfl (fun h13 => ?_) (fun h13 => ?_)
    · skip
      simp at h13
      obtain ⟨x, hp⟩ := pairs3 hok h13
      have hr0 : cdrC c = listsC x c.plab := by unfold cdrC; rw [if_neg h7, if_pos h13, hp]; rfl
      refine WL_seq ?_
      refine WL_reg ?_
      refine O_p rfl rfl rfl ?_
      refine O_h rfl rfl rfl rfl ?_
      refine O_p rfl rfl rfl ?_
      refine WO_nil ?_
      refine WL_seq ?_
      apply WL_prune
      · (repeat (first | exact restr_nil | apply restr_cons rfl | apply restr_none rfl))
      conv => arg 4; (try simp only [List.set_cons_zero, List.set_cons_succ, List.nil_append, List.cons_append, List.length_cons, List.length_nil, Nat.zero_add, Nat.add_zero, Nat.reduceAdd, putCells_cT, take_cT,  putCells, List.take_succ_cons, List.take_zero, List.take_nil, List.drop_succ_cons, List.drop_zero, List.drop_nil, AVal.flat, List.replicate_succ, List.replicate_zero])
      conv => arg 3; (try simp only [List.set_cons_zero, List.set_cons_succ, List.nil_append, List.cons_append, List.length_cons, List.length_nil, Nat.zero_add, Nat.add_zero, Nat.reduceAdd, putCells_cT, take_cT,  putCells, List.take_succ_cons, List.take_zero, List.take_nil, List.drop_succ_cons, List.drop_zero, List.drop_nil, AVal.flat, List.replicate_succ, List.replicate_zero])
      refine WL_seq ?_
      refine WL_reg ?_
      refine O_p rfl rfl rfl ?_
      refine O_p rfl rfl rfl ?_
      refine O_p rfl rfl rfl ?_
      refine O_p rfl rfl rfl ?_
      refine O_p rfl rfl rfl ?_
      refine O_v (.agg ([.int .i64 (c.plab), .int .i64 (c.plab), .int .i64 (c.plab), .int .i64 (c.plab), .int .i64 0, .int .i64 (c.plab)])) rfl rfl rfl rfl ?_
      refine O_p rfl rfl rfl ?_
      refine O_p rfl rfl rfl ?_
      refine O_h rfl rfl rfl rfl ?_
      refine O_v (.agg ([.int .i64 (c.plab), .int .i64 (c.plab), .int .i64 (c.plab), .int .i64 (c.plab), .int .i64 0, .int .i64 (c.plab), .int .i64 3, .int .i64 (c.plab), .lst (c.pairs.map encC) false, .int .i64 0, .int .i64 0, .lst [] true])) rfl rfl rfl rfl ?_
      refine O_n rfl rfl rfl ?_
      refine O_hn rfl rfl rfl rfl ?_
      refine WO_nil ?_
      refine WL_seq ?_
      apply WL_prune
      · (repeat (first | exact restr_nil | apply restr_cons rfl | apply restr_none rfl))
      conv => arg 4; (try simp only [List.set_cons_zero, List.set_cons_succ, List.nil_append, List.cons_append, List.length_cons, List.length_nil, Nat.zero_add, Nat.add_zero, Nat.reduceAdd, putCells_cT, take_cT,  putCells, List.take_succ_cons, List.take_zero, List.take_nil, List.drop_succ_cons, List.drop_zero, List.drop_nil, AVal.flat, List.replicate_succ, List.replicate_zero])
      conv => arg 3; (try simp only [List.set_cons_zero, List.set_cons_succ, List.nil_append, List.cons_append, List.length_cons, List.length_nil, Nat.zero_add, Nat.add_zero, Nat.reduceAdd, putCells_cT, take_cT,  putCells, List.take_succ_cons, List.take_zero, List.take_nil, List.drop_succ_cons, List.drop_zero, List.drop_nil, AVal.flat, List.replicate_succ, List.replicate_zero])
      refine WL_seq ?_
      refine WL_seq ?_
      refine WL_reg ?_
      refine O_p rfl rfl rfl ?_
      refine O_p rfl rfl rfl ?_
      refine WO_nil ?_
      refine WL_seq ?_
      apply WL_prune
      · (repeat (first | exact restr_nil | apply restr_cons rfl | apply restr_none rfl))
      conv => arg 4; (try simp only [List.set_cons_zero, List.set_cons_succ, List.nil_append, List.cons_append, List.length_cons, List.length_nil, Nat.zero_add, Nat.add_zero, Nat.reduceAdd, putCells_cT, take_cT,  putCells, List.take_succ_cons, List.take_zero, List.take_nil, List.drop_succ_cons, List.drop_zero, List.drop_nil, AVal.flat, List.replicate_succ, List.replicate_zero])
      conv => arg 3; (try simp only [List.set_cons_zero, List.set_cons_succ, List.nil_append, List.cons_append, List.length_cons, List.length_nil, Nat.zero_add, Nat.add_zero, Nat.reduceAdd, putCells_cT, take_cT,  putCells, List.take_succ_cons, List.take_zero, List.take_nil, List.drop_succ_cons, List.drop_zero, List.drop_nil, AVal.flat, List.replicate_succ, List.replicate_zero])
      refine WL_cond rfl (fun h28 => ?_) (fun h28 => ?_)
      · skip
        simp at h28
        have hr : cC (cdrC c) = _ := (congrArg cC hr0).trans (listsC_1 x _ h28)
        simp only [hp, List.map_cons, List.map_nil, encC_eq]
        refine WL_reg ?_
        refine O_p rfl rfl rfl ?_
        refine O_p rfl rfl rfl ?_
        refine O_hn rfl rfl rfl rfl ?_
        refine O_p rfl rfl rfl ?_
        refine O_hn rfl rfl rfl rfl ?_
        refine WO_nil ?_
        refine WL_seq ?_
        apply WL_prune
        · (repeat (first | exact restr_nil | apply restr_cons rfl | apply restr_none rfl))
        conv => arg 4; (try simp only [List.set_cons_zero, List.set_cons_succ, List.nil_append, List.cons_append, List.length_cons, List.length_nil, Nat.zero_add, Nat.add_zero, Nat.reduceAdd, putCells_cT, take_cT,  putCells, List.take_succ_cons, List.take_zero, List.take_nil, List.drop_succ_cons, List.drop_zero, List.drop_nil, AVal.flat, List.replicate_succ, List.replicate_zero])
        conv => arg 3; (try simp only [List.set_cons_zero, List.set_cons_succ, List.nil_append, List.cons_append, List.length_cons, List.length_nil, Nat.zero_add, Nat.add_zero, Nat.reduceAdd, putCells_cT, take_cT,  putCells, List.take_succ_cons, List.take_zero, List.take_nil, List.drop_succ_cons, List.drop_zero, List.drop_nil, AVal.flat, List.replicate_succ, List.replicate_zero])
        refine WL_seq ?_
        refine WL_reg ?_
        refine O_h rfl rfl rfl rfl ?_
        refine O_hn rfl rfl rfl rfl ?_
        refine WO_nil ?_
        refine WL_ret ?_
        refine Blk_ret ?_
        exact ⟨_, rfl, _, rfl, by show _ = Ex.ok _; rw [show vC (cdrC c) = .agg (cC (cdrC c)) from rfl, hr]; try rfl⟩
      · skip
        simp at h28
        have hr : cC (cdrC c) = _ := (congrArg cC hr0).trans (listsC_0 x _ h28)
        simp only [hp, List.map_cons, List.map_nil, encC_eq]
        refine WL_skip ?_
        refine WL_seq ?_
        apply WL_prune
        · (repeat (first | exact restr_nil | apply restr_cons rfl | apply restr_none rfl))
        conv => arg 4; (try simp only [List.set_cons_zero, List.set_cons_succ, List.nil_append, List.cons_append, List.length_cons, List.length_nil, Nat.zero_add, Nat.add_zero, Nat.reduceAdd, putCells_cT, take_cT,  putCells, List.take_succ_cons, List.take_zero, List.take_nil, List.drop_succ_cons, List.drop_zero, List.drop_nil, AVal.flat, List.replicate_succ, List.replicate_zero])
        conv => arg 3; (try simp only [List.set_cons_zero, List.set_cons_succ, List.nil_append, List.cons_append, List.length_cons, List.length_nil, Nat.zero_add, Nat.add_zero, Nat.reduceAdd, putCells_cT, take_cT,  putCells, List.take_succ_cons, List.take_zero, List.take_nil, List.drop_succ_cons, List.drop_zero, List.drop_nil, AVal.flat, List.replicate_succ, List.replicate_zero])
        refine WL_seq ?_
        refine WL_reg ?_
        refine O_h rfl rfl rfl rfl ?_
        refine O_hn rfl rfl rfl rfl ?_
        refine WO_nil ?_
        refine WL_ret ?_
        refine Blk_ret ?_
        exact ⟨_, rfl, _, rfl, by show _ = Ex.ok _; rw [show vC (cdrC c) = .agg (cC (cdrC c)) from rfl, hr]; try rfl⟩
    · skip
      simp at h13
      have hr : cC (cdrC c) = cC zeroC := by unfold cdrC; rw [if_neg h7, if_neg h13]
      refine WL_skip ?_
      refine WL_nil ?_
      refine Blk_norm (?_ : WL _ _ _ _ _)
      refine WL_seq ?_
      apply WL_prune
      · (repeat (first | exact restr_nil | apply restr_cons rfl | apply restr_none rfl))
      conv => arg 4; (try simp only [List.set_cons_zero, List.set_cons_succ, List.nil_append, List.cons_append, List.length_cons, List.length_nil, Nat.zero_add, Nat.add_zero, Nat.reduceAdd, putCells_cT, take_cT,  putCells, List.take_succ_cons, List.take_zero, List.take_nil, List.drop_succ_cons, List.drop_zero, List.drop_nil, AVal.flat, List.replicate_succ, List.replicate_zero])
      conv => arg 3; (try simp only [List.set_cons_zero, List.set_cons_succ, List.nil_append, List.cons_append, List.length_cons, List.length_nil, Nat.zero_add, Nat.add_zero, Nat.reduceAdd, putCells_cT, take_cT,  putCells, List.take_succ_cons, List.take_zero, List.take_nil, List.drop_succ_cons, List.drop_zero, List.drop_nil, AVal.flat, List.replicate_succ, List.replicate_zero])
      refine WL_seq ?_
      refine WL_reg ?_
      refine O_p rfl rfl rfl ?_
      refine O_hn rfl rfl rfl rfl ?_
      refine WO_nil ?_
      refine WL_ret ?_
      exact ⟨_, rfl, _, rfl, by show _ = Ex.ok _; rw [show vC (cdrC c) = .agg (cC (cdrC c)) from rfl, hr]; try rfl⟩
theorem cdrR_c (n : Nat) (c : Co) (hn : 12 < n) (hok : okC c = true) : pcall (tabOf tabL) (n + 1) 34 [vC c] = some (.ok (vC (cdrC c))) := by
  obtain ⟨n, rfl⟩ : ∃ m, n = m + 1 := ⟨n - 1, by omega⟩
  have hfc := okC_facts hok
  refine pcall_fin t34 ?_
  refine WL_seq ?_
  refine WL_reg ?_
  refine O_n rfl rfl rfl ?_
  refine O_n rfl rfl rfl ?_
  refine WO_nil ?_
  refine WL_seq ?_
  apply WL_prune
  · (repeat (first | exact restr_nil | apply restr_cons rfl | apply restr_none rfl))
  refine WL_seq ?_
  refine WL_seq ?_
  refine WL_reg ?_
  refine O_p rfl rfl rfl ?_
  refine O_h rfl rfl rfl rfl ?_
  refine O_p rfl rfl rfl ?_
  refine WO_nil ?_
  refine WL_seq ?_
  apply WL_prune
  · (repeat (first | exact restr_nil | apply restr_cons rfl | apply restr_none rfl))
  refine WL_cond rfl (fun h5 => ?_) (fun h5 => ?_)
  · skip
    simp at h5
    have hr : cC (cdrC c) = cC zeroC := by unfold cdrC; rw [if_neg (by omega), if_neg (by omega)]
    refine WL_seq ?_
    refine WL_reg ?_
    refine O_p rfl rfl rfl ?_
    refine O_hn rfl rfl rfl rfl ?_
    refine WO_nil ?_
    refine WL_ret ?_
    exact ⟨_, rfl, _, rfl, by show _ = Ex.ok _; rw [show vC (cdrC c) = .agg (cC (cdrC c)) from rfl, hr]; try rfl⟩
  · skip
    simp at h5
    refine WL_skip ?_
    refine WL_seq ?_
    apply WL_prune
    · (repeat (first | exact restr_nil | apply restr_cons rfl | apply restr_none rfl))
    refine WL_seq ?_
    refine WL_seq ?_
    refine WL_reg ?_
    refine O_p rfl rfl rfl ?_
    refine O_h rfl rfl rfl rfl ?_
    refine O_p rfl rfl rfl ?_
    refine WO_nil ?_
    refine WL_seq ?_
    apply WL_prune
    · (repeat (first | exact restr_nil | apply restr_cons rfl | apply restr_none rfl))
    refine WL_cond rfl (fun h9 => ?_) (fun h9 => ?_)
    · skip
      simp at h9
      obtain ⟨x, y, hp⟩ := pairs2 hok h9
      have hy : c.pairs[1]? = some y := by rw [hp]; rfl
      have hr : cC (cdrC c) = cC y := by unfold cdrC; rw [if_pos h9, hp]; rfl
      refine WL_seq ?_
      refine WL_reg ?_
      refine O_p rfl rfl rfl ?_
      refine O_h rfl rfl rfl rfl ?_
      refine O_ia rfl rfl (Int.natCast_nonneg _) (encC_get (i := (1 : Nat)) hy) (encC_flat _) rfl ?_
      refine O_h rfl rfl rfl rfl ?_
      refine O_hn rfl rfl rfl rfl ?_
      refine WO_nil ?_
      refine WL_ret ?_
      exact ⟨_, rfl, _, rfl, by show _ = Ex.ok _; rw [show vC (cdrC c) = .agg (cC (cdrC c)) from rfl, hr]; try rfl⟩
    · skip
      simp at h9
      have h3 : c.pair = 3 := by omega
      obtain ⟨x, hp⟩ := pairs3 hok h3
      have hx : c.pairs[0]? = some x := by rw [hp]; rfl
      have hr : cC (cdrC c) = cC (listsC x c.plab) := by unfold cdrC; rw [if_neg h9, if_pos h3, hp]; rfl
      have hl : c.plab ≠ 0 ∨ passC x = false := by
        obtain ⟨q1, q2, q3, q4, q5, q6, q7, q8, q9, q10, q11, q12, _⟩ := (okC_iff c).1 hok
        have := q12 h3
        rw [hp] at this; simpa [anyA] using this
      refine WL_skip ?_
      refine WL_seq ?_
      apply WL_prune
      · (repeat (first | exact restr_nil | apply restr_cons rfl | apply restr_none rfl))
      refine WL_seq ?_
      refine WL_drawS (ops := [_, _, _, _, _, _, _, _]) rfl rfl ?_
      refine O_p rfl rfl rfl ?_
      refine O_h rfl rfl rfl rfl ?_
      refine O_ia rfl rfl (Int.natCast_nonneg _) (encC_get (i := (0 : Nat)) hx) (encC_flat _) rfl ?_
      refine O_h rfl rfl rfl rfl ?_
      refine O_p rfl rfl rfl ?_
      refine O_h rfl rfl rfl rfl ?_
      refine O_c 54 rfl rfl (callA_of rfl (listsR_c n x c.plab (by omega) hl)) ?_
      refine O_hn rfl rfl rfl rfl ?_
      refine WO_nil (WL_nil ⟨rfl, ?_⟩)
      refine WL_ret ?_
      exact ⟨_, rfl, _, rfl, by show _ = Ex.ok _; rw [show vC (cdrC c) = .agg (cC (cdrC c)) from rfl, hr]; try rfl⟩
theorem first_c (n : Nat) (c : Co) (tag : Int) (hn : 6 < n) : pcall (tabOf tabL) (n + 1) 24 [vC c, .int .i64 tag] = some (.ok (.int .i64 (firstC c tag))) := by
  refine pcall_fin t24 ?_
  refine WL_seq ?_
  refine WL_reg ?_
  refine O_n rfl rfl rfl ?_
  refine O_p rfl rfl rfl ?_
  refine WO_nil ?_
  refine WL_seq ?_
  apply WL_prune
  · (repeat (first | exact restr_nil | apply restr_cons rfl | apply restr_none rfl))
  refine WL_seq ?_
  refine WL_block ?_
  refine WL_seq ?_
  refine WL_reg ?_
  refine O_p rfl rfl rfl ?_
  refine O_p rfl rfl rfl ?_
  refine O_p rfl rfl rfl ?_
  apply O_and [_, _, _] rfl rfl (hT := ?hT14) (h := ?hR14)
  case hT14 =>
    intro hb10
    refine O_p rfl rfl rfl ?_
    refine O_h rfl rfl rfl rfl ?_
    refine O_p rfl rfl rfl ?_
    exact WO_nil (WL_nil ⟨rfl, rfl, rfl⟩)
  case hR14 =>
    intro vs hvs
    obtain ⟨u11, u12, u13, rfl⟩ := len3 hvs
    clear hvs; dsimp only [junk]
    refine O_p rfl rfl rfl ?_
    refine WO_nil ?_
    refine WL_seq ?_
    apply WL_prune
    · (repeat (first | exact restr_nil | apply restr_cons rfl | apply restr_none rfl))
    try clear u11 u12 u13
    refine WL_cond rfl (fun h7 => ?_) (fun h7 => ?_)
    · skip
      have hr : firstC c tag = c.plab := by simp at h7; unfold firstC; rw [if_pos h7]
      refine WL_seq ?_
      refine WL_reg ?_
      refine O_p rfl rfl rfl ?_
      refine O_h rfl rfl rfl rfl ?_
      refine O_p rfl rfl rfl ?_
      refine WO_nil ?_
      refine WL_ret ?_
      refine Blk_ret ?_
      exact ⟨_, rfl, _, rfl, by rw [hr]⟩
    · skip
      simp at h7
      refine WL_seq ?_
      refine WL_reg ?_
      refine O_p rfl rfl rfl ?_
      refine O_p rfl rfl rfl ?_
      refine O_p rfl rfl rfl ?_
      apply O_and [_, _, _] rfl rfl (hT := ?hT24) (h := ?hR24)
      case hT24 =>
        intro hb20
        refine O_p rfl rfl rfl ?_
        refine O_h rfl rfl rfl rfl ?_
        refine O_p rfl rfl rfl ?_
        exact WO_nil (WL_nil ⟨rfl, rfl, rfl⟩)
      case hR24 =>
        intro vs hvs
        obtain ⟨u21, u22, u23, rfl⟩ := len3 hvs
        clear hvs; dsimp only [junk]
        refine O_p rfl rfl rfl ?_
        refine WO_nil ?_
        refine WL_seq ?_
        apply WL_prune
        · (repeat (first | exact restr_nil | apply restr_cons rfl | apply restr_none rfl))
        try clear u21 u22 u23
        refine WL_cond rfl (fun h17 => ?_) (fun h17 => ?_)
        · skip
          have hr : firstC c tag = c.flab := by simp at h17; unfold firstC; rw [if_neg (by intro q; exact h7 q.1 q.2), if_pos h17]
          refine WL_seq ?_
          refine WL_reg ?_
          refine O_p rfl rfl rfl ?_
          refine O_h rfl rfl rfl rfl ?_
          refine O_p rfl rfl rfl ?_
          refine WO_nil ?_
          refine WL_ret ?_
          refine Blk_ret ?_
          exact ⟨_, rfl, _, rfl, by rw [hr]⟩
        · skip
          simp at h17
          have hr0 : firstC c tag = flatAt c tag := by unfold firstC; rw [if_neg (by intro q; exact h7 q.1 q.2), if_neg (by intro q; exact h17 q.1 q.2)]
          refine WL_skip ?_
          refine WL_nil ?_
          refine Blk_norm (?_ : WL _ _ _ _ _)
          refine WL_seq ?_
          apply WL_prune
          · (repeat (first | exact restr_nil | apply restr_cons rfl | apply restr_none rfl))
          refine WL_seq ?_
          refine WL_seq ?_
          refine WL_reg ?_
          refine O_p rfl rfl rfl ?_
          refine O_h rfl rfl rfl rfl ?_
          refine O_p rfl rfl rfl ?_
          refine WO_nil ?_
          refine WL_seq ?_
          apply WL_prune
          · (repeat (first | exact restr_nil | apply restr_cons rfl | apply restr_none rfl))
          refine WL_block ?_
          apply WL_forc (α := Nat) (fun i => [(29, .int .i64 (i : Nat))]) (fun i => i ≤ 6 ∧ ∀ j, j < i → tag ≠ 2 ^ j) (fun i => 6 - i) (0) (he := ?he) (hP := ?hP) (hk := ?hk) (round := ?round)
          case he =>
            (repeat (first | exact restr_nil | apply restr_cons rfl | apply restr_none rfl))
          case hP =>
            exact ⟨by omega, fun j hj => by omega⟩
          case hk =>
            show 6 - 0 < n; omega
          case round =>
            rintro i ⟨hi, hs⟩
            dsimp only [List.cons_append, List.nil_append] at *
            refine WL_seq ?_
            refine WL_reg ?_
            refine O_p rfl rfl rfl ?_
            refine WO_nil ?_
            refine WL_seq ?_
            apply WL_prune
            · (repeat (first | exact restr_nil | apply restr_cons rfl | apply restr_none rfl))
            refine WL_seq ?_
            refine WL_cond rfl (fun h30 => ?_) (fun h30 => ?_)
            · skip
              replace h30 : i < 6 := by simp at h30; omega
              have hsh := shl_pow h30
              refine WL_skip ?_
              refine WL_seq ?_
              apply WL_prune
              · (repeat (first | exact restr_nil | apply restr_cons rfl | apply restr_none rfl))
              refine WL_seq ?_
              refine WL_block ?_
              refine WL_seq ?_
              refine WL_reg ?_
              refine O_p rfl rfl rfl ?_
              refine O_p (v := .int .i64 (c.flat i)) rfl rfl (ixa_six h30) ?_
              refine O_p rfl rfl rfl ?_
              refine O_p rfl rfl rfl ?_
              refine WO_nil ?_
              refine WL_seq ?_
              apply WL_prune
              · (repeat (first | exact restr_nil | apply restr_cons rfl | apply restr_none rfl))
              refine WL_seq ?_
              refine WL_reg ?_
              refine O_p rfl rfl rfl ?_
              refine O_p rfl rfl rfl ?_
              refine O_v (.int .i64 (2 ^ i)) rfl rfl rfl (by rw [hsh]) ?_
              refine O_p rfl rfl rfl ?_
              refine WO_nil ?_
              refine WL_seq ?_
              apply WL_prune
              · (repeat (first | exact restr_nil | apply restr_cons rfl | apply restr_none rfl))
              refine WL_cond rfl (fun h36 => ?_) (fun h36 => ?_)
              · skip
                have hr : firstC c tag = c.flat i := by
                  simp at h36; rw [h36]; exact firstC_pow c h30
                refine WL_seq ?_
                refine WL_reg ?_
                refine O_p rfl rfl rfl ?_
                refine O_p rfl rfl rfl ?_
                refine WO_nil ?_
                refine WL_ret ?_
                refine Blk_ret ?_
                refine RndC_ret ?_
                refine Blk_ret ?_
                exact ⟨_, rfl, _, rfl, by rw [hr]⟩
              · skip
                simp at h36
                refine WL_skip ?_
                refine WL_nil ?_
                refine Blk_norm (?_ : WL _ _ _ _ _)
                refine WL_seq ?_
                apply WL_prune
                · (repeat (first | exact restr_nil | apply restr_cons rfl | apply restr_none rfl))
                refine WL_reg ?_
                refine O_p rfl rfl rfl ?_
                refine O_p rfl rfl rfl ?_
                refine WO_nil ?_
                refine WL_nil ?_
                refine RndC_norm (i + 1) (by refine ⟨by omega, fun j hj => ?_⟩; rcases Nat.lt_succ_iff_lt_or_eq.1 hj with q | q; exact hs j q; rw [q]; exact h36) (by show _ < _; omega) ?_ rfl
                · rw [wrap_succ (by omega)]; (repeat (first | exact restr_nil | apply restr_cons rfl | apply restr_none rfl))
            · skip
              have hr : firstC c tag = 0 := by
                simp at h30; rw [hr0]; exact flatAt_none c fun j hj => hs j (by omega)
              refine WL_exit ?_
              refine RndC_exit ?_
              refine Blk_exit (?_ : WL _ _ _ _ _)
              refine WL_seq ?_
              apply WL_prune
              · (repeat (first | exact restr_nil | apply restr_cons rfl | apply restr_none rfl))
              refine WL_seq ?_
              refine WL_reg ?_
              refine O_p rfl rfl rfl ?_
              refine WO_nil ?_
              refine WL_ret ?_
              exact ⟨_, rfl, _, rfl, by rw [hr]⟩
theorem firstR_c (n : Nat) (c : Co) (tag : Int) (hn : 6 < n) : pcall (tabOf tabL) (n + 1) 35 [vC c, .int .i64 tag] = some (.ok (.int .i64 (firstC c tag))) := by
  refine pcall_fin t35 ?_
  refine WL_seq ?_
  refine WL_reg ?_
  refine O_n rfl rfl rfl ?_
  refine O_p rfl rfl rfl ?_
  refine WO_nil ?_
  refine WL_seq ?_
  apply WL_prune
  · (repeat (first | exact restr_nil | apply restr_cons rfl | apply restr_none rfl))
  refine WL_seq ?_
  refine WL_reg ?_
  refine O_p rfl rfl rfl ?_
  refine WO_nil ?_
  refine WL_seq ?_
  apply WL_prune
  · (repeat (first | exact restr_nil | apply restr_cons rfl | apply restr_none rfl))
  refine WL_seq ?_
  refine WL_seq ?_
  refine WL_reg ?_
  refine O_p rfl rfl rfl ?_
  refine WO_nil ?_
  refine WL_seq ?_
  apply WL_prune
  · (repeat (first | exact restr_nil | apply restr_cons rfl | apply restr_none rfl))
  refine WL_block ?_
  apply WL_forc (α := Nat) (fun i => [(5, .int .i64 (2 ^ i)), (6, .int .i64 (i : Nat))]) (fun i => i ≤ 6 ∧ ∀ j, j < i → tag ≠ 2 ^ j) (fun i => 6 - i) (0) (he := ?he) (hP := ?hP) (hk := ?hk) (round := ?round)
  case he =>
    (repeat (first | exact restr_nil | apply restr_cons rfl | apply restr_none rfl))
  case hP =>
    exact ⟨by omega, fun j hj => by omega⟩
  case hk =>
    show 6 - 0 < n; omega
  case round =>
    rintro i ⟨hi, hs⟩
    dsimp only [List.cons_append, List.nil_append] at *
    refine WL_seq ?_
    refine WL_seq ?_
    refine WL_reg ?_
    refine O_p rfl rfl rfl ?_
    refine O_p rfl rfl rfl ?_
    refine WO_nil ?_
    refine WL_seq ?_
    apply WL_prune
    · (repeat (first | exact restr_nil | apply restr_cons rfl | apply restr_none rfl))
    refine WL_cond rfl (fun h8 => ?_) (fun h8 => ?_)
    · skip
      replace h8 : i < 6 := by simp at h8; omega
      refine WL_skip ?_
      refine WL_seq ?_
      apply WL_prune
      · (repeat (first | exact restr_nil | apply restr_cons rfl | apply restr_none rfl))
      refine WL_seq ?_
      refine WL_block ?_
      refine WL_seq ?_
      refine WL_seq ?_
      refine WL_reg ?_
      refine O_p rfl rfl rfl ?_
      refine O_p rfl rfl rfl ?_
      refine O_p rfl rfl rfl ?_
      refine WO_nil ?_
      refine WL_seq ?_
      apply WL_prune
      · (repeat (first | exact restr_nil | apply restr_cons rfl | apply restr_none rfl))
      refine WL_cond rfl (fun h13 => ?_) (fun h13 => ?_)
      · skip
        have hr : firstC c tag = c.flat i := by
          simp at h13; rw [h13]; exact firstC_pow c h8
        refine WL_seq ?_
        refine WL_reg ?_
        refine O_p rfl rfl rfl ?_
        refine O_p rfl rfl rfl ?_
        refine O_iaa rfl rfl h8 ?_
        refine O_ld (v := .int .i64 (c.flat i)) rfl rfl (by simp; exact cC_get h8) ?_
        refine O_p rfl rfl rfl ?_
        refine WO_nil ?_
        refine WL_ret ?_
        refine Blk_ret ?_
        refine RndC_ret ?_
        refine Blk_ret ?_
        exact ⟨_, rfl, _, rfl, by rw [hr]⟩
      · skip
        simp at h13
        refine WL_skip ?_
        refine WL_seq ?_
        apply WL_prune
        · (repeat (first | exact restr_nil | apply restr_cons rfl | apply restr_none rfl))
        refine WL_reg ?_
        refine O_p rfl rfl rfl ?_
        refine O_p rfl rfl rfl ?_
        refine O_p rfl rfl rfl ?_
        refine WO_nil ?_
        refine WL_nil ?_
        refine Blk_norm (?_ : WL _ _ _ _ _)
        refine WL_seq ?_
        apply WL_prune
        · (repeat (first | exact restr_nil | apply restr_cons rfl | apply restr_none rfl))
        refine WL_reg ?_
        refine O_p rfl rfl rfl ?_
        refine O_p rfl rfl rfl ?_
        refine O_p rfl rfl rfl ?_
        refine WO_nil ?_
        refine WL_nil ?_
        refine RndC_norm (i + 1) (by refine ⟨by omega, fun j hj => ?_⟩; rcases Nat.lt_succ_iff_lt_or_eq.1 hj with q | q; exact hs j q; rw [q]; exact h13) (by show _ < _; omega) ?_ rfl
        · rw [dbl_pow h8, wrap_succ (by omega)]; (repeat (first | exact restr_nil | apply restr_cons rfl | apply restr_none rfl))
    · skip
      have hr0 : flatAt c tag = 0 := by
        simp at h8; exact flatAt_none c fun j hj => hs j (by omega)
      refine WL_exit ?_
      refine RndC_exit ?_
      refine Blk_exit (?_ : WL _ _ _ _ _)
      refine WL_seq ?_
      apply WL_prune
      · (repeat (first | exact restr_nil | apply restr_cons rfl | apply restr_none rfl))
      refine WL_seq ?_
      refine WL_seq ?_
      refine WL_reg ?_
      refine O_p rfl rfl rfl ?_
      refine O_p rfl rfl rfl ?_
      refine O_p rfl rfl rfl ?_
      apply O_and [_, _, _] rfl rfl (hT := ?hT26) (h := ?hR26)
      case hT26 =>
        intro hb22
        refine O_p rfl rfl rfl ?_
        refine O_h rfl rfl rfl rfl ?_
        refine O_p rfl rfl rfl ?_
        exact WO_nil (WL_nil ⟨rfl, rfl, rfl⟩)
      case hR26 =>
        intro vs hvs
        obtain ⟨u23, u24, u25, rfl⟩ := len3 hvs
        clear hvs; dsimp only [junk]
        refine WO_nil ?_
        refine WL_seq ?_
        apply WL_prune
        · (repeat (first | exact restr_nil | apply restr_cons rfl | apply restr_none rfl))
        try clear u23 u24 u25
        refine WL_cond rfl (fun h26 => ?_) (fun h26 => ?_)
        · skip
          have hr : firstC c tag = c.plab := by simp at h26; unfold firstC; rw [if_pos h26]
          refine WL_seq ?_
          refine WL_reg ?_
          refine O_p rfl rfl rfl ?_
          refine O_h rfl rfl rfl rfl ?_
          refine O_p rfl rfl rfl ?_
          refine WO_nil ?_
          refine WL_ret ?_
          exact ⟨_, rfl, _, rfl, by rw [hr]⟩
        · skip
          simp at h26
          refine WL_skip ?_
          refine WL_seq ?_
          apply WL_prune
          · (repeat (first | exact restr_nil | apply restr_cons rfl | apply restr_none rfl))
          refine WL_seq ?_
          refine WL_seq ?_
          refine WL_reg ?_
          refine O_p rfl rfl rfl ?_
          refine O_p rfl rfl rfl ?_
          refine O_p rfl rfl rfl ?_
          apply O_and [_, _, _] rfl rfl (hT := ?hT35) (h := ?hR35)
          case hT35 =>
            intro hb31
            refine O_p rfl rfl rfl ?_
            refine O_h rfl rfl rfl rfl ?_
            refine O_p rfl rfl rfl ?_
            exact WO_nil (WL_nil ⟨rfl, rfl, rfl⟩)
          case hR35 =>
            intro vs hvs
            obtain ⟨u32, u33, u34, rfl⟩ := len3 hvs
            clear hvs; dsimp only [junk]
            refine WO_nil ?_
            refine WL_seq ?_
            apply WL_prune
            · (repeat (first | exact restr_nil | apply restr_cons rfl | apply restr_none rfl))
            try clear u32 u33 u34
            refine WL_cond rfl (fun h35 => ?_) (fun h35 => ?_)
            · skip
              have hr : firstC c tag = c.flab := by simp at h35; unfold firstC; rw [if_neg (by intro q; exact h26 q.1 q.2), if_pos h35]
              refine WL_seq ?_
              refine WL_reg ?_
              refine O_p rfl rfl rfl ?_
              refine O_h rfl rfl rfl rfl ?_
              refine O_p rfl rfl rfl ?_
              refine WO_nil ?_
              refine WL_ret ?_
              exact ⟨_, rfl, _, rfl, by rw [hr]⟩
            · skip
              simp at h35
              have hr : firstC c tag = 0 := by unfold firstC; rw [if_neg (by intro q; exact h26 q.1 q.2), if_neg (by intro q; exact h35 q.1 q.2)]; exact hr0
              refine WL_skip ?_
              refine WL_seq ?_
              apply WL_prune
              · (repeat (first | exact restr_nil | apply restr_cons rfl | apply restr_none rfl))
              refine WL_seq ?_
              refine WL_reg ?_
              refine O_p rfl rfl rfl ?_
              refine WO_nil ?_
              refine WL_ret ?_
              exact ⟨_, rfl, _, rfl, by rw [hr]⟩
theorem wraps_c (n : Nat) (c : Co) (tag : Int) : pcall (tabOf tabL) (n + 1) 36 [vC c, .int .i64 tag] = some (.ok (.bool (wrapsC c tag))) := by
  refine pcall_fin t36 ?_
  refine WL_seq ?_
  refine WL_reg ?_
  refine O_n rfl rfl rfl ?_
  refine O_p rfl rfl rfl ?_
  refine WO_nil ?_
  refine WL_seq ?_
  apply WL_prune
  · (repeat (first | exact restr_nil | apply restr_cons rfl | apply restr_none rfl))
  refine WL_seq ?_
  refine WL_reg ?_
  refine O_p rfl rfl rfl ?_
  refine O_p rfl rfl rfl ?_
  refine O_p rfl rfl rfl ?_
  apply O_and [_, _, _] rfl rfl (hT := ?hT11) (h := ?hR11)
  case hT11 =>
    intro hb7
    refine O_p rfl rfl rfl ?_
    refine O_h rfl rfl rfl rfl ?_
    refine O_p rfl rfl rfl ?_
    exact WO_nil (WL_nil ⟨rfl, rfl, rfl⟩)
  case hR11 =>
    intro vs hvs
    obtain ⟨u8, u9, u10, rfl⟩ := len3 hvs
    clear hvs; dsimp only [junk]
    refine O_p rfl rfl rfl ?_
    apply O_or [_, _, _, _, _, _, _] rfl rfl (hT := ?hT20) (h := ?hR20)
    case hT20 =>
      intro hb12
      refine O_p rfl rfl rfl ?_
      refine O_p rfl rfl rfl ?_
      refine O_p rfl rfl rfl ?_
      apply O_and [_, _, _] rfl rfl (hT := ?hT19) (h := ?hR19)
      case hT19 =>
        intro hb15
        refine O_p rfl rfl rfl ?_
        refine O_h rfl rfl rfl rfl ?_
        refine O_p rfl rfl rfl ?_
        exact WO_nil (WL_nil ⟨rfl, rfl, rfl⟩)
      case hR19 =>
        intro vs hvs
        obtain ⟨u16, u17, u18, rfl⟩ := len3 hvs
        clear hvs; dsimp only [junk]
        exact WO_nil (WL_nil ⟨rfl, rfl, rfl⟩)
    case hR20 =>
      intro vs hvs
      obtain ⟨u13, u14, u15, u16, u17, u18, u19, rfl⟩ := len7 hvs
      clear hvs; dsimp only [junk]
      refine O_p rfl rfl rfl ?_
      refine WO_nil ?_
      refine WL_ret ?_
      exact ⟨_, rfl, _, rfl, rfl⟩
theorem wrapsR_c (n : Nat) (c : Co) (tag : Int) : pcall (tabOf tabL) (n + 1) 37 [vC c, .int .i64 tag] = some (.ok (.bool (wrapsC c tag))) := by
  refine pcall_fin t37 ?_
  refine WL_seq ?_
  refine WL_reg ?_
  refine O_n rfl rfl rfl ?_
  refine O_p rfl rfl rfl ?_
  refine WO_nil ?_
  refine WL_seq ?_
  apply WL_prune
  · (repeat (first | exact restr_nil | apply restr_cons rfl | apply restr_none rfl))
  refine WL_seq ?_
  refine WL_reg ?_
  refine O_p rfl rfl rfl ?_
  refine O_p rfl rfl rfl ?_
  refine O_p rfl rfl rfl ?_
  apply O_and [_, _, _] rfl rfl (hT := ?hT11) (h := ?hR11)
  case hT11 =>
    intro hb7
    refine O_p rfl rfl rfl ?_
    refine O_h rfl rfl rfl rfl ?_
    refine O_p rfl rfl rfl ?_
    exact WO_nil (WL_nil ⟨rfl, rfl, rfl⟩)
  case hR11 =>
    intro vs hvs
    obtain ⟨u8, u9, u10, rfl⟩ := len3 hvs
    clear hvs; dsimp only [junk]
    refine O_p rfl rfl rfl ?_
    apply O_or [_, _, _, _, _, _, _] rfl rfl (hT := ?hT20) (h := ?hR20)
    case hT20 =>
      intro hb12
      refine O_p rfl rfl rfl ?_
      refine O_p rfl rfl rfl ?_
      refine O_p rfl rfl rfl ?_
      apply O_and [_, _, _] rfl rfl (hT := ?hT19) (h := ?hR19)
      case hT19 =>
        intro hb15
        refine O_p rfl rfl rfl ?_
        refine O_h rfl rfl rfl rfl ?_
        refine O_p rfl rfl rfl ?_
        exact WO_nil (WL_nil ⟨rfl, rfl, rfl⟩)
      case hR19 =>
        intro vs hvs
        obtain ⟨u16, u17, u18, rfl⟩ := len3 hvs
        clear hvs; dsimp only [junk]
        exact WO_nil (WL_nil ⟨rfl, rfl, rfl⟩)
    case hR20 =>
      intro vs hvs
      obtain ⟨u13, u14, u15, u16, u17, u18, u19, rfl⟩ := len7 hvs
      clear hvs; dsimp only [junk]
      refine O_p rfl rfl rfl ?_
      refine WO_nil ?_
      refine WL_ret ?_
      exact ⟨_, rfl, _, rfl, rfl⟩
end Go.Ev.Seat
