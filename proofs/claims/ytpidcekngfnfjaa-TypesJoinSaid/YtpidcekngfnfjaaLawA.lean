/-
  TypesRelate in the evaluator's reading: true of any two types.
-/
import Derived.Test.YtpidcekngfnfjaaTypes3
set_option linter.unusedVariables false
set_option linter.unusedSimpArgs false
namespace Go.Ev.Seat
open Go Go.Ev
set_option maxRecDepth 20000
attribute [local irreducible] pcall callF
theorem awake_c (n : Nat) : pcall (tabOf tabL) (n + 60) 8 [] = some (.ok (.bool true)) := by kernel_rfl

theorem light_sz {t : Ty} (h : decide (rsz t 60 < 120) = true) : szT t < 120 := by
  have h := of_decide_eq_true h
  rw [rsz_sz t 60 (by omega)]; exact h

/-- Of light types: may they be? -/
theorem right1 (n : Nat) (t : Ty) (h : 10 * szT t + 30 < n) (hw : WfT t) (hl : decide (rsz t 60 < 120) = true) : pcall (tabOf tabL) (n + 1) 10 [vT t] = some (.ok (.bool (rightT t 20))) := by
  have h1 := light_sz hl
  have := tright_c n t h hw (by omega)
  rw [this, decide_eq_true (by omega : szT t ≤ 300), Bool.true_and]
theorem right2 (n : Nat) (t : Ty) (h : 10 * szT t + 30 < n) (hw : WfT t) (hl : decide (rsz t 60 < 120) = true) : pcall (tabOf tabL) (n + 1) 11 [vT t] = some (.ok (.bool (rightT t 20))) := by
  have h1 := of_decide_eq_true hl
  have := right_ref n t (by omega) hw
  rw [this, decide_eq_true (by omega : rsz t 60 ≤ 300), Bool.true_and]
theorem sameT_refl (t : Ty) : sameT t t = true ∧ True := ⟨by
  refine Ty.rec (motive_1 := fun t => sameT t t = true) (motive_2 := fun l => sameTs l l = true) ?_ rfl ?_ t
  · intro a f p ps g gs h1 h2; simp [sameT, h1, h2]
  · intro x xs h1 h2; simp [sameTs, h1, h2], trivial⟩

theorem same_self (n : Nat) (t : Ty) (h : szT t < n) (hw : WfT t) : pcall (tabOf tabL) n 13 [vT t, vT t] = some (.ok (.bool true)) := by
  rw [same_ref n t t h hw, (sameT_refl t).1]
set_option maxHeartbeats 1000000 in
theorem relate (a b : Ty) (wa : WfT a) (wb : WfT b) : pcall (tabOf tabL) (100 * (szT a + szT b) + szT (joinT (szT a + szT b) a b) + 200 + 1) 3 [vT a, vT b] = some (.ok (.bool true)) := by
  have sa := szT_pos a
  have sb := szT_pos b
  generalize hn : 100 * (szT a + szT b) + szT (joinT (szT a + szT b) a b) + 200 = n
  obtain ⟨n, rfl⟩ : ∃ m, n = m + 200 := ⟨n - 200, by omega⟩
  have ea : eqA .bool (.bool (rightT a 20)) (.bool (rightT a 20)) = some true := by simp [eqA]
  refine pcall_fin t3 ?_
  refine WL_seq ?_
  refine WL_reg ?_
  refine O_n rfl rfl rfl ?_
  refine O_n rfl rfl rfl ?_
  refine O_p rfl rfl rfl ?_
  refine WO_nil ?_
  refine WL_seq ?_
  apply WL_prune
  · (repeat (first | exact restr_nil | apply restr_cons rfl | apply restr_none rfl))
  conv => arg 4; (try simp only [List.set_cons_zero, List.set_cons_succ, List.nil_append, List.cons_append, List.length_cons, List.length_nil, Nat.zero_add, Nat.add_zero, Nat.reduceAdd, putCells_cT, take_cT, putCells, List.take_succ_cons, List.take_zero, List.take_nil, List.drop_succ_cons, List.drop_zero, List.drop_nil, AVal.flat])
  conv => arg 3; (try simp only [List.set_cons_zero, List.set_cons_succ, List.nil_append, List.cons_append, List.length_cons, List.length_nil, Nat.zero_add, Nat.add_zero, Nat.reduceAdd, putCells_cT, take_cT, putCells, List.take_succ_cons, List.take_zero, List.take_nil, List.drop_succ_cons, List.drop_zero, List.drop_nil, AVal.flat])
  refine WL_seq ?_
  refine WL_reg ?_
  refine O_c 8 rfl rfl (callA_of rfl (awake_c (n + 140))) ?_
  refine O_p rfl rfl rfl ?_
  refine WO_nil ?_
  refine WL_seq ?_
  apply WL_prune
  · (repeat (first | exact restr_nil | apply restr_cons rfl | apply restr_none rfl))
  conv => arg 4; (try simp only [List.set_cons_zero, List.set_cons_succ, List.nil_append, List.cons_append, List.length_cons, List.length_nil, Nat.zero_add, Nat.add_zero, Nat.reduceAdd, putCells_cT, take_cT, putCells, List.take_succ_cons, List.take_zero, List.take_nil, List.drop_succ_cons, List.drop_zero, List.drop_nil, AVal.flat])
  conv => arg 3; (try simp only [List.set_cons_zero, List.set_cons_succ, List.nil_append, List.cons_append, List.length_cons, List.length_nil, Nat.zero_add, Nat.add_zero, Nat.reduceAdd, putCells_cT, take_cT, putCells, List.take_succ_cons, List.take_zero, List.take_nil, List.drop_succ_cons, List.drop_zero, List.drop_nil, AVal.flat])
  refine WL_seq ?_
  refine WL_reg ?_
  refine O_h rfl rfl rfl rfl ?_
  refine O_c 9 rfl rfl (callA_of rfl (light_c _ a (by omega) wa)) ?_
  refine O_p rfl rfl rfl ?_
  refine WO_nil ?_
  refine WL_seq ?_
  apply WL_prune
  · (repeat (first | exact restr_nil | apply restr_cons rfl | apply restr_none rfl))
  conv => arg 4; (try simp only [List.set_cons_zero, List.set_cons_succ, List.nil_append, List.cons_append, List.length_cons, List.length_nil, Nat.zero_add, Nat.add_zero, Nat.reduceAdd, putCells_cT, take_cT, putCells, List.take_succ_cons, List.take_zero, List.take_nil, List.drop_succ_cons, List.drop_zero, List.drop_nil, AVal.flat])
  conv => arg 3; (try simp only [List.set_cons_zero, List.set_cons_succ, List.nil_append, List.cons_append, List.length_cons, List.length_nil, Nat.zero_add, Nat.add_zero, Nat.reduceAdd, putCells_cT, take_cT, putCells, List.take_succ_cons, List.take_zero, List.take_nil, List.drop_succ_cons, List.drop_zero, List.drop_nil, AVal.flat])
  refine WL_seq ?_
  refine WL_reg ?_
  refine O_h rfl rfl rfl rfl ?_
  refine O_c 9 rfl rfl (callA_of rfl (light_c _ b (by omega) wb)) ?_
  refine O_p rfl rfl rfl ?_
  refine WO_nil ?_
  refine WL_seq ?_
  apply WL_prune
  · (repeat (first | exact restr_nil | apply restr_cons rfl | apply restr_none rfl))
  conv => arg 4; (try simp only [List.set_cons_zero, List.set_cons_succ, List.nil_append, List.cons_append, List.length_cons, List.length_nil, Nat.zero_add, Nat.add_zero, Nat.reduceAdd, putCells_cT, take_cT, putCells, List.take_succ_cons, List.take_zero, List.take_nil, List.drop_succ_cons, List.drop_zero, List.drop_nil, AVal.flat])
  conv => arg 3; (try simp only [List.set_cons_zero, List.set_cons_succ, List.nil_append, List.cons_append, List.length_cons, List.length_nil, Nat.zero_add, Nat.add_zero, Nat.reduceAdd, putCells_cT, take_cT, putCells, List.take_succ_cons, List.take_zero, List.take_nil, List.drop_succ_cons, List.drop_zero, List.drop_nil, AVal.flat])
  refine WL_seq ?_
  refine WL_seq ?_
  refine WL_reg ?_
  refine O_p rfl rfl rfl ?_
  refine O_p rfl rfl rfl ?_
  refine O_p rfl rfl rfl ?_
  apply O_or [_, _] rfl rfl (hT := ?hT29) (h := ?hR29)
  case hT29 =>
    intro hb26
    refine O_p rfl rfl rfl ?_
    refine O_p rfl rfl rfl ?_
    exact WO_nil (WL_nil ⟨rfl, rfl, rfl⟩)
  case hR29 =>
    intro vs hvs
    obtain ⟨u27, u28, rfl⟩ := len2 hvs
    clear hvs; dsimp only [junk]
    refine WO_nil ?_
    refine WL_seq ?_
    apply WL_prune
    · (repeat (first | exact restr_nil | apply restr_cons rfl | apply restr_none rfl))
    conv => arg 4; (try simp only [List.set_cons_zero, List.set_cons_succ, List.nil_append, List.cons_append, List.length_cons, List.length_nil, Nat.zero_add, Nat.add_zero, Nat.reduceAdd, putCells_cT, take_cT, putCells, List.take_succ_cons, List.take_zero, List.take_nil, List.drop_succ_cons, List.drop_zero, List.drop_nil, AVal.flat])
    conv => arg 3; (try simp only [List.set_cons_zero, List.set_cons_succ, List.nil_append, List.cons_append, List.length_cons, List.length_nil, Nat.zero_add, Nat.add_zero, Nat.reduceAdd, putCells_cT, take_cT, putCells, List.take_succ_cons, List.take_zero, List.take_nil, List.drop_succ_cons, List.drop_zero, List.drop_nil, AVal.flat])
    try clear u27 u28
    refine WL_cond rfl (fun h29 => ?_) (fun h29 => ?_)
    · skip
      refine WL_seq ?_
      refine WL_reg ?_
      refine O_p rfl rfl rfl ?_
      refine O_p rfl rfl rfl ?_
      refine WO_nil ?_
      refine WL_ret ?_
      exact ⟨_, rfl, _, rfl, rfl⟩
    · skip
      simp at h29
      have la := decide_eq_true h29.1
      have lb := decide_eq_true h29.2
      have za := light_sz la
      have zb := light_sz lb
      refine WL_skip ?_
      refine WL_seq ?_
      apply WL_prune
      · (repeat (first | exact restr_nil | apply restr_cons rfl | apply restr_none rfl))
      conv => arg 4; (try simp only [List.set_cons_zero, List.set_cons_succ, List.nil_append, List.cons_append, List.length_cons, List.length_nil, Nat.zero_add, Nat.add_zero, Nat.reduceAdd, putCells_cT, take_cT, putCells, List.take_succ_cons, List.take_zero, List.take_nil, List.drop_succ_cons, List.drop_zero, List.drop_nil, AVal.flat])
      conv => arg 3; (try simp only [List.set_cons_zero, List.set_cons_succ, List.nil_append, List.cons_append, List.length_cons, List.length_nil, Nat.zero_add, Nat.add_zero, Nat.reduceAdd, putCells_cT, take_cT, putCells, List.take_succ_cons, List.take_zero, List.take_nil, List.drop_succ_cons, List.drop_zero, List.drop_nil, AVal.flat])
      refine WL_seq ?_
      refine WL_seq ?_
      refine WL_drawT [] rfl ?_
      refine S_h (d := some 31) rfl rfl rfl rfl rfl ?_
      refine S_c 10 rfl rfl rfl (callA_of rfl (right1 _ a (by omega) wa la)) ?_
      refine S_h (d := some 33) rfl rfl rfl rfl rfl ?_
      refine S_c 11 rfl rfl rfl (callA_of rfl (right2 _ a (by omega) wa la)) ?_
      refine S_v (.bool false) rfl rfl rfl (by simp) ?_
      refine S_p rfl rfl rfl ?_
      refine S_h (d := some 37) rfl rfl rfl rfl rfl ?_
      refine S_h (d := some 38) rfl rfl rfl rfl rfl ?_
      refine S_c 12 rfl rfl rfl (callA_of rfl (same_c _ a b (by omega) wa)) ?_
      refine S_h (d := some 40) rfl rfl rfl rfl rfl ?_
      refine S_h (d := some 41) rfl rfl rfl rfl rfl ?_
      refine S_c 13 rfl rfl rfl (callA_of rfl (same_ref _ a b (by omega) wa)) ?_
      refine S_v (.bool false) rfl rfl rfl (by simp) ?_
      refine S_p rfl rfl rfl ?_
      refine WS_nil ?_
      refine WL_seq ?_
      apply WL_prune
      · (repeat (first | exact restr_nil | apply restr_cons rfl | apply restr_none rfl))
      conv => arg 4; (try simp only [List.set_cons_zero, List.set_cons_succ, List.nil_append, List.cons_append, List.length_cons, List.length_nil, Nat.zero_add, Nat.add_zero, Nat.reduceAdd, putCells_cT, take_cT, putCells, List.take_succ_cons, List.take_zero, List.take_nil, List.drop_succ_cons, List.drop_zero, List.drop_nil, AVal.flat])
      conv => arg 3; (try simp only [List.set_cons_zero, List.set_cons_succ, List.nil_append, List.cons_append, List.length_cons, List.length_nil, Nat.zero_add, Nat.add_zero, Nat.reduceAdd, putCells_cT, take_cT, putCells, List.take_succ_cons, List.take_zero, List.take_nil, List.drop_succ_cons, List.drop_zero, List.drop_nil, AVal.flat])
      refine WL_cond rfl (fun h44 => ?_) (fun h44 => ?_)
      · skip
        cases h44
      · skip
        refine WL_skip ?_
        refine WL_seq ?_
        apply WL_prune
        · (repeat (first | exact restr_nil | apply restr_cons rfl | apply restr_none rfl))
        conv => arg 4; (try simp only [List.set_cons_zero, List.set_cons_succ, List.nil_append, List.cons_append, List.length_cons, List.length_nil, Nat.zero_add, Nat.add_zero, Nat.reduceAdd, putCells_cT, take_cT, putCells, List.take_succ_cons, List.take_zero, List.take_nil, List.drop_succ_cons, List.drop_zero, List.drop_nil, AVal.flat])
        conv => arg 3; (try simp only [List.set_cons_zero, List.set_cons_succ, List.nil_append, List.cons_append, List.length_cons, List.length_nil, Nat.zero_add, Nat.add_zero, Nat.reduceAdd, putCells_cT, take_cT, putCells, List.take_succ_cons, List.take_zero, List.take_nil, List.drop_succ_cons, List.drop_zero, List.drop_nil, AVal.flat])
        refine WL_seq ?_
        refine WL_seq ?_
        refine WL_reg ?_
        refine O_h rfl rfl rfl rfl ?_
        refine O_c 11 rfl rfl (callA_of rfl (right2 _ a (by omega) wa la)) ?_
        refine O_p rfl rfl rfl ?_
        refine O_p rfl rfl rfl ?_
        apply O_or [_, _, _] rfl rfl (hT := ?hT52) (h := ?hR52)
        case hT52 =>
          intro hb48
          refine O_h rfl rfl rfl rfl ?_
          refine O_c 11 rfl rfl (callA_of rfl (right2 _ b (by omega) wb lb)) ?_
          refine O_p rfl rfl rfl ?_
          exact WO_nil (WL_nil ⟨rfl, rfl, rfl⟩)
        case hR52 =>
          intro vs hvs
          obtain ⟨u49, u50, u51, rfl⟩ := len3 hvs
          clear hvs; dsimp only [junk]
          refine WO_nil ?_
          refine WL_seq ?_
          apply WL_prune
          · (repeat (first | exact restr_nil | apply restr_cons rfl | apply restr_none rfl))
          conv => arg 4; (try simp only [List.set_cons_zero, List.set_cons_succ, List.nil_append, List.cons_append, List.length_cons, List.length_nil, Nat.zero_add, Nat.add_zero, Nat.reduceAdd, putCells_cT, take_cT, putCells, List.take_succ_cons, List.take_zero, List.take_nil, List.drop_succ_cons, List.drop_zero, List.drop_nil, AVal.flat])
          conv => arg 3; (try simp only [List.set_cons_zero, List.set_cons_succ, List.nil_append, List.cons_append, List.length_cons, List.length_nil, Nat.zero_add, Nat.add_zero, Nat.reduceAdd, putCells_cT, take_cT, putCells, List.take_succ_cons, List.take_zero, List.take_nil, List.drop_succ_cons, List.drop_zero, List.drop_nil, AVal.flat])
          try clear u49 u50 u51
          refine WL_cond rfl (fun h52 => ?_) (fun h52 => ?_)
          · skip
            refine WL_seq ?_
            refine WL_reg ?_
            refine O_p rfl rfl rfl ?_
            refine O_p rfl rfl rfl ?_
            refine WO_nil ?_
            refine WL_ret ?_
            exact ⟨_, rfl, _, rfl, rfl⟩
          · skip
            simp at h52
            have ra : Rt a := ⟨20, h52.1⟩
            have rb : Rt b := ⟨20, h52.2⟩
            refine WL_skip ?_
            refine WL_seq ?_
            apply WL_prune
            · (repeat (first | exact restr_nil | apply restr_cons rfl | apply restr_none rfl))
            conv => arg 4; (try simp only [List.set_cons_zero, List.set_cons_succ, List.nil_append, List.cons_append, List.length_cons, List.length_nil, Nat.zero_add, Nat.add_zero, Nat.reduceAdd, putCells_cT, take_cT, putCells, List.take_succ_cons, List.take_zero, List.take_nil, List.drop_succ_cons, List.drop_zero, List.drop_nil, AVal.flat])
            conv => arg 3; (try simp only [List.set_cons_zero, List.set_cons_succ, List.nil_append, List.cons_append, List.length_cons, List.length_nil, Nat.zero_add, Nat.add_zero, Nat.reduceAdd, putCells_cT, take_cT, putCells, List.take_succ_cons, List.take_zero, List.take_nil, List.drop_succ_cons, List.drop_zero, List.drop_nil, AVal.flat])
            refine WL_seq ?_
            refine WL_reg ?_
            refine O_h rfl rfl rfl rfl ?_
            refine O_c 14 rfl rfl (callA_of rfl (car_c _ a ra)) ?_
            refine O_p rfl rfl rfl ?_
            refine O_p rfl rfl rfl ?_
            refine O_p rfl rfl rfl ?_
            refine O_n rfl rfl rfl ?_
            refine O_hn rfl rfl rfl rfl ?_
            refine O_p rfl rfl rfl ?_
            refine WO_nil ?_
            refine WL_seq ?_
            apply WL_prune
            · (repeat (first | exact restr_nil | apply restr_cons rfl | apply restr_none rfl))
            conv => arg 4; (try simp only [List.set_cons_zero, List.set_cons_succ, List.nil_append, List.cons_append, List.length_cons, List.length_nil, Nat.zero_add, Nat.add_zero, Nat.reduceAdd, putCells_cT, take_cT, putCells, List.take_succ_cons, List.take_zero, List.take_nil, List.drop_succ_cons, List.drop_zero, List.drop_nil, AVal.flat])
            conv => arg 3; (try simp only [List.set_cons_zero, List.set_cons_succ, List.nil_append, List.cons_append, List.length_cons, List.length_nil, Nat.zero_add, Nat.add_zero, Nat.reduceAdd, putCells_cT, take_cT, putCells, List.take_succ_cons, List.take_zero, List.take_nil, List.drop_succ_cons, List.drop_zero, List.drop_nil, AVal.flat])
            refine WL_seq ?_
            refine WL_reg ?_
            refine O_h rfl rfl rfl rfl ?_
            refine O_c 15 rfl rfl (callA_of rfl (car_ref _ a ra)) ?_
            refine O_p rfl rfl rfl ?_
            refine O_p rfl rfl rfl ?_
            refine O_p rfl rfl rfl ?_
            refine O_n rfl rfl rfl ?_
            refine O_hn rfl rfl rfl rfl ?_
            refine O_p rfl rfl rfl ?_
            refine WO_nil ?_
            refine WL_seq ?_
            apply WL_prune
            · (repeat (first | exact restr_nil | apply restr_cons rfl | apply restr_none rfl))
            conv => arg 4; (try simp only [List.set_cons_zero, List.set_cons_succ, List.nil_append, List.cons_append, List.length_cons, List.length_nil, Nat.zero_add, Nat.add_zero, Nat.reduceAdd, putCells_cT, take_cT, putCells, List.take_succ_cons, List.take_zero, List.take_nil, List.drop_succ_cons, List.drop_zero, List.drop_nil, AVal.flat])
            conv => arg 3; (try simp only [List.set_cons_zero, List.set_cons_succ, List.nil_append, List.cons_append, List.length_cons, List.length_nil, Nat.zero_add, Nat.add_zero, Nat.reduceAdd, putCells_cT, take_cT, putCells, List.take_succ_cons, List.take_zero, List.take_nil, List.drop_succ_cons, List.drop_zero, List.drop_nil, AVal.flat])
            refine WL_seq ?_
            refine WL_reg ?_
            refine O_h rfl rfl rfl rfl ?_
            refine O_c 16 rfl rfl (callA_of rfl (cdr_c _ a ra)) ?_
            refine O_p rfl rfl rfl ?_
            refine O_p rfl rfl rfl ?_
            refine O_p rfl rfl rfl ?_
            refine O_n rfl rfl rfl ?_
            refine O_hn rfl rfl rfl rfl ?_
            refine O_p rfl rfl rfl ?_
            refine WO_nil ?_
            refine WL_seq ?_
            apply WL_prune
            · (repeat (first | exact restr_nil | apply restr_cons rfl | apply restr_none rfl))
            conv => arg 4; (try simp only [List.set_cons_zero, List.set_cons_succ, List.nil_append, List.cons_append, List.length_cons, List.length_nil, Nat.zero_add, Nat.add_zero, Nat.reduceAdd, putCells_cT, take_cT, putCells, List.take_succ_cons, List.take_zero, List.take_nil, List.drop_succ_cons, List.drop_zero, List.drop_nil, AVal.flat])
            conv => arg 3; (try simp only [List.set_cons_zero, List.set_cons_succ, List.nil_append, List.cons_append, List.length_cons, List.length_nil, Nat.zero_add, Nat.add_zero, Nat.reduceAdd, putCells_cT, take_cT, putCells, List.take_succ_cons, List.take_zero, List.take_nil, List.drop_succ_cons, List.drop_zero, List.drop_nil, AVal.flat])
            refine WL_seq ?_
            refine WL_reg ?_
            refine O_h rfl rfl rfl rfl ?_
            refine O_c 17 rfl rfl (callA_of rfl (cdr_ref _ a ra)) ?_
            refine O_p rfl rfl rfl ?_
            refine O_p rfl rfl rfl ?_
            refine O_p rfl rfl rfl ?_
            refine O_n rfl rfl rfl ?_
            refine O_hn rfl rfl rfl rfl ?_
            refine O_p rfl rfl rfl ?_
            refine WO_nil ?_
            refine WL_seq ?_
            apply WL_prune
            · (repeat (first | exact restr_nil | apply restr_cons rfl | apply restr_none rfl))
            conv => arg 4; (try simp only [List.set_cons_zero, List.set_cons_succ, List.nil_append, List.cons_append, List.length_cons, List.length_nil, Nat.zero_add, Nat.add_zero, Nat.reduceAdd, putCells_cT, take_cT, putCells, List.take_succ_cons, List.take_zero, List.take_nil, List.drop_succ_cons, List.drop_zero, List.drop_nil, AVal.flat])
            conv => arg 3; (try simp only [List.set_cons_zero, List.set_cons_succ, List.nil_append, List.cons_append, List.length_cons, List.length_nil, Nat.zero_add, Nat.add_zero, Nat.reduceAdd, putCells_cT, take_cT, putCells, List.take_succ_cons, List.take_zero, List.take_nil, List.drop_succ_cons, List.drop_zero, List.drop_nil, AVal.flat])
            refine WL_seq ?_
            refine WL_reg ?_
            refine O_h rfl rfl rfl rfl ?_
            refine O_h rfl rfl rfl rfl ?_
            refine O_c 13 rfl rfl (callA_of rfl (same_self _ _ (by have := car_sz a; omega) (car_wf wa))) ?_
            refine O_p rfl rfl rfl ?_
            refine WO_nil ?_
            refine WL_seq ?_
            apply WL_prune
            · (repeat (first | exact restr_nil | apply restr_cons rfl | apply restr_none rfl))
            conv => arg 4; (try simp only [List.set_cons_zero, List.set_cons_succ, List.nil_append, List.cons_append, List.length_cons, List.length_nil, Nat.zero_add, Nat.add_zero, Nat.reduceAdd, putCells_cT, take_cT, putCells, List.take_succ_cons, List.take_zero, List.take_nil, List.drop_succ_cons, List.drop_zero, List.drop_nil, AVal.flat])
            conv => arg 3; (try simp only [List.set_cons_zero, List.set_cons_succ, List.nil_append, List.cons_append, List.length_cons, List.length_nil, Nat.zero_add, Nat.add_zero, Nat.reduceAdd, putCells_cT, take_cT, putCells, List.take_succ_cons, List.take_zero, List.take_nil, List.drop_succ_cons, List.drop_zero, List.drop_nil, AVal.flat])
            refine WL_seq ?_
            refine WL_reg ?_
            refine O_h rfl rfl rfl rfl ?_
            refine O_h rfl rfl rfl rfl ?_
            refine O_c 13 rfl rfl (callA_of rfl (same_self _ _ (by have := cdr_sz ra; omega) (cdr_wf wa))) ?_
            refine O_p rfl rfl rfl ?_
            refine WO_nil ?_
            refine WL_seq ?_
            apply WL_prune
            · (repeat (first | exact restr_nil | apply restr_cons rfl | apply restr_none rfl))
            conv => arg 4; (try simp only [List.set_cons_zero, List.set_cons_succ, List.nil_append, List.cons_append, List.length_cons, List.length_nil, Nat.zero_add, Nat.add_zero, Nat.reduceAdd, putCells_cT, take_cT, putCells, List.take_succ_cons, List.take_zero, List.take_nil, List.drop_succ_cons, List.drop_zero, List.drop_nil, AVal.flat])
            conv => arg 3; (try simp only [List.set_cons_zero, List.set_cons_succ, List.nil_append, List.cons_append, List.length_cons, List.length_nil, Nat.zero_add, Nat.add_zero, Nat.reduceAdd, putCells_cT, take_cT, putCells, List.take_succ_cons, List.take_zero, List.take_nil, List.drop_succ_cons, List.drop_zero, List.drop_nil, AVal.flat])
            refine WL_seq ?_
            refine WL_drawT [] rfl ?_
            refine S_h (d := some 80) rfl rfl rfl rfl rfl ?_
            refine S_h (d := some 81) rfl rfl rfl rfl rfl ?_
            refine S_c 18 rfl rfl rfl (callA_of rfl (join_c (szT a + szT b) _ a b ra rb wa wb (by omega) (by omega))) ?_
            refine S_h (d := some 83) rfl rfl rfl rfl rfl ?_
            refine S_h (d := some 84) rfl rfl rfl rfl rfl ?_
            refine S_c 19 rfl rfl rfl (callA_of rfl (join_ref (szT a + szT b) _ a b ra rb wa wb (by omega) (by omega))) ?_
            refine S_c 13 rfl rfl rfl (callA_of rfl (same_self _ _ (by omega) (join_wf _ _ _ ra rb wa wb))) ?_
            refine S_p rfl rfl rfl ?_
            refine WS_nil ?_
            refine WL_seq ?_
            apply WL_prune
            · (repeat (first | exact restr_nil | apply restr_cons rfl | apply restr_none rfl))
            conv => arg 4; (try simp only [List.set_cons_zero, List.set_cons_succ, List.nil_append, List.cons_append, List.length_cons, List.length_nil, Nat.zero_add, Nat.add_zero, Nat.reduceAdd, putCells_cT, take_cT, putCells, List.take_succ_cons, List.take_zero, List.take_nil, List.drop_succ_cons, List.drop_zero, List.drop_nil, AVal.flat])
            conv => arg 3; (try simp only [List.set_cons_zero, List.set_cons_succ, List.nil_append, List.cons_append, List.length_cons, List.length_nil, Nat.zero_add, Nat.add_zero, Nat.reduceAdd, putCells_cT, take_cT, putCells, List.take_succ_cons, List.take_zero, List.take_nil, List.drop_succ_cons, List.drop_zero, List.drop_nil, AVal.flat])
            refine WL_seq ?_
            refine WL_drawT [] rfl ?_
            refine S_p rfl rfl rfl ?_
            refine S_p rfl rfl rfl ?_
            refine S_h (d := some 89) rfl rfl rfl rfl rfl ?_
            refine S_h (d := some 90) rfl rfl rfl rfl rfl ?_
            refine S_c 20 rfl rfl rfl (callA_of rfl (sub_c (szT a + szT b) _ a b ra rb wa wb (by omega) (by omega))) ?_
            refine S_h (d := some 92) rfl rfl rfl rfl rfl ?_
            refine S_h (d := some 93) rfl rfl rfl rfl rfl ?_
            refine S_c 21 rfl rfl rfl (callA_of rfl (sub_ref (szT a + szT b) _ a b ra rb wa wb (by omega) (by omega))) ?_
            refine S_v (.bool true) rfl rfl rfl (by simp) ?_
            refine S_p rfl rfl rfl ?_
            refine S_p rfl rfl rfl ?_
            refine S_p rfl rfl rfl ?_
            refine S_p rfl rfl rfl ?_
            refine S_p rfl rfl rfl ?_
            refine S_p rfl rfl rfl ?_
            refine S_p rfl rfl rfl ?_
            refine S_p rfl rfl rfl ?_
            refine S_p rfl rfl rfl ?_
            refine S_p rfl rfl rfl ?_
            refine S_p rfl rfl rfl ?_
            refine S_p rfl rfl rfl ?_
            refine S_p rfl rfl rfl ?_
            refine S_v (.bool true) rfl rfl rfl (by simp) ?_
            refine S_p rfl rfl rfl ?_
            refine S_p rfl rfl rfl ?_
            refine S_p rfl rfl rfl ?_
            refine S_p rfl rfl rfl ?_
            refine S_v (.bool true) rfl rfl rfl (by simp) ?_
            refine S_p rfl rfl rfl ?_
            refine S_p rfl rfl rfl ?_
            refine WS_nil ?_
            refine WL_ret ?_
            exact ⟨_, rfl, _, rfl, rfl⟩
end Go.Ev.Seat
