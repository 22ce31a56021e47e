/-
  CoerceTypes in the evaluator's reading: true of any type, and any numbers.
-/
import Derived.Test.YtbjoldcjbpngaaaCoerce8
set_option linter.unusedVariables false
set_option linter.unusedSimpArgs false
namespace Go.Ev.Seat
open Go Go.Ev
set_option maxRecDepth 20000
attribute [local irreducible] pcall callF
theorem awake_c (n : Nat) : pcall (tabOf tabL) (n + 60) 7 [] = some (.ok (.bool true)) := by kernel_rfl
theorem light_sz {t : Ty} (h : decide (rsz t 60 < 120) = true) : szT t < 120 := by
  have h := of_decide_eq_true h
  rw [rsz_sz t 60 (by omega)]; exact h
theorem rightT2 (n : Nat) (t : Ty) (h : szT t < n) (hw : WfT t) (hl : decide (rsz t 60 < 120) = true) : pcall (tabOf tabL) (n + 1) 10 [vT t] = some (.ok (.bool (rightT t 20))) := by
  have h1 := of_decide_eq_true hl
  have := TyS.right_ref n t (by omega) hw
  rw [this, decide_eq_true (by omega : rsz t 60 ≤ 300), Bool.true_and]
theorem right_go (n : Nat) (t : Ty) (up : Bool) (l : Int) (hl : 1 ≤ l ∧ l ≤ 99) (hr : rightT t 20 = true) (hz : szT t < 120) (hn : 2000 < n) : pcall (tabOf tabL) n 20 [vC (goC up l t)] = some (.ok (.bool true)) := by
  obtain ⟨n, rfl⟩ : ∃ m, n = m + 1 := ⟨n - 1, by omega⟩
  have := goC_sz up l t
  rw [right_prog n _ (by omega) (by omega), rightC_mono 20 25 _ (by omega) (goC_right hl 20 t up hr)]
theorem blames_go (n : Nat) (t : Ty) (up : Bool) (l : Int) (hz : szT t < 120) (hn : 2000 < n) : pcall (tabOf tabL) n 23 [vC (goC up l t), .int .i64 l] = some (.ok (.bool true)) := by
  have := goC_sz up l t
  rw [blames_c n _ l (by omega) (by omega), goC_bl l (szT t) t up (Nat.le_refl _)]
theorem first_go (n : Nat) (t : Ty) (l tag : Int) (hn : 2000 < n) : pcall (tabOf tabL) n 24 [vC (goC false l t), .int .i64 tag] = some (.ok (.int .i64 0)) := by
  obtain ⟨n, rfl⟩ : ∃ m, n = m + 1 := ⟨n - 1, by omega⟩
  rw [first_c n _ tag (by omega), first_from]
theorem first_no (n : Nat) (c : Co) (tag : Int) (hn : 2000 < n) (h : tag ≠ 1 ∧ tag ≠ 2 ∧ tag ≠ 4 ∧ tag ≠ 8 ∧ tag ≠ 16 ∧ tag ≠ 32 ∧ tag ≠ 64 ∧ tag ≠ 128) : pcall (tabOf tabL) n 24 [vC c, .int .i64 tag] = some (.ok (.int .i64 0)) := by
  obtain ⟨n, rfl⟩ : ∃ m, n = m + 1 := ⟨n - 1, by omega⟩
  rw [first_c n _ tag (by omega), first_bad c h]
set_option maxHeartbeats 1000000 in
theorem ctypes (t : Ty) (l tag : Int) (wt : WfT t) : pcall (tabOf tabL) (100 * szT t + 3000 + 1) 5 [vT t, .int .i64 l, .int .i64 tag] = some (.ok (.bool true)) := by
  have sa := szT_pos t
  generalize hn : 100 * szT t + 3000 = n
  obtain ⟨n, rfl⟩ : ∃ m, n = m + 3000 := ⟨n - 3000, by omega⟩
  refine pcall_fin t5 ?_
  refine WL_seq ?_
  refine WL_reg ?_
  refine O_n rfl rfl rfl ?_
  refine O_p rfl rfl rfl ?_
  refine WO_nil ?_
  refine WL_seq ?_
  apply WL_prune
  · (repeat (first | exact restr_nil | apply restr_cons rfl | apply restr_none rfl))
  conv => arg 4; (try simp only [List.set_cons_zero, List.set_cons_succ, List.nil_append, List.cons_append, List.length_cons, List.length_nil, Nat.zero_add, Nat.add_zero, Nat.reduceAdd, putCells_cT, take_cT,  putCells, List.take_succ_cons, List.take_zero, List.take_nil, List.drop_succ_cons, List.drop_zero, List.drop_nil, AVal.flat, List.replicate_succ, List.replicate_zero])
  conv => arg 3; (try simp only [List.set_cons_zero, List.set_cons_succ, List.nil_append, List.cons_append, List.length_cons, List.length_nil, Nat.zero_add, Nat.add_zero, Nat.reduceAdd, putCells_cT, take_cT,  putCells, List.take_succ_cons, List.take_zero, List.take_nil, List.drop_succ_cons, List.drop_zero, List.drop_nil, AVal.flat, List.replicate_succ, List.replicate_zero])
  refine WL_seq ?_
  refine WL_reg ?_
  refine O_c 7 rfl rfl (callA_of rfl (awake_c (n + 2940))) ?_
  refine O_p rfl rfl rfl ?_
  refine WO_nil ?_
  refine WL_seq ?_
  apply WL_prune
  · (repeat (first | exact restr_nil | apply restr_cons rfl | apply restr_none rfl))
  conv => arg 4; (try simp only [List.set_cons_zero, List.set_cons_succ, List.nil_append, List.cons_append, List.length_cons, List.length_nil, Nat.zero_add, Nat.add_zero, Nat.reduceAdd, putCells_cT, take_cT,  putCells, List.take_succ_cons, List.take_zero, List.take_nil, List.drop_succ_cons, List.drop_zero, List.drop_nil, AVal.flat, List.replicate_succ, List.replicate_zero])
  conv => arg 3; (try simp only [List.set_cons_zero, List.set_cons_succ, List.nil_append, List.cons_append, List.length_cons, List.length_nil, Nat.zero_add, Nat.add_zero, Nat.reduceAdd, putCells_cT, take_cT,  putCells, List.take_succ_cons, List.take_zero, List.take_nil, List.drop_succ_cons, List.drop_zero, List.drop_nil, AVal.flat, List.replicate_succ, List.replicate_zero])
  refine WL_seq ?_
  refine WL_reg ?_
  refine O_h rfl rfl rfl rfl ?_
  refine O_c 8 rfl rfl (callA_of rfl (TyS.light_c (n + 2999) t (by omega) wt)) ?_
  refine O_p rfl rfl rfl ?_
  refine WO_nil ?_
  refine WL_seq ?_
  apply WL_prune
  · (repeat (first | exact restr_nil | apply restr_cons rfl | apply restr_none rfl))
  conv => arg 4; (try simp only [List.set_cons_zero, List.set_cons_succ, List.nil_append, List.cons_append, List.length_cons, List.length_nil, Nat.zero_add, Nat.add_zero, Nat.reduceAdd, putCells_cT, take_cT,  putCells, List.take_succ_cons, List.take_zero, List.take_nil, List.drop_succ_cons, List.drop_zero, List.drop_nil, AVal.flat, List.replicate_succ, List.replicate_zero])
  conv => arg 3; (try simp only [List.set_cons_zero, List.set_cons_succ, List.nil_append, List.cons_append, List.length_cons, List.length_nil, Nat.zero_add, Nat.add_zero, Nat.reduceAdd, putCells_cT, take_cT,  putCells, List.take_succ_cons, List.take_zero, List.take_nil, List.drop_succ_cons, List.drop_zero, List.drop_nil, AVal.flat, List.replicate_succ, List.replicate_zero])
  refine WL_seq ?_
  refine WL_seq ?_
  refine WL_reg ?_
  refine O_p rfl rfl rfl ?_
  refine O_p rfl rfl rfl ?_
  refine O_p rfl rfl rfl ?_
  apply O_or [_, _, _] rfl rfl (hT := ?hT23) (h := ?hR23)
  case hT23 =>
    intro hb19
    refine O_h rfl rfl rfl rfl ?_
    refine O_c 10 rfl rfl (callA_of rfl (rightT2 (n + 2999) t (by omega) wt (by simpa using hb19))) ?_
    refine O_p rfl rfl rfl ?_
    exact WO_nil (WL_nil ⟨rfl, rfl, rfl⟩)
  case hR23 =>
    intro vs hvs
    obtain ⟨u20, u21, u22, rfl⟩ := len3 hvs
    clear hvs; dsimp only [junk]
    refine O_p rfl rfl rfl ?_
    apply O_or [_, _] rfl rfl (hT := ?hT27) (h := ?hR27)
    case hT27 =>
      intro hb24
      refine O_p rfl rfl rfl ?_
      refine O_p rfl rfl rfl ?_
      exact WO_nil (WL_nil ⟨rfl, rfl, rfl⟩)
    case hR27 =>
      intro vs hvs
      obtain ⟨u25, u26, rfl⟩ := len2 hvs
      clear hvs; dsimp only [junk]
      refine O_p rfl rfl rfl ?_
      apply O_or [_, _] rfl rfl (hT := ?hT31) (h := ?hR31)
      case hT31 =>
        intro hb28
        refine O_p rfl rfl rfl ?_
        refine O_p rfl rfl rfl ?_
        exact WO_nil (WL_nil ⟨rfl, rfl, rfl⟩)
      case hR31 =>
        intro vs hvs
        obtain ⟨u29, u30, rfl⟩ := len2 hvs
        clear hvs; dsimp only [junk]
        refine WO_nil ?_
        refine WL_seq ?_
        apply WL_prune
        · (repeat (first | exact restr_nil | apply restr_cons rfl | apply restr_none rfl))
        conv => arg 4; (try simp only [List.set_cons_zero, List.set_cons_succ, List.nil_append, List.cons_append, List.length_cons, List.length_nil, Nat.zero_add, Nat.add_zero, Nat.reduceAdd, putCells_cT, take_cT,  putCells, List.take_succ_cons, List.take_zero, List.take_nil, List.drop_succ_cons, List.drop_zero, List.drop_nil, AVal.flat, List.replicate_succ, List.replicate_zero])
        conv => arg 3; (try simp only [List.set_cons_zero, List.set_cons_succ, List.nil_append, List.cons_append, List.length_cons, List.length_nil, Nat.zero_add, Nat.add_zero, Nat.reduceAdd, putCells_cT, take_cT,  putCells, List.take_succ_cons, List.take_zero, List.take_nil, List.drop_succ_cons, List.drop_zero, List.drop_nil, AVal.flat, List.replicate_succ, List.replicate_zero])
        try clear u20 u21 u22 u25 u26 u29 u30
        refine WL_cond rfl (fun h31 => ?_) (fun h31 => ?_)
        · skip
          refine WL_seq ?_
          refine WL_reg ?_
          refine O_p rfl rfl rfl ?_
          refine O_p rfl rfl rfl ?_
          refine WO_nil ?_
          refine WL_ret ?_
          exact ⟨_, rfl, _, rfl, rfl⟩
        · skip
          simp at h31
          obtain ⟨⟨⟨hl, hr⟩, h1⟩, h99⟩ := h31
          have zt := light_sz (t := t) (by simpa using hl)
          have rt : Rt t := ⟨20, hr⟩
          have hgo := fun k hk => tof_c l (szT t) t (Nat.le_refl _) rt k hk
          refine WL_skip ?_
          refine WL_seq ?_
          apply WL_prune
          · (repeat (first | exact restr_nil | apply restr_cons rfl | apply restr_none rfl))
          conv => arg 4; (try simp only [List.set_cons_zero, List.set_cons_succ, List.nil_append, List.cons_append, List.length_cons, List.length_nil, Nat.zero_add, Nat.add_zero, Nat.reduceAdd, putCells_cT, take_cT,  putCells, List.take_succ_cons, List.take_zero, List.take_nil, List.drop_succ_cons, List.drop_zero, List.drop_nil, AVal.flat, List.replicate_succ, List.replicate_zero])
          conv => arg 3; (try simp only [List.set_cons_zero, List.set_cons_succ, List.nil_append, List.cons_append, List.length_cons, List.length_nil, Nat.zero_add, Nat.add_zero, Nat.reduceAdd, putCells_cT, take_cT,  putCells, List.take_succ_cons, List.take_zero, List.take_nil, List.drop_succ_cons, List.drop_zero, List.drop_nil, AVal.flat, List.replicate_succ, List.replicate_zero])
          refine WL_seq ?_
          refine WL_reg ?_
          refine O_h rfl rfl rfl rfl ?_
          refine O_p rfl rfl rfl ?_
          refine O_c 12 rfl rfl (callA_of rfl (hgo _ (by omega)).1) ?_
          refine O_n rfl rfl rfl ?_
          refine O_hn rfl rfl rfl rfl ?_
          refine WO_nil ?_
          refine WL_seq ?_
          apply WL_prune
          · (repeat (first | exact restr_nil | apply restr_cons rfl | apply restr_none rfl))
          conv => arg 4; (try simp only [List.set_cons_zero, List.set_cons_succ, List.nil_append, List.cons_append, List.length_cons, List.length_nil, Nat.zero_add, Nat.add_zero, Nat.reduceAdd, putCells_cT, take_cT,  putCells, List.take_succ_cons, List.take_zero, List.take_nil, List.drop_succ_cons, List.drop_zero, List.drop_nil, AVal.flat, List.replicate_succ, List.replicate_zero])
          conv => arg 3; (try simp only [List.set_cons_zero, List.set_cons_succ, List.nil_append, List.cons_append, List.length_cons, List.length_nil, Nat.zero_add, Nat.add_zero, Nat.reduceAdd, putCells_cT, take_cT,  putCells, List.take_succ_cons, List.take_zero, List.take_nil, List.drop_succ_cons, List.drop_zero, List.drop_nil, AVal.flat, List.replicate_succ, List.replicate_zero])
          refine WL_seq ?_
          refine WL_reg ?_
          refine O_h rfl rfl rfl rfl ?_
          refine O_p rfl rfl rfl ?_
          refine O_c 14 rfl rfl (callA_of rfl (hgo _ (by omega)).2) ?_
          refine O_n rfl rfl rfl ?_
          refine O_hn rfl rfl rfl rfl ?_
          refine WO_nil ?_
          refine WL_seq ?_
          apply WL_prune
          · (repeat (first | exact restr_nil | apply restr_cons rfl | apply restr_none rfl))
          conv => arg 4; (try simp only [List.set_cons_zero, List.set_cons_succ, List.nil_append, List.cons_append, List.length_cons, List.length_nil, Nat.zero_add, Nat.add_zero, Nat.reduceAdd, putCells_cT, take_cT,  putCells, List.take_succ_cons, List.take_zero, List.take_nil, List.drop_succ_cons, List.drop_zero, List.drop_nil, AVal.flat, List.replicate_succ, List.replicate_zero])
          conv => arg 3; (try simp only [List.set_cons_zero, List.set_cons_succ, List.nil_append, List.cons_append, List.length_cons, List.length_nil, Nat.zero_add, Nat.add_zero, Nat.reduceAdd, putCells_cT, take_cT,  putCells, List.take_succ_cons, List.take_zero, List.take_nil, List.drop_succ_cons, List.drop_zero, List.drop_nil, AVal.flat, List.replicate_succ, List.replicate_zero])
          refine WL_seq ?_
          refine WL_reg ?_
          refine O_h rfl rfl rfl rfl ?_
          refine O_p rfl rfl rfl ?_
          refine O_c 23 rfl rfl (callA_of rfl (blames_go _ t true l zt (by omega))) ?_
          refine O_p rfl rfl rfl ?_
          refine WO_nil ?_
          refine WL_seq ?_
          apply WL_prune
          · (repeat (first | exact restr_nil | apply restr_cons rfl | apply restr_none rfl))
          conv => arg 4; (try simp only [List.set_cons_zero, List.set_cons_succ, List.nil_append, List.cons_append, List.length_cons, List.length_nil, Nat.zero_add, Nat.add_zero, Nat.reduceAdd, putCells_cT, take_cT,  putCells, List.take_succ_cons, List.take_zero, List.take_nil, List.drop_succ_cons, List.drop_zero, List.drop_nil, AVal.flat, List.replicate_succ, List.replicate_zero])
          conv => arg 3; (try simp only [List.set_cons_zero, List.set_cons_succ, List.nil_append, List.cons_append, List.length_cons, List.length_nil, Nat.zero_add, Nat.add_zero, Nat.reduceAdd, putCells_cT, take_cT,  putCells, List.take_succ_cons, List.take_zero, List.take_nil, List.drop_succ_cons, List.drop_zero, List.drop_nil, AVal.flat, List.replicate_succ, List.replicate_zero])
          refine WL_seq ?_
          refine WL_reg ?_
          refine O_h rfl rfl rfl rfl ?_
          refine O_p rfl rfl rfl ?_
          refine O_c 23 rfl rfl (callA_of rfl (blames_go _ t false l zt (by omega))) ?_
          refine O_p rfl rfl rfl ?_
          refine WO_nil ?_
          refine WL_seq ?_
          apply WL_prune
          · (repeat (first | exact restr_nil | apply restr_cons rfl | apply restr_none rfl))
          conv => arg 4; (try simp only [List.set_cons_zero, List.set_cons_succ, List.nil_append, List.cons_append, List.length_cons, List.length_nil, Nat.zero_add, Nat.add_zero, Nat.reduceAdd, putCells_cT, take_cT,  putCells, List.take_succ_cons, List.take_zero, List.take_nil, List.drop_succ_cons, List.drop_zero, List.drop_nil, AVal.flat, List.replicate_succ, List.replicate_zero])
          conv => arg 3; (try simp only [List.set_cons_zero, List.set_cons_succ, List.nil_append, List.cons_append, List.length_cons, List.length_nil, Nat.zero_add, Nat.add_zero, Nat.reduceAdd, putCells_cT, take_cT,  putCells, List.take_succ_cons, List.take_zero, List.take_nil, List.drop_succ_cons, List.drop_zero, List.drop_nil, AVal.flat, List.replicate_succ, List.replicate_zero])
          refine WL_seq ?_
          refine WL_seq ?_
          refine WL_reg ?_
          refine O_p rfl rfl rfl ?_
          refine O_p rfl rfl rfl ?_
          refine O_p rfl rfl rfl ?_
          apply O_and [_, _] rfl rfl (hT := ?hT50) (h := ?hR50)
          case hT50 =>
            intro hb47
            refine O_p rfl rfl rfl ?_
            refine O_p rfl rfl rfl ?_
            exact WO_nil (WL_nil ⟨rfl, rfl, rfl⟩)
          case hR50 =>
            intro vs hvs
            obtain ⟨u48, u49, rfl⟩ := len2 hvs
            clear hvs; dsimp only [junk]
            refine O_p rfl rfl rfl ?_
            apply O_and [_, _] rfl rfl (hT := ?hT54) (h := ?hR54)
            case hT54 =>
              intro hb51
              refine O_p rfl rfl rfl ?_
              refine O_p rfl rfl rfl ?_
              exact WO_nil (WL_nil ⟨rfl, rfl, rfl⟩)
            case hR54 =>
              intro vs hvs
              obtain ⟨u52, u53, rfl⟩ := len2 hvs
              clear hvs; dsimp only [junk]
              refine O_p rfl rfl rfl ?_
              apply O_and [_, _] rfl rfl (hT := ?hT58) (h := ?hR58)
              case hT58 =>
                intro hb55
                refine O_p rfl rfl rfl ?_
                refine O_p rfl rfl rfl ?_
                exact WO_nil (WL_nil ⟨rfl, rfl, rfl⟩)
              case hR58 =>
                intro vs hvs
                obtain ⟨u56, u57, rfl⟩ := len2 hvs
                clear hvs; dsimp only [junk]
                refine O_p rfl rfl rfl ?_
                apply O_and [_, _] rfl rfl (hT := ?hT62) (h := ?hR62)
                case hT62 =>
                  intro hb59
                  refine O_p rfl rfl rfl ?_
                  refine O_p rfl rfl rfl ?_
                  exact WO_nil (WL_nil ⟨rfl, rfl, rfl⟩)
                case hR62 =>
                  intro vs hvs
                  obtain ⟨u60, u61, rfl⟩ := len2 hvs
                  clear hvs; dsimp only [junk]
                  refine O_p rfl rfl rfl ?_
                  apply O_and [_, _] rfl rfl (hT := ?hT66) (h := ?hR66)
                  case hT66 =>
                    intro hb63
                    refine O_p rfl rfl rfl ?_
                    refine O_p rfl rfl rfl ?_
                    exact WO_nil (WL_nil ⟨rfl, rfl, rfl⟩)
                  case hR66 =>
                    intro vs hvs
                    obtain ⟨u64, u65, rfl⟩ := len2 hvs
                    clear hvs; dsimp only [junk]
                    refine O_p rfl rfl rfl ?_
                    apply O_and [_, _] rfl rfl (hT := ?hT70) (h := ?hR70)
                    case hT70 =>
                      intro hb67
                      refine O_p rfl rfl rfl ?_
                      refine O_p rfl rfl rfl ?_
                      exact WO_nil (WL_nil ⟨rfl, rfl, rfl⟩)
                    case hR70 =>
                      intro vs hvs
                      obtain ⟨u68, u69, rfl⟩ := len2 hvs
                      clear hvs; dsimp only [junk]
                      refine O_p rfl rfl rfl ?_
                      apply O_and [_, _] rfl rfl (hT := ?hT74) (h := ?hR74)
                      case hT74 =>
                        intro hb71
                        refine O_p rfl rfl rfl ?_
                        refine O_p rfl rfl rfl ?_
                        exact WO_nil (WL_nil ⟨rfl, rfl, rfl⟩)
                      case hR74 =>
                        intro vs hvs
                        obtain ⟨u72, u73, rfl⟩ := len2 hvs
                        clear hvs; dsimp only [junk]
                        refine WO_nil ?_
                        refine WL_seq ?_
                        apply WL_prune
                        · (repeat (first | exact restr_nil | apply restr_cons rfl | apply restr_none rfl))
                        conv => arg 4; (try simp only [List.set_cons_zero, List.set_cons_succ, List.nil_append, List.cons_append, List.length_cons, List.length_nil, Nat.zero_add, Nat.add_zero, Nat.reduceAdd, putCells_cT, take_cT,  putCells, List.take_succ_cons, List.take_zero, List.take_nil, List.drop_succ_cons, List.drop_zero, List.drop_nil, AVal.flat, List.replicate_succ, List.replicate_zero])
                        conv => arg 3; (try simp only [List.set_cons_zero, List.set_cons_succ, List.nil_append, List.cons_append, List.length_cons, List.length_nil, Nat.zero_add, Nat.add_zero, Nat.reduceAdd, putCells_cT, take_cT,  putCells, List.take_succ_cons, List.take_zero, List.take_nil, List.drop_succ_cons, List.drop_zero, List.drop_nil, AVal.flat, List.replicate_succ, List.replicate_zero])
                        try clear u48 u49 u52 u53 u56 u57 u60 u61 u64 u65 u68 u69 u72 u73
                        refine WL_cond rfl (fun h74 => ?_) (fun h74 => ?_)
                        · skip
                          replace h74 : tag ≠ 1 ∧ tag ≠ 2 ∧ tag ≠ 4 ∧ tag ≠ 8 ∧ tag ≠ 16 ∧ tag ≠ 32 ∧ tag ≠ 64 ∧ tag ≠ 128 := by simpa [and_assoc] using h74
                          refine WL_seq ?_
                          refine WL_reg ?_
                          refine O_p rfl rfl rfl ?_
                          refine O_p rfl rfl rfl ?_
                          apply O_and [_] rfl rfl (hT := ?hT78) (h := ?hR78)
                          case hT78 =>
                            intro hb76
                            refine O_p rfl rfl rfl ?_
                            exact WO_nil (WL_nil ⟨rfl, rfl, rfl⟩)
                          case hR78 =>
                            intro vs hvs
                            obtain ⟨u77, rfl⟩ := len1 hvs
                            clear hvs; dsimp only [junk]
                            refine O_p rfl rfl rfl ?_
                            apply O_and [_] rfl rfl (hT := ?hT81) (h := ?hR81)
                            case hT81 =>
                              intro hb79
                              refine O_p rfl rfl rfl ?_
                              exact WO_nil (WL_nil ⟨rfl, rfl, rfl⟩)
                            case hR81 =>
                              intro vs hvs
                              obtain ⟨u80, rfl⟩ := len1 hvs
                              clear hvs; dsimp only [junk]
                              refine O_p rfl rfl rfl ?_
                              apply O_and [_, _, _, _] rfl rfl (hT := ?hT87) (h := ?hR87)
                              case hT87 =>
                                intro hb82
                                refine O_h rfl rfl rfl rfl ?_
                                refine O_p rfl rfl rfl ?_
                                refine O_c 24 rfl rfl (callA_of rfl (first_no _ _ tag (by omega) h74)) ?_
                                refine O_v (.bool true) rfl rfl rfl (by simp) ?_
                                exact WO_nil (WL_nil ⟨rfl, rfl, rfl⟩)
                              case hR87 =>
                                intro vs hvs
                                obtain ⟨u83, u84, u85, u86, rfl⟩ := len4 hvs
                                clear hvs; dsimp only [junk]
                                refine O_p rfl rfl rfl ?_
                                refine WO_nil ?_
                                refine WL_ret ?_
                                exact ⟨_, rfl, _, rfl, rfl⟩
                        · skip
                          replace h74 : tag = 1 ∨ tag = 2 ∨ tag = 4 ∨ tag = 8 ∨ tag = 16 ∨ tag = 32 ∨ tag = 64 ∨ tag = 128 := by simp at h74; omega
                          have hft := first_to (l := l) rt.ok h1 h74
                          refine WL_skip ?_
                          refine WL_seq ?_
                          apply WL_prune
                          · (repeat (first | exact restr_nil | apply restr_cons rfl | apply restr_none rfl))
                          conv => arg 4; (try simp only [List.set_cons_zero, List.set_cons_succ, List.nil_append, List.cons_append, List.length_cons, List.length_nil, Nat.zero_add, Nat.add_zero, Nat.reduceAdd, putCells_cT, take_cT,  putCells, List.take_succ_cons, List.take_zero, List.take_nil, List.drop_succ_cons, List.drop_zero, List.drop_nil, AVal.flat, List.replicate_succ, List.replicate_zero])
                          conv => arg 3; (try simp only [List.set_cons_zero, List.set_cons_succ, List.nil_append, List.cons_append, List.length_cons, List.length_nil, Nat.zero_add, Nat.add_zero, Nat.reduceAdd, putCells_cT, take_cT,  putCells, List.take_succ_cons, List.take_zero, List.take_nil, List.drop_succ_cons, List.drop_zero, List.drop_nil, AVal.flat, List.replicate_succ, List.replicate_zero])
                          try clear u77 u80 u83 u84 u85 u86
                          refine WL_seq ?_
                          refine WL_reg ?_
                          refine O_p rfl rfl rfl ?_
                          refine O_h rfl rfl rfl rfl ?_
                          refine O_p rfl rfl rfl ?_
                          apply O_or [_, _, _, _, _, _, _, _, _] rfl rfl (hT := ?hT100) (h := ?hR100)
                          case hT100 =>
                            intro hb90
                            refine O_p rfl rfl rfl ?_
                            refine O_p rfl rfl rfl ?_
                            refine O_p rfl rfl rfl ?_
                            apply O_and [_, _, _, _, _] rfl rfl (hT := ?hT99) (h := ?hR99)
                            case hT99 =>
                              intro hb93
                              refine O_p rfl rfl rfl ?_
                              refine O_h rfl rfl rfl rfl ?_
                              refine O_p rfl rfl rfl ?_
                              refine O_p rfl rfl rfl ?_
                              refine O_p rfl rfl rfl ?_
                              exact WO_nil (WL_nil ⟨rfl, rfl, rfl⟩)
                            case hR99 =>
                              intro vs hvs
                              obtain ⟨u94, u95, u96, u97, u98, rfl⟩ := len5 hvs
                              clear hvs; dsimp only [junk]
                              exact WO_nil (WL_nil ⟨rfl, rfl, rfl⟩)
                          case hR100 =>
                            intro vs hvs
                            obtain ⟨u91, u92, u93, u94, u95, u96, u97, u98, u99, rfl⟩ := len9 hvs
                            clear hvs; dsimp only [junk]
                            refine O_p rfl rfl rfl ?_
                            apply O_or [_, _, _, _, _, _, _] rfl rfl (hT := ?hT109) (h := ?hR109)
                            case hT109 =>
                              intro hb101
                              refine O_p rfl rfl rfl ?_
                              refine O_p rfl rfl rfl ?_
                              refine O_p rfl rfl rfl ?_
                              apply O_and [_, _, _] rfl rfl (hT := ?hT108) (h := ?hR108)
                              case hT108 =>
                                intro hb104
                                refine O_p rfl rfl rfl ?_
                                refine O_h rfl rfl rfl rfl ?_
                                refine O_p rfl rfl rfl ?_
                                exact WO_nil (WL_nil ⟨rfl, rfl, rfl⟩)
                              case hR108 =>
                                intro vs hvs
                                obtain ⟨u105, u106, u107, rfl⟩ := len3 hvs
                                clear hvs; dsimp only [junk]
                                exact WO_nil (WL_nil ⟨rfl, rfl, rfl⟩)
                            case hR109 =>
                              intro vs hvs
                              obtain ⟨u102, u103, u104, u105, u106, u107, u108, rfl⟩ := len7 hvs
                              clear hvs; dsimp only [junk]
                              refine O_p rfl rfl rfl ?_
                              apply O_or [_, _, _, _, _, _, _] rfl rfl (hT := ?hT118) (h := ?hR118)
                              case hT118 =>
                                intro hb110
                                refine O_p rfl rfl rfl ?_
                                refine O_p rfl rfl rfl ?_
                                refine O_p rfl rfl rfl ?_
                                apply O_and [_, _, _] rfl rfl (hT := ?hT117) (h := ?hR117)
                                case hT117 =>
                                  intro hb113
                                  refine O_p rfl rfl rfl ?_
                                  refine O_h rfl rfl rfl rfl ?_
                                  refine O_p rfl rfl rfl ?_
                                  exact WO_nil (WL_nil ⟨rfl, rfl, rfl⟩)
                                case hR117 =>
                                  intro vs hvs
                                  obtain ⟨u114, u115, u116, rfl⟩ := len3 hvs
                                  clear hvs; dsimp only [junk]
                                  exact WO_nil (WL_nil ⟨rfl, rfl, rfl⟩)
                              case hR118 =>
                                intro vs hvs
                                obtain ⟨u111, u112, u113, u114, u115, u116, u117, rfl⟩ := len7 hvs
                                clear hvs; dsimp only [junk]
                                refine O_p rfl rfl rfl ?_
                                refine WO_nil ?_
                                refine WL_seq ?_
                                apply WL_prune
                                · (repeat (first | exact restr_nil | apply restr_cons rfl | apply restr_none rfl))
                                conv => arg 4; (try simp only [List.set_cons_zero, List.set_cons_succ, List.nil_append, List.cons_append, List.length_cons, List.length_nil, Nat.zero_add, Nat.add_zero, Nat.reduceAdd, putCells_cT, take_cT,  putCells, List.take_succ_cons, List.take_zero, List.take_nil, List.drop_succ_cons, List.drop_zero, List.drop_nil, AVal.flat, List.replicate_succ, List.replicate_zero])
                                conv => arg 3; (try simp only [List.set_cons_zero, List.set_cons_succ, List.nil_append, List.cons_append, List.length_cons, List.length_nil, Nat.zero_add, Nat.add_zero, Nat.reduceAdd, putCells_cT, take_cT,  putCells, List.take_succ_cons, List.take_zero, List.take_nil, List.drop_succ_cons, List.drop_zero, List.drop_nil, AVal.flat, List.replicate_succ, List.replicate_zero])
                                try clear u94 u95 u96 u97 u98 u91 u92 u93 u94 u95 u96 u97 u98 u99 u105 u106 u107 u102 u103 u104 u105 u106 u107 u108 u114 u115 u116 u111 u112 u113 u114 u115 u116 u117
                                refine WL_seq ?_
                                refine WL_reg ?_
                                refine O_p rfl rfl rfl ?_
                                refine O_p rfl rfl rfl ?_
                                apply O_and [_] rfl rfl (hT := ?hT122) (h := ?hR122)
                                case hT122 =>
                                  intro hb120
                                  refine O_p rfl rfl rfl ?_
                                  exact WO_nil (WL_nil ⟨rfl, rfl, rfl⟩)
                                case hR122 =>
                                  intro vs hvs
                                  obtain ⟨u121, rfl⟩ := len1 hvs
                                  clear hvs; dsimp only [junk]
                                  refine O_p rfl rfl rfl ?_
                                  apply O_and [_] rfl rfl (hT := ?hT125) (h := ?hR125)
                                  case hT125 =>
                                    intro hb123
                                    refine O_p rfl rfl rfl ?_
                                    exact WO_nil (WL_nil ⟨rfl, rfl, rfl⟩)
                                  case hR125 =>
                                    intro vs hvs
                                    obtain ⟨u124, rfl⟩ := len1 hvs
                                    clear hvs; dsimp only [junk]
                                    refine O_p rfl rfl rfl ?_
                                    apply O_and [_, _] rfl rfl (hT := ?hT129) (h := ?hR129)
                                    case hT129 =>
                                      intro hb126
                                      refine O_h rfl rfl rfl rfl ?_
                                      refine O_c 20 rfl rfl (callA_of rfl (right_go _ t true l ⟨h1, h99⟩ hr zt (by omega))) ?_
                                      exact WO_nil (WL_nil ⟨rfl, rfl, rfl⟩)
                                    case hR129 =>
                                      intro vs hvs
                                      obtain ⟨u127, u128, rfl⟩ := len2 hvs
                                      clear hvs; dsimp only [junk]
                                      refine O_p rfl rfl rfl ?_
                                      apply O_and [_, _] rfl rfl (hT := ?hT133) (h := ?hR133)
                                      case hT133 =>
                                        intro hb130
                                        refine O_h rfl rfl rfl rfl ?_
                                        refine O_c 20 rfl rfl (callA_of rfl (right_go _ t false l ⟨h1, h99⟩ hr zt (by omega))) ?_
                                        exact WO_nil (WL_nil ⟨rfl, rfl, rfl⟩)
                                      case hR133 =>
                                        intro vs hvs
                                        obtain ⟨u131, u132, rfl⟩ := len2 hvs
                                        clear hvs; dsimp only [junk]
                                        refine O_p rfl rfl rfl ?_
                                        apply O_and [_, _, _, _, _, _] rfl rfl (hT := ?hT141) (h := ?hR141)
                                        case hT141 =>
                                          intro hb134
                                          refine O_h rfl rfl rfl rfl ?_
                                          refine O_p rfl rfl rfl ?_
                                          refine O_c 24 rfl rfl (callA_of rfl (first_c (n + 2999) _ tag (by omega))) ?_
                                          refine O_p rfl rfl rfl ?_
                                          refine O_p rfl rfl rfl ?_
                                          refine O_v (.bool true) rfl rfl rfl (by rw [hft]; show AVal.bool (hasTag t tag == hasTag t tag) = _; rw [beq_self_eq_true]) ?_
                                          exact WO_nil (WL_nil ⟨rfl, rfl, rfl⟩)
                                        case hR141 =>
                                          intro vs hvs
                                          obtain ⟨u135, u136, u137, u138, u139, u140, rfl⟩ := len6 hvs
                                          clear hvs; dsimp only [junk]
                                          refine O_p rfl rfl rfl ?_
                                          apply O_and [_, _, _, _] rfl rfl (hT := ?hT147) (h := ?hR147)
                                          case hT147 =>
                                            intro hb142
                                            refine O_h rfl rfl rfl rfl ?_
                                            refine O_p rfl rfl rfl ?_
                                            refine O_c 24 rfl rfl (callA_of rfl (first_go _ t l tag (by omega))) ?_
                                            refine O_v (.bool true) rfl rfl rfl (by simp) ?_
                                            exact WO_nil (WL_nil ⟨rfl, rfl, rfl⟩)
                                          case hR147 =>
                                            intro vs hvs
                                            obtain ⟨u143, u144, u145, u146, rfl⟩ := len4 hvs
                                            clear hvs; dsimp only [junk]
                                            refine O_p rfl rfl rfl ?_
                                            refine WO_nil ?_
                                            refine WL_ret ?_
                                            exact ⟨_, rfl, _, rfl, rfl⟩
end Go.Ev.Seat
