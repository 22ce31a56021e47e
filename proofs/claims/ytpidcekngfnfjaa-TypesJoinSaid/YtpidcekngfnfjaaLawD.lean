/-
  TypesJoin in the evaluator's reading: true of any two types.
-/
import Derived.Test.YtpidcekngfnfjaaLawC
import Derived.Test.YtpidcekngfnfjaaTyD
set_option linter.unusedVariables false
set_option linter.unusedSimpArgs false
namespace Go.Ev.Seat
open Go Go.Ev
set_option maxRecDepth 20000
attribute [local irreducible] pcall callF
theorem join_J (n : Nat) (a b j : Ty) (ra : Rt a) (rb : Rt b) (wa : WfT a) (wb : WfT b) (h : 20 * (szT a + szT b) + 20 < n) (hj : J a b = j) : pcall (tabOf tabL) n 18 [vT a, vT b] = some (.ok (vT j)) := by
  subst hj; exact join_c (szT a + szT b) n a b ra rb wa wb (Nat.le_refl _) h
set_option maxHeartbeats 1000000 in
theorem joins (a b : Ty) (wa : WfT a) (wb : WfT b) : pcall (tabOf tabL) (100 * (szT a + szT b) + 40 * (szT (J a b) + szT (J b a)) + 300 + 1) 6 [vT a, vT b] = some (.ok (.bool true)) := by
  have sa := szT_pos a
  have sb := szT_pos b
  generalize hn : 100 * (szT a + szT b) + 40 * (szT (J a b) + szT (J b a)) + 300 = n
  obtain ⟨n, rfl⟩ : ∃ m, n = m + 300 := ⟨n - 300, by omega⟩
  have sz := szT_zero
  refine pcall_fin t6 ?_
  refine WL_seq ?_
  refine WL_reg ?_
  refine O_n rfl rfl rfl ?_
  refine O_n rfl rfl rfl ?_
  refine O_p rfl rfl rfl ?_
  refine WO_nil ?_
  refine WL_seq ?_
  apply WL_prune
  · (repeat (first | exact restr_nil | apply restr_cons rfl | apply restr_none rfl))
  conv => arg 4; (try simp only [List.set_cons_zero, List.set_cons_succ, List.nil_append, List.cons_append, List.length_cons, List.length_nil, Nat.zero_add, Nat.add_zero, Nat.reduceAdd, putCells_cT, take_cT, putCells, List.take_succ_cons, List.take_zero, List.take_nil, List.drop_succ_cons, List.drop_zero, List.drop_nil, AVal.flat])
  conv => arg 3; (try simp only [List.set_cons_zero, List.set_cons_succ, List.nil_append, List.cons_append, List.length_cons, List.length_nil, Nat.zero_add, Nat.add_zero, Nat.reduceAdd, putCells_cT, take_cT, putCells, List.take_succ_cons, List.take_zero, List.take_nil, List.drop_succ_cons, List.drop_zero, List.drop_nil, AVal.flat])
  refine WL_seq ?_
  refine WL_reg ?_
  refine O_c 8 rfl rfl (callA_of rfl (awake_c (n + 240))) ?_
  refine O_p rfl rfl rfl ?_
  refine WO_nil ?_
  refine WL_seq ?_
  apply WL_prune
  · (repeat (first | exact restr_nil | apply restr_cons rfl | apply restr_none rfl))
  conv => arg 4; (try simp only [List.set_cons_zero, List.set_cons_succ, List.nil_append, List.cons_append, List.length_cons, List.length_nil, Nat.zero_add, Nat.add_zero, Nat.reduceAdd, putCells_cT, take_cT, putCells, List.take_succ_cons, List.take_zero, List.take_nil, List.drop_succ_cons, List.drop_zero, List.drop_nil, AVal.flat])
  conv => arg 3; (try simp only [List.set_cons_zero, List.set_cons_succ, List.nil_append, List.cons_append, List.length_cons, List.length_nil, Nat.zero_add, Nat.add_zero, Nat.reduceAdd, putCells_cT, take_cT, putCells, List.take_succ_cons, List.take_zero, List.take_nil, List.drop_succ_cons, List.drop_zero, List.drop_nil, AVal.flat])
  refine WL_seq ?_
  refine WL_reg ?_
  refine O_h rfl rfl rfl rfl ?_
  refine O_c 9 rfl rfl (callA_of rfl (light_c _ a (by omega) wa)) ?_
  refine O_p rfl rfl rfl ?_
  refine WO_nil ?_
  refine WL_seq ?_
  apply WL_prune
  · (repeat (first | exact restr_nil | apply restr_cons rfl | apply restr_none rfl))
  conv => arg 4; (try simp only [List.set_cons_zero, List.set_cons_succ, List.nil_append, List.cons_append, List.length_cons, List.length_nil, Nat.zero_add, Nat.add_zero, Nat.reduceAdd, putCells_cT, take_cT, putCells, List.take_succ_cons, List.take_zero, List.take_nil, List.drop_succ_cons, List.drop_zero, List.drop_nil, AVal.flat])
  conv => arg 3; (try simp only [List.set_cons_zero, List.set_cons_succ, List.nil_append, List.cons_append, List.length_cons, List.length_nil, Nat.zero_add, Nat.add_zero, Nat.reduceAdd, putCells_cT, take_cT, putCells, List.take_succ_cons, List.take_zero, List.take_nil, List.drop_succ_cons, List.drop_zero, List.drop_nil, AVal.flat])
  refine WL_seq ?_
  refine WL_reg ?_
  refine O_h rfl rfl rfl rfl ?_
  refine O_c 9 rfl rfl (callA_of rfl (light_c _ b (by omega) wb)) ?_
  refine O_p rfl rfl rfl ?_
  refine WO_nil ?_
  refine WL_seq ?_
  apply WL_prune
  · (repeat (first | exact restr_nil | apply restr_cons rfl | apply restr_none rfl))
  conv => arg 4; (try simp only [List.set_cons_zero, List.set_cons_succ, List.nil_append, List.cons_append, List.length_cons, List.length_nil, Nat.zero_add, Nat.add_zero, Nat.reduceAdd, putCells_cT, take_cT, putCells, List.take_succ_cons, List.take_zero, List.take_nil, List.drop_succ_cons, List.drop_zero, List.drop_nil, AVal.flat])
  conv => arg 3; (try simp only [List.set_cons_zero, List.set_cons_succ, List.nil_append, List.cons_append, List.length_cons, List.length_nil, Nat.zero_add, Nat.add_zero, Nat.reduceAdd, putCells_cT, take_cT, putCells, List.take_succ_cons, List.take_zero, List.take_nil, List.drop_succ_cons, List.drop_zero, List.drop_nil, AVal.flat])
  refine WL_seq ?_
  refine WL_seq ?_
  refine WL_reg ?_
  refine O_p rfl rfl rfl ?_
  refine O_p rfl rfl rfl ?_
  refine O_p rfl rfl rfl ?_
  apply O_or [_, _] rfl rfl (hT := ?hT21) (h := ?hR21)
  case hT21 =>
    intro hb18
    refine O_p rfl rfl rfl ?_
    refine O_p rfl rfl rfl ?_
    exact WO_nil (WL_nil ⟨rfl, rfl, rfl⟩)
  case hR21 =>
    intro vs hvs
    obtain ⟨u19, u20, rfl⟩ := len2 hvs
    clear hvs; dsimp only [junk]
    refine O_p rfl rfl rfl ?_
    apply O_or [_, _, _] rfl rfl (hT := ?hT26) (h := ?hR26)
    case hT26 =>
      intro hb22
      refine O_h rfl rfl rfl rfl ?_
      refine O_c 10 rfl rfl (callA_of rfl (right1 _ a (by omega) wa (by simp at hb22; exact decide_eq_true hb22.1))) ?_
      refine O_p rfl rfl rfl ?_
      exact WO_nil (WL_nil ⟨rfl, rfl, rfl⟩)
    case hR26 =>
      intro vs hvs
      obtain ⟨u23, u24, u25, rfl⟩ := len3 hvs
      clear hvs; dsimp only [junk]
      refine O_p rfl rfl rfl ?_
      apply O_or [_, _, _] rfl rfl (hT := ?hT31) (h := ?hR31)
      case hT31 =>
        intro hb27
        refine O_h rfl rfl rfl rfl ?_
        refine O_c 10 rfl rfl (callA_of rfl (right1 _ b (by omega) wb (by simp at hb27; exact decide_eq_true hb27.1.2))) ?_
        refine O_p rfl rfl rfl ?_
        exact WO_nil (WL_nil ⟨rfl, rfl, rfl⟩)
      case hR31 =>
        intro vs hvs
        obtain ⟨u28, u29, u30, rfl⟩ := len3 hvs
        clear hvs; dsimp only [junk]
        refine WO_nil ?_
        refine WL_seq ?_
        apply WL_prune
        · (repeat (first | exact restr_nil | apply restr_cons rfl | apply restr_none rfl))
        conv => arg 4; (try simp only [List.set_cons_zero, List.set_cons_succ, List.nil_append, List.cons_append, List.length_cons, List.length_nil, Nat.zero_add, Nat.add_zero, Nat.reduceAdd, putCells_cT, take_cT, putCells, List.take_succ_cons, List.take_zero, List.take_nil, List.drop_succ_cons, List.drop_zero, List.drop_nil, AVal.flat])
        conv => arg 3; (try simp only [List.set_cons_zero, List.set_cons_succ, List.nil_append, List.cons_append, List.length_cons, List.length_nil, Nat.zero_add, Nat.add_zero, Nat.reduceAdd, putCells_cT, take_cT, putCells, List.take_succ_cons, List.take_zero, List.take_nil, List.drop_succ_cons, List.drop_zero, List.drop_nil, AVal.flat])
        try clear u19 u20 u23 u24 u25 u28 u29 u30
        refine WL_cond rfl (fun h31 => ?_) (fun h31 => ?_)
        · skip
          refine WL_seq ?_
          refine WL_reg ?_
          refine O_p rfl rfl rfl ?_
          refine O_p rfl rfl rfl ?_
          refine WO_nil ?_
          refine WL_ret ?_
          exact ⟨_, rfl, _, rfl, rfl⟩
        · skip
          simp at h31
          obtain ⟨⟨⟨la, lb⟩, ra0⟩, rb0⟩ := h31
          have ra : Rt a := ⟨20, ra0⟩
          have rb : Rt b := ⟨20, rb0⟩
          have wj : WfT (J a b) := join_wf _ _ _ ra rb wa wb
          have wk : WfT (J b a) := join_wf _ _ _ rb ra wb wa
          refine WL_skip ?_
          refine WL_seq ?_
          apply WL_prune
          · (repeat (first | exact restr_nil | apply restr_cons rfl | apply restr_none rfl))
          conv => arg 4; (try simp only [List.set_cons_zero, List.set_cons_succ, List.nil_append, List.cons_append, List.length_cons, List.length_nil, Nat.zero_add, Nat.add_zero, Nat.reduceAdd, putCells_cT, take_cT, putCells, List.take_succ_cons, List.take_zero, List.take_nil, List.drop_succ_cons, List.drop_zero, List.drop_nil, AVal.flat])
          conv => arg 3; (try simp only [List.set_cons_zero, List.set_cons_succ, List.nil_append, List.cons_append, List.length_cons, List.length_nil, Nat.zero_add, Nat.add_zero, Nat.reduceAdd, putCells_cT, take_cT, putCells, List.take_succ_cons, List.take_zero, List.take_nil, List.drop_succ_cons, List.drop_zero, List.drop_nil, AVal.flat])
          refine WL_seq ?_
          refine WL_reg ?_
          refine O_h rfl rfl rfl rfl ?_
          refine O_h rfl rfl rfl rfl ?_
          refine O_c 18 rfl rfl (callA_of rfl (join_J _ a b _ ra rb wa wb (by omega) rfl)) ?_
          refine O_n rfl rfl rfl ?_
          refine O_hn rfl rfl rfl rfl ?_
          refine WO_nil ?_
          refine WL_seq ?_
          apply WL_prune
          · (repeat (first | exact restr_nil | apply restr_cons rfl | apply restr_none rfl))
          conv => arg 4; (try simp only [List.set_cons_zero, List.set_cons_succ, List.nil_append, List.cons_append, List.length_cons, List.length_nil, Nat.zero_add, Nat.add_zero, Nat.reduceAdd, putCells_cT, take_cT, putCells, List.take_succ_cons, List.take_zero, List.take_nil, List.drop_succ_cons, List.drop_zero, List.drop_nil, AVal.flat])
          conv => arg 3; (try simp only [List.set_cons_zero, List.set_cons_succ, List.nil_append, List.cons_append, List.length_cons, List.length_nil, Nat.zero_add, Nat.add_zero, Nat.reduceAdd, putCells_cT, take_cT, putCells, List.take_succ_cons, List.take_zero, List.take_nil, List.drop_succ_cons, List.drop_zero, List.drop_nil, AVal.flat])
          refine WL_seq ?_
          refine WL_reg ?_
          refine O_h rfl rfl rfl rfl ?_
          refine O_h rfl rfl rfl rfl ?_
          refine O_c 18 rfl rfl (callA_of rfl (join_J _ b a _ rb ra wb wa (by omega) rfl)) ?_
          refine O_n rfl rfl rfl ?_
          refine O_hn rfl rfl rfl rfl ?_
          refine WO_nil ?_
          refine WL_seq ?_
          apply WL_prune
          · (repeat (first | exact restr_nil | apply restr_cons rfl | apply restr_none rfl))
          conv => arg 4; (try simp only [List.set_cons_zero, List.set_cons_succ, List.nil_append, List.cons_append, List.length_cons, List.length_nil, Nat.zero_add, Nat.add_zero, Nat.reduceAdd, putCells_cT, take_cT, putCells, List.take_succ_cons, List.take_zero, List.take_nil, List.drop_succ_cons, List.drop_zero, List.drop_nil, AVal.flat])
          conv => arg 3; (try simp only [List.set_cons_zero, List.set_cons_succ, List.nil_append, List.cons_append, List.length_cons, List.length_nil, Nat.zero_add, Nat.add_zero, Nat.reduceAdd, putCells_cT, take_cT, putCells, List.take_succ_cons, List.take_zero, List.take_nil, List.drop_succ_cons, List.drop_zero, List.drop_nil, AVal.flat])
          refine WL_seq ?_
          refine WL_seq ?_
          refine WL_reg ?_
          refine O_h rfl rfl rfl rfl ?_
          refine O_c 11 rfl rfl (callA_of rfl (right_ref _ (J a b) (by omega) wj)) ?_
          refine O_p rfl rfl rfl ?_
          refine O_p rfl rfl rfl ?_
          apply O_or [_, _, _] rfl rfl (hT := ?hT46) (h := ?hR46)
          case hT46 =>
            intro hb42
            refine O_h rfl rfl rfl rfl ?_
            refine O_c 11 rfl rfl (callA_of rfl (right_ref _ (J b a) (by omega) wk)) ?_
            refine O_p rfl rfl rfl ?_
            exact WO_nil (WL_nil ⟨rfl, rfl, rfl⟩)
          case hR46 =>
            intro vs hvs
            obtain ⟨u43, u44, u45, rfl⟩ := len3 hvs
            clear hvs; dsimp only [junk]
            refine WO_nil ?_
            refine WL_seq ?_
            apply WL_prune
            · (repeat (first | exact restr_nil | apply restr_cons rfl | apply restr_none rfl))
            conv => arg 4; (try simp only [List.set_cons_zero, List.set_cons_succ, List.nil_append, List.cons_append, List.length_cons, List.length_nil, Nat.zero_add, Nat.add_zero, Nat.reduceAdd, putCells_cT, take_cT, putCells, List.take_succ_cons, List.take_zero, List.take_nil, List.drop_succ_cons, List.drop_zero, List.drop_nil, AVal.flat])
            conv => arg 3; (try simp only [List.set_cons_zero, List.set_cons_succ, List.nil_append, List.cons_append, List.length_cons, List.length_nil, Nat.zero_add, Nat.add_zero, Nat.reduceAdd, putCells_cT, take_cT, putCells, List.take_succ_cons, List.take_zero, List.take_nil, List.drop_succ_cons, List.drop_zero, List.drop_nil, AVal.flat])
            try clear u43 u44 u45
            refine WL_cond rfl (fun h46 => ?_) (fun h46 => ?_)
            · skip
              refine WL_seq ?_
              refine WL_reg ?_
              refine O_p rfl rfl rfl ?_
              refine O_p rfl rfl rfl ?_
              refine WO_nil ?_
              refine WL_ret ?_
              exact ⟨_, rfl, _, rfl, rfl⟩
            · skip
              simp at h46
              obtain ⟨⟨_, rj0⟩, _, rk0⟩ := h46
              have rj : Rt (J a b) := ⟨20, rj0⟩
              have rk : Rt (J b a) := ⟨20, rk0⟩
              refine WL_skip ?_
              refine WL_seq ?_
              apply WL_prune
              · (repeat (first | exact restr_nil | apply restr_cons rfl | apply restr_none rfl))
              conv => arg 4; (try simp only [List.set_cons_zero, List.set_cons_succ, List.nil_append, List.cons_append, List.length_cons, List.length_nil, Nat.zero_add, Nat.add_zero, Nat.reduceAdd, putCells_cT, take_cT, putCells, List.take_succ_cons, List.take_zero, List.take_nil, List.drop_succ_cons, List.drop_zero, List.drop_nil, AVal.flat])
              conv => arg 3; (try simp only [List.set_cons_zero, List.set_cons_succ, List.nil_append, List.cons_append, List.length_cons, List.length_nil, Nat.zero_add, Nat.add_zero, Nat.reduceAdd, putCells_cT, take_cT, putCells, List.take_succ_cons, List.take_zero, List.take_nil, List.drop_succ_cons, List.drop_zero, List.drop_nil, AVal.flat])
              refine WL_seq ?_
              refine WL_drawT [] rfl ?_
              refine S_h (d := some 48) rfl rfl rfl rfl rfl ?_
              refine S_h (d := some 49) rfl rfl rfl rfl rfl ?_
              refine S_c 18 rfl rfl rfl (callA_of rfl (join_J _ a a a ra ra wa wa (by omega) (join_self _ a (Nat.le_refl _) ra))) ?_
              refine S_h (d := some 51) rfl rfl rfl rfl rfl ?_
              refine S_c 13 rfl rfl rfl (callA_of rfl (same_self _ a (by omega) wa)) ?_
              refine S_p rfl rfl rfl ?_
              refine WS_nil ?_
              refine WL_seq ?_
              apply WL_prune
              · (repeat (first | exact restr_nil | apply restr_cons rfl | apply restr_none rfl))
              conv => arg 4; (try simp only [List.set_cons_zero, List.set_cons_succ, List.nil_append, List.cons_append, List.length_cons, List.length_nil, Nat.zero_add, Nat.add_zero, Nat.reduceAdd, putCells_cT, take_cT, putCells, List.take_succ_cons, List.take_zero, List.take_nil, List.drop_succ_cons, List.drop_zero, List.drop_nil, AVal.flat])
              conv => arg 3; (try simp only [List.set_cons_zero, List.set_cons_succ, List.nil_append, List.cons_append, List.length_cons, List.length_nil, Nat.zero_add, Nat.add_zero, Nat.reduceAdd, putCells_cT, take_cT, putCells, List.take_succ_cons, List.take_zero, List.take_nil, List.drop_succ_cons, List.drop_zero, List.drop_nil, AVal.flat])
              refine WL_seq ?_
              refine WL_drawT [] rfl ?_
              refine S_p rfl rfl rfl ?_
              refine S_p rfl rfl rfl ?_
              refine S_h (d := some 55) rfl rfl rfl rfl rfl ?_
              refine S_h (d := some 56) rfl rfl rfl rfl rfl ?_
              refine S_c 20 rfl rfl rfl (callA_of rfl (sub_true _ a (J a b) ra rj wa wj (by omega) (_root_.Go.Ev.join_l _ a b (Nat.le_refl _) ra rb rj))) ?_
              refine S_p rfl rfl rfl ?_
              refine S_p rfl rfl rfl ?_
              refine S_h (d := some 60) rfl rfl rfl rfl rfl ?_
              refine S_h (d := some 61) rfl rfl rfl rfl rfl ?_
              refine S_c 20 rfl rfl rfl (callA_of rfl (sub_true _ b (J a b) rb rj wb wj (by omega) (join_r _ a b (Nat.le_refl _) ra rb rj))) ?_
              refine S_p rfl rfl rfl ?_
              refine S_p rfl rfl rfl ?_
              refine S_h (d := some 65) rfl rfl rfl rfl rfl ?_
              refine S_h (d := some 66) rfl rfl rfl rfl rfl ?_
              refine S_c 20 rfl rfl rfl (callA_of rfl (sub_true _ (J a b) (J b a) rj rk wj wk (by omega) (join_comm _ a b (Nat.le_refl _) ra rb rj rk))) ?_
              refine S_p rfl rfl rfl ?_
              refine S_p rfl rfl rfl ?_
              refine S_h (d := some 70) rfl rfl rfl rfl rfl ?_
              refine S_h (d := some 71) rfl rfl rfl rfl rfl ?_
              refine S_c 20 rfl rfl rfl (callA_of rfl (sub_true _ (J b a) (J a b) rk rj wk wj (by omega) (join_comm _ b a (Nat.le_refl _) rb ra rk rj))) ?_
              refine S_p rfl rfl rfl ?_
              refine S_p rfl rfl rfl ?_
              refine S_p rfl rfl rfl ?_
              refine S_p rfl rfl rfl ?_
              refine S_p rfl rfl rfl ?_
              refine S_h (d := some 78) rfl rfl rfl rfl rfl ?_
              refine S_p rfl rfl rfl ?_
              refine S_c 18 rfl rfl rfl (callA_of rfl (join_J _ a zeroT a ra .zero wa .zero (by omega) (join_zero ra))) ?_
              refine S_h (d := some 81) rfl rfl rfl rfl rfl ?_
              refine S_c 13 rfl rfl rfl (callA_of rfl (same_self _ a (by omega) wa)) ?_
              refine S_p rfl rfl rfl ?_
              refine S_p rfl rfl rfl ?_
              refine WS_nil ?_
              refine WL_ret ?_
              exact ⟨_, rfl, _, rfl, rfl⟩
end Go.Ev.Seat
