/-
  TypesOrder in the evaluator's reading: true of any three types.
-/
import Derived.Test.YtpidcekngfnfjaaLawA
import Derived.Test.YtpidcekngfnfjaaTyC
set_option linter.unusedVariables false
set_option linter.unusedSimpArgs false
namespace Go.Ev.Seat
open Go Go.Ev
set_option maxRecDepth 20000
attribute [local irreducible] pcall callF
theorem sub_S (n : Nat) (a b : Ty) (ra : Rt a) (rb : Rt b) (wa : WfT a) (wb : WfT b) (h : 20 * (szT a + szT b) + 20 < n) : pcall (tabOf tabL) n 20 [vT a, vT b] = some (.ok (.bool (S a b))) :=
  sub_c (szT a + szT b) n a b ra rb wa wb (Nat.le_refl _) h
theorem sub_true (n : Nat) (a b : Ty) (ra : Rt a) (rb : Rt b) (wa : WfT a) (wb : WfT b) (h : 20 * (szT a + szT b) + 20 < n) (hs : S a b = true) : pcall (tabOf tabL) n 20 [vT a, vT b] = some (.ok (.bool true)) := by
  rw [sub_S n a b ra rb wa wb h, hs]
set_option maxHeartbeats 1000000 in
theorem order (a b c : Ty) (wa : WfT a) (wb : WfT b) (wc : WfT c) : pcall (tabOf tabL) (100 * (szT a + szT b + szT c) + 300 + 1) 5 [vT a, vT b, vT c] = some (.ok (.bool true)) := by
  have sa := szT_pos a
  have sb := szT_pos b
  have sc := szT_pos c
  generalize hn : 100 * (szT a + szT b + szT c) + 300 = n
  obtain ⟨n, rfl⟩ : ∃ m, n = m + 300 := ⟨n - 300, by omega⟩
  have sz := szT_zero
  have sl : szT allT = 1 := rfl
  refine pcall_fin t5 ?_
  refine WL_seq ?_
  refine WL_reg ?_
  refine O_n rfl rfl rfl ?_
  refine O_n rfl rfl rfl ?_
  refine O_n rfl rfl rfl ?_
  refine O_p rfl rfl rfl ?_
  refine WO_nil ?_
  refine WL_seq ?_
  apply WL_prune
  · (repeat (first | exact restr_nil | apply restr_cons rfl | apply restr_none rfl))
  conv => arg 4; (try simp only [List.set_cons_zero, List.set_cons_succ, List.nil_append, List.cons_append, List.length_cons, List.length_nil, Nat.zero_add, Nat.add_zero, Nat.reduceAdd, putCells_cT, take_cT, putCells, List.take_succ_cons, List.take_zero, List.take_nil, List.drop_succ_cons, List.drop_zero, List.drop_nil, AVal.flat])
  conv => arg 3; (try simp only [List.set_cons_zero, List.set_cons_succ, List.nil_append, List.cons_append, List.length_cons, List.length_nil, Nat.zero_add, Nat.add_zero, Nat.reduceAdd, putCells_cT, take_cT, putCells, List.take_succ_cons, List.take_zero, List.take_nil, List.drop_succ_cons, List.drop_zero, List.drop_nil, AVal.flat])
  refine WL_seq ?_
  refine WL_reg ?_
  refine O_c 8 rfl rfl (callA_of rfl (awake_c (n + 240))) ?_
  refine O_p rfl rfl rfl ?_
  refine WO_nil ?_
  refine WL_seq ?_
  apply WL_prune
  · (repeat (first | exact restr_nil | apply restr_cons rfl | apply restr_none rfl))
  conv => arg 4; (try simp only [List.set_cons_zero, List.set_cons_succ, List.nil_append, List.cons_append, List.length_cons, List.length_nil, Nat.zero_add, Nat.add_zero, Nat.reduceAdd, putCells_cT, take_cT, putCells, List.take_succ_cons, List.take_zero, List.take_nil, List.drop_succ_cons, List.drop_zero, List.drop_nil, AVal.flat])
  conv => arg 3; (try simp only [List.set_cons_zero, List.set_cons_succ, List.nil_append, List.cons_append, List.length_cons, List.length_nil, Nat.zero_add, Nat.add_zero, Nat.reduceAdd, putCells_cT, take_cT, putCells, List.take_succ_cons, List.take_zero, List.take_nil, List.drop_succ_cons, List.drop_zero, List.drop_nil, AVal.flat])
  refine WL_seq ?_
  refine WL_reg ?_
  refine O_h rfl rfl rfl rfl ?_
  refine O_c 9 rfl rfl (callA_of rfl (light_c _ a (by omega) wa)) ?_
  refine O_p rfl rfl rfl ?_
  refine WO_nil ?_
  refine WL_seq ?_
  apply WL_prune
  · (repeat (first | exact restr_nil | apply restr_cons rfl | apply restr_none rfl))
  conv => arg 4; (try simp only [List.set_cons_zero, List.set_cons_succ, List.nil_append, List.cons_append, List.length_cons, List.length_nil, Nat.zero_add, Nat.add_zero, Nat.reduceAdd, putCells_cT, take_cT, putCells, List.take_succ_cons, List.take_zero, List.take_nil, List.drop_succ_cons, List.drop_zero, List.drop_nil, AVal.flat])
  conv => arg 3; (try simp only [List.set_cons_zero, List.set_cons_succ, List.nil_append, List.cons_append, List.length_cons, List.length_nil, Nat.zero_add, Nat.add_zero, Nat.reduceAdd, putCells_cT, take_cT, putCells, List.take_succ_cons, List.take_zero, List.take_nil, List.drop_succ_cons, List.drop_zero, List.drop_nil, AVal.flat])
  refine WL_seq ?_
  refine WL_reg ?_
  refine O_h rfl rfl rfl rfl ?_
  refine O_c 9 rfl rfl (callA_of rfl (light_c _ b (by omega) wb)) ?_
  refine O_p rfl rfl rfl ?_
  refine WO_nil ?_
  refine WL_seq ?_
  apply WL_prune
  · (repeat (first | exact restr_nil | apply restr_cons rfl | apply restr_none rfl))
  conv => arg 4; (try simp only [List.set_cons_zero, List.set_cons_succ, List.nil_append, List.cons_append, List.length_cons, List.length_nil, Nat.zero_add, Nat.add_zero, Nat.reduceAdd, putCells_cT, take_cT, putCells, List.take_succ_cons, List.take_zero, List.take_nil, List.drop_succ_cons, List.drop_zero, List.drop_nil, AVal.flat])
  conv => arg 3; (try simp only [List.set_cons_zero, List.set_cons_succ, List.nil_append, List.cons_append, List.length_cons, List.length_nil, Nat.zero_add, Nat.add_zero, Nat.reduceAdd, putCells_cT, take_cT, putCells, List.take_succ_cons, List.take_zero, List.take_nil, List.drop_succ_cons, List.drop_zero, List.drop_nil, AVal.flat])
  refine WL_seq ?_
  refine WL_reg ?_
  refine O_h rfl rfl rfl rfl ?_
  refine O_c 9 rfl rfl (callA_of rfl (light_c _ c (by omega) wc)) ?_
  refine O_p rfl rfl rfl ?_
  refine WO_nil ?_
  refine WL_seq ?_
  apply WL_prune
  · (repeat (first | exact restr_nil | apply restr_cons rfl | apply restr_none rfl))
  conv => arg 4; (try simp only [List.set_cons_zero, List.set_cons_succ, List.nil_append, List.cons_append, List.length_cons, List.length_nil, Nat.zero_add, Nat.add_zero, Nat.reduceAdd, putCells_cT, take_cT, putCells, List.take_succ_cons, List.take_zero, List.take_nil, List.drop_succ_cons, List.drop_zero, List.drop_nil, AVal.flat])
  conv => arg 3; (try simp only [List.set_cons_zero, List.set_cons_succ, List.nil_append, List.cons_append, List.length_cons, List.length_nil, Nat.zero_add, Nat.add_zero, Nat.reduceAdd, putCells_cT, take_cT, putCells, List.take_succ_cons, List.take_zero, List.take_nil, List.drop_succ_cons, List.drop_zero, List.drop_nil, AVal.flat])
  refine WL_seq ?_
  refine WL_seq ?_
  refine WL_reg ?_
  refine O_p rfl rfl rfl ?_
  refine O_p rfl rfl rfl ?_
  refine O_p rfl rfl rfl ?_
  apply O_or [_, _] rfl rfl (hT := ?hT23) (h := ?hR23)
  case hT23 =>
    intro hb20
    refine O_p rfl rfl rfl ?_
    refine O_p rfl rfl rfl ?_
    exact WO_nil (WL_nil ⟨rfl, rfl, rfl⟩)
  case hR23 =>
    intro vs hvs
    obtain ⟨u21, u22, rfl⟩ := len2 hvs
    clear hvs; dsimp only [junk]
    refine O_p rfl rfl rfl ?_
    apply O_or [_, _] rfl rfl (hT := ?hT27) (h := ?hR27)
    case hT27 =>
      intro hb24
      refine O_p rfl rfl rfl ?_
      refine O_p rfl rfl rfl ?_
      exact WO_nil (WL_nil ⟨rfl, rfl, rfl⟩)
    case hR27 =>
      intro vs hvs
      obtain ⟨u25, u26, rfl⟩ := len2 hvs
      clear hvs; dsimp only [junk]
      refine O_p rfl rfl rfl ?_
      apply O_or [_, _, _] rfl rfl (hT := ?hT32) (h := ?hR32)
      case hT32 =>
        intro hb28
        refine O_h rfl rfl rfl rfl ?_
        refine O_c 10 rfl rfl (callA_of rfl (right1 _ a (by omega) wa (by simp at hb28; exact decide_eq_true hb28.1.1))) ?_
        refine O_p rfl rfl rfl ?_
        exact WO_nil (WL_nil ⟨rfl, rfl, rfl⟩)
      case hR32 =>
        intro vs hvs
        obtain ⟨u29, u30, u31, rfl⟩ := len3 hvs
        clear hvs; dsimp only [junk]
        refine O_p rfl rfl rfl ?_
        apply O_or [_, _, _] rfl rfl (hT := ?hT37) (h := ?hR37)
        case hT37 =>
          intro hb33
          refine O_h rfl rfl rfl rfl ?_
          refine O_c 10 rfl rfl (callA_of rfl (right1 _ b (by omega) wb (by simp at hb33; exact decide_eq_true hb33.1.1.2))) ?_
          refine O_p rfl rfl rfl ?_
          exact WO_nil (WL_nil ⟨rfl, rfl, rfl⟩)
        case hR37 =>
          intro vs hvs
          obtain ⟨u34, u35, u36, rfl⟩ := len3 hvs
          clear hvs; dsimp only [junk]
          refine O_p rfl rfl rfl ?_
          apply O_or [_, _, _] rfl rfl (hT := ?hT42) (h := ?hR42)
          case hT42 =>
            intro hb38
            refine O_h rfl rfl rfl rfl ?_
            refine O_c 10 rfl rfl (callA_of rfl (right1 _ c (by omega) wc (by simp at hb38; exact decide_eq_true hb38.1.1.2))) ?_
            refine O_p rfl rfl rfl ?_
            exact WO_nil (WL_nil ⟨rfl, rfl, rfl⟩)
          case hR42 =>
            intro vs hvs
            obtain ⟨u39, u40, u41, rfl⟩ := len3 hvs
            clear hvs; dsimp only [junk]
            refine WO_nil ?_
            refine WL_seq ?_
            apply WL_prune
            · (repeat (first | exact restr_nil | apply restr_cons rfl | apply restr_none rfl))
            conv => arg 4; (try simp only [List.set_cons_zero, List.set_cons_succ, List.nil_append, List.cons_append, List.length_cons, List.length_nil, Nat.zero_add, Nat.add_zero, Nat.reduceAdd, putCells_cT, take_cT, putCells, List.take_succ_cons, List.take_zero, List.take_nil, List.drop_succ_cons, List.drop_zero, List.drop_nil, AVal.flat])
            conv => arg 3; (try simp only [List.set_cons_zero, List.set_cons_succ, List.nil_append, List.cons_append, List.length_cons, List.length_nil, Nat.zero_add, Nat.add_zero, Nat.reduceAdd, putCells_cT, take_cT, putCells, List.take_succ_cons, List.take_zero, List.take_nil, List.drop_succ_cons, List.drop_zero, List.drop_nil, AVal.flat])
            try clear u21 u22 u25 u26 u29 u30 u31 u34 u35 u36 u39 u40 u41
            refine WL_cond rfl (fun h42 => ?_) (fun h42 => ?_)
            · skip
              refine WL_seq ?_
              refine WL_reg ?_
              refine O_p rfl rfl rfl ?_
              refine O_p rfl rfl rfl ?_
              refine WO_nil ?_
              refine WL_ret ?_
              first | exact ⟨_, rfl, _, rfl, rfl⟩ | exact ⟨_, rfl, _, rfl, by rw [hr]⟩
            · skip
              simp at h42
              obtain ⟨⟨⟨⟨⟨la, lb⟩, lc⟩, ra0⟩, rb0⟩, rc0⟩ := h42
              have ra : Rt a := ⟨20, ra0⟩
              have rb : Rt b := ⟨20, rb0⟩
              have rc : Rt c := ⟨20, rc0⟩
              have hr : (true && (!S a b || !S b c || S a c)) = true := by
                cases q1 : S a b <;> cases q2 : S b c <;> simp
                exact S_trans _ a b c (Nat.le_refl _) ra rb rc q1 q2
              refine WL_skip ?_
              refine WL_seq ?_
              apply WL_prune
              · (repeat (first | exact restr_nil | apply restr_cons rfl | apply restr_none rfl))
              conv => arg 4; (try simp only [List.set_cons_zero, List.set_cons_succ, List.nil_append, List.cons_append, List.length_cons, List.length_nil, Nat.zero_add, Nat.add_zero, Nat.reduceAdd, putCells_cT, take_cT, putCells, List.take_succ_cons, List.take_zero, List.take_nil, List.drop_succ_cons, List.drop_zero, List.drop_nil, AVal.flat])
              conv => arg 3; (try simp only [List.set_cons_zero, List.set_cons_succ, List.nil_append, List.cons_append, List.length_cons, List.length_nil, Nat.zero_add, Nat.add_zero, Nat.reduceAdd, putCells_cT, take_cT, putCells, List.take_succ_cons, List.take_zero, List.take_nil, List.drop_succ_cons, List.drop_zero, List.drop_nil, AVal.flat])
              refine WL_seq ?_
              refine WL_seq ?_
              refine WL_drawT [] rfl ?_
              refine S_h (d := some 44) rfl rfl rfl rfl rfl ?_
              refine S_h (d := some 45) rfl rfl rfl rfl rfl ?_
              refine S_c 20 rfl rfl rfl (callA_of rfl (sub_true _ a a ra ra wa wa (by omega) (S_refl _ a (Nat.le_refl _) ra))) ?_
              refine S_p rfl rfl rfl ?_
              refine S_p rfl rfl rfl ?_
              refine S_h (d := some 49) rfl rfl rfl rfl rfl ?_
              refine S_c 27 rfl rfl rfl (callA_of rfl (all_c _)) ?_
              refine S_c 20 rfl rfl rfl (callA_of rfl (sub_true _ a allT ra .all wa .allT (by omega) (S_all rfl))) ?_
              refine S_p rfl rfl rfl ?_
              refine S_p rfl rfl rfl ?_
              refine S_p rfl rfl rfl ?_
              refine S_p rfl rfl rfl ?_
              refine S_h (d := some 56) rfl rfl rfl rfl rfl ?_
              refine S_c 20 rfl rfl rfl (callA_of rfl (sub_true _ zeroT a .zero ra .zero wa (by omega) (S_zero ra))) ?_
              refine S_p rfl rfl rfl ?_
              refine S_p rfl rfl rfl ?_
              refine WS_nil ?_
              refine WL_seq ?_
              apply WL_prune
              · (repeat (first | exact restr_nil | apply restr_cons rfl | apply restr_none rfl))
              conv => arg 4; (try simp only [List.set_cons_zero, List.set_cons_succ, List.nil_append, List.cons_append, List.length_cons, List.length_nil, Nat.zero_add, Nat.add_zero, Nat.reduceAdd, putCells_cT, take_cT, putCells, List.take_succ_cons, List.take_zero, List.take_nil, List.drop_succ_cons, List.drop_zero, List.drop_nil, AVal.flat])
              conv => arg 3; (try simp only [List.set_cons_zero, List.set_cons_succ, List.nil_append, List.cons_append, List.length_cons, List.length_nil, Nat.zero_add, Nat.add_zero, Nat.reduceAdd, putCells_cT, take_cT, putCells, List.take_succ_cons, List.take_zero, List.take_nil, List.drop_succ_cons, List.drop_zero, List.drop_nil, AVal.flat])
              refine WL_cond rfl (fun h59 => ?_) (fun h59 => ?_)
              · skip
                cases h59
              · skip
                refine WL_skip ?_
                refine WL_seq ?_
                apply WL_prune
                · (repeat (first | exact restr_nil | apply restr_cons rfl | apply restr_none rfl))
                conv => arg 4; (try simp only [List.set_cons_zero, List.set_cons_succ, List.nil_append, List.cons_append, List.length_cons, List.length_nil, Nat.zero_add, Nat.add_zero, Nat.reduceAdd, putCells_cT, take_cT, putCells, List.take_succ_cons, List.take_zero, List.take_nil, List.drop_succ_cons, List.drop_zero, List.drop_nil, AVal.flat])
                conv => arg 3; (try simp only [List.set_cons_zero, List.set_cons_succ, List.nil_append, List.cons_append, List.length_cons, List.length_nil, Nat.zero_add, Nat.add_zero, Nat.reduceAdd, putCells_cT, take_cT, putCells, List.take_succ_cons, List.take_zero, List.take_nil, List.drop_succ_cons, List.drop_zero, List.drop_nil, AVal.flat])
                refine WL_seq ?_
                refine WL_reg ?_
                refine O_p rfl rfl rfl ?_
                refine O_p rfl rfl rfl ?_
                apply O_and [_, _, _, _, _, _, _, _, _, _, _, _, _, _, _] rfl rfl (hT := ?hT77) (h := ?hR77)
                case hT77 =>
                  intro hb61
                  refine O_h rfl rfl rfl rfl ?_
                  refine O_h rfl rfl rfl rfl ?_
                  refine O_c 20 rfl rfl (callA_of rfl (sub_S _ a b ra rb wa wb (by omega))) ?_
                  refine O_p rfl rfl rfl ?_
                  refine O_p rfl rfl rfl ?_
                  apply O_or [_, _, _, _] rfl rfl (hT := ?hT71) (h := ?hR71)
                  case hT71 =>
                    intro hb66
                    refine O_h rfl rfl rfl rfl ?_
                    refine O_h rfl rfl rfl rfl ?_
                    refine O_c 20 rfl rfl (callA_of rfl (sub_S _ b c rb rc wb wc (by omega))) ?_
                    refine O_p rfl rfl rfl ?_
                    exact WO_nil (WL_nil ⟨rfl, rfl, rfl⟩)
                  case hR71 =>
                    intro vs hvs
                    obtain ⟨u67, u68, u69, u70, rfl⟩ := len4 hvs
                    clear hvs; dsimp only [junk]
                    refine O_p rfl rfl rfl ?_
                    apply O_or [_, _, _] rfl rfl (hT := ?hT76) (h := ?hR76)
                    case hT76 =>
                      intro hb72
                      refine O_h rfl rfl rfl rfl ?_
                      refine O_h rfl rfl rfl rfl ?_
                      refine O_c 20 rfl rfl (callA_of rfl (sub_S _ a c ra rc wa wc (by omega))) ?_
                      exact WO_nil (WL_nil ⟨rfl, rfl, rfl⟩)
                    case hR76 =>
                      intro vs hvs
                      obtain ⟨u73, u74, u75, rfl⟩ := len3 hvs
                      clear hvs; dsimp only [junk]
                      exact WO_nil (WL_nil ⟨rfl, rfl, rfl⟩)
                case hR77 =>
                  intro vs hvs
                  obtain ⟨u62, u63, u64, u65, u66, u67, u68, u69, u70, u71, u72, u73, u74, u75, u76, rfl⟩ := len15 hvs
                  clear hvs; dsimp only [junk]
                  refine O_p rfl rfl rfl ?_
                  refine WO_nil ?_
                  refine WL_ret ?_
                  first | exact ⟨_, rfl, _, rfl, rfl⟩ | exact ⟨_, rfl, _, rfl, by rw [hr]⟩
end Go.Ev.Seat
