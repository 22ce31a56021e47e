/-
  The functions about types: how great one is, whether one may be, whether two are the same.
-/
import Derived.Test.YtbjoldcjbpngaaaTabs
import Derived.Test.YtbjoldcjbpngaaaTyA
import Derived.Test.YtbjoldcjbpngaaaEvU
import Derived.KernelRfl
set_option linter.unusedVariables false
set_option linter.unusedSimpArgs false
namespace Go.Ev.Seat.TyS
open Go Go.Ev
set_option maxRecDepth 20000
attribute [local irreducible] pcall callF
theorem size_zero (n : Nat) (t : Ty) : pcall (tabOf tabL) (n + 1) 38 [vT t, .int .i64 (0 : Nat)] = some (.ok (.int .i64 (rsz t 0 : Nat))) := by
  refine pcall_fin t38 ?_
  refine WL_seq ?_
  refine WL_reg ?_
  refine O_n rfl rfl rfl ?_
  refine O_p rfl rfl rfl ?_
  refine WO_nil ?_
  refine WL_seq ?_
  apply WL_prune
  · (repeat (first | exact restr_nil | apply restr_cons rfl | apply restr_none rfl))
  refine WL_seq ?_
  refine WL_seq ?_
  refine WL_reg ?_
  refine O_p rfl rfl rfl ?_
  refine O_p rfl rfl rfl ?_
  refine WO_nil ?_
  refine WL_seq ?_
  apply WL_prune
  · (repeat (first | exact restr_nil | apply restr_cons rfl | apply restr_none rfl))
  refine WL_cond rfl (fun h9 => ?_) (fun h9 => ?_)
  · skip
    refine WL_seq ?_
    refine WL_reg ?_
    refine O_p rfl rfl rfl ?_
    refine WO_nil ?_
    refine WL_ret ?_
    exact ⟨_, rfl, _, rfl, by rw [rsz_zero]; rfl⟩
  · skip
    simp at h9
theorem size_c : ∀ (n : Nat) (t : Ty) (l : Nat), szT t < n → WfT t → l < 1000 → pcall (tabOf tabL) n 38 [vT t, .int .i64 (l : Nat)] = some (.ok (.int .i64 (rsz t l : Nat)))
  | 0, t, l, h, _, _ => by omega
  | n + 1, t, 0, h, _, _ => size_zero n t
  | n + 1, t, l + 1, h, hw, hl => by
    have ih := size_c n
    have hp := len_pairs t
    have hf := len_funs t
    have hl1 : IntKind.i64.wrap (((l + 1 : Nat) : Int) - 1) = (l : Int) := by rw [kw_i64_id (by omega) (by omega)]; omega
    cases hw with | mk w1 w2 w3 w4 w5 w6 w7 =>
    refine pcall_fin t38 ?_
    refine WL_seq ?_
    refine WL_reg ?_
    refine O_n rfl rfl rfl ?_
    refine O_p rfl rfl rfl ?_
    refine WO_nil ?_
    refine WL_seq ?_
    apply WL_prune
    · (repeat (first | exact restr_nil | apply restr_cons rfl | apply restr_none rfl))
    refine WL_seq ?_
    refine WL_seq ?_
    refine WL_reg ?_
    refine O_p rfl rfl rfl ?_
    refine O_p rfl rfl rfl ?_
    refine WO_nil ?_
    refine WL_seq ?_
    apply WL_prune
    · (repeat (first | exact restr_nil | apply restr_cons rfl | apply restr_none rfl))
    refine WL_cond rfl (fun h9 => ?_) (fun h9 => ?_)
    · skip
      simp at h9; omega
    · skip
      refine WL_skip ?_
      refine WL_seq ?_
      apply WL_prune
      · (repeat (first | exact restr_nil | apply restr_cons rfl | apply restr_none rfl))
      refine WL_seq ?_
      refine WL_reg ?_
      refine O_p rfl rfl rfl ?_
      refine WO_nil ?_
      refine WL_seq ?_
      apply WL_prune
      · (repeat (first | exact restr_nil | apply restr_cons rfl | apply restr_none rfl))
      refine WL_seq ?_
      refine WL_seq ?_
      refine WL_reg ?_
      refine O_p rfl rfl rfl ?_
      refine WO_nil ?_
      refine WL_seq ?_
      apply WL_prune
      · (repeat (first | exact restr_nil | apply restr_cons rfl | apply restr_none rfl))
      refine WL_block ?_
      apply WL_forc (α := Nat × Nat) (fun s => [(5, .int .i64 (s.1 : Nat)), (6, .int .i64 (s.2 : Nat))]) (fun s => s.2 ≤ t.pairs.length ∧ s.1 ≤ 2000 ∧ min 1000 (1 + rszs t.pairs l) = min 1000 (s.1 + rszs (t.pairs.drop s.2) l)) (fun s => t.pairs.length - s.2) ((1, 0)) (he := ?he) (hP := ?hP) (hk := ?hk) (round := ?round)
      case he =>
        (repeat (first | exact restr_nil | apply restr_cons rfl | apply restr_none rfl))
      case hP =>
        exact ⟨by omega, by omega, rfl⟩
      case hk =>
        show t.pairs.length - 0 < n; omega
      case round =>
        rintro ⟨c, i⟩ ⟨hi, hc, hs⟩
        simp only at hi hc hs
        dsimp only [List.cons_append, List.nil_append] at *
        refine WL_seq ?_
        refine WL_seq ?_
        refine WL_reg ?_
        refine O_p rfl rfl rfl ?_
        refine O_p rfl rfl rfl ?_
        refine O_h rfl rfl rfl rfl ?_
        refine O_h rfl rfl rfl rfl ?_
        refine O_p rfl rfl rfl ?_
        refine O_p rfl rfl rfl ?_
        apply O_and [_, _] rfl rfl (hT := ?hT18) (h := ?hR18)
        case hT18 =>
          intro hb15
          refine O_p rfl rfl rfl ?_
          refine O_p rfl rfl rfl ?_
          exact WO_nil (WL_nil ⟨rfl, rfl, rfl⟩)
        case hR18 =>
          intro vs hvs
          obtain ⟨u16, u17, rfl⟩ := len2 hvs
          clear hvs; dsimp only [junk]
          refine WO_nil ?_
          refine WL_seq ?_
          apply WL_prune
          · (repeat (first | exact restr_nil | apply restr_cons rfl | apply restr_none rfl))
          try clear u16 u17
          refine WL_cond rfl (fun h18 => ?_) (fun h18 => ?_)
          · skip
            simp at h18
            obtain ⟨x, hx⟩ : ∃ x, (t.pairs)[i]? = some x := ⟨_, List.getElem?_eq_getElem (by omega)⟩
            have hmx := List.mem_of_getElem? hx
            have hsx := szT_pairs hmx
            have hle := rsz_le x l
            have hg := drop_of hx
            refine WL_skip ?_
            refine WL_seq ?_
            apply WL_prune
            · (repeat (first | exact restr_nil | apply restr_cons rfl | apply restr_none rfl))
            refine WL_seq ?_
            refine WL_block ?_
            refine WL_reg ?_
            refine O_p rfl rfl rfl ?_
            refine O_p rfl rfl rfl ?_
            refine O_h rfl rfl rfl rfl ?_
            refine O_p rfl rfl rfl ?_
            refine O_ia rfl rfl (Int.natCast_nonneg _) (encT_get (i := (i : Nat)) hx) (encT_flat _) rfl ?_
            refine O_h rfl rfl rfl rfl ?_
            refine O_p rfl rfl rfl ?_
            refine O_p rfl rfl rfl ?_
            refine O_c 38 rfl rfl (callA_of rfl (by rw [hl1]; exact ih x l (by omega) (w6 x hmx) (by omega))) ?_
            refine O_p rfl rfl rfl ?_
            refine O_p rfl rfl rfl ?_
            refine WO_nil ?_
            refine WL_nil ?_
            refine Blk_norm (?_ : WL _ _ _ _ _)
            refine WL_seq ?_
            apply WL_prune
            · (repeat (first | exact restr_nil | apply restr_cons rfl | apply restr_none rfl))
            refine WL_reg ?_
            refine O_p rfl rfl rfl ?_
            refine O_p rfl rfl rfl ?_
            refine O_p rfl rfl rfl ?_
            refine WO_nil ?_
            refine WL_nil ?_
            refine RndC_norm ((c + rsz x l, i + 1)) (by refine ⟨?_, ?_, ?_⟩ <;> simp only <;> first | omega | (rw [hs, hg, rszs]; omega)) (by show _ < _; omega) ?_ rfl
            · rw [wrap_add (by omega), wrap_succ (by omega)]; (repeat (first | exact restr_nil | apply restr_cons rfl | apply restr_none rfl))
          · skip
            have hq : min 1000 (1 + rszs t.pairs l) = min 1000 c := by
              rw [hs]; simp at h18
              by_cases hc : i < t.pairs.length
              · have := h18 hc; omega
              · rw [List.drop_eq_nil_of_le (by omega)]; simp [rszs]
            refine WL_exit ?_
            refine RndC_exit ?_
            refine Blk_exit (?_ : WL _ _ _ _ _)
            refine WL_seq ?_
            apply WL_prune
            · (repeat (first | exact restr_nil | apply restr_cons rfl | apply restr_none rfl))
            refine WL_seq ?_
            refine WL_seq ?_
            refine WL_reg ?_
            refine O_p rfl rfl rfl ?_
            refine WO_nil ?_
            refine WL_seq ?_
            apply WL_prune
            · (repeat (first | exact restr_nil | apply restr_cons rfl | apply restr_none rfl))
            refine WL_block ?_
            apply WL_forc (α := Nat × Nat) (fun s => [(5, .int .i64 (s.1 : Nat)), (7, .int .i64 (s.2 : Nat))]) (fun s => s.2 ≤ t.funs.length ∧ s.1 ≤ 2000 ∧ min 1000 (1 + rszs t.pairs l + rszs t.funs l) = min 1000 (s.1 + rszs (t.funs.drop s.2) l)) (fun s => t.funs.length - s.2) ((c, 0)) (he := ?he) (hP := ?hP) (hk := ?hk) (round := ?round)
            case he =>
              (repeat (first | exact restr_nil | apply restr_cons rfl | apply restr_none rfl))
            case hP =>
              refine ⟨by simp, by simp only; omega, ?_⟩; simp only [List.drop_zero]; omega
            case hk =>
              show t.funs.length - 0 < n; omega
            case round =>
              rintro ⟨c, i⟩ ⟨hi, hc, hs2⟩
              simp only at hi hc hs2
              dsimp only [List.cons_append, List.nil_append] at *
              refine WL_seq ?_
              refine WL_seq ?_
              refine WL_reg ?_
              refine O_p rfl rfl rfl ?_
              refine O_p rfl rfl rfl ?_
              refine O_h rfl rfl rfl rfl ?_
              refine O_h rfl rfl rfl rfl ?_
              refine O_p rfl rfl rfl ?_
              refine O_p rfl rfl rfl ?_
              apply O_and [_, _] rfl rfl (hT := ?hT39) (h := ?hR39)
              case hT39 =>
                intro hb36
                refine O_p rfl rfl rfl ?_
                refine O_p rfl rfl rfl ?_
                exact WO_nil (WL_nil ⟨rfl, rfl, rfl⟩)
              case hR39 =>
                intro vs hvs
                obtain ⟨u37, u38, rfl⟩ := len2 hvs
                clear hvs; dsimp only [junk]
                refine WO_nil ?_
                refine WL_seq ?_
                apply WL_prune
                · (repeat (first | exact restr_nil | apply restr_cons rfl | apply restr_none rfl))
                try clear u37 u38
                refine WL_cond rfl (fun h39 => ?_) (fun h39 => ?_)
                · skip
                  simp at h39
                  obtain ⟨x, hx⟩ : ∃ x, (t.funs)[i]? = some x := ⟨_, List.getElem?_eq_getElem (by omega)⟩
                  have hmx := List.mem_of_getElem? hx
                  have hsx := szT_funs hmx
                  have hle := rsz_le x l
                  have hg := drop_of hx
                  refine WL_skip ?_
                  refine WL_seq ?_
                  apply WL_prune
                  · (repeat (first | exact restr_nil | apply restr_cons rfl | apply restr_none rfl))
                  refine WL_seq ?_
                  refine WL_block ?_
                  refine WL_reg ?_
                  refine O_p rfl rfl rfl ?_
                  refine O_p rfl rfl rfl ?_
                  refine O_h rfl rfl rfl rfl ?_
                  refine O_p rfl rfl rfl ?_
                  refine O_ia rfl rfl (Int.natCast_nonneg _) (encT_get (i := (i : Nat)) hx) (encT_flat _) rfl ?_
                  refine O_h rfl rfl rfl rfl ?_
                  refine O_p rfl rfl rfl ?_
                  refine O_p rfl rfl rfl ?_
                  refine O_c 38 rfl rfl (callA_of rfl (by rw [hl1]; exact ih x l (by omega) (w7 x hmx) (by omega))) ?_
                  refine O_p rfl rfl rfl ?_
                  refine O_p rfl rfl rfl ?_
                  refine WO_nil ?_
                  refine WL_nil ?_
                  refine Blk_norm (?_ : WL _ _ _ _ _)
                  refine WL_seq ?_
                  apply WL_prune
                  · (repeat (first | exact restr_nil | apply restr_cons rfl | apply restr_none rfl))
                  refine WL_reg ?_
                  refine O_p rfl rfl rfl ?_
                  refine O_p rfl rfl rfl ?_
                  refine O_p rfl rfl rfl ?_
                  refine WO_nil ?_
                  refine WL_nil ?_
                  refine RndC_norm ((c + rsz x l, i + 1)) (by refine ⟨?_, ?_, ?_⟩ <;> simp only <;> first | omega | (rw [hs2, hg, rszs]; omega)) (by show _ < _; omega) ?_ rfl
                  · rw [wrap_add (by omega), wrap_succ (by omega)]; (repeat (first | exact restr_nil | apply restr_cons rfl | apply restr_none rfl))
                · skip
                  have hr : AVal.int IntKind.i64 (rsz t (l + 1) : Nat) = AVal.int IntKind.i64 (if false = true then if (1000 : Int) > (c : Int) then 1000 else (c : Int) else if (1000 : Int) < (c : Int) then 1000 else (c : Int)) := by
                    have hq2 : rsz t (l + 1) = min 1000 c := by
                      rw [rsz_succ, hs2]; simp at h39
                      by_cases hc : i < t.funs.length
                      · have := h39 hc; omega
                      · rw [List.drop_eq_nil_of_le (by omega)]; simp [rszs]
                    rw [hq2]; congr 1; simp; split <;> omega
                  refine WL_exit ?_
                  refine RndC_exit ?_
                  refine Blk_exit (?_ : WL _ _ _ _ _)
                  refine WL_seq ?_
                  apply WL_prune
                  · (repeat (first | exact restr_nil | apply restr_cons rfl | apply restr_none rfl))
                  refine WL_seq ?_
                  refine WL_reg ?_
                  refine O_p rfl rfl rfl ?_
                  refine O_p rfl rfl rfl ?_
                  refine O_p rfl rfl rfl ?_
                  refine WO_nil ?_
                  refine WL_ret ?_
                  refine ⟨_, rfl, _, rfl, ?_⟩
                  rw [hr]

theorem light_c (n : Nat) (t : Ty) (h : szT t < n) (hw : WfT t) : pcall (tabOf tabL) (n + 1) 8 [vT t] = some (.ok (.bool (decide (rsz t 60 < 120)))) := by
  refine pcall_fin t8 ?_
  refine WL_seq ?_
  refine WL_reg ?_
  refine O_n rfl rfl rfl ?_
  refine O_p rfl rfl rfl ?_
  refine WO_nil ?_
  refine WL_seq ?_
  apply WL_prune
  · (repeat (first | exact restr_nil | apply restr_cons rfl | apply restr_none rfl))
  refine WL_seq ?_
  refine WL_reg ?_
  refine O_h rfl rfl rfl rfl ?_
  refine O_c 38 rfl rfl (callA_of rfl (size_c n t 60 h hw (by omega))) ?_
  refine O_p rfl rfl rfl ?_
  refine O_p rfl rfl rfl ?_
  refine WO_nil ?_
  refine WL_ret ?_
  exact ⟨_, rfl, _, rfl, by congr 2; apply decide_eq_decide.2; omega⟩
theorem pcnt_get {p : Int} (h0 : 0 ≤ p) (h2 : p ≤ 2) : [AVal.int .i64 0, AVal.int .i64 2, AVal.int .i64 1][p.toNat]? = some (.int .i64 (pcnt p)) := by
  obtain rfl | rfl | rfl : p = 0 ∨ p = 1 ∨ p = 2 := by omega
  all_goals rfl
theorem deep_c : ∀ (n : Nat) (t : Ty) (d : Nat), szT t < n → WfT t → d < 1000 → pcall (tabOf tabL) n 41 [vT t, .int .i64 (d : Nat)] = some (.ok (.bool (rightT t d)))
  | 0, t, d, h, _, _ => by omega
  | n + 1, t, d, h, hw, hd => by
    have ih := deep_c n
    have hp := len_pairs t
    have hf := len_funs t
    cases hw with | mk w1 w2 w3 w4 w5 w6 w7 =>
    refine pcall_fin t41 ?_
    refine WL_seq ?_
    refine WL_reg ?_
    refine O_n rfl rfl rfl ?_
    refine O_p rfl rfl rfl ?_
    refine WO_nil ?_
    refine WL_seq ?_
    apply WL_prune
    · (repeat (first | exact restr_nil | apply restr_cons rfl | apply restr_none rfl))
    refine WL_seq ?_
    refine WL_seq ?_
    refine WL_reg ?_
    refine O_p rfl rfl rfl ?_
    refine O_p rfl rfl rfl ?_
    refine O_p rfl rfl rfl ?_
    apply O_or [_, _, _] rfl rfl (hT := ?hT14) (h := ?hR14)
    case hT14 =>
      intro hb10
      refine O_p rfl rfl rfl ?_
      refine O_h rfl rfl rfl rfl ?_
      refine O_p rfl rfl rfl ?_
      exact WO_nil (WL_nil ⟨rfl, rfl, rfl⟩)
    case hR14 =>
      intro vs hvs
      obtain ⟨u11, u12, u13, rfl⟩ := len3 hvs
      clear hvs; dsimp only [junk]
      refine O_p rfl rfl rfl ?_
      apply O_or [_, _, _] rfl rfl (hT := ?hT19) (h := ?hR19)
      case hT19 =>
        intro hb15
        refine O_p rfl rfl rfl ?_
        refine O_h rfl rfl rfl rfl ?_
        refine O_p rfl rfl rfl ?_
        exact WO_nil (WL_nil ⟨rfl, rfl, rfl⟩)
      case hR19 =>
        intro vs hvs
        obtain ⟨u16, u17, u18, rfl⟩ := len3 hvs
        clear hvs; dsimp only [junk]
        refine O_p rfl rfl rfl ?_
        apply O_or [_, _, _] rfl rfl (hT := ?hT24) (h := ?hR24)
        case hT24 =>
          intro hb20
          refine O_p rfl rfl rfl ?_
          refine O_h rfl rfl rfl rfl ?_
          refine O_p rfl rfl rfl ?_
          exact WO_nil (WL_nil ⟨rfl, rfl, rfl⟩)
        case hR24 =>
          intro vs hvs
          obtain ⟨u21, u22, u23, rfl⟩ := len3 hvs
          clear hvs; dsimp only [junk]
          refine O_p rfl rfl rfl ?_
          apply O_or [_, _, _] rfl rfl (hT := ?hT29) (h := ?hR29)
          case hT29 =>
            intro hb25
            refine O_p rfl rfl rfl ?_
            refine O_h rfl rfl rfl rfl ?_
            refine O_p rfl rfl rfl ?_
            exact WO_nil (WL_nil ⟨rfl, rfl, rfl⟩)
          case hR29 =>
            intro vs hvs
            obtain ⟨u26, u27, u28, rfl⟩ := len3 hvs
            clear hvs; dsimp only [junk]
            refine O_p rfl rfl rfl ?_
            apply O_or [_, _, _] rfl rfl (hT := ?hT34) (h := ?hR34)
            case hT34 =>
              intro hb30
              refine O_p rfl rfl rfl ?_
              refine O_h rfl rfl rfl rfl ?_
              refine O_p rfl rfl rfl ?_
              exact WO_nil (WL_nil ⟨rfl, rfl, rfl⟩)
            case hR34 =>
              intro vs hvs
              obtain ⟨u31, u32, u33, rfl⟩ := len3 hvs
              clear hvs; dsimp only [junk]
              refine O_p rfl rfl rfl ?_
              apply O_or [_, _, _] rfl rfl (hT := ?hT39) (h := ?hR39)
              case hT39 =>
                intro hb35
                refine O_p rfl rfl rfl ?_
                refine O_h rfl rfl rfl rfl ?_
                refine O_p rfl rfl rfl ?_
                exact WO_nil (WL_nil ⟨rfl, rfl, rfl⟩)
              case hR39 =>
                intro vs hvs
                obtain ⟨u36, u37, u38, rfl⟩ := len3 hvs
                clear hvs; dsimp only [junk]
                refine WO_nil ?_
                refine WL_seq ?_
                apply WL_prune
                · (repeat (first | exact restr_nil | apply restr_cons rfl | apply restr_none rfl))
                try clear u11 u12 u13 u16 u17 u18 u21 u22 u23 u26 u27 u28 u31 u32 u33 u36 u37 u38
                refine WL_cond rfl (fun h39 => ?_) (fun h39 => ?_)
                · skip
                  have hr : rightT t d = false := by
                    cases d with
                    | zero => exact rightT_zero t
                    | succ d =>
                      rw [rightT_succ]
                      have : okT t = false := by
                        unfold okT; simp at h39 ⊢; omega
                      simp [this]
                  refine WL_seq ?_
                  refine WL_reg ?_
                  refine O_p rfl rfl rfl ?_
                  refine WO_nil ?_
                  refine WL_ret ?_
                  exact ⟨_, rfl, _, rfl, by rw [hr]⟩
                · skip
                  simp at h39
                  obtain ⟨d, rfl⟩ : ∃ e, d = e + 1 := ⟨d - 1, by omega⟩
                  have hl1 : IntKind.i64.wrap (((d + 1 : Nat) : Int) - 1) = (d : Int) := by rw [kw_i64_id (by omega) (by omega)]; omega
                  refine WL_skip ?_
                  refine WL_seq ?_
                  apply WL_prune
                  · (repeat (first | exact restr_nil | apply restr_cons rfl | apply restr_none rfl))
                  refine WL_seq ?_
                  refine WL_seq ?_
                  refine WL_reg ?_
                  refine O_p rfl rfl rfl ?_
                  refine O_h rfl rfl rfl rfl ?_
                  refine O_p rfl rfl rfl ?_
                  apply O_and [_, _, _, _, _, _, _, _, _, _, _, _, _] rfl rfl (hT := ?hT56) (h := ?hR56)
                  case hT56 =>
                    intro hb42
                    refine O_p rfl rfl rfl ?_
                    refine O_h rfl rfl rfl rfl ?_
                    refine O_p rfl rfl rfl ?_
                    refine O_p rfl rfl rfl ?_
                    apply O_or [_, _, _] rfl rfl (hT := ?hT50) (h := ?hR50)
                    case hT50 =>
                      intro hb46
                      refine O_p rfl rfl rfl ?_
                      refine O_h rfl rfl rfl rfl ?_
                      refine O_p rfl rfl rfl ?_
                      exact WO_nil (WL_nil ⟨rfl, rfl, rfl⟩)
                    case hR50 =>
                      intro vs hvs
                      obtain ⟨u47, u48, u49, rfl⟩ := len3 hvs
                      clear hvs; dsimp only [junk]
                      refine O_p rfl rfl rfl ?_
                      apply O_or [_, _, _] rfl rfl (hT := ?hT55) (h := ?hR55)
                      case hT55 =>
                        intro hb51
                        refine O_p rfl rfl rfl ?_
                        refine O_h rfl rfl rfl rfl ?_
                        refine O_p rfl rfl rfl ?_
                        exact WO_nil (WL_nil ⟨rfl, rfl, rfl⟩)
                      case hR55 =>
                        intro vs hvs
                        obtain ⟨u52, u53, u54, rfl⟩ := len3 hvs
                        clear hvs; dsimp only [junk]
                        exact WO_nil (WL_nil ⟨rfl, rfl, rfl⟩)
                  case hR56 =>
                    intro vs hvs
                    obtain ⟨u43, u44, u45, u46, u47, u48, u49, u50, u51, u52, u53, u54, u55, rfl⟩ := len13 hvs
                    clear hvs; dsimp only [junk]
                    refine WO_nil ?_
                    refine WL_seq ?_
                    apply WL_prune
                    · (repeat (first | exact restr_nil | apply restr_cons rfl | apply restr_none rfl))
                    try clear u47 u48 u49 u52 u53 u54 u43 u44 u45 u46 u47 u48 u49 u50 u51 u52 u53 u54 u55
                    refine WL_cond rfl (fun h56 => ?_) (fun h56 => ?_)
                    · skip
                      have hr : rightT t (d + 1) = false := by
                        rw [rightT_succ]
                        have : okT t = false := by
                          unfold okT; simp at h56 ⊢; intros; simp_all
                        simp [this]
                      refine WL_seq ?_
                      refine WL_reg ?_
                      refine O_p rfl rfl rfl ?_
                      refine WO_nil ?_
                      refine WL_ret ?_
                      exact ⟨_, rfl, _, rfl, by rw [hr]⟩
                    · skip
                      refine WL_skip ?_
                      refine WL_seq ?_
                      apply WL_prune
                      · (repeat (first | exact restr_nil | apply restr_cons rfl | apply restr_none rfl))
                      refine WL_seq ?_
                      refine WL_reg ?_
                      refine O_h rfl rfl rfl rfl ?_
                      refine O_p rfl rfl rfl ?_
                      refine WO_nil ?_
                      refine WL_seq ?_
                      apply WL_prune
                      · (repeat (first | exact restr_nil | apply restr_cons rfl | apply restr_none rfl))
                      refine WL_seq ?_
                      refine WL_seq ?_
                      refine WL_drawS (ops := [_, _, _, _, _, _, _, _, _, _, _, _, _, _, _, _, _, _, _, _, _, _, _, _, _, _, _, _, _, _, _, _, _, _, _, _, _]) rfl rfl ?_
                      refine O_p rfl rfl rfl ?_
                      refine O_h rfl rfl rfl rfl ?_
                      refine O_h rfl rfl rfl rfl ?_
                      refine O_p rfl rfl rfl ?_
                      refine O_p rfl rfl rfl ?_
                      refine O_h rfl rfl rfl rfl ?_
                      refine O_ia rfl rfl (by omega) (pcnt_get (by omega) (by omega)) rfl rfl ?_
                      refine O_h rfl rfl rfl rfl ?_
                      refine O_p rfl rfl rfl ?_
                      refine O_p rfl rfl rfl ?_
                      apply O_or [_, _, _, _, _, _, _, _, _] rfl rfl (hT := ?hT77) (h := ?hR77)
                      case hT77 =>
                        intro hb67
                        refine O_p rfl rfl rfl ?_
                        refine O_h rfl rfl rfl rfl ?_
                        refine O_p rfl rfl rfl ?_
                        refine O_p rfl rfl rfl ?_
                        apply O_and [_, _, _, _] rfl rfl (hT := ?hT76) (h := ?hR76)
                        case hT76 =>
                          intro hb71
                          refine O_p rfl rfl rfl ?_
                          refine O_h rfl rfl rfl rfl ?_
                          refine O_h rfl rfl rfl rfl ?_
                          refine O_p rfl rfl rfl ?_
                          exact WO_nil (WL_nil ⟨rfl, rfl, rfl⟩)
                        case hR76 =>
                          intro vs hvs
                          obtain ⟨u72, u73, u74, u75, rfl⟩ := len4 hvs
                          clear hvs; dsimp only [junk]
                          exact WO_nil (WL_nil ⟨rfl, rfl, rfl⟩)
                      case hR77 =>
                        intro vs hvs
                        obtain ⟨u68, u69, u70, u71, u72, u73, u74, u75, u76, rfl⟩ := len9 hvs
                        clear hvs; dsimp only [junk]
                        refine O_p rfl rfl rfl ?_
                        apply O_or [_, _, _, _, _, _, _, _, _, _, _, _, _, _, _] rfl rfl (hT := ?hT94) (h := ?hR94)
                        case hT94 =>
                          intro hb78
                          refine O_p rfl rfl rfl ?_
                          refine O_h rfl rfl rfl rfl ?_
                          refine O_p rfl rfl rfl ?_
                          refine O_p rfl rfl rfl ?_
                          apply O_and [_, _, _, _, _, _, _, _, _, _] rfl rfl (hT := ?hT93) (h := ?hR93)
                          case hT93 =>
                            intro hb82
                            refine O_p rfl rfl rfl ?_
                            refine O_h rfl rfl rfl rfl ?_
                            refine O_h rfl rfl rfl rfl ?_
                            refine O_p rfl rfl rfl ?_
                            refine O_p rfl rfl rfl ?_
                            apply O_or [_, _, _, _] rfl rfl (hT := ?hT92) (h := ?hR92)
                            case hT92 =>
                              intro hb87
                              refine O_p rfl rfl rfl ?_
                              refine O_h rfl rfl rfl rfl ?_
                              refine O_h rfl rfl rfl rfl ?_
                              refine O_p rfl rfl rfl ?_
                              exact WO_nil (WL_nil ⟨rfl, rfl, rfl⟩)
                            case hR92 =>
                              intro vs hvs
                              obtain ⟨u88, u89, u90, u91, rfl⟩ := len4 hvs
                              clear hvs; dsimp only [junk]
                              exact WO_nil (WL_nil ⟨rfl, rfl, rfl⟩)
                          case hR93 =>
                            intro vs hvs
                            obtain ⟨u83, u84, u85, u86, u87, u88, u89, u90, u91, u92, rfl⟩ := len10 hvs
                            clear hvs; dsimp only [junk]
                            exact WO_nil (WL_nil ⟨rfl, rfl, rfl⟩)
                        case hR94 =>
                          intro vs hvs
                          obtain ⟨u79, u80, u81, u82, u83, u84, u85, u86, u87, u88, u89, u90, u91, u92, u93, rfl⟩ := len15 hvs
                          clear hvs; dsimp only [junk]
                          refine WO_nil (WL_nil ⟨rfl, ?_⟩)
                          refine WL_seq ?_
                          apply WL_prune
                          · (repeat (first | exact restr_nil | apply restr_cons rfl | apply restr_none rfl))
                          try clear u72 u73 u74 u75 u68 u69 u70 u71 u72 u73 u74 u75 u76 u88 u89 u90 u91 u83 u84 u85 u86 u87 u88 u89 u90 u91 u92 u79 u80 u81 u82 u83 u84 u85 u86 u87 u88 u89 u90 u91 u92 u93
                          refine WL_cond rfl (fun h94 => ?_) (fun h94 => ?_)
                          · skip
                            have hr : rightT t (d + 1) = false := by
                              rw [rightT_succ]
                              have : okT t = false := by
                                cases q : okT t with
                                | false => rfl
                                | true =>
                                  unfold okT at q; simp at q h94
                                  obtain ⟨⟨q1, q2⟩, q3⟩ := q
                                  by_cases hf1 : t.fn = 1 <;> simp [hf1, q2] at q3 h94 <;> first | omega | simp_all
                              simp [this]
                            refine WL_seq ?_
                            refine WL_reg ?_
                            refine O_p rfl rfl rfl ?_
                            refine WO_nil ?_
                            refine WL_ret ?_
                            exact ⟨_, rfl, _, rfl, by rw [hr]⟩
                          · skip
                            have hok : okT t = true := by
                              unfold okT; simp at h94 h56 ⊢
                              obtain ⟨⟨q1, q2⟩, q3⟩ := h94
                              refine ⟨⟨⟨⟨⟨⟨⟨⟨by omega, by omega⟩, by omega⟩, by omega⟩, by omega⟩, by omega⟩, ?_⟩, q1⟩, ?_⟩
                              · cases ha : t.all <;> simp [ha] at h56 ⊢; exact h56
                              · by_cases hf1 : t.fn = 1 <;> simp [hf1] at q2 q3 ⊢ <;> first | omega | exact q2
                            refine WL_skip ?_
                            refine WL_seq ?_
                            apply WL_prune
                            · (repeat (first | exact restr_nil | apply restr_cons rfl | apply restr_none rfl))
                            refine WL_seq ?_
                            refine WL_seq ?_
                            refine WL_reg ?_
                            refine O_p rfl rfl rfl ?_
                            refine WO_nil ?_
                            refine WL_seq ?_
                            apply WL_prune
                            · (repeat (first | exact restr_nil | apply restr_cons rfl | apply restr_none rfl))
                            refine WL_block ?_
                            apply WL_forc (α := Nat) (fun i => [(6, .int .i64 (i : Nat))]) (fun i => i ≤ t.pairs.length ∧ rightTs t.pairs d = rightTs (t.pairs.drop i) d) (fun i => t.pairs.length - i) (0) (he := ?he) (hP := ?hP) (hk := ?hk) (round := ?round)
                            case he =>
                              (repeat (first | exact restr_nil | apply restr_cons rfl | apply restr_none rfl))
                            case hP =>
                              exact ⟨by omega, rfl⟩
                            case hk =>
                              show t.pairs.length - 0 < n; omega
                            case round =>
                              rintro i ⟨hi, hs⟩
                              dsimp only [List.cons_append, List.nil_append] at *
                              refine WL_seq ?_
                              refine WL_seq ?_
                              refine WL_reg ?_
                              refine O_p rfl rfl rfl ?_
                              refine O_p rfl rfl rfl ?_
                              refine O_h rfl rfl rfl rfl ?_
                              refine O_h rfl rfl rfl rfl ?_
                              refine O_p rfl rfl rfl ?_
                              refine WO_nil ?_
                              refine WL_seq ?_
                              apply WL_prune
                              · (repeat (first | exact restr_nil | apply restr_cons rfl | apply restr_none rfl))
                              refine WL_cond rfl (fun h99 => ?_) (fun h99 => ?_)
                              · skip
                                simp at h99
                                obtain ⟨x, hx⟩ : ∃ x, (t.pairs)[i]? = some x := ⟨_, List.getElem?_eq_getElem (by omega)⟩
                                have hmx := List.mem_of_getElem? hx
                                have hsx := szT_pairs hmx
                                have hg := drop_of hx
                                refine WL_skip ?_
                                refine WL_seq ?_
                                apply WL_prune
                                · (repeat (first | exact restr_nil | apply restr_cons rfl | apply restr_none rfl))
                                refine WL_seq ?_
                                refine WL_block ?_
                                refine WL_seq ?_
                                refine WL_reg ?_
                                refine O_p rfl rfl rfl ?_
                                refine O_h rfl rfl rfl rfl ?_
                                refine O_p rfl rfl rfl ?_
                                refine O_ia rfl rfl (Int.natCast_nonneg _) (encT_get (i := (i : Nat)) hx) (encT_flat _) rfl ?_
                                refine O_h rfl rfl rfl rfl ?_
                                refine O_p rfl rfl rfl ?_
                                refine O_p rfl rfl rfl ?_
                                refine O_c 41 rfl rfl (callA_of rfl (by rw [hl1]; exact ih x d (by omega) (w6 x hmx) (by omega))) ?_
                                refine O_p rfl rfl rfl ?_
                                refine WO_nil ?_
                                refine WL_seq ?_
                                apply WL_prune
                                · (repeat (first | exact restr_nil | apply restr_cons rfl | apply restr_none rfl))
                                refine WL_cond rfl (fun h110 => ?_) (fun h110 => ?_)
                                · skip
                                  have hr : rightT t (d + 1) = false := by
                                    simp at h110
                                    rw [rightT_succ, hs, hg]; simp [rightTs, h110]
                                  refine WL_seq ?_
                                  refine WL_reg ?_
                                  refine O_p rfl rfl rfl ?_
                                  refine WO_nil ?_
                                  refine WL_ret ?_
                                  refine Blk_ret ?_
                                  refine RndC_ret ?_
                                  refine Blk_ret ?_
                                  exact ⟨_, rfl, _, rfl, by rw [hr]⟩
                                · skip
                                  refine WL_skip ?_
                                  refine WL_nil ?_
                                  refine Blk_norm (?_ : WL _ _ _ _ _)
                                  refine WL_seq ?_
                                  apply WL_prune
                                  · (repeat (first | exact restr_nil | apply restr_cons rfl | apply restr_none rfl))
                                  refine WL_reg ?_
                                  refine O_p rfl rfl rfl ?_
                                  refine O_p rfl rfl rfl ?_
                                  refine O_p rfl rfl rfl ?_
                                  refine WO_nil ?_
                                  refine WL_nil ?_
                                  simp at h110
                                  refine RndC_norm (i + 1) (by refine ⟨by omega, ?_⟩; rw [hs, hg, rightTs, h110]; rfl) (by show _ < _; omega) ?_ rfl
                                  · rw [wrap_succ (by omega)]; (repeat (first | exact restr_nil | apply restr_cons rfl | apply restr_none rfl))
                              · skip
                                have hq : rightTs t.pairs d = true := by
                                  simp at h99
                                  rw [hs, List.drop_eq_nil_of_le (by omega)]; rfl
                                refine WL_exit ?_
                                refine RndC_exit ?_
                                refine Blk_exit (?_ : WL _ _ _ _ _)
                                refine WL_seq ?_
                                apply WL_prune
                                · (repeat (first | exact restr_nil | apply restr_cons rfl | apply restr_none rfl))
                                refine WL_seq ?_
                                refine WL_seq ?_
                                refine WL_reg ?_
                                refine O_p rfl rfl rfl ?_
                                refine WO_nil ?_
                                refine WL_seq ?_
                                apply WL_prune
                                · (repeat (first | exact restr_nil | apply restr_cons rfl | apply restr_none rfl))
                                refine WL_block ?_
                                apply WL_forc (α := Nat) (fun i => [(7, .int .i64 (i : Nat))]) (fun i => i ≤ t.funs.length ∧ rightTs t.funs d = rightTs (t.funs.drop i) d) (fun i => t.funs.length - i) (0) (he := ?he) (hP := ?hP) (hk := ?hk) (round := ?round)
                                case he =>
                                  (repeat (first | exact restr_nil | apply restr_cons rfl | apply restr_none rfl))
                                case hP =>
                                  exact ⟨by omega, rfl⟩
                                case hk =>
                                  show t.funs.length - 0 < n; omega
                                case round =>
                                  rintro i ⟨hi, hs⟩
                                  dsimp only [List.cons_append, List.nil_append] at *
                                  refine WL_seq ?_
                                  refine WL_seq ?_
                                  refine WL_reg ?_
                                  refine O_p rfl rfl rfl ?_
                                  refine O_p rfl rfl rfl ?_
                                  refine O_h rfl rfl rfl rfl ?_
                                  refine O_h rfl rfl rfl rfl ?_
                                  refine O_p rfl rfl rfl ?_
                                  refine WO_nil ?_
                                  refine WL_seq ?_
                                  apply WL_prune
                                  · (repeat (first | exact restr_nil | apply restr_cons rfl | apply restr_none rfl))
                                  refine WL_cond rfl (fun h115 => ?_) (fun h115 => ?_)
                                  · skip
                                    simp at h115
                                    obtain ⟨x, hx⟩ : ∃ x, (t.funs)[i]? = some x := ⟨_, List.getElem?_eq_getElem (by omega)⟩
                                    have hmx := List.mem_of_getElem? hx
                                    have hsx := szT_funs hmx
                                    have hg := drop_of hx
                                    refine WL_skip ?_
                                    refine WL_seq ?_
                                    apply WL_prune
                                    · (repeat (first | exact restr_nil | apply restr_cons rfl | apply restr_none rfl))
                                    refine WL_seq ?_
                                    refine WL_block ?_
                                    refine WL_seq ?_
                                    refine WL_reg ?_
                                    refine O_p rfl rfl rfl ?_
                                    refine O_h rfl rfl rfl rfl ?_
                                    refine O_p rfl rfl rfl ?_
                                    refine O_ia rfl rfl (Int.natCast_nonneg _) (encT_get (i := (i : Nat)) hx) (encT_flat _) rfl ?_
                                    refine O_h rfl rfl rfl rfl ?_
                                    refine O_p rfl rfl rfl ?_
                                    refine O_p rfl rfl rfl ?_
                                    refine O_c 41 rfl rfl (callA_of rfl (by rw [hl1]; exact ih x d (by omega) (w7 x hmx) (by omega))) ?_
                                    refine O_p rfl rfl rfl ?_
                                    refine WO_nil ?_
                                    refine WL_seq ?_
                                    apply WL_prune
                                    · (repeat (first | exact restr_nil | apply restr_cons rfl | apply restr_none rfl))
                                    refine WL_cond rfl (fun h126 => ?_) (fun h126 => ?_)
                                    · skip
                                      have hr : rightT t (d + 1) = false := by
                                        simp at h126
                                        rw [rightT_succ, hs, hg]; simp [rightTs, h126]
                                      refine WL_seq ?_
                                      refine WL_reg ?_
                                      refine O_p rfl rfl rfl ?_
                                      refine WO_nil ?_
                                      refine WL_ret ?_
                                      refine Blk_ret ?_
                                      refine RndC_ret ?_
                                      refine Blk_ret ?_
                                      exact ⟨_, rfl, _, rfl, by rw [hr]⟩
                                    · skip
                                      refine WL_skip ?_
                                      refine WL_nil ?_
                                      refine Blk_norm (?_ : WL _ _ _ _ _)
                                      refine WL_seq ?_
                                      apply WL_prune
                                      · (repeat (first | exact restr_nil | apply restr_cons rfl | apply restr_none rfl))
                                      refine WL_reg ?_
                                      refine O_p rfl rfl rfl ?_
                                      refine O_p rfl rfl rfl ?_
                                      refine O_p rfl rfl rfl ?_
                                      refine WO_nil ?_
                                      refine WL_nil ?_
                                      simp at h126
                                      refine RndC_norm (i + 1) (by refine ⟨by omega, ?_⟩; rw [hs, hg, rightTs, h126]; rfl) (by show _ < _; omega) ?_ rfl
                                      · rw [wrap_succ (by omega)]; (repeat (first | exact restr_nil | apply restr_cons rfl | apply restr_none rfl))
                                  · skip
                                    have hr : rightT t (d + 1) = true := by
                                      simp at h115
                                      rw [rightT_succ, hok, hq, hs, List.drop_eq_nil_of_le (by omega)]; rfl
                                    refine WL_exit ?_
                                    refine RndC_exit ?_
                                    refine Blk_exit (?_ : WL _ _ _ _ _)
                                    refine WL_seq ?_
                                    apply WL_prune
                                    · (repeat (first | exact restr_nil | apply restr_cons rfl | apply restr_none rfl))
                                    refine WL_seq ?_
                                    refine WL_reg ?_
                                    refine O_p rfl rfl rfl ?_
                                    refine WO_nil ?_
                                    refine WL_ret ?_
                                    exact ⟨_, rfl, _, rfl, by rw [hr]⟩


theorem right_ref (n : Nat) (t : Ty) (h : szT t < n) (hw : WfT t) : pcall (tabOf tabL) (n + 1) 10 [vT t] = some (.ok (.bool (decide (rsz t 60 ≤ 300) && rightT t 20))) := by
  refine pcall_fin t10 ?_
  refine WL_seq ?_
  refine WL_reg ?_
  refine O_n rfl rfl rfl ?_
  refine O_p rfl rfl rfl ?_
  refine WO_nil ?_
  refine WL_seq ?_
  apply WL_prune
  · (repeat (first | exact restr_nil | apply restr_cons rfl | apply restr_none rfl))
  refine WL_seq ?_
  refine WL_reg ?_
  refine O_h rfl rfl rfl rfl ?_
  refine O_c 38 rfl rfl (callA_of rfl (size_c n t 60 h hw (by omega))) ?_
  refine O_p rfl rfl rfl ?_
  refine O_p rfl rfl rfl ?_
  apply O_and [_, _] rfl rfl (hT := ?hT9) (h := ?hR9)
  case hT9 =>
    intro hb6
    refine O_h rfl rfl rfl rfl ?_
    refine O_c 41 rfl rfl (callA_of rfl (deep_c n t 20 h hw (by omega))) ?_
    exact WO_nil (WL_nil ⟨rfl, rfl, rfl⟩)
  case hR9 =>
    intro vs hvs
    obtain ⟨u7, u8, rfl⟩ := len2 hvs
    clear hvs; dsimp only [junk]
    refine O_p rfl rfl rfl ?_
    refine WO_nil ?_
    refine WL_ret ?_
    exact ⟨_, rfl, _, rfl, by congr 3; apply decide_eq_decide.2; omega⟩
end Go.Ev.Seat.TyS
