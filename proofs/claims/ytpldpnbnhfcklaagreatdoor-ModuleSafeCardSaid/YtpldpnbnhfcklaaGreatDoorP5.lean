/-
  Part 5 of a proof: ModuleSafe: for every input the law returns true, and what it was given reads behind the call as before. No conditions beyond the row's own.
-/
import Derived.Test.YtpldpnbnhfcklaaGreatDoorP4
import Derived.KernelRfl
import Derived.OpenShut
namespace Go.Ev.Seat.TyS
set_option linter.unusedVariables false
set_option linter.unusedSimpArgs false
open Go Go.Ev
set_option maxRecDepth 20000
attribute [local irreducible] pcall callF
theorem size_zero (n : Nat) (t : Ty) : pcall (tabOf tabL) (n + 1) 32 [vT t, .int .i64 (0 : Nat)] = some (.ok (.int .i64 (rsz t 0 : Nat))) := by
  refine pcall_fin t32 ?_
  refine WL_seq ?_
  refine WL_reg ?_
  refine O_n rfl rfl rfl ?_
  refine O_p rfl rfl rfl ?_
  refine WO_nil ?_
  refine WL_seq ?_
  apply WLp
  · (repeat (first | exact rzz | apply rcc rfl | apply rnn rfl))
  refine WL_seq ?_
  refine WL_seq ?_
  refine WL_reg ?_
  refine O_p rfl rfl rfl ?_
  refine O_p rfl rfl rfl ?_
  refine WO_nil ?_
  refine WL_seq ?_
  apply WLp
  · (repeat (first | exact rzz | apply rcc rfl | apply rnn rfl))
  refine WL_cond rfl (fun h9 => ?_) (fun h9 => ?_)
  · skip
    refine WL_seq ?_
    refine WL_reg ?_
    refine O_p rfl rfl rfl ?_
    refine WO_nil ?_
    refine WL_ret ?_
    exact ⟨_, rfl, _, rfl, by rw [rsz_zero]; rfl⟩
  · skip
    simp at h9
theorem size_c : ∀ (n : Nat) (t : Ty) (l : Nat), szT t < n → WfT t → l < 1000 → pcall (tabOf tabL) n 32 [vT t, .int .i64 (l : Nat)] = some (.ok (.int .i64 (rsz t l : Nat)))
  | 0, t, l, h, _, _ => by omega
  | n + 1, t, 0, h, _, _ => size_zero n t
  | n + 1, t, l + 1, h, hw, hl => by
    have ih := size_c n
    have hp := len_pairs t
    have hf := len_funs t
    have hl1 : IntKind.i64.wrap (((l + 1 : Nat) : Int) - 1) = (l : Int) := by rw [kw_i64_id (by omega) (by omega)]; omega
    cases hw with | mk w1 w2 w3 w4 w5 w6 w7 =>
    refine pcall_fin t32 ?_
    refine WL_seq ?_
    refine WL_reg ?_
    refine O_n rfl rfl rfl ?_
    refine O_p rfl rfl rfl ?_
    refine WO_nil ?_
    refine WL_seq ?_
    apply WLp
    · (repeat (first | exact rzz | apply rcc rfl | apply rnn rfl))
    refine WL_seq ?_
    refine WL_seq ?_
    refine WL_reg ?_
    refine O_p rfl rfl rfl ?_
    refine O_p rfl rfl rfl ?_
    refine WO_nil ?_
    refine WL_seq ?_
    apply WLp
    · (repeat (first | exact rzz | apply rcc rfl | apply rnn rfl))
    refine WL_cond rfl (fun h9 => ?_) (fun h9 => ?_)
    · skip
      simp at h9; omega
    · skip
      refine WL_skip ?_
      refine WL_seq ?_
      apply WLp
      · (repeat (first | exact rzz | apply rcc rfl | apply rnn rfl))
      refine WL_seq ?_
      refine WL_reg ?_
      refine O_p rfl rfl rfl ?_
      refine WO_nil ?_
      refine WL_seq ?_
      apply WLp
      · (repeat (first | exact rzz | apply rcc rfl | apply rnn rfl))
      refine WL_seq ?_
      refine WL_seq ?_
      refine WL_reg ?_
      refine O_p rfl rfl rfl ?_
      refine WO_nil ?_
      refine WL_seq ?_
      apply WLp
      · (repeat (first | exact rzz | apply rcc rfl | apply rnn rfl))
      refine WL_block ?_
      apply WL_forc (α := Nat × Nat) (fun s => [(5, .int .i64 (s.1 : Nat)), (6, .int .i64 (s.2 : Nat))]) (fun s => s.2 ≤ t.pairs.length ∧ s.1 ≤ 2000 ∧ min 1000 (1 + rszs t.pairs l) = min 1000 (s.1 + rszs (t.pairs.drop s.2) l)) (fun s => t.pairs.length - s.2) ((1, 0)) (he := ?he) (hP := ?hP) (hk := ?hk) (round := ?round)
      case he =>
        (repeat (first | exact rzz | apply rcc rfl | apply rnn rfl))
      case hP =>
        exact ⟨by omega, by omega, rfl⟩
      case hk =>
        show t.pairs.length - 0 < n; omega
      case round =>
        rintro ⟨c, i⟩ ⟨hi, hc, hs⟩
        simp only at hi hc hs
        dsimp only [List.cons_append, List.nil_append] at *
        refine WL_seq ?_
        refine WL_seq ?_
        refine WL_reg ?_
        refine O_p rfl rfl rfl ?_
        refine O_p rfl rfl rfl ?_
        refine O_h rfl rfl rfl rfl ?_
        refine O_h rfl rfl rfl rfl ?_
        refine O_p rfl rfl rfl ?_
        refine O_p rfl rfl rfl ?_
        apply O_and [_, _] rfl rfl (hT := ?hT18) (h := ?hR18)
        case hT18 =>
          intro hb15
          refine O_p rfl rfl rfl ?_
          refine O_p rfl rfl rfl ?_
          exact WO_nil (WL_nil ⟨rfl, rfl, rfl⟩)
        case hR18 =>
          intro vs hvs
          obtain ⟨u16, u17, rfl⟩ := len2 hvs
          clear hvs; dsimp only [junk]
          refine WO_nil ?_
          refine WL_seq ?_
          apply WLp
          · (repeat (first | exact rzz | apply rcc rfl | apply rnn rfl))
          try clear u16 u17
          refine WL_cond rfl (fun h18 => ?_) (fun h18 => ?_)
          · skip
            simp at h18
            obtain ⟨x, hx⟩ : ∃ x, (t.pairs)[i]? = some x := ⟨_, List.getElem?_eq_getElem (by omega)⟩
            have hmx := List.mem_of_getElem? hx
            have hsx := szT_pairs hmx
            have hle := rsz_le x l
            have hg := drop_of hx
            refine WL_skip ?_
            refine WL_seq ?_
            apply WLp
            · (repeat (first | exact rzz | apply rcc rfl | apply rnn rfl))
            refine WL_seq ?_
            refine WL_block ?_
            refine WL_reg ?_
            refine O_p rfl rfl rfl ?_
            refine O_p rfl rfl rfl ?_
            refine O_h rfl rfl rfl rfl ?_
            refine O_p rfl rfl rfl ?_
            refine O_ia rfl rfl (Int.natCast_nonneg _) (encT_get (i := (i : Nat)) hx) (encT_flat _) rfl ?_
            refine O_h rfl rfl rfl rfl ?_
            refine O_p rfl rfl rfl ?_
            refine O_p rfl rfl rfl ?_
            refine O_c 32 rfl rfl (callA_of rfl (by rw [hl1]; exact ih x l (by omega) (w6 x hmx) (by omega))) ?_
            refine O_p rfl rfl rfl ?_
            refine O_p rfl rfl rfl ?_
            refine WO_nil ?_
            refine WL_nil ?_
            refine Blk_norm (?_ : WL _ _ _ _ _)
            refine WL_seq ?_
            apply WLp
            · (repeat (first | exact rzz | apply rcc rfl | apply rnn rfl))
            refine WL_reg ?_
            refine O_p rfl rfl rfl ?_
            refine O_p rfl rfl rfl ?_
            refine O_p rfl rfl rfl ?_
            refine WO_nil ?_
            refine WL_nil ?_
            refine RndC_norm ((c + rsz x l, i + 1)) (by refine ⟨?_, ?_, ?_⟩ <;> simp only <;> first | omega | (rw [hs, hg, rszs]; omega)) (by show _ < _; omega) ?_ rfl
            · rw [wrap_add (by omega), wrap_succ (by omega)]; (repeat (first | exact rzz | apply rcc rfl | apply rnn rfl))
          · skip
            have hq : min 1000 (1 + rszs t.pairs l) = min 1000 c := by
              rw [hs]; simp at h18
              by_cases hc : i < t.pairs.length
              · have := h18 hc; omega
              · rw [List.drop_eq_nil_of_le (by omega)]; simp [rszs]
            refine WL_exit ?_
            refine RndC_exit ?_
            refine Blk_exit (?_ : WL _ _ _ _ _)
            refine WL_seq ?_
            apply WLp
            · (repeat (first | exact rzz | apply rcc rfl | apply rnn rfl))
            refine WL_seq ?_
            refine WL_seq ?_
            refine WL_reg ?_
            refine O_p rfl rfl rfl ?_
            refine WO_nil ?_
            refine WL_seq ?_
            apply WLp
            · (repeat (first | exact rzz | apply rcc rfl | apply rnn rfl))
            refine WL_block ?_
            apply WL_forc (α := Nat × Nat) (fun s => [(5, .int .i64 (s.1 : Nat)), (7, .int .i64 (s.2 : Nat))]) (fun s => s.2 ≤ t.funs.length ∧ s.1 ≤ 2000 ∧ min 1000 (1 + rszs t.pairs l + rszs t.funs l) = min 1000 (s.1 + rszs (t.funs.drop s.2) l)) (fun s => t.funs.length - s.2) ((c, 0)) (he := ?he) (hP := ?hP) (hk := ?hk) (round := ?round)
            case he =>
              (repeat (first | exact rzz | apply rcc rfl | apply rnn rfl))
            case hP =>
              refine ⟨by simp, by simp only; omega, ?_⟩; simp only [List.drop_zero]; omega
            case hk =>
              show t.funs.length - 0 < n; omega
            case round =>
              rintro ⟨c, i⟩ ⟨hi, hc, hs2⟩
              simp only at hi hc hs2
              dsimp only [List.cons_append, List.nil_append] at *
              refine WL_seq ?_
              refine WL_seq ?_
              refine WL_reg ?_
              refine O_p rfl rfl rfl ?_
              refine O_p rfl rfl rfl ?_
              refine O_h rfl rfl rfl rfl ?_
              refine O_h rfl rfl rfl rfl ?_
              refine O_p rfl rfl rfl ?_
              refine O_p rfl rfl rfl ?_
              apply O_and [_, _] rfl rfl (hT := ?hT39) (h := ?hR39)
              case hT39 =>
                intro hb36
                refine O_p rfl rfl rfl ?_
                refine O_p rfl rfl rfl ?_
                exact WO_nil (WL_nil ⟨rfl, rfl, rfl⟩)
              case hR39 =>
                intro vs hvs
                obtain ⟨u37, u38, rfl⟩ := len2 hvs
                clear hvs; dsimp only [junk]
                refine WO_nil ?_
                refine WL_seq ?_
                apply WLp
                · (repeat (first | exact rzz | apply rcc rfl | apply rnn rfl))
                try clear u37 u38
                refine WL_cond rfl (fun h39 => ?_) (fun h39 => ?_)
                · skip
                  simp at h39
                  obtain ⟨x, hx⟩ : ∃ x, (t.funs)[i]? = some x := ⟨_, List.getElem?_eq_getElem (by omega)⟩
                  have hmx := List.mem_of_getElem? hx
                  have hsx := szT_funs hmx
                  have hle := rsz_le x l
                  have hg := drop_of hx
                  refine WL_skip ?_
                  refine WL_seq ?_
                  apply WLp
                  · (repeat (first | exact rzz | apply rcc rfl | apply rnn rfl))
                  refine WL_seq ?_
                  refine WL_block ?_
                  refine WL_reg ?_
                  refine O_p rfl rfl rfl ?_
                  refine O_p rfl rfl rfl ?_
                  refine O_h rfl rfl rfl rfl ?_
                  refine O_p rfl rfl rfl ?_
                  refine O_ia rfl rfl (Int.natCast_nonneg _) (encT_get (i := (i : Nat)) hx) (encT_flat _) rfl ?_
                  refine O_h rfl rfl rfl rfl ?_
                  refine O_p rfl rfl rfl ?_
                  refine O_p rfl rfl rfl ?_
                  refine O_c 32 rfl rfl (callA_of rfl (by rw [hl1]; exact ih x l (by omega) (w7 x hmx) (by omega))) ?_
                  refine O_p rfl rfl rfl ?_
                  refine O_p rfl rfl rfl ?_
                  refine WO_nil ?_
                  refine WL_nil ?_
                  refine Blk_norm (?_ : WL _ _ _ _ _)
                  refine WL_seq ?_
                  apply WLp
                  · (repeat (first | exact rzz | apply rcc rfl | apply rnn rfl))
                  refine WL_reg ?_
                  refine O_p rfl rfl rfl ?_
                  refine O_p rfl rfl rfl ?_
                  refine O_p rfl rfl rfl ?_
                  refine WO_nil ?_
                  refine WL_nil ?_
                  refine RndC_norm ((c + rsz x l, i + 1)) (by refine ⟨?_, ?_, ?_⟩ <;> simp only <;> first | omega | (rw [hs2, hg, rszs]; omega)) (by show _ < _; omega) ?_ rfl
                  · rw [wrap_add (by omega), wrap_succ (by omega)]; (repeat (first | exact rzz | apply rcc rfl | apply rnn rfl))
                · skip
                  have hr : AVal.int IntKind.i64 (rsz t (l + 1) : Nat) = AVal.int IntKind.i64 (if false = true then if (1000 : Int) > (c : Int) then 1000 else (c : Int) else if (1000 : Int) < (c : Int) then 1000 else (c : Int)) := by
                    have hq2 : rsz t (l + 1) = min 1000 c := by
                      rw [rsz_succ, hs2]; simp at h39
                      by_cases hc : i < t.funs.length
                      · have := h39 hc; omega
                      · rw [List.drop_eq_nil_of_le (by omega)]; simp [rszs]
                    rw [hq2]; congr 1; simp; split <;> omega
                  refine WL_exit ?_
                  refine RndC_exit ?_
                  refine Blk_exit (?_ : WL _ _ _ _ _)
                  refine WL_seq ?_
                  apply WLp
                  · (repeat (first | exact rzz | apply rcc rfl | apply rnn rfl))
                  refine WL_seq ?_
                  refine WL_reg ?_
                  refine O_p rfl rfl rfl ?_
                  refine O_p rfl rfl rfl ?_
                  refine O_p rfl rfl rfl ?_
                  refine WO_nil ?_
                  refine WL_ret ?_
                  refine ⟨_, rfl, _, rfl, ?_⟩
                  rw [hr]
theorem light_c (n : Nat) (t : Ty) (h : szT t < n) (hw : WfT t) : pcall (tabOf tabL) (n + 1) 12 [vT t] = some (.ok (.bool (decide (rsz t 60 < 120)))) := by
  refine pcall_fin t12 ?_
  refine WL_seq ?_
  refine WL_reg ?_
  refine O_n rfl rfl rfl ?_
  refine O_p rfl rfl rfl ?_
  refine WO_nil ?_
  refine WL_seq ?_
  apply WLp
  · (repeat (first | exact rzz | apply rcc rfl | apply rnn rfl))
  refine WL_seq ?_
  refine WL_reg ?_
  refine O_h rfl rfl rfl rfl ?_
  refine O_c 32 rfl rfl (callA_of rfl (size_c n t 60 h hw (by omega))) ?_
  refine O_p rfl rfl rfl ?_
  refine O_p rfl rfl rfl ?_
  refine WO_nil ?_
  refine WL_ret ?_
  exact ⟨_, rfl, _, rfl, by congr 2; apply decide_eq_decide.2; omega⟩
theorem pcnt_get {p : Int} (h0 : 0 ≤ p) (h2 : p ≤ 2) : [AVal.int .i64 0, AVal.int .i64 2, AVal.int .i64 1][p.toNat]? = some (.int .i64 (pcnt p)) := by
  obtain rfl | rfl | rfl : p = 0 ∨ p = 1 ∨ p = 2 := by omega
  all_goals rfl
theorem deep_c : ∀ (n : Nat) (t : Ty) (d : Nat), szT t < n → WfT t → d < 1000 → pcall (tabOf tabL) n 33 [vT t, .int .i64 (d : Nat)] = some (.ok (.bool (rightT t d)))
  | 0, t, d, h, _, _ => by omega
  | n + 1, t, d, h, hw, hd => by
    have ih := deep_c n
    have hp := len_pairs t
    have hf := len_funs t
    cases hw with | mk w1 w2 w3 w4 w5 w6 w7 =>
    refine pcall_fin t33 ?_
    refine WL_seq ?_
    refine WL_reg ?_
    refine O_n rfl rfl rfl ?_
    refine O_p rfl rfl rfl ?_
    refine WO_nil ?_
    refine WL_seq ?_
    apply WLp
    · (repeat (first | exact rzz | apply rcc rfl | apply rnn rfl))
    refine WL_seq ?_
    refine WL_seq ?_
    refine WL_reg ?_
    refine O_p rfl rfl rfl ?_
    refine O_p rfl rfl rfl ?_
    refine O_p rfl rfl rfl ?_
    apply O_or [_, _, _] rfl rfl (hT := ?hT14) (h := ?hR14)
    case hT14 =>
      intro hb10
      refine O_p rfl rfl rfl ?_
      refine O_h rfl rfl rfl rfl ?_
      refine O_p rfl rfl rfl ?_
      exact WO_nil (WL_nil ⟨rfl, rfl, rfl⟩)
    case hR14 =>
      intro vs hvs
      obtain ⟨u11, u12, u13, rfl⟩ := len3 hvs
      clear hvs; dsimp only [junk]
      refine O_p rfl rfl rfl ?_
      apply O_or [_, _, _] rfl rfl (hT := ?hT19) (h := ?hR19)
      case hT19 =>
        intro hb15
        refine O_p rfl rfl rfl ?_
        refine O_h rfl rfl rfl rfl ?_
        refine O_p rfl rfl rfl ?_
        exact WO_nil (WL_nil ⟨rfl, rfl, rfl⟩)
      case hR19 =>
        intro vs hvs
        obtain ⟨u16, u17, u18, rfl⟩ := len3 hvs
        clear hvs; dsimp only [junk]
        refine O_p rfl rfl rfl ?_
        apply O_or [_, _, _] rfl rfl (hT := ?hT24) (h := ?hR24)
        case hT24 =>
          intro hb20
          refine O_p rfl rfl rfl ?_
          refine O_h rfl rfl rfl rfl ?_
          refine O_p rfl rfl rfl ?_
          exact WO_nil (WL_nil ⟨rfl, rfl, rfl⟩)
        case hR24 =>
          intro vs hvs
          obtain ⟨u21, u22, u23, rfl⟩ := len3 hvs
          clear hvs; dsimp only [junk]
          refine O_p rfl rfl rfl ?_
          apply O_or [_, _, _] rfl rfl (hT := ?hT29) (h := ?hR29)
          case hT29 =>
            intro hb25
            refine O_p rfl rfl rfl ?_
            refine O_h rfl rfl rfl rfl ?_
            refine O_p rfl rfl rfl ?_
            exact WO_nil (WL_nil ⟨rfl, rfl, rfl⟩)
          case hR29 =>
            intro vs hvs
            obtain ⟨u26, u27, u28, rfl⟩ := len3 hvs
            clear hvs; dsimp only [junk]
            refine O_p rfl rfl rfl ?_
            apply O_or [_, _, _] rfl rfl (hT := ?hT34) (h := ?hR34)
            case hT34 =>
              intro hb30
              refine O_p rfl rfl rfl ?_
              refine O_h rfl rfl rfl rfl ?_
              refine O_p rfl rfl rfl ?_
              exact WO_nil (WL_nil ⟨rfl, rfl, rfl⟩)
            case hR34 =>
              intro vs hvs
              obtain ⟨u31, u32, u33, rfl⟩ := len3 hvs
              clear hvs; dsimp only [junk]
              refine O_p rfl rfl rfl ?_
              apply O_or [_, _, _] rfl rfl (hT := ?hT39) (h := ?hR39)
              case hT39 =>
                intro hb35
                refine O_p rfl rfl rfl ?_
                refine O_h rfl rfl rfl rfl ?_
                refine O_p rfl rfl rfl ?_
                exact WO_nil (WL_nil ⟨rfl, rfl, rfl⟩)
              case hR39 =>
                intro vs hvs
                obtain ⟨u36, u37, u38, rfl⟩ := len3 hvs
                clear hvs; dsimp only [junk]
                refine WO_nil ?_
                refine WL_seq ?_
                apply WLp
                · (repeat (first | exact rzz | apply rcc rfl | apply rnn rfl))
                try clear u11 u12 u13 u16 u17 u18 u21 u22 u23 u26 u27 u28 u31 u32 u33 u36 u37 u38
                refine WL_cond rfl (fun h39 => ?_) (fun h39 => ?_)
                · skip
                  have hr : rightT t d = false := by
                    cases d with
                    | zero => exact y1h t
                    | succ d =>
                      rw [y0a]
                      have : okT t = false := by
                        unfold okT; simp at h39 ⊢; omega
                      simp [this]
                  refine WL_seq ?_
                  refine WL_reg ?_
                  refine O_p rfl rfl rfl ?_
                  refine WO_nil ?_
                  refine WL_ret ?_
                  exact ⟨_, rfl, _, rfl, by rw [hr]⟩
                · skip
                  simp at h39
                  obtain ⟨d, rfl⟩ : ∃ e, d = e + 1 := ⟨d - 1, by omega⟩
                  have hl1 : IntKind.i64.wrap (((d + 1 : Nat) : Int) - 1) = (d : Int) := by rw [kw_i64_id (by omega) (by omega)]; omega
                  refine WL_skip ?_
                  refine WL_seq ?_
                  apply WLp
                  · (repeat (first | exact rzz | apply rcc rfl | apply rnn rfl))
                  refine WL_seq ?_
                  refine WL_seq ?_
                  refine WL_reg ?_
                  refine O_p rfl rfl rfl ?_
                  refine O_h rfl rfl rfl rfl ?_
                  refine O_p rfl rfl rfl ?_
                  apply O_and [_, _, _, _, _, _, _, _, _, _, _, _, _] rfl rfl (hT := ?hT56) (h := ?hR56)
                  case hT56 =>
                    intro hb42
                    refine O_p rfl rfl rfl ?_
                    refine O_h rfl rfl rfl rfl ?_
                    refine O_p rfl rfl rfl ?_
                    refine O_p rfl rfl rfl ?_
                    apply O_or [_, _, _] rfl rfl (hT := ?hT50) (h := ?hR50)
                    case hT50 =>
                      intro hb46
                      refine O_p rfl rfl rfl ?_
                      refine O_h rfl rfl rfl rfl ?_
                      refine O_p rfl rfl rfl ?_
                      exact WO_nil (WL_nil ⟨rfl, rfl, rfl⟩)
                    case hR50 =>
                      intro vs hvs
                      obtain ⟨u47, u48, u49, rfl⟩ := len3 hvs
                      clear hvs; dsimp only [junk]
                      refine O_p rfl rfl rfl ?_
                      apply O_or [_, _, _] rfl rfl (hT := ?hT55) (h := ?hR55)
                      case hT55 =>
                        intro hb51
                        refine O_p rfl rfl rfl ?_
                        refine O_h rfl rfl rfl rfl ?_
                        refine O_p rfl rfl rfl ?_
                        exact WO_nil (WL_nil ⟨rfl, rfl, rfl⟩)
                      case hR55 =>
                        intro vs hvs
                        obtain ⟨u52, u53, u54, rfl⟩ := len3 hvs
                        clear hvs; dsimp only [junk]
                        exact WO_nil (WL_nil ⟨rfl, rfl, rfl⟩)
                  case hR56 =>
                    intro vs hvs
                    obtain ⟨u43, u44, u45, u46, u47, u48, u49, u50, u51, u52, u53, u54, u55, rfl⟩ := len13 hvs
                    clear hvs; dsimp only [junk]
                    refine WO_nil ?_
                    refine WL_seq ?_
                    apply WLp
                    · (repeat (first | exact rzz | apply rcc rfl | apply rnn rfl))
                    try clear u47 u48 u49 u52 u53 u54 u43 u44 u45 u46 u47 u48 u49 u50 u51 u52 u53 u54 u55
                    refine WL_cond rfl (fun h56 => ?_) (fun h56 => ?_)
                    · skip
                      have hr : rightT t (d + 1) = false := by
                        rw [y0a]
                        have : okT t = false := by
                          unfold okT; simp at h56 ⊢; intros; simp_all
                        simp [this]
                      refine WL_seq ?_
                      refine WL_reg ?_
                      refine O_p rfl rfl rfl ?_
                      refine WO_nil ?_
                      refine WL_ret ?_
                      exact ⟨_, rfl, _, rfl, by rw [hr]⟩
                    · skip
                      refine WL_skip ?_
                      refine WL_seq ?_
                      apply WLp
                      · (repeat (first | exact rzz | apply rcc rfl | apply rnn rfl))
                      refine WL_seq ?_
                      refine WL_reg ?_
                      refine O_h rfl rfl rfl rfl ?_
                      refine O_p rfl rfl rfl ?_
                      refine WO_nil ?_
                      refine WL_seq ?_
                      apply WLp
                      · (repeat (first | exact rzz | apply rcc rfl | apply rnn rfl))
                      refine WL_seq ?_
                      refine WL_seq ?_
                      refine WL_drawS (ops := [_, _, _, _, _, _, _, _, _, _, _, _, _, _, _, _, _, _, _, _, _, _, _, _, _, _, _, _, _, _, _, _, _, _, _, _, _]) rfl rfl ?_
                      refine O_p rfl rfl rfl ?_
                      refine O_h rfl rfl rfl rfl ?_
                      refine O_h rfl rfl rfl rfl ?_
                      refine O_p rfl rfl rfl ?_
                      refine O_p rfl rfl rfl ?_
                      refine O_h rfl rfl rfl rfl ?_
                      refine O_ia rfl rfl (by omega) (pcnt_get (by omega) (by omega)) rfl rfl ?_
                      refine O_h rfl rfl rfl rfl ?_
                      refine O_p rfl rfl rfl ?_
                      refine O_p rfl rfl rfl ?_
                      apply O_or [_, _, _, _, _, _, _, _, _] rfl rfl (hT := ?hT77) (h := ?hR77)
                      case hT77 =>
                        intro hb67
                        refine O_p rfl rfl rfl ?_
                        refine O_h rfl rfl rfl rfl ?_
                        refine O_p rfl rfl rfl ?_
                        refine O_p rfl rfl rfl ?_
                        apply O_and [_, _, _, _] rfl rfl (hT := ?hT76) (h := ?hR76)
                        case hT76 =>
                          intro hb71
                          refine O_p rfl rfl rfl ?_
                          refine O_h rfl rfl rfl rfl ?_
                          refine O_h rfl rfl rfl rfl ?_
                          refine O_p rfl rfl rfl ?_
                          exact WO_nil (WL_nil ⟨rfl, rfl, rfl⟩)
                        case hR76 =>
                          intro vs hvs
                          obtain ⟨u72, u73, u74, u75, rfl⟩ := len4 hvs
                          clear hvs; dsimp only [junk]
                          exact WO_nil (WL_nil ⟨rfl, rfl, rfl⟩)
                      case hR77 =>
                        intro vs hvs
                        obtain ⟨u68, u69, u70, u71, u72, u73, u74, u75, u76, rfl⟩ := len9 hvs
                        clear hvs; dsimp only [junk]
                        refine O_p rfl rfl rfl ?_
                        apply O_or [_, _, _, _, _, _, _, _, _, _, _, _, _, _, _] rfl rfl (hT := ?hT94) (h := ?hR94)
                        case hT94 =>
                          intro hb78
                          refine O_p rfl rfl rfl ?_
                          refine O_h rfl rfl rfl rfl ?_
                          refine O_p rfl rfl rfl ?_
                          refine O_p rfl rfl rfl ?_
                          apply O_and [_, _, _, _, _, _, _, _, _, _] rfl rfl (hT := ?hT93) (h := ?hR93)
                          case hT93 =>
                            intro hb82
                            refine O_p rfl rfl rfl ?_
                            refine O_h rfl rfl rfl rfl ?_
                            refine O_h rfl rfl rfl rfl ?_
                            refine O_p rfl rfl rfl ?_
                            refine O_p rfl rfl rfl ?_
                            apply O_or [_, _, _, _] rfl rfl (hT := ?hT92) (h := ?hR92)
                            case hT92 =>
                              intro hb87
                              refine O_p rfl rfl rfl ?_
                              refine O_h rfl rfl rfl rfl ?_
                              refine O_h rfl rfl rfl rfl ?_
                              refine O_p rfl rfl rfl ?_
                              exact WO_nil (WL_nil ⟨rfl, rfl, rfl⟩)
                            case hR92 =>
                              intro vs hvs
                              obtain ⟨u88, u89, u90, u91, rfl⟩ := len4 hvs
                              clear hvs; dsimp only [junk]
                              exact WO_nil (WL_nil ⟨rfl, rfl, rfl⟩)
                          case hR93 =>
                            intro vs hvs
                            obtain ⟨u83, u84, u85, u86, u87, u88, u89, u90, u91, u92, rfl⟩ := len10 hvs
                            clear hvs; dsimp only [junk]
                            exact WO_nil (WL_nil ⟨rfl, rfl, rfl⟩)
                        case hR94 =>
                          intro vs hvs
                          obtain ⟨u79, u80, u81, u82, u83, u84, u85, u86, u87, u88, u89, u90, u91, u92, u93, rfl⟩ := len15 hvs
                          clear hvs; dsimp only [junk]
                          refine WO_nil (WL_nil ⟨rfl, ?_⟩)
                          refine WL_seq ?_
                          apply WLp
                          · (repeat (first | exact rzz | apply rcc rfl | apply rnn rfl))
                          try clear u72 u73 u74 u75 u68 u69 u70 u71 u72 u73 u74 u75 u76 u88 u89 u90 u91 u83 u84 u85 u86 u87 u88 u89 u90 u91 u92 u79 u80 u81 u82 u83 u84 u85 u86 u87 u88 u89 u90 u91 u92 u93
                          refine WL_cond rfl (fun h94 => ?_) (fun h94 => ?_)
                          · skip
                            have hr : rightT t (d + 1) = false := by
                              rw [y0a]
                              have : okT t = false := by
                                cases q : okT t with
                                | false => rfl
                                | true =>
                                  unfold okT at q; simp at q h94
                                  obtain ⟨⟨q1, q2⟩, q3⟩ := q
                                  by_cases hf1 : t.fn = 1 <;> simp [hf1, q2] at q3 h94 <;> first | omega | simp_all
                              simp [this]
                            refine WL_seq ?_
                            refine WL_reg ?_
                            refine O_p rfl rfl rfl ?_
                            refine WO_nil ?_
                            refine WL_ret ?_
                            exact ⟨_, rfl, _, rfl, by rw [hr]⟩
                          · skip
                            have hok : okT t = true := by
                              unfold okT; simp at h94 h56 ⊢
                              obtain ⟨⟨q1, q2⟩, q3⟩ := h94
                              refine ⟨⟨⟨⟨⟨⟨⟨⟨by omega, by omega⟩, by omega⟩, by omega⟩, by omega⟩, by omega⟩, ?_⟩, q1⟩, ?_⟩
                              · cases ha : t.all <;> simp [ha] at h56 ⊢; exact h56
                              · by_cases hf1 : t.fn = 1 <;> simp [hf1] at q2 q3 ⊢ <;> first | omega | exact q2
                            refine WL_skip ?_
                            refine WL_seq ?_
                            apply WLp
                            · (repeat (first | exact rzz | apply rcc rfl | apply rnn rfl))
                            refine WL_seq ?_
                            refine WL_seq ?_
                            refine WL_reg ?_
                            refine O_p rfl rfl rfl ?_
                            refine WO_nil ?_
                            refine WL_seq ?_
                            apply WLp
                            · (repeat (first | exact rzz | apply rcc rfl | apply rnn rfl))
                            refine WL_block ?_
                            apply WL_forc (α := Nat) (fun i => [(6, .int .i64 (i : Nat))]) (fun i => i ≤ t.pairs.length ∧ rightTs t.pairs d = rightTs (t.pairs.drop i) d) (fun i => t.pairs.length - i) (0) (he := ?he) (hP := ?hP) (hk := ?hk) (round := ?round)
                            case he =>
                              (repeat (first | exact rzz | apply rcc rfl | apply rnn rfl))
                            case hP =>
                              exact ⟨by omega, rfl⟩
                            case hk =>
                              show t.pairs.length - 0 < n; omega
                            case round =>
                              rintro i ⟨hi, hs⟩
                              dsimp only [List.cons_append, List.nil_append] at *
                              refine WL_seq ?_
                              refine WL_seq ?_
                              refine WL_reg ?_
                              refine O_p rfl rfl rfl ?_
                              refine O_p rfl rfl rfl ?_
                              refine O_h rfl rfl rfl rfl ?_
                              refine O_h rfl rfl rfl rfl ?_
                              refine O_p rfl rfl rfl ?_
                              refine WO_nil ?_
                              refine WL_seq ?_
                              apply WLp
                              · (repeat (first | exact rzz | apply rcc rfl | apply rnn rfl))
                              refine WL_cond rfl (fun h99 => ?_) (fun h99 => ?_)
                              · skip
                                simp at h99
                                obtain ⟨x, hx⟩ : ∃ x, (t.pairs)[i]? = some x := ⟨_, List.getElem?_eq_getElem (by omega)⟩
                                have hmx := List.mem_of_getElem? hx
                                have hsx := szT_pairs hmx
                                have hg := drop_of hx
                                refine WL_skip ?_
                                refine WL_seq ?_
                                apply WLp
                                · (repeat (first | exact rzz | apply rcc rfl | apply rnn rfl))
                                refine WL_seq ?_
                                refine WL_block ?_
                                refine WL_seq ?_
                                refine WL_reg ?_
                                refine O_p rfl rfl rfl ?_
                                refine O_h rfl rfl rfl rfl ?_
                                refine O_p rfl rfl rfl ?_
                                refine O_ia rfl rfl (Int.natCast_nonneg _) (encT_get (i := (i : Nat)) hx) (encT_flat _) rfl ?_
                                refine O_h rfl rfl rfl rfl ?_
                                refine O_p rfl rfl rfl ?_
                                refine O_p rfl rfl rfl ?_
                                refine O_c 33 rfl rfl (callA_of rfl (by rw [hl1]; exact ih x d (by omega) (w6 x hmx) (by omega))) ?_
                                refine O_p rfl rfl rfl ?_
                                refine WO_nil ?_
                                refine WL_seq ?_
                                apply WLp
                                · (repeat (first | exact rzz | apply rcc rfl | apply rnn rfl))
                                refine WL_cond rfl (fun h110 => ?_) (fun h110 => ?_)
                                · skip
                                  have hr : rightT t (d + 1) = false := by
                                    simp at h110
                                    rw [y0a, hs, hg]; simp [rightTs, h110]
                                  refine WL_seq ?_
                                  refine WL_reg ?_
                                  refine O_p rfl rfl rfl ?_
                                  refine WO_nil ?_
                                  refine WL_ret ?_
                                  refine Blk_ret ?_
                                  refine RndC_ret ?_
                                  refine Blk_ret ?_
                                  exact ⟨_, rfl, _, rfl, by rw [hr]⟩
                                · skip
                                  refine WL_skip ?_
                                  refine WL_nil ?_
                                  refine Blk_norm (?_ : WL _ _ _ _ _)
                                  refine WL_seq ?_
                                  apply WLp
                                  · (repeat (first | exact rzz | apply rcc rfl | apply rnn rfl))
                                  refine WL_reg ?_
                                  refine O_p rfl rfl rfl ?_
                                  refine O_p rfl rfl rfl ?_
                                  refine O_p rfl rfl rfl ?_
                                  refine WO_nil ?_
                                  refine WL_nil ?_
                                  simp at h110
                                  refine RndC_norm (i + 1) (by refine ⟨by omega, ?_⟩; rw [hs, hg, rightTs, h110]; rfl) (by show _ < _; omega) ?_ rfl
                                  · rw [wrap_succ (by omega)]; (repeat (first | exact rzz | apply rcc rfl | apply rnn rfl))
                              · skip
                                have hq : rightTs t.pairs d = true := by
                                  simp at h99
                                  rw [hs, List.drop_eq_nil_of_le (by omega)]; rfl
                                refine WL_exit ?_
                                refine RndC_exit ?_
                                refine Blk_exit (?_ : WL _ _ _ _ _)
                                refine WL_seq ?_
                                apply WLp
                                · (repeat (first | exact rzz | apply rcc rfl | apply rnn rfl))
                                refine WL_seq ?_
                                refine WL_seq ?_
                                refine WL_reg ?_
                                refine O_p rfl rfl rfl ?_
                                refine WO_nil ?_
                                refine WL_seq ?_
                                apply WLp
                                · (repeat (first | exact rzz | apply rcc rfl | apply rnn rfl))
                                refine WL_block ?_
                                apply WL_forc (α := Nat) (fun i => [(7, .int .i64 (i : Nat))]) (fun i => i ≤ t.funs.length ∧ rightTs t.funs d = rightTs (t.funs.drop i) d) (fun i => t.funs.length - i) (0) (he := ?he) (hP := ?hP) (hk := ?hk) (round := ?round)
                                case he =>
                                  (repeat (first | exact rzz | apply rcc rfl | apply rnn rfl))
                                case hP =>
                                  exact ⟨by omega, rfl⟩
                                case hk =>
                                  show t.funs.length - 0 < n; omega
                                case round =>
                                  rintro i ⟨hi, hs⟩
                                  dsimp only [List.cons_append, List.nil_append] at *
                                  refine WL_seq ?_
                                  refine WL_seq ?_
                                  refine WL_reg ?_
                                  refine O_p rfl rfl rfl ?_
                                  refine O_p rfl rfl rfl ?_
                                  refine O_h rfl rfl rfl rfl ?_
                                  refine O_h rfl rfl rfl rfl ?_
                                  refine O_p rfl rfl rfl ?_
                                  refine WO_nil ?_
                                  refine WL_seq ?_
                                  apply WLp
                                  · (repeat (first | exact rzz | apply rcc rfl | apply rnn rfl))
                                  refine WL_cond rfl (fun h115 => ?_) (fun h115 => ?_)
                                  · skip
                                    simp at h115
                                    obtain ⟨x, hx⟩ : ∃ x, (t.funs)[i]? = some x := ⟨_, List.getElem?_eq_getElem (by omega)⟩
                                    have hmx := List.mem_of_getElem? hx
                                    have hsx := szT_funs hmx
                                    have hg := drop_of hx
                                    refine WL_skip ?_
                                    refine WL_seq ?_
                                    apply WLp
                                    · (repeat (first | exact rzz | apply rcc rfl | apply rnn rfl))
                                    refine WL_seq ?_
                                    refine WL_block ?_
                                    refine WL_seq ?_
                                    refine WL_reg ?_
                                    refine O_p rfl rfl rfl ?_
                                    refine O_h rfl rfl rfl rfl ?_
                                    refine O_p rfl rfl rfl ?_
                                    refine O_ia rfl rfl (Int.natCast_nonneg _) (encT_get (i := (i : Nat)) hx) (encT_flat _) rfl ?_
                                    refine O_h rfl rfl rfl rfl ?_
                                    refine O_p rfl rfl rfl ?_
                                    refine O_p rfl rfl rfl ?_
                                    refine O_c 33 rfl rfl (callA_of rfl (by rw [hl1]; exact ih x d (by omega) (w7 x hmx) (by omega))) ?_
                                    refine O_p rfl rfl rfl ?_
                                    refine WO_nil ?_
                                    refine WL_seq ?_
                                    apply WLp
                                    · (repeat (first | exact rzz | apply rcc rfl | apply rnn rfl))
                                    refine WL_cond rfl (fun h126 => ?_) (fun h126 => ?_)
                                    · skip
                                      have hr : rightT t (d + 1) = false := by
                                        simp at h126
                                        rw [y0a, hs, hg]; simp [rightTs, h126]
                                      refine WL_seq ?_
                                      refine WL_reg ?_
                                      refine O_p rfl rfl rfl ?_
                                      refine WO_nil ?_
                                      refine WL_ret ?_
                                      refine Blk_ret ?_
                                      refine RndC_ret ?_
                                      refine Blk_ret ?_
                                      exact ⟨_, rfl, _, rfl, by rw [hr]⟩
                                    · skip
                                      refine WL_skip ?_
                                      refine WL_nil ?_
                                      refine Blk_norm (?_ : WL _ _ _ _ _)
                                      refine WL_seq ?_
                                      apply WLp
                                      · (repeat (first | exact rzz | apply rcc rfl | apply rnn rfl))
                                      refine WL_reg ?_
                                      refine O_p rfl rfl rfl ?_
                                      refine O_p rfl rfl rfl ?_
                                      refine O_p rfl rfl rfl ?_
                                      refine WO_nil ?_
                                      refine WL_nil ?_
                                      simp at h126
                                      refine RndC_norm (i + 1) (by refine ⟨by omega, ?_⟩; rw [hs, hg, rightTs, h126]; rfl) (by show _ < _; omega) ?_ rfl
                                      · rw [wrap_succ (by omega)]; (repeat (first | exact rzz | apply rcc rfl | apply rnn rfl))
                                  · skip
                                    have hr : rightT t (d + 1) = true := by
                                      simp at h115
                                      rw [y0a, hok, hq, hs, List.drop_eq_nil_of_le (by omega)]; rfl
                                    refine WL_exit ?_
                                    refine RndC_exit ?_
                                    refine Blk_exit (?_ : WL _ _ _ _ _)
                                    refine WL_seq ?_
                                    apply WLp
                                    · (repeat (first | exact rzz | apply rcc rfl | apply rnn rfl))
                                    refine WL_seq ?_
                                    refine WL_reg ?_
                                    refine O_p rfl rfl rfl ?_
                                    refine WO_nil ?_
                                    refine WL_ret ?_
                                    exact ⟨_, rfl, _, rfl, by rw [hr]⟩
theorem right_ref (n : Nat) (t : Ty) (h : szT t < n) (hw : WfT t) : pcall (tabOf tabL) (n + 1) 13 [vT t] = some (.ok (.bool (decide (rsz t 60 ≤ 300) && rightT t 20))) := by
  refine pcall_fin t13 ?_
  refine WL_seq ?_
  refine WL_reg ?_
  refine O_n rfl rfl rfl ?_
  refine O_p rfl rfl rfl ?_
  refine WO_nil ?_
  refine WL_seq ?_
  apply WLp
  · (repeat (first | exact rzz | apply rcc rfl | apply rnn rfl))
  refine WL_seq ?_
  refine WL_reg ?_
  refine O_h rfl rfl rfl rfl ?_
  refine O_c 32 rfl rfl (callA_of rfl (size_c n t 60 h hw (by omega))) ?_
  refine O_p rfl rfl rfl ?_
  refine O_p rfl rfl rfl ?_
  apply O_and [_, _] rfl rfl (hT := ?hT9) (h := ?hR9)
  case hT9 =>
    intro hb6
    refine O_h rfl rfl rfl rfl ?_
    refine O_c 33 rfl rfl (callA_of rfl (deep_c n t 20 h hw (by omega))) ?_
    exact WO_nil (WL_nil ⟨rfl, rfl, rfl⟩)
  case hR9 =>
    intro vs hvs
    obtain ⟨u7, u8, rfl⟩ := len2 hvs
    clear hvs; dsimp only [junk]
    refine O_p rfl rfl rfl ?_
    refine WO_nil ?_
    refine WL_ret ?_
    exact ⟨_, rfl, _, rfl, by congr 3; apply decide_eq_decide.2; omega⟩
end Go.Ev.Seat.TyS
namespace Go.Ev
set_option linter.unusedVariables false
set_option linter.unusedSimpArgs false
open Go
def Lim (p : Nat → Prop) : Prop := ∃ N, ∀ n, N ≤ n → p n
theorem Lim.of {p : Nat → Prop} (h : ∀ n, p n) : Lim p := ⟨0, fun n _ => h n⟩
theorem Lim.map {p q : Nat → Prop} (h1 : Lim p) (h : ∀ n, p n → q n) : Lim q := h1.elim fun N hN => ⟨N, fun n hn => h n (hN n hn)⟩
theorem Lim.map2 {p q r : Nat → Prop} (h1 : Lim p) (h2 : Lim q) (h : ∀ n, p n → q n → r n) : Lim r := by
  obtain ⟨N, hN⟩ := h1
  obtain ⟨M, hM⟩ := h2
  exact ⟨N + M, fun n hn => h n (hN n (by omega)) (hM n (by omega))⟩
theorem Lim.succ {p : Nat → Prop} (h : Lim fun n => p (n + 1)) : Lim p := by
  obtain ⟨N, hN⟩ := h
  refine ⟨N + 1, fun n hn => ?_⟩
  obtain ⟨m, rfl⟩ : ∃ m, n = m + 1 := ⟨n - 1, by omega⟩
  exact hN m (by omega)
theorem Lim.get {p : Nat → Prop} (h : Lim p) : ∃ n, p n := h.elim fun N hN => ⟨N, hN N (Nat.le_refl _)⟩
abbrev Cn (T : Nat → Option AFunc) (n : Nat) : Ctx := ⟨callF T n, n⟩
section
variable (T : Nat → Option AFunc)
def PRes (f : FuncId) (as : List AVal) (v : AVal) : Prop := Lim fun n => pcall T n f as = some (.ok v)
def CA (raw : Bool) (f : FuncId) (vs : List AVal) (H : Heap) (v : AVal) (H' : Heap) : Prop := Lim fun n => callA (Cn T n) raw f vs H = some (.ok v, H')
def GL : List ACode → Env → Heap → Post → Prop
  | [], e, H, Q => Q .norm e H
  | c :: cs, e, H, Q => ∃ x e' H', (Lim fun n => evalCode (Cn T n) c e H = some (x, e', H')) ∧ match x with
    | .norm => GL cs e' H' Q
    | x => Q x e' H'
def GO (l : List AOper) (cs : List ACode) (e : Env) (H : Heap) (Q : Post) : Prop :=
  ∃ x e' H', (Lim fun n => evalOps (Cn T n) l e H = some (x, e', H')) ∧ match x with
    | .norm => GL T cs e' H' Q
    | x => Q x e' H'
def GLoop (base : Nat) (keep : List Nat) (a : ACode) (e : Env) (H : Heap) (Q : Post) : Prop :=
  ∃ x e' H', (∃ N, ∀ n m, N ≤ n → N ≤ m → iter m (fun e' H' => evalCode (Cn T n) a (restr e' keep) (trunc base (restr e' keep) H')) e H = some (x, e', H')) ∧ x ≠ .norm ∧ Q x e' H'
end
section
variable {T : Nat → Option AFunc} {cs : List ACode} {e e' : Env} {H H' : Heap} {Q : Post}
theorem PRes.of_lt {f : FuncId} {as : List AVal} {v : AVal} (N : Nat) (h : ∀ n, N < n → pcall T n f as = some (.ok v)) : PRes T f as v := ⟨N + 1, fun n hn => h n (by omega)⟩
theorem PRes.of_le {f : FuncId} {as : List AVal} {v : AVal} (N : Nat) (h : ∀ n, pcall T (n + N) f as = some (.ok v)) : PRes T f as v := ⟨N, fun n hn => by
  have := h (n - N); rwa [show n - N + N = n by omega] at this⟩
theorem CA_of {f : FuncId} {vs as : List AVal} {v : AVal} {H : Heap} (hs : shutL H vs = some as) (h : PRes T f as v) : CA T false f vs H v H := h.map fun n hn => callA_of hs hn
theorem L_nil (h : Q .norm e H) : GL T [] e H Q := h
theorem L_skip (h : GL T cs e H Q) : GL T (.skip :: cs) e H Q := ⟨.norm, e, H, .of fun _ => rfl, h⟩
theorem L_ret (h : Q .ret e H) : GL T (.ret :: cs) e H Q := ⟨.ret, e, H, .of fun _ => rfl, h⟩
theorem L_exit {id : Nat} (h : Q (.exit id) e H) : GL T (.exit id :: cs) e H Q := ⟨.exit id, e, H, .of fun _ => rfl, h⟩
theorem L_seq {a b : ACode} (h : GL T (a :: b :: cs) e H Q) : GL T (.seq a b :: cs) e H Q := by
  obtain ⟨x, e1, H1, h1, h2⟩ := h
  cases x with
  | norm =>
    obtain ⟨y, e2, H2, h3, h4⟩ := h2
    exact ⟨y, e2, H2, h1.map2 h3 fun n k1 k2 => by simp only [evalCode, k1, k2], h4⟩
  | exit i => exact ⟨.exit i, e1, H1, h1.map fun n k => by simp only [evalCode, k], h2⟩
  | ret => exact ⟨.ret, e1, H1, h1.map fun n k => by simp only [evalCode, k], h2⟩
  | pan v => exact ⟨.pan v, e1, H1, h1.map fun n k => by simp only [evalCode, k], h2⟩
theorem L_reg {l : List AOper} (h : GO T l cs e H Q) : GL T (.reg l :: cs) e H Q := h
theorem L_T {x : AOpd} {a b : ACode} {t : Bool} (hx : x.ev e = some (.bool t)) (ht : t = true) (h : GL T (a :: cs) e H Q) : GL T (.cond x a b :: cs) e H Q := by
  subst ht
  obtain ⟨y, e2, H2, h3, h4⟩ := h
  exact ⟨y, e2, H2, h3.map fun n k => by simp only [evalCode, hx, if_true, k], h4⟩
theorem L_F {x : AOpd} {a b : ACode} {t : Bool} (hx : x.ev e = some (.bool t)) (ht : t = false) (h : GL T (b :: cs) e H Q) : GL T (.cond x a b :: cs) e H Q := by
  subst ht
  obtain ⟨y, e2, H2, h3, h4⟩ := h
  exact ⟨y, e2, H2, h3.map fun n k => by simp only [evalCode, hx, Bool.false_eq_true, if_false, k], h4⟩
theorem L_block {id : Nat} {a : ACode} (h : GL T [a] e H (Blk id (fun e' H' => GL T cs e' H' Q) Q)) : GL T (.block id a :: cs) e H Q := by
  obtain ⟨x, e1, H1, h1, h2⟩ := h
  cases x with
  | norm => exact ⟨.norm, e1, H1, h1.map fun n k => by simp only [evalCode, k], h2⟩
  | exit j =>
    simp only [Blk] at h2
    split at h2
    · rename_i hj; exact ⟨.norm, e1, H1, h1.map fun n k => by simp only [evalCode, k, hj, if_true], h2⟩
    · rename_i hj; exact ⟨.exit j, e1, H1, h1.map fun n k => by simp only [evalCode, k, hj, if_false], h2⟩
  | ret => exact ⟨.ret, e1, H1, h1.map fun n k => by simp only [evalCode, k], h2⟩
  | pan v => exact ⟨.pan v, e1, H1, h1.map fun n k => by simp only [evalCode, k], h2⟩
def Rd (K : Env → Heap → Prop) (Q : Post) : Post
  | .norm, e, H => K e H
  | x, e, H => Q x e H
theorem Rd_norm {K : Env → Heap → Prop} (h : K e H) : Rd K Q .norm e H := h
theorem Rd_exit {K : Env → Heap → Prop} {j : Nat} (h : Q (.exit j) e H) : Rd K Q (.exit j) e H := h
theorem Rd_ret {K : Env → Heap → Prop} (h : Q .ret e H) : Rd K Q .ret e H := h
theorem L_round {base : Nat} {keep : List Nat} {a : ACode} {e1 : Env} {H1 : Heap} (he : restr e keep = e1) (hH : trunc base e1 H = H1) (h : GL T [a] e1 H1 (Rd (fun e' H' => GLoop T base keep a e' H' Q) Q)) : GLoop T base keep a e H Q := by
  subst he hH
  obtain ⟨x, e1, H1, ⟨N, hN⟩, h2⟩ := h
  cases x with
  | norm =>
    obtain ⟨y, e2, H2, ⟨M, hM⟩, h3, h4⟩ := h2
    refine ⟨y, e2, H2, ⟨N + M + 1, fun n m hn hm => ?_⟩, h3, h4⟩
    obtain ⟨m, rfl⟩ : ∃ k, m = k + 1 := ⟨m - 1, by omega⟩
    simp only [iter, hN n (by omega), hM n m (by omega) (by omega)]
  | exit i =>
    refine ⟨.exit i, e1, H1, ⟨N + 1, fun n m hn hm => ?_⟩, by simp, h2⟩
    obtain ⟨m, rfl⟩ : ∃ k, m = k + 1 := ⟨m - 1, by omega⟩
    simp only [iter, hN n (by omega)]
  | ret =>
    refine ⟨.ret, e1, H1, ⟨N + 1, fun n m hn hm => ?_⟩, by simp, h2⟩
    obtain ⟨m, rfl⟩ : ∃ k, m = k + 1 := ⟨m - 1, by omega⟩
    simp only [iter, hN n (by omega)]
  | pan v =>
    refine ⟨.pan v, e1, H1, ⟨N + 1, fun n m hn hm => ?_⟩, by simp, h2⟩
    obtain ⟨m, rfl⟩ : ∃ k, m = k + 1 := ⟨m - 1, by omega⟩
    simp only [iter, hN n (by omega)]
theorem L_loop {keep : List Nat} {a : ACode} (h : GLoop T H.length keep a e H Q) : GL T (.loop keep a :: cs) e H Q := by
  obtain ⟨x, e1, H1, ⟨N, hN⟩, h2, h3⟩ := h
  refine ⟨x, e1, H1, ⟨N, fun n hn => hN n n hn hn⟩, ?_⟩
  cases x with
  | norm => exact absurd rfl h2
  | _ => exact h3
theorem G_nil (h : GL T cs e H Q) : GO T [] cs e H Q := ⟨.norm, e, H, .of fun _ => rfl, h⟩
theorem G_step {o : AOper} {l : List AOper} {v : AVal} (hg : wantedA e o.guard = some true) (hv : Lim fun n => evalOp (Cn T n) e H.length H o.op = some (.ok v, H')) (h : GO T l cs (e.put o.dst v) H' Q) : GO T (o :: l) cs e H Q := by
  obtain ⟨x, e1, H1, h1, h2⟩ := h
  exact ⟨x, e1, H1, hv.map2 h1 fun n k1 k2 => by simp only [evalOps, hg, k1, k2], h2⟩
section
variable {d : Nat} {op : AOp} {g : Option (Nat × Bool)} {l : List AOper} {v : AVal}
theorem G_p (hk : op.kind = .pure) (hg : wantedA e g = some true) (hv : evP e op = some v) (h : GO T l cs ((d, v) :: e) H Q) : GO T (⟨some d, op, g⟩ :: l) cs e H Q :=
  G_step (v := v) (H' := H) hg (.of fun n => by simp only [evalOp, hk, hv, okv]) h
theorem G_v {v : AVal} (v' : AVal) (hk : op.kind = .pure) (hg : wantedA e g = some true) (hv : evP e op = some v) (hvv : v = v') (h : GO T l cs ((d, v') :: e) H Q) : GO T (⟨some d, op, g⟩ :: l) cs e H Q := G_p hk hg (hvv ▸ hv) h
theorem G_n {B : ABlock} (hk : op.kind = .new) (hg : wantedA e g = some true) (hv : evN e H.length op = some (v, B)) (h : GO T l cs ((d, v) :: e) (H ++ [B]) Q) : GO T (⟨some d, op, g⟩ :: l) cs e H Q :=
  G_step (v := v) (H' := H ++ [B]) hg (.of fun n => by simp only [evalOp, hk, hv, newAt, if_true]) h
theorem G_h (hc : op.isCall = false) (hk : op.kind = .heap) (hg : wantedA e g = some true) (hv : ∀ C, evH C e H.length H op = some (.ok v, H')) (h : GO T l cs ((d, v) :: e) H' Q) : GO T (⟨some d, op, g⟩ :: l) cs e H Q :=
  G_step (v := v) (H' := H') hg (.of fun n => by simp only [evalOp, hk, hv]) h
theorem G_hn (hc : op.isCall = false) (hk : op.kind = .heap) (hg : wantedA e g = some true) (hv : ∀ C, evH C e H.length H op = some (.ok v, H')) (h : GO T l cs e H' Q) : GO T (⟨none, op, g⟩ :: l) cs e H Q :=
  G_step (v := v) (H' := H') hg (.of fun n => by simp only [evalOp, hk, hv]) h
theorem G_c {raw : Bool} (f : FuncId) {args : List AOpd} {vs : List AVal} (hg : wantedA e g = some true) (hvs : evs e args = some vs) (hv : CA T raw f vs H v H') (h : GO T l cs ((d, v) :: e) H' Q) : GO T (⟨some d, .call raw f args, g⟩ :: l) cs e H Q :=
  G_step (v := v) (H' := H') hg (hv.map fun n hn => by simp only [evalOp, AOp.kind, evH, hvs, hn]) h
end
theorem bare_offU {C : Ctx} {k : Nat} {w b : Bool} (hb : b ≠ w) : ∀ {blk l : List AOper} {ks seen : List Nat} {e : Env} {r : List AOper} {H : Heap}, bare k w seen blk = some (l, ks) → e.get k = some (.bool b) → (∀ d, d ∈ seen → e.get d = some undefA) →
    evalOps C (blk ++ r) e H = evalOps C r (junk ks (List.replicate ks.length undefA) e) H ∧ (junk ks (List.replicate ks.length undefA) e).get k = some (.bool b)
  | [], l, ks, seen, e, r, H, h, hk, hs => by
    simp only [bare, Option.some.injEq, Prod.mk.injEq] at h
    obtain ⟨rfl, rfl⟩ := h
    exact ⟨rfl, hk⟩
  | o :: blk, l, ks, seen, e, r, H, h, hk, hs => by
    obtain ⟨d, op, g⟩ := o
    cases d with
    | none => simp [bare] at h
    | some d =>
      cases g with
      | none => simp [bare] at h
      | some g =>
        obtain ⟨k', w'⟩ := g
        simp only [bare] at h
        split at h <;> first | (cases h; done) | skip
        rename_i hd
        have hdk : d ≠ k := by intro hh; subst hh; simp at hd
        have hseen : ∀ c, c ∈ d :: seen → Env.get ((d, undefA) :: e) c = some undefA := by
          intro c hc
          by_cases hcd : d = c
          · subst hcd; simp [Env.get]
          · rw [y0c hcd]
            rcases List.mem_cons.1 hc with h1 | h1
            · exact absurd h1.symm hcd
            · exact hs c h1
        split at h
        · rename_i hc
          simp only [Bool.and_eq_true, beq_iff_eq] at hc
          split at h <;> first | (cases h; done) | skip
          rename_i l' ks' hr
          simp only [Option.some.injEq, Prod.mk.injEq] at h
          obtain ⟨rfl, rfl⟩ := h
          have e1 := Nat.eq_of_beq_eq_true hc.1
          have e2 := hc.2
          subst e1 e2
          obtain ⟨h2, h3⟩ := bare_offU hb (e := (d, undefA) :: e) (r := r) (H := H) hr (by rw [y0c hdk]; exact hk) hseen
          refine ⟨?_, h3⟩
          have hbw : (b == w') = false := by simpa using hb
          simp only [List.cons_append, evalOps, wantedA, hk, hbw, Env.put]
          exact h2
        · split at h <;> first | (cases h; done) | skip
          rename_i hc
          simp only [Bool.and_eq_true, Bool.not_eq_true'] at hc
          split at h <;> first | (cases h; done) | skip
          rename_i l' ks' hr
          simp only [Option.some.injEq, Prod.mk.injEq] at h
          obtain ⟨rfl, rfl⟩ := h
          obtain ⟨h2, h3⟩ := bare_offU hb (e := (d, undefA) :: e) (r := r) (H := H) hr (by rw [y0c hdk]; exact hk) hseen
          refine ⟨?_, h3⟩
          have := hs k' (y21 hc.1)
          simp only [undefA] at this
          simp only [List.cons_append, evalOps, wantedA, this, Env.put]
          exact h2
theorem bare_onU {k : Nat} {w : Bool} {blk l : List AOper} {ks : List Nat} {e e1 : Env} {H : Heap} (hb : bare k w [] blk = some (l, ks)) (hk : e.get k = some (.bool w)) (h4 : Lim fun n => evalOps (Cn T n) l e H = some (.norm, e1, H)) :
    ∃ vs, vs.length = ks.length ∧ e1 = junk ks vs e ∧ (junk ks vs e).get k = some (.bool w) ∧ ∀ r, Lim fun n => evalOps (Cn T n) (blk ++ r) e H = evalOps (Cn T n) r (junk ks vs e) H := by
  obtain ⟨n0, hn0⟩ := h4.get
  obtain ⟨vs, h1, _, h3, h7⟩ := bare_on (C := Cn T n0) (w := w) (r := []) hb hk hn0
  refine ⟨vs, h1, h7, h3, fun r => h4.map fun n hn => ?_⟩
  obtain ⟨us, _, k2, _, k7⟩ := bare_on (C := Cn T n) (w := w) (r := r) hb hk hn
  rw [k2, ← k7, h7]
theorem G_pick (w : Bool) (blk : List AOper) {k d : Nat} {b : Bool} {v vo : AVal} {x y : AOpd} {l r : List AOper} {ks : List Nat} (hb : bare k w [] blk = some (l, ks)) (hk : e.get k = some (.bool b))
    (hT : b = w → GO T l [] e H (fun z e1 H1 => z = .norm ∧ H1 = H ∧ (if w then x.ev e1 else y.ev e1) = some v)) (hF : b ≠ w → v = vo) (ho : (if w then y else x) = .c vo)
    (h : ∀ vs, vs.length = ks.length → GO T r cs ((d, v) :: junk ks vs e) H Q) : GO T (blk ++ ⟨some d, .pick (.t k) x y, none⟩ :: r) cs e H Q := by
  by_cases hbw : b = w
  · subst hbw
    obtain ⟨z, e1, H1, h4, h5⟩ := hT rfl
    have h5' : z = .norm ∧ H1 = H ∧ (if b then x.ev e1 else y.ev e1) = some v := by
      cases z with
      | norm => exact h5
      | _ => exact h5
    obtain ⟨rfl, rfl, h6⟩ := h5'
    obtain ⟨vs, h1, rfl, h3, h7⟩ := bare_onU hb hk h4
    obtain ⟨z, e', H', h8, h9⟩ := h vs h1
    refine ⟨z, e', H', (h7 (⟨some d, .pick (.t k) x y, none⟩ :: r)).map2 h8 fun n k1 k2 => ?_, h9⟩
    rw [k1]
    cases b with
    | true =>
      simp only [if_true] at h6
      have h3' : (AOpd.t k).ev (junk ks vs e) = some (.bool true) := h3
      simp only [evalOps, wantedA, evalOp, AOp.kind, evP, h3', h6, okv, Env.put]
      exact k2
    | false =>
      simp only [Bool.false_eq_true, if_false] at h6
      have h3' : (AOpd.t k).ev (junk ks vs e) = some (.bool false) := h3
      simp only [evalOps, wantedA, evalOp, AOp.kind, evP, h3', h6, okv, Env.put]
      exact k2
  · obtain rfl := hF hbw
    obtain ⟨z, e', H', h4, h5⟩ := h (List.replicate ks.length undefA) (by simp)
    refine ⟨z, e', H', h4.map fun n k1 => ?_, h5⟩
    obtain ⟨h2, h3⟩ := bare_offU (C := Cn T n) hbw (r := ⟨some d, .pick (.t k) x y, none⟩ :: r) (H := H) hb hk (by simp)
    rw [h2]
    cases w with
    | true =>
      have hbf : b = false := by cases b <;> simp_all
      subst hbf
      simp only [if_true] at ho
      subst ho
      simp only [evalOps, wantedA, evalOp, AOp.kind, evP, AOpd.ev, h3, okv, Env.put]
      exact k1
    | false =>
      have hbt : b = true := by cases b <;> simp_all
      subst hbt
      simp only [Bool.false_eq_true, if_false] at ho
      subst ho
      simp only [evalOps, wantedA, evalOp, AOp.kind, evP, AOpd.ev, h3, okv, Env.put]
      exact k1
theorem G_and (blk : List AOper) {k s d : Nat} {b f : Bool} {l r : List AOper} {ks : List Nat} (hb : bare k true [] blk = some (l, ks)) (hk : e.get k = some (.bool b))
    (hT : b = true → GO T l [] e H (fun x e1 H1 => x = .norm ∧ H1 = H ∧ e1.get s = some (.bool f)))
    (h : ∀ vs, vs.length = ks.length → GO T r cs ((d, .bool (b && f)) :: junk ks vs e) H Q) : GO T (blk ++ ⟨some d, .pick (.t k) (.t s) (.c (.bool false)), none⟩ :: r) cs e H Q :=
  G_pick true blk hb hk (fun h1 => by subst h1; exact hT rfl) (fun h1 => by cases b <;> simp_all) rfl h
theorem G_or (blk : List AOper) {k s d : Nat} {b f : Bool} {l r : List AOper} {ks : List Nat} (hb : bare k false [] blk = some (l, ks)) (hk : e.get k = some (.bool b))
    (hT : b = false → GO T l [] e H (fun x e1 H1 => x = .norm ∧ H1 = H ∧ e1.get s = some (.bool f)))
    (h : ∀ vs, vs.length = ks.length → GO T r cs ((d, .bool (b || f)) :: junk ks vs e) H Q) : GO T (blk ++ ⟨some d, .pick (.t k) (.c (.bool true)) (.t s), none⟩ :: r) cs e H Q :=
  G_pick false blk hb hk (fun h1 => by subst h1; exact hT rfl) (fun h1 => by cases b <;> simp_all) rfl h
theorem L_drawS {l : List (AOper × Nat × List Nat)} {ops : List AOper} (hs : statOk [] l = true) (ho : l.map (·.1) = ops) (h : GO T ops [] e H (fun x e' H' => x = .norm ∧ GL T cs e' H' Q)) : GL T (.draw 0 l :: cs) e H Q := by
  subst ho
  obtain ⟨x, e1, H1, h1, h2⟩ := h
  have h2' : x = .norm ∧ GL T cs e1 H1 Q := by
    cases x with
    | norm => exact h2
    | _ => exact h2
  obtain ⟨rfl, h3⟩ := h2'
  refine ⟨.norm, e1, H1, h1.map fun n hn => ?_, h3⟩
  obtain ⟨fs, k1, k2⟩ := runD_seq (base := H.length) (gs := []) hs .nil hn
  simp only [evalCode, evalDraw, List.replicate_zero, List.append_nil, k1]
  exact if_pos (k2 fs rfl)
def GS (T : Nat → Option AFunc) (imp : List Nat) (l : List (AOper × Nat × List Nat)) (e : Env) (H : Heap) (K : Env → Heap → Prop) : Prop :=
  ∃ e' H', K e' H' ∧ Lim fun n => ∀ base, ∃ fs, runD (Cn T n) base l e H = some (fs, e', H') ∧ F2 (readI imp) l fs
theorem L_drawT (imp : List Nat) {l : List (AOper × Nat × List Nat)} (hs : statOkI imp [] l = true) (h : GS T imp l e H (fun e' H' => GL T cs e' H' Q)) : GL T (.draw 0 l :: cs) e H Q := by
  obtain ⟨e1, H1, h1, h2⟩ := h
  refine ⟨.norm, e1, H1, h2.map fun n hn => ?_, h1⟩
  obtain ⟨fs, h3, h4⟩ := hn H.length
  have h5 := okFs_I hs .nil h4
  rw [List.nil_append] at h5
  simp only [evalCode, evalDraw, List.replicate_zero, List.append_nil, h3]
  exact if_pos h5
section
variable {imp : List Nat} {l : List (AOper × Nat × List Nat)} {K : Env → Heap → Prop} {d j : Nat} {ds : List Nat} {op : AOp} {g : Option (Nat × Bool)} {v : AVal}
theorem GS_nil (h : K e H) : GS T imp [] e H K := ⟨e, H, h, .of fun _ _ => ⟨[], rfl, .nil⟩⟩
theorem GS_step {o : AOper} (hv : Lim fun n => ∀ base, ∃ f, stepV (Cn T n) base o j e H = some (f, v, H') ∧ readI imp (o, j, ds) f) (h : GS T imp l (e.put o.dst v) H' K) : GS T imp ((o, j, ds) :: l) e H K := by
  obtain ⟨e1, H1, h1, h2⟩ := h
  refine ⟨e1, H1, h1, hv.map2 h2 fun n k1 k2 base => ?_⟩
  obtain ⟨f, h3, h4⟩ := k1 base
  obtain ⟨fs, h5, h6⟩ := k2 base
  exact ⟨f :: fs, by simp only [runD, h3, h5], .cons h4 h6⟩
theorem GS_p (hk : op.kind = .pure) (hg : wantedA e g = some true) (hv : evP e op = some v) (h : GS T imp l ((d, v) :: e) H K) : GS T imp ((⟨some d, op, g⟩, j, ds) :: l) e H K :=
  GS_step (H' := H) (v := v) (.of fun n base => ⟨.io [] [], by simp [stepV, hg, hk, evalOp, hv, okv, footA], fun _ => ⟨[], rfl⟩⟩) h
theorem GS_v (v' : AVal) (hk : op.kind = .pure) (hg : wantedA e g = some true) (hv : evP e op = some v) (hvv : v = v') (h : GS T imp l ((d, v') :: e) H K) : GS T imp ((⟨some d, op, g⟩, j, ds) :: l) e H K :=
  GS_p hk hg (hvv ▸ hv) h
theorem GS_s (hg : wantedA e g = some false) (h : GS T imp l ((d, undefA) :: e) H K) : GS T imp ((⟨some d, op, g⟩, j, ds) :: l) e H K :=
  GS_step (H' := H) (v := undefA) (.of fun n base => ⟨.io [] [], by simp [stepV, hg], fun _ => ⟨[], rfl⟩⟩) h
theorem GS_h {d : Option Nat} (hn : noId op = true) (hc : op.isCall = false) (hk : op.kind = .heap) (hg : wantedA e g = some true) (hv : ∀ C, evH C e H.length H op = some (.ok v, H'))
    (h : GS T imp l (e.put d v) H' K) : GS T imp ((⟨d, op, g⟩, j, ds) :: l) e H K := by
  refine GS_step (v := v) (H' := H') (.of fun n base => ?_) h
  have h1 : evalOp (Cn T n) e (base + j) H op = some (.ok v, H') := by
    rw [noId_ev hn _ H.length]; simp only [evalOp, hk, hv]
  refine ⟨footA e (base + j) H H' op, by simp [stepV, hg, hk, h1], ?_⟩
  intro hr
  simp only [rdrI, hc, Bool.false_and, Bool.or_false] at hr
  obtain ⟨r, hf⟩ := footH_rdr (e := e) (H := H) hr hk
  simp only [footA, hk, hf]
  exact ⟨r, rfl⟩
theorem GS_c (f : FuncId) {args : List AOpd} {vs as : List AVal} (hg : wantedA e g = some true) (hvs : evs e args = some vs) (hs : shutL H vs = some as) (hv : CA T false f vs H v H)
    (h : GS T imp l ((d, v) :: e) H K) : GS T imp ((⟨some d, .call false f args, g⟩, j, ds) :: l) e H K :=
  GS_step (v := v) (H' := H) (hv.map fun n hn base => ⟨.io (glsL vs) [], by simp [stepV, hg, AOp.kind, evalOp, evH, hvs, hn, footA, footH, footArgs, hs], fun _ => ⟨_, rfl⟩⟩) h
end
section
variable {base : Nat} {l : List (AOper × Nat × List Nat)} {acc : List Foot} {K : List Foot → Env → Heap → Prop} {d j : Nat} {ds : List Nat} {op : AOp} {g : Option (Nat × Bool)} {v : AVal}
end
theorem pres_fin {f : Nat} {body : ACode} {rs : List ARes} {as : List AVal} {v : AVal} (h : T f = some ⟨body, rs⟩)
    (hw : GL T [body] (initEnv 0 as) [] (FinQ rs (.ok v))) : PRes T f as v := by
  obtain ⟨x, e1, H1, h1, h2⟩ := hw
  refine Lim.succ (h1.map fun n hn => ?_)
  rw [y3r h, show (⟨callF T n, n⟩ : Ctx) = Cn T n from rfl, hn]
  cases x with
  | norm =>
    obtain ⟨vs, h3, v, h4, h5⟩ := h2
    cases h5
    simp only [finish, h3, pureRes, h4]
  | ret =>
    obtain ⟨vs, h3, v, h4, h5⟩ := h2
    cases h5
    simp only [finish, h3, pureRes, h4]
  | pan v =>
    obtain ⟨v', h3, h5⟩ := h2
    cases h5
  | exit i => exact h2.elim
theorem GL_nilI : GL T [] e H Q ↔ Q .norm e H := Iff.rfl
theorem GL_consI {c : ACode} : GL T (c :: cs) e H Q ↔ ∃ x e' H', (Lim fun n => evalCode (Cn T n) c e H = some (x, e', H')) ∧ match x with
    | .norm => GL T cs e' H' Q
    | x => Q x e' H' := Iff.rfl
theorem GL_mono {Q' : Post} (hq : ∀ x e H, Q x e H → Q' x e H) : ∀ {cs : List ACode} {e : Env} {H : Heap}, GL T cs e H Q → GL T cs e H Q'
  | [], e, H, h => hq _ _ _ h
  | c :: cs, e, H, h => by
    obtain ⟨x, e1, H1, h1, h2⟩ := h
    refine ⟨x, e1, H1, h1, ?_⟩
    cases x with
    | norm => exact GL_mono hq h2
    | exit i => exact hq _ _ _ h2
    | ret => exact hq _ _ _ h2
    | pan v => exact hq _ _ _ h2
theorem Rd_mono {K K' : Env → Heap → Prop} (hk : ∀ e H, K e H → K' e H) : ∀ x e H, Rd K Q x e H → Rd K' Q x e H
  | .norm, e, H, h => hk _ _ h
  | .exit i, e, H, h => h
  | .ret, e, H, h => h
  | .pan v, e, H, h => h
end
attribute [irreducible] GL GO GLoop GS
end Go.Ev
namespace Go.Ev
set_option linter.unusedVariables false
set_option linter.unusedSimpArgs false
open Go
theorem bind_s {α β : Type} {o : Option α} {f : α → Option β} {r : β} (h : o.bind f = some r) : ∃ x, o = some x ∧ f x = some r := by
  cases o with
  | none => cases h
  | some x => exact ⟨x, rfl, h⟩
theorem cond_s {α : Type} {c : Bool} {a b : Option α} {r : α} (h : cond c a b = some r) : (c = true ∧ a = some r) ∨ (c = false ∧ b = some r) := by
  cases c with
  | true => exact .inl ⟨rfl, h⟩
  | false => exact .inr ⟨rfl, h⟩
theorem some_s {α : Type} {a b : α} (h : some a = some b) : a = b := Option.some.inj h
theorem guard_s {α : Type} {c : Bool} {a : Option α} {r : α} (h : cond c a none = some r) : c = true ∧ a = some r := by
  cases c with
  | true => exact ⟨rfl, h⟩
  | false => cases h
theorem condF {α : Type} {c : Bool} {a b : Option α} {r : α} (hc : c = false) (h : cond c a b = some r) : b = some r := by subst hc; exact h
theorem pickF {c f v : Bool} {a : Option Bool} (h : cond c (some f) a = some v) (hc : c ≠ false) : AVal.bool v = .bool f := by
  cases c with
  | false => exact absurd rfl hc
  | true => cases h; rfl
def okLen {α : Type} (l : List α) : Bool := decide (l.length < 100000000000)
theorem okLen_s {α : Type} {l : List α} (h : okLen l = true) : l.length < 100000000000 := of_decide_eq_true h
theorem okLen_of {α : Type} {l : List α} (h : l.length < 100000000000) : okLen l = true := decide_eq_true h
theorem map_get {α : Type} {f : α → AVal} {l : List α} {n : Nat} {x : α} (h : l[n]? = some x) : (l.map f)[n]? = some (f x) := by rw [List.getElem?_map, h]; rfl
theorem wrap_next {i n : Nat} (h : n < 100000000000) (hi : i < n) : IntKind.i64.wrap ((i : Int) + 1) = ((i + 1 : Nat) : Int) := by
  rw [kw_i64_id (by omega) (by omega)]; rfl
section
variable {T : Nat → Option AFunc} {cs : List ACode} {e e' : Env} {H H' : Heap} {Q : Post}
def Sm (keep : List Nat) (frz : List (Nat × Option Nat)) (n : Nat) (K : Env → Heap → Prop) (Q : Post) : Post
  | .norm, e, H => K (stmtE keep frz e H) (stmtH n keep frz e H)
  | x, e, H => Q x e H
theorem Sm_norm {keep : List Nat} {frz : List (Nat × Option Nat)} {n : Nat} {K : Env → Heap → Prop} {e1 e2 : Env} {H1 H2 : Heap} (h0 : frzAll frz e H = (e1, H1)) (h1 : restr e1 keep = e2) (h2 : trunc n e2 H1 = H2) (h : K e2 H2) : Sm keep frz n K Q .norm e H := by
  subst h1 h2
  show K (stmtE keep frz e H) (stmtH n keep frz e H)
  unfold stmtH stmtE
  rw [h0]; exact h
theorem Sm_exit {keep : List Nat} {frz : List (Nat × Option Nat)} {n : Nat} {K : Env → Heap → Prop} {j : Nat} (h : Q (.exit j) e H) : Sm keep frz n K Q (.exit j) e H := h
theorem Sm_ret {keep : List Nat} {frz : List (Nat × Option Nat)} {n : Nat} {K : Env → Heap → Prop} (h : Q .ret e H) : Sm keep frz n K Q .ret e H := h
theorem L_stmt {keep : List Nat} {frz : List (Nat × Option Nat)} {a : ACode} (h : GL T [a] e H (Sm keep frz H.length (fun e' H' => GL T cs e' H' Q) Q)) : GL T (.stmt keep frz a :: cs) e H Q := by
  rw [GL_consI] at h ⊢
  obtain ⟨x, e1, H1, h1, h2⟩ := h
  cases x with
  | norm =>
    rw [GL_nilI] at h2
    exact ⟨.norm, _, _, h1.map fun n k => by simp only [evalCode, k], h2⟩
  | exit i => exact ⟨.exit i, e1, H1, h1.map fun n k => by simp only [evalCode, k], h2⟩
  | ret => exact ⟨.ret, e1, H1, h1.map fun n k => by simp only [evalCode, k], h2⟩
  | pan v => exact ⟨.pan v, e1, H1, h1.map fun n k => by simp only [evalCode, k], h2⟩
theorem L_stmtJ {S : Type} {keep : List Nat} {frz : List (Nat × Option Nat)} {a : ACode} (envs : S → Env) (heaps : S → Heap) (P : S → Prop) (h1 : GL T [a] e H (Sm keep frz H.length (fun e' H' => ∃ s, e' = envs s ∧ H' = heaps s ∧ P s) Q)) (h2 : ∀ s, P s → GL T cs (envs s) (heaps s) Q) :
    GL T (.stmt keep frz a :: cs) e H Q := by
  refine L_stmt (GL_mono ?_ h1)
  intro x e1 H1 h
  cases x with
  | norm => obtain ⟨s, k1, k2, k3⟩ := h; show GL T cs _ _ Q; rw [k1, k2]; exact h2 s k3
  | exit i => exact h
  | ret => exact h
  | pan v => exact h
theorem L_range {X S : Type} {keep : List Nat} {a : ACode} (L : List X) (envs : Nat → S → Env) (heaps : Nat → S → Heap) (P : List X → Nat → S → Prop) (s0 : S)
    (he : restr e keep = envs 0 s0) (hH : trunc H.length (envs 0 s0) H = heaps 0 s0) (h0 : P L 0 s0)
    (hnil : ∀ s, P [] L.length s → GL T [a] (envs L.length s) (heaps L.length s) (Rd (fun _ _ => False) Q))
    (hcons : ∀ x rest i s, L[i]? = some x → i < L.length → P (x :: rest) i s → GL T [a] (envs i s) (heaps i s) (Rd (fun e' H' => ∃ s', restr e' keep = envs (i + 1) s' ∧ trunc H.length (envs (i + 1) s') H' = heaps (i + 1) s' ∧ P rest (i + 1) s') Q)) :
    GL T (.loop keep a :: cs) e H Q := by
  refine L_loop ?_
  have key : ∀ (rest : List X) (i : Nat) (s : S) (e2 : Env) (H2 : Heap), L.drop i = rest → i ≤ L.length → P rest i s → restr e2 keep = envs i s → trunc H.length (envs i s) H2 = heaps i s → GLoop T H.length keep a e2 H2 Q := by
    intro rest
    induction rest with
    | nil =>
      intro i s e2 H2 hd hi hP he hH
      have hi2 : i = L.length := by
        have := congrArg List.length hd
        simp at this; omega
      subst hi2
      refine L_round he hH ?_
      exact GL_mono (Rd_mono fun _ _ h => h.elim) (hnil s hP)
    | cons x rest ih =>
      intro i s e2 H2 hd hi hP he hH
      have hx : L[i]? = some x := by
        have := congrArg (fun l => l[0]?) hd
        simpa using this
      have hlt := (List.getElem?_eq_some_iff.1 hx).1
      refine L_round he hH ?_
      refine GL_mono (Rd_mono ?_) (hcons x rest i s hx hlt hP)
      rintro e3 H3 ⟨s', k1, k2, k3⟩
      refine ih (i + 1) s' e3 H3 ?_ (by omega) k3 k1 k2
      have := congrArg List.tail hd
      simpa using this
  exact key L 0 s0 e H rfl (Nat.zero_le _) h0 he hH
theorem ia_ev {id es : Nat} {x i : AOpd} {xs : List AVal} {b : Bool} {k : IntKind} {n : Int} {y : AVal} {cells : List AVal} (hx : x.ev e = some (.lst xs b)) (hi : i.ev e = some (.int k n)) (h0 : 0 ≤ n) (hy : xs[n.toNat]? = some y) (hf : y.flat = cells) (hw : cells.length = es) (C : Ctx) :
    evH C e id H (.ia es x i) = some (.ok (.ro cells), H) := by
  simp only [evH, hx, hi, h0, if_true, hy, AVal.width, hf, hw]
theorem lenL_ev {id : Nat} {x : AOpd} {xs : List AVal} {b : Bool} {n : Nat} (hx : x.ev e = some (.lst xs b)) (hn : xs.length = n) (C : Ctx) : evH C e id H (.len .slice x) = some (.ok (.int .i64 (n : Nat)), H) := by
  subst hn
  simp only [evH, hx, lenOf]; rfl
theorem evP_pickT {c x y : AOpd} {b : Bool} {v : AVal} (hc : c.ev e = some (.bool b)) (hb : b = true) (hv : x.ev e = some v) : evP e (.pick c x y) = some v := by subst hb; simp only [evP, hc, hv]
theorem evP_pickF {c x y : AOpd} {b : Bool} {v : AVal} (hc : c.ev e = some (.bool b)) (hb : b = false) (hv : y.ev e = some v) : evP e (.pick c x y) = some v := by subst hb; simp only [evP, hc, hv]
theorem wt {k : Nat} {b w : Bool} (h : e.get k = some (.bool b)) (hb : b = w) : wantedA e (some (k, w)) = some true := by subst hb; simp [wantedA, h]
theorem wf {k : Nat} {b w : Bool} (h : e.get k = some (.bool b)) (hb : b = !w) : wantedA e (some (k, w)) = some false := by subst hb; simp [wantedA, h]
end
section
variable {T : Nat → Option AFunc} {cs : List ACode} {e e' : Env} {H H' : Heap} {Q : Post}
end
end Go.Ev
namespace Go.Ev.Seat
set_option linter.unusedVariables false
set_option linter.unusedSimpArgs false
open Go Go.Ev
set_option maxRecDepth 20000
attribute [local irreducible] pcall callF
theorem awake_c (n : Nat) : pcall (tabOf tabL) (n + 300) 7 [] = some (.ok (.bool true)) := by kernel_rfl
noncomputable section
open Classical
def oAwake : Option Bool := some true
theorem oAwake_ok {r : Bool} (h : oAwake = some r) : PRes (tabOf tabL) 7 [] (.bool r) := by
  cases h; exact .of_le 300 awake_c
def oLightT (t : Ty) : Option Bool := if WfT t then some (decide (rsz t 60 < 120)) else none
theorem y4v {t : Ty} {r : Bool} (h : oLightT t = some r) : PRes (tabOf tabL) 12 [vT t] (.bool r) := by
  unfold oLightT at h
  split at h <;> cases h
  rename_i hw
  exact .of_lt (szT t + 1) fun n hn => by obtain ⟨m, rfl⟩ : ∃ m, n = m + 1 := ⟨n - 1, by omega⟩; exact TyS.light_c m t (by omega) hw
def oRightT (t : Ty) : Option Bool := if WfT t then some (decide (rsz t 60 ≤ 300) && rightT t 20) else none
theorem y3a {t : Ty} {r : Bool} (h : oRightT t = some r) : PRes (tabOf tabL) 13 [vT t] (.bool r) := by
  unfold oRightT at h
  split at h <;> cases h
  rename_i hw
  exact .of_lt (szT t + 1) fun n hn => by obtain ⟨m, rfl⟩ : ∃ m, n = m + 1 := ⟨n - 1, by omega⟩; exact TyS.right_ref m t (by omega) hw
end
end Go.Ev.Seat
namespace Go.Ev.Seat
set_option linter.unusedVariables false
set_option linter.unusedSimpArgs false
open Go Go.Ev
set_option maxRecDepth 20000
attribute [local irreducible] pcall callF
noncomputable def y0m : Option Bool :=
  some true
noncomputable def y09 (rec : Ty → Bool → Option Bool) (y59 : Ty) (K3 : Option Bool) (b64 : Bool) : Option Bool :=
  ((rec y59 b64).bind fun r65 => (cond (!r65) (some false) (K3)))
noncomputable def y02 (rec : Ty → Bool → Option Bool) (t1 : Ty) (out2 : Bool) : List Ty → Nat → Option Bool
  | [], _ => y0m
  | y59 :: rest61, i60 => (cond (decide (((i60 : Nat) : Int) = (IntKind.wrap .i64 (((List.length t1.funs : Nat) : Int) - 1)))) (y09 rec y59 (y02 rec t1 out2 rest61 (i60 + 1)) out2) (y09 rec y59 (y02 rec t1 out2 rest61 (i60 + 1)) (!out2)))
noncomputable def y06 (rec : Ty → Bool → Option Bool) (t1 : Ty) (out2 : Bool) : Option Bool :=
  (cond (okLen t1.funs) (y02 rec t1 out2 t1.funs 0) none)
noncomputable def y05 (rec : Ty → Bool → Option Bool) (t1 : Ty) (out2 : Bool) : List Ty → Nat → Option Bool
  | [], _ => y06 rec t1 out2
  | y78 :: rest80, i79 => ((rec y78 out2).bind fun r82 => (cond (!r82) (some false) ((y05 rec t1 out2 rest80 (i79 + 1)))))
noncomputable def y0i (rec : Ty → Bool → Option Bool) (t1 : Ty) (out2 : Bool) : Option Bool :=
  (cond (out2 && (t1.all || (decide (t1.fn = 2)))) (some false) (cond (okLen t1.pairs) (y05 rec t1 out2 t1.pairs 0) none))
abbrev kg01 (y59 : Ty) : ABlock := .cells [.bool y59.all, .int .i64 y59.flat, .int .i64 y59.pair, .lst (List.map encT y59.pairs) false, .int .i64 y59.fn, .lst (List.map encT y59.funs) false]
abbrev kg02 (t1 : Ty) : ABlock := .cells [.bool t1.all, .int .i64 t1.flat, .int .i64 t1.pair, .lst (List.map encT t1.pairs) false, .int .i64 t1.fn, .lst (List.map encT t1.funs) false]
theorem y2h {rec : Ty → Bool → Option Bool} {t1 : Ty} {out2 : Bool} {r : Bool} (hrec : ∀ (a0 : Ty) (a1 : Bool) (r : Bool), rec a0 a1 = some r → PRes (tabOf tabL) 14 [.agg (cT a0), .bool a1] (.bool r)) (hr : y0i rec t1 out2 = some r) : PRes (tabOf tabL) 14 [.agg (cT t1), .bool out2] (.bool r) := by
  refine pres_fin t14 ?_
  unfold y0i at hr
  refine L_seq ?_
  refine L_stmt ?_
  refine L_reg ?_
  refine G_n (B := (kg02 t1)) rfl rfl rfl ?_
  refine G_p rfl rfl rfl ?_
  refine G_nil ?_
  refine L_nil ?_
  refine Sm_norm (e2 := [(1, .bool out2), (2, .ptr 0 0)]) (H1 := [(kg02 t1)]) (H2 := [(kg02 t1)]) rfl (by repeat (first | exact rzz | apply rcc rfl | apply rnn rfl)) rfl (?_ : GL _ _ _ _ _)
  refine L_seq ?_
  refine L_stmt ?_
  refine L_seq ?_
  refine L_stmt ?_
  refine L_reg ?_
  refine G_p rfl rfl rfl ?_
  refine G_p rfl rfl rfl ?_
  refine G_and (f := (t1.all || (decide (t1.fn = 2)))) [_, _, _, _, _, _, _] rfl rfl ?_ ?_
  · intro hb11
    refine G_p rfl rfl rfl ?_
    refine G_h rfl rfl rfl (fun _ => rfl) ?_
    refine G_p rfl rfl rfl ?_
    refine G_or (f := (decide (t1.fn = 2))) [_, _, _] rfl rfl ?_ ?_
    · intro hb14
      refine G_p rfl rfl rfl ?_
      refine G_h rfl rfl rfl (fun _ => rfl) ?_
      refine G_p rfl rfl rfl ?_
      exact G_nil (L_nil ⟨rfl, rfl, rfl⟩)
    · intro vs hvs
      obtain ⟨u15, u16, u17, rfl⟩ := len3 hvs
      dsimp only [junk]
      exact G_nil (L_nil ⟨rfl, rfl, rfl⟩)
  · intro vs hvs
    obtain ⟨u12, u13, u14, u15, u16, u17, u18, rfl⟩ := len7 hvs
    dsimp only [junk]
    refine G_nil ?_
    refine L_nil ?_
    refine Sm_norm (e2 := [(1, .bool out2), (2, .ptr 0 0), (19, .bool (out2 && (t1.all || (decide (t1.fn = 2)))))]) (H1 := [(kg02 t1)]) (H2 := [(kg02 t1)]) rfl (by repeat (first | exact rzz | apply rcc rfl | apply rnn rfl)) rfl (?_ : GL _ _ _ _ _)
    rcases cond_s hr with ⟨hc19, hr⟩ | ⟨hc19, hr⟩
    · refine L_T rfl hc19 ?_
      refine L_seq ?_
      refine L_reg ?_
      refine G_p rfl rfl rfl ?_
      refine G_nil ?_
      refine L_ret ?_
      refine Sm_ret ?_
      have hr := some_s hr
      subst hr
      exact ⟨_, rfl, _, rfl, rfl⟩
    · refine L_F rfl hc19 ?_
      refine L_skip ?_
      refine L_nil ?_
      refine Sm_norm (e2 := [(1, .bool out2), (2, .ptr 0 0)]) (H1 := [(kg02 t1)]) (H2 := [(kg02 t1)]) rfl (by repeat (first | exact rzz | apply rcc rfl | apply rnn rfl)) rfl (?_ : GL _ _ _ _ _)
      refine L_seq ?_
      refine L_stmtJ (S := Unit) (fun s => [(1, .bool out2), (2, .ptr 0 0)]) (fun s => [(kg02 t1)]) (fun s => y06 rec t1 out2 = some r) ?_ ?_
      · skip
        refine L_seq ?_
        refine L_stmt ?_
        refine L_reg ?_
        refine G_p rfl rfl rfl ?_
        refine G_h (v := .lst (List.map encT t1.pairs) false) rfl rfl rfl (fun _ => rfl) ?_
        refine G_h rfl rfl rfl (lenL_ev rfl (List.length_map _)) ?_
        refine G_p rfl rfl rfl ?_
        refine G_nil ?_
        refine L_nil ?_
        refine Sm_norm (e2 := [(1, .bool out2), (2, .ptr 0 0), (21, .lst (List.map encT t1.pairs) false), (22, .int .i64 ((List.length t1.pairs : Nat) : Int)), (23, .int .i64 0)]) (H1 := [(kg02 t1)]) (H2 := [(kg02 t1)]) rfl (by repeat (first | exact rzz | apply rcc rfl | apply rnn rfl)) rfl (?_ : GL _ _ _ _ _)
        refine L_block ?_
        obtain ⟨hLq77, hr⟩ := guard_s hr
        replace hLq77 := okLen_s hLq77
        refine L_range (X := Ty) (S := Unit) t1.pairs (fun i79 s => [(23, .int .i64 ((i79 : Nat) : Int)), (1, .bool out2), (2, .ptr 0 0), (21, .lst (List.map encT t1.pairs) false), (22, .int .i64 ((List.length t1.pairs : Nat) : Int))]) (fun i79 s => [(kg02 t1)]) (fun rest i79 s => y05 rec t1 out2 rest i79 = some r) (()) ?_ rfl hr ?_ ?_
        · show restr _ _ = [(23, .int .i64 ((0 : Nat) : Int)), (1, .bool out2), (2, .ptr 0 0), (21, .lst (List.map encT t1.pairs) false), (22, .int .i64 ((List.length t1.pairs : Nat) : Int))]
          (repeat (first | exact rzz | apply rcc rfl | apply rnn rfl))
        · rintro ⟨⟩ hr
          show GL _ _ [(23, .int .i64 (((List.length t1.pairs) : Nat) : Int)), (1, .bool out2), (2, .ptr 0 0), (21, .lst (List.map encT t1.pairs) false), (22, .int .i64 ((List.length t1.pairs : Nat) : Int))] [(kg02 t1)] _
          replace hr : y05 rec t1 out2 [] (List.length t1.pairs) = some r := hr
          rw [y05] at hr
          refine L_seq ?_
          refine L_stmt ?_
          refine L_reg ?_
          refine G_v (.bool false) rfl rfl rfl (congrArg AVal.bool (decide_eq_false (by omega))) ?_
          refine G_nil ?_
          refine L_nil ?_
          refine Sm_norm (e2 := [(1, .bool out2), (2, .ptr 0 0), (21, .lst (List.map encT t1.pairs) false), (22, .int .i64 ((List.length t1.pairs : Nat) : Int)), (23, .int .i64 ((List.length t1.pairs : Nat) : Int)), (24, .bool false)]) (H1 := [(kg02 t1)]) (H2 := [(kg02 t1)]) rfl (by repeat (first | exact rzz | apply rcc rfl | apply rnn rfl)) rfl (?_ : GL _ _ _ _ _)
          refine L_seq ?_
          refine L_stmt ?_
          refine L_F rfl rfl ?_
          refine L_exit ?_
          refine Sm_exit ?_
          refine Rd_exit ?_
          refine Blk_exit (?_ : GL _ _ _ _ _)
          refine L_nil ?_
          exact Sm_norm (e2 := [(1, .bool out2), (2, .ptr 0 0)]) (H1 := [(kg02 t1)]) (H2 := [(kg02 t1)]) rfl (by repeat (first | exact rzz | apply rcc rfl | apply rnn rfl)) rfl ⟨(), rfl, rfl, hr⟩
        · rintro y78 rest80 i79 ⟨⟩ hy78 hlti79 hr
          show GL _ _ [(23, .int .i64 ((i79 : Nat) : Int)), (1, .bool out2), (2, .ptr 0 0), (21, .lst (List.map encT t1.pairs) false), (22, .int .i64 ((List.length t1.pairs : Nat) : Int))] [(kg02 t1)] _
          replace hr : y05 rec t1 out2 (y78 :: rest80) i79 = some r := hr
          rw [y05] at hr
          refine L_seq ?_
          refine L_stmt ?_
          refine L_reg ?_
          refine G_v (.bool true) rfl rfl rfl (congrArg AVal.bool (decide_eq_true (by omega))) ?_
          refine G_nil ?_
          refine L_nil ?_
          refine Sm_norm (e2 := [(1, .bool out2), (2, .ptr 0 0), (21, .lst (List.map encT t1.pairs) false), (22, .int .i64 ((List.length t1.pairs : Nat) : Int)), (23, .int .i64 ((i79 : Nat) : Int)), (24, .bool true)]) (H1 := [(kg02 t1)]) (H2 := [(kg02 t1)]) rfl (by repeat (first | exact rzz | apply rcc rfl | apply rnn rfl)) rfl (?_ : GL _ _ _ _ _)
          refine L_seq ?_
          refine L_stmt ?_
          refine L_T rfl rfl ?_
          refine L_skip ?_
          refine L_nil ?_
          refine Sm_norm (e2 := [(1, .bool out2), (2, .ptr 0 0), (21, .lst (List.map encT t1.pairs) false), (22, .int .i64 ((List.length t1.pairs : Nat) : Int)), (23, .int .i64 ((i79 : Nat) : Int))]) (H1 := [(kg02 t1)]) (H2 := [(kg02 t1)]) rfl (by repeat (first | exact rzz | apply rcc rfl | apply rnn rfl)) rfl (?_ : GL _ _ _ _ _)
          refine L_seq ?_
          refine L_stmt ?_
          refine L_block ?_
          refine L_seq ?_
          refine L_stmt ?_
          refine L_reg ?_
          refine G_h (v := .ro [.bool y78.all, .int .i64 y78.flat, .int .i64 y78.pair, .lst (List.map encT y78.pairs) false, .int .i64 y78.fn, .lst (List.map encT y78.funs) false]) rfl rfl rfl (ia_ev (cells := [.bool y78.all, .int .i64 y78.flat, .int .i64 y78.pair, .lst (List.map encT y78.pairs) false, .int .i64 y78.fn, .lst (List.map encT y78.funs) false]) rfl rfl (Int.natCast_nonneg _) (map_get (x := y78) (by rw [Int.toNat_natCast]; exact hy78)) (encT_flat _) rfl) ?_
          refine G_h (v := .agg (cT y78)) rfl rfl rfl (fun _ => rfl) ?_
          refine G_n (B := .cells [.bool false, .int .i64 0, .int .i64 0, .lst [] true, .int .i64 0, .lst [] true]) rfl rfl rfl ?_
          refine G_hn (H' := [(kg02 t1), .cells [.bool y78.all, .int .i64 y78.flat, .int .i64 y78.pair, .lst (List.map encT y78.pairs) false, .int .i64 y78.fn, .lst (List.map encT y78.funs) false]]) rfl rfl rfl (fun _ => rfl) ?_
          refine G_nil ?_
          refine L_nil ?_
          refine Sm_norm (e2 := [(1, .bool out2), (2, .ptr 0 0), (6, .ptr 1 0), (21, .lst (List.map encT t1.pairs) false), (22, .int .i64 ((List.length t1.pairs : Nat) : Int)), (23, .int .i64 ((i79 : Nat) : Int))]) (H1 := [(kg02 t1), .cells [.bool y78.all, .int .i64 y78.flat, .int .i64 y78.pair, .lst (List.map encT y78.pairs) false, .int .i64 y78.fn, .lst (List.map encT y78.funs) false]]) (H2 := [(kg02 t1), .cells [.bool y78.all, .int .i64 y78.flat, .int .i64 y78.pair, .lst (List.map encT y78.pairs) false, .int .i64 y78.fn, .lst (List.map encT y78.funs) false]]) rfl (by repeat (first | exact rzz | apply rcc rfl | apply rnn rfl)) rfl (?_ : GL _ _ _ _ _)
          refine L_seq ?_
          refine L_stmt ?_
          refine L_reg ?_
          refine G_h (v := .agg (cT y78)) rfl rfl rfl (fun _ => rfl) ?_
          refine G_p rfl rfl rfl ?_
          obtain ⟨r82, hr82, hr⟩ := bind_s hr
          refine G_c 14 rfl rfl (CA_of (as := [.agg (cT y78), .bool out2]) rfl (hrec _ _ _ hr82)) ?_
          refine G_p rfl rfl rfl ?_
          refine G_nil ?_
          refine L_nil ?_
          refine Sm_norm (e2 := [(1, .bool out2), (2, .ptr 0 0), (21, .lst (List.map encT t1.pairs) false), (22, .int .i64 ((List.length t1.pairs : Nat) : Int)), (23, .int .i64 ((i79 : Nat) : Int)), (30, .bool (!r82))]) (H1 := [(kg02 t1), .cells [.bool y78.all, .int .i64 y78.flat, .int .i64 y78.pair, .lst (List.map encT y78.pairs) false, .int .i64 y78.fn, .lst (List.map encT y78.funs) false]]) (H2 := [(kg02 t1), .cells [.bool y78.all, .int .i64 y78.flat, .int .i64 y78.pair, .lst (List.map encT y78.pairs) false, .int .i64 y78.fn, .lst (List.map encT y78.funs) false]]) rfl (by repeat (first | exact rzz | apply rcc rfl | apply rnn rfl)) rfl (?_ : GL _ _ _ _ _)
          rcases cond_s hr with ⟨hc30, hr⟩ | ⟨hc30, hr⟩
          · refine L_T rfl hc30 ?_
            refine L_seq ?_
            refine L_reg ?_
            refine G_p rfl rfl rfl ?_
            refine G_nil ?_
            refine L_ret ?_
            refine Blk_ret ?_
            refine Sm_ret ?_
            refine Rd_ret ?_
            refine Blk_ret ?_
            refine Sm_ret ?_
            have hr := some_s hr
            subst hr
            exact ⟨_, rfl, _, rfl, rfl⟩
          · refine L_F rfl hc30 ?_
            refine L_skip ?_
            refine L_nil ?_
            refine Blk_norm (?_ : GL _ _ _ _ _)
            refine L_nil ?_
            refine Sm_norm (e2 := [(1, .bool out2), (2, .ptr 0 0), (21, .lst (List.map encT t1.pairs) false), (22, .int .i64 ((List.length t1.pairs : Nat) : Int)), (23, .int .i64 ((i79 : Nat) : Int))]) (H1 := [(kg02 t1), .cells [.bool y78.all, .int .i64 y78.flat, .int .i64 y78.pair, .lst (List.map encT y78.pairs) false, .int .i64 y78.fn, .lst (List.map encT y78.funs) false]]) (H2 := [(kg02 t1)]) rfl (by repeat (first | exact rzz | apply rcc rfl | apply rnn rfl)) rfl (?_ : GL _ _ _ _ _)
            refine L_reg ?_
            refine G_v (.int .i64 ((i79 + 1 : Nat) : Int)) rfl rfl rfl (congrArg _ (wrap_next hLq77 hlti79)) ?_
            refine G_p rfl rfl rfl ?_
            refine G_nil ?_
            refine L_nil ?_
            refine Rd_norm ⟨(), ?_, rfl, hr⟩
            show restr _ _ = [(23, .int .i64 (((i79 + 1) : Nat) : Int)), (1, .bool out2), (2, .ptr 0 0), (21, .lst (List.map encT t1.pairs) false), (22, .int .i64 ((List.length t1.pairs : Nat) : Int))]
            (repeat (first | exact rzz | apply rcc rfl | apply rnn rfl))
      · rintro ⟨⟩ hr
        show GL _ _ [(1, .bool out2), (2, .ptr 0 0)] [(kg02 t1)] _
        replace hr : y06 rec t1 out2 = some r := hr
        unfold y06 at hr
        refine L_seq ?_
        refine L_stmtJ (S := Unit) (fun s => []) (fun s => [(kg02 t1)]) (fun s => y0m = some r) ?_ ?_
        · skip
          refine L_seq ?_
          refine L_stmt ?_
          refine L_reg ?_
          refine G_p rfl rfl rfl ?_
          refine G_h (v := .lst (List.map encT t1.funs) false) rfl rfl rfl (fun _ => rfl) ?_
          refine G_h rfl rfl rfl (lenL_ev rfl (List.length_map _)) ?_
          refine G_p rfl rfl rfl ?_
          refine G_nil ?_
          refine L_nil ?_
          refine Sm_norm (e2 := [(1, .bool out2), (2, .ptr 0 0), (33, .lst (List.map encT t1.funs) false), (34, .int .i64 ((List.length t1.funs : Nat) : Int)), (35, .int .i64 0)]) (H1 := [(kg02 t1)]) (H2 := [(kg02 t1)]) rfl (by repeat (first | exact rzz | apply rcc rfl | apply rnn rfl)) rfl (?_ : GL _ _ _ _ _)
          refine L_block ?_
          obtain ⟨hLq58, hr⟩ := guard_s hr
          replace hLq58 := okLen_s hLq58
          refine L_range (X := Ty) (S := Unit) t1.funs (fun i60 s => [(35, .int .i64 ((i60 : Nat) : Int)), (1, .bool out2), (2, .ptr 0 0), (33, .lst (List.map encT t1.funs) false), (34, .int .i64 ((List.length t1.funs : Nat) : Int))]) (fun i60 s => [(kg02 t1)]) (fun rest i60 s => y02 rec t1 out2 rest i60 = some r) (()) ?_ rfl hr ?_ ?_
          · show restr _ _ = [(35, .int .i64 ((0 : Nat) : Int)), (1, .bool out2), (2, .ptr 0 0), (33, .lst (List.map encT t1.funs) false), (34, .int .i64 ((List.length t1.funs : Nat) : Int))]
            (repeat (first | exact rzz | apply rcc rfl | apply rnn rfl))
          · rintro ⟨⟩ hr
            show GL _ _ [(35, .int .i64 (((List.length t1.funs) : Nat) : Int)), (1, .bool out2), (2, .ptr 0 0), (33, .lst (List.map encT t1.funs) false), (34, .int .i64 ((List.length t1.funs : Nat) : Int))] [(kg02 t1)] _
            replace hr : y02 rec t1 out2 [] (List.length t1.funs) = some r := hr
            rw [y02] at hr
            refine L_seq ?_
            refine L_stmt ?_
            refine L_reg ?_
            refine G_v (.bool false) rfl rfl rfl (congrArg AVal.bool (decide_eq_false (by omega))) ?_
            refine G_nil ?_
            refine L_nil ?_
            refine Sm_norm (e2 := [(1, .bool out2), (2, .ptr 0 0), (33, .lst (List.map encT t1.funs) false), (34, .int .i64 ((List.length t1.funs : Nat) : Int)), (35, .int .i64 ((List.length t1.funs : Nat) : Int)), (36, .bool false)]) (H1 := [(kg02 t1)]) (H2 := [(kg02 t1)]) rfl (by repeat (first | exact rzz | apply rcc rfl | apply rnn rfl)) rfl (?_ : GL _ _ _ _ _)
            refine L_seq ?_
            refine L_stmt ?_
            refine L_F rfl rfl ?_
            refine L_exit ?_
            refine Sm_exit ?_
            refine Rd_exit ?_
            refine Blk_exit (?_ : GL _ _ _ _ _)
            refine L_nil ?_
            exact Sm_norm (e2 := []) (H1 := [(kg02 t1)]) (H2 := [(kg02 t1)]) rfl (by repeat (first | exact rzz | apply rcc rfl | apply rnn rfl)) rfl ⟨(), rfl, rfl, hr⟩
          · rintro y59 rest61 i60 ⟨⟩ hy59 hlti60 hr
            show GL _ _ [(35, .int .i64 ((i60 : Nat) : Int)), (1, .bool out2), (2, .ptr 0 0), (33, .lst (List.map encT t1.funs) false), (34, .int .i64 ((List.length t1.funs : Nat) : Int))] [(kg02 t1)] _
            replace hr : y02 rec t1 out2 (y59 :: rest61) i60 = some r := hr
            rw [y02] at hr
            refine L_seq ?_
            refine L_stmt ?_
            refine L_reg ?_
            refine G_v (.bool true) rfl rfl rfl (congrArg AVal.bool (decide_eq_true (by omega))) ?_
            refine G_nil ?_
            refine L_nil ?_
            refine Sm_norm (e2 := [(1, .bool out2), (2, .ptr 0 0), (33, .lst (List.map encT t1.funs) false), (34, .int .i64 ((List.length t1.funs : Nat) : Int)), (35, .int .i64 ((i60 : Nat) : Int)), (36, .bool true)]) (H1 := [(kg02 t1)]) (H2 := [(kg02 t1)]) rfl (by repeat (first | exact rzz | apply rcc rfl | apply rnn rfl)) rfl (?_ : GL _ _ _ _ _)
            refine L_seq ?_
            refine L_stmt ?_
            refine L_T rfl rfl ?_
            refine L_skip ?_
            refine L_nil ?_
            refine Sm_norm (e2 := [(1, .bool out2), (2, .ptr 0 0), (33, .lst (List.map encT t1.funs) false), (34, .int .i64 ((List.length t1.funs : Nat) : Int)), (35, .int .i64 ((i60 : Nat) : Int))]) (H1 := [(kg02 t1)]) (H2 := [(kg02 t1)]) rfl (by repeat (first | exact rzz | apply rcc rfl | apply rnn rfl)) rfl (?_ : GL _ _ _ _ _)
            refine L_seq ?_
            refine L_stmt ?_
            refine L_block ?_
            refine L_seq ?_
            refine L_stmt ?_
            refine L_reg ?_
            refine G_p rfl rfl rfl ?_
            refine G_h (v := .ro [.bool y59.all, .int .i64 y59.flat, .int .i64 y59.pair, .lst (List.map encT y59.pairs) false, .int .i64 y59.fn, .lst (List.map encT y59.funs) false]) rfl rfl rfl (ia_ev (cells := [.bool y59.all, .int .i64 y59.flat, .int .i64 y59.pair, .lst (List.map encT y59.pairs) false, .int .i64 y59.fn, .lst (List.map encT y59.funs) false]) rfl rfl (Int.natCast_nonneg _) (map_get (x := y59) (by rw [Int.toNat_natCast]; exact hy59)) (encT_flat _) rfl) ?_
            refine G_h (v := .agg (cT y59)) rfl rfl rfl (fun _ => rfl) ?_
            refine G_n (B := .cells [.bool false, .int .i64 0, .int .i64 0, .lst [] true, .int .i64 0, .lst [] true]) rfl rfl rfl ?_
            refine G_p rfl rfl rfl ?_
            refine G_hn (H' := [(kg02 t1), (kg01 y59)]) rfl rfl rfl (fun _ => rfl) ?_
            refine G_nil ?_
            refine L_nil ?_
            refine Sm_norm (e2 := [(1, .bool out2), (2, .ptr 0 0), (7, .int .i64 ((i60 : Nat) : Int)), (8, .ptr 1 0), (33, .lst (List.map encT t1.funs) false), (34, .int .i64 ((List.length t1.funs : Nat) : Int)), (35, .int .i64 ((i60 : Nat) : Int))]) (H1 := [(kg02 t1), (kg01 y59)]) (H2 := [(kg02 t1), (kg01 y59)]) rfl (by repeat (first | exact rzz | apply rcc rfl | apply rnn rfl)) rfl (?_ : GL _ _ _ _ _)
            refine L_seq ?_
            refine L_stmt ?_
            refine L_reg ?_
            refine G_p rfl rfl rfl ?_
            refine G_p rfl rfl rfl ?_
            refine G_p rfl rfl rfl ?_
            refine G_nil ?_
            refine L_nil ?_
            refine Sm_norm (e2 := [(1, .bool out2), (2, .ptr 0 0), (7, .int .i64 ((i60 : Nat) : Int)), (8, .ptr 1 0), (9, .bool (!out2)), (33, .lst (List.map encT t1.funs) false), (34, .int .i64 ((List.length t1.funs : Nat) : Int)), (35, .int .i64 ((i60 : Nat) : Int))]) (H1 := [(kg02 t1), (kg01 y59)]) (H2 := [(kg02 t1), (kg01 y59)]) rfl (by repeat (first | exact rzz | apply rcc rfl | apply rnn rfl)) rfl (?_ : GL _ _ _ _ _)
            refine L_seq ?_
            refine L_stmtJ (S := Bool) (fun s => [(1, .bool out2), (2, .ptr 0 0), (8, .ptr 1 0), (9, .bool s), (33, .lst (List.map encT t1.funs) false), (34, .int .i64 ((List.length t1.funs : Nat) : Int)), (35, .int .i64 ((i60 : Nat) : Int))]) (fun s => [(kg02 t1), (kg01 y59)]) (fun s => y09 rec y59 (y02 rec t1 out2 rest61 (i60 + 1)) s = some r) ?_ ?_
            · skip
              refine L_seq ?_
              refine L_stmt ?_
              refine L_reg ?_
              refine G_p rfl rfl rfl ?_
              refine G_p rfl rfl rfl ?_
              refine G_h (v := .lst (List.map encT t1.funs) false) rfl rfl rfl (fun _ => rfl) ?_
              refine G_h rfl rfl rfl (lenL_ev rfl (List.length_map _)) ?_
              refine G_p rfl rfl rfl ?_
              refine G_p rfl rfl rfl ?_
              refine G_nil ?_
              refine L_nil ?_
              refine Sm_norm (e2 := [(1, .bool out2), (2, .ptr 0 0), (8, .ptr 1 0), (9, .bool (!out2)), (33, .lst (List.map encT t1.funs) false), (34, .int .i64 ((List.length t1.funs : Nat) : Int)), (35, .int .i64 ((i60 : Nat) : Int)), (47, .bool (decide (((i60 : Nat) : Int) = (IntKind.wrap .i64 (((List.length t1.funs : Nat) : Int) - 1)))))]) (H1 := [(kg02 t1), (kg01 y59)]) (H2 := [(kg02 t1), (kg01 y59)]) rfl (by repeat (first | exact rzz | apply rcc rfl | apply rnn rfl)) rfl (?_ : GL _ _ _ _ _)
              rcases cond_s hr with ⟨hc47, hr⟩ | ⟨hc47, hr⟩
              · refine L_T rfl hc47 ?_
                refine L_reg ?_
                refine G_p rfl rfl rfl ?_
                refine G_p rfl rfl rfl ?_
                refine G_nil ?_
                refine L_nil ?_
                exact Sm_norm (e2 := [(1, .bool out2), (2, .ptr 0 0), (8, .ptr 1 0), (9, .bool out2), (33, .lst (List.map encT t1.funs) false), (34, .int .i64 ((List.length t1.funs : Nat) : Int)), (35, .int .i64 ((i60 : Nat) : Int))]) (H1 := [(kg02 t1), (kg01 y59)]) (H2 := [(kg02 t1), (kg01 y59)]) rfl (by repeat (first | exact rzz | apply rcc rfl | apply rnn rfl)) rfl ⟨out2, rfl, rfl, hr⟩
              · refine L_F rfl hc47 ?_
                refine L_skip ?_
                refine L_nil ?_
                exact Sm_norm (e2 := [(1, .bool out2), (2, .ptr 0 0), (8, .ptr 1 0), (9, .bool (!out2)), (33, .lst (List.map encT t1.funs) false), (34, .int .i64 ((List.length t1.funs : Nat) : Int)), (35, .int .i64 ((i60 : Nat) : Int))]) (H1 := [(kg02 t1), (kg01 y59)]) (H2 := [(kg02 t1), (kg01 y59)]) rfl (by repeat (first | exact rzz | apply rcc rfl | apply rnn rfl)) rfl ⟨(!out2), rfl, rfl, hr⟩
            · rintro b64 hr
              show GL _ _ [(1, .bool out2), (2, .ptr 0 0), (8, .ptr 1 0), (9, .bool b64), (33, .lst (List.map encT t1.funs) false), (34, .int .i64 ((List.length t1.funs : Nat) : Int)), (35, .int .i64 ((i60 : Nat) : Int))] [(kg02 t1), (kg01 y59)] _
              replace hr : y09 rec y59 (y02 rec t1 out2 rest61 (i60 + 1)) b64 = some r := hr
              unfold y09 at hr
              refine L_seq ?_
              refine L_stmt ?_
              refine L_reg ?_
              refine G_h (v := .agg (cT y59)) rfl rfl rfl (fun _ => rfl) ?_
              refine G_p rfl rfl rfl ?_
              obtain ⟨r65, hr65, hr⟩ := bind_s hr
              refine G_c 14 rfl rfl (CA_of (as := [.agg (cT y59), .bool b64]) rfl (hrec _ _ _ hr65)) ?_
              refine G_p rfl rfl rfl ?_
              refine G_nil ?_
              refine L_nil ?_
              refine Sm_norm (e2 := [(1, .bool out2), (2, .ptr 0 0), (33, .lst (List.map encT t1.funs) false), (34, .int .i64 ((List.length t1.funs : Nat) : Int)), (35, .int .i64 ((i60 : Nat) : Int)), (52, .bool (!r65))]) (H1 := [(kg02 t1), (kg01 y59)]) (H2 := [(kg02 t1), (kg01 y59)]) rfl (by repeat (first | exact rzz | apply rcc rfl | apply rnn rfl)) rfl (?_ : GL _ _ _ _ _)
              rcases cond_s hr with ⟨hc52, hr⟩ | ⟨hc52, hr⟩
              · refine L_T rfl hc52 ?_
                refine L_seq ?_
                refine L_reg ?_
                refine G_p rfl rfl rfl ?_
                refine G_nil ?_
                refine L_ret ?_
                refine Blk_ret ?_
                refine Sm_ret ?_
                refine Rd_ret ?_
                refine Blk_ret ?_
                refine Sm_ret ?_
                have hr := some_s hr
                subst hr
                exact ⟨_, rfl, _, rfl, rfl⟩
              · refine L_F rfl hc52 ?_
                refine L_skip ?_
                refine L_nil ?_
                refine Blk_norm (?_ : GL _ _ _ _ _)
                refine L_nil ?_
                refine Sm_norm (e2 := [(1, .bool out2), (2, .ptr 0 0), (33, .lst (List.map encT t1.funs) false), (34, .int .i64 ((List.length t1.funs : Nat) : Int)), (35, .int .i64 ((i60 : Nat) : Int))]) (H1 := [(kg02 t1), (kg01 y59)]) (H2 := [(kg02 t1)]) rfl (by repeat (first | exact rzz | apply rcc rfl | apply rnn rfl)) rfl (?_ : GL _ _ _ _ _)
                refine L_reg ?_
                refine G_v (.int .i64 ((i60 + 1 : Nat) : Int)) rfl rfl rfl (congrArg _ (wrap_next hLq58 hlti60)) ?_
                refine G_p rfl rfl rfl ?_
                refine G_nil ?_
                refine L_nil ?_
                refine Rd_norm ⟨(), ?_, rfl, hr⟩
                show restr _ _ = [(35, .int .i64 (((i60 + 1) : Nat) : Int)), (1, .bool out2), (2, .ptr 0 0), (33, .lst (List.map encT t1.funs) false), (34, .int .i64 ((List.length t1.funs : Nat) : Int))]
                (repeat (first | exact rzz | apply rcc rfl | apply rnn rfl))
        · rintro ⟨⟩ hr
          show GL _ _ [] [(kg02 t1)] _
          replace hr : y0m = some r := hr
          unfold y0m at hr
          refine L_seq ?_
          refine L_reg ?_
          refine G_p rfl rfl rfl ?_
          refine G_nil ?_
          refine L_ret ?_
          have hr := some_s hr
          subst hr
          exact ⟨_, rfl, _, rfl, rfl⟩
noncomputable def y03 : Nat → Ty → Bool → Option Bool
  | 0, _, _ => none
  | n + 1, t1, out2 => y0i (y03 n) t1 out2
theorem y00 : ∀ (n : Nat) {t1 : Ty} {out2 : Bool} {r : Bool} (hr : y03 n t1 out2 = some r), PRes (tabOf tabL) 14 [.agg (cT t1), .bool out2] (.bool r)
  | 0, _, _, _, hr => by cases hr
  | n + 1, _, _, _, hr => y2h (fun _ _ _ h => y00 n h) hr
noncomputable def y10 : Option Bool :=
  some true
noncomputable def y07 (rec : Ty → Bool → Option Bool) (t1 : Ty) (out2 : Bool) : List Ty → Nat → Option Bool
  | [], _ => y10
  | y49 :: rest51, i50 => ((rec y49 (out2 == (decide (((i50 : Nat) : Int) = (IntKind.wrap .i64 (((List.length t1.funs : Nat) : Int) - 1)))))).bind fun r53 => (cond (!r53) (some false) ((y07 rec t1 out2 rest51 (i50 + 1)))))
noncomputable def y0p (rec : Ty → Bool → Option Bool) (t1 : Ty) (out2 : Bool) : Option Bool :=
  (cond (okLen t1.funs) (y07 rec t1 out2 t1.funs 0) none)
noncomputable def y08 (rec : Ty → Bool → Option Bool) (t1 : Ty) (out2 : Bool) : List Ty → Nat → Option Bool
  | [], _ => y0p rec t1 out2
  | y66 :: rest68, i67 => ((rec y66 out2).bind fun r70 => (cond (!r70) (some false) ((y08 rec t1 out2 rest68 (i67 + 1)))))
noncomputable def y16 (rec : Ty → Bool → Option Bool) (t1 : Ty) (out2 : Bool) : Option Bool :=
  (cond (out2 && (t1.all || (decide (t1.fn = 2)))) (some false) (cond (okLen t1.pairs) (y08 rec t1 out2 t1.pairs 0) none))
abbrev kg03 (t1 : Ty) : ABlock := .cells [.bool t1.all, .int .i64 t1.flat, .int .i64 t1.pair, .lst (List.map encT t1.pairs) false, .int .i64 t1.fn, .lst (List.map encT t1.funs) false]
theorem y3c {rec : Ty → Bool → Option Bool} {t1 : Ty} {out2 : Bool} {r : Bool} (hrec : ∀ (a0 : Ty) (a1 : Bool) (r : Bool), rec a0 a1 = some r → PRes (tabOf tabL) 15 [.agg (cT a0), .bool a1] (.bool r)) (hr : y16 rec t1 out2 = some r) : PRes (tabOf tabL) 15 [.agg (cT t1), .bool out2] (.bool r) := by
  refine pres_fin t15 ?_
  unfold y16 at hr
  refine L_seq ?_
  refine L_stmt ?_
  refine L_reg ?_
  refine G_n (B := (kg03 t1)) rfl rfl rfl ?_
  refine G_p rfl rfl rfl ?_
  refine G_nil ?_
  refine L_nil ?_
  refine Sm_norm (e2 := [(1, .bool out2), (2, .ptr 0 0)]) (H1 := [(kg03 t1)]) (H2 := [(kg03 t1)]) rfl (by repeat (first | exact rzz | apply rcc rfl | apply rnn rfl)) rfl (?_ : GL _ _ _ _ _)
  refine L_seq ?_
  refine L_stmt ?_
  refine L_seq ?_
  refine L_stmt ?_
  refine L_reg ?_
  refine G_p rfl rfl rfl ?_
  refine G_p rfl rfl rfl ?_
  refine G_and (f := (t1.all || (decide (t1.fn = 2)))) [_, _, _, _, _, _, _] rfl rfl ?_ ?_
  · intro hb8
    refine G_p rfl rfl rfl ?_
    refine G_h rfl rfl rfl (fun _ => rfl) ?_
    refine G_p rfl rfl rfl ?_
    refine G_or (f := (decide (t1.fn = 2))) [_, _, _] rfl rfl ?_ ?_
    · intro hb11
      refine G_p rfl rfl rfl ?_
      refine G_h rfl rfl rfl (fun _ => rfl) ?_
      refine G_p rfl rfl rfl ?_
      exact G_nil (L_nil ⟨rfl, rfl, rfl⟩)
    · intro vs hvs
      obtain ⟨u12, u13, u14, rfl⟩ := len3 hvs
      dsimp only [junk]
      exact G_nil (L_nil ⟨rfl, rfl, rfl⟩)
  · intro vs hvs
    obtain ⟨u9, u10, u11, u12, u13, u14, u15, rfl⟩ := len7 hvs
    dsimp only [junk]
    refine G_nil ?_
    refine L_nil ?_
    refine Sm_norm (e2 := [(1, .bool out2), (2, .ptr 0 0), (16, .bool (out2 && (t1.all || (decide (t1.fn = 2)))))]) (H1 := [(kg03 t1)]) (H2 := [(kg03 t1)]) rfl (by repeat (first | exact rzz | apply rcc rfl | apply rnn rfl)) rfl (?_ : GL _ _ _ _ _)
    rcases cond_s hr with ⟨hc16, hr⟩ | ⟨hc16, hr⟩
    · refine L_T rfl hc16 ?_
      refine L_seq ?_
      refine L_reg ?_
      refine G_p rfl rfl rfl ?_
      refine G_nil ?_
      refine L_ret ?_
      refine Sm_ret ?_
      have hr := some_s hr
      subst hr
      exact ⟨_, rfl, _, rfl, rfl⟩
    · refine L_F rfl hc16 ?_
      refine L_skip ?_
      refine L_nil ?_
      refine Sm_norm (e2 := [(1, .bool out2), (2, .ptr 0 0)]) (H1 := [(kg03 t1)]) (H2 := [(kg03 t1)]) rfl (by repeat (first | exact rzz | apply rcc rfl | apply rnn rfl)) rfl (?_ : GL _ _ _ _ _)
      refine L_seq ?_
      refine L_stmtJ (S := Unit) (fun s => [(1, .bool out2), (2, .ptr 0 0)]) (fun s => [(kg03 t1)]) (fun s => y0p rec t1 out2 = some r) ?_ ?_
      · skip
        refine L_seq ?_
        refine L_stmt ?_
        refine L_reg ?_
        refine G_p rfl rfl rfl ?_
        refine G_nil ?_
        refine L_nil ?_
        refine Sm_norm (e2 := [(1, .bool out2), (2, .ptr 0 0), (5, .int .i64 0)]) (H1 := [(kg03 t1)]) (H2 := [(kg03 t1)]) rfl (by repeat (first | exact rzz | apply rcc rfl | apply rnn rfl)) rfl (?_ : GL _ _ _ _ _)
        refine L_block ?_
        obtain ⟨hLq65, hr⟩ := guard_s hr
        replace hLq65 := okLen_s hLq65
        refine L_range (X := Ty) (S := Unit) t1.pairs (fun i67 s => [(5, .int .i64 ((i67 : Nat) : Int)), (1, .bool out2), (2, .ptr 0 0)]) (fun i67 s => [(kg03 t1)]) (fun rest i67 s => y08 rec t1 out2 rest i67 = some r) (()) ?_ rfl hr ?_ ?_
        · show restr _ _ = [(5, .int .i64 ((0 : Nat) : Int)), (1, .bool out2), (2, .ptr 0 0)]
          (repeat (first | exact rzz | apply rcc rfl | apply rnn rfl))
        · rintro ⟨⟩ hr
          show GL _ _ [(5, .int .i64 (((List.length t1.pairs) : Nat) : Int)), (1, .bool out2), (2, .ptr 0 0)] [(kg03 t1)] _
          replace hr : y08 rec t1 out2 [] (List.length t1.pairs) = some r := hr
          rw [y08] at hr
          refine L_seq ?_
          refine L_stmt ?_
          refine L_seq ?_
          refine L_stmt ?_
          refine L_reg ?_
          refine G_p rfl rfl rfl ?_
          refine G_p rfl rfl rfl ?_
          refine G_h (v := .lst (List.map encT t1.pairs) false) rfl rfl rfl (fun _ => rfl) ?_
          refine G_h rfl rfl rfl (lenL_ev rfl (List.length_map _)) ?_
          refine G_v (.bool false) rfl rfl rfl (congrArg AVal.bool (decide_eq_false (by omega))) ?_
          refine G_nil ?_
          refine L_nil ?_
          refine Sm_norm (e2 := [(1, .bool out2), (2, .ptr 0 0), (5, .int .i64 ((List.length t1.pairs : Nat) : Int)), (21, .bool false)]) (H1 := [(kg03 t1)]) (H2 := [(kg03 t1)]) rfl (by repeat (first | exact rzz | apply rcc rfl | apply rnn rfl)) rfl (?_ : GL _ _ _ _ _)
          refine L_F rfl rfl ?_
          refine L_exit ?_
          refine Sm_exit ?_
          refine Rd_exit ?_
          refine Blk_exit (?_ : GL _ _ _ _ _)
          refine L_nil ?_
          exact Sm_norm (e2 := [(1, .bool out2), (2, .ptr 0 0)]) (H1 := [(kg03 t1)]) (H2 := [(kg03 t1)]) rfl (by repeat (first | exact rzz | apply rcc rfl | apply rnn rfl)) rfl ⟨(), rfl, rfl, hr⟩
        · rintro y66 rest68 i67 ⟨⟩ hy66 hlti67 hr
          show GL _ _ [(5, .int .i64 ((i67 : Nat) : Int)), (1, .bool out2), (2, .ptr 0 0)] [(kg03 t1)] _
          replace hr : y08 rec t1 out2 (y66 :: rest68) i67 = some r := hr
          rw [y08] at hr
          refine L_seq ?_
          refine L_stmt ?_
          refine L_seq ?_
          refine L_stmt ?_
          refine L_reg ?_
          refine G_p rfl rfl rfl ?_
          refine G_p rfl rfl rfl ?_
          refine G_h (v := .lst (List.map encT t1.pairs) false) rfl rfl rfl (fun _ => rfl) ?_
          refine G_h rfl rfl rfl (lenL_ev rfl (List.length_map _)) ?_
          refine G_v (.bool true) rfl rfl rfl (congrArg AVal.bool (decide_eq_true (by omega))) ?_
          refine G_nil ?_
          refine L_nil ?_
          refine Sm_norm (e2 := [(1, .bool out2), (2, .ptr 0 0), (5, .int .i64 ((i67 : Nat) : Int)), (21, .bool true)]) (H1 := [(kg03 t1)]) (H2 := [(kg03 t1)]) rfl (by repeat (first | exact rzz | apply rcc rfl | apply rnn rfl)) rfl (?_ : GL _ _ _ _ _)
          refine L_T rfl rfl ?_
          refine L_skip ?_
          refine L_nil ?_
          refine Sm_norm (e2 := [(1, .bool out2), (2, .ptr 0 0), (5, .int .i64 ((i67 : Nat) : Int))]) (H1 := [(kg03 t1)]) (H2 := [(kg03 t1)]) rfl (by repeat (first | exact rzz | apply rcc rfl | apply rnn rfl)) rfl (?_ : GL _ _ _ _ _)
          refine L_seq ?_
          refine L_stmt ?_
          refine L_block ?_
          refine L_seq ?_
          refine L_stmt ?_
          refine L_reg ?_
          refine G_p rfl rfl rfl ?_
          refine G_h (v := .lst (List.map encT t1.pairs) false) rfl rfl rfl (fun _ => rfl) ?_
          refine G_p rfl rfl rfl ?_
          refine G_h (v := .ro [.bool y66.all, .int .i64 y66.flat, .int .i64 y66.pair, .lst (List.map encT y66.pairs) false, .int .i64 y66.fn, .lst (List.map encT y66.funs) false]) rfl rfl rfl (ia_ev (cells := [.bool y66.all, .int .i64 y66.flat, .int .i64 y66.pair, .lst (List.map encT y66.pairs) false, .int .i64 y66.fn, .lst (List.map encT y66.funs) false]) rfl rfl (Int.natCast_nonneg _) (map_get (x := y66) (by rw [Int.toNat_natCast]; exact hy66)) (encT_flat _) rfl) ?_
          refine G_h (v := .agg (cT y66)) rfl rfl rfl (fun _ => rfl) ?_
          refine G_p rfl rfl rfl ?_
          obtain ⟨r70, hr70, hr⟩ := bind_s hr
          refine G_c 15 rfl rfl (CA_of (as := [.agg (cT y66), .bool out2]) rfl (hrec _ _ _ hr70)) ?_
          refine G_p rfl rfl rfl ?_
          refine G_nil ?_
          refine L_nil ?_
          refine Sm_norm (e2 := [(1, .bool out2), (2, .ptr 0 0), (5, .int .i64 ((i67 : Nat) : Int)), (31, .bool (!r70))]) (H1 := [(kg03 t1)]) (H2 := [(kg03 t1)]) rfl (by repeat (first | exact rzz | apply rcc rfl | apply rnn rfl)) rfl (?_ : GL _ _ _ _ _)
          rcases cond_s hr with ⟨hc31, hr⟩ | ⟨hc31, hr⟩
          · refine L_T rfl hc31 ?_
            refine L_seq ?_
            refine L_reg ?_
            refine G_p rfl rfl rfl ?_
            refine G_nil ?_
            refine L_ret ?_
            refine Blk_ret ?_
            refine Sm_ret ?_
            refine Rd_ret ?_
            refine Blk_ret ?_
            refine Sm_ret ?_
            have hr := some_s hr
            subst hr
            exact ⟨_, rfl, _, rfl, rfl⟩
          · refine L_F rfl hc31 ?_
            refine L_skip ?_
            refine L_nil ?_
            refine Blk_norm (?_ : GL _ _ _ _ _)
            refine L_nil ?_
            refine Sm_norm (e2 := [(1, .bool out2), (2, .ptr 0 0), (5, .int .i64 ((i67 : Nat) : Int))]) (H1 := [(kg03 t1)]) (H2 := [(kg03 t1)]) rfl (by repeat (first | exact rzz | apply rcc rfl | apply rnn rfl)) rfl (?_ : GL _ _ _ _ _)
            refine L_reg ?_
            refine G_p rfl rfl rfl ?_
            refine G_v (.int .i64 ((i67 + 1 : Nat) : Int)) rfl rfl rfl (congrArg _ (wrap_next hLq65 hlti67)) ?_
            refine G_p rfl rfl rfl ?_
            refine G_nil ?_
            refine L_nil ?_
            refine Rd_norm ⟨(), ?_, rfl, hr⟩
            show restr _ _ = [(5, .int .i64 (((i67 + 1) : Nat) : Int)), (1, .bool out2), (2, .ptr 0 0)]
            (repeat (first | exact rzz | apply rcc rfl | apply rnn rfl))
      · rintro ⟨⟩ hr
        show GL _ _ [(1, .bool out2), (2, .ptr 0 0)] [(kg03 t1)] _
        replace hr : y0p rec t1 out2 = some r := hr
        unfold y0p at hr
        refine L_seq ?_
        refine L_stmtJ (S := Unit) (fun s => []) (fun s => [(kg03 t1)]) (fun s => y10 = some r) ?_ ?_
        · skip
          refine L_seq ?_
          refine L_stmt ?_
          refine L_reg ?_
          refine G_p rfl rfl rfl ?_
          refine G_nil ?_
          refine L_nil ?_
          refine Sm_norm (e2 := [(1, .bool out2), (2, .ptr 0 0), (6, .int .i64 0)]) (H1 := [(kg03 t1)]) (H2 := [(kg03 t1)]) rfl (by repeat (first | exact rzz | apply rcc rfl | apply rnn rfl)) rfl (?_ : GL _ _ _ _ _)
          refine L_block ?_
          obtain ⟨hLq48, hr⟩ := guard_s hr
          replace hLq48 := okLen_s hLq48
          refine L_range (X := Ty) (S := Unit) t1.funs (fun i50 s => [(6, .int .i64 ((i50 : Nat) : Int)), (1, .bool out2), (2, .ptr 0 0)]) (fun i50 s => [(kg03 t1)]) (fun rest i50 s => y07 rec t1 out2 rest i50 = some r) (()) ?_ rfl hr ?_ ?_
          · show restr _ _ = [(6, .int .i64 ((0 : Nat) : Int)), (1, .bool out2), (2, .ptr 0 0)]
            (repeat (first | exact rzz | apply rcc rfl | apply rnn rfl))
          · rintro ⟨⟩ hr
            show GL _ _ [(6, .int .i64 (((List.length t1.funs) : Nat) : Int)), (1, .bool out2), (2, .ptr 0 0)] [(kg03 t1)] _
            replace hr : y07 rec t1 out2 [] (List.length t1.funs) = some r := hr
            rw [y07] at hr
            refine L_seq ?_
            refine L_stmt ?_
            refine L_seq ?_
            refine L_stmt ?_
            refine L_reg ?_
            refine G_p rfl rfl rfl ?_
            refine G_p rfl rfl rfl ?_
            refine G_h (v := .lst (List.map encT t1.funs) false) rfl rfl rfl (fun _ => rfl) ?_
            refine G_h rfl rfl rfl (lenL_ev rfl (List.length_map _)) ?_
            refine G_v (.bool false) rfl rfl rfl (congrArg AVal.bool (decide_eq_false (by omega))) ?_
            refine G_nil ?_
            refine L_nil ?_
            refine Sm_norm (e2 := [(1, .bool out2), (2, .ptr 0 0), (6, .int .i64 ((List.length t1.funs : Nat) : Int)), (36, .bool false)]) (H1 := [(kg03 t1)]) (H2 := [(kg03 t1)]) rfl (by repeat (first | exact rzz | apply rcc rfl | apply rnn rfl)) rfl (?_ : GL _ _ _ _ _)
            refine L_F rfl rfl ?_
            refine L_exit ?_
            refine Sm_exit ?_
            refine Rd_exit ?_
            refine Blk_exit (?_ : GL _ _ _ _ _)
            refine L_nil ?_
            exact Sm_norm (e2 := []) (H1 := [(kg03 t1)]) (H2 := [(kg03 t1)]) rfl (by repeat (first | exact rzz | apply rcc rfl | apply rnn rfl)) rfl ⟨(), rfl, rfl, hr⟩
          · rintro y49 rest51 i50 ⟨⟩ hy49 hlti50 hr
            show GL _ _ [(6, .int .i64 ((i50 : Nat) : Int)), (1, .bool out2), (2, .ptr 0 0)] [(kg03 t1)] _
            replace hr : y07 rec t1 out2 (y49 :: rest51) i50 = some r := hr
            rw [y07] at hr
            refine L_seq ?_
            refine L_stmt ?_
            refine L_seq ?_
            refine L_stmt ?_
            refine L_reg ?_
            refine G_p rfl rfl rfl ?_
            refine G_p rfl rfl rfl ?_
            refine G_h (v := .lst (List.map encT t1.funs) false) rfl rfl rfl (fun _ => rfl) ?_
            refine G_h rfl rfl rfl (lenL_ev rfl (List.length_map _)) ?_
            refine G_v (.bool true) rfl rfl rfl (congrArg AVal.bool (decide_eq_true (by omega))) ?_
            refine G_nil ?_
            refine L_nil ?_
            refine Sm_norm (e2 := [(1, .bool out2), (2, .ptr 0 0), (6, .int .i64 ((i50 : Nat) : Int)), (36, .bool true)]) (H1 := [(kg03 t1)]) (H2 := [(kg03 t1)]) rfl (by repeat (first | exact rzz | apply rcc rfl | apply rnn rfl)) rfl (?_ : GL _ _ _ _ _)
            refine L_T rfl rfl ?_
            refine L_skip ?_
            refine L_nil ?_
            refine Sm_norm (e2 := [(1, .bool out2), (2, .ptr 0 0), (6, .int .i64 ((i50 : Nat) : Int))]) (H1 := [(kg03 t1)]) (H2 := [(kg03 t1)]) rfl (by repeat (first | exact rzz | apply rcc rfl | apply rnn rfl)) rfl (?_ : GL _ _ _ _ _)
            refine L_seq ?_
            refine L_stmt ?_
            refine L_block ?_
            refine L_seq ?_
            refine L_stmt ?_
            refine L_drawS (ops := [_, _, _, _, _, _, _, _, _, _, _, _, _, _, _]) rfl rfl ?_
            refine G_p rfl rfl rfl ?_
            refine G_h (v := .lst (List.map encT t1.funs) false) rfl rfl rfl (fun _ => rfl) ?_
            refine G_p rfl rfl rfl ?_
            refine G_h (v := .ro [.bool y49.all, .int .i64 y49.flat, .int .i64 y49.pair, .lst (List.map encT y49.pairs) false, .int .i64 y49.fn, .lst (List.map encT y49.funs) false]) rfl rfl rfl (ia_ev (cells := [.bool y49.all, .int .i64 y49.flat, .int .i64 y49.pair, .lst (List.map encT y49.pairs) false, .int .i64 y49.fn, .lst (List.map encT y49.funs) false]) rfl rfl (Int.natCast_nonneg _) (map_get (x := y49) (by rw [Int.toNat_natCast]; exact hy49)) (encT_flat _) rfl) ?_
            refine G_h (v := .agg (cT y49)) rfl rfl rfl (fun _ => rfl) ?_
            refine G_p rfl rfl rfl ?_
            refine G_p rfl rfl rfl ?_
            refine G_p rfl rfl rfl ?_
            refine G_h (v := .lst (List.map encT t1.funs) false) rfl rfl rfl (fun _ => rfl) ?_
            refine G_h rfl rfl rfl (lenL_ev rfl (List.length_map _)) ?_
            refine G_p rfl rfl rfl ?_
            refine G_p rfl rfl rfl ?_
            refine G_p rfl rfl rfl ?_
            obtain ⟨r53, hr53, hr⟩ := bind_s hr
            refine G_c 15 rfl rfl (CA_of (as := [.agg (cT y49), .bool (out2 == (decide (((i50 : Nat) : Int) = (IntKind.wrap .i64 (((List.length t1.funs : Nat) : Int) - 1)))))]) rfl (hrec _ _ _ hr53)) ?_
            refine G_p rfl rfl rfl ?_
            refine G_nil (L_nil ⟨rfl, ?_⟩)
            refine L_nil ?_
            refine Sm_norm (e2 := [(1, .bool out2), (2, .ptr 0 0), (6, .int .i64 ((i50 : Nat) : Int)), (53, .bool (!r53))]) (H1 := [(kg03 t1)]) (H2 := [(kg03 t1)]) rfl (by repeat (first | exact rzz | apply rcc rfl | apply rnn rfl)) rfl (?_ : GL _ _ _ _ _)
            rcases cond_s hr with ⟨hc53, hr⟩ | ⟨hc53, hr⟩
            · refine L_T rfl hc53 ?_
              refine L_seq ?_
              refine L_reg ?_
              refine G_p rfl rfl rfl ?_
              refine G_nil ?_
              refine L_ret ?_
              refine Blk_ret ?_
              refine Sm_ret ?_
              refine Rd_ret ?_
              refine Blk_ret ?_
              refine Sm_ret ?_
              have hr := some_s hr
              subst hr
              exact ⟨_, rfl, _, rfl, rfl⟩
            · refine L_F rfl hc53 ?_
              refine L_skip ?_
              refine L_nil ?_
              refine Blk_norm (?_ : GL _ _ _ _ _)
              refine L_nil ?_
              refine Sm_norm (e2 := [(1, .bool out2), (2, .ptr 0 0), (6, .int .i64 ((i50 : Nat) : Int))]) (H1 := [(kg03 t1)]) (H2 := [(kg03 t1)]) rfl (by repeat (first | exact rzz | apply rcc rfl | apply rnn rfl)) rfl (?_ : GL _ _ _ _ _)
              refine L_reg ?_
              refine G_p rfl rfl rfl ?_
              refine G_v (.int .i64 ((i50 + 1 : Nat) : Int)) rfl rfl rfl (congrArg _ (wrap_next hLq48 hlti50)) ?_
              refine G_p rfl rfl rfl ?_
              refine G_nil ?_
              refine L_nil ?_
              refine Rd_norm ⟨(), ?_, rfl, hr⟩
              show restr _ _ = [(6, .int .i64 (((i50 + 1) : Nat) : Int)), (1, .bool out2), (2, .ptr 0 0)]
              (repeat (first | exact rzz | apply rcc rfl | apply rnn rfl))
        · rintro ⟨⟩ hr
          show GL _ _ [] [(kg03 t1)] _
          replace hr : y10 = some r := hr
          unfold y10 at hr
          refine L_seq ?_
          refine L_reg ?_
          refine G_p rfl rfl rfl ?_
          refine G_nil ?_
          refine L_ret ?_
          have hr := some_s hr
          subst hr
          exact ⟨_, rfl, _, rfl, rfl⟩
noncomputable def y0j : Nat → Ty → Bool → Option Bool
  | 0, _, _ => none
  | n + 1, t1, out2 => y16 (y0j n) t1 out2
theorem y0o : ∀ (n : Nat) {t1 : Ty} {out2 : Bool} {r : Bool} (hr : y0j n t1 out2 = some r), PRes (tabOf tabL) 15 [.agg (cT t1), .bool out2] (.bool r)
  | 0, _, _, _, hr => by cases hr
  | n + 1, _, _, _, hr => y3c (fun _ _ _ h => y0o n h) hr
noncomputable def y0n (n : Nat) (t1 : Ty) : Option Bool :=
  ((oAwake).bind fun r2 => ((oLightT t1).bind fun r3 => ((cond (!r3) (some true) (((oRightT t1).bind fun r6 => some (!r6)))).bind fun v7 => (cond v7 (some r2) ((oRightT (Ty.mk false 0 0 [] 1 [t1, (Ty.mk false 1 0 [] 0 [])])).bind fun r8 => (cond (!r8) ((cond r2 (((y03 n t1 true).bind fun r12 => ((y0j n t1 true).bind fun r13 => some (r12 == r13)))) (some false)).bind fun v14 => some v14) ((cond r2 (((y03 n t1 true).bind fun r17 => ((y0j n t1 true).bind fun r18 => some (r17 == r18)))) (some false)).bind fun v19 => ((cond v19 (((y03 n t1 false).bind fun r22 => ((y0j n t1 false).bind fun r23 => some (r22 == r23)))) (some false)).bind fun v24 => ((cond v24 (((y03 n (Ty.mk false 0 0 [] 1 [t1, (Ty.mk false 1 0 [] 0 [])]) true).bind fun r27 => ((y03 n t1 false).bind fun r28 => some (r27 == r28)))) (some false)).bind fun v29 => ((cond v29 (((y03 n (Ty.mk false 0 0 [] 1 [t1, (Ty.mk false 1 0 [] 0 [])]) false).bind fun r32 => ((y03 n t1 true).bind fun r33 => some (r32 == r33)))) (some false)).bind fun v34 => some v34))))))))))
abbrev kg04 (t1 : Ty) : ABlock := .cells [.bool t1.all, .int .i64 t1.flat, .int .i64 t1.pair, .lst (List.map encT t1.pairs) false, .int .i64 t1.fn, .lst (List.map encT t1.funs) false]
abbrev kg05 (t1 : Ty) : ABlock := .cells [.bool false, .int .i64 0, .int .i64 0, .lst [] true, .int .i64 1, .lst (List.map encT [t1, (Ty.mk false 1 0 [] 0 [])]) true]
theorem y2e {n : Nat} {t1 : Ty} {r : Bool} (hr : y0n n t1 = some r) : PRes (tabOf tabL) 5 [.agg (cT t1)] (.bool r) := by
  refine pres_fin t5 ?_
  unfold y0n at hr
  refine L_seq ?_
  refine L_stmt ?_
  refine L_reg ?_
  refine G_n (B := (kg04 t1)) rfl rfl rfl ?_
  refine G_p rfl rfl rfl ?_
  refine G_nil ?_
  refine L_nil ?_
  refine Sm_norm (e2 := [(1, .ptr 0 0)]) (H1 := [(kg04 t1)]) (H2 := [(kg04 t1)]) rfl (by repeat (first | exact rzz | apply rcc rfl | apply rnn rfl)) rfl (?_ : GL _ _ _ _ _)
  refine L_seq ?_
  refine L_stmt ?_
  refine L_reg ?_
  obtain ⟨r2, hr2, hr⟩ := bind_s hr
  refine G_c 7 rfl rfl (CA_of (as := []) rfl (oAwake_ok hr2)) ?_
  refine G_p rfl rfl rfl ?_
  refine G_nil ?_
  refine L_nil ?_
  refine Sm_norm (e2 := [(1, .ptr 0 0), (3, .bool r2)]) (H1 := [(kg04 t1)]) (H2 := [(kg04 t1)]) rfl (by repeat (first | exact rzz | apply rcc rfl | apply rnn rfl)) rfl (?_ : GL _ _ _ _ _)
  refine L_seq ?_
  refine L_stmt ?_
  refine L_reg ?_
  refine G_h (v := .agg (cT t1)) rfl rfl rfl (fun _ => rfl) ?_
  obtain ⟨r3, hr3, hr⟩ := bind_s hr
  refine G_c 12 rfl rfl (CA_of (as := [.agg (cT t1)]) rfl (y4v hr3)) ?_
  refine G_p rfl rfl rfl ?_
  refine G_nil ?_
  refine L_nil ?_
  refine Sm_norm (e2 := [(1, .ptr 0 0), (3, .bool r2), (4, .bool r3)]) (H1 := [(kg04 t1)]) (H2 := [(kg04 t1)]) rfl (by repeat (first | exact rzz | apply rcc rfl | apply rnn rfl)) rfl (?_ : GL _ _ _ _ _)
  refine L_seq ?_
  refine L_stmt ?_
  refine L_seq ?_
  refine L_stmt ?_
  refine L_reg ?_
  refine G_p rfl rfl rfl ?_
  refine G_p rfl rfl rfl ?_
  refine G_p rfl rfl rfl ?_
  obtain ⟨v7, hvv7, hr⟩ := bind_s hr
  refine G_pick false [_, _, _] (v := .bool v7) (vo := .bool true) rfl rfl ?_ ?_ rfl ?_
  · intro hb12
    have hr := condF hb12 hvv7
    refine G_h (v := .agg (cT t1)) rfl rfl rfl (fun _ => rfl) ?_
    obtain ⟨r6, hr6, hr⟩ := bind_s hr
    refine G_c 13 rfl rfl (CA_of (as := [.agg (cT t1)]) rfl (y3a hr6)) ?_
    refine G_p rfl rfl rfl ?_
    cases hr; exact G_nil (L_nil ⟨rfl, rfl, rfl⟩)
  · intro hb12; exact pickF hvv7 hb12
  · intro vs hvs
    obtain ⟨u13, u14, u15, rfl⟩ := len3 hvs
    dsimp only [junk]
    refine G_nil ?_
    refine L_nil ?_
    refine Sm_norm (e2 := [(1, .ptr 0 0), (3, .bool r2), (16, .bool v7)]) (H1 := [(kg04 t1)]) (H2 := [(kg04 t1)]) rfl (by repeat (first | exact rzz | apply rcc rfl | apply rnn rfl)) rfl (?_ : GL _ _ _ _ _)
    rcases cond_s hr with ⟨hc16, hr⟩ | ⟨hc16, hr⟩
    · refine L_T rfl hc16 ?_
      refine L_seq ?_
      refine L_reg ?_
      refine G_p rfl rfl rfl ?_
      refine G_p rfl rfl rfl ?_
      refine G_nil ?_
      refine L_ret ?_
      refine Sm_ret ?_
      have hr := some_s hr
      subst hr
      exact ⟨_, rfl, _, rfl, rfl⟩
    · refine L_F rfl hc16 ?_
      refine L_skip ?_
      refine L_nil ?_
      refine Sm_norm (e2 := [(1, .ptr 0 0), (3, .bool r2)]) (H1 := [(kg04 t1)]) (H2 := [(kg04 t1)]) rfl (by repeat (first | exact rzz | apply rcc rfl | apply rnn rfl)) rfl (?_ : GL _ _ _ _ _)
      refine L_seq ?_
      refine L_stmt ?_
      refine L_reg ?_
      refine G_h (v := .agg (cT t1)) rfl rfl rfl (fun _ => rfl) ?_
      refine G_p (v := .agg [.bool false, .int .i64 1, .int .i64 0, .lst [] true, .int .i64 0, .lst [] true]) rfl rfl rfl ?_
      refine G_h (v := .lst (List.map encT [t1, (Ty.mk false 1 0 [] 0 [])]) true) rfl rfl rfl (fun _ => Eq.trans (b := some (Ex.ok (AVal.lst [.agg (cT t1), .agg [.bool false, .int .i64 1, .int .i64 0, .lst [] false, .int .i64 0, .lst [] false]] true), _)) rfl (congrArg (fun z => some (Ex.ok (AVal.lst z true), _)) (by first | rfl | (simp only [List.map_cons, List.map_nil, encT_eq] <;> rfl)))) ?_
      refine G_p (v := .agg [.bool false, .int .i64 0, .int .i64 0, .lst [] true, .int .i64 1, .lst (List.map encT [t1, (Ty.mk false 1 0 [] 0 [])]) true]) rfl rfl rfl ?_
      refine G_n (B := .cells [.bool false, .int .i64 0, .int .i64 0, .lst [] true, .int .i64 0, .lst [] true]) rfl rfl rfl ?_
      refine G_hn (H' := [(kg04 t1), (kg05 t1)]) rfl rfl rfl (fun _ => rfl) ?_
      refine G_nil ?_
      refine L_nil ?_
      refine Sm_norm (e2 := [(1, .ptr 0 0), (3, .bool r2), (5, .ptr 1 0)]) (H1 := [(kg04 t1), (kg05 t1)]) (H2 := [(kg04 t1), (kg05 t1)]) rfl (by repeat (first | exact rzz | apply rcc rfl | apply rnn rfl)) rfl (?_ : GL _ _ _ _ _)
      refine L_seq ?_
      refine L_stmt ?_
      refine L_reg ?_
      refine G_h (v := .agg [.bool false, .int .i64 0, .int .i64 0, .lst [] true, .int .i64 1, .lst (List.map encT [t1, (Ty.mk false 1 0 [] 0 [])]) true]) rfl rfl rfl (fun _ => rfl) ?_
      obtain ⟨r8, hr8, hr⟩ := bind_s hr
      refine G_c 13 rfl rfl (CA_of (as := [.agg (cT (Ty.mk false 0 0 [] 1 [t1, (Ty.mk false 1 0 [] 0 [])]))]) rfl (y3a hr8)) ?_
      refine G_p rfl rfl rfl ?_
      refine G_p rfl rfl rfl ?_
      refine G_nil ?_
      refine L_nil ?_
      refine Sm_norm (e2 := [(1, .ptr 0 0), (3, .bool r2), (5, .ptr 1 0), (6, .bool (!r8))]) (H1 := [(kg04 t1), (kg05 t1)]) (H2 := [(kg04 t1), (kg05 t1)]) rfl (by repeat (first | exact rzz | apply rcc rfl | apply rnn rfl)) rfl (?_ : GL _ _ _ _ _)
      refine L_seq ?_
      refine L_stmt ?_
      refine L_seq ?_
      refine L_stmt ?_
      refine L_reg ?_
      refine G_p rfl rfl rfl ?_
      refine G_nil ?_
      refine L_nil ?_
      refine Sm_norm (e2 := [(1, .ptr 0 0), (3, .bool r2), (5, .ptr 1 0), (25, .bool (!r8))]) (H1 := [(kg04 t1), (kg05 t1)]) (H2 := [(kg04 t1), (kg05 t1)]) rfl (by repeat (first | exact rzz | apply rcc rfl | apply rnn rfl)) rfl (?_ : GL _ _ _ _ _)
      rcases cond_s hr with ⟨hc25, hr⟩ | ⟨hc25, hr⟩
      · refine L_T rfl hc25 ?_
        refine L_seq ?_
        refine L_drawT [] rfl ?_
        refine GS_p rfl rfl rfl ?_
        refine GS_p rfl rfl rfl ?_
        obtain ⟨v14, hvv14, hr⟩ := bind_s hr
        rcases cond_s hvv14 with ⟨hb27, hvv14⟩ | ⟨hb27, hvv14⟩
        · skip
          have hkv14 := hr
          have hr := hvv14
          refine GS_h (d := some 28) (v := .agg (cT t1)) rfl rfl rfl (wt rfl hb27) (fun _ => rfl) ?_
          obtain ⟨r15, hr15, hr⟩ := bind_s hr
          refine GS_c 14 (wt rfl hb27) rfl rfl (CA_of (as := [.agg (cT t1), .bool true]) rfl (y00 n hr15)) ?_
          refine GS_h (d := some 30) (v := .agg (cT t1)) rfl rfl rfl (wt rfl hb27) (fun _ => rfl) ?_
          obtain ⟨r16, hr16, hr⟩ := bind_s hr
          refine GS_c 15 (wt rfl hb27) rfl rfl (CA_of (as := [.agg (cT t1), .bool true]) rfl (y0o n hr16)) ?_
          refine GS_p rfl (wt rfl hb27) rfl ?_
          replace hvv14 := some_s hr
          have hr := hkv14
          refine GS_v (.bool v14) rfl rfl (evP_pickT rfl hb27 rfl) (congrArg AVal.bool hvv14) ?_
          refine GS_p rfl rfl rfl ?_
          refine GS_nil ?_
          refine L_ret ?_
          refine Sm_ret ?_
          have hr := some_s hr
          subst hr
          exact ⟨_, rfl, _, rfl, rfl⟩
        · skip
          refine GS_s (wf rfl hb27) ?_
          refine GS_s (wf rfl hb27) ?_
          refine GS_s (wf rfl hb27) ?_
          refine GS_s (wf rfl hb27) ?_
          refine GS_s (wf rfl hb27) ?_
          replace hvv14 := some_s hvv14
          refine GS_v (.bool v14) rfl rfl (evP_pickF rfl hb27 rfl) (congrArg AVal.bool hvv14) ?_
          refine GS_p rfl rfl rfl ?_
          refine GS_nil ?_
          refine L_ret ?_
          refine Sm_ret ?_
          have hr := some_s hr
          subst hr
          exact ⟨_, rfl, _, rfl, rfl⟩
      · refine L_F rfl hc25 ?_
        refine L_skip ?_
        refine L_nil ?_
        refine Sm_norm (e2 := [(1, .ptr 0 0), (3, .bool r2), (5, .ptr 1 0)]) (H1 := [(kg04 t1), (kg05 t1)]) (H2 := [(kg04 t1), (kg05 t1)]) rfl (by repeat (first | exact rzz | apply rcc rfl | apply rnn rfl)) rfl (?_ : GL _ _ _ _ _)
        refine L_seq ?_
        refine L_drawT [] rfl ?_
        refine GS_p rfl rfl rfl ?_
        refine GS_p rfl rfl rfl ?_
        obtain ⟨v19, hvv19, hr⟩ := bind_s hr
        rcases cond_s hvv19 with ⟨hb35, hvv19⟩ | ⟨hb35, hvv19⟩
        · skip
          have hkv19 := hr
          have hr := hvv19
          refine GS_h (d := some 36) (v := .agg (cT t1)) rfl rfl rfl (wt rfl hb35) (fun _ => rfl) ?_
          obtain ⟨r20, hr20, hr⟩ := bind_s hr
          refine GS_c 14 (wt rfl hb35) rfl rfl (CA_of (as := [.agg (cT t1), .bool true]) rfl (y00 n hr20)) ?_
          refine GS_h (d := some 38) (v := .agg (cT t1)) rfl rfl rfl (wt rfl hb35) (fun _ => rfl) ?_
          obtain ⟨r21, hr21, hr⟩ := bind_s hr
          refine GS_c 15 (wt rfl hb35) rfl rfl (CA_of (as := [.agg (cT t1), .bool true]) rfl (y0o n hr21)) ?_
          refine GS_p rfl (wt rfl hb35) rfl ?_
          replace hvv19 := some_s hr
          have hr := hkv19
          refine GS_v (.bool v19) rfl rfl (evP_pickT rfl hb35 rfl) (congrArg AVal.bool hvv19) ?_
          refine GS_p rfl rfl rfl ?_
          obtain ⟨v24, hvv24, hr⟩ := bind_s hr
          rcases cond_s hvv24 with ⟨hb42, hvv24⟩ | ⟨hb42, hvv24⟩
          · skip
            have hkv24 := hr
            have hr := hvv24
            refine GS_h (d := some 43) (v := .agg (cT t1)) rfl rfl rfl (wt rfl hb42) (fun _ => rfl) ?_
            obtain ⟨r25, hr25, hr⟩ := bind_s hr
            refine GS_c 14 (wt rfl hb42) rfl rfl (CA_of (as := [.agg (cT t1), .bool false]) rfl (y00 n hr25)) ?_
            refine GS_h (d := some 45) (v := .agg (cT t1)) rfl rfl rfl (wt rfl hb42) (fun _ => rfl) ?_
            obtain ⟨r26, hr26, hr⟩ := bind_s hr
            refine GS_c 15 (wt rfl hb42) rfl rfl (CA_of (as := [.agg (cT t1), .bool false]) rfl (y0o n hr26)) ?_
            refine GS_p rfl (wt rfl hb42) rfl ?_
            replace hvv24 := some_s hr
            have hr := hkv24
            refine GS_v (.bool v24) rfl rfl (evP_pickT rfl hb42 rfl) (congrArg AVal.bool hvv24) ?_
            refine GS_p rfl rfl rfl ?_
            obtain ⟨v29, hvv29, hr⟩ := bind_s hr
            rcases cond_s hvv29 with ⟨hb49, hvv29⟩ | ⟨hb49, hvv29⟩
            · skip
              have hkv29 := hr
              have hr := hvv29
              refine GS_h (d := some 50) (v := .agg [.bool false, .int .i64 0, .int .i64 0, .lst [] true, .int .i64 1, .lst (List.map encT [t1, (Ty.mk false 1 0 [] 0 [])]) true]) rfl rfl rfl (wt rfl hb49) (fun _ => rfl) ?_
              obtain ⟨r30, hr30, hr⟩ := bind_s hr
              refine GS_c 14 (wt rfl hb49) rfl rfl (CA_of (as := [.agg (cT (Ty.mk false 0 0 [] 1 [t1, (Ty.mk false 1 0 [] 0 [])])), .bool true]) rfl (y00 n hr30)) ?_
              refine GS_h (d := some 52) (v := .agg (cT t1)) rfl rfl rfl (wt rfl hb49) (fun _ => rfl) ?_
              obtain ⟨r31, hr31, hr⟩ := bind_s hr
              refine GS_c 14 (wt rfl hb49) rfl rfl (CA_of (as := [.agg (cT t1), .bool false]) rfl (y00 n hr31)) ?_
              refine GS_p rfl (wt rfl hb49) rfl ?_
              replace hvv29 := some_s hr
              have hr := hkv29
              refine GS_v (.bool v29) rfl rfl (evP_pickT rfl hb49 rfl) (congrArg AVal.bool hvv29) ?_
              refine GS_p rfl rfl rfl ?_
              obtain ⟨v34, hvv34, hr⟩ := bind_s hr
              rcases cond_s hvv34 with ⟨hb56, hvv34⟩ | ⟨hb56, hvv34⟩
              · skip
                have hkv34 := hr
                have hr := hvv34
                refine GS_h (d := some 57) (v := .agg [.bool false, .int .i64 0, .int .i64 0, .lst [] true, .int .i64 1, .lst (List.map encT [t1, (Ty.mk false 1 0 [] 0 [])]) true]) rfl rfl rfl (wt rfl hb56) (fun _ => rfl) ?_
                obtain ⟨r35, hr35, hr⟩ := bind_s hr
                refine GS_c 14 (wt rfl hb56) rfl rfl (CA_of (as := [.agg (cT (Ty.mk false 0 0 [] 1 [t1, (Ty.mk false 1 0 [] 0 [])])), .bool false]) rfl (y00 n hr35)) ?_
                refine GS_h (d := some 59) (v := .agg (cT t1)) rfl rfl rfl (wt rfl hb56) (fun _ => rfl) ?_
                obtain ⟨r36, hr36, hr⟩ := bind_s hr
                refine GS_c 14 (wt rfl hb56) rfl rfl (CA_of (as := [.agg (cT t1), .bool true]) rfl (y00 n hr36)) ?_
                refine GS_p rfl (wt rfl hb56) rfl ?_
                replace hvv34 := some_s hr
                have hr := hkv34
                refine GS_v (.bool v34) rfl rfl (evP_pickT rfl hb56 rfl) (congrArg AVal.bool hvv34) ?_
                refine GS_p rfl rfl rfl ?_
                refine GS_nil ?_
                refine L_ret ?_
                have hr := some_s hr
                subst hr
                exact ⟨_, rfl, _, rfl, rfl⟩
              · skip
                refine GS_s (wf rfl hb56) ?_
                refine GS_s (wf rfl hb56) ?_
                refine GS_s (wf rfl hb56) ?_
                refine GS_s (wf rfl hb56) ?_
                refine GS_s (wf rfl hb56) ?_
                replace hvv34 := some_s hvv34
                refine GS_v (.bool v34) rfl rfl (evP_pickF rfl hb56 rfl) (congrArg AVal.bool hvv34) ?_
                refine GS_p rfl rfl rfl ?_
                refine GS_nil ?_
                refine L_ret ?_
                have hr := some_s hr
                subst hr
                exact ⟨_, rfl, _, rfl, rfl⟩
            · skip
              refine GS_s (wf rfl hb49) ?_
              refine GS_s (wf rfl hb49) ?_
              refine GS_s (wf rfl hb49) ?_
              refine GS_s (wf rfl hb49) ?_
              refine GS_s (wf rfl hb49) ?_
              replace hvv29 := some_s hvv29
              refine GS_v (.bool v29) rfl rfl (evP_pickF rfl hb49 rfl) (congrArg AVal.bool hvv29) ?_
              refine GS_p rfl rfl rfl ?_
              obtain ⟨v39, hvv39, hr⟩ := bind_s hr
              rcases cond_s hvv39 with ⟨hb56, hvv39⟩ | ⟨hb56, hvv39⟩
              · skip
                have hkv39 := hr
                have hr := hvv39
                refine GS_h (d := some 57) (v := .agg [.bool false, .int .i64 0, .int .i64 0, .lst [] true, .int .i64 1, .lst (List.map encT [t1, (Ty.mk false 1 0 [] 0 [])]) true]) rfl rfl rfl (wt rfl hb56) (fun _ => rfl) ?_
                obtain ⟨r40, hr40, hr⟩ := bind_s hr
                refine GS_c 14 (wt rfl hb56) rfl rfl (CA_of (as := [.agg (cT (Ty.mk false 0 0 [] 1 [t1, (Ty.mk false 1 0 [] 0 [])])), .bool false]) rfl (y00 n hr40)) ?_
                refine GS_h (d := some 59) (v := .agg (cT t1)) rfl rfl rfl (wt rfl hb56) (fun _ => rfl) ?_
                obtain ⟨r41, hr41, hr⟩ := bind_s hr
                refine GS_c 14 (wt rfl hb56) rfl rfl (CA_of (as := [.agg (cT t1), .bool true]) rfl (y00 n hr41)) ?_
                refine GS_p rfl (wt rfl hb56) rfl ?_
                replace hvv39 := some_s hr
                have hr := hkv39
                refine GS_v (.bool v39) rfl rfl (evP_pickT rfl hb56 rfl) (congrArg AVal.bool hvv39) ?_
                refine GS_p rfl rfl rfl ?_
                refine GS_nil ?_
                refine L_ret ?_
                have hr := some_s hr
                subst hr
                exact ⟨_, rfl, _, rfl, rfl⟩
              · skip
                refine GS_s (wf rfl hb56) ?_
                refine GS_s (wf rfl hb56) ?_
                refine GS_s (wf rfl hb56) ?_
                refine GS_s (wf rfl hb56) ?_
                refine GS_s (wf rfl hb56) ?_
                replace hvv39 := some_s hvv39
                refine GS_v (.bool v39) rfl rfl (evP_pickF rfl hb56 rfl) (congrArg AVal.bool hvv39) ?_
                refine GS_p rfl rfl rfl ?_
                refine GS_nil ?_
                refine L_ret ?_
                have hr := some_s hr
                subst hr
                exact ⟨_, rfl, _, rfl, rfl⟩
          · skip
            refine GS_s (wf rfl hb42) ?_
            refine GS_s (wf rfl hb42) ?_
            refine GS_s (wf rfl hb42) ?_
            refine GS_s (wf rfl hb42) ?_
            refine GS_s (wf rfl hb42) ?_
            replace hvv24 := some_s hvv24
            refine GS_v (.bool v24) rfl rfl (evP_pickF rfl hb42 rfl) (congrArg AVal.bool hvv24) ?_
            refine GS_p rfl rfl rfl ?_
            obtain ⟨v44, hvv44, hr⟩ := bind_s hr
            rcases cond_s hvv44 with ⟨hb49, hvv44⟩ | ⟨hb49, hvv44⟩
            · skip
              have hkv44 := hr
              have hr := hvv44
              refine GS_h (d := some 50) (v := .agg [.bool false, .int .i64 0, .int .i64 0, .lst [] true, .int .i64 1, .lst (List.map encT [t1, (Ty.mk false 1 0 [] 0 [])]) true]) rfl rfl rfl (wt rfl hb49) (fun _ => rfl) ?_
              obtain ⟨r45, hr45, hr⟩ := bind_s hr
              refine GS_c 14 (wt rfl hb49) rfl rfl (CA_of (as := [.agg (cT (Ty.mk false 0 0 [] 1 [t1, (Ty.mk false 1 0 [] 0 [])])), .bool true]) rfl (y00 n hr45)) ?_
              refine GS_h (d := some 52) (v := .agg (cT t1)) rfl rfl rfl (wt rfl hb49) (fun _ => rfl) ?_
              obtain ⟨r46, hr46, hr⟩ := bind_s hr
              refine GS_c 14 (wt rfl hb49) rfl rfl (CA_of (as := [.agg (cT t1), .bool false]) rfl (y00 n hr46)) ?_
              refine GS_p rfl (wt rfl hb49) rfl ?_
              replace hvv44 := some_s hr
              have hr := hkv44
              refine GS_v (.bool v44) rfl rfl (evP_pickT rfl hb49 rfl) (congrArg AVal.bool hvv44) ?_
              refine GS_p rfl rfl rfl ?_
              obtain ⟨v49, hvv49, hr⟩ := bind_s hr
              rcases cond_s hvv49 with ⟨hb56, hvv49⟩ | ⟨hb56, hvv49⟩
              · skip
                have hkv49 := hr
                have hr := hvv49
                refine GS_h (d := some 57) (v := .agg [.bool false, .int .i64 0, .int .i64 0, .lst [] true, .int .i64 1, .lst (List.map encT [t1, (Ty.mk false 1 0 [] 0 [])]) true]) rfl rfl rfl (wt rfl hb56) (fun _ => rfl) ?_
                obtain ⟨r50, hr50, hr⟩ := bind_s hr
                refine GS_c 14 (wt rfl hb56) rfl rfl (CA_of (as := [.agg (cT (Ty.mk false 0 0 [] 1 [t1, (Ty.mk false 1 0 [] 0 [])])), .bool false]) rfl (y00 n hr50)) ?_
                refine GS_h (d := some 59) (v := .agg (cT t1)) rfl rfl rfl (wt rfl hb56) (fun _ => rfl) ?_
                obtain ⟨r51, hr51, hr⟩ := bind_s hr
                refine GS_c 14 (wt rfl hb56) rfl rfl (CA_of (as := [.agg (cT t1), .bool true]) rfl (y00 n hr51)) ?_
                refine GS_p rfl (wt rfl hb56) rfl ?_
                replace hvv49 := some_s hr
                have hr := hkv49
                refine GS_v (.bool v49) rfl rfl (evP_pickT rfl hb56 rfl) (congrArg AVal.bool hvv49) ?_
                refine GS_p rfl rfl rfl ?_
                refine GS_nil ?_
                refine L_ret ?_
                have hr := some_s hr
                subst hr
                exact ⟨_, rfl, _, rfl, rfl⟩
              · skip
                refine GS_s (wf rfl hb56) ?_
                refine GS_s (wf rfl hb56) ?_
                refine GS_s (wf rfl hb56) ?_
                refine GS_s (wf rfl hb56) ?_
                refine GS_s (wf rfl hb56) ?_
                replace hvv49 := some_s hvv49
                refine GS_v (.bool v49) rfl rfl (evP_pickF rfl hb56 rfl) (congrArg AVal.bool hvv49) ?_
                refine GS_p rfl rfl rfl ?_
                refine GS_nil ?_
                refine L_ret ?_
                have hr := some_s hr
                subst hr
                exact ⟨_, rfl, _, rfl, rfl⟩
            · skip
              refine GS_s (wf rfl hb49) ?_
              refine GS_s (wf rfl hb49) ?_
              refine GS_s (wf rfl hb49) ?_
              refine GS_s (wf rfl hb49) ?_
              refine GS_s (wf rfl hb49) ?_
              replace hvv44 := some_s hvv44
              refine GS_v (.bool v44) rfl rfl (evP_pickF rfl hb49 rfl) (congrArg AVal.bool hvv44) ?_
              refine GS_p rfl rfl rfl ?_
              obtain ⟨v54, hvv54, hr⟩ := bind_s hr
              rcases cond_s hvv54 with ⟨hb56, hvv54⟩ | ⟨hb56, hvv54⟩
              · skip
                have hkv54 := hr
                have hr := hvv54
                refine GS_h (d := some 57) (v := .agg [.bool false, .int .i64 0, .int .i64 0, .lst [] true, .int .i64 1, .lst (List.map encT [t1, (Ty.mk false 1 0 [] 0 [])]) true]) rfl rfl rfl (wt rfl hb56) (fun _ => rfl) ?_
                obtain ⟨r55, hr55, hr⟩ := bind_s hr
                refine GS_c 14 (wt rfl hb56) rfl rfl (CA_of (as := [.agg (cT (Ty.mk false 0 0 [] 1 [t1, (Ty.mk false 1 0 [] 0 [])])), .bool false]) rfl (y00 n hr55)) ?_
                refine GS_h (d := some 59) (v := .agg (cT t1)) rfl rfl rfl (wt rfl hb56) (fun _ => rfl) ?_
                obtain ⟨r56, hr56, hr⟩ := bind_s hr
                refine GS_c 14 (wt rfl hb56) rfl rfl (CA_of (as := [.agg (cT t1), .bool true]) rfl (y00 n hr56)) ?_
                refine GS_p rfl (wt rfl hb56) rfl ?_
                replace hvv54 := some_s hr
                have hr := hkv54
                refine GS_v (.bool v54) rfl rfl (evP_pickT rfl hb56 rfl) (congrArg AVal.bool hvv54) ?_
                refine GS_p rfl rfl rfl ?_
                refine GS_nil ?_
                refine L_ret ?_
                have hr := some_s hr
                subst hr
                exact ⟨_, rfl, _, rfl, rfl⟩
              · skip
                refine GS_s (wf rfl hb56) ?_
                refine GS_s (wf rfl hb56) ?_
                refine GS_s (wf rfl hb56) ?_
                refine GS_s (wf rfl hb56) ?_
                refine GS_s (wf rfl hb56) ?_
                replace hvv54 := some_s hvv54
                refine GS_v (.bool v54) rfl rfl (evP_pickF rfl hb56 rfl) (congrArg AVal.bool hvv54) ?_
                refine GS_p rfl rfl rfl ?_
                refine GS_nil ?_
                refine L_ret ?_
                have hr := some_s hr
                subst hr
                exact ⟨_, rfl, _, rfl, rfl⟩
        · skip
          refine GS_s (wf rfl hb35) ?_
          refine GS_s (wf rfl hb35) ?_
          refine GS_s (wf rfl hb35) ?_
          refine GS_s (wf rfl hb35) ?_
          refine GS_s (wf rfl hb35) ?_
          replace hvv19 := some_s hvv19
          refine GS_v (.bool v19) rfl rfl (evP_pickF rfl hb35 rfl) (congrArg AVal.bool hvv19) ?_
          refine GS_p rfl rfl rfl ?_
          obtain ⟨v59, hvv59, hr⟩ := bind_s hr
          rcases cond_s hvv59 with ⟨hb42, hvv59⟩ | ⟨hb42, hvv59⟩
          · skip
            have hkv59 := hr
            have hr := hvv59
            refine GS_h (d := some 43) (v := .agg (cT t1)) rfl rfl rfl (wt rfl hb42) (fun _ => rfl) ?_
            obtain ⟨r60, hr60, hr⟩ := bind_s hr
            refine GS_c 14 (wt rfl hb42) rfl rfl (CA_of (as := [.agg (cT t1), .bool false]) rfl (y00 n hr60)) ?_
            refine GS_h (d := some 45) (v := .agg (cT t1)) rfl rfl rfl (wt rfl hb42) (fun _ => rfl) ?_
            obtain ⟨r61, hr61, hr⟩ := bind_s hr
            refine GS_c 15 (wt rfl hb42) rfl rfl (CA_of (as := [.agg (cT t1), .bool false]) rfl (y0o n hr61)) ?_
            refine GS_p rfl (wt rfl hb42) rfl ?_
            replace hvv59 := some_s hr
            have hr := hkv59
            refine GS_v (.bool v59) rfl rfl (evP_pickT rfl hb42 rfl) (congrArg AVal.bool hvv59) ?_
            refine GS_p rfl rfl rfl ?_
            obtain ⟨v64, hvv64, hr⟩ := bind_s hr
            rcases cond_s hvv64 with ⟨hb49, hvv64⟩ | ⟨hb49, hvv64⟩
            · skip
              have hkv64 := hr
              have hr := hvv64
              refine GS_h (d := some 50) (v := .agg [.bool false, .int .i64 0, .int .i64 0, .lst [] true, .int .i64 1, .lst (List.map encT [t1, (Ty.mk false 1 0 [] 0 [])]) true]) rfl rfl rfl (wt rfl hb49) (fun _ => rfl) ?_
              obtain ⟨r65, hr65, hr⟩ := bind_s hr
              refine GS_c 14 (wt rfl hb49) rfl rfl (CA_of (as := [.agg (cT (Ty.mk false 0 0 [] 1 [t1, (Ty.mk false 1 0 [] 0 [])])), .bool true]) rfl (y00 n hr65)) ?_
              refine GS_h (d := some 52) (v := .agg (cT t1)) rfl rfl rfl (wt rfl hb49) (fun _ => rfl) ?_
              obtain ⟨r66, hr66, hr⟩ := bind_s hr
              refine GS_c 14 (wt rfl hb49) rfl rfl (CA_of (as := [.agg (cT t1), .bool false]) rfl (y00 n hr66)) ?_
              refine GS_p rfl (wt rfl hb49) rfl ?_
              replace hvv64 := some_s hr
              have hr := hkv64
              refine GS_v (.bool v64) rfl rfl (evP_pickT rfl hb49 rfl) (congrArg AVal.bool hvv64) ?_
              refine GS_p rfl rfl rfl ?_
              obtain ⟨v69, hvv69, hr⟩ := bind_s hr
              rcases cond_s hvv69 with ⟨hb56, hvv69⟩ | ⟨hb56, hvv69⟩
              · skip
                have hkv69 := hr
                have hr := hvv69
                refine GS_h (d := some 57) (v := .agg [.bool false, .int .i64 0, .int .i64 0, .lst [] true, .int .i64 1, .lst (List.map encT [t1, (Ty.mk false 1 0 [] 0 [])]) true]) rfl rfl rfl (wt rfl hb56) (fun _ => rfl) ?_
                obtain ⟨r70, hr70, hr⟩ := bind_s hr
                refine GS_c 14 (wt rfl hb56) rfl rfl (CA_of (as := [.agg (cT (Ty.mk false 0 0 [] 1 [t1, (Ty.mk false 1 0 [] 0 [])])), .bool false]) rfl (y00 n hr70)) ?_
                refine GS_h (d := some 59) (v := .agg (cT t1)) rfl rfl rfl (wt rfl hb56) (fun _ => rfl) ?_
                obtain ⟨r71, hr71, hr⟩ := bind_s hr
                refine GS_c 14 (wt rfl hb56) rfl rfl (CA_of (as := [.agg (cT t1), .bool true]) rfl (y00 n hr71)) ?_
                refine GS_p rfl (wt rfl hb56) rfl ?_
                replace hvv69 := some_s hr
                have hr := hkv69
                refine GS_v (.bool v69) rfl rfl (evP_pickT rfl hb56 rfl) (congrArg AVal.bool hvv69) ?_
                refine GS_p rfl rfl rfl ?_
                refine GS_nil ?_
                refine L_ret ?_
                have hr := some_s hr
                subst hr
                exact ⟨_, rfl, _, rfl, rfl⟩
              · skip
                refine GS_s (wf rfl hb56) ?_
                refine GS_s (wf rfl hb56) ?_
                refine GS_s (wf rfl hb56) ?_
                refine GS_s (wf rfl hb56) ?_
                refine GS_s (wf rfl hb56) ?_
                replace hvv69 := some_s hvv69
                refine GS_v (.bool v69) rfl rfl (evP_pickF rfl hb56 rfl) (congrArg AVal.bool hvv69) ?_
                refine GS_p rfl rfl rfl ?_
                refine GS_nil ?_
                refine L_ret ?_
                have hr := some_s hr
                subst hr
                exact ⟨_, rfl, _, rfl, rfl⟩
            · skip
              refine GS_s (wf rfl hb49) ?_
              refine GS_s (wf rfl hb49) ?_
              refine GS_s (wf rfl hb49) ?_
              refine GS_s (wf rfl hb49) ?_
              refine GS_s (wf rfl hb49) ?_
              replace hvv64 := some_s hvv64
              refine GS_v (.bool v64) rfl rfl (evP_pickF rfl hb49 rfl) (congrArg AVal.bool hvv64) ?_
              refine GS_p rfl rfl rfl ?_
              obtain ⟨v74, hvv74, hr⟩ := bind_s hr
              rcases cond_s hvv74 with ⟨hb56, hvv74⟩ | ⟨hb56, hvv74⟩
              · skip
                have hkv74 := hr
                have hr := hvv74
                refine GS_h (d := some 57) (v := .agg [.bool false, .int .i64 0, .int .i64 0, .lst [] true, .int .i64 1, .lst (List.map encT [t1, (Ty.mk false 1 0 [] 0 [])]) true]) rfl rfl rfl (wt rfl hb56) (fun _ => rfl) ?_
                obtain ⟨r75, hr75, hr⟩ := bind_s hr
                refine GS_c 14 (wt rfl hb56) rfl rfl (CA_of (as := [.agg (cT (Ty.mk false 0 0 [] 1 [t1, (Ty.mk false 1 0 [] 0 [])])), .bool false]) rfl (y00 n hr75)) ?_
                refine GS_h (d := some 59) (v := .agg (cT t1)) rfl rfl rfl (wt rfl hb56) (fun _ => rfl) ?_
                obtain ⟨r76, hr76, hr⟩ := bind_s hr
                refine GS_c 14 (wt rfl hb56) rfl rfl (CA_of (as := [.agg (cT t1), .bool true]) rfl (y00 n hr76)) ?_
                refine GS_p rfl (wt rfl hb56) rfl ?_
                replace hvv74 := some_s hr
                have hr := hkv74
                refine GS_v (.bool v74) rfl rfl (evP_pickT rfl hb56 rfl) (congrArg AVal.bool hvv74) ?_
                refine GS_p rfl rfl rfl ?_
                refine GS_nil ?_
                refine L_ret ?_
                have hr := some_s hr
                subst hr
                exact ⟨_, rfl, _, rfl, rfl⟩
              · skip
                refine GS_s (wf rfl hb56) ?_
                refine GS_s (wf rfl hb56) ?_
                refine GS_s (wf rfl hb56) ?_
                refine GS_s (wf rfl hb56) ?_
                refine GS_s (wf rfl hb56) ?_
                replace hvv74 := some_s hvv74
                refine GS_v (.bool v74) rfl rfl (evP_pickF rfl hb56 rfl) (congrArg AVal.bool hvv74) ?_
                refine GS_p rfl rfl rfl ?_
                refine GS_nil ?_
                refine L_ret ?_
                have hr := some_s hr
                subst hr
                exact ⟨_, rfl, _, rfl, rfl⟩
          · skip
            refine GS_s (wf rfl hb42) ?_
            refine GS_s (wf rfl hb42) ?_
            refine GS_s (wf rfl hb42) ?_
            refine GS_s (wf rfl hb42) ?_
            refine GS_s (wf rfl hb42) ?_
            replace hvv59 := some_s hvv59
            refine GS_v (.bool v59) rfl rfl (evP_pickF rfl hb42 rfl) (congrArg AVal.bool hvv59) ?_
            refine GS_p rfl rfl rfl ?_
            obtain ⟨v79, hvv79, hr⟩ := bind_s hr
            rcases cond_s hvv79 with ⟨hb49, hvv79⟩ | ⟨hb49, hvv79⟩
            · skip
              have hkv79 := hr
              have hr := hvv79
              refine GS_h (d := some 50) (v := .agg [.bool false, .int .i64 0, .int .i64 0, .lst [] true, .int .i64 1, .lst (List.map encT [t1, (Ty.mk false 1 0 [] 0 [])]) true]) rfl rfl rfl (wt rfl hb49) (fun _ => rfl) ?_
              obtain ⟨r80, hr80, hr⟩ := bind_s hr
              refine GS_c 14 (wt rfl hb49) rfl rfl (CA_of (as := [.agg (cT (Ty.mk false 0 0 [] 1 [t1, (Ty.mk false 1 0 [] 0 [])])), .bool true]) rfl (y00 n hr80)) ?_
              refine GS_h (d := some 52) (v := .agg (cT t1)) rfl rfl rfl (wt rfl hb49) (fun _ => rfl) ?_
              obtain ⟨r81, hr81, hr⟩ := bind_s hr
              refine GS_c 14 (wt rfl hb49) rfl rfl (CA_of (as := [.agg (cT t1), .bool false]) rfl (y00 n hr81)) ?_
              refine GS_p rfl (wt rfl hb49) rfl ?_
              replace hvv79 := some_s hr
              have hr := hkv79
              refine GS_v (.bool v79) rfl rfl (evP_pickT rfl hb49 rfl) (congrArg AVal.bool hvv79) ?_
              refine GS_p rfl rfl rfl ?_
              obtain ⟨v84, hvv84, hr⟩ := bind_s hr
              rcases cond_s hvv84 with ⟨hb56, hvv84⟩ | ⟨hb56, hvv84⟩
              · skip
                have hkv84 := hr
                have hr := hvv84
                refine GS_h (d := some 57) (v := .agg [.bool false, .int .i64 0, .int .i64 0, .lst [] true, .int .i64 1, .lst (List.map encT [t1, (Ty.mk false 1 0 [] 0 [])]) true]) rfl rfl rfl (wt rfl hb56) (fun _ => rfl) ?_
                obtain ⟨r85, hr85, hr⟩ := bind_s hr
                refine GS_c 14 (wt rfl hb56) rfl rfl (CA_of (as := [.agg (cT (Ty.mk false 0 0 [] 1 [t1, (Ty.mk false 1 0 [] 0 [])])), .bool false]) rfl (y00 n hr85)) ?_
                refine GS_h (d := some 59) (v := .agg (cT t1)) rfl rfl rfl (wt rfl hb56) (fun _ => rfl) ?_
                obtain ⟨r86, hr86, hr⟩ := bind_s hr
                refine GS_c 14 (wt rfl hb56) rfl rfl (CA_of (as := [.agg (cT t1), .bool true]) rfl (y00 n hr86)) ?_
                refine GS_p rfl (wt rfl hb56) rfl ?_
                replace hvv84 := some_s hr
                have hr := hkv84
                refine GS_v (.bool v84) rfl rfl (evP_pickT rfl hb56 rfl) (congrArg AVal.bool hvv84) ?_
                refine GS_p rfl rfl rfl ?_
                refine GS_nil ?_
                refine L_ret ?_
                have hr := some_s hr
                subst hr
                exact ⟨_, rfl, _, rfl, rfl⟩
              · skip
                refine GS_s (wf rfl hb56) ?_
                refine GS_s (wf rfl hb56) ?_
                refine GS_s (wf rfl hb56) ?_
                refine GS_s (wf rfl hb56) ?_
                refine GS_s (wf rfl hb56) ?_
                replace hvv84 := some_s hvv84
                refine GS_v (.bool v84) rfl rfl (evP_pickF rfl hb56 rfl) (congrArg AVal.bool hvv84) ?_
                refine GS_p rfl rfl rfl ?_
                refine GS_nil ?_
                refine L_ret ?_
                have hr := some_s hr
                subst hr
                exact ⟨_, rfl, _, rfl, rfl⟩
            · skip
              refine GS_s (wf rfl hb49) ?_
              refine GS_s (wf rfl hb49) ?_
              refine GS_s (wf rfl hb49) ?_
              refine GS_s (wf rfl hb49) ?_
              refine GS_s (wf rfl hb49) ?_
              replace hvv79 := some_s hvv79
              refine GS_v (.bool v79) rfl rfl (evP_pickF rfl hb49 rfl) (congrArg AVal.bool hvv79) ?_
              refine GS_p rfl rfl rfl ?_
              obtain ⟨v89, hvv89, hr⟩ := bind_s hr
              rcases cond_s hvv89 with ⟨hb56, hvv89⟩ | ⟨hb56, hvv89⟩
              · skip
                have hkv89 := hr
                have hr := hvv89
                refine GS_h (d := some 57) (v := .agg [.bool false, .int .i64 0, .int .i64 0, .lst [] true, .int .i64 1, .lst (List.map encT [t1, (Ty.mk false 1 0 [] 0 [])]) true]) rfl rfl rfl (wt rfl hb56) (fun _ => rfl) ?_
                obtain ⟨r90, hr90, hr⟩ := bind_s hr
                refine GS_c 14 (wt rfl hb56) rfl rfl (CA_of (as := [.agg (cT (Ty.mk false 0 0 [] 1 [t1, (Ty.mk false 1 0 [] 0 [])])), .bool false]) rfl (y00 n hr90)) ?_
                refine GS_h (d := some 59) (v := .agg (cT t1)) rfl rfl rfl (wt rfl hb56) (fun _ => rfl) ?_
                obtain ⟨r91, hr91, hr⟩ := bind_s hr
                refine GS_c 14 (wt rfl hb56) rfl rfl (CA_of (as := [.agg (cT t1), .bool true]) rfl (y00 n hr91)) ?_
                refine GS_p rfl (wt rfl hb56) rfl ?_
                replace hvv89 := some_s hr
                have hr := hkv89
                refine GS_v (.bool v89) rfl rfl (evP_pickT rfl hb56 rfl) (congrArg AVal.bool hvv89) ?_
                refine GS_p rfl rfl rfl ?_
                refine GS_nil ?_
                refine L_ret ?_
                have hr := some_s hr
                subst hr
                exact ⟨_, rfl, _, rfl, rfl⟩
              · skip
                refine GS_s (wf rfl hb56) ?_
                refine GS_s (wf rfl hb56) ?_
                refine GS_s (wf rfl hb56) ?_
                refine GS_s (wf rfl hb56) ?_
                refine GS_s (wf rfl hb56) ?_
                replace hvv89 := some_s hvv89
                refine GS_v (.bool v89) rfl rfl (evP_pickF rfl hb56 rfl) (congrArg AVal.bool hvv89) ?_
                refine GS_p rfl rfl rfl ?_
                refine GS_nil ?_
                refine L_ret ?_
                have hr := some_s hr
                subst hr
                exact ⟨_, rfl, _, rfl, rfl⟩
end Go.Ev.Seat
namespace Go.Ev
set_option linter.unusedVariables false
set_option linter.unusedSimpArgs false
open Go
def zeroT : Ty := ⟨false, 0, 0, [], 0, []⟩
def allT : Ty := ⟨true, 0, 0, [], 0, []⟩
def listT (x : Ty) : Ty := ⟨false, 16, 2, [x], 0, []⟩
def Rt (t : Ty) : Prop := ∃ d, rightT t d = true
theorem Rt.ok {t : Ty} (h : Rt t) : okT t = true := by
  obtain ⟨d, h⟩ := h
  cases d with
  | zero => rw [y1h] at h; cases h
  | succ d => rw [y0a] at h; simp only [Bool.and_eq_true] at h; exact h.1.1
theorem Rt.pairs {t x : Ty} (h : Rt t) (hx : x ∈ t.pairs) : Rt x := by
  obtain ⟨d, h⟩ := h
  cases d with
  | zero => rw [y1h] at h; cases h
  | succ d => rw [y0a] at h; simp only [Bool.and_eq_true] at h; exact ⟨d, y1w h.1.2 hx⟩
theorem Rt.funs {t x : Ty} (h : Rt t) (hx : x ∈ t.funs) : Rt x := by
  obtain ⟨d, h⟩ := h
  cases d with
  | zero => rw [y1h] at h; cases h
  | succ d => rw [y0a] at h; simp only [Bool.and_eq_true] at h; exact ⟨d, y1w h.2 hx⟩
theorem Rt.list {x : Ty} (h : Rt x) : Rt (listT x) := by
  obtain ⟨d, h⟩ := h
  refine ⟨d + 1, ?_⟩
  rw [y0a]
  simp [listT, okT, Ty.all, Ty.flat, Ty.pair, Ty.pairs, Ty.fn, Ty.funs, pcnt, rightTs, h]
theorem Rt.all : Rt allT := ⟨1, by rfl⟩
theorem Rt.zero : Rt zeroT := ⟨1, by rfl⟩
theorem WfT.flat {t : Ty} (h : WfT t) : -9223372036854775808 ≤ t.flat ∧ t.flat < 9223372036854775808 := by cases h; assumption
theorem WfT.pairs {t x : Ty} (h : WfT t) (hx : x ∈ t.pairs) : WfT x := by cases h with | mk w1 w2 w3 w4 w5 w6 w7 => exact w6 x hx
theorem WfT.funs {t x : Ty} (h : WfT t) (hx : x ∈ t.funs) : WfT x := by cases h with | mk w1 w2 w3 w4 w5 w6 w7 => exact w7 x hx
theorem WfT.list {x : Ty} (h : WfT x) : WfT (listT x) := by
  refine .mk (by simp [listT, Ty.flat]) (by simp [listT, Ty.pair]) (by simp [listT, Ty.fn]) (by simp [listT, Ty.pairs]) (by simp [listT, Ty.funs]) ?_ (by simp [listT, Ty.funs])
  intro y hy
  simp [listT, Ty.pairs] at hy
  subst hy; exact h
theorem WfT.zero : WfT zeroT := .mk (by simp [zeroT, Ty.flat]) (by simp [zeroT, Ty.pair]) (by simp [zeroT, Ty.fn]) (by simp [zeroT, Ty.pairs]) (by simp [zeroT, Ty.funs]) (by simp [zeroT, Ty.pairs]) (by simp [zeroT, Ty.funs])
theorem WfT.allT : WfT allT := .mk (by simp [Ev.allT, Ty.flat]) (by simp [Ev.allT, Ty.pair]) (by simp [Ev.allT, Ty.fn]) (by simp [Ev.allT, Ty.pairs]) (by simp [Ev.allT, Ty.funs]) (by simp [Ev.allT, Ty.pairs]) (by simp [Ev.allT, Ty.funs])
def carT (t : Ty) : Ty := if t.all then t else if t.pair = 0 then zeroT else t.pairs.headD zeroT
def cdrT (t : Ty) : Ty := if t.all then t else if t.pair = 0 then zeroT else if t.pair = 2 then listT (t.pairs.headD zeroT) else (t.pairs[1]?).getD zeroT
def subF (a b : Int) : Bool := a.toNat &&& b.toNat == a.toNat
def subT : Nat → Ty → Ty → Bool
  | 0, _, _ => false
  | k + 1, a, b =>
    if b.all then true
    else if a.all || !subF a.flat b.flat || (!decide (a.pair = 0) && decide (b.pair = 0)) || (!decide (a.fn = 0) && decide (b.fn = 0)) then false
    else
      let is := if a.pair = 0 then true else subT k (carT a) (carT b) && (if a.pair = 2 ∧ b.pair = 2 then true else subT k (cdrT a) (cdrT b))
      if a.fn = 0 ∨ b.fn = 2 then is
      else if a.fn = 2 ∨ b.funs.length ≠ a.funs.length then false
      else is && (List.range (a.funs.length - 1)).all (fun i => subT k (b.funs.getD i zeroT) (a.funs.getD i zeroT)) && subT k (a.funs.getD (a.funs.length - 1) zeroT) (b.funs.getD (a.funs.length - 1) zeroT)
def flatT (f : Int) : Ty := ⟨false, f, 0, [], 0, []⟩
def procT (l : List Ty) : Ty := ⟨false, 0, 0, [], 1, l⟩
theorem WfT.flat_ {f : Int} (h : -9223372036854775808 ≤ f ∧ f < 9223372036854775808) : WfT (flatT f) := .mk h (by simp [flatT, Ty.pair]) (by simp [flatT, Ty.fn]) (by simp [flatT, Ty.pairs]) (by simp [flatT, Ty.funs]) (by simp [flatT, Ty.pairs]) (by simp [flatT, Ty.funs])
theorem WfT.proc_ {l : List Ty} (hl : l.length < 9223372036854775808) (h : ∀ y, y ∈ l → WfT y) : WfT (procT l) := .mk (by simp [procT, Ty.flat]) (by simp [procT, Ty.pair]) (by simp [procT, Ty.fn]) (by simp [procT, Ty.pairs]) hl (by simp [procT, Ty.pairs]) h
end Go.Ev
namespace Go.Ev
set_option linter.unusedVariables false
set_option linter.unusedSimpArgs false
open Go
def S (a b : Ty) : Bool := subT (szT a + szT b) a b
end Go.Ev
namespace Go.Ev.Seat
set_option linter.unusedVariables false
set_option linter.unusedSimpArgs false
open Go Go.Ev
mutual
def safeT : Ty → Bool → Bool
  | .mk al _ _ ps fn gs, out => !(out && (al || decide (fn = 2))) && (safeTs ps out && safeFs gs out)
def safeTs : List Ty → Bool → Bool
  | [], _ => true
  | x :: xs, out => safeT x out && safeTs xs out
def safeFs : List Ty → Bool → Bool
  | [], _ => true
  | x :: xs, out => safeT x (cond xs.isEmpty out (!out)) && safeFs xs out
end
theorem safeT_eq (t : Ty) (out : Bool) : safeT t out = (!(out && (t.all || decide (t.fn = 2))) && (safeTs t.pairs out && safeFs t.funs out)) := by cases t; rfl
theorem cond_and {a : Bool} {b : Bool} : cond (!a) (some false) (some b) = some (a && b) := by cases a <;> rfl
theorem safe_l5 (rec : Ty → Bool → Option Bool) (t : Ty) (out : Bool) (b : Bool) (h4 : y06 rec t out = some b) : ∀ (l : List Ty) (i : Nat), (∀ x, x ∈ l → rec x out = some (safeT x out)) →
    y05 rec t out l i = some (safeTs l out && b)
  | [], i, h => by rw [y05, h4, safeTs, Bool.true_and]
  | x :: xs, i, h => by
    rw [y05, h x (by simp), Option.bind_some, safe_l5 rec t out b h4 xs (i + 1) (fun y hy => h y (List.mem_cons_of_mem _ hy)), cond_and, safeTs, Bool.and_assoc]
theorem len_w {n : Nat} (h : n ≤ 1000000) (hp : 0 < n) : IntKind.wrap .i64 ((n : Int) - 1) = (n : Int) - 1 := by
  obtain ⟨m, rfl⟩ : ∃ m, n = m + 1 := ⟨n - 1, by omega⟩
  have e : (((m + 1 : Nat) : Int) - 1) = ((m : Nat) : Int) := by omega
  rw [e]; simp [IntKind.wrap, IntKind.signed, IntKind.bits]; omega
theorem safe_l2 (rec : Ty → Bool → Option Bool) (t : Ty) (out : Bool) (hl : t.funs.length ≤ 1000000) : ∀ (l : List Ty) (i : Nat), i + l.length = t.funs.length → (∀ x o, x ∈ l → rec x o = some (safeT x o)) →
    y02 rec t out l i = some (safeFs l out)
  | [], i, _, h => by rw [y02, safeFs]; rfl
  | x :: xs, i, hi, h => by
    simp only [List.length_cons] at hi
    have ih := safe_l2 rec t out hl xs (i + 1) (by omega) (fun y o hy => h y o (List.mem_cons_of_mem _ hy))
    rw [y02, ih, len_w hl (by omega), safeFs]
    unfold y09
    cases xs with
    | nil =>
      simp only [List.length_nil] at hi
      rw [decide_eq_true (by omega), cond_true, h x out (by simp), Option.bind_some, cond_and]
      rfl
    | cons y ys =>
      simp only [List.length_cons] at hi
      rw [decide_eq_false (by omega), cond_false, h x (!out) (by simp), Option.bind_some, cond_and]
      rfl
theorem safe_c : ∀ (n : Nat) (t : Ty) (out : Bool), szT t < n → szT t ≤ 1000000 → y03 n t out = some (safeT t out)
  | 0, t, out, h, _ => by omega
  | n + 1, t, out, h, hs => by
    rw [szT_eq] at h hs
    have hp := szTs_len t.pairs
    have hf := szTs_len t.funs
    have e2 := safe_l2 (y03 n) t out (by omega) t.funs 0 (by simp) (fun x o hx => safe_c n x o (by have := szTs_mem hx; omega) (by have := szTs_mem hx; omega))
    have e4 : y06 (y03 n) t out = some (safeFs t.funs out) := by
      rw [y06, okLen_of (by omega), cond_true, e2]
    have e5 := safe_l5 (y03 n) t out _ e4 t.pairs 0 (fun x hx => safe_c n x out (by have := szTs_mem hx; omega) (by have := szTs_mem hx; omega))
    rw [y03, y0i, okLen_of (by omega), cond_true, e5, safeT_eq]
    cases (out && (t.all || decide (t.fn = 2))) <;> rfl
theorem same_l2 (rec : Ty → Bool → Option Bool) (t : Ty) (out : Bool) : ∀ (l : List Ty) (i : Nat), y07 rec t out l i = y02 rec t out l i
  | [], i => by rw [y07, y02]; rfl
  | x :: xs, i => by
    rw [y07, y02, same_l2 rec t out xs (i + 1)]
    unfold y09
    generalize decide (((i : Nat) : Int) = _) = d
    cases d <;> cases out <;> rfl
theorem same_l4 (rec : Ty → Bool → Option Bool) (t : Ty) (out : Bool) : ∀ (l : List Ty) (i : Nat), y08 rec t out l i = y05 rec t out l i
  | [], i => by rw [y08, y05, y0p, y06, same_l2]
  | x :: xs, i => by rw [y08, y05, same_l4 rec t out xs (i + 1)]
theorem same_safe : ∀ (n : Nat) (t : Ty) (out : Bool), y0j n t out = y03 n t out
  | 0, _, _ => rfl
  | n + 1, t, out => by
    have : y0j n = y03 n := by funext a b; exact same_safe n a b
    rw [y0j, y03, y16, y0i, this, same_l4]
theorem safe_fun (t : Ty) (out : Bool) : safeT (Ty.mk false 0 0 [] 1 [t, Ty.mk false 1 0 [] 0 []]) out = safeT t (!out) := by
  simp [safeT, safeTs, safeFs]
theorem msafe_t (t : Ty) (hw : WfT t) : ∃ n, y0n n t = some true := by
  have hwf : WfT (Ty.mk false 0 0 [] 1 [t, Ty.mk false 1 0 [] 0 []]) := by
    refine (WfT.proc_ (l := [t, flatT 1]) (by simp) ?_ : WfT (procT [t, flatT 1]))
    intro x hx
    simp only [List.mem_cons, List.not_mem_nil, or_false] at hx
    rcases hx with rfl | rfl
    · exact hw
    · exact WfT.flat_ (by omega)
  refine ⟨szT t + 10, ?_⟩
  unfold y0n oAwake
  rw [Option.bind_some, oLightT, if_pos hw, Option.bind_some, oRightT, if_pos hw, Option.bind_some, oRightT, if_pos hwf, Option.bind_some]
  by_cases hL : rsz t 60 < 120
  · have hs : szT t = rsz t 60 := rsz_sz t 60 (by omega)
    have hsf : szT (Ty.mk false 0 0 [] 1 [t, Ty.mk false 1 0 [] 0 []]) = szT t + 2 := by simp [szT, szTs]; omega
    simp only [same_safe, safe_c (szT t + 10) t _ (by omega) (by omega), safe_c (szT t + 10) (Ty.mk false 0 0 [] 1 [t, Ty.mk false 1 0 [] 0 []]) _ (by rw [hsf]; omega) (by rw [hsf]; omega), safe_fun, Option.bind_some, decide_eq_true hL, Bool.not_true, Bool.not_false, cond_false, cond_true, beq_self_eq_true]
    cases (decide (rsz t 60 ≤ 300) && rightT t 20)
    · rfl
    · generalize (decide (rsz (Ty.mk false 0 0 [] 1 [t, Ty.mk false 1 0 [] 0 []]) 60 ≤ 300) && rightT (Ty.mk false 0 0 [] 1 [t, Ty.mk false 1 0 [] 0 []]) 20) = q
      cases q <;> rfl
  · rw [decide_eq_false hL]; rfl
theorem msafe (t : Ty) (hw : WfT t) : ∃ n, pcall (tabOf tabL) n 5 [vT t] = some (.ok (.bool true)) := by
  obtain ⟨n, h⟩ := msafe_t t hw
  exact (y2e h).get
end Go.Ev.Seat
namespace Go.Ev
set_option linter.unusedVariables false
set_option linter.unusedSimpArgs false
open Go
def HasT (P : Program) : Nat → TypeId → List AVal → Prop
  | 0, _, _ => False
  | n + 1, t, as => match P.underlying t with
    | some .bool => ∃ b, as = [.bool b]
    | some (.int k) => ∃ i, (Lit.int k i).wf = true ∧ as = [.int k i]
    | some .string => ∃ s : List UInt8, s.length ≤ maxLen ∧ as = [.str s]
    | some (.slice e) => ∃ xs : List AVal, xs.length ≤ maxLen ∧ as = [.lst xs false] ∧ ∀ x, x ∈ xs → HasT P n e x.flat ∧ (aggB P e = some true → ∃ cs, x = .agg cs) ∧ (aggB P e = some false → x.flat = [x])
    | some (.struct fs) => ∃ parts : List (List AVal), parts.length = fs.size ∧ as = parts.flatten ∧ ∀ (i : Nat) (f : Field) (p : List AVal), fs[i]? = some f → parts[i]? = some p → HasT P n f.type p
    | some (.array m e) => ∃ parts : List (List AVal), parts.length = m ∧ as = parts.flatten ∧ ∀ p, p ∈ parts → HasT P n e p
    | some (.pointer e) => as = [.nilp] ∨ ∃ cs, as = [.ro cs] ∧ HasT P n e cs
    | _ => False
def contig (P : Program) : Nat → List Field → Nat → Bool
  | off, [], tot => Nat.beq off tot
  | off, f :: fs, tot => Nat.beq f.offset off && contig P (off + P.cellsOf f.type) fs tot
def plainT (P : Program) (ts : List TypeId) (t : TypeId) : Bool :=
  match P.underlying t with
  | some .bool => true
  | some (.int _) => true
  | some .string => true
  | some (.slice e) => ts.contains e && Nat.ble 1 (P.cellsOf e)
  | some (.struct fs) => contig P 0 fs.toList (P.cellsOf t) && fs.toList.all fun f => ts.contains f.type
  | some (.array m e) => ts.contains e && Nat.beq (P.cellsOf t) (m * P.cellsOf e)
  | some (.pointer e) => ts.contains e && Nat.ble 1 (P.cellsOf e)
  | _ => false
def plainTs (P : Program) (ts : List TypeId) : Bool := ts.all (plainT P ts)
theorem build {α : Type} {Pr : Nat → α → Prop} : ∀ (n : Nat), (∀ i, i < n → ∃ y, Pr i y) → ∃ l : List α, l.length = n ∧ ∀ (i : Nat) (y : α), l[i]? = some y → Pr i y
  | 0, _ => ⟨[], rfl, by simp⟩
  | n + 1, h => by
    obtain ⟨l, h1, h2⟩ := build n (fun i hi => h i (by omega))
    obtain ⟨y, hy⟩ := h n (by omega)
    refine ⟨l ++ [y], by simp [h1], ?_⟩
    intro i z hz
    by_cases hi : i < l.length
    · rw [List.getElem?_append_left hi] at hz; exact h2 i z hz
    · rw [List.getElem?_append_right (by omega)] at hz
      have : i = n := by
        have := (List.getElem?_eq_some_iff.1 hz).1
        simp at this; omega
      subst this
      simp [h1] at hz; subst hz; exact hy
def scal : AVal → Bool
  | .agg _ => false
  | .tup _ => false
  | _ => true
def Flat1 (c : AVal) : Prop := rfree c ∧ scal c = true
theorem Flat1.flat {c : AVal} (h : Flat1 c) : c.flat = [c] := by
  have := h.2
  cases c <;> simp [scal] at this <;> rfl
theorem Flat1.one {Γ : Gh} {c : AVal} {d : Value} (h : Flat1 c) (hr : Rep Γ c d) : d.oneCell' = true := by
  have := h.2
  cases hr <;> first | rfl | (simp [scal] at this; done)
section
variable {H : Type} {enc : TypeId × Value → H} {P : Program} {w : World}
theorem y0q {Γ : Gh} : ∀ {parts : List (List AVal)} {cparts : List (List Value)}, parts.length = cparts.length → (∀ (i : Nat) (p : List AVal) (c : List Value), parts[i]? = some p → cparts[i]? = some c → Reps Γ p c) → Reps Γ parts.flatten cparts.flatten
  | [], [], _, _ => Reps.nil Γ
  | p :: ps, c :: cs, hl, h => by
    simp only [List.flatten_cons]
    exact (h 0 p c rfl rfl).append (y0q (by simpa using hl) fun i p c h1 h2 => h (i + 1) p c (by simpa using h1) (by simpa using h2))
  | [], _ :: _, hl, _ => by simp at hl
  | _ :: _, [], hl, _ => by simp at hl
theorem y2n : ∀ {fs : List Field} {off tot : Nat} {cs : List Value}, contig P off fs tot = true → cs.length = tot → (fs.map fun f => (cs.drop f.offset).take (P.cellsOf f.type)).flatten = cs.drop off
  | [], off, tot, cs, h, hl => by
    have := Nat.eq_of_beq_eq_true (by simpa [contig] using h)
    simp; omega
  | f :: fs, off, tot, cs, h, hl => by
    simp only [contig, Bool.and_eq_true] at h
    have h1 := Nat.eq_of_beq_eq_true h.1
    simp only [List.map_cons, List.flatten_cons]
    rw [y2n h.2 hl, h1, ← List.drop_drop, List.take_append_drop]
theorem y2u {z : Nat} : ∀ {m : Nat} {cs : List Value}, cs.length = m * z → ((List.range m).map fun i => (cs.drop (i * z)).take z).flatten = cs
  | 0, cs, hl => by
    have : cs = [] := List.length_eq_zero_iff.1 (by omega)
    simp [this]
  | m + 1, cs, hl => by
    rw [List.range_succ_eq_map, List.map_cons, List.flatten_cons, List.map_map]
    have h := y2u (z := z) (m := m) (cs := cs.drop z) (by simp [hl, Nat.add_mul])
    have e : ((fun i => (cs.drop (i * z)).take z) ∘ Nat.succ) = fun i => ((cs.drop z).drop (i * z)).take z := by
      funext i
      simp only [Function.comp, List.drop_drop, Nat.succ_eq_add_one, Nat.add_mul, Nat.one_mul]
      rw [Nat.add_comm]
    rw [e, h]
    simp
def mkEl (b : Option Bool) (p : List AVal) : AVal := match b with
  | some false => p.headD .nilp
  | _ => .agg p
theorem y4x {b : Option Bool} {p : List AVal} (h : ∀ c, c ∈ p → rfree c) : rfree (mkEl b p) := by
  unfold mkEl
  split
  · cases p with
    | nil => rfl
    | cons c cs => exact h c (by simp)
  · exact lowL_iff.2 h
theorem y1z {ts : List TypeId} (hp : plainTs P ts = true) {n : Nat} {e : TypeId} {p : List AVal} (he : e ∈ ts) (ha : aggB P e = some false) (h : HasT P n e p) : ∃ c, p = [c] := by
  cases n with
  | zero => cases h
  | succ n =>
    unfold aggB at ha
    unfold HasT at h
    cases hu : P.underlying e with
    | none => rw [hu] at h; cases h
    | some u =>
      rw [hu] at h ha
      cases u <;> simp only [reduceCtorEq] at h ha <;> first | (cases ha; done) | (cases h; done) | skip
      · obtain ⟨b, rfl⟩ := h; exact ⟨_, rfl⟩
      · obtain ⟨i, _, rfl⟩ := h; exact ⟨_, rfl⟩
      · obtain ⟨b, _, rfl⟩ := h; exact ⟨_, rfl⟩
      · rcases h with rfl | ⟨cs, rfl, _⟩ <;> exact ⟨_, rfl⟩
      · obtain ⟨xs, _, rfl, _⟩ := h; exact ⟨_, rfl⟩
theorem mkEl_flat {ts : List TypeId} (hp : plainTs P ts = true) {n : Nat} {e : TypeId} {p : List AVal} (he : e ∈ ts) (h : HasT P n e p) (hf : ∀ c, c ∈ p → Flat1 c) : (mkEl (aggB P e) p).flat = p := by
  unfold mkEl
  split
  · rename_i ha
    obtain ⟨c, rfl⟩ := y1z hp he ha h
    exact (hf c (by simp)).flat
  · rfl
theorem y3q {b : Option Bool} : ∀ {parts : List (List AVal)}, (∀ p, p ∈ parts → (mkEl b p).flat = p) → flatL (parts.map (mkEl b)) = parts.flatten
  | [], _ => rfl
  | p :: ps, h => by
    simp only [List.map_cons, flatL, List.flatten_cons, h p (by simp)]
    rw [y3q fun q hq => h q (by simp [hq])]
theorem y2z {α : Type} {z : Nat} (hz : 0 < z) : ∀ {parts : List (List α)} {j : Nat} {c : α}, (∀ p, p ∈ parts → p.length = z) → parts.flatten[j]? = some c → ∃ p, parts[j / z]? = some p ∧ p[j % z]? = some c
  | [], j, c, _, h => by simp at h
  | p :: ps, j, c, hl, h => by
    have hp := hl p (by simp)
    rw [List.flatten_cons] at h
    by_cases hj : j < z
    · rw [List.getElem?_append_left (by omega)] at h
      rw [Nat.div_eq_of_lt hj, Nat.mod_eq_of_lt hj]
      exact ⟨p, rfl, h⟩
    · rw [List.getElem?_append_right (by omega), hp] at h
      obtain ⟨q, h1, h2⟩ := y2z hz (fun q hq => hl q (by simp [hq])) h
      have e1 : j / z = (j - z) / z + 1 := by
        rw [← Nat.add_div_right _ hz]; congr 1; omega
      have e2 : j % z = (j - z) % z := by
        rw [Nat.mod_eq_sub_mod (by omega)]
      exact ⟨q, by rw [e1]; exact h1, by rw [e2]; exact h2⟩
theorem trod_has {ts : List TypeId} (hp : plainTs P ts = true) : ∀ (n : Nat) (t : TypeId) (cs : List Value) (x : DataW H × List MemPlace), t ∈ ts → DataW.trod enc P w 0 (fun _ => true) true n t cs = some x →
    ∃ as : List AVal, Reps (Gh.all w) as cs ∧ HasT P n t as ∧ ∀ c, c ∈ as → Flat1 c := by
  intro n
  induction n with
  | zero => intro t cs x _ h; simp [DataW.trod] at h
  | succ n ih =>
    intro t cs x ht h
    have hpt := List.all_eq_true.1 hp t ht
    unfold plainT at hpt
    have hT : ∀ as, HasT P (n + 1) t as = HasT P (n + 1) t as := fun _ => rfl
    have single : ∀ (a : AVal) (v : Value), cs = [v] → Rep (Gh.all w) a v → Flat1 a → ∀ Q : List AVal → Prop, Q [a] → ∃ as : List AVal, Reps (Gh.all w) as cs ∧ Q as ∧ ∀ c, c ∈ as → Flat1 c := by
      rintro a v rfl hr hf Q hQ
      exact ⟨[a], Reps.cons hr (Reps.nil _), hQ, by simpa using hf⟩
    split at hpt
    · rename_i hu
      obtain ⟨b, hc, _⟩ := DataW.trod_bool hu h
      simp only [HasT, hu]
      exact single (.bool b) _ hc (.bool b) ⟨rfl, rfl⟩ _ ⟨b, rfl⟩
    · rename_i k hu
      obtain ⟨i, hc, _, hw⟩ := DataW.trod_int hu h
      simp only [HasT, hu]
      exact single (.int k i) _ hc (.int k i) ⟨rfl, rfl⟩ _ ⟨i, hw, rfl⟩
    · rename_i hu
      obtain ⟨s, hc, _, hl⟩ := DataW.trod_string hu h
      simp only [HasT, hu]
      refine single (.str s.data.toList) _ hc ?_ ⟨rfl, rfl⟩ _ ⟨s.data.toList, by rw [Array.length_toList]; exact hl, rfl⟩
      have := Rep.str (Γ := Gh.all w) s.data.toList
      simpa using this
    · rename_i e hu
      simp only [Bool.and_eq_true] at hpt
      have hz : 1 ≤ P.cellsOf e := Nat.le_of_ble_eq_true hpt.2
      have he : e ∈ ts := by simpa using hpt.1
      simp only [HasT, hu]
      rcases DataW.trod_slice hu h with ⟨hc, _⟩ | ⟨a, len, cap, elems, rest, m, hm, hc, _, _, hlc, hmax, hel, hget, _, _⟩
      · exact single (.lst [] false) _ hc (.lstN false) ⟨rfl, rfl⟩ _ ⟨[], by simp, rfl, by simp⟩
      · cases hm
        have each : ∀ i, i < len → ∃ p : List AVal, ∃ ds : List Value, p.length = P.cellsOf e ∧ Reps (Gh.all w) p ds ∧ HasT P n e p ∧ (∀ c, c ∈ p → Flat1 c) ∧ ∀ j, j < P.cellsOf e → w.cell? ((a.add (i * P.cellsOf e)).add j) = ds[j]? := by
          intro i hi
          have h1 := hget i hi
          have hx : elems[i]? = some elems[i] := List.getElem?_eq_getElem (by omega)
          rw [hx] at h1
          obtain ⟨cs', hc1, hc2⟩ := Option.bind_eq_some_iff.1 h1
          obtain ⟨p, h2, h3, h4⟩ := ih e cs' elems[i] he hc2
          obtain ⟨_, hl, hcell⟩ := World.cells?_some hc1
          exact ⟨p, cs', by rw [← h2.1, hl], h2, h3, h4, hcell⟩
        obtain ⟨parts, hpl, hpe⟩ := build len each
        rcases Nat.eq_zero_or_pos len with hl0 | hpos
        · subst hl0
          exact single (.lst [] false) _ hc (.lstE (by simp)) ⟨rfl, rfl⟩ _ ⟨[], by simp, rfl, by simp⟩
        · obtain ⟨blk, off, spot⟩ := a
          have hspot : spot = none := by
            obtain ⟨p, ds, q1, q2, _, _, q3⟩ := each 0 hpos
            have h0 := q3 0 hz
            rw [Nat.zero_mul, Addr.add_zero', Addr.add_zero'] at h0
            cases hx : ds[0]? with
            | none => have := (List.getElem?_eq_none_iff.1 hx); have := q2.1; omega
            | some v => rw [hx] at h0; exact World.cell?_spot h0
          subst hspot
          refine single (.lst (parts.map (mkEl (aggB P e))) false) _ hc ?_ ⟨?_, rfl⟩ _ ⟨parts.map (mkEl (aggB P e)), by simpa [hpl] using Nat.le_trans hlc hmax, rfl, ?_⟩
          · have hfl : ∀ p, p ∈ parts → (mkEl (aggB P e) p).flat = p := by
              intro p hp1
              obtain ⟨i, hi⟩ := List.getElem?_of_mem hp1
              obtain ⟨ds, q1, q2, q3, q4, q5⟩ := hpe i p hi
              exact mkEl_flat hp he q3 q4
            have hlens : ∀ p, p ∈ parts → p.length = P.cellsOf e := by
              intro p hp1
              obtain ⟨i, hi⟩ := List.getElem?_of_mem hp1
              obtain ⟨ds, q1, _⟩ := hpe i p hi
              exact q1
            have hall : ∀ (j : Nat) (c : AVal), parts.flatten[j]? = some c → ∃ d, w.cell? ⟨blk, off + j, none⟩ = some d ∧ Rep (Gh.all w) c d ∧ Flat1 c := by
              intro j c hj
              obtain ⟨p, hp1, hp2⟩ := y2z hz hlens hj
              obtain ⟨ds, q1, q2, q3, q4, q5⟩ := hpe _ p hp1
              obtain ⟨d, hd, hr⟩ := q2.get hp2
              refine ⟨d, ?_, hr, q4 c (List.mem_of_getElem? hp2)⟩
              have h6 := q5 (j % P.cellsOf e) (Nat.mod_lt _ hz)
              rw [Addr.add_lit, Addr.add_lit] at h6
              rw [← hd, ← h6]
              congr 2
              rw [Nat.add_assoc, Nat.mul_comm, Nat.div_add_mod]
            have hflat : flatL (parts.map (mkEl (aggB P e))) = parts.flatten := y3q hfl
            have hlen2 : (parts.map (mkEl (aggB P e))).length = len := by simp [hpl]
            have key := Rep.lst (Γ := Gh.all w) (xs := parts.map (mkEl (aggB P e))) (e := false) (g := blk) (off := off) (cap := cap) (es := P.cellsOf e) (fun j => (w.cell? ⟨blk, off + j, none⟩).getD undef) (by omega) (by simp) ?_ ?_ ?_ ?_ ?_
            · rw [hlen2] at key; exact key
            · intro x hx
              obtain ⟨p, hp1, rfl⟩ := List.mem_map.1 hx
              simp only [AVal.width, hfl p hp1, hlens p hp1]
            · intro x hx
              obtain ⟨p, hp1, rfl⟩ := List.mem_map.1 hx
              obtain ⟨i, hi⟩ := List.getElem?_of_mem hp1
              obtain ⟨ds, q1, q2, q3, q4, q5⟩ := hpe i p hi
              exact y4x (fun c hc => (q4 c hc).1)
            · intro j c hj
              rw [hflat] at hj
              obtain ⟨d, h1, h2, h3⟩ := hall j c hj
              simp only [Gh.all, h1, Option.getD_some]
            · intro j c hj
              rw [hflat] at hj
              obtain ⟨d, h1, h2, h3⟩ := hall j c hj
              simp only [h1, Option.getD_some]
              exact h3.one h2
            · intro j c hj
              rw [hflat] at hj
              obtain ⟨d, h1, h2, h3⟩ := hall j c hj
              simp only [h1, Option.getD_some]
              exact h2
          · rfl
          · intro x hx
            obtain ⟨p, hp1, rfl⟩ := List.mem_map.1 hx
            obtain ⟨i, hi⟩ := List.getElem?_of_mem hp1
            obtain ⟨ds, q1, q2, q3, q4, q5⟩ := hpe i p hi
            have hf := mkEl_flat hp he q3 q4
            refine ⟨by rw [hf]; exact q3, ?_, ?_⟩
            · intro h; exact ⟨p, by rw [h]; rfl⟩
            · intro h
              rw [hf]
              obtain ⟨c, hc1⟩ := y1z hp he h q3
              rw [hc1, h]; rfl
    · rename_i fs hu
      simp only [Bool.and_eq_true] at hpt
      simp only [HasT, hu]
      obtain ⟨xs, m, hm, _, hlen, hxl, hget⟩ := DataW.trod_struct hu h
      cases hm
      have each : ∀ i, i < fs.size → ∃ p : List AVal, ∀ f, fs[i]? = some f → Reps (Gh.all w) p ((cs.drop f.offset).take (P.cellsOf f.type)) ∧ HasT P n f.type p ∧ ∀ c, c ∈ p → Flat1 c := by
        intro i hi
        have hfi : fs[i]? = some fs[i] := Array.getElem?_eq_getElem hi
        have hx : xs[i]? = some xs[i] := List.getElem?_eq_getElem (by omega)
        have hmem : fs[i].type ∈ ts := by
          have := List.all_eq_true.1 hpt.2 fs[i] (by simp)
          simpa using this
        obtain ⟨p, h1, h2, h3⟩ := ih fs[i].type _ xs[i] hmem (by rw [hget i _ hfi, hx])
        exact ⟨p, fun f hf => by rw [hfi] at hf; cases hf; exact ⟨h1, h2, h3⟩⟩
      obtain ⟨parts, hpl, hpe⟩ := build fs.size each
      refine ⟨parts.flatten, ?_, ⟨parts, hpl, rfl, fun i f p hf hp => ((hpe i p hp) f hf).2.1⟩, ?_⟩
      · have := y2n (cs := cs) hpt.1 hlen
        rw [List.drop_zero] at this
        rw [← this]
        refine y0q (by simp [hpl]) ?_
        intro i p c h1 h2
        rw [List.getElem?_map, Option.map_eq_some_iff] at h2
        obtain ⟨f, hf, rfl⟩ := h2
        exact ((hpe i p h1) f (by simpa using hf)).1
      · intro c hc
        obtain ⟨p, hp1, hp2⟩ := List.mem_flatten.1 hc
        obtain ⟨i, hi⟩ := List.getElem?_of_mem hp1
        have hlt : i < fs.size := by rw [← hpl]; exact (List.getElem?_eq_some_iff.1 hi).1
        exact ((hpe i p hi) fs[i] (Array.getElem?_eq_getElem hlt)).2.2 c hp2
    · rename_i m e hu
      simp only [Bool.and_eq_true] at hpt
      simp only [HasT, hu]
      have he : e ∈ ts := by simpa using hpt.1
      have hsz := Nat.eq_of_beq_eq_true hpt.2
      obtain ⟨xs, k, hm, _, hlen, hxl, hget⟩ := DataW.trod_array hu h
      cases hm
      have each : ∀ i, i < m → ∃ p : List AVal, Reps (Gh.all w) p ((cs.drop (i * P.cellsOf e)).take (P.cellsOf e)) ∧ HasT P n e p ∧ ∀ c, c ∈ p → Flat1 c := by
        intro i hi
        have hx : xs[i]? = some xs[i] := List.getElem?_eq_getElem (by omega)
        exact ih e _ xs[i] he (by rw [hget i hi, hx])
      obtain ⟨parts, hpl, hpe⟩ := build m each
      refine ⟨parts.flatten, ?_, ⟨parts, hpl, rfl, ?_⟩, ?_⟩
      · have := y2u (z := P.cellsOf e) (m := m) (cs := cs) (by omega)
        rw [← this]
        refine y0q (by simp [hpl]) ?_
        intro i p c h1 h2
        rw [List.getElem?_map, Option.map_eq_some_iff] at h2
        obtain ⟨j, hj, rfl⟩ := h2
        have hji : j = i := by
          have := List.getElem?_eq_some_iff.1 hj
          obtain ⟨hj1, hj2⟩ := this
          simp at hj2; omega
        subst hji
        exact (hpe j p h1).1
      · intro p hp1
        obtain ⟨i, hi⟩ := List.getElem?_of_mem hp1
        exact (hpe i p hi).2.1
      · intro c hc
        obtain ⟨p, hp1, hp2⟩ := List.mem_flatten.1 hc
        obtain ⟨i, hi⟩ := List.getElem?_of_mem hp1
        exact (hpe i p hi).2.2 c hp2
    · rename_i e hu
      simp only [Bool.and_eq_true] at hpt
      simp only [HasT, hu]
      have hz : 1 ≤ P.cellsOf e := Nat.le_of_ble_eq_true hpt.2
      have he : e ∈ ts := by simpa using hpt.1
      rcases DataW.trod_pointer hu h with ⟨hc, _⟩ | ⟨a, cs', y, m, hm, hc, _, hcells, hy⟩
      · exact single .nilp _ hc .nilp ⟨rfl, rfl⟩ _ (.inl rfl)
      · cases hm
        obtain ⟨p, h1, h2, h3⟩ := ih e cs' y he hy
        obtain ⟨hb, hl, hcell⟩ := World.cells?_some hcells
        have hspot : a.spot = none := by
          have h0 := hcell 0 (by omega)
          rw [Addr.add_zero'] at h0
          cases hx : cs'[0]? with
          | none => have := (List.getElem?_eq_none_iff.1 hx); omega
          | some v => rw [hx] at h0; exact World.cell?_spot h0
        obtain ⟨blk, off, spot⟩ := a
        simp only at hspot
        subst hspot
        refine single (.ro p) _ hc ?_ ⟨rfl, rfl⟩ _ (.inr ⟨p, rfl, h2⟩)
        have hd : ∀ (j : Nat) (c : AVal), p[j]? = some c → ∃ d, cs'[j]? = some d ∧ Rep (Gh.all w) c d ∧ w.cell? ⟨blk, off + j, none⟩ = some d := by
          intro j c hj
          obtain ⟨d, hd, hr⟩ := h1.get hj
          have hlt := (List.getElem?_eq_some_iff.1 hd).1
          refine ⟨d, hd, hr, ?_⟩
          have := hcell j (by omega)
          rw [Addr.add_lit] at this
          rw [this]; exact hd
        refine .ro (fun j => cs'.getD j undef) (fun c hc => (h3 c hc).1) ?_ ?_ ?_
        · intro j c hj
          obtain ⟨d, hd1, hr, hd2⟩ := hd j c hj
          simp only [Gh.all, hd2, List.getD, hd1, Option.getD_some]
        · intro j c hj
          obtain ⟨d, hd1, hr, hd2⟩ := hd j c hj
          simp only [List.getD, hd1, Option.getD_some]
          exact (h3 c (List.mem_of_getElem? hj)).one hr
        · intro j c hj
          obtain ⟨d, hd1, hr, hd2⟩ := hd j c hj
          simp only [List.getD, hd1, Option.getD_some]
          exact hr
    · cases hpt
end
section
variable {H : Type} {enc : TypeId × Value → H} {P : Program} {w : World}
theorem y4p {ts : List TypeId} (hp : plainTs P ts = true) {t : TypeId} {v : Value} {base : Nat} (ht : t ∈ ts) (ha : aggB P t = some false) (hok : Value.okWide P w .any base t v) : v.cells.toList = [v] := by
  have hpt := List.all_eq_true.1 hp t ht
  cases v <;> first | rfl | skip
  exfalso
  unfold aggB at ha
  unfold plainT at hpt
  unfold Value.okWide Cell.okWide Cell.ok at hok
  cases hu : P.underlying t with
  | none => rw [hu] at ha; cases ha
  | some u => rw [hu] at ha hpt hok; cases u <;> simp_all
theorem arg_has {ts : List TypeId} (hp : plainTs P ts = true) {t : TypeId} {v : Value} {d : DataW H} {ps : List MemPlace} {base : Nat} (ht : t ∈ ts) (hok : Value.okWide P w .any base t v)
    (h : DataW.Trod enc P w 0 (fun _ => true) true t v d ps) : ∃ (n : Nat) (as : List AVal), HasT P n t as ∧ (aggB P t = some true → Rep (Gh.all w) (.agg as) v) ∧ (aggB P t = some false → ∃ c, as = [c] ∧ Rep (Gh.all w) c v) := by
  obtain ⟨n, hf⟩ := h
  obtain ⟨as, h1, h2, h3⟩ := trod_has hp n t _ _ ht hf
  refine ⟨n, as, h2, ?_, ?_⟩
  · intro ha
    have hv : ∃ cs, v = .agg cs := by
      unfold Value.okWide at hok
      unfold aggB at ha
      cases hu : P.underlying t with
      | none => rw [hu] at ha; cases ha
      | some u =>
        rw [hu] at ha hok
        cases u <;> simp only [reduceCtorEq, Option.some.injEq, Bool.false_eq_true] at ha
        · obtain ⟨cs, hcs, _⟩ := hok; exact ⟨cs, hcs⟩
        · obtain ⟨cs, hcs, _⟩ := hok; exact ⟨cs, hcs⟩
    obtain ⟨cs, rfl⟩ := hv
    have e : (Value.agg cs).cells.toList = cs.toList := rfl
    rw [e] at h1
    have := Rep.agg (Γ := Gh.all w) h1.1 h1.2 (fun d hd => by
      obtain ⟨i, hi⟩ := List.getElem?_of_mem hd
      have hlt : i < as.length := by rw [← h1.1]; exact (List.getElem?_eq_some_iff.1 hi).1
      have ha' := List.getElem?_eq_getElem hlt
      exact (h3 _ (List.mem_of_getElem? ha')).one (h1.2 i _ _ ha' hi))
    simpa using this
  · intro ha
    have hc := y4p hp ht ha hok
    rw [hc] at h1
    obtain ⟨c, rfl⟩ := y1z hp ht ha h2
    exact ⟨c, rfl, h1.2 0 c v rfl rfl⟩
end
end Go.Ev
namespace Go.Ev
set_option linter.unusedVariables false
set_option linter.unusedSimpArgs false
open Go
theorem dec_list {α : Type} {enc : α → AVal} {Q : α → Prop} : ∀ {xs : List AVal}, (∀ x, x ∈ xs → ∃ y, x = enc y ∧ Q y) → ∃ ys : List α, xs = ys.map enc ∧ ∀ y, y ∈ ys → Q y
  | [], _ => ⟨[], rfl, by simp⟩
  | x :: xs, h => by
    obtain ⟨y, rfl, hy⟩ := h x (by simp)
    obtain ⟨ys, rfl, hys⟩ := dec_list (xs := xs) (fun z hz => h z (List.mem_cons_of_mem _ hz))
    exact ⟨y :: ys, rfl, by simpa using ⟨hy, hys⟩⟩
structure TyP (P : Program) (t s b i : TypeId) : Prop where
  fs : ∃ fs : Array Field, P.underlying t = some (.struct fs) ∧ fs.toList.map (·.type) = [b, i, i, s, i, s]
  sl : P.underlying s = some (.slice t)
  bo : P.underlying b = some .bool
  int : P.underlying i = some (.int .i64)
theorem HasT.bool_of {P : Program} {n : Nat} {t : TypeId} {as : List AVal} (hu : P.underlying t = some .bool) (h : HasT P n t as) : ∃ b, as = [.bool b] := by
  cases n with
  | zero => cases h
  | succ n => unfold HasT at h; rw [hu] at h; exact h
theorem HasT.int_of {P : Program} {n : Nat} {t : TypeId} {k : IntKind} {as : List AVal} (hu : P.underlying t = some (.int k)) (h : HasT P n t as) : ∃ i, (Lit.int k i).wf = true ∧ as = [.int k i] := by
  cases n with
  | zero => cases h
  | succ n => unfold HasT at h; rw [hu] at h; exact h
theorem HasT.slice_of {P : Program} {n : Nat} {t e : TypeId} {as : List AVal} (hu : P.underlying t = some (.slice e)) (h : HasT P (n + 1) t as) :
    ∃ xs : List AVal, xs.length ≤ maxLen ∧ as = [.lst xs false] ∧ ∀ x, x ∈ xs → HasT P n e x.flat ∧ (aggB P e = some true → ∃ cs, x = .agg cs) ∧ (aggB P e = some false → x.flat = [x]) := by
  unfold HasT at h; rw [hu] at h; exact h
theorem HasT.struct_of {P : Program} {n : Nat} {t : TypeId} {fs : Array Field} {l : List TypeId} {as : List AVal} (hu : P.underlying t = some (.struct fs)) (hl : fs.toList.map (·.type) = l) (h : HasT P (n + 1) t as) :
    ∃ parts : List (List AVal), parts.length = l.length ∧ as = parts.flatten ∧ ∀ (i : Nat) (u : TypeId) (p : List AVal), l[i]? = some u → parts[i]? = some p → HasT P n u p := by
  unfold HasT at h; rw [hu] at h
  obtain ⟨parts, h1, h2, h3⟩ := h
  refine ⟨parts, by rw [h1, ← hl]; simp, h2, ?_⟩
  intro i u p hu hp
  rw [← hl, List.getElem?_map, Option.map_eq_some_iff] at hu
  obtain ⟨f, hf, rfl⟩ := hu
  exact h3 i f p (by simpa using hf) hp
theorem i64_wf {i : Int} (h : (Lit.int .i64 i).wf = true) : -9223372036854775808 ≤ i ∧ i < 9223372036854775808 := by
  simp only [Lit.wf, Bool.and_eq_true, IntKind.min, IntKind.max, IntKind.signed, IntKind.bits] at h
  simp at h
  exact ⟨by omega, by omega⟩
theorem ty_dec {P : Program} {t s b i : TypeId} (hP : TyP P t s b i) : ∀ (n : Nat) (as : List AVal), HasT P n t as → ∃ x : Ty, as = cT x ∧ WfT x := by
  obtain ⟨fs, hu, hl⟩ := hP.fs
  have hagg : aggB P t = some true := by unfold aggB; rw [hu]
  intro n
  induction n using Nat.strongRecOn with
  | ind n ih =>
    intro as h
    cases n with
    | zero => cases h
    | succ n =>
      obtain ⟨parts, h1, rfl, h3⟩ := HasT.struct_of hu hl h
      obtain ⟨p0, p1, p2, p3, p4, p5, rfl⟩ := len6 h1
      obtain ⟨v0, rfl⟩ := HasT.bool_of hP.bo (h3 0 b p0 rfl rfl)
      obtain ⟨v1, w1, rfl⟩ := HasT.int_of hP.int (h3 1 i p1 rfl rfl)
      obtain ⟨v2, w2, rfl⟩ := HasT.int_of hP.int (h3 2 i p2 rfl rfl)
      obtain ⟨v4, w4, rfl⟩ := HasT.int_of hP.int (h3 4 i p4 rfl rfl)
      have hs3 := h3 3 s p3 rfl rfl
      have hs5 := h3 5 s p5 rfl rfl
      cases n with
      | zero => cases hs3
      | succ n =>
        have list : ∀ p, HasT P (n + 1) s p → ∃ ys : List Ty, p = [.lst (ys.map encT) false] ∧ ys.length < 9223372036854775808 ∧ ∀ y, y ∈ ys → WfT y := by
          intro p hp
          obtain ⟨xs, k1, rfl, k3⟩ := HasT.slice_of hP.sl hp
          obtain ⟨ys, rfl, hys⟩ := dec_list (enc := encT) (Q := WfT) (xs := xs) (by
            intro x hx
            obtain ⟨q1, q2, _⟩ := k3 x hx
            obtain ⟨cs, rfl⟩ := q2 hagg
            obtain ⟨y, hy, hw⟩ := ih n (by omega) _ q1
            refine ⟨y, ?_, hw⟩
            rw [encT_eq]
            have : cs = cT y := hy
            rw [this])
          refine ⟨ys, rfl, ?_, hys⟩
          rw [List.length_map] at k1
          have : maxLen = 9223372036854775807 := rfl
          omega
        obtain ⟨ys3, rfl, l3, q3⟩ := list p3 hs3
        obtain ⟨ys5, rfl, l5, q5⟩ := list p5 hs5
        exact ⟨⟨v0, v1, v2, ys3, v4, ys5⟩, rfl, .mk (i64_wf w1) (i64_wf w2) (i64_wf w4) l3 l5 q3 q5⟩
end Go.Ev
namespace Go.Ev
set_option linter.unusedVariables false
set_option linter.unusedSimpArgs false
open Go
inductive Co where
  | mk (flat : Nat → Int) (pair plab : Int) (pairs : List Co) (fn flab : Int) (funs : List Co)
namespace Co
def flat : Co → Nat → Int | mk a _ _ _ _ _ _ => a
def pair : Co → Int | mk _ a _ _ _ _ _ => a
def plab : Co → Int | mk _ _ a _ _ _ _ => a
def pairs : Co → List Co | mk _ _ _ a _ _ _ => a
def fn : Co → Int | mk _ _ _ _ a _ _ => a
def flab : Co → Int | mk _ _ _ _ _ a _ => a
def funs : Co → List Co | mk _ _ _ _ _ _ a => a
end Co
def es0 (w i : Nat) : Nat := if i = 0 then 0 else w
end Go.Ev
namespace Go.Ev
set_option linter.unusedVariables false
open Go
inductive Dt where
  | mk (kind : Int) (text : List UInt8) (list : List Dt)
namespace Dt
def kind : Dt → Int | mk a _ _ => a
def text : Dt → List UInt8 | mk _ a _ => a
def list : Dt → List Dt | mk _ _ a => a
end Dt
inductive Tst where
  | mk (op : Int) (var : Int) (tags : Int) (yes : Bool) (of : List Tst)
namespace Tst
def op : Tst → Int | mk a _ _ _ _ => a
def var : Tst → Int | mk _ a _ _ _ => a
def tags : Tst → Int | mk _ _ a _ _ => a
def yes : Tst → Bool | mk _ _ _ a _ => a
def of : Tst → List Tst | mk _ _ _ _ a => a
end Tst
inductive Vl where
  | mk (tag : Int) (of : List Vl)
namespace Vl
def tag : Vl → Int | mk a _ => a
def of : Vl → List Vl | mk _ a => a
end Vl
inductive Bnd where
  | mk (name : List UInt8) (depth : Int) (d : Dt) (row : List Bnd)
namespace Bnd
def name : Bnd → List UInt8 | mk a _ _ _ => a
def depth : Bnd → Int | mk _ a _ _ => a
def d : Bnd → Dt | mk _ _ a _ => a
def row : Bnd → List Bnd | mk _ _ _ a => a
end Bnd
end Go.Ev
