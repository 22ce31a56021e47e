/-
  The functions about coercions: how great one is, and one as the document's.
-/
import Derived.Test.YtbjoldcjbpngaaaTabs
import Derived.Test.YtbjoldcjbpngaaaCoA
import Derived.Test.YtbjoldcjbpngaaaEvU
import Derived.Test.YtbjoldcjbpngaaaEvZB
import Derived.KernelRfl
set_option linter.unusedVariables false
set_option linter.unusedSimpArgs false
namespace Go.Ev.Seat
open Go Go.Ev
set_option maxRecDepth 20000
attribute [local irreducible] pcall callF
theorem shal_c : ∀ (n : Nat) (c : Co) (l : Nat), szC c < n → WfC c → l < 1000 → pcall (tabOf tabL) n 39 [vC c, .int .i64 (l : Nat)] = some (.ok (.bool (shalC c l)))
  | 0, c, l, h, _, _ => by omega
  | n + 1, c, l, h, hw, hl => by
    have ih := shal_c n
    have hp := lenC_pairs c
    have hf := lenC_funs c
    cases hw with | mk w1 w2 w3 w4 w5 w6 w7 w8 w9 =>
    refine pcall_fin t39 ?_
    refine WL_seq ?_
    refine WL_reg ?_
    refine O_n rfl rfl rfl ?_
    refine O_p rfl rfl rfl ?_
    refine WO_nil ?_
    refine WL_seq ?_
    apply WL_prune
    · (repeat (first | exact restr_nil | apply restr_cons rfl | apply restr_none rfl))
    refine WL_seq ?_
    refine WL_seq ?_
    refine WL_reg ?_
    refine O_p rfl rfl rfl ?_
    refine O_p rfl rfl rfl ?_
    refine O_p rfl rfl rfl ?_
    apply O_or [_, _, _, _] rfl rfl (hT := ?hT14) (h := ?hR14)
    case hT14 =>
      intro hb9
      refine O_p rfl rfl rfl ?_
      refine O_h rfl rfl rfl rfl ?_
      refine O_h rfl rfl rfl rfl ?_
      refine O_p rfl rfl rfl ?_
      exact WO_nil (WL_nil ⟨rfl, rfl, rfl⟩)
    case hR14 =>
      intro vs hvs
      obtain ⟨u10, u11, u12, u13, rfl⟩ := len4 hvs
      clear hvs; dsimp only [junk]
      refine O_p rfl rfl rfl ?_
      apply O_or [_, _, _, _] rfl rfl (hT := ?hT20) (h := ?hR20)
      case hT20 =>
        intro hb15
        refine O_p rfl rfl rfl ?_
        refine O_h rfl rfl rfl rfl ?_
        refine O_h rfl rfl rfl rfl ?_
        refine O_p rfl rfl rfl ?_
        exact WO_nil (WL_nil ⟨rfl, rfl, rfl⟩)
      case hR20 =>
        intro vs hvs
        obtain ⟨u16, u17, u18, u19, rfl⟩ := len4 hvs
        clear hvs; dsimp only [junk]
        refine WO_nil ?_
        refine WL_seq ?_
        apply WL_prune
        · (repeat (first | exact restr_nil | apply restr_cons rfl | apply restr_none rfl))
        try clear u10 u11 u12 u13 u16 u17 u18 u19
        refine WL_cond rfl (fun h20 => ?_) (fun h20 => ?_)
        · skip
          have hr : shalC c l = false := by
            cases l with
            | zero => exact shalC_zero c
            | succ l =>
              rw [shalC_succ]; simp at h20; simp; omega
          refine WL_seq ?_
          refine WL_reg ?_
          refine O_p rfl rfl rfl ?_
          refine WO_nil ?_
          refine WL_ret ?_
          exact ⟨_, rfl, _, rfl, by rw [hr]⟩
        · skip
          simp at h20
          obtain ⟨l, rfl⟩ : ∃ e, l = e + 1 := ⟨l - 1, by omega⟩
          have hl1 : IntKind.i64.wrap (((l + 1 : Nat) : Int) - 1) = (l : Int) := by rw [kw_i64_id (by omega) (by omega)]; omega
          have ha : c.pairs.length ≤ 12 := by omega
          have hb : c.funs.length ≤ 12 := by omega
          refine WL_skip ?_
          refine WL_seq ?_
          apply WL_prune
          · (repeat (first | exact restr_nil | apply restr_cons rfl | apply restr_none rfl))
          refine WL_seq ?_
          refine WL_seq ?_
          refine WL_reg ?_
          refine O_p rfl rfl rfl ?_
          refine WO_nil ?_
          refine WL_seq ?_
          apply WL_prune
          · (repeat (first | exact restr_nil | apply restr_cons rfl | apply restr_none rfl))
          refine WL_block ?_
          apply WL_forc (α := Nat) (fun i => [(5, .int .i64 (i : Nat))]) (fun i => i ≤ c.pairs.length ∧ shalCs c.pairs l = shalCs (c.pairs.drop i) l) (fun i => c.pairs.length - i) (0) (he := ?he) (hP := ?hP) (hk := ?hk) (round := ?round)
          case he =>
            (repeat (first | exact restr_nil | apply restr_cons rfl | apply restr_none rfl))
          case hP =>
            exact ⟨by omega, rfl⟩
          case hk =>
            show c.pairs.length - 0 < n; omega
          case round =>
            rintro i ⟨hi, hs⟩
            dsimp only [List.cons_append, List.nil_append] at *
            refine WL_seq ?_
            refine WL_seq ?_
            refine WL_reg ?_
            refine O_p rfl rfl rfl ?_
            refine O_p rfl rfl rfl ?_
            refine O_h rfl rfl rfl rfl ?_
            refine O_h rfl rfl rfl rfl ?_
            refine O_p rfl rfl rfl ?_
            refine WO_nil ?_
            refine WL_seq ?_
            apply WL_prune
            · (repeat (first | exact restr_nil | apply restr_cons rfl | apply restr_none rfl))
            refine WL_cond rfl (fun h25 => ?_) (fun h25 => ?_)
            · skip
              simp at h25
              obtain ⟨x, hx⟩ : ∃ x, (c.pairs)[i]? = some x := ⟨_, List.getElem?_eq_getElem (by omega)⟩
              have hmx := List.mem_of_getElem? hx
              have hsx := szC_pairs hmx
              have hg := drop_of hx
              refine WL_skip ?_
              refine WL_seq ?_
              apply WL_prune
              · (repeat (first | exact restr_nil | apply restr_cons rfl | apply restr_none rfl))
              refine WL_seq ?_
              refine WL_block ?_
              refine WL_seq ?_
              refine WL_reg ?_
              refine O_p rfl rfl rfl ?_
              refine O_h rfl rfl rfl rfl ?_
              refine O_p rfl rfl rfl ?_
              refine O_ia rfl rfl (Int.natCast_nonneg _) (encC_get (i := (i : Nat)) hx) (encC_flat _) rfl ?_
              refine O_h rfl rfl rfl rfl ?_
              refine O_p rfl rfl rfl ?_
              refine O_p rfl rfl rfl ?_
              refine O_c 39 rfl rfl (callA_of rfl (by rw [hl1]; exact ih x l (by omega) (w8 x hmx) (by omega))) ?_
              refine O_p rfl rfl rfl ?_
              refine WO_nil ?_
              refine WL_seq ?_
              apply WL_prune
              · (repeat (first | exact restr_nil | apply restr_cons rfl | apply restr_none rfl))
              refine WL_cond rfl (fun h36 => ?_) (fun h36 => ?_)
              · skip
                have hr : shalC c (l + 1) = false := by
                  simp at h36
                  rw [shalC_succ, hs, hg]; simp [shalCs, h36]
                refine WL_seq ?_
                refine WL_reg ?_
                refine O_p rfl rfl rfl ?_
                refine WO_nil ?_
                refine WL_ret ?_
                refine Blk_ret ?_
                refine RndC_ret ?_
                refine Blk_ret ?_
                exact ⟨_, rfl, _, rfl, by rw [hr]⟩
              · skip
                refine WL_skip ?_
                refine WL_nil ?_
                refine Blk_norm (?_ : WL _ _ _ _ _)
                refine WL_seq ?_
                apply WL_prune
                · (repeat (first | exact restr_nil | apply restr_cons rfl | apply restr_none rfl))
                refine WL_reg ?_
                refine O_p rfl rfl rfl ?_
                refine O_p rfl rfl rfl ?_
                refine O_p rfl rfl rfl ?_
                refine WO_nil ?_
                refine WL_nil ?_
                simp at h36
                refine RndC_norm (i + 1) (by refine ⟨by omega, ?_⟩; rw [hs, hg, shalCs, h36]; rfl) (by show _ < _; omega) ?_ rfl
                · rw [wrap_succ (by omega)]; (repeat (first | exact restr_nil | apply restr_cons rfl | apply restr_none rfl))
            · skip
              have hq : shalCs c.pairs l = true := by
                simp at h25
                rw [hs, List.drop_eq_nil_of_le (by omega)]; rfl
              refine WL_exit ?_
              refine RndC_exit ?_
              refine Blk_exit (?_ : WL _ _ _ _ _)
              refine WL_seq ?_
              apply WL_prune
              · (repeat (first | exact restr_nil | apply restr_cons rfl | apply restr_none rfl))
              refine WL_seq ?_
              refine WL_seq ?_
              refine WL_reg ?_
              refine O_p rfl rfl rfl ?_
              refine WO_nil ?_
              refine WL_seq ?_
              apply WL_prune
              · (repeat (first | exact restr_nil | apply restr_cons rfl | apply restr_none rfl))
              refine WL_block ?_
              apply WL_forc (α := Nat) (fun i => [(6, .int .i64 (i : Nat))]) (fun i => i ≤ c.funs.length ∧ shalCs c.funs l = shalCs (c.funs.drop i) l) (fun i => c.funs.length - i) (0) (he := ?he) (hP := ?hP) (hk := ?hk) (round := ?round)
              case he =>
                (repeat (first | exact restr_nil | apply restr_cons rfl | apply restr_none rfl))
              case hP =>
                exact ⟨by omega, rfl⟩
              case hk =>
                show c.funs.length - 0 < n; omega
              case round =>
                rintro i ⟨hi, hs⟩
                dsimp only [List.cons_append, List.nil_append] at *
                refine WL_seq ?_
                refine WL_seq ?_
                refine WL_reg ?_
                refine O_p rfl rfl rfl ?_
                refine O_p rfl rfl rfl ?_
                refine O_h rfl rfl rfl rfl ?_
                refine O_h rfl rfl rfl rfl ?_
                refine O_p rfl rfl rfl ?_
                refine WO_nil ?_
                refine WL_seq ?_
                apply WL_prune
                · (repeat (first | exact restr_nil | apply restr_cons rfl | apply restr_none rfl))
                refine WL_cond rfl (fun h41 => ?_) (fun h41 => ?_)
                · skip
                  simp at h41
                  obtain ⟨x, hx⟩ : ∃ x, (c.funs)[i]? = some x := ⟨_, List.getElem?_eq_getElem (by omega)⟩
                  have hmx := List.mem_of_getElem? hx
                  have hsx := szC_funs hmx
                  have hg := drop_of hx
                  refine WL_skip ?_
                  refine WL_seq ?_
                  apply WL_prune
                  · (repeat (first | exact restr_nil | apply restr_cons rfl | apply restr_none rfl))
                  refine WL_seq ?_
                  refine WL_block ?_
                  refine WL_seq ?_
                  refine WL_reg ?_
                  refine O_p rfl rfl rfl ?_
                  refine O_h rfl rfl rfl rfl ?_
                  refine O_p rfl rfl rfl ?_
                  refine O_ia rfl rfl (Int.natCast_nonneg _) (encC_get (i := (i : Nat)) hx) (encC_flat _) rfl ?_
                  refine O_h rfl rfl rfl rfl ?_
                  refine O_p rfl rfl rfl ?_
                  refine O_p rfl rfl rfl ?_
                  refine O_c 39 rfl rfl (callA_of rfl (by rw [hl1]; exact ih x l (by omega) (w9 x hmx) (by omega))) ?_
                  refine O_p rfl rfl rfl ?_
                  refine WO_nil ?_
                  refine WL_seq ?_
                  apply WL_prune
                  · (repeat (first | exact restr_nil | apply restr_cons rfl | apply restr_none rfl))
                  refine WL_cond rfl (fun h52 => ?_) (fun h52 => ?_)
                  · skip
                    have hr : shalC c (l + 1) = false := by
                      simp at h52
                      rw [shalC_succ, hs, hg]; simp [shalCs, h52]
                    refine WL_seq ?_
                    refine WL_reg ?_
                    refine O_p rfl rfl rfl ?_
                    refine WO_nil ?_
                    refine WL_ret ?_
                    refine Blk_ret ?_
                    refine RndC_ret ?_
                    refine Blk_ret ?_
                    exact ⟨_, rfl, _, rfl, by rw [hr]⟩
                  · skip
                    refine WL_skip ?_
                    refine WL_nil ?_
                    refine Blk_norm (?_ : WL _ _ _ _ _)
                    refine WL_seq ?_
                    apply WL_prune
                    · (repeat (first | exact restr_nil | apply restr_cons rfl | apply restr_none rfl))
                    refine WL_reg ?_
                    refine O_p rfl rfl rfl ?_
                    refine O_p rfl rfl rfl ?_
                    refine O_p rfl rfl rfl ?_
                    refine WO_nil ?_
                    refine WL_nil ?_
                    simp at h52
                    refine RndC_norm (i + 1) (by refine ⟨by omega, ?_⟩; rw [hs, hg, shalCs, h52]; rfl) (by show _ < _; omega) ?_ rfl
                    · rw [wrap_succ (by omega)]; (repeat (first | exact restr_nil | apply restr_cons rfl | apply restr_none rfl))
                · skip
                  have hr : shalC c (l + 1) = true := by
                    simp at h41
                    rw [shalC_succ, hq, hs, List.drop_eq_nil_of_le (by omega)]; simp [shalCs, ha, hb]
                  refine WL_exit ?_
                  refine RndC_exit ?_
                  refine Blk_exit (?_ : WL _ _ _ _ _)
                  refine WL_seq ?_
                  apply WL_prune
                  · (repeat (first | exact restr_nil | apply restr_cons rfl | apply restr_none rfl))
                  refine WL_seq ?_
                  refine WL_reg ?_
                  refine O_p rfl rfl rfl ?_
                  refine WO_nil ?_
                  refine WL_ret ?_
                  exact ⟨_, rfl, _, rfl, by rw [hr]⟩

theorem csize_zero (n : Nat) (c : Co) : pcall (tabOf tabL) (n + 1) 55 [vC c, .int .i64 (0 : Nat)] = some (.ok (.int .i64 (rszC c 0 : Nat))) := by
  refine pcall_fin t55 ?_
  refine WL_seq ?_
  refine WL_reg ?_
  refine O_n rfl rfl rfl ?_
  refine O_p rfl rfl rfl ?_
  refine WO_nil ?_
  refine WL_seq ?_
  apply WL_prune
  · (repeat (first | exact restr_nil | apply restr_cons rfl | apply restr_none rfl))
  refine WL_seq ?_
  refine WL_seq ?_
  refine WL_reg ?_
  refine O_p rfl rfl rfl ?_
  refine O_p rfl rfl rfl ?_
  refine WO_nil ?_
  refine WL_seq ?_
  apply WL_prune
  · (repeat (first | exact restr_nil | apply restr_cons rfl | apply restr_none rfl))
  refine WL_cond rfl (fun h9 => ?_) (fun h9 => ?_)
  · skip
    refine WL_seq ?_
    refine WL_reg ?_
    refine O_p rfl rfl rfl ?_
    refine WO_nil ?_
    refine WL_ret ?_
    exact ⟨_, rfl, _, rfl, by rw [rszC_zero]; rfl⟩
  · skip
    simp at h9
theorem csize_c : ∀ (n : Nat) (t : Co) (l : Nat), szC t < n → SmC t → l < 1000 → pcall (tabOf tabL) n 55 [vC t, .int .i64 (l : Nat)] = some (.ok (.int .i64 (rszC t l : Nat)))
  | 0, t, l, h, _, _ => by omega
  | n + 1, t, 0, h, _, _ => csize_zero n t
  | n + 1, t, l + 1, h, hw, hl => by
    have ih := csize_c n
    have hp := lenC_pairs t
    have hf := lenC_funs t
    have hl1 : IntKind.i64.wrap (((l + 1 : Nat) : Int) - 1) = (l : Int) := by rw [kw_i64_id (by omega) (by omega)]; omega
    cases hw with | mk w4 w5 w6 w7 =>
    refine pcall_fin t55 ?_
    refine WL_seq ?_
    refine WL_reg ?_
    refine O_n rfl rfl rfl ?_
    refine O_p rfl rfl rfl ?_
    refine WO_nil ?_
    refine WL_seq ?_
    apply WL_prune
    · (repeat (first | exact restr_nil | apply restr_cons rfl | apply restr_none rfl))
    refine WL_seq ?_
    refine WL_seq ?_
    refine WL_reg ?_
    refine O_p rfl rfl rfl ?_
    refine O_p rfl rfl rfl ?_
    refine WO_nil ?_
    refine WL_seq ?_
    apply WL_prune
    · (repeat (first | exact restr_nil | apply restr_cons rfl | apply restr_none rfl))
    refine WL_cond rfl (fun h9 => ?_) (fun h9 => ?_)
    · skip
      simp at h9; omega
    · skip
      refine WL_skip ?_
      refine WL_seq ?_
      apply WL_prune
      · (repeat (first | exact restr_nil | apply restr_cons rfl | apply restr_none rfl))
      refine WL_seq ?_
      refine WL_reg ?_
      refine O_p rfl rfl rfl ?_
      refine WO_nil ?_
      refine WL_seq ?_
      apply WL_prune
      · (repeat (first | exact restr_nil | apply restr_cons rfl | apply restr_none rfl))
      refine WL_seq ?_
      refine WL_seq ?_
      refine WL_reg ?_
      refine O_p rfl rfl rfl ?_
      refine WO_nil ?_
      refine WL_seq ?_
      apply WL_prune
      · (repeat (first | exact restr_nil | apply restr_cons rfl | apply restr_none rfl))
      refine WL_block ?_
      apply WL_forc (α := Nat × Nat) (fun s => [(5, .int .i64 (s.1 : Nat)), (6, .int .i64 (s.2 : Nat))]) (fun s => s.2 ≤ t.pairs.length ∧ s.1 ≤ 2000 ∧ min 1000 (1 + rszCs t.pairs l) = min 1000 (s.1 + rszCs (t.pairs.drop s.2) l)) (fun s => t.pairs.length - s.2) ((1, 0)) (he := ?he) (hP := ?hP) (hk := ?hk) (round := ?round)
      case he =>
        (repeat (first | exact restr_nil | apply restr_cons rfl | apply restr_none rfl))
      case hP =>
        exact ⟨by omega, by omega, rfl⟩
      case hk =>
        show t.pairs.length - 0 < n; omega
      case round =>
        rintro ⟨c, i⟩ ⟨hi, hc, hs⟩
        simp only at hi hc hs
        dsimp only [List.cons_append, List.nil_append] at *
        refine WL_seq ?_
        refine WL_seq ?_
        refine WL_reg ?_
        refine O_p rfl rfl rfl ?_
        refine O_p rfl rfl rfl ?_
        refine O_h rfl rfl rfl rfl ?_
        refine O_h rfl rfl rfl rfl ?_
        refine O_p rfl rfl rfl ?_
        refine O_p rfl rfl rfl ?_
        apply O_and [_, _] rfl rfl (hT := ?hT18) (h := ?hR18)
        case hT18 =>
          intro hb15
          refine O_p rfl rfl rfl ?_
          refine O_p rfl rfl rfl ?_
          exact WO_nil (WL_nil ⟨rfl, rfl, rfl⟩)
        case hR18 =>
          intro vs hvs
          obtain ⟨u16, u17, rfl⟩ := len2 hvs
          clear hvs; dsimp only [junk]
          refine WO_nil ?_
          refine WL_seq ?_
          apply WL_prune
          · (repeat (first | exact restr_nil | apply restr_cons rfl | apply restr_none rfl))
          try clear u16 u17
          refine WL_cond rfl (fun h18 => ?_) (fun h18 => ?_)
          · skip
            simp at h18
            obtain ⟨x, hx⟩ : ∃ x, (t.pairs)[i]? = some x := ⟨_, List.getElem?_eq_getElem (by omega)⟩
            have hmx := List.mem_of_getElem? hx
            have hsx := szC_pairs hmx
            have hle := rszC_le x l
            have hg := drop_of hx
            refine WL_skip ?_
            refine WL_seq ?_
            apply WL_prune
            · (repeat (first | exact restr_nil | apply restr_cons rfl | apply restr_none rfl))
            refine WL_seq ?_
            refine WL_block ?_
            refine WL_reg ?_
            refine O_p rfl rfl rfl ?_
            refine O_p rfl rfl rfl ?_
            refine O_h rfl rfl rfl rfl ?_
            refine O_p rfl rfl rfl ?_
            refine O_ia rfl rfl (Int.natCast_nonneg _) (encC_get (i := (i : Nat)) hx) (encC_flat _) rfl ?_
            refine O_h rfl rfl rfl rfl ?_
            refine O_p rfl rfl rfl ?_
            refine O_p rfl rfl rfl ?_
            refine O_c 55 rfl rfl (callA_of rfl (by rw [hl1]; exact ih x l (by omega) (w6 x hmx) (by omega))) ?_
            refine O_p rfl rfl rfl ?_
            refine O_p rfl rfl rfl ?_
            refine WO_nil ?_
            refine WL_nil ?_
            refine Blk_norm (?_ : WL _ _ _ _ _)
            refine WL_seq ?_
            apply WL_prune
            · (repeat (first | exact restr_nil | apply restr_cons rfl | apply restr_none rfl))
            refine WL_reg ?_
            refine O_p rfl rfl rfl ?_
            refine O_p rfl rfl rfl ?_
            refine O_p rfl rfl rfl ?_
            refine WO_nil ?_
            refine WL_nil ?_
            refine RndC_norm ((c + rszC x l, i + 1)) (by refine ⟨?_, ?_, ?_⟩ <;> simp only <;> first | omega | (rw [hs, hg, rszCs]; omega)) (by show _ < _; omega) ?_ rfl
            · rw [wrap_add (by omega), wrap_succ (by omega)]; (repeat (first | exact restr_nil | apply restr_cons rfl | apply restr_none rfl))
          · skip
            have hq : min 1000 (1 + rszCs t.pairs l) = min 1000 c := by
              rw [hs]; simp at h18
              by_cases hc : i < t.pairs.length
              · have := h18 hc; omega
              · rw [List.drop_eq_nil_of_le (by omega)]; simp [rszCs]
            refine WL_exit ?_
            refine RndC_exit ?_
            refine Blk_exit (?_ : WL _ _ _ _ _)
            refine WL_seq ?_
            apply WL_prune
            · (repeat (first | exact restr_nil | apply restr_cons rfl | apply restr_none rfl))
            refine WL_seq ?_
            refine WL_seq ?_
            refine WL_reg ?_
            refine O_p rfl rfl rfl ?_
            refine WO_nil ?_
            refine WL_seq ?_
            apply WL_prune
            · (repeat (first | exact restr_nil | apply restr_cons rfl | apply restr_none rfl))
            refine WL_block ?_
            apply WL_forc (α := Nat × Nat) (fun s => [(5, .int .i64 (s.1 : Nat)), (7, .int .i64 (s.2 : Nat))]) (fun s => s.2 ≤ t.funs.length ∧ s.1 ≤ 2000 ∧ min 1000 (1 + rszCs t.pairs l + rszCs t.funs l) = min 1000 (s.1 + rszCs (t.funs.drop s.2) l)) (fun s => t.funs.length - s.2) ((c, 0)) (he := ?he) (hP := ?hP) (hk := ?hk) (round := ?round)
            case he =>
              (repeat (first | exact restr_nil | apply restr_cons rfl | apply restr_none rfl))
            case hP =>
              refine ⟨by simp, by simp only; omega, ?_⟩; simp only [List.drop_zero]; omega
            case hk =>
              show t.funs.length - 0 < n; omega
            case round =>
              rintro ⟨c, i⟩ ⟨hi, hc, hs2⟩
              simp only at hi hc hs2
              dsimp only [List.cons_append, List.nil_append] at *
              refine WL_seq ?_
              refine WL_seq ?_
              refine WL_reg ?_
              refine O_p rfl rfl rfl ?_
              refine O_p rfl rfl rfl ?_
              refine O_h rfl rfl rfl rfl ?_
              refine O_h rfl rfl rfl rfl ?_
              refine O_p rfl rfl rfl ?_
              refine O_p rfl rfl rfl ?_
              apply O_and [_, _] rfl rfl (hT := ?hT39) (h := ?hR39)
              case hT39 =>
                intro hb36
                refine O_p rfl rfl rfl ?_
                refine O_p rfl rfl rfl ?_
                exact WO_nil (WL_nil ⟨rfl, rfl, rfl⟩)
              case hR39 =>
                intro vs hvs
                obtain ⟨u37, u38, rfl⟩ := len2 hvs
                clear hvs; dsimp only [junk]
                refine WO_nil ?_
                refine WL_seq ?_
                apply WL_prune
                · (repeat (first | exact restr_nil | apply restr_cons rfl | apply restr_none rfl))
                try clear u37 u38
                refine WL_cond rfl (fun h39 => ?_) (fun h39 => ?_)
                · skip
                  simp at h39
                  obtain ⟨x, hx⟩ : ∃ x, (t.funs)[i]? = some x := ⟨_, List.getElem?_eq_getElem (by omega)⟩
                  have hmx := List.mem_of_getElem? hx
                  have hsx := szC_funs hmx
                  have hle := rszC_le x l
                  have hg := drop_of hx
                  refine WL_skip ?_
                  refine WL_seq ?_
                  apply WL_prune
                  · (repeat (first | exact restr_nil | apply restr_cons rfl | apply restr_none rfl))
                  refine WL_seq ?_
                  refine WL_block ?_
                  refine WL_reg ?_
                  refine O_p rfl rfl rfl ?_
                  refine O_p rfl rfl rfl ?_
                  refine O_h rfl rfl rfl rfl ?_
                  refine O_p rfl rfl rfl ?_
                  refine O_ia rfl rfl (Int.natCast_nonneg _) (encC_get (i := (i : Nat)) hx) (encC_flat _) rfl ?_
                  refine O_h rfl rfl rfl rfl ?_
                  refine O_p rfl rfl rfl ?_
                  refine O_p rfl rfl rfl ?_
                  refine O_c 55 rfl rfl (callA_of rfl (by rw [hl1]; exact ih x l (by omega) (w7 x hmx) (by omega))) ?_
                  refine O_p rfl rfl rfl ?_
                  refine O_p rfl rfl rfl ?_
                  refine WO_nil ?_
                  refine WL_nil ?_
                  refine Blk_norm (?_ : WL _ _ _ _ _)
                  refine WL_seq ?_
                  apply WL_prune
                  · (repeat (first | exact restr_nil | apply restr_cons rfl | apply restr_none rfl))
                  refine WL_reg ?_
                  refine O_p rfl rfl rfl ?_
                  refine O_p rfl rfl rfl ?_
                  refine O_p rfl rfl rfl ?_
                  refine WO_nil ?_
                  refine WL_nil ?_
                  refine RndC_norm ((c + rszC x l, i + 1)) (by refine ⟨?_, ?_, ?_⟩ <;> simp only <;> first | omega | (rw [hs2, hg, rszCs]; omega)) (by show _ < _; omega) ?_ rfl
                  · rw [wrap_add (by omega), wrap_succ (by omega)]; (repeat (first | exact restr_nil | apply restr_cons rfl | apply restr_none rfl))
                · skip
                  have hr : AVal.int IntKind.i64 (rszC t (l + 1) : Nat) = AVal.int IntKind.i64 (if false = true then if (1000 : Int) > (c : Int) then 1000 else (c : Int) else if (1000 : Int) < (c : Int) then 1000 else (c : Int)) := by
                    have hq2 : rszC t (l + 1) = min 1000 c := by
                      rw [rszC_succ, hs2]; simp at h39
                      by_cases hc : i < t.funs.length
                      · have := h39 hc; omega
                      · rw [List.drop_eq_nil_of_le (by omega)]; simp [rszCs]
                    rw [hq2]; congr 1; simp; split <;> omega
                  refine WL_exit ?_
                  refine RndC_exit ?_
                  refine Blk_exit (?_ : WL _ _ _ _ _)
                  refine WL_seq ?_
                  apply WL_prune
                  · (repeat (first | exact restr_nil | apply restr_cons rfl | apply restr_none rfl))
                  refine WL_seq ?_
                  refine WL_reg ?_
                  refine O_p rfl rfl rfl ?_
                  refine O_p rfl rfl rfl ?_
                  refine O_p rfl rfl rfl ?_
                  refine WO_nil ?_
                  refine WL_ret ?_
                  refine ⟨_, rfl, _, rfl, ?_⟩
                  rw [hr]
theorem cLight_c (n : Nat) (t : Co) (h : szC t < n) (hw : SmC t) : pcall (tabOf tabL) (n + 1) 40 [vC t] = some (.ok (.bool (decide (rszC t 60 < 150)))) := by
  refine pcall_fin t40 ?_
  refine WL_seq ?_
  refine WL_reg ?_
  refine O_n rfl rfl rfl ?_
  refine O_p rfl rfl rfl ?_
  refine WO_nil ?_
  refine WL_seq ?_
  apply WL_prune
  · (repeat (first | exact restr_nil | apply restr_cons rfl | apply restr_none rfl))
  refine WL_seq ?_
  refine WL_reg ?_
  refine O_h rfl rfl rfl rfl ?_
  refine O_c 55 rfl rfl (callA_of rfl (csize_c n t 60 h hw (by omega))) ?_
  refine O_p rfl rfl rfl ?_
  refine O_p rfl rfl rfl ?_
  refine WO_nil ?_
  refine WL_ret ?_
  exact ⟨_, rfl, _, rfl, by congr 2; apply decide_eq_decide.2; omega⟩
theorem to_c : ∀ (n : Nat) (c : Co), szC c < n → SmC c → pcall (tabOf tabL) n 16 [vC c] = some (.ok (vC c))
  | 0, c, h, _ => by omega
  | n + 1, c, h, hw => by
    have ih := to_c n
    have hp := lenC_pairs c
    have hf := lenC_funs c
    cases hw with | mk w4 w5 w6 w7 =>
    refine pcall_fin t16 ?_
    refine WL_seq ?_
    refine WL_reg ?_
    refine O_n rfl rfl rfl ?_
    refine O_n rfl rfl rfl ?_
    refine WO_nil ?_
    refine WL_seq ?_
    apply WL_prune
    · (repeat (first | exact restr_nil | apply restr_cons rfl | apply restr_none rfl))
    conv => arg 4; (try simp only [List.set_cons_zero, List.set_cons_succ, List.nil_append, List.cons_append, List.length_cons, List.length_nil, Nat.zero_add, Nat.add_zero, Nat.reduceAdd, putCells_cT, take_cT,  putCells, List.take_succ_cons, List.take_zero, List.take_nil, List.drop_succ_cons, List.drop_zero, List.drop_nil, AVal.flat, List.replicate_succ, List.replicate_zero])
    conv => arg 3; (try simp only [List.set_cons_zero, List.set_cons_succ, List.nil_append, List.cons_append, List.length_cons, List.length_nil, Nat.zero_add, Nat.add_zero, Nat.reduceAdd, putCells_cT, take_cT,  putCells, List.take_succ_cons, List.take_zero, List.take_nil, List.drop_succ_cons, List.drop_zero, List.drop_nil, AVal.flat, List.replicate_succ, List.replicate_zero])
    refine WL_seq ?_
    refine WL_reg ?_
    refine O_p rfl rfl rfl ?_
    refine O_h rfl rfl rfl rfl ?_
    refine O_p rfl rfl rfl ?_
    refine O_h rfl rfl rfl rfl ?_
    refine O_p rfl rfl rfl ?_
    refine O_h rfl rfl rfl rfl ?_
    refine O_p rfl rfl rfl ?_
    refine O_h rfl rfl rfl rfl ?_
    refine O_p rfl rfl rfl ?_
    refine O_h rfl rfl rfl rfl ?_
    refine O_v (.agg (oC c (.lst [] true) (.lst [] true))) rfl rfl rfl rfl ?_
    refine O_n rfl rfl rfl ?_
    refine O_hn rfl rfl rfl rfl ?_
    refine WO_nil ?_
    refine WL_seq ?_
    apply WL_prune
    · (repeat (first | exact restr_nil | apply restr_cons rfl | apply restr_none rfl))
    conv => arg 4; (try simp only [List.set_cons_zero, List.set_cons_succ, List.nil_append, List.cons_append, List.length_cons, List.length_nil, Nat.zero_add, Nat.add_zero, Nat.reduceAdd, putCells_cT, take_cT,  putCells, List.take_succ_cons, List.take_zero, List.take_nil, List.drop_succ_cons, List.drop_zero, List.drop_nil, AVal.flat, List.replicate_succ, List.replicate_zero])
    conv => arg 3; (try simp only [List.set_cons_zero, List.set_cons_succ, List.nil_append, List.cons_append, List.length_cons, List.length_nil, Nat.zero_add, Nat.add_zero, Nat.reduceAdd, putCells_cT, take_cT,  putCells, List.take_succ_cons, List.take_zero, List.take_nil, List.drop_succ_cons, List.drop_zero, List.drop_nil, AVal.flat, List.replicate_succ, List.replicate_zero])
    refine WL_seq ?_
    refine WL_seq ?_
    refine WL_reg ?_
    refine O_p rfl rfl rfl ?_
    refine WO_nil ?_
    refine WL_seq ?_
    apply WL_prune
    · (repeat (first | exact restr_nil | apply restr_cons rfl | apply restr_none rfl))
    conv => arg 4; (try simp only [List.set_cons_zero, List.set_cons_succ, List.nil_append, List.cons_append, List.length_cons, List.length_nil, Nat.zero_add, Nat.add_zero, Nat.reduceAdd, putCells_cT, take_cT,  putCells, List.take_succ_cons, List.take_zero, List.take_nil, List.drop_succ_cons, List.drop_zero, List.drop_nil, AVal.flat, List.replicate_succ, List.replicate_zero])
    conv => arg 3; (try simp only [List.set_cons_zero, List.set_cons_succ, List.nil_append, List.cons_append, List.length_cons, List.length_nil, Nat.zero_add, Nat.add_zero, Nat.reduceAdd, putCells_cT, take_cT,  putCells, List.take_succ_cons, List.take_zero, List.take_nil, List.drop_succ_cons, List.drop_zero, List.drop_nil, AVal.flat, List.replicate_succ, List.replicate_zero])
    refine WL_block ?_
    refine WL_seq ?_
    refine WL_own rfl ?_
    apply WL_forv (hc := [.cells (cC c), .cells [.int .i64 0, .int .i64 0, .int .i64 0, .int .i64 0, .int .i64 0, .int .i64 0, .int .i64 0, .int .i64 0, .lst [] true, .int .i64 0, .int .i64 0, .lst [] true]]) (α := Nat) (fun i => [(4, .int .i64 (i : Nat))]) (fun i => [.cells (oC c (.gl 3 i) (.lst [] true)), .grow (es0 12 i) ((c.pairs.take i).map encC) none]) (fun i => i ≤ c.pairs.length) (fun i => c.pairs.length - i) (0) (he := ?he) (hh := ?hh) (hP := ?hP) (hk := ?hk) (round := ?round)
    case he =>
      (repeat (first | exact restr_nil | apply restr_cons rfl | apply restr_none rfl))
    case hh =>
      rfl
    case hP =>
      omega
    case hk =>
      show c.pairs.length - 0 < n; omega
    case round =>
      rintro i hi
      dsimp only [List.cons_append, List.nil_append] at *
      refine WL_seq ?_
      refine WL_seq ?_
      refine WL_reg ?_
      refine O_p rfl rfl rfl ?_
      refine O_p rfl rfl rfl ?_
      refine O_h rfl rfl rfl rfl ?_
      refine O_h rfl rfl rfl rfl ?_
      refine O_p rfl rfl rfl ?_
      refine WO_nil ?_
      refine WL_seq ?_
      apply WL_prune
      · (repeat (first | exact restr_nil | apply restr_cons rfl | apply restr_none rfl))
      conv => arg 4; (try simp only [List.set_cons_zero, List.set_cons_succ, List.nil_append, List.cons_append, List.length_cons, List.length_nil, Nat.zero_add, Nat.add_zero, Nat.reduceAdd, putCells_cT, take_cT,  putCells, List.take_succ_cons, List.take_zero, List.take_nil, List.drop_succ_cons, List.drop_zero, List.drop_nil, AVal.flat, List.replicate_succ, List.replicate_zero])
      conv => arg 3; (try simp only [List.set_cons_zero, List.set_cons_succ, List.nil_append, List.cons_append, List.length_cons, List.length_nil, Nat.zero_add, Nat.add_zero, Nat.reduceAdd, putCells_cT, take_cT,  putCells, List.take_succ_cons, List.take_zero, List.take_nil, List.drop_succ_cons, List.drop_zero, List.drop_nil, AVal.flat, List.replicate_succ, List.replicate_zero])
      refine WL_cond rfl (fun h21 => ?_) (fun h21 => ?_)
      · skip
        simp at h21
        obtain ⟨x, hx⟩ : ∃ x, (c.pairs)[i]? = some x := ⟨_, List.getElem?_eq_getElem (by omega)⟩
        have hmx := List.mem_of_getElem? hx
        have hsx := szC_pairs hmx
        refine WL_skip ?_
        refine WL_seq ?_
        apply WL_prune
        · (repeat (first | exact restr_nil | apply restr_cons rfl | apply restr_none rfl))
        conv => arg 4; (try simp only [List.set_cons_zero, List.set_cons_succ, List.nil_append, List.cons_append, List.length_cons, List.length_nil, Nat.zero_add, Nat.add_zero, Nat.reduceAdd, putCells_cT, take_cT,  putCells, List.take_succ_cons, List.take_zero, List.take_nil, List.drop_succ_cons, List.drop_zero, List.drop_nil, AVal.flat, List.replicate_succ, List.replicate_zero])
        conv => arg 3; (try simp only [List.set_cons_zero, List.set_cons_succ, List.nil_append, List.cons_append, List.length_cons, List.length_nil, Nat.zero_add, Nat.add_zero, Nat.reduceAdd, putCells_cT, take_cT,  putCells, List.take_succ_cons, List.take_zero, List.take_nil, List.drop_succ_cons, List.drop_zero, List.drop_nil, AVal.flat, List.replicate_succ, List.replicate_zero])
        refine WL_seq ?_
        refine WL_block ?_
        refine WL_draw ?_
        refine D_p rfl rfl rfl ?_
        refine D_h (d := some 25) rfl rfl rfl rfl rfl ?_
        refine D_p rfl rfl rfl ?_
        refine D_h (d := some 27) rfl rfl rfl rfl rfl ?_
        refine D_p rfl rfl rfl ?_
        refine D_ia rfl rfl (Int.natCast_nonneg _) (encC_get (i := (i : Nat)) hx) (encC_flat _) rfl ?_
        refine D_h (d := some 30) rfl rfl rfl rfl rfl ?_
        refine D_c 16 rfl rfl rfl (callA_of rfl (ih x (by omega) (w6 x hmx))) ?_
        refine D_h (d := some 32) rfl rfl rfl rfl rfl ?_
        refine D_push (y := vC x) rfl rfl rfl (by simp; omega) (es0_or 12 i) (encC_w _) rfl (by omega) rfl (take_succ_map hx).symm rfl ?_
        refine D_p rfl rfl rfl ?_
        refine D_h (d := none) rfl rfl rfl rfl rfl ?_
        refine WD_nil2 rfl ?_
        refine WL_nil ?_
        refine Blk_norm (?_ : WL _ _ _ _ _)
        refine WL_seq ?_
        apply WL_prune
        · (repeat (first | exact restr_nil | apply restr_cons rfl | apply restr_none rfl))
        conv => arg 4; (try simp only [List.set_cons_zero, List.set_cons_succ, List.nil_append, List.cons_append, List.length_cons, List.length_nil, Nat.zero_add, Nat.add_zero, Nat.reduceAdd, putCells_cT, take_cT,  putCells, List.take_succ_cons, List.take_zero, List.take_nil, List.drop_succ_cons, List.drop_zero, List.drop_nil, AVal.flat, List.replicate_succ, List.replicate_zero])
        conv => arg 3; (try simp only [List.set_cons_zero, List.set_cons_succ, List.nil_append, List.cons_append, List.length_cons, List.length_nil, Nat.zero_add, Nat.add_zero, Nat.reduceAdd, putCells_cT, take_cT,  putCells, List.take_succ_cons, List.take_zero, List.take_nil, List.drop_succ_cons, List.drop_zero, List.drop_nil, AVal.flat, List.replicate_succ, List.replicate_zero])
        refine WL_reg ?_
        refine O_p rfl rfl rfl ?_
        refine O_p rfl rfl rfl ?_
        refine O_p rfl rfl rfl ?_
        refine WO_nil ?_
        refine WL_nil ?_
        refine RndV_norm (i + 1) (by omega) (by show _ < _; omega) ?_ rfl
        · rw [wrap_succ (by omega)]; (repeat (first | exact restr_nil | apply restr_cons rfl | apply restr_none rfl))
      · skip
        simp at h21
        obtain rfl : i = c.pairs.length := by omega
        simp only [List.take_length]
        refine WL_exit ?_
        refine RndV_exit ?_
        refine Blk_exit (?_ : WL _ _ _ _ _)
        refine WL_seq ?_
        apply WL_prune
        · (repeat (first | exact restr_nil | apply restr_cons rfl | apply restr_none rfl))
        conv => arg 4; (try simp only [List.set_cons_zero, List.set_cons_succ, List.nil_append, List.cons_append, List.length_cons, List.length_nil, Nat.zero_add, Nat.add_zero, Nat.reduceAdd, putCells_cT, take_cT,  putCells, List.take_succ_cons, List.take_zero, List.take_nil, List.drop_succ_cons, List.drop_zero, List.drop_nil, AVal.flat, List.replicate_succ, List.replicate_zero])
        conv => arg 3; (try simp only [List.set_cons_zero, List.set_cons_succ, List.nil_append, List.cons_append, List.length_cons, List.length_nil, Nat.zero_add, Nat.add_zero, Nat.reduceAdd, putCells_cT, take_cT,  putCells, List.take_succ_cons, List.take_zero, List.take_nil, List.drop_succ_cons, List.drop_zero, List.drop_nil, AVal.flat, List.replicate_succ, List.replicate_zero])
        refine WL_seq ?_
        refine WL_seq ?_
        refine WL_reg ?_
        refine O_p rfl rfl rfl ?_
        refine WO_nil ?_
        refine WL_seq ?_
        apply WL_prune
        · (repeat (first | exact restr_nil | apply restr_cons rfl | apply restr_none rfl))
        conv => arg 4; (try simp only [List.set_cons_zero, List.set_cons_succ, List.nil_append, List.cons_append, List.length_cons, List.length_nil, Nat.zero_add, Nat.add_zero, Nat.reduceAdd, putCells_cT, take_cT,  putCells, List.take_succ_cons, List.take_zero, List.take_nil, List.drop_succ_cons, List.drop_zero, List.drop_nil, AVal.flat, List.replicate_succ, List.replicate_zero])
        conv => arg 3; (try simp only [List.set_cons_zero, List.set_cons_succ, List.nil_append, List.cons_append, List.length_cons, List.length_nil, Nat.zero_add, Nat.add_zero, Nat.reduceAdd, putCells_cT, take_cT,  putCells, List.take_succ_cons, List.take_zero, List.take_nil, List.drop_succ_cons, List.drop_zero, List.drop_nil, AVal.flat, List.replicate_succ, List.replicate_zero])
        refine WL_block ?_
        refine WL_seq ?_
        refine WL_own rfl ?_
        apply WL_forv (hc := [.cells (cC c), .cells [.int .i64 0, .int .i64 0, .int .i64 0, .int .i64 0, .int .i64 0, .int .i64 0, .int .i64 0, .int .i64 0, .lst [] true, .int .i64 0, .int .i64 0, .lst [] true]]) (α := Nat) (fun i => [(5, .int .i64 (i : Nat))]) (fun i => [.cells (oC c (.gl 3 c.pairs.length) (.gl 4 i)), .grow (es0 12 c.pairs.length) (c.pairs.map encC) none, .grow (es0 12 i) ((c.funs.take i).map encC) none]) (fun i => i ≤ c.funs.length) (fun i => c.funs.length - i) (0) (he := ?he) (hh := ?hh) (hP := ?hP) (hk := ?hk) (round := ?round)
        case he =>
          (repeat (first | exact restr_nil | apply restr_cons rfl | apply restr_none rfl))
        case hh =>
          rfl
        case hP =>
          omega
        case hk =>
          show c.funs.length - 0 < n; omega
        case round =>
          rintro i hi
          dsimp only [List.cons_append, List.nil_append] at *
          refine WL_seq ?_
          refine WL_seq ?_
          refine WL_reg ?_
          refine O_p rfl rfl rfl ?_
          refine O_p rfl rfl rfl ?_
          refine O_h rfl rfl rfl rfl ?_
          refine O_h rfl rfl rfl rfl ?_
          refine O_p rfl rfl rfl ?_
          refine WO_nil ?_
          refine WL_seq ?_
          apply WL_prune
          · (repeat (first | exact restr_nil | apply restr_cons rfl | apply restr_none rfl))
          conv => arg 4; (try simp only [List.set_cons_zero, List.set_cons_succ, List.nil_append, List.cons_append, List.length_cons, List.length_nil, Nat.zero_add, Nat.add_zero, Nat.reduceAdd, putCells_cT, take_cT,  putCells, List.take_succ_cons, List.take_zero, List.take_nil, List.drop_succ_cons, List.drop_zero, List.drop_nil, AVal.flat, List.replicate_succ, List.replicate_zero])
          conv => arg 3; (try simp only [List.set_cons_zero, List.set_cons_succ, List.nil_append, List.cons_append, List.length_cons, List.length_nil, Nat.zero_add, Nat.add_zero, Nat.reduceAdd, putCells_cT, take_cT,  putCells, List.take_succ_cons, List.take_zero, List.take_nil, List.drop_succ_cons, List.drop_zero, List.drop_nil, AVal.flat, List.replicate_succ, List.replicate_zero])
          refine WL_cond rfl (fun h39 => ?_) (fun h39 => ?_)
          · skip
            simp at h39
            obtain ⟨x, hx⟩ : ∃ x, (c.funs)[i]? = some x := ⟨_, List.getElem?_eq_getElem (by omega)⟩
            have hmx := List.mem_of_getElem? hx
            have hsx := szC_funs hmx
            refine WL_skip ?_
            refine WL_seq ?_
            apply WL_prune
            · (repeat (first | exact restr_nil | apply restr_cons rfl | apply restr_none rfl))
            conv => arg 4; (try simp only [List.set_cons_zero, List.set_cons_succ, List.nil_append, List.cons_append, List.length_cons, List.length_nil, Nat.zero_add, Nat.add_zero, Nat.reduceAdd, putCells_cT, take_cT,  putCells, List.take_succ_cons, List.take_zero, List.take_nil, List.drop_succ_cons, List.drop_zero, List.drop_nil, AVal.flat, List.replicate_succ, List.replicate_zero])
            conv => arg 3; (try simp only [List.set_cons_zero, List.set_cons_succ, List.nil_append, List.cons_append, List.length_cons, List.length_nil, Nat.zero_add, Nat.add_zero, Nat.reduceAdd, putCells_cT, take_cT,  putCells, List.take_succ_cons, List.take_zero, List.take_nil, List.drop_succ_cons, List.drop_zero, List.drop_nil, AVal.flat, List.replicate_succ, List.replicate_zero])
            refine WL_seq ?_
            refine WL_block ?_
            refine WL_draw ?_
            refine D_p rfl rfl rfl ?_
            refine D_h (d := some 43) rfl rfl rfl rfl rfl ?_
            refine D_p rfl rfl rfl ?_
            refine D_h (d := some 45) rfl rfl rfl rfl rfl ?_
            refine D_p rfl rfl rfl ?_
            refine D_ia rfl rfl (Int.natCast_nonneg _) (encC_get (i := (i : Nat)) hx) (encC_flat _) rfl ?_
            refine D_h (d := some 48) rfl rfl rfl rfl rfl ?_
            refine D_c 16 rfl rfl rfl (callA_of rfl (ih x (by omega) (w7 x hmx))) ?_
            refine D_h (d := some 50) rfl rfl rfl rfl rfl ?_
            refine D_push (y := vC x) rfl rfl rfl (by simp; omega) (es0_or 12 i) (encC_w _) rfl (by omega) rfl (take_succ_map hx).symm rfl ?_
            refine D_p rfl rfl rfl ?_
            refine D_h (d := none) rfl rfl rfl rfl rfl ?_
            refine WD_nil2 rfl ?_
            refine WL_nil ?_
            refine Blk_norm (?_ : WL _ _ _ _ _)
            refine WL_seq ?_
            apply WL_prune
            · (repeat (first | exact restr_nil | apply restr_cons rfl | apply restr_none rfl))
            conv => arg 4; (try simp only [List.set_cons_zero, List.set_cons_succ, List.nil_append, List.cons_append, List.length_cons, List.length_nil, Nat.zero_add, Nat.add_zero, Nat.reduceAdd, putCells_cT, take_cT,  putCells, List.take_succ_cons, List.take_zero, List.take_nil, List.drop_succ_cons, List.drop_zero, List.drop_nil, AVal.flat, List.replicate_succ, List.replicate_zero])
            conv => arg 3; (try simp only [List.set_cons_zero, List.set_cons_succ, List.nil_append, List.cons_append, List.length_cons, List.length_nil, Nat.zero_add, Nat.add_zero, Nat.reduceAdd, putCells_cT, take_cT,  putCells, List.take_succ_cons, List.take_zero, List.take_nil, List.drop_succ_cons, List.drop_zero, List.drop_nil, AVal.flat, List.replicate_succ, List.replicate_zero])
            refine WL_reg ?_
            refine O_p rfl rfl rfl ?_
            refine O_p rfl rfl rfl ?_
            refine O_p rfl rfl rfl ?_
            refine WO_nil ?_
            refine WL_nil ?_
            refine RndV_norm (i + 1) (by omega) (by show _ < _; omega) ?_ rfl
            · rw [wrap_succ (by omega)]; (repeat (first | exact restr_nil | apply restr_cons rfl | apply restr_none rfl))
          · skip
            simp at h39
            obtain rfl : i = c.funs.length := by omega
            simp only [List.take_length]
            refine WL_exit ?_
            refine RndV_exit ?_
            refine Blk_exit (?_ : WL _ _ _ _ _)
            refine WL_seq ?_
            apply WL_prune
            · (repeat (first | exact restr_nil | apply restr_cons rfl | apply restr_none rfl))
            conv => arg 4; (try simp only [List.set_cons_zero, List.set_cons_succ, List.nil_append, List.cons_append, List.length_cons, List.length_nil, Nat.zero_add, Nat.add_zero, Nat.reduceAdd, putCells_cT, take_cT,  putCells, List.take_succ_cons, List.take_zero, List.take_nil, List.drop_succ_cons, List.drop_zero, List.drop_nil, AVal.flat, List.replicate_succ, List.replicate_zero])
            conv => arg 3; (try simp only [List.set_cons_zero, List.set_cons_succ, List.nil_append, List.cons_append, List.length_cons, List.length_nil, Nat.zero_add, Nat.add_zero, Nat.reduceAdd, putCells_cT, take_cT,  putCells, List.take_succ_cons, List.take_zero, List.take_nil, List.drop_succ_cons, List.drop_zero, List.drop_nil, AVal.flat, List.replicate_succ, List.replicate_zero])
            refine WL_seq ?_
            refine WL_reg ?_
            refine O_h rfl rfl rfl rfl ?_
            refine O_hn rfl rfl rfl rfl ?_
            refine WO_nil ?_
            refine WL_ret ?_
            exact ⟨_, rfl, vC c, (by show shutR _ (.agg (oC c (.gl 3 c.pairs.length) (.gl 4 c.funs.length))) = _; simp [shutR, shutRL, growAt, oC, cC]), rfl⟩
end Go.Ev.Seat
