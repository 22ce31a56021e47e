/-
  The functions about coercions: whom one blames.
-/
import Derived.Test.YtbjoldcjbpngaaaCoerce7
import Derived.Test.YtbjoldcjbpngaaaCoU
set_option linter.unusedVariables false
set_option linter.unusedSimpArgs false
namespace Go.Ev.Seat
open Go Go.Ev
set_option maxRecDepth 20000
attribute [local irreducible] pcall callF
theorem blames_c : ∀ (n : Nat) (c : Co) (l : Int), szC c + 10 < n → szC c ≤ 1000000 → pcall (tabOf tabL) n 23 [vC c, .int .i64 l] = some (.ok (.bool (blC c l)))
  | 0, c, l, h, _ => by omega
  | n + 1, c, l, h, hs1 => by
    have ih := blames_c n
    have hp := lenC_pairs c
    have hf := lenC_funs c
    refine pcall_fin t23 ?_
    refine WL_seq ?_
    refine WL_reg ?_
    refine O_n rfl rfl rfl ?_
    refine O_p rfl rfl rfl ?_
    refine WO_nil ?_
    refine WL_seq ?_
    apply WL_prune
    · (repeat (first | exact restr_nil | apply restr_cons rfl | apply restr_none rfl))
    refine WL_seq ?_
    refine WL_seq ?_
    refine WL_reg ?_
    refine O_p rfl rfl rfl ?_
    refine WO_nil ?_
    refine WL_seq ?_
    apply WL_prune
    · (repeat (first | exact restr_nil | apply restr_cons rfl | apply restr_none rfl))
    refine WL_block ?_
    apply WL_forc (α := Nat) (fun i => [(5, .int .i64 (i : Nat))]) (fun i => i ≤ 6 ∧ ∀ j, j < i → own1 l (c.flat j) = true) (fun i => 6 - i) (0) (he := ?he) (hP := ?hP) (hk := ?hk) (round := ?round)
    case he =>
      (repeat (first | exact restr_nil | apply restr_cons rfl | apply restr_none rfl))
    case hP =>
      exact ⟨by omega, fun j hj => by omega⟩
    case hk =>
      show 6 - 0 < n; omega
    case round =>
      rintro i ⟨hi, hs⟩
      dsimp only [List.cons_append, List.nil_append] at *
      refine WL_seq ?_
      refine WL_seq ?_
      refine WL_reg ?_
      refine O_p rfl rfl rfl ?_
      refine O_p rfl rfl rfl ?_
      refine WO_nil ?_
      refine WL_seq ?_
      apply WL_prune
      · (repeat (first | exact restr_nil | apply restr_cons rfl | apply restr_none rfl))
      refine WL_cond rfl (fun h9 => ?_) (fun h9 => ?_)
      · skip
        replace h9 : i < 6 := by simp at h9; omega
        refine WL_skip ?_
        refine WL_seq ?_
        apply WL_prune
        · (repeat (first | exact restr_nil | apply restr_cons rfl | apply restr_none rfl))
        refine WL_seq ?_
        refine WL_block ?_
        refine WL_seq ?_
        refine WL_reg ?_
        refine O_p rfl rfl rfl ?_
        refine O_p rfl rfl rfl ?_
        refine O_iaa rfl rfl h9 ?_
        refine O_ld (v := .int .i64 (c.flat i)) rfl rfl (by simp; exact cC_get h9) ?_
        refine O_p rfl rfl rfl ?_
        refine O_p rfl rfl rfl ?_
        apply O_and [_, _, _, _, _, _] rfl rfl (hT := ?hT24) (h := ?hR24)
        case hT24 =>
          intro hb17
          refine O_p rfl rfl rfl ?_
          refine O_p rfl rfl rfl ?_
          refine O_iaa rfl rfl h9 ?_
          refine O_ld (v := .int .i64 (c.flat i)) rfl rfl (by simp; exact cC_get h9) ?_
          refine O_p rfl rfl rfl ?_
          refine O_p rfl rfl rfl ?_
          exact WO_nil (WL_nil ⟨rfl, rfl, rfl⟩)
        case hR24 =>
          intro vs hvs
          obtain ⟨u18, u19, u20, u21, u22, u23, rfl⟩ := len6 hvs
          clear hvs; dsimp only [junk]
          refine WO_nil ?_
          refine WL_seq ?_
          apply WL_prune
          · (repeat (first | exact restr_nil | apply restr_cons rfl | apply restr_none rfl))
          try clear u18 u19 u20 u21 u22 u23
          refine WL_cond rfl (fun h24 => ?_) (fun h24 => ?_)
          · skip
            have hr : blC c l = false := by
              rw [blC_eq]
              have : six (fun i => own1 l (c.flat i)) = false := by
                rw [← Bool.not_eq_true]; intro q
                have q := six_at q h9
                simp [own1] at q h24; omega
              simp [this]
            refine WL_seq ?_
            refine WL_reg ?_
            refine O_p rfl rfl rfl ?_
            refine WO_nil ?_
            refine WL_ret ?_
            refine Blk_ret ?_
            refine RndC_ret ?_
            refine Blk_ret ?_
            exact ⟨_, rfl, _, rfl, by rw [hr]⟩
          · skip
            have hl : own1 l (c.flat i) = true := by
              simp [own1] at h24 ⊢; omega
            refine WL_skip ?_
            refine WL_nil ?_
            refine Blk_norm (?_ : WL _ _ _ _ _)
            refine WL_seq ?_
            apply WL_prune
            · (repeat (first | exact restr_nil | apply restr_cons rfl | apply restr_none rfl))
            refine WL_reg ?_
            refine O_p rfl rfl rfl ?_
            refine O_p rfl rfl rfl ?_
            refine O_p rfl rfl rfl ?_
            refine WO_nil ?_
            refine WL_nil ?_
            refine RndC_norm (i + 1) (by refine ⟨by omega, fun j hj => ?_⟩; rcases Nat.lt_succ_iff_lt_or_eq.1 hj with q | q; exact hs j q; rw [q]; exact hl) (by show _ < _; omega) ?_ rfl
            · rw [wrap_succ (by omega)]; (repeat (first | exact restr_nil | apply restr_cons rfl | apply restr_none rfl))
      · skip
        have hq0 : six (fun i => own1 l (c.flat i)) = true := by
          simp at h9
          exact six_all fun j hj => hs j (by omega)
        refine WL_exit ?_
        refine RndC_exit ?_
        refine Blk_exit (?_ : WL _ _ _ _ _)
        refine WL_seq ?_
        apply WL_prune
        · (repeat (first | exact restr_nil | apply restr_cons rfl | apply restr_none rfl))
        refine WL_seq ?_
        refine WL_seq ?_
        refine WL_reg ?_
        refine O_p rfl rfl rfl ?_
        refine O_h rfl rfl rfl rfl ?_
        refine O_p rfl rfl rfl ?_
        refine O_p rfl rfl rfl ?_
        apply O_and [_, _, _, _] rfl rfl (hT := ?hT33) (h := ?hR33)
        case hT33 =>
          intro hb28
          refine O_p rfl rfl rfl ?_
          refine O_h rfl rfl rfl rfl ?_
          refine O_p rfl rfl rfl ?_
          refine O_p rfl rfl rfl ?_
          exact WO_nil (WL_nil ⟨rfl, rfl, rfl⟩)
        case hR33 =>
          intro vs hvs
          obtain ⟨u29, u30, u31, u32, rfl⟩ := len4 hvs
          clear hvs; dsimp only [junk]
          refine O_p rfl rfl rfl ?_
          apply O_or [_, _, _, _, _, _, _, _, _] rfl rfl (hT := ?hT44) (h := ?hR44)
          case hT44 =>
            intro hb34
            refine O_p rfl rfl rfl ?_
            refine O_h rfl rfl rfl rfl ?_
            refine O_p rfl rfl rfl ?_
            refine O_p rfl rfl rfl ?_
            apply O_and [_, _, _, _] rfl rfl (hT := ?hT43) (h := ?hR43)
            case hT43 =>
              intro hb38
              refine O_p rfl rfl rfl ?_
              refine O_h rfl rfl rfl rfl ?_
              refine O_p rfl rfl rfl ?_
              refine O_p rfl rfl rfl ?_
              exact WO_nil (WL_nil ⟨rfl, rfl, rfl⟩)
            case hR43 =>
              intro vs hvs
              obtain ⟨u39, u40, u41, u42, rfl⟩ := len4 hvs
              clear hvs; dsimp only [junk]
              exact WO_nil (WL_nil ⟨rfl, rfl, rfl⟩)
          case hR44 =>
            intro vs hvs
            obtain ⟨u35, u36, u37, u38, u39, u40, u41, u42, u43, rfl⟩ := len9 hvs
            clear hvs; dsimp only [junk]
            refine WO_nil ?_
            refine WL_seq ?_
            apply WL_prune
            · (repeat (first | exact restr_nil | apply restr_cons rfl | apply restr_none rfl))
            try clear u29 u30 u31 u32 u39 u40 u41 u42 u35 u36 u37 u38 u39 u40 u41 u42 u43
            refine WL_cond rfl (fun h44 => ?_) (fun h44 => ?_)
            · skip
              have hr : blC c l = false := by
                rw [blC_eq]
                have : (own1 l c.plab && own1 l c.flab) = false := by
                  cases q : (own1 l c.plab && own1 l c.flab) with
                  | false => rfl
                  | true => simp [own1] at q h44; omega
                rw [Bool.and_assoc (six _), this]; simp
              refine WL_seq ?_
              refine WL_reg ?_
              refine O_p rfl rfl rfl ?_
              refine WO_nil ?_
              refine WL_ret ?_
              exact ⟨_, rfl, _, rfl, by rw [hr]⟩
            · skip
              have hq1 : own1 l c.plab = true := by simp [own1] at h44 ⊢; omega
              have hq2 : own1 l c.flab = true := by simp [own1] at h44 ⊢; omega
              refine WL_skip ?_
              refine WL_seq ?_
              apply WL_prune
              · (repeat (first | exact restr_nil | apply restr_cons rfl | apply restr_none rfl))
              refine WL_seq ?_
              refine WL_seq ?_
              refine WL_reg ?_
              refine O_p rfl rfl rfl ?_
              refine WO_nil ?_
              refine WL_seq ?_
              apply WL_prune
              · (repeat (first | exact restr_nil | apply restr_cons rfl | apply restr_none rfl))
              refine WL_block ?_
              apply WL_forc (α := Nat) (fun i => [(6, .int .i64 (i : Nat))]) (fun i => i ≤ c.pairs.length ∧ blCs c.pairs l = blCs (c.pairs.drop i) l) (fun i => c.pairs.length - i) (0) (he := ?he) (hP := ?hP) (hk := ?hk) (round := ?round)
              case he =>
                (repeat (first | exact restr_nil | apply restr_cons rfl | apply restr_none rfl))
              case hP =>
                exact ⟨by omega, rfl⟩
              case hk =>
                show c.pairs.length - 0 < n; omega
              case round =>
                rintro i ⟨hi, hs⟩
                dsimp only [List.cons_append, List.nil_append] at *
                refine WL_seq ?_
                refine WL_seq ?_
                refine WL_reg ?_
                refine O_p rfl rfl rfl ?_
                refine O_p rfl rfl rfl ?_
                refine O_h rfl rfl rfl rfl ?_
                refine O_h rfl rfl rfl rfl ?_
                refine O_p rfl rfl rfl ?_
                refine WO_nil ?_
                refine WL_seq ?_
                apply WL_prune
                · (repeat (first | exact restr_nil | apply restr_cons rfl | apply restr_none rfl))
                refine WL_cond rfl (fun h49 => ?_) (fun h49 => ?_)
                · skip
                  simp at h49
                  obtain ⟨x, hx⟩ : ∃ x, (c.pairs)[i]? = some x := ⟨_, List.getElem?_eq_getElem (by omega)⟩
                  have hmx := List.mem_of_getElem? hx
                  have hsx := szC_pairs hmx
                  have hg := drop_of hx
                  refine WL_skip ?_
                  refine WL_seq ?_
                  apply WL_prune
                  · (repeat (first | exact restr_nil | apply restr_cons rfl | apply restr_none rfl))
                  refine WL_seq ?_
                  refine WL_block ?_
                  refine WL_seq ?_
                  refine WL_reg ?_
                  refine O_p rfl rfl rfl ?_
                  refine O_h rfl rfl rfl rfl ?_
                  refine O_p rfl rfl rfl ?_
                  refine O_ia rfl rfl (Int.natCast_nonneg _) (encC_get (i := (i : Nat)) hx) (encC_flat _) rfl ?_
                  refine O_h rfl rfl rfl rfl ?_
                  refine O_p rfl rfl rfl ?_
                  refine O_c 23 rfl rfl (callA_of rfl (ih x l (by omega) (by omega))) ?_
                  refine O_p rfl rfl rfl ?_
                  refine WO_nil ?_
                  refine WL_seq ?_
                  apply WL_prune
                  · (repeat (first | exact restr_nil | apply restr_cons rfl | apply restr_none rfl))
                  refine WL_cond rfl (fun h59 => ?_) (fun h59 => ?_)
                  · skip
                    have hr : blC c l = false := by
                      simp at h59
                      rw [blC_eq, hs, hg]; simp [blCs, h59]
                    refine WL_seq ?_
                    refine WL_reg ?_
                    refine O_p rfl rfl rfl ?_
                    refine WO_nil ?_
                    refine WL_ret ?_
                    refine Blk_ret ?_
                    refine RndC_ret ?_
                    refine Blk_ret ?_
                    exact ⟨_, rfl, _, rfl, by rw [hr]⟩
                  · skip
                    refine WL_skip ?_
                    refine WL_nil ?_
                    refine Blk_norm (?_ : WL _ _ _ _ _)
                    refine WL_seq ?_
                    apply WL_prune
                    · (repeat (first | exact restr_nil | apply restr_cons rfl | apply restr_none rfl))
                    refine WL_reg ?_
                    refine O_p rfl rfl rfl ?_
                    refine O_p rfl rfl rfl ?_
                    refine O_p rfl rfl rfl ?_
                    refine WO_nil ?_
                    refine WL_nil ?_
                    simp at h59
                    refine RndC_norm (i + 1) (by refine ⟨by omega, ?_⟩; rw [hs, hg, blCs, h59]; rfl) (by show _ < _; omega) ?_ rfl
                    · rw [wrap_succ (by omega)]; (repeat (first | exact restr_nil | apply restr_cons rfl | apply restr_none rfl))
                · skip
                  have hq : blCs c.pairs l = true := by
                    simp at h49
                    rw [hs, List.drop_eq_nil_of_le (by omega)]; rfl
                  refine WL_exit ?_
                  refine RndC_exit ?_
                  refine Blk_exit (?_ : WL _ _ _ _ _)
                  refine WL_seq ?_
                  apply WL_prune
                  · (repeat (first | exact restr_nil | apply restr_cons rfl | apply restr_none rfl))
                  refine WL_seq ?_
                  refine WL_seq ?_
                  refine WL_reg ?_
                  refine O_p rfl rfl rfl ?_
                  refine WO_nil ?_
                  refine WL_seq ?_
                  apply WL_prune
                  · (repeat (first | exact restr_nil | apply restr_cons rfl | apply restr_none rfl))
                  refine WL_block ?_
                  apply WL_forc (α := Nat) (fun i => [(7, .int .i64 (i : Nat))]) (fun i => i ≤ c.funs.length ∧ blCs c.funs l = blCs (c.funs.drop i) l) (fun i => c.funs.length - i) (0) (he := ?he) (hP := ?hP) (hk := ?hk) (round := ?round)
                  case he =>
                    (repeat (first | exact restr_nil | apply restr_cons rfl | apply restr_none rfl))
                  case hP =>
                    exact ⟨by omega, rfl⟩
                  case hk =>
                    show c.funs.length - 0 < n; omega
                  case round =>
                    rintro i ⟨hi, hs⟩
                    dsimp only [List.cons_append, List.nil_append] at *
                    refine WL_seq ?_
                    refine WL_seq ?_
                    refine WL_reg ?_
                    refine O_p rfl rfl rfl ?_
                    refine O_p rfl rfl rfl ?_
                    refine O_h rfl rfl rfl rfl ?_
                    refine O_h rfl rfl rfl rfl ?_
                    refine O_p rfl rfl rfl ?_
                    refine WO_nil ?_
                    refine WL_seq ?_
                    apply WL_prune
                    · (repeat (first | exact restr_nil | apply restr_cons rfl | apply restr_none rfl))
                    refine WL_cond rfl (fun h64 => ?_) (fun h64 => ?_)
                    · skip
                      simp at h64
                      obtain ⟨x, hx⟩ : ∃ x, (c.funs)[i]? = some x := ⟨_, List.getElem?_eq_getElem (by omega)⟩
                      have hmx := List.mem_of_getElem? hx
                      have hsx := szC_funs hmx
                      have hg := drop_of hx
                      refine WL_skip ?_
                      refine WL_seq ?_
                      apply WL_prune
                      · (repeat (first | exact restr_nil | apply restr_cons rfl | apply restr_none rfl))
                      refine WL_seq ?_
                      refine WL_block ?_
                      refine WL_seq ?_
                      refine WL_reg ?_
                      refine O_p rfl rfl rfl ?_
                      refine O_h rfl rfl rfl rfl ?_
                      refine O_p rfl rfl rfl ?_
                      refine O_ia rfl rfl (Int.natCast_nonneg _) (encC_get (i := (i : Nat)) hx) (encC_flat _) rfl ?_
                      refine O_h rfl rfl rfl rfl ?_
                      refine O_p rfl rfl rfl ?_
                      refine O_c 23 rfl rfl (callA_of rfl (ih x l (by omega) (by omega))) ?_
                      refine O_p rfl rfl rfl ?_
                      refine WO_nil ?_
                      refine WL_seq ?_
                      apply WL_prune
                      · (repeat (first | exact restr_nil | apply restr_cons rfl | apply restr_none rfl))
                      refine WL_cond rfl (fun h74 => ?_) (fun h74 => ?_)
                      · skip
                        have hr : blC c l = false := by
                          simp at h74
                          rw [blC_eq, hs, hg]; simp [blCs, h74]
                        refine WL_seq ?_
                        refine WL_reg ?_
                        refine O_p rfl rfl rfl ?_
                        refine WO_nil ?_
                        refine WL_ret ?_
                        refine Blk_ret ?_
                        refine RndC_ret ?_
                        refine Blk_ret ?_
                        exact ⟨_, rfl, _, rfl, by rw [hr]⟩
                      · skip
                        refine WL_skip ?_
                        refine WL_nil ?_
                        refine Blk_norm (?_ : WL _ _ _ _ _)
                        refine WL_seq ?_
                        apply WL_prune
                        · (repeat (first | exact restr_nil | apply restr_cons rfl | apply restr_none rfl))
                        refine WL_reg ?_
                        refine O_p rfl rfl rfl ?_
                        refine O_p rfl rfl rfl ?_
                        refine O_p rfl rfl rfl ?_
                        refine WO_nil ?_
                        refine WL_nil ?_
                        simp at h74
                        refine RndC_norm (i + 1) (by refine ⟨by omega, ?_⟩; rw [hs, hg, blCs, h74]; rfl) (by show _ < _; omega) ?_ rfl
                        · rw [wrap_succ (by omega)]; (repeat (first | exact restr_nil | apply restr_cons rfl | apply restr_none rfl))
                    · skip
                      have hr : blC c l = true := by
                        simp at h64
                        rw [blC_eq, hq0, hq1, hq2, hq, hs, List.drop_eq_nil_of_le (by omega)]; rfl
                      refine WL_exit ?_
                      refine RndC_exit ?_
                      refine Blk_exit (?_ : WL _ _ _ _ _)
                      refine WL_seq ?_
                      apply WL_prune
                      · (repeat (first | exact restr_nil | apply restr_cons rfl | apply restr_none rfl))
                      refine WL_seq ?_
                      refine WL_reg ?_
                      refine O_p rfl rfl rfl ?_
                      refine WO_nil ?_
                      refine WL_ret ?_
                      exact ⟨_, rfl, _, rfl, by rw [hr]⟩
end Go.Ev.Seat
