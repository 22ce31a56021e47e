/-
  The functions about coercions: whether two are the same, whether all passes, how deep and how great one is.
-/
import Derived.Test.YtbjoldcjbpngaaaCoerce1
set_option linter.unusedVariables false
set_option linter.unusedSimpArgs false
namespace Go.Ev.Seat
open Go Go.Ev
set_option maxRecDepth 20000
attribute [local irreducible] pcall callF
theorem light_law (n : Nat) (c : Co) (h : szC c < n) (hw : WfC c) : pcall (tabOf tabL) (n + 3) 9 [vC c] = some (.ok (.bool (shalC c 30 && decide (rszC c 60 < 150)))) := by
  refine pcall_fin t9 ?_
  refine WL_seq ?_
  refine WL_reg ?_
  refine O_n rfl rfl rfl ?_
  refine O_p rfl rfl rfl ?_
  refine WO_nil ?_
  refine WL_seq ?_
  apply WL_prune
  · (repeat (first | exact restr_nil | apply restr_cons rfl | apply restr_none rfl))
  refine WL_seq ?_
  refine WL_seq ?_
  refine WL_reg ?_
  refine O_h rfl rfl rfl rfl ?_
  refine O_c 39 rfl rfl (callA_of rfl (shal_c (n + 2) c 30 (by omega) hw (by omega))) ?_
  refine O_p rfl rfl rfl ?_
  refine WO_nil ?_
  refine WL_seq ?_
  apply WL_prune
  · (repeat (first | exact restr_nil | apply restr_cons rfl | apply restr_none rfl))
  refine WL_cond rfl (fun h5 => ?_) (fun h5 => ?_)
  · skip
    have hr : (shalC c 30 && decide (rszC c 60 < 150)) = false := by simp at h5; simp [h5]
    refine WL_seq ?_
    refine WL_reg ?_
    refine O_p rfl rfl rfl ?_
    refine WO_nil ?_
    refine WL_ret ?_
    exact ⟨_, rfl, _, rfl, by rw [hr]⟩
  · skip
    simp at h5
    have hr : (shalC c 30 && decide (rszC c 60 < 150)) = decide (rszC c 60 < 150) := by simp [h5]
    have hm := smC_shal 30 c h5
    refine WL_skip ?_
    refine WL_seq ?_
    apply WL_prune
    · (repeat (first | exact restr_nil | apply restr_cons rfl | apply restr_none rfl))
    refine WL_seq ?_
    refine WL_reg ?_
    refine O_h rfl rfl rfl rfl ?_
    refine O_c 16 rfl rfl (callA_of rfl (to_c (n + 2) c (by omega) hm)) ?_
    refine O_c 40 rfl rfl (callA_of rfl (cLight_c (n + 1) c (by omega) hm)) ?_
    refine O_p rfl rfl rfl ?_
    refine WO_nil ?_
    refine WL_ret ?_
    exact ⟨_, rfl, _, rfl, by rw [hr]⟩
theorem same_ref : ∀ (n : Nat) (a b : Co), szC a < n → SmC a → pcall (tabOf tabL) n 26 [vC a, vC b] = some (.ok (.bool (sameC a b)))
  | 0, a, b, h, _ => by omega
  | n + 1, a, b, h, hw => by
    have ih := same_ref n
    have hp := lenC_pairs a
    have hf := lenC_funs a
    cases hw with | mk w4 w5 w6 w7 =>
    refine pcall_fin t26 ?_
    refine WL_seq ?_
    refine WL_reg ?_
    refine O_n rfl rfl rfl ?_
    refine O_n rfl rfl rfl ?_
    refine O_p rfl rfl rfl ?_
    refine WO_nil ?_
    refine WL_seq ?_
    apply WL_prune
    · (repeat (first | exact restr_nil | apply restr_cons rfl | apply restr_none rfl))
    refine WL_seq ?_
    refine WL_seq ?_
    refine WL_reg ?_
    refine O_p rfl rfl rfl ?_
    refine O_h rfl rfl rfl rfl ?_
    refine O_p rfl rfl rfl ?_
    refine O_h rfl rfl rfl rfl ?_
    refine O_p rfl rfl rfl ?_
    refine O_p rfl rfl rfl ?_
    apply O_or [_, _, _, _, _] rfl rfl (hT := ?hT18) (h := ?hR18)
    case hT18 =>
      intro hb12
      refine O_p rfl rfl rfl ?_
      refine O_h rfl rfl rfl rfl ?_
      refine O_p rfl rfl rfl ?_
      refine O_h rfl rfl rfl rfl ?_
      refine O_p rfl rfl rfl ?_
      exact WO_nil (WL_nil ⟨rfl, rfl, rfl⟩)
    case hR18 =>
      intro vs hvs
      obtain ⟨u13, u14, u15, u16, u17, rfl⟩ := len5 hvs
      clear hvs; dsimp only [junk]
      refine O_p rfl rfl rfl ?_
      apply O_or [_, _, _, _, _] rfl rfl (hT := ?hT25) (h := ?hR25)
      case hT25 =>
        intro hb19
        refine O_p rfl rfl rfl ?_
        refine O_h rfl rfl rfl rfl ?_
        refine O_p rfl rfl rfl ?_
        refine O_h rfl rfl rfl rfl ?_
        refine O_p rfl rfl rfl ?_
        exact WO_nil (WL_nil ⟨rfl, rfl, rfl⟩)
      case hR25 =>
        intro vs hvs
        obtain ⟨u20, u21, u22, u23, u24, rfl⟩ := len5 hvs
        clear hvs; dsimp only [junk]
        refine O_p rfl rfl rfl ?_
        apply O_or [_, _, _, _, _] rfl rfl (hT := ?hT32) (h := ?hR32)
        case hT32 =>
          intro hb26
          refine O_p rfl rfl rfl ?_
          refine O_h rfl rfl rfl rfl ?_
          refine O_p rfl rfl rfl ?_
          refine O_h rfl rfl rfl rfl ?_
          refine O_p rfl rfl rfl ?_
          exact WO_nil (WL_nil ⟨rfl, rfl, rfl⟩)
        case hR32 =>
          intro vs hvs
          obtain ⟨u27, u28, u29, u30, u31, rfl⟩ := len5 hvs
          clear hvs; dsimp only [junk]
          refine O_p rfl rfl rfl ?_
          apply O_or [_, _, _, _, _] rfl rfl (hT := ?hT39) (h := ?hR39)
          case hT39 =>
            intro hb33
            refine O_p rfl rfl rfl ?_
            refine O_h rfl rfl rfl rfl ?_
            refine O_p rfl rfl rfl ?_
            refine O_h rfl rfl rfl rfl ?_
            refine O_p rfl rfl rfl ?_
            exact WO_nil (WL_nil ⟨rfl, rfl, rfl⟩)
          case hR39 =>
            intro vs hvs
            obtain ⟨u34, u35, u36, u37, u38, rfl⟩ := len5 hvs
            clear hvs; dsimp only [junk]
            refine O_p rfl rfl rfl ?_
            apply O_or [_, _, _, _, _, _, _] rfl rfl (hT := ?hT48) (h := ?hR48)
            case hT48 =>
              intro hb40
              refine O_p rfl rfl rfl ?_
              refine O_h rfl rfl rfl rfl ?_
              refine O_h rfl rfl rfl rfl ?_
              refine O_p rfl rfl rfl ?_
              refine O_h rfl rfl rfl rfl ?_
              refine O_h rfl rfl rfl rfl ?_
              refine O_p rfl rfl rfl ?_
              exact WO_nil (WL_nil ⟨rfl, rfl, rfl⟩)
            case hR48 =>
              intro vs hvs
              obtain ⟨u41, u42, u43, u44, u45, u46, u47, rfl⟩ := len7 hvs
              clear hvs; dsimp only [junk]
              refine O_p rfl rfl rfl ?_
              apply O_or [_, _, _, _, _, _, _] rfl rfl (hT := ?hT57) (h := ?hR57)
              case hT57 =>
                intro hb49
                refine O_p rfl rfl rfl ?_
                refine O_h rfl rfl rfl rfl ?_
                refine O_h rfl rfl rfl rfl ?_
                refine O_p rfl rfl rfl ?_
                refine O_h rfl rfl rfl rfl ?_
                refine O_h rfl rfl rfl rfl ?_
                refine O_p rfl rfl rfl ?_
                exact WO_nil (WL_nil ⟨rfl, rfl, rfl⟩)
              case hR57 =>
                intro vs hvs
                obtain ⟨u50, u51, u52, u53, u54, u55, u56, rfl⟩ := len7 hvs
                clear hvs; dsimp only [junk]
                refine WO_nil ?_
                refine WL_seq ?_
                apply WL_prune
                · (repeat (first | exact restr_nil | apply restr_cons rfl | apply restr_none rfl))
                try clear u13 u14 u15 u16 u17 u20 u21 u22 u23 u24 u27 u28 u29 u30 u31 u34 u35 u36 u37 u38 u41 u42 u43 u44 u45 u46 u47 u50 u51 u52 u53 u54 u55 u56
                refine WL_cond rfl (fun h57 => ?_) (fun h57 => ?_)
                · skip
                  have hr : sameC a b = false := by
                    cases q : sameC a b with
                    | false => rfl
                    | true =>
                      rw [sameC_eq] at q
                      simp only [Bool.and_eq_true] at q
                      have e1 := sameCs_len q.1.2
                      have e2 := sameCs_len q.2
                      simp [six] at q h57
                      simp [q, e1, e2] at h57
                  refine WL_seq ?_
                  refine WL_reg ?_
                  refine O_p rfl rfl rfl ?_
                  refine WO_nil ?_
                  refine WL_ret ?_
                  exact ⟨_, rfl, _, rfl, by rw [hr]⟩
                · skip
                  have hk : sameC a b = (sameCs a.pairs b.pairs && sameCs a.funs b.funs) := by
                    rw [sameC_eq]; simp at h57; simp [six, h57]
                  simp at h57
                  obtain ⟨⟨k0, k5⟩, k6⟩ := h57
                  refine WL_skip ?_
                  refine WL_seq ?_
                  apply WL_prune
                  · (repeat (first | exact restr_nil | apply restr_cons rfl | apply restr_none rfl))
                  refine WL_seq ?_
                  refine WL_seq ?_
                  refine WL_reg ?_
                  refine O_p rfl rfl rfl ?_
                  refine WO_nil ?_
                  refine WL_seq ?_
                  apply WL_prune
                  · (repeat (first | exact restr_nil | apply restr_cons rfl | apply restr_none rfl))
                  refine WL_block ?_
                  apply WL_forc (α := Nat) (fun i => [(5, .int .i64 (i : Int))]) (fun i => i ≤ a.pairs.length ∧ sameCs a.pairs b.pairs = sameCs (a.pairs.drop i) (b.pairs.drop i)) (fun i => a.pairs.length - i) (0) (he := ?he) (hP := ?hP) (hk := ?hk) (round := ?round)
                  case he =>
                    (repeat (first | exact restr_nil | apply restr_cons rfl | apply restr_none rfl))
                  case hP =>
                    exact ⟨by omega, rfl⟩
                  case hk =>
                    show a.pairs.length - 0 < n; omega
                  case round =>
                    rintro i ⟨hi, hs⟩
                    dsimp only [List.cons_append, List.nil_append] at *
                    refine WL_seq ?_
                    refine WL_seq ?_
                    refine WL_reg ?_
                    refine O_p rfl rfl rfl ?_
                    refine O_p rfl rfl rfl ?_
                    refine O_h rfl rfl rfl rfl ?_
                    refine O_h rfl rfl rfl rfl ?_
                    refine O_p rfl rfl rfl ?_
                    refine WO_nil ?_
                    refine WL_seq ?_
                    apply WL_prune
                    · (repeat (first | exact restr_nil | apply restr_cons rfl | apply restr_none rfl))
                    refine WL_cond rfl (fun h62 => ?_) (fun h62 => ?_)
                    · skip
                      simp at h62
                      obtain ⟨x, hx⟩ : ∃ x, (a.pairs)[i]? = some x := ⟨_, List.getElem?_eq_getElem (by omega)⟩
                      have hmx := List.mem_of_getElem? hx
                      have hsx := szC_pairs hmx
                      obtain ⟨y, hy⟩ : ∃ y, (b.pairs)[i]? = some y := ⟨_, List.getElem?_eq_getElem (by omega)⟩
                      have hmy := List.mem_of_getElem? hy
                      refine WL_skip ?_
                      refine WL_seq ?_
                      apply WL_prune
                      · (repeat (first | exact restr_nil | apply restr_cons rfl | apply restr_none rfl))
                      refine WL_seq ?_
                      refine WL_block ?_
                      refine WL_seq ?_
                      refine WL_drawS (ops := [_, _, _, _, _, _, _, _, _, _, _, _]) rfl rfl ?_
                      refine O_p rfl rfl rfl ?_
                      refine O_h rfl rfl rfl rfl ?_
                      refine O_p rfl rfl rfl ?_
                      refine O_ia rfl rfl (Int.natCast_nonneg _) (encC_get (i := (i : Nat)) hx) (encC_flat _) rfl ?_
                      refine O_h rfl rfl rfl rfl ?_
                      refine O_p rfl rfl rfl ?_
                      refine O_h rfl rfl rfl rfl ?_
                      refine O_p rfl rfl rfl ?_
                      refine O_ia rfl rfl (Int.natCast_nonneg _) (encC_get (i := (i : Nat)) hy) (encC_flat _) rfl ?_
                      refine O_h rfl rfl rfl rfl ?_
                      refine O_c 26 rfl rfl (callA_of rfl (ih x y (by omega) (w6 x hmx))) ?_
                      refine O_p rfl rfl rfl ?_
                      refine WO_nil (WL_nil ⟨rfl, ?_⟩)
                      refine WL_seq ?_
                      apply WL_prune
                      · (repeat (first | exact restr_nil | apply restr_cons rfl | apply restr_none rfl))
                      refine WL_cond rfl (fun h76 => ?_) (fun h76 => ?_)
                      · skip
                        have hr : sameC a b = false := by
                          simp at h76
                          rw [hk, hs, drop_of hx, drop_of hy]; simp [sameCs, h76]
                        refine WL_seq ?_
                        refine WL_reg ?_
                        refine O_p rfl rfl rfl ?_
                        refine WO_nil ?_
                        refine WL_ret ?_
                        refine Blk_ret ?_
                        refine RndC_ret ?_
                        refine Blk_ret ?_
                        exact ⟨_, rfl, _, rfl, by rw [hr]⟩
                      · skip
                        refine WL_skip ?_
                        refine WL_nil ?_
                        refine Blk_norm (?_ : WL _ _ _ _ _)
                        refine WL_seq ?_
                        apply WL_prune
                        · (repeat (first | exact restr_nil | apply restr_cons rfl | apply restr_none rfl))
                        refine WL_reg ?_
                        refine O_p rfl rfl rfl ?_
                        refine O_p rfl rfl rfl ?_
                        refine O_p rfl rfl rfl ?_
                        refine WO_nil ?_
                        refine WL_nil ?_
                        simp at h76
                        refine RndC_norm (i + 1) (by refine ⟨by omega, ?_⟩; rw [hs, drop_of hx, drop_of hy, sameCs, h76]; rfl) (by show _ < _; omega) ?_ rfl
                        · rw [wrap_succ (by omega)]; (repeat (first | exact restr_nil | apply restr_cons rfl | apply restr_none rfl))
                    · skip
                      have hq : sameCs a.pairs b.pairs = true := by
                        simp at h62
                        rw [hs, List.drop_eq_nil_of_le (by omega), List.drop_eq_nil_of_le (by omega)]; rfl
                      refine WL_exit ?_
                      refine RndC_exit ?_
                      refine Blk_exit (?_ : WL _ _ _ _ _)
                      refine WL_seq ?_
                      apply WL_prune
                      · (repeat (first | exact restr_nil | apply restr_cons rfl | apply restr_none rfl))
                      refine WL_seq ?_
                      refine WL_seq ?_
                      refine WL_reg ?_
                      refine O_p rfl rfl rfl ?_
                      refine WO_nil ?_
                      refine WL_seq ?_
                      apply WL_prune
                      · (repeat (first | exact restr_nil | apply restr_cons rfl | apply restr_none rfl))
                      refine WL_block ?_
                      apply WL_forc (α := Nat) (fun i => [(6, .int .i64 (i : Int))]) (fun i => i ≤ a.funs.length ∧ sameCs a.funs b.funs = sameCs (a.funs.drop i) (b.funs.drop i)) (fun i => a.funs.length - i) (0) (he := ?he) (hP := ?hP) (hk := ?hk) (round := ?round)
                      case he =>
                        (repeat (first | exact restr_nil | apply restr_cons rfl | apply restr_none rfl))
                      case hP =>
                        exact ⟨by omega, rfl⟩
                      case hk =>
                        show a.funs.length - 0 < n; omega
                      case round =>
                        rintro i ⟨hi, hs⟩
                        dsimp only [List.cons_append, List.nil_append] at *
                        refine WL_seq ?_
                        refine WL_seq ?_
                        refine WL_reg ?_
                        refine O_p rfl rfl rfl ?_
                        refine O_p rfl rfl rfl ?_
                        refine O_h rfl rfl rfl rfl ?_
                        refine O_h rfl rfl rfl rfl ?_
                        refine O_p rfl rfl rfl ?_
                        refine WO_nil ?_
                        refine WL_seq ?_
                        apply WL_prune
                        · (repeat (first | exact restr_nil | apply restr_cons rfl | apply restr_none rfl))
                        refine WL_cond rfl (fun h81 => ?_) (fun h81 => ?_)
                        · skip
                          simp at h81
                          obtain ⟨x, hx⟩ : ∃ x, (a.funs)[i]? = some x := ⟨_, List.getElem?_eq_getElem (by omega)⟩
                          have hmx := List.mem_of_getElem? hx
                          have hsx := szC_funs hmx
                          obtain ⟨y, hy⟩ : ∃ y, (b.funs)[i]? = some y := ⟨_, List.getElem?_eq_getElem (by omega)⟩
                          have hmy := List.mem_of_getElem? hy
                          refine WL_skip ?_
                          refine WL_seq ?_
                          apply WL_prune
                          · (repeat (first | exact restr_nil | apply restr_cons rfl | apply restr_none rfl))
                          refine WL_seq ?_
                          refine WL_block ?_
                          refine WL_seq ?_
                          refine WL_drawS (ops := [_, _, _, _, _, _, _, _, _, _, _, _]) rfl rfl ?_
                          refine O_p rfl rfl rfl ?_
                          refine O_h rfl rfl rfl rfl ?_
                          refine O_p rfl rfl rfl ?_
                          refine O_ia rfl rfl (Int.natCast_nonneg _) (encC_get (i := (i : Nat)) hx) (encC_flat _) rfl ?_
                          refine O_h rfl rfl rfl rfl ?_
                          refine O_p rfl rfl rfl ?_
                          refine O_h rfl rfl rfl rfl ?_
                          refine O_p rfl rfl rfl ?_
                          refine O_ia rfl rfl (Int.natCast_nonneg _) (encC_get (i := (i : Nat)) hy) (encC_flat _) rfl ?_
                          refine O_h rfl rfl rfl rfl ?_
                          refine O_c 26 rfl rfl (callA_of rfl (ih x y (by omega) (w7 x hmx))) ?_
                          refine O_p rfl rfl rfl ?_
                          refine WO_nil (WL_nil ⟨rfl, ?_⟩)
                          refine WL_seq ?_
                          apply WL_prune
                          · (repeat (first | exact restr_nil | apply restr_cons rfl | apply restr_none rfl))
                          refine WL_cond rfl (fun h95 => ?_) (fun h95 => ?_)
                          · skip
                            have hr : sameC a b = false := by
                              simp at h95
                              rw [hk, hs, drop_of hx, drop_of hy]; simp [sameCs, h95]
                            refine WL_seq ?_
                            refine WL_reg ?_
                            refine O_p rfl rfl rfl ?_
                            refine WO_nil ?_
                            refine WL_ret ?_
                            refine Blk_ret ?_
                            refine RndC_ret ?_
                            refine Blk_ret ?_
                            exact ⟨_, rfl, _, rfl, by rw [hr]⟩
                          · skip
                            refine WL_skip ?_
                            refine WL_nil ?_
                            refine Blk_norm (?_ : WL _ _ _ _ _)
                            refine WL_seq ?_
                            apply WL_prune
                            · (repeat (first | exact restr_nil | apply restr_cons rfl | apply restr_none rfl))
                            refine WL_reg ?_
                            refine O_p rfl rfl rfl ?_
                            refine O_p rfl rfl rfl ?_
                            refine O_p rfl rfl rfl ?_
                            refine WO_nil ?_
                            refine WL_nil ?_
                            simp at h95
                            refine RndC_norm (i + 1) (by refine ⟨by omega, ?_⟩; rw [hs, drop_of hx, drop_of hy, sameCs, h95]; rfl) (by show _ < _; omega) ?_ rfl
                            · rw [wrap_succ (by omega)]; (repeat (first | exact restr_nil | apply restr_cons rfl | apply restr_none rfl))
                        · skip
                          have hr : sameC a b = true := by
                            simp at h81
                            rw [hk, hq, hs, List.drop_eq_nil_of_le (by omega), List.drop_eq_nil_of_le (by omega)]; simp [sameCs]
                          refine WL_exit ?_
                          refine RndC_exit ?_
                          refine Blk_exit (?_ : WL _ _ _ _ _)
                          refine WL_seq ?_
                          apply WL_prune
                          · (repeat (first | exact restr_nil | apply restr_cons rfl | apply restr_none rfl))
                          refine WL_seq ?_
                          refine WL_reg ?_
                          refine O_p rfl rfl rfl ?_
                          refine WO_nil ?_
                          refine WL_ret ?_
                          exact ⟨_, rfl, _, rfl, by rw [hr]⟩
theorem pass_c (n : Nat) (c : Co) : pcall (tabOf tabL) (n + 1) 27 [vC c] = some (.ok (.bool (passC c))) := by
  refine pcall_fin t27 ?_
  refine WL_seq ?_
  refine WL_reg ?_
  refine O_n rfl rfl rfl ?_
  refine O_p rfl rfl rfl ?_
  refine WO_nil ?_
  refine WL_seq ?_
  apply WL_prune
  · (repeat (first | exact restr_nil | apply restr_cons rfl | apply restr_none rfl))
  refine WL_seq ?_
  refine WL_reg ?_
  refine O_p rfl rfl rfl ?_
  refine O_h rfl rfl rfl rfl ?_
  refine O_p rfl rfl rfl ?_
  refine O_p rfl rfl rfl ?_
  refine O_p rfl rfl rfl ?_
  apply O_and [_, _, _] rfl rfl (hT := ?hT11) (h := ?hR11)
  case hT11 =>
    intro hb7
    refine O_p rfl rfl rfl ?_
    refine O_h rfl rfl rfl rfl ?_
    refine O_p rfl rfl rfl ?_
    exact WO_nil (WL_nil ⟨rfl, rfl, rfl⟩)
  case hR11 =>
    intro vs hvs
    obtain ⟨u8, u9, u10, rfl⟩ := len3 hvs
    clear hvs; dsimp only [junk]
    refine O_p rfl rfl rfl ?_
    apply O_and [_, _, _] rfl rfl (hT := ?hT16) (h := ?hR16)
    case hT16 =>
      intro hb12
      refine O_p rfl rfl rfl ?_
      refine O_h rfl rfl rfl rfl ?_
      refine O_p rfl rfl rfl ?_
      exact WO_nil (WL_nil ⟨rfl, rfl, rfl⟩)
    case hR16 =>
      intro vs hvs
      obtain ⟨u13, u14, u15, rfl⟩ := len3 hvs
      clear hvs; dsimp only [junk]
      refine O_p rfl rfl rfl ?_
      apply O_and [_, _, _, _] rfl rfl (hT := ?hT22) (h := ?hR22)
      case hT22 =>
        intro hb17
        refine O_p rfl rfl rfl ?_
        refine O_h rfl rfl rfl rfl ?_
        refine O_h rfl rfl rfl rfl ?_
        refine O_p rfl rfl rfl ?_
        exact WO_nil (WL_nil ⟨rfl, rfl, rfl⟩)
      case hR22 =>
        intro vs hvs
        obtain ⟨u18, u19, u20, u21, rfl⟩ := len4 hvs
        clear hvs; dsimp only [junk]
        refine O_p rfl rfl rfl ?_
        apply O_and [_, _, _] rfl rfl (hT := ?hT27) (h := ?hR27)
        case hT27 =>
          intro hb23
          refine O_p rfl rfl rfl ?_
          refine O_h rfl rfl rfl rfl ?_
          refine O_p rfl rfl rfl ?_
          exact WO_nil (WL_nil ⟨rfl, rfl, rfl⟩)
        case hR27 =>
          intro vs hvs
          obtain ⟨u24, u25, u26, rfl⟩ := len3 hvs
          clear hvs; dsimp only [junk]
          refine O_p rfl rfl rfl ?_
          apply O_and [_, _, _] rfl rfl (hT := ?hT32) (h := ?hR32)
          case hT32 =>
            intro hb28
            refine O_p rfl rfl rfl ?_
            refine O_h rfl rfl rfl rfl ?_
            refine O_p rfl rfl rfl ?_
            exact WO_nil (WL_nil ⟨rfl, rfl, rfl⟩)
          case hR32 =>
            intro vs hvs
            obtain ⟨u29, u30, u31, rfl⟩ := len3 hvs
            clear hvs; dsimp only [junk]
            refine O_p rfl rfl rfl ?_
            apply O_and [_, _, _, _] rfl rfl (hT := ?hT38) (h := ?hR38)
            case hT38 =>
              intro hb33
              refine O_p rfl rfl rfl ?_
              refine O_h rfl rfl rfl rfl ?_
              refine O_h rfl rfl rfl rfl ?_
              refine O_p rfl rfl rfl ?_
              exact WO_nil (WL_nil ⟨rfl, rfl, rfl⟩)
            case hR38 =>
              intro vs hvs
              obtain ⟨u34, u35, u36, u37, rfl⟩ := len4 hvs
              clear hvs; dsimp only [junk]
              refine O_p rfl rfl rfl ?_
              refine WO_nil ?_
              refine WL_ret ?_
              refine ⟨_, rfl, _, rfl, ?_⟩
              simp [passC, six]
theorem acts_c (n : Nat) (c : Co) : pcall (tabOf tabL) (n + 2) 45 [vC c] = some (.ok (.bool (!passC c))) := by
  refine pcall_fin t45 ?_
  refine WL_seq ?_
  refine WL_reg ?_
  refine O_n rfl rfl rfl ?_
  refine O_p rfl rfl rfl ?_
  refine WO_nil ?_
  refine WL_seq ?_
  apply WL_prune
  · (repeat (first | exact restr_nil | apply restr_cons rfl | apply restr_none rfl))
  refine WL_seq ?_
  refine WL_reg ?_
  refine O_h rfl rfl rfl rfl ?_
  refine O_c 27 rfl rfl (callA_of rfl (pass_c n c)) ?_
  refine O_p rfl rfl rfl ?_
  refine O_p rfl rfl rfl ?_
  refine WO_nil ?_
  refine WL_ret ?_
  exact ⟨_, rfl, _, rfl, rfl⟩
theorem same_law (n : Nat) (a b : Co) (h : szC a < n) (hw : SmC a) : pcall (tabOf tabL) (n + 1) 11 [vC a, vC b] = some (.ok (.bool (sameC a b))) := by
  refine pcall_fin t11 ?_
  refine WL_seq ?_
  refine WL_reg ?_
  refine O_n rfl rfl rfl ?_
  refine O_n rfl rfl rfl ?_
  refine O_p rfl rfl rfl ?_
  refine WO_nil ?_
  refine WL_seq ?_
  apply WL_prune
  · (repeat (first | exact restr_nil | apply restr_cons rfl | apply restr_none rfl))
  refine WL_seq ?_
  refine WL_drawT [] rfl ?_
  refine S_h (d := some 5) rfl rfl rfl rfl rfl ?_
  refine S_c 16 rfl rfl rfl (callA_of rfl (to_c n a h hw)) ?_
  refine S_h (d := some 7) rfl rfl rfl rfl rfl ?_
  refine S_c 26 rfl rfl rfl (callA_of rfl (same_ref n a b h hw)) ?_
  refine S_p rfl rfl rfl ?_
  refine WS_nil ?_
  refine WL_ret ?_
  exact ⟨_, rfl, _, rfl, rfl⟩
theorem equal_c (n : Nat) (l m : List Co) (f : FuncId) (hl : l.length < n) (hm : l.length < 9223372036854775808)
    (hf : ∀ x, x ∈ l → ∀ y, pcall (tabOf tabL) n f [vC x, vC y] = some (.ok (.bool (sameC x y)))) :
    pcall (tabOf tabL) (n + 1) 52 [.lst (l.map encC) false, .lst (m.map encC) false, .fn f []] = some (.ok (.bool (sameCs l m))) := by
  refine pcall_fin t52 ?_
  refine WL_seq ?_
  refine WL_reg ?_
  refine O_p rfl rfl rfl ?_
  refine WO_nil ?_
  refine WL_seq ?_
  apply WL_prune
  · (repeat (first | exact restr_nil | apply restr_cons rfl | apply restr_none rfl))
  refine WL_seq ?_
  refine WL_seq ?_
  refine WL_reg ?_
  refine O_p rfl rfl rfl ?_
  refine O_h rfl rfl rfl rfl ?_
  refine O_p rfl rfl rfl ?_
  refine O_h rfl rfl rfl rfl ?_
  refine O_p rfl rfl rfl ?_
  refine WO_nil ?_
  refine WL_seq ?_
  apply WL_prune
  · (repeat (first | exact restr_nil | apply restr_cons rfl | apply restr_none rfl))
  refine WL_cond rfl (fun h14 => ?_) (fun h14 => ?_)
  · skip
    have hr : sameCs l m = false := by
      cases q : sameCs l m with
      | false => rfl
      | true => simp [sameCs_len q] at h14
    refine WL_seq ?_
    refine WL_reg ?_
    refine O_p rfl rfl rfl ?_
    refine WO_nil ?_
    refine WL_ret ?_
    exact ⟨_, rfl, _, rfl, by rw [hr]⟩
  · skip
    simp at h14
    refine WL_skip ?_
    refine WL_seq ?_
    apply WL_prune
    · (repeat (first | exact restr_nil | apply restr_cons rfl | apply restr_none rfl))
    refine WL_seq ?_
    refine WL_seq ?_
    refine WL_reg ?_
    refine O_p rfl rfl rfl ?_
    refine O_h rfl rfl rfl rfl ?_
    refine O_p rfl rfl rfl ?_
    refine WO_nil ?_
    refine WL_seq ?_
    apply WL_prune
    · (repeat (first | exact restr_nil | apply restr_cons rfl | apply restr_none rfl))
    refine WL_block ?_
    apply WL_forc (α := Nat) (fun i => [(17, .int .i64 (i : Nat))]) (fun i => i ≤ l.length ∧ sameCs l m = sameCs (l.drop i) (m.drop i)) (fun i => l.length - i) (0) (he := ?he) (hP := ?hP) (hk := ?hk) (round := ?round)
    case he =>
      (repeat (first | exact restr_nil | apply restr_cons rfl | apply restr_none rfl))
    case hP =>
      exact ⟨by omega, rfl⟩
    case hk =>
      show l.length - 0 < n; omega
    case round =>
      rintro i ⟨hi, hs⟩
      dsimp only [List.cons_append, List.nil_append] at *
      refine WL_seq ?_
      refine WL_reg ?_
      refine O_p rfl rfl rfl ?_
      refine WO_nil ?_
      refine WL_seq ?_
      apply WL_prune
      · (repeat (first | exact restr_nil | apply restr_cons rfl | apply restr_none rfl))
      refine WL_seq ?_
      refine WL_cond rfl (fun h18 => ?_) (fun h18 => ?_)
      · skip
        simp at h18
        obtain ⟨x, hx⟩ : ∃ x, (l)[i]? = some x := ⟨_, List.getElem?_eq_getElem (by omega)⟩
        have hmx := List.mem_of_getElem? hx
        obtain ⟨y, hy⟩ : ∃ y, (m)[i]? = some y := ⟨_, List.getElem?_eq_getElem (by omega)⟩
        have hmy := List.mem_of_getElem? hy
        refine WL_skip ?_
        refine WL_seq ?_
        apply WL_prune
        · (repeat (first | exact restr_nil | apply restr_cons rfl | apply restr_none rfl))
        refine WL_seq ?_
        refine WL_block ?_
        refine WL_seq ?_
        refine WL_reg ?_
        refine O_p rfl rfl rfl ?_
        refine O_ia rfl rfl (Int.natCast_nonneg _) (encC_get (i := (i : Nat)) hx) (encC_flat _) rfl ?_
        refine O_h rfl rfl rfl rfl ?_
        refine O_n rfl rfl rfl ?_
        refine O_p rfl rfl rfl ?_
        refine O_hn rfl rfl rfl rfl ?_
        refine WO_nil ?_
        refine WL_seq ?_
        apply WL_prune
        · (repeat (first | exact restr_nil | apply restr_cons rfl | apply restr_none rfl))
        refine WL_seq ?_
        refine WL_reg ?_
        refine O_p rfl rfl rfl ?_
        refine O_p rfl rfl rfl ?_
        refine O_ia rfl rfl (Int.natCast_nonneg _) (encC_get (i := (i : Nat)) hy) (encC_flat _) rfl ?_
        refine O_h rfl rfl rfl rfl ?_
        refine O_n rfl rfl rfl ?_
        refine O_hn rfl rfl rfl rfl ?_
        refine WO_nil ?_
        refine WL_seq ?_
        apply WL_prune
        · (repeat (first | exact restr_nil | apply restr_cons rfl | apply restr_none rfl))
        refine WL_seq ?_
        refine WL_reg ?_
        refine O_p rfl rfl rfl ?_
        refine O_h rfl rfl rfl rfl ?_
        refine O_h rfl rfl rfl rfl ?_
        refine O_cv rfl rfl (callA_of rfl (hf x hmx y)) ?_
        refine O_p rfl rfl rfl ?_
        refine WO_nil ?_
        refine WL_seq ?_
        apply WL_prune
        · (repeat (first | exact restr_nil | apply restr_cons rfl | apply restr_none rfl))
        refine WL_cond rfl (fun h30 => ?_) (fun h30 => ?_)
        · skip
          have hr : sameCs l m = false := by
            simp at h30
            rw [hs, drop_of hx, drop_of hy]; simp [sameCs, h30]
          refine WL_seq ?_
          refine WL_reg ?_
          refine O_p rfl rfl rfl ?_
          refine WO_nil ?_
          refine WL_ret ?_
          refine Blk_ret ?_
          refine RndC_ret ?_
          refine Blk_ret ?_
          exact ⟨_, rfl, _, rfl, by rw [hr]⟩
        · skip
          refine WL_skip ?_
          refine WL_nil ?_
          refine Blk_norm (?_ : WL _ _ _ _ _)
          refine WL_seq ?_
          apply WL_prune
          · (repeat (first | exact restr_nil | apply restr_cons rfl | apply restr_none rfl))
          refine WL_reg ?_
          refine O_p rfl rfl rfl ?_
          refine O_p rfl rfl rfl ?_
          refine WO_nil ?_
          refine WL_nil ?_
          simp at h30
          refine RndC_norm (i + 1) (by refine ⟨by omega, ?_⟩; rw [hs, drop_of hx, drop_of hy, sameCs, h30]; rfl) (by show _ < _; omega) ?_ rfl
          · rw [wrap_succ (by omega)]; (repeat (first | exact restr_nil | apply restr_cons rfl | apply restr_none rfl))
      · skip
        have hr : sameCs l m = true := by
          simp at h18
          rw [hs, List.drop_eq_nil_of_le (by omega), List.drop_eq_nil_of_le (by omega)]; rfl
        refine WL_exit ?_
        refine RndC_exit ?_
        refine Blk_exit (?_ : WL _ _ _ _ _)
        refine WL_seq ?_
        apply WL_prune
        · (repeat (first | exact restr_nil | apply restr_cons rfl | apply restr_none rfl))
        refine WL_seq ?_
        refine WL_reg ?_
        refine O_p rfl rfl rfl ?_
        refine WO_nil ?_
        refine WL_ret ?_
        exact ⟨_, rfl, _, rfl, by rw [hr]⟩
theorem same_c : ∀ (n : Nat) (a b : Co), 10 * szC a < n → SmC a → pcall (tabOf tabL) n 25 [vC a, vC b] = some (.ok (.bool (sameC a b)))
  | 0, a, b, h, _ => by omega
  | n + 1, a, b, h, hw => by
    have hz := szC_pos a
    obtain ⟨n, rfl⟩ : ∃ m, n = m + 3 := ⟨n - 3, by omega⟩
    have ih := same_c (n + 2)
    have hp := lenC_pairs a
    have hf := lenC_funs a
    cases hw with | mk w4 w5 w6 w7 =>
    have e1 := equal_c (n + 2) a.pairs b.pairs 25 (by omega) (by omega) (fun x hx y => ih x y (by have := szC_pairs hx; omega) (w6 x hx))
    have e2 := equal_c (n + 2) a.funs b.funs 25 (by omega) (by omega) (fun x hx y => ih x y (by have := szC_funs hx; omega) (w7 x hx))
    refine pcall_fin t25 ?_
    refine WL_seq ?_
    refine WL_reg ?_
    refine O_n rfl rfl rfl ?_
    refine O_n rfl rfl rfl ?_
    refine O_p rfl rfl rfl ?_
    refine WO_nil ?_
    refine WL_seq ?_
    apply WL_prune
    · (repeat (first | exact restr_nil | apply restr_cons rfl | apply restr_none rfl))
    refine WL_seq ?_
    refine WL_reg ?_
    refine O_p rfl rfl rfl ?_
    refine O_h rfl rfl rfl rfl ?_
    refine O_p rfl rfl rfl ?_
    refine O_h rfl rfl rfl rfl ?_
    refine O_p rfl rfl rfl ?_
    refine O_p rfl rfl rfl ?_
    apply O_and [_, _, _, _, _] rfl rfl (hT := ?hT16) (h := ?hR16)
    case hT16 =>
      intro hb10
      refine O_p rfl rfl rfl ?_
      refine O_h rfl rfl rfl rfl ?_
      refine O_p rfl rfl rfl ?_
      refine O_h rfl rfl rfl rfl ?_
      refine O_p rfl rfl rfl ?_
      exact WO_nil (WL_nil ⟨rfl, rfl, rfl⟩)
    case hR16 =>
      intro vs hvs
      obtain ⟨u11, u12, u13, u14, u15, rfl⟩ := len5 hvs
      clear hvs; dsimp only [junk]
      refine O_p rfl rfl rfl ?_
      apply O_and [_, _, _, _, _] rfl rfl (hT := ?hT23) (h := ?hR23)
      case hT23 =>
        intro hb17
        refine O_p rfl rfl rfl ?_
        refine O_h rfl rfl rfl rfl ?_
        refine O_p rfl rfl rfl ?_
        refine O_h rfl rfl rfl rfl ?_
        refine O_p rfl rfl rfl ?_
        exact WO_nil (WL_nil ⟨rfl, rfl, rfl⟩)
      case hR23 =>
        intro vs hvs
        obtain ⟨u18, u19, u20, u21, u22, rfl⟩ := len5 hvs
        clear hvs; dsimp only [junk]
        refine O_p rfl rfl rfl ?_
        apply O_and [_, _, _, _, _] rfl rfl (hT := ?hT30) (h := ?hR30)
        case hT30 =>
          intro hb24
          refine O_p rfl rfl rfl ?_
          refine O_h rfl rfl rfl rfl ?_
          refine O_p rfl rfl rfl ?_
          refine O_h rfl rfl rfl rfl ?_
          refine O_p rfl rfl rfl ?_
          exact WO_nil (WL_nil ⟨rfl, rfl, rfl⟩)
        case hR30 =>
          intro vs hvs
          obtain ⟨u25, u26, u27, u28, u29, rfl⟩ := len5 hvs
          clear hvs; dsimp only [junk]
          refine O_p rfl rfl rfl ?_
          apply O_and [_, _, _, _, _] rfl rfl (hT := ?hT37) (h := ?hR37)
          case hT37 =>
            intro hb31
            refine O_p rfl rfl rfl ?_
            refine O_h rfl rfl rfl rfl ?_
            refine O_p rfl rfl rfl ?_
            refine O_h rfl rfl rfl rfl ?_
            refine O_p rfl rfl rfl ?_
            exact WO_nil (WL_nil ⟨rfl, rfl, rfl⟩)
          case hR37 =>
            intro vs hvs
            obtain ⟨u32, u33, u34, u35, u36, rfl⟩ := len5 hvs
            clear hvs; dsimp only [junk]
            refine O_p rfl rfl rfl ?_
            apply O_and [_, _, _, _, _] rfl rfl (hT := ?hT44) (h := ?hR44)
            case hT44 =>
              intro hb38
              refine O_p rfl rfl rfl ?_
              refine O_h rfl rfl rfl rfl ?_
              refine O_p rfl rfl rfl ?_
              refine O_h rfl rfl rfl rfl ?_
              refine O_c 52 rfl rfl (callA_of rfl e1) ?_
              exact WO_nil (WL_nil ⟨rfl, rfl, rfl⟩)
            case hR44 =>
              intro vs hvs
              obtain ⟨u39, u40, u41, u42, u43, rfl⟩ := len5 hvs
              clear hvs; dsimp only [junk]
              refine O_p rfl rfl rfl ?_
              apply O_and [_, _, _, _, _] rfl rfl (hT := ?hT51) (h := ?hR51)
              case hT51 =>
                intro hb45
                refine O_p rfl rfl rfl ?_
                refine O_h rfl rfl rfl rfl ?_
                refine O_p rfl rfl rfl ?_
                refine O_h rfl rfl rfl rfl ?_
                refine O_c 52 rfl rfl (callA_of rfl e2) ?_
                exact WO_nil (WL_nil ⟨rfl, rfl, rfl⟩)
              case hR51 =>
                intro vs hvs
                obtain ⟨u46, u47, u48, u49, u50, rfl⟩ := len5 hvs
                clear hvs; dsimp only [junk]
                refine O_p rfl rfl rfl ?_
                refine WO_nil ?_
                refine WL_ret ?_
                exact ⟨_, rfl, _, rfl, by rw [sameC_eq]; rfl⟩
theorem flats_c (n : Nat) (c : Co) (h : 6 < n) : pcall (tabOf tabL) (n + 1) 53 [vC c] = some (.ok (.bool (six (fun i => decide (c.flat i = 0))))) := by
  refine pcall_fin t53 ?_
  refine WL_seq ?_
  refine WL_reg ?_
  refine O_n rfl rfl rfl ?_
  refine O_p rfl rfl rfl ?_
  refine WO_nil ?_
  refine WL_seq ?_
  apply WL_prune
  · (repeat (first | exact restr_nil | apply restr_cons rfl | apply restr_none rfl))
  refine WL_seq ?_
  refine WL_seq ?_
  refine WL_reg ?_
  refine O_p rfl rfl rfl ?_
  refine WO_nil ?_
  refine WL_seq ?_
  apply WL_prune
  · (repeat (first | exact restr_nil | apply restr_cons rfl | apply restr_none rfl))
  refine WL_block ?_
  apply WL_forc (α := Nat) (fun i => [(3, .int .i64 (i : Nat))]) (fun i => i ≤ 6 ∧ ∀ j, j < i → c.flat j = 0) (fun i => 6 - i) (0) (he := ?he) (hP := ?hP) (hk := ?hk) (round := ?round)
  case he =>
    (repeat (first | exact restr_nil | apply restr_cons rfl | apply restr_none rfl))
  case hP =>
    exact ⟨by omega, fun j hj => by omega⟩
  case hk =>
    show 6 - 0 < n; omega
  case round =>
    rintro i ⟨hi, hs⟩
    dsimp only [List.cons_append, List.nil_append] at *
    refine WL_seq ?_
    refine WL_seq ?_
    refine WL_reg ?_
    refine O_p rfl rfl rfl ?_
    refine O_p rfl rfl rfl ?_
    refine WO_nil ?_
    refine WL_seq ?_
    apply WL_prune
    · (repeat (first | exact restr_nil | apply restr_cons rfl | apply restr_none rfl))
    refine WL_cond rfl (fun h5 => ?_) (fun h5 => ?_)
    · skip
      replace h5 : i < 6 := by simp at h5; omega
      refine WL_skip ?_
      refine WL_seq ?_
      apply WL_prune
      · (repeat (first | exact restr_nil | apply restr_cons rfl | apply restr_none rfl))
      refine WL_seq ?_
      refine WL_block ?_
      refine WL_seq ?_
      refine WL_reg ?_
      refine O_p rfl rfl rfl ?_
      refine O_p rfl rfl rfl ?_
      refine O_iaa rfl rfl h5 ?_
      refine O_ld rfl rfl (by simp; exact cC_get h5) ?_
      refine O_p rfl rfl rfl ?_
      refine WO_nil ?_
      refine WL_seq ?_
      apply WL_prune
      · (repeat (first | exact restr_nil | apply restr_cons rfl | apply restr_none rfl))
      refine WL_cond rfl (fun h12 => ?_) (fun h12 => ?_)
      · skip
        have hr : six (fun i => decide (c.flat i = 0)) = false := by
          simp at h12
          cases q : six (fun i => decide (c.flat i = 0)) with
          | false => rfl
          | true => exact absurd (six_at q h5) (by simpa using h12)
        refine WL_seq ?_
        refine WL_reg ?_
        refine O_p rfl rfl rfl ?_
        refine WO_nil ?_
        refine WL_ret ?_
        refine Blk_ret ?_
        refine RndC_ret ?_
        refine Blk_ret ?_
        exact ⟨_, rfl, _, rfl, by rw [hr]⟩
      · skip
        simp at h12
        refine WL_skip ?_
        refine WL_nil ?_
        refine Blk_norm (?_ : WL _ _ _ _ _)
        refine WL_seq ?_
        apply WL_prune
        · (repeat (first | exact restr_nil | apply restr_cons rfl | apply restr_none rfl))
        refine WL_reg ?_
        refine O_p rfl rfl rfl ?_
        refine O_p rfl rfl rfl ?_
        refine O_p rfl rfl rfl ?_
        refine WO_nil ?_
        refine WL_nil ?_
        refine RndC_norm (i + 1) (by refine ⟨by omega, fun j hj => ?_⟩; rcases Nat.lt_succ_iff_lt_or_eq.1 hj with q | q; exact hs j q; rw [q]; exact h12) (by show _ < _; omega) ?_ rfl
        · rw [wrap_succ (by omega)]; (repeat (first | exact restr_nil | apply restr_cons rfl | apply restr_none rfl))
    · skip
      have hr : six (fun i => decide (c.flat i = 0)) = true := by
        simp at h5
        simp [six, hs 0 (by omega), hs 1 (by omega), hs 2 (by omega), hs 3 (by omega), hs 4 (by omega), hs 5 (by omega)]
      refine WL_exit ?_
      refine RndC_exit ?_
      refine Blk_exit (?_ : WL _ _ _ _ _)
      refine WL_seq ?_
      apply WL_prune
      · (repeat (first | exact restr_nil | apply restr_cons rfl | apply restr_none rfl))
      refine WL_seq ?_
      refine WL_reg ?_
      refine O_p rfl rfl rfl ?_
      refine WO_nil ?_
      refine WL_ret ?_
      exact ⟨_, rfl, _, rfl, by rw [hr]⟩
end Go.Ev.Seat
