/-
  The functions about types: cars, cdrs, whether one is of another, joins.
-/
import Derived.Test.YtpidcekngfnfjaaTypes1
import Derived.Test.YtpidcekngfnfjaaTyB
set_option linter.unusedVariables false
set_option linter.unusedSimpArgs false
namespace Go.Ev.Seat
open Go Go.Ev
set_option maxRecDepth 20000
attribute [local irreducible] pcall callF
theorem list_c (n : Nat) (t : Ty) : pcall (tabOf tabL) (n + 1) 23 [vT t] = some (.ok (vT (listT t))) := by
  refine pcall_fin t23 ?_
  refine WL_seq ?_
  refine WL_reg ?_
  refine O_n rfl rfl rfl ?_
  refine O_n rfl rfl rfl ?_
  refine WO_nil ?_
  refine WL_seq ?_
  apply WL_prune
  · (repeat (first | exact restr_nil | apply restr_cons rfl | apply restr_none rfl))
  refine WL_seq ?_
  refine WL_reg ?_
  refine O_h rfl rfl rfl rfl ?_
  refine O_h rfl rfl rfl rfl ?_
  refine O_p rfl rfl rfl ?_
  refine O_hn rfl rfl rfl rfl ?_
  refine WO_nil ?_
  refine WL_ret ?_
  exact ⟨_, rfl, _, rfl, by simp [vT, cT, listT, encT_eq, Ty.all, Ty.flat, Ty.pair, Ty.pairs, Ty.fn, Ty.funs]⟩
theorem list_ref (n : Nat) (t : Ty) : pcall (tabOf tabL) (n + 1) 24 [vT t] = some (.ok (vT (listT t))) := by
  refine pcall_fin t24 ?_
  refine WL_seq ?_
  refine WL_reg ?_
  refine O_n rfl rfl rfl ?_
  refine O_n rfl rfl rfl ?_
  refine WO_nil ?_
  refine WL_seq ?_
  apply WL_prune
  · (repeat (first | exact restr_nil | apply restr_cons rfl | apply restr_none rfl))
  refine WL_seq ?_
  refine WL_reg ?_
  refine O_h rfl rfl rfl rfl ?_
  refine O_h rfl rfl rfl rfl ?_
  refine O_p rfl rfl rfl ?_
  refine O_hn rfl rfl rfl rfl ?_
  refine WO_nil ?_
  refine WL_ret ?_
  exact ⟨_, rfl, _, rfl, by simp [vT, cT, listT, encT_eq, Ty.all, Ty.flat, Ty.pair, Ty.pairs, Ty.fn, Ty.funs]⟩
theorem all_c (n : Nat) : pcall (tabOf tabL) (n + 1) 27 [] = some (.ok (vT allT)) := by
  refine pcall_fin t27 ?_
  refine WL_seq ?_
  refine WL_reg ?_
  refine O_n rfl rfl rfl ?_
  refine WO_nil ?_
  refine WL_seq ?_
  apply WL_prune
  · (repeat (first | exact restr_nil | apply restr_cons rfl | apply restr_none rfl))
  refine WL_seq ?_
  refine WL_reg ?_
  refine O_p rfl rfl rfl ?_
  refine O_hn rfl rfl rfl rfl ?_
  refine WO_nil ?_
  refine WL_ret ?_
  exact ⟨_, rfl, _, rfl, rfl⟩
theorem car_c (n : Nat) (t : Ty) (h : Rt t) : pcall (tabOf tabL) (n + 1) 14 [vT t] = some (.ok (.tup [vT (carT t), .bool (hasT t)])) := by
  refine pcall_fin t14 ?_
  refine WL_seq ?_
  refine WL_reg ?_
  refine O_n rfl rfl rfl ?_
  refine O_n rfl rfl rfl ?_
  refine O_p rfl rfl rfl ?_
  refine WO_nil ?_
  refine WL_seq ?_
  apply WL_prune
  · (repeat (first | exact restr_nil | apply restr_cons rfl | apply restr_none rfl))
  refine WL_seq ?_
  refine WL_block ?_
  refine WL_seq ?_
  refine WL_reg ?_
  refine O_p rfl rfl rfl ?_
  refine O_h rfl rfl rfl rfl ?_
  refine O_p rfl rfl rfl ?_
  refine WO_nil ?_
  refine WL_seq ?_
  apply WL_prune
  · (repeat (first | exact restr_nil | apply restr_cons rfl | apply restr_none rfl))
  refine WL_cond rfl (fun h4 => ?_) (fun h4 => ?_)
  · skip
    have hr : carT t = t := by simp [carT, h4]
    have hr2 : hasT t = true := by simp [hasT, h4]
    refine WL_seq ?_
    refine WL_reg ?_
    refine O_h rfl rfl rfl rfl ?_
    refine O_hn rfl rfl rfl rfl ?_
    refine O_p rfl rfl rfl ?_
    refine WO_nil ?_
    refine WL_ret ?_
    refine Blk_ret ?_
    exact ⟨_, rfl, _, rfl, by rw [hr, hr2]; rfl⟩
  · skip
    refine WL_seq ?_
    refine WL_reg ?_
    refine O_p rfl rfl rfl ?_
    refine O_h rfl rfl rfl rfl ?_
    refine O_p rfl rfl rfl ?_
    refine O_p rfl rfl rfl ?_
    refine WO_nil ?_
    refine WL_seq ?_
    apply WL_prune
    · (repeat (first | exact restr_nil | apply restr_cons rfl | apply restr_none rfl))
    refine WL_cond rfl (fun h8 => ?_) (fun h8 => ?_)
    · skip
      simp at h8
      have hr : carT t = zeroT := by simp [carT, h4, h8]
      have hr2 : hasT t = false := by simp [hasT, h4, h8]
      refine WL_seq ?_
      refine WL_reg ?_
      refine O_p rfl rfl rfl ?_
      refine O_hn rfl rfl rfl rfl ?_
      refine O_p rfl rfl rfl ?_
      refine WO_nil ?_
      refine WL_ret ?_
      refine Blk_ret ?_
      exact ⟨_, rfl, _, rfl, by rw [hr, hr2]; rfl⟩
    · skip
      simp at h8
      obtain ⟨x, hx⟩ : ∃ x, t.pairs[0]? = some x := by
        have hm := (car_facts h h4 h8).1
        exact ⟨_, List.getElem?_eq_getElem (by have := List.length_pos_of_mem hm; omega)⟩
      have hr : carT t = x := by
        simp only [carT, h4, h8, if_false, Bool.false_eq_true]
        cases hp : t.pairs with
        | nil => rw [hp] at hx; cases hx
        | cons y ys => rw [hp] at hx; simpa using hx
      have hr2 : hasT t = true := by simp [hasT, h8]
      refine WL_skip ?_
      refine WL_nil ?_
      refine Blk_norm (?_ : WL _ _ _ _ _)
      refine WL_seq ?_
      apply WL_prune
      · (repeat (first | exact restr_nil | apply restr_cons rfl | apply restr_none rfl))
      refine WL_seq ?_
      refine WL_reg ?_
      refine O_p rfl rfl rfl ?_
      refine O_h rfl rfl rfl rfl ?_
      refine O_ia rfl rfl (by decide) (encT_get (i := 0) hx) (encT_flat _) rfl ?_
      refine O_h rfl rfl rfl rfl ?_
      refine O_hn rfl rfl rfl rfl ?_
      refine O_p rfl rfl rfl ?_
      refine WO_nil ?_
      refine WL_ret ?_
      exact ⟨_, rfl, _, rfl, by rw [hr, hr2]; rfl⟩
theorem car_ref (n : Nat) (t : Ty) (h : Rt t) : pcall (tabOf tabL) (n + 1) 15 [vT t] = some (.ok (.tup [vT (carT t), .bool (hasT t)])) := by
  refine pcall_fin t15 ?_
  refine WL_seq ?_
  refine WL_reg ?_
  refine O_n rfl rfl rfl ?_
  refine O_n rfl rfl rfl ?_
  refine O_p rfl rfl rfl ?_
  refine WO_nil ?_
  refine WL_seq ?_
  apply WL_prune
  · (repeat (first | exact restr_nil | apply restr_cons rfl | apply restr_none rfl))
  refine WL_seq ?_
  refine WL_seq ?_
  refine WL_reg ?_
  refine O_p rfl rfl rfl ?_
  refine O_h rfl rfl rfl rfl ?_
  refine WO_nil ?_
  refine WL_seq ?_
  apply WL_prune
  · (repeat (first | exact restr_nil | apply restr_cons rfl | apply restr_none rfl))
  refine WL_cond rfl (fun h5 => ?_) (fun h5 => ?_)
  · skip
    have hr : carT t = allT := by rw [(okT_facts h.ok).2.2.2.1 h5]; rfl
    have hr2 : hasT t = true := by simp [hasT, h5]
    refine WL_seq ?_
    refine WL_reg ?_
    refine O_p rfl rfl rfl ?_
    refine O_hn rfl rfl rfl rfl ?_
    refine O_p rfl rfl rfl ?_
    refine WO_nil ?_
    refine WL_ret ?_
    exact ⟨_, rfl, _, rfl, by rw [hr, hr2]; rfl⟩
  · skip
    refine WL_skip ?_
    refine WL_seq ?_
    apply WL_prune
    · (repeat (first | exact restr_nil | apply restr_cons rfl | apply restr_none rfl))
    refine WL_seq ?_
    refine WL_seq ?_
    refine WL_reg ?_
    refine O_p rfl rfl rfl ?_
    refine O_h rfl rfl rfl rfl ?_
    refine O_p rfl rfl rfl ?_
    refine O_p rfl rfl rfl ?_
    apply O_or [_, _, _, _] rfl rfl (hT := ?hT15) (h := ?hR15)
    case hT15 =>
      intro hb10
      refine O_p rfl rfl rfl ?_
      refine O_h rfl rfl rfl rfl ?_
      refine O_h rfl rfl rfl rfl ?_
      refine O_p rfl rfl rfl ?_
      exact WO_nil (WL_nil ⟨rfl, rfl, rfl⟩)
    case hR15 =>
      intro vs hvs
      obtain ⟨u11, u12, u13, u14, rfl⟩ := len4 hvs
      clear hvs; dsimp only [junk]
      refine WO_nil ?_
      refine WL_seq ?_
      apply WL_prune
      · (repeat (first | exact restr_nil | apply restr_cons rfl | apply restr_none rfl))
      try clear u11 u12 u13 u14
      refine WL_cond rfl (fun h15 => ?_) (fun h15 => ?_)
      · skip
        simp at h15
        have h15 : t.pair = 0 := by
          by_cases hp : t.pair = 0
          · exact hp
          · have := (car_facts h h5 hp).1; rcases h15 with q | q; exact q; rw [q] at this; cases this
        have hr : carT t = zeroT := by simp [carT, h5, h15]
        have hr2 : hasT t = false := by simp [hasT, h5, h15]
        refine WL_seq ?_
        refine WL_reg ?_
        refine O_p rfl rfl rfl ?_
        refine O_hn rfl rfl rfl rfl ?_
        refine O_p rfl rfl rfl ?_
        refine WO_nil ?_
        refine WL_ret ?_
        exact ⟨_, rfl, _, rfl, by rw [hr, hr2]; rfl⟩
      · skip
        simp at h15
        have h8 := h15.1
        obtain ⟨x, hx⟩ : ∃ x, t.pairs[0]? = some x := by
          have hm := (car_facts h h5 h8).1
          exact ⟨_, List.getElem?_eq_getElem (by have := List.length_pos_of_mem hm; omega)⟩
        have hr : carT t = x := by
          simp only [carT, h5, h8, if_false, Bool.false_eq_true]
          cases hp : t.pairs with
          | nil => rw [hp] at hx; cases hx
          | cons y ys => rw [hp] at hx; simpa using hx
        have hr2 : hasT t = true := by simp [hasT, h8]
        refine WL_skip ?_
        refine WL_seq ?_
        apply WL_prune
        · (repeat (first | exact restr_nil | apply restr_cons rfl | apply restr_none rfl))
        refine WL_seq ?_
        refine WL_reg ?_
        refine O_p rfl rfl rfl ?_
        refine O_h rfl rfl rfl rfl ?_
        refine O_ia rfl rfl (by decide) (encT_get (i := 0) hx) (encT_flat _) rfl ?_
        refine O_h rfl rfl rfl rfl ?_
        refine O_hn rfl rfl rfl rfl ?_
        refine O_p rfl rfl rfl ?_
        refine WO_nil ?_
        refine WL_ret ?_
        exact ⟨_, rfl, _, rfl, by rw [hr, hr2]; rfl⟩
theorem cdr_c (n : Nat) (t : Ty) (h : Rt t) : pcall (tabOf tabL) (n + 2) 16 [vT t] = some (.ok (.tup [vT (cdrT t), .bool (hasT t)])) := by
  have hk := okT_facts h.ok
  refine pcall_fin t16 ?_
  refine WL_seq ?_
  refine WL_reg ?_
  refine O_n rfl rfl rfl ?_
  refine O_n rfl rfl rfl ?_
  refine O_p rfl rfl rfl ?_
  refine WO_nil ?_
  refine WL_seq ?_
  apply WL_prune
  · (repeat (first | exact restr_nil | apply restr_cons rfl | apply restr_none rfl))
  refine WL_seq ?_
  refine WL_block ?_
  refine WL_seq ?_
  refine WL_reg ?_
  refine O_p rfl rfl rfl ?_
  refine O_h rfl rfl rfl rfl ?_
  refine O_p rfl rfl rfl ?_
  refine WO_nil ?_
  refine WL_seq ?_
  apply WL_prune
  · (repeat (first | exact restr_nil | apply restr_cons rfl | apply restr_none rfl))
  refine WL_cond rfl (fun h4 => ?_) (fun h4 => ?_)
  · skip
    have hr : cdrT t = t := by simp [cdrT, h4]
    have hr2 : hasT t = true := by simp [hasT, h4]
    refine WL_seq ?_
    refine WL_reg ?_
    refine O_h rfl rfl rfl rfl ?_
    refine O_hn rfl rfl rfl rfl ?_
    refine O_p rfl rfl rfl ?_
    refine WO_nil ?_
    refine WL_ret ?_
    refine Blk_ret ?_
    exact ⟨_, rfl, _, rfl, by rw [hr, hr2]; rfl⟩
  · skip
    refine WL_seq ?_
    refine WL_reg ?_
    refine O_p rfl rfl rfl ?_
    refine O_h rfl rfl rfl rfl ?_
    refine O_p rfl rfl rfl ?_
    refine O_p rfl rfl rfl ?_
    refine WO_nil ?_
    refine WL_seq ?_
    apply WL_prune
    · (repeat (first | exact restr_nil | apply restr_cons rfl | apply restr_none rfl))
    refine WL_cond rfl (fun h8 => ?_) (fun h8 => ?_)
    · skip
      simp at h8
      have hr : cdrT t = zeroT := by simp [cdrT, h4, h8]
      have hr2 : hasT t = false := by simp [hasT, h4, h8]
      refine WL_seq ?_
      refine WL_reg ?_
      refine O_p rfl rfl rfl ?_
      refine O_hn rfl rfl rfl rfl ?_
      refine O_p rfl rfl rfl ?_
      refine WO_nil ?_
      refine WL_ret ?_
      refine Blk_ret ?_
      exact ⟨_, rfl, _, rfl, by rw [hr, hr2]; rfl⟩
    · skip
      simp at h8
      have hr2 : hasT t = true := by simp [hasT, h8]
      refine WL_seq ?_
      refine WL_reg ?_
      refine O_p rfl rfl rfl ?_
      refine O_h rfl rfl rfl rfl ?_
      refine O_p rfl rfl rfl ?_
      refine O_p rfl rfl rfl ?_
      refine WO_nil ?_
      refine WL_seq ?_
      apply WL_prune
      · (repeat (first | exact restr_nil | apply restr_cons rfl | apply restr_none rfl))
      refine WL_cond rfl (fun h13 => ?_) (fun h13 => ?_)
      · skip
        simp at h13
        obtain ⟨x, hp⟩ := hk.2.2.2.2.2.2.1 h13
        have hx : t.pairs[0]? = some x := by rw [hp]; rfl
        have hr : cdrT t = listT x := by simp [cdrT, h4, h8, h13, hp]
        refine WL_seq ?_
        refine WL_reg ?_
        refine O_p rfl rfl rfl ?_
        refine O_h rfl rfl rfl rfl ?_
        refine O_ia rfl rfl (by decide) (encT_get (i := 0) hx) (encT_flat _) rfl ?_
        refine O_h rfl rfl rfl rfl ?_
        refine O_c 23 rfl rfl (callA_of rfl (list_c n x)) ?_
        refine O_hn rfl rfl rfl rfl ?_
        refine O_p rfl rfl rfl ?_
        refine WO_nil ?_
        refine WL_ret ?_
        refine Blk_ret ?_
        exact ⟨_, rfl, _, rfl, by rw [hr, hr2]; rfl⟩
      · skip
        simp at h13
        obtain ⟨y, x, hp⟩ := hk.2.2.2.2.2.1 (by omega)
        have hx : t.pairs[1]? = some x := by rw [hp]; rfl
        have hr : cdrT t = x := by simp [cdrT, h4, h8, h13, hp]
        refine WL_skip ?_
        refine WL_nil ?_
        refine Blk_norm (?_ : WL _ _ _ _ _)
        refine WL_seq ?_
        apply WL_prune
        · (repeat (first | exact restr_nil | apply restr_cons rfl | apply restr_none rfl))
        refine WL_seq ?_
        refine WL_reg ?_
        refine O_p rfl rfl rfl ?_
        refine O_h rfl rfl rfl rfl ?_
        refine O_ia rfl rfl (by decide) (encT_get (i := 1) hx) (encT_flat _) rfl ?_
        refine O_h rfl rfl rfl rfl ?_
        refine O_hn rfl rfl rfl rfl ?_
        refine O_p rfl rfl rfl ?_
        refine WO_nil ?_
        refine WL_ret ?_
        exact ⟨_, rfl, _, rfl, by rw [hr, hr2]; rfl⟩
theorem cdr_ref (n : Nat) (t : Ty) (h : Rt t) : pcall (tabOf tabL) (n + 2) 17 [vT t] = some (.ok (.tup [vT (cdrT t), .bool (hasT t)])) := by
  have hk := okT_facts h.ok
  refine pcall_fin t17 ?_
  refine WL_seq ?_
  refine WL_reg ?_
  refine O_n rfl rfl rfl ?_
  refine O_n rfl rfl rfl ?_
  refine O_p rfl rfl rfl ?_
  refine WO_nil ?_
  refine WL_seq ?_
  apply WL_prune
  · (repeat (first | exact restr_nil | apply restr_cons rfl | apply restr_none rfl))
  refine WL_seq ?_
  refine WL_seq ?_
  refine WL_reg ?_
  refine O_p rfl rfl rfl ?_
  refine O_h rfl rfl rfl rfl ?_
  refine WO_nil ?_
  refine WL_seq ?_
  apply WL_prune
  · (repeat (first | exact restr_nil | apply restr_cons rfl | apply restr_none rfl))
  refine WL_cond rfl (fun h5 => ?_) (fun h5 => ?_)
  · skip
    have hr : cdrT t = allT := by rw [hk.2.2.2.1 h5]; rfl
    have hr2 : hasT t = true := by simp [hasT, h5]
    refine WL_seq ?_
    refine WL_reg ?_
    refine O_p rfl rfl rfl ?_
    refine O_hn rfl rfl rfl rfl ?_
    refine O_p rfl rfl rfl ?_
    refine WO_nil ?_
    refine WL_ret ?_
    exact ⟨_, rfl, _, rfl, by rw [hr, hr2]; rfl⟩
  · skip
    refine WL_skip ?_
    refine WL_seq ?_
    apply WL_prune
    · (repeat (first | exact restr_nil | apply restr_cons rfl | apply restr_none rfl))
    refine WL_seq ?_
    refine WL_seq ?_
    refine WL_reg ?_
    refine O_p rfl rfl rfl ?_
    refine O_h rfl rfl rfl rfl ?_
    refine O_p rfl rfl rfl ?_
    refine O_p rfl rfl rfl ?_
    apply O_and [_, _, _, _] rfl rfl (hT := ?hT15) (h := ?hR15)
    case hT15 =>
      intro hb10
      refine O_p rfl rfl rfl ?_
      refine O_h rfl rfl rfl rfl ?_
      refine O_h rfl rfl rfl rfl ?_
      refine O_p rfl rfl rfl ?_
      exact WO_nil (WL_nil ⟨rfl, rfl, rfl⟩)
    case hR15 =>
      intro vs hvs
      obtain ⟨u11, u12, u13, u14, rfl⟩ := len4 hvs
      clear hvs; dsimp only [junk]
      refine WO_nil ?_
      refine WL_seq ?_
      apply WL_prune
      · (repeat (first | exact restr_nil | apply restr_cons rfl | apply restr_none rfl))
      try clear u11 u12 u13 u14
      refine WL_cond rfl (fun h15 => ?_) (fun h15 => ?_)
      · skip
        simp at h15
        obtain ⟨x, hp⟩ := hk.2.2.2.2.2.2.1 h15.1
        have hx : t.pairs[0]? = some x := by rw [hp]; rfl
        have hr : cdrT t = listT x := by simp [cdrT, h5, h15.1, hp]
        have hr2 : hasT t = true := by simp [hasT, h15.1]
        refine WL_seq ?_
        refine WL_reg ?_
        refine O_p rfl rfl rfl ?_
        refine O_h rfl rfl rfl rfl ?_
        refine O_ia rfl rfl (by decide) (encT_get (i := 0) hx) (encT_flat _) rfl ?_
        refine O_h rfl rfl rfl rfl ?_
        refine O_c 24 rfl rfl (callA_of rfl (list_ref n x)) ?_
        refine O_hn rfl rfl rfl rfl ?_
        refine O_p rfl rfl rfl ?_
        refine WO_nil ?_
        refine WL_ret ?_
        exact ⟨_, rfl, _, rfl, by rw [hr, hr2]; rfl⟩
      · skip
        refine WL_skip ?_
        refine WL_seq ?_
        apply WL_prune
        · (repeat (first | exact restr_nil | apply restr_cons rfl | apply restr_none rfl))
        refine WL_seq ?_
        refine WL_seq ?_
        refine WL_reg ?_
        refine O_p rfl rfl rfl ?_
        refine O_h rfl rfl rfl rfl ?_
        refine O_p rfl rfl rfl ?_
        refine O_p rfl rfl rfl ?_
        apply O_and [_, _, _, _] rfl rfl (hT := ?hT29) (h := ?hR29)
        case hT29 =>
          intro hb24
          refine O_p rfl rfl rfl ?_
          refine O_h rfl rfl rfl rfl ?_
          refine O_h rfl rfl rfl rfl ?_
          refine O_p rfl rfl rfl ?_
          exact WO_nil (WL_nil ⟨rfl, rfl, rfl⟩)
        case hR29 =>
          intro vs hvs
          obtain ⟨u25, u26, u27, u28, rfl⟩ := len4 hvs
          clear hvs; dsimp only [junk]
          refine WO_nil ?_
          refine WL_seq ?_
          apply WL_prune
          · (repeat (first | exact restr_nil | apply restr_cons rfl | apply restr_none rfl))
          try clear u25 u26 u27 u28
          refine WL_cond rfl (fun h29 => ?_) (fun h29 => ?_)
          · skip
            simp at h29
            obtain ⟨y, x, hp⟩ := hk.2.2.2.2.2.1 h29.1
            have hx : t.pairs[1]? = some x := by rw [hp]; rfl
            have hr : cdrT t = x := by simp [cdrT, h5, h29.1, hp]
            have hr2 : hasT t = true := by simp [hasT, h29.1]
            refine WL_seq ?_
            refine WL_reg ?_
            refine O_p rfl rfl rfl ?_
            refine O_h rfl rfl rfl rfl ?_
            refine O_ia rfl rfl (by decide) (encT_get (i := 1) hx) (encT_flat _) rfl ?_
            refine O_h rfl rfl rfl rfl ?_
            refine O_hn rfl rfl rfl rfl ?_
            refine O_p rfl rfl rfl ?_
            refine WO_nil ?_
            refine WL_ret ?_
            exact ⟨_, rfl, _, rfl, by rw [hr, hr2]; rfl⟩
          · skip
            simp at h15 h29
            have hp0 : t.pair = 0 := by
              rcases (show t.pair = 0 ∨ t.pair = 1 ∨ t.pair = 2 by omega) with q | q | q
              · exact q
              · obtain ⟨y, x, hp⟩ := hk.2.2.2.2.2.1 q; have := h29 q; rw [hp] at this; simp at this
              · obtain ⟨x, hp⟩ := hk.2.2.2.2.2.2.1 q; have := h15 q; rw [hp] at this; simp at this
            have hr : cdrT t = zeroT := by simp [cdrT, h5, hp0]
            have hr2 : hasT t = false := by simp [hasT, h5, hp0]
            refine WL_skip ?_
            refine WL_seq ?_
            apply WL_prune
            · (repeat (first | exact restr_nil | apply restr_cons rfl | apply restr_none rfl))
            refine WL_seq ?_
            refine WL_reg ?_
            refine O_p rfl rfl rfl ?_
            refine O_hn rfl rfl rfl rfl ?_
            refine O_p rfl rfl rfl ?_
            refine WO_nil ?_
            refine WL_ret ?_
            exact ⟨_, rfl, _, rfl, by rw [hr, hr2]; rfl⟩

theorem sub1_c3 (m : Nat) (x y : Ty) (r is : Bool) (c0 c1 : ABlock) (h : pcall (tabOf tabL) m 20 [vT x, vT y] = some (.ok (.bool r))) (hl : lowH 3 [c0, c1, .cells [.bool is]] = true) :
    callA ⟨callF (tabOf tabL) (m + 1), m + 1⟩ false 37 [vT x, vT y, .ptr 2 0] [c0, c1, .cells [.bool is]] = some (.ok (.tup []), [c0, c1, .cells [.bool (is && r)]]) := by
  refine callA_hc (H1 := [c0, c1, .cells [.bool (is && r)], .cells (cT x), .cells (cT y)]) rfl ?_ (by simp) rfl rfl (by simpa [lowH, lowB, lowL, lowV] using hl)
  refine callF_fin t37 ?_
  refine WL_seq ?_
  refine WL_reg ?_
  refine O_n rfl rfl rfl ?_
  refine O_n rfl rfl rfl ?_
  refine WO_nil ?_
  refine WL_seq ?_
  apply WL_prune
  · (repeat (first | exact restr_nil | apply restr_cons rfl | apply restr_none rfl))
  refine WL_reg ?_
  refine O_h rfl rfl rfl rfl ?_
  refine O_p rfl rfl rfl ?_
  apply O_and [_, _, _] rfl rfl (hT := ?hT10) (h := ?hR10)
  case hT10 =>
    intro hb6
    refine O_h rfl rfl rfl rfl ?_
    refine O_h rfl rfl rfl rfl ?_
    refine O_c 20 rfl rfl (callA_of rfl h) ?_
    exact WO_nil (WL_nil ⟨rfl, rfl, rfl⟩)
  case hR10 =>
    intro vs hvs
    obtain ⟨u7, u8, u9, rfl⟩ := len3 hvs
    clear hvs; dsimp only [junk]
    refine O_hn rfl rfl rfl rfl ?_
    refine WO_nil ?_
    refine WL_nil ?_
    exact ⟨_, rfl, rfl, rfl⟩

theorem sub1_c7 (m : Nat) (x y : Ty) (r is : Bool) (c0 c1 c3 c4 c5 c6 : ABlock) (h : pcall (tabOf tabL) m 20 [vT x, vT y] = some (.ok (.bool r))) (hl : lowH 7 [c0, c1, .cells [.bool is], c3, c4, c5, c6] = true) :
    callA ⟨callF (tabOf tabL) (m + 1), m + 1⟩ false 37 [vT x, vT y, .ptr 2 0] [c0, c1, .cells [.bool is], c3, c4, c5, c6] = some (.ok (.tup []), [c0, c1, .cells [.bool (is && r)], c3, c4, c5, c6]) := by
  refine callA_hc (H1 := [c0, c1, .cells [.bool (is && r)], c3, c4, c5, c6, .cells (cT x), .cells (cT y)]) rfl ?_ (by simp) rfl rfl (by simpa [lowH, lowB, lowL, lowV] using hl)
  refine callF_fin t37 ?_
  refine WL_seq ?_
  refine WL_reg ?_
  refine O_n rfl rfl rfl ?_
  refine O_n rfl rfl rfl ?_
  refine WO_nil ?_
  refine WL_seq ?_
  apply WL_prune
  · (repeat (first | exact restr_nil | apply restr_cons rfl | apply restr_none rfl))
  refine WL_reg ?_
  refine O_h rfl rfl rfl rfl ?_
  refine O_p rfl rfl rfl ?_
  apply O_and [_, _, _] rfl rfl (hT := ?hT10) (h := ?hR10)
  case hT10 =>
    intro hb6
    refine O_h rfl rfl rfl rfl ?_
    refine O_h rfl rfl rfl rfl ?_
    refine O_c 20 rfl rfl (callA_of rfl h) ?_
    exact WO_nil (WL_nil ⟨rfl, rfl, rfl⟩)
  case hR10 =>
    intro vs hvs
    obtain ⟨u7, u8, u9, rfl⟩ := len3 hvs
    clear hvs; dsimp only [junk]
    refine O_hn rfl rfl rfl rfl ?_
    refine WO_nil ?_
    refine WL_nil ?_
    exact ⟨_, rfl, rfl, rfl⟩

theorem both_sub (m : Nat) (a b : Ty) (r1 r2 is : Bool) (c0 c1 : ABlock) (ha : Rt a) (hb : Rt b) (h1 : pcall (tabOf tabL) m 20 [vT (carT a), vT (carT b)] = some (.ok (.bool r1)))
    (h2 : ¬(a.pair = 2 ∧ b.pair = 2) → pcall (tabOf tabL) m 20 [vT (cdrT a), vT (cdrT b)] = some (.ok (.bool r2))) (hm : 1 ≤ m) (hl : lowH 3 [c0, c1, .cells [.bool is]] = true) :
    callA ⟨callF (tabOf tabL) (m + 2), m + 2⟩ false 35 [vT a, vT b, .fn 37 [.ptr 2 0]] [c0, c1, .cells [.bool is]] = some (.ok (.tup []), [c0, c1, .cells [.bool (is && (r1 && (if a.pair = 2 ∧ b.pair = 2 then true else r2)))]]) := by
  obtain ⟨m, rfl⟩ : ∃ q, m = q + 1 := ⟨m - 1, by omega⟩
  have hl0 : lowB 3 c0 = true ∧ lowB 3 c1 = true := by simp only [lowH, Bool.and_eq_true] at hl; exact ⟨hl.1, hl.2.1⟩
  have hl7 : lowB 7 c0 = true ∧ lowB 7 c1 = true := ⟨lowB_mono (by decide) hl0.1, lowB_mono (by decide) hl0.2⟩
  by_cases hp : a.pair = 2 ∧ b.pair = 2
  · refine callA_hc (H1 := [c0, c1, .cells [.bool (is && r1)], .cells (cT a), .cells (cT b), .cells (cT (carT a)), .cells (cT (carT b))]) rfl ?_ (by simp) rfl (by simp [hp]) (lowH_cons hl0.1 (lowH_cons hl0.2 rfl))
    refine callF_fin t35 ?_
    refine WL_seq ?_
    refine WL_reg ?_
    refine O_n rfl rfl rfl ?_
    refine O_n rfl rfl rfl ?_
    refine WO_nil ?_
    refine WL_seq ?_
    apply WL_prune
    · (repeat (first | exact restr_nil | apply restr_cons rfl | apply restr_none rfl))
    refine WL_seq ?_
    refine WL_reg ?_
    refine O_h rfl rfl rfl rfl ?_
    refine O_c 14 rfl rfl (callA_of rfl (car_c (m + 1) a ha)) ?_
    refine O_p rfl rfl rfl ?_
    refine O_p rfl rfl rfl ?_
    refine O_p rfl rfl rfl ?_
    refine O_n rfl rfl rfl ?_
    refine O_hn rfl rfl rfl rfl ?_
    refine O_p rfl rfl rfl ?_
    refine WO_nil ?_
    refine WL_seq ?_
    apply WL_prune
    · (repeat (first | exact restr_nil | apply restr_cons rfl | apply restr_none rfl))
    refine WL_seq ?_
    refine WL_reg ?_
    refine O_h rfl rfl rfl rfl ?_
    refine O_c 14 rfl rfl (callA_of rfl (car_c (m + 1) b hb)) ?_
    refine O_p rfl rfl rfl ?_
    refine O_p rfl rfl rfl ?_
    refine O_p rfl rfl rfl ?_
    refine O_n rfl rfl rfl ?_
    refine O_hn rfl rfl rfl rfl ?_
    refine O_p rfl rfl rfl ?_
    refine WO_nil ?_
    refine WL_seq ?_
    apply WL_prune
    · (repeat (first | exact restr_nil | apply restr_cons rfl | apply restr_none rfl))
    refine WL_seq ?_
    refine WL_reg ?_
    refine O_p rfl rfl rfl ?_
    refine O_h rfl rfl rfl rfl ?_
    refine O_h rfl rfl rfl rfl ?_
    refine O_cv rfl rfl (sub1_c7 (m + 1) (carT a) (carT b) r1 is c0 c1 _ _ _ _ h1 (lowH_cons hl7.1 (lowH_cons hl7.2 rfl))) ?_
    refine WO_nil ?_
    refine WL_seq ?_
    apply WL_prune
    · (repeat (first | exact restr_nil | apply restr_cons rfl | apply restr_none rfl))
    refine WL_seq ?_
    refine WL_seq ?_
    refine WL_reg ?_
    refine O_p rfl rfl rfl ?_
    refine O_h rfl rfl rfl rfl ?_
    refine O_p rfl rfl rfl ?_
    refine O_p rfl rfl rfl ?_
    apply O_and [_, _, _] rfl rfl (hT := ?hT31) (h := ?hR31)
    case hT31 =>
      intro hb27
      refine O_p rfl rfl rfl ?_
      refine O_h rfl rfl rfl rfl ?_
      refine O_p rfl rfl rfl ?_
      exact WO_nil (WL_nil ⟨rfl, rfl, rfl⟩)
    case hR31 =>
      intro vs hvs
      obtain ⟨u28, u29, u30, rfl⟩ := len3 hvs
      clear hvs; dsimp only [junk]
      refine WO_nil ?_
      refine WL_seq ?_
      apply WL_prune
      · (repeat (first | exact restr_nil | apply restr_cons rfl | apply restr_none rfl))
      try clear u28 u29 u30
      refine WL_cond rfl (fun h31 => ?_) (fun h31 => ?_)
      · skip
        refine WL_ret ?_
        exact ⟨_, rfl, rfl, rfl⟩
      · skip
        simp [hp] at h31
  · refine callA_hc (H1 := [c0, c1, .cells [.bool (is && r1 && r2)], .cells (cT a), .cells (cT b), .cells (cT (cdrT a)), .cells (cT (cdrT b))]) rfl ?_ (by simp) rfl (by simp [hp, Bool.and_assoc]) (lowH_cons hl0.1 (lowH_cons hl0.2 rfl))
    refine callF_fin t35 ?_
    refine WL_seq ?_
    refine WL_reg ?_
    refine O_n rfl rfl rfl ?_
    refine O_n rfl rfl rfl ?_
    refine WO_nil ?_
    refine WL_seq ?_
    apply WL_prune
    · (repeat (first | exact restr_nil | apply restr_cons rfl | apply restr_none rfl))
    refine WL_seq ?_
    refine WL_reg ?_
    refine O_h rfl rfl rfl rfl ?_
    refine O_c 14 rfl rfl (callA_of rfl (car_c (m + 1) a ha)) ?_
    refine O_p rfl rfl rfl ?_
    refine O_p rfl rfl rfl ?_
    refine O_p rfl rfl rfl ?_
    refine O_n rfl rfl rfl ?_
    refine O_hn rfl rfl rfl rfl ?_
    refine O_p rfl rfl rfl ?_
    refine WO_nil ?_
    refine WL_seq ?_
    apply WL_prune
    · (repeat (first | exact restr_nil | apply restr_cons rfl | apply restr_none rfl))
    refine WL_seq ?_
    refine WL_reg ?_
    refine O_h rfl rfl rfl rfl ?_
    refine O_c 14 rfl rfl (callA_of rfl (car_c (m + 1) b hb)) ?_
    refine O_p rfl rfl rfl ?_
    refine O_p rfl rfl rfl ?_
    refine O_p rfl rfl rfl ?_
    refine O_n rfl rfl rfl ?_
    refine O_hn rfl rfl rfl rfl ?_
    refine O_p rfl rfl rfl ?_
    refine WO_nil ?_
    refine WL_seq ?_
    apply WL_prune
    · (repeat (first | exact restr_nil | apply restr_cons rfl | apply restr_none rfl))
    refine WL_seq ?_
    refine WL_reg ?_
    refine O_p rfl rfl rfl ?_
    refine O_h rfl rfl rfl rfl ?_
    refine O_h rfl rfl rfl rfl ?_
    refine O_cv rfl rfl (sub1_c7 (m + 1) (carT a) (carT b) r1 is c0 c1 _ _ _ _ h1 (lowH_cons hl7.1 (lowH_cons hl7.2 rfl))) ?_
    refine WO_nil ?_
    refine WL_seq ?_
    apply WL_prune
    · (repeat (first | exact restr_nil | apply restr_cons rfl | apply restr_none rfl))
    refine WL_seq ?_
    refine WL_seq ?_
    refine WL_reg ?_
    refine O_p rfl rfl rfl ?_
    refine O_h rfl rfl rfl rfl ?_
    refine O_p rfl rfl rfl ?_
    refine O_p rfl rfl rfl ?_
    apply O_and [_, _, _] rfl rfl (hT := ?hT31) (h := ?hR31)
    case hT31 =>
      intro hb27
      refine O_p rfl rfl rfl ?_
      refine O_h rfl rfl rfl rfl ?_
      refine O_p rfl rfl rfl ?_
      exact WO_nil (WL_nil ⟨rfl, rfl, rfl⟩)
    case hR31 =>
      intro vs hvs
      obtain ⟨u28, u29, u30, rfl⟩ := len3 hvs
      clear hvs; dsimp only [junk]
      refine WO_nil ?_
      refine WL_seq ?_
      apply WL_prune
      · (repeat (first | exact restr_nil | apply restr_cons rfl | apply restr_none rfl))
      try clear u28 u29 u30
      refine WL_cond rfl (fun h31 => ?_) (fun h31 => ?_)
      · skip
        simp at h31; exact absurd h31 hp
      · skip
        refine WL_skip ?_
        refine WL_seq ?_
        apply WL_prune
        · (repeat (first | exact restr_nil | apply restr_cons rfl | apply restr_none rfl))
        refine WL_seq ?_
        refine WL_reg ?_
        refine O_h rfl rfl rfl rfl ?_
        refine O_c 16 rfl rfl (callA_of rfl (cdr_c m a ha)) ?_
        refine O_p rfl rfl rfl ?_
        refine O_p rfl rfl rfl ?_
        refine O_p rfl rfl rfl ?_
        refine O_hn rfl rfl rfl rfl ?_
        refine WO_nil ?_
        refine WL_seq ?_
        apply WL_prune
        · (repeat (first | exact restr_nil | apply restr_cons rfl | apply restr_none rfl))
        refine WL_seq ?_
        refine WL_reg ?_
        refine O_h rfl rfl rfl rfl ?_
        refine O_c 16 rfl rfl (callA_of rfl (cdr_c m b hb)) ?_
        refine O_p rfl rfl rfl ?_
        refine O_p rfl rfl rfl ?_
        refine O_p rfl rfl rfl ?_
        refine O_hn rfl rfl rfl rfl ?_
        refine WO_nil ?_
        refine WL_seq ?_
        apply WL_prune
        · (repeat (first | exact restr_nil | apply restr_cons rfl | apply restr_none rfl))
        refine WL_reg ?_
        refine O_p rfl rfl rfl ?_
        refine O_h rfl rfl rfl rfl ?_
        refine O_h rfl rfl rfl rfl ?_
        refine O_cv rfl rfl (sub1_c7 (m + 1) (cdrT a) (cdrT b) r2 (is && r1) c0 c1 _ _ _ _ (h2 hp) (lowH_cons hl7.1 (lowH_cons hl7.2 rfl))) ?_
        refine WO_nil ?_
        refine WL_nil ?_
        exact ⟨_, rfl, rfl, rfl⟩

theorem sub_c : ∀ (k n : Nat) (a b : Ty), Rt a → Rt b → WfT a → WfT b → szT a + szT b ≤ k → 20 * k + 20 < n → pcall (tabOf tabL) n 20 [vT a, vT b] = some (.ok (.bool (subT k a b)))
  | 0, n, a, b, _, _, _, _, h, _ => by have := szT_pos a; omega
  | k + 1, n, a, b, ha, hb, wa, wb, h, hn => by
    obtain ⟨n, rfl⟩ : ∃ m, n = m + 3 := ⟨n - 3, by omega⟩
    have ih := sub_c k
    have fa := okT_facts ha.ok
    have fb := okT_facts hb.ok
    have hp := len_pairs a
    have hf := len_funs a
    have hfb := len_funs b
    have hwa : a.funs.length ≤ 9 := by by_cases q : a.fn = 1; exact (fa.2.2.2.2.2.2.2.1 q).2; rw [fa.2.2.2.2.2.2.2.2 q]; decide
    have hF := andn_dec fa.1 fb.1
    refine pcall_fin t20 ?_
    refine WL_seq ?_
    refine WL_reg ?_
    refine O_n rfl rfl rfl ?_
    refine O_n rfl rfl rfl ?_
    refine O_p rfl rfl rfl ?_
    refine WO_nil ?_
    refine WL_seq ?_
    apply WL_prune
    · (repeat (first | exact restr_nil | apply restr_cons rfl | apply restr_none rfl))
    refine WL_seq ?_
    refine WL_block ?_
    refine WL_seq ?_
    refine WL_reg ?_
    refine O_p rfl rfl rfl ?_
    refine O_h rfl rfl rfl rfl ?_
    refine O_p rfl rfl rfl ?_
    refine WO_nil ?_
    refine WL_seq ?_
    apply WL_prune
    · (repeat (first | exact restr_nil | apply restr_cons rfl | apply restr_none rfl))
    refine WL_cond rfl (fun h9 => ?_) (fun h9 => ?_)
    · skip
      have hr : subT (k + 1) a b = true := by simp [subT, h9]
      refine WL_seq ?_
      refine WL_reg ?_
      refine O_p rfl rfl rfl ?_
      refine WO_nil ?_
      refine WL_ret ?_
      refine Blk_ret ?_
      exact ⟨_, rfl, _, rfl, by rw [hr]⟩
    · skip
      refine WL_seq ?_
      refine WL_reg ?_
      refine O_p rfl rfl rfl ?_
      refine O_h rfl rfl rfl rfl ?_
      refine O_p rfl rfl rfl ?_
      apply O_or [_, _, _, _, _, _] rfl rfl (hT := ?hT22) (h := ?hR22)
      case hT22 =>
        intro hb15
        refine O_p rfl rfl rfl ?_
        refine O_h rfl rfl rfl rfl ?_
        refine O_p rfl rfl rfl ?_
        refine O_h rfl rfl rfl rfl ?_
        refine O_p rfl rfl rfl ?_
        refine O_p rfl rfl rfl ?_
        exact WO_nil (WL_nil ⟨rfl, rfl, rfl⟩)
      case hR22 =>
        intro vs hvs
        obtain ⟨u16, u17, u18, u19, u20, u21, rfl⟩ := len6 hvs
        clear hvs; dsimp only [junk]
        refine O_p rfl rfl rfl ?_
        apply O_or [_, _, _, _, _, _, _, _] rfl rfl (hT := ?hT32) (h := ?hR32)
        case hT32 =>
          intro hb23
          refine O_p rfl rfl rfl ?_
          refine O_h rfl rfl rfl rfl ?_
          refine O_p rfl rfl rfl ?_
          refine O_p rfl rfl rfl ?_
          apply O_and [_, _, _] rfl rfl (hT := ?hT31) (h := ?hR31)
          case hT31 =>
            intro hb27
            refine O_p rfl rfl rfl ?_
            refine O_h rfl rfl rfl rfl ?_
            refine O_p rfl rfl rfl ?_
            exact WO_nil (WL_nil ⟨rfl, rfl, rfl⟩)
          case hR31 =>
            intro vs hvs
            obtain ⟨u28, u29, u30, rfl⟩ := len3 hvs
            clear hvs; dsimp only [junk]
            exact WO_nil (WL_nil ⟨rfl, rfl, rfl⟩)
        case hR32 =>
          intro vs hvs
          obtain ⟨u24, u25, u26, u27, u28, u29, u30, u31, rfl⟩ := len8 hvs
          clear hvs; dsimp only [junk]
          refine O_p rfl rfl rfl ?_
          apply O_or [_, _, _, _, _, _, _, _] rfl rfl (hT := ?hT42) (h := ?hR42)
          case hT42 =>
            intro hb33
            refine O_p rfl rfl rfl ?_
            refine O_h rfl rfl rfl rfl ?_
            refine O_p rfl rfl rfl ?_
            refine O_p rfl rfl rfl ?_
            apply O_and [_, _, _] rfl rfl (hT := ?hT41) (h := ?hR41)
            case hT41 =>
              intro hb37
              refine O_p rfl rfl rfl ?_
              refine O_h rfl rfl rfl rfl ?_
              refine O_p rfl rfl rfl ?_
              exact WO_nil (WL_nil ⟨rfl, rfl, rfl⟩)
            case hR41 =>
              intro vs hvs
              obtain ⟨u38, u39, u40, rfl⟩ := len3 hvs
              clear hvs; dsimp only [junk]
              exact WO_nil (WL_nil ⟨rfl, rfl, rfl⟩)
          case hR42 =>
            intro vs hvs
            obtain ⟨u34, u35, u36, u37, u38, u39, u40, u41, rfl⟩ := len8 hvs
            clear hvs; dsimp only [junk]
            refine O_p rfl rfl rfl ?_
            refine WO_nil ?_
            refine WL_seq ?_
            apply WL_prune
            · (repeat (first | exact restr_nil | apply restr_cons rfl | apply restr_none rfl))
            try clear u16 u17 u18 u19 u20 u21 u28 u29 u30 u24 u25 u26 u27 u28 u29 u30 u31 u38 u39 u40 u34 u35 u36 u37 u38 u39 u40 u41
            refine WL_cond rfl (fun h12 => ?_) (fun h12 => ?_)
            · skip
              have hr : subT (k + 1) a b = false := by
                simp only [hF] at h12
                simp only [subT, h9, Bool.false_eq_true, if_false]
                rw [if_pos h12]
              refine WL_seq ?_
              refine WL_reg ?_
              refine O_p rfl rfl rfl ?_
              refine WO_nil ?_
              refine WL_ret ?_
              refine Blk_ret ?_
              exact ⟨_, rfl, _, rfl, by rw [hr]⟩
            · skip
              simp only [hF] at h12
              have hS := subT_succ k a b h9 h12
              simp at h12
              refine WL_skip ?_
              refine WL_nil ?_
              refine Blk_norm (?_ : WL _ _ _ _ _)
              refine WL_seq ?_
              apply WL_prune
              · (repeat (first | exact restr_nil | apply restr_cons rfl | apply restr_none rfl))
              refine WL_seq ?_
              refine WL_reg ?_
              refine O_n rfl rfl rfl ?_
              refine O_hn rfl rfl rfl rfl ?_
              refine WO_nil ?_
              refine WL_seq ?_
              apply WL_prune
              · (repeat (first | exact restr_nil | apply restr_cons rfl | apply restr_none rfl))
              refine WL_seq ?_
              refine WL_reg ?_
              refine O_p rfl rfl rfl ?_
              refine O_p rfl rfl rfl ?_
              refine WO_nil ?_
              refine WL_seq ?_
              apply WL_prune
              · (repeat (first | exact restr_nil | apply restr_cons rfl | apply restr_none rfl))
              refine WL_seq ?_
              refine WL_seq ?_
              refine WL_reg ?_
              refine O_p rfl rfl rfl ?_
              refine O_h rfl rfl rfl rfl ?_
              refine O_p rfl rfl rfl ?_
              refine WO_nil ?_
              refine WL_seq ?_
              apply WL_prune
              · (repeat (first | exact restr_nil | apply restr_cons rfl | apply restr_none rfl))
              refine WL_cond rfl (fun h46 => ?_) (fun h46 => ?_)
              · skip
                simp at h46
                have h1 := car_facts ha h12.1.1.1 h46
                have h2 := car_facts hb h9 (by simpa using h12.1.2 h46)
                have h3 := cdr_facts ha h12.1.1.1 h46
                have h4 := cdr_facts hb h9 (by simpa using h12.1.2 h46)
                let v0 : Bool := (true && (subT k (carT a) (carT b) && (if a.pair = 2 ∧ b.pair = 2 then true else subT k (cdrT a) (cdrT b))))
                have hv0 : v0 = (if a.pair = 0 then true else (subT k (carT a) (carT b) && (if a.pair = 2 ∧ b.pair = 2 then true else subT k (cdrT a) (cdrT b)))) := by simp [v0, h46]
                refine WL_reg ?_
                refine O_h rfl rfl rfl rfl ?_
                refine O_h rfl rfl rfl rfl ?_
                refine O_p rfl rfl rfl ?_
                refine O_c 35 rfl rfl (both_sub (n + 0) a b _ _ true _ _ ha hb (ih n _ _ h1.2.1 h2.2.1 (car_wf wa) (car_wf wb) (by omega) (by omega)) (fun hnl => ih n _ _ h3.2.2 h4.2.2 (cdr_wf wa) (cdr_wf wb) (by omega) (by omega)) (by omega) rfl) ?_
                refine WO_nil ?_
                refine WL_seq ?_
                apply WL_prune
                · (repeat (first | exact restr_nil | apply restr_cons rfl | apply restr_none rfl))
                refine WL_seq ?_
                refine WL_seq ?_
                refine WL_reg ?_
                refine O_p rfl rfl rfl ?_
                refine O_h rfl rfl rfl rfl ?_
                refine O_p rfl rfl rfl ?_
                refine O_p rfl rfl rfl ?_
                apply O_or [_, _, _] rfl rfl (hT := ?hT58) (h := ?hR58)
                case hT58 =>
                  intro hb54
                  refine O_p rfl rfl rfl ?_
                  refine O_h rfl rfl rfl rfl ?_
                  refine O_p rfl rfl rfl ?_
                  exact WO_nil (WL_nil ⟨rfl, rfl, rfl⟩)
                case hR58 =>
                  intro vs hvs
                  obtain ⟨u55, u56, u57, rfl⟩ := len3 hvs
                  clear hvs; dsimp only [junk]
                  refine WO_nil ?_
                  refine WL_seq ?_
                  apply WL_prune
                  · (repeat (first | exact restr_nil | apply restr_cons rfl | apply restr_none rfl))
                  try clear u55 u56 u57
                  refine WL_cond rfl (fun h58 => ?_) (fun h58 => ?_)
                  · skip
                    have hr : subT (k + 1) a b = v0 := by
                      simp at h58
                      rw [hS, if_pos h58, hv0]
                    refine WL_seq ?_
                    refine WL_reg ?_
                    refine O_h rfl rfl rfl rfl ?_
                    refine O_p rfl rfl rfl ?_
                    refine WO_nil ?_
                    refine WL_ret ?_
                    exact ⟨_, rfl, _, rfl, by rw [hr]⟩
                  · skip
                    simp at h58
                    rw [if_neg (by omega)] at hS
                    have hf1 : a.funs.length ≥ 1 ∨ a.fn = 2 := by
                      by_cases q : a.fn = 1
                      · exact .inl (fa.2.2.2.2.2.2.2.1 q).1
                      · right; omega
                    have e63 : a.fn ≠ 2 → IntKind.i64.wrap (((List.map encT a.funs).length : Int) - 1) = ((a.funs.length - 1 : Nat) : Int) := by
                      intro q; rw [List.length_map, kw_i64_id (by omega) (by omega)]; omega
                    refine WL_skip ?_
                    refine WL_seq ?_
                    apply WL_prune
                    · (repeat (first | exact restr_nil | apply restr_cons rfl | apply restr_none rfl))
                    refine WL_seq ?_
                    refine WL_reg ?_
                    refine O_p rfl rfl rfl ?_
                    refine O_h rfl rfl rfl rfl ?_
                    refine O_h rfl rfl rfl rfl ?_
                    refine O_p rfl rfl rfl ?_
                    refine O_p rfl rfl rfl ?_
                    refine WO_nil ?_
                    refine WL_seq ?_
                    apply WL_prune
                    · (repeat (first | exact restr_nil | apply restr_cons rfl | apply restr_none rfl))
                    refine WL_seq ?_
                    refine WL_seq ?_
                    refine WL_reg ?_
                    refine O_p rfl rfl rfl ?_
                    refine O_h rfl rfl rfl rfl ?_
                    refine O_p rfl rfl rfl ?_
                    refine O_p rfl rfl rfl ?_
                    apply O_or [_, _, _, _, _, _] rfl rfl (hT := ?hT74) (h := ?hR74)
                    case hT74 =>
                      intro hb67
                      refine O_p rfl rfl rfl ?_
                      refine O_h rfl rfl rfl rfl ?_
                      refine O_h rfl rfl rfl rfl ?_
                      refine O_p rfl rfl rfl ?_
                      refine O_p rfl rfl rfl ?_
                      refine O_p rfl rfl rfl ?_
                      exact WO_nil (WL_nil ⟨rfl, rfl, rfl⟩)
                    case hR74 =>
                      intro vs hvs
                      obtain ⟨u68, u69, u70, u71, u72, u73, rfl⟩ := len6 hvs
                      clear hvs; dsimp only [junk]
                      refine WO_nil ?_
                      refine WL_seq ?_
                      apply WL_prune
                      · (repeat (first | exact restr_nil | apply restr_cons rfl | apply restr_none rfl))
                      try clear u68 u69 u70 u71 u72 u73
                      refine WL_cond rfl (fun h74 => ?_) (fun h74 => ?_)
                      · skip
                        have hr : subT (k + 1) a b = false := by
                          by_cases q : a.fn = 2
                          · rw [hS, if_pos (.inl q)]
                          · simp [q] at h74
                            have e63 := e63 q
                            rw [List.length_map] at e63
                            rw [e63, kw_i64_id (by omega) (by omega)] at h74
                            rw [hS, if_pos (.inr (by omega))]
                        refine WL_seq ?_
                        refine WL_reg ?_
                        refine O_p rfl rfl rfl ?_
                        refine WO_nil ?_
                        refine WL_ret ?_
                        exact ⟨_, rfl, _, rfl, by rw [hr]⟩
                      · skip
                        have hq2 : a.fn ≠ 2 := by intro q; simp [q] at h74
                        have e63 := e63 hq2
                        have hlen : b.funs.length = a.funs.length := by
                          simp [hq2] at h74
                          rw [List.length_map] at e63
                          rw [e63, kw_i64_id (by omega) (by omega)] at h74; omega
                        rw [if_neg (by omega)] at hS
                        rw [e63]
                        refine WL_skip ?_
                        refine WL_seq ?_
                        apply WL_prune
                        · (repeat (first | exact restr_nil | apply restr_cons rfl | apply restr_none rfl))
                        refine WL_seq ?_
                        refine WL_seq ?_
                        refine WL_reg ?_
                        refine O_p rfl rfl rfl ?_
                        refine O_p rfl rfl rfl ?_
                        refine WO_nil ?_
                        refine WL_seq ?_
                        apply WL_prune
                        · (repeat (first | exact restr_nil | apply restr_cons rfl | apply restr_none rfl))
                        refine WL_block ?_
                        apply WL_forv (hc := [.cells (cT a), .cells (cT b)]) (α := Nat × Bool) (fun s => [(76, .int .i64 (s.1 : Nat))]) (fun s => [.cells [.bool s.2]]) (fun s => s.1 ≤ a.funs.length - 1 ∧ s.2 = (v0 && (List.range s.1).all (fun i => subT k (b.funs.getD i zeroT) (a.funs.getD i zeroT)))) (fun s => a.funs.length - s.1) ((0, v0)) (he := ?he) (hh := ?hh) (hP := ?hP) (hk := ?hk) (round := ?round)
                        case he =>
                          (repeat (first | exact restr_nil | apply restr_cons rfl | apply restr_none rfl))
                        case hh =>
                          rfl
                        case hP =>
                          exact ⟨by simp, by simp⟩
                        case hk =>
                          show a.funs.length - 0 < n + 2; omega
                        case round =>
                          rintro ⟨i, v⟩ ⟨hi, hs⟩
                          simp only at hi hs
                          dsimp only [List.cons_append, List.nil_append] at *
                          refine WL_seq ?_
                          refine WL_reg ?_
                          refine O_p rfl rfl rfl ?_
                          refine WO_nil ?_
                          refine WL_seq ?_
                          apply WL_prune
                          · (repeat (first | exact restr_nil | apply restr_cons rfl | apply restr_none rfl))
                          refine WL_seq ?_
                          refine WL_cond rfl (fun h77 => ?_) (fun h77 => ?_)
                          · skip
                            simp at h77
                            obtain ⟨x, hx⟩ : ∃ x, (b.funs)[i]? = some x := ⟨_, List.getElem?_eq_getElem (by omega)⟩
                            have hmx := List.mem_of_getElem? hx
                            have hsx := szT_funs hmx
                            obtain ⟨y, hy⟩ : ∃ y, (a.funs)[i]? = some y := ⟨_, List.getElem?_eq_getElem (by omega)⟩
                            have hmy := List.mem_of_getElem? hy
                            have hsy := szT_funs hmy
                            refine WL_skip ?_
                            refine WL_seq ?_
                            apply WL_prune
                            · (repeat (first | exact restr_nil | apply restr_cons rfl | apply restr_none rfl))
                            refine WL_seq ?_
                            refine WL_block ?_
                            refine WL_seq ?_
                            refine WL_reg ?_
                            refine O_p rfl rfl rfl ?_
                            refine O_p rfl rfl rfl ?_
                            refine WO_nil ?_
                            refine WL_seq ?_
                            apply WL_prune
                            · (repeat (first | exact restr_nil | apply restr_cons rfl | apply restr_none rfl))
                            refine WL_drawS (ops := [_, _, _, _, _, _, _, _, _, _, _, _]) rfl rfl ?_
                            refine O_p rfl rfl rfl ?_
                            refine O_p rfl rfl rfl ?_
                            refine O_h rfl rfl rfl rfl ?_
                            refine O_p rfl rfl rfl ?_
                            refine O_ia rfl rfl (Int.natCast_nonneg _) (encT_get (i := (i : Nat)) hx) (encT_flat _) rfl ?_
                            refine O_h rfl rfl rfl rfl ?_
                            refine O_p rfl rfl rfl ?_
                            refine O_h rfl rfl rfl rfl ?_
                            refine O_p rfl rfl rfl ?_
                            refine O_ia rfl rfl (Int.natCast_nonneg _) (encT_get (i := (i : Nat)) hy) (encT_flat _) rfl ?_
                            refine O_h rfl rfl rfl rfl ?_
                            refine O_cv rfl rfl (sub1_c3 (n + 1) x y (subT k x y) v _ _ (ih (n + 1) x y (hb.funs hmx) (ha.funs hmy) (wb.funs hmx) (wa.funs hmy) (by omega) (by omega)) rfl) ?_
                            refine WO_nil (WL_nil ⟨rfl, ?_⟩)
                            refine WL_nil ?_
                            refine Blk_norm (?_ : WL _ _ _ _ _)
                            refine WL_seq ?_
                            apply WL_prune
                            · (repeat (first | exact restr_nil | apply restr_cons rfl | apply restr_none rfl))
                            refine WL_reg ?_
                            refine O_p rfl rfl rfl ?_
                            refine O_p rfl rfl rfl ?_
                            refine WO_nil ?_
                            refine WL_nil ?_
                            refine RndV_norm ((i + 1, v && subT k x y)) (by refine ⟨by simp only; omega, ?_⟩; simp only; rw [range_all_succ, hs, getD_of hx, getD_of hy, Bool.and_assoc]) (by show _ < _; omega) ?_ rfl
                            · rw [wrap_succ (by omega)]; (repeat (first | exact restr_nil | apply restr_cons rfl | apply restr_none rfl))
                          · skip
                            simp at h77
                            obtain rfl : i = a.funs.length - 1 := by omega
                            obtain ⟨x, hx⟩ : ∃ x, (b.funs)[(a.funs.length - 1)]? = some x := ⟨_, List.getElem?_eq_getElem (by omega)⟩
                            have hmx := List.mem_of_getElem? hx
                            have hsx := szT_funs hmx
                            obtain ⟨y, hy⟩ : ∃ y, (a.funs)[(a.funs.length - 1)]? = some y := ⟨_, List.getElem?_eq_getElem (by omega)⟩
                            have hmy := List.mem_of_getElem? hy
                            have hsy := szT_funs hmy
                            have hr : subT (k + 1) a b = (v && subT k y x) := by
                              rw [hS, hs, hv0, getD_of hx, getD_of hy]
                            refine WL_exit ?_
                            refine RndV_exit ?_
                            refine Blk_exit (?_ : WL _ _ _ _ _)
                            refine WL_seq ?_
                            apply WL_prune
                            · (repeat (first | exact restr_nil | apply restr_cons rfl | apply restr_none rfl))
                            refine WL_seq ?_
                            refine WL_drawS (ops := [_, _, _, _, _, _, _, _, _, _, _, _]) rfl rfl ?_
                            refine O_p rfl rfl rfl ?_
                            refine O_p rfl rfl rfl ?_
                            refine O_h rfl rfl rfl rfl ?_
                            refine O_p rfl rfl rfl ?_
                            refine O_ia rfl rfl (Int.natCast_nonneg _) (encT_get (i := ((a.funs.length - 1) : Nat)) hy) (encT_flat _) rfl ?_
                            refine O_h rfl rfl rfl rfl ?_
                            refine O_p rfl rfl rfl ?_
                            refine O_h rfl rfl rfl rfl ?_
                            refine O_p rfl rfl rfl ?_
                            refine O_ia rfl rfl (Int.natCast_nonneg _) (encT_get (i := ((a.funs.length - 1) : Nat)) hx) (encT_flat _) rfl ?_
                            refine O_h rfl rfl rfl rfl ?_
                            refine O_cv rfl rfl (sub1_c3 (n + 1) y x (subT k y x) v _ _ (ih (n + 1) y x (ha.funs hmy) (hb.funs hmx) (wa.funs hmy) (wb.funs hmx) (by omega) (by omega)) rfl) ?_
                            refine WO_nil (WL_nil ⟨rfl, ?_⟩)
                            refine WL_seq ?_
                            apply WL_prune
                            · (repeat (first | exact restr_nil | apply restr_cons rfl | apply restr_none rfl))
                            refine WL_seq ?_
                            refine WL_reg ?_
                            refine O_h rfl rfl rfl rfl ?_
                            refine O_p rfl rfl rfl ?_
                            refine WO_nil ?_
                            refine WL_ret ?_
                            exact ⟨_, rfl, _, rfl, by rw [hr]⟩
              · skip
                simp at h46
                let v0 : Bool := true
                have hv0 : v0 = (if a.pair = 0 then true else (subT k (carT a) (carT b) && (if a.pair = 2 ∧ b.pair = 2 then true else subT k (cdrT a) (cdrT b)))) := by simp [v0, h46]
                refine WL_skip ?_
                refine WL_seq ?_
                apply WL_prune
                · (repeat (first | exact restr_nil | apply restr_cons rfl | apply restr_none rfl))
                refine WL_seq ?_
                refine WL_seq ?_
                refine WL_reg ?_
                refine O_p rfl rfl rfl ?_
                refine O_h rfl rfl rfl rfl ?_
                refine O_p rfl rfl rfl ?_
                refine O_p rfl rfl rfl ?_
                apply O_or [_, _, _] rfl rfl (hT := ?hT58) (h := ?hR58)
                case hT58 =>
                  intro hb54
                  refine O_p rfl rfl rfl ?_
                  refine O_h rfl rfl rfl rfl ?_
                  refine O_p rfl rfl rfl ?_
                  exact WO_nil (WL_nil ⟨rfl, rfl, rfl⟩)
                case hR58 =>
                  intro vs hvs
                  obtain ⟨u55, u56, u57, rfl⟩ := len3 hvs
                  clear hvs; dsimp only [junk]
                  refine WO_nil ?_
                  refine WL_seq ?_
                  apply WL_prune
                  · (repeat (first | exact restr_nil | apply restr_cons rfl | apply restr_none rfl))
                  try clear u55 u56 u57
                  refine WL_cond rfl (fun h58 => ?_) (fun h58 => ?_)
                  · skip
                    have hr : subT (k + 1) a b = v0 := by
                      simp at h58
                      rw [hS, if_pos h58, hv0]
                    refine WL_seq ?_
                    refine WL_reg ?_
                    refine O_h rfl rfl rfl rfl ?_
                    refine O_p rfl rfl rfl ?_
                    refine WO_nil ?_
                    refine WL_ret ?_
                    exact ⟨_, rfl, _, rfl, by rw [hr]⟩
                  · skip
                    simp at h58
                    rw [if_neg (by omega)] at hS
                    have hf1 : a.funs.length ≥ 1 ∨ a.fn = 2 := by
                      by_cases q : a.fn = 1
                      · exact .inl (fa.2.2.2.2.2.2.2.1 q).1
                      · right; omega
                    have e63 : a.fn ≠ 2 → IntKind.i64.wrap (((List.map encT a.funs).length : Int) - 1) = ((a.funs.length - 1 : Nat) : Int) := by
                      intro q; rw [List.length_map, kw_i64_id (by omega) (by omega)]; omega
                    refine WL_skip ?_
                    refine WL_seq ?_
                    apply WL_prune
                    · (repeat (first | exact restr_nil | apply restr_cons rfl | apply restr_none rfl))
                    refine WL_seq ?_
                    refine WL_reg ?_
                    refine O_p rfl rfl rfl ?_
                    refine O_h rfl rfl rfl rfl ?_
                    refine O_h rfl rfl rfl rfl ?_
                    refine O_p rfl rfl rfl ?_
                    refine O_p rfl rfl rfl ?_
                    refine WO_nil ?_
                    refine WL_seq ?_
                    apply WL_prune
                    · (repeat (first | exact restr_nil | apply restr_cons rfl | apply restr_none rfl))
                    refine WL_seq ?_
                    refine WL_seq ?_
                    refine WL_reg ?_
                    refine O_p rfl rfl rfl ?_
                    refine O_h rfl rfl rfl rfl ?_
                    refine O_p rfl rfl rfl ?_
                    refine O_p rfl rfl rfl ?_
                    apply O_or [_, _, _, _, _, _] rfl rfl (hT := ?hT74) (h := ?hR74)
                    case hT74 =>
                      intro hb67
                      refine O_p rfl rfl rfl ?_
                      refine O_h rfl rfl rfl rfl ?_
                      refine O_h rfl rfl rfl rfl ?_
                      refine O_p rfl rfl rfl ?_
                      refine O_p rfl rfl rfl ?_
                      refine O_p rfl rfl rfl ?_
                      exact WO_nil (WL_nil ⟨rfl, rfl, rfl⟩)
                    case hR74 =>
                      intro vs hvs
                      obtain ⟨u68, u69, u70, u71, u72, u73, rfl⟩ := len6 hvs
                      clear hvs; dsimp only [junk]
                      refine WO_nil ?_
                      refine WL_seq ?_
                      apply WL_prune
                      · (repeat (first | exact restr_nil | apply restr_cons rfl | apply restr_none rfl))
                      try clear u68 u69 u70 u71 u72 u73
                      refine WL_cond rfl (fun h74 => ?_) (fun h74 => ?_)
                      · skip
                        have hr : subT (k + 1) a b = false := by
                          by_cases q : a.fn = 2
                          · rw [hS, if_pos (.inl q)]
                          · simp [q] at h74
                            have e63 := e63 q
                            rw [List.length_map] at e63
                            rw [e63, kw_i64_id (by omega) (by omega)] at h74
                            rw [hS, if_pos (.inr (by omega))]
                        refine WL_seq ?_
                        refine WL_reg ?_
                        refine O_p rfl rfl rfl ?_
                        refine WO_nil ?_
                        refine WL_ret ?_
                        exact ⟨_, rfl, _, rfl, by rw [hr]⟩
                      · skip
                        have hq2 : a.fn ≠ 2 := by intro q; simp [q] at h74
                        have e63 := e63 hq2
                        have hlen : b.funs.length = a.funs.length := by
                          simp [hq2] at h74
                          rw [List.length_map] at e63
                          rw [e63, kw_i64_id (by omega) (by omega)] at h74; omega
                        rw [if_neg (by omega)] at hS
                        rw [e63]
                        refine WL_skip ?_
                        refine WL_seq ?_
                        apply WL_prune
                        · (repeat (first | exact restr_nil | apply restr_cons rfl | apply restr_none rfl))
                        refine WL_seq ?_
                        refine WL_seq ?_
                        refine WL_reg ?_
                        refine O_p rfl rfl rfl ?_
                        refine O_p rfl rfl rfl ?_
                        refine WO_nil ?_
                        refine WL_seq ?_
                        apply WL_prune
                        · (repeat (first | exact restr_nil | apply restr_cons rfl | apply restr_none rfl))
                        refine WL_block ?_
                        apply WL_forv (hc := [.cells (cT a), .cells (cT b)]) (α := Nat × Bool) (fun s => [(76, .int .i64 (s.1 : Nat))]) (fun s => [.cells [.bool s.2]]) (fun s => s.1 ≤ a.funs.length - 1 ∧ s.2 = (v0 && (List.range s.1).all (fun i => subT k (b.funs.getD i zeroT) (a.funs.getD i zeroT)))) (fun s => a.funs.length - s.1) ((0, v0)) (he := ?he) (hh := ?hh) (hP := ?hP) (hk := ?hk) (round := ?round)
                        case he =>
                          (repeat (first | exact restr_nil | apply restr_cons rfl | apply restr_none rfl))
                        case hh =>
                          rfl
                        case hP =>
                          exact ⟨by simp, by simp⟩
                        case hk =>
                          show a.funs.length - 0 < n + 2; omega
                        case round =>
                          rintro ⟨i, v⟩ ⟨hi, hs⟩
                          simp only at hi hs
                          dsimp only [List.cons_append, List.nil_append] at *
                          refine WL_seq ?_
                          refine WL_reg ?_
                          refine O_p rfl rfl rfl ?_
                          refine WO_nil ?_
                          refine WL_seq ?_
                          apply WL_prune
                          · (repeat (first | exact restr_nil | apply restr_cons rfl | apply restr_none rfl))
                          refine WL_seq ?_
                          refine WL_cond rfl (fun h77 => ?_) (fun h77 => ?_)
                          · skip
                            simp at h77
                            obtain ⟨x, hx⟩ : ∃ x, (b.funs)[i]? = some x := ⟨_, List.getElem?_eq_getElem (by omega)⟩
                            have hmx := List.mem_of_getElem? hx
                            have hsx := szT_funs hmx
                            obtain ⟨y, hy⟩ : ∃ y, (a.funs)[i]? = some y := ⟨_, List.getElem?_eq_getElem (by omega)⟩
                            have hmy := List.mem_of_getElem? hy
                            have hsy := szT_funs hmy
                            refine WL_skip ?_
                            refine WL_seq ?_
                            apply WL_prune
                            · (repeat (first | exact restr_nil | apply restr_cons rfl | apply restr_none rfl))
                            refine WL_seq ?_
                            refine WL_block ?_
                            refine WL_seq ?_
                            refine WL_reg ?_
                            refine O_p rfl rfl rfl ?_
                            refine O_p rfl rfl rfl ?_
                            refine WO_nil ?_
                            refine WL_seq ?_
                            apply WL_prune
                            · (repeat (first | exact restr_nil | apply restr_cons rfl | apply restr_none rfl))
                            refine WL_drawS (ops := [_, _, _, _, _, _, _, _, _, _, _, _]) rfl rfl ?_
                            refine O_p rfl rfl rfl ?_
                            refine O_p rfl rfl rfl ?_
                            refine O_h rfl rfl rfl rfl ?_
                            refine O_p rfl rfl rfl ?_
                            refine O_ia rfl rfl (Int.natCast_nonneg _) (encT_get (i := (i : Nat)) hx) (encT_flat _) rfl ?_
                            refine O_h rfl rfl rfl rfl ?_
                            refine O_p rfl rfl rfl ?_
                            refine O_h rfl rfl rfl rfl ?_
                            refine O_p rfl rfl rfl ?_
                            refine O_ia rfl rfl (Int.natCast_nonneg _) (encT_get (i := (i : Nat)) hy) (encT_flat _) rfl ?_
                            refine O_h rfl rfl rfl rfl ?_
                            refine O_cv rfl rfl (sub1_c3 (n + 1) x y (subT k x y) v _ _ (ih (n + 1) x y (hb.funs hmx) (ha.funs hmy) (wb.funs hmx) (wa.funs hmy) (by omega) (by omega)) rfl) ?_
                            refine WO_nil (WL_nil ⟨rfl, ?_⟩)
                            refine WL_nil ?_
                            refine Blk_norm (?_ : WL _ _ _ _ _)
                            refine WL_seq ?_
                            apply WL_prune
                            · (repeat (first | exact restr_nil | apply restr_cons rfl | apply restr_none rfl))
                            refine WL_reg ?_
                            refine O_p rfl rfl rfl ?_
                            refine O_p rfl rfl rfl ?_
                            refine WO_nil ?_
                            refine WL_nil ?_
                            refine RndV_norm ((i + 1, v && subT k x y)) (by refine ⟨by simp only; omega, ?_⟩; simp only; rw [range_all_succ, hs, getD_of hx, getD_of hy, Bool.and_assoc]) (by show _ < _; omega) ?_ rfl
                            · rw [wrap_succ (by omega)]; (repeat (first | exact restr_nil | apply restr_cons rfl | apply restr_none rfl))
                          · skip
                            simp at h77
                            obtain rfl : i = a.funs.length - 1 := by omega
                            obtain ⟨x, hx⟩ : ∃ x, (b.funs)[(a.funs.length - 1)]? = some x := ⟨_, List.getElem?_eq_getElem (by omega)⟩
                            have hmx := List.mem_of_getElem? hx
                            have hsx := szT_funs hmx
                            obtain ⟨y, hy⟩ : ∃ y, (a.funs)[(a.funs.length - 1)]? = some y := ⟨_, List.getElem?_eq_getElem (by omega)⟩
                            have hmy := List.mem_of_getElem? hy
                            have hsy := szT_funs hmy
                            have hr : subT (k + 1) a b = (v && subT k y x) := by
                              rw [hS, hs, hv0, getD_of hx, getD_of hy]
                            refine WL_exit ?_
                            refine RndV_exit ?_
                            refine Blk_exit (?_ : WL _ _ _ _ _)
                            refine WL_seq ?_
                            apply WL_prune
                            · (repeat (first | exact restr_nil | apply restr_cons rfl | apply restr_none rfl))
                            refine WL_seq ?_
                            refine WL_drawS (ops := [_, _, _, _, _, _, _, _, _, _, _, _]) rfl rfl ?_
                            refine O_p rfl rfl rfl ?_
                            refine O_p rfl rfl rfl ?_
                            refine O_h rfl rfl rfl rfl ?_
                            refine O_p rfl rfl rfl ?_
                            refine O_ia rfl rfl (Int.natCast_nonneg _) (encT_get (i := ((a.funs.length - 1) : Nat)) hy) (encT_flat _) rfl ?_
                            refine O_h rfl rfl rfl rfl ?_
                            refine O_p rfl rfl rfl ?_
                            refine O_h rfl rfl rfl rfl ?_
                            refine O_p rfl rfl rfl ?_
                            refine O_ia rfl rfl (Int.natCast_nonneg _) (encT_get (i := ((a.funs.length - 1) : Nat)) hx) (encT_flat _) rfl ?_
                            refine O_h rfl rfl rfl rfl ?_
                            refine O_cv rfl rfl (sub1_c3 (n + 1) y x (subT k y x) v _ _ (ih (n + 1) y x (ha.funs hmy) (hb.funs hmx) (wa.funs hmy) (wb.funs hmx) (by omega) (by omega)) rfl) ?_
                            refine WO_nil (WL_nil ⟨rfl, ?_⟩)
                            refine WL_seq ?_
                            apply WL_prune
                            · (repeat (first | exact restr_nil | apply restr_cons rfl | apply restr_none rfl))
                            refine WL_seq ?_
                            refine WL_reg ?_
                            refine O_h rfl rfl rfl rfl ?_
                            refine O_p rfl rfl rfl ?_
                            refine WO_nil ?_
                            refine WL_ret ?_
                            exact ⟨_, rfl, _, rfl, by rw [hr]⟩

theorem sub_ref : ∀ (k n : Nat) (a b : Ty), Rt a → Rt b → WfT a → WfT b → szT a + szT b ≤ k → 20 * k + 20 < n → pcall (tabOf tabL) n 21 [vT a, vT b] = some (.ok (.bool (subT k a b)))
  | 0, n, a, b, _, _, _, _, h, _ => by have := szT_pos a; omega
  | k + 1, n, a, b, ha, hb, wa, wb, h, hn => by
    obtain ⟨n, rfl⟩ : ∃ m, n = m + 3 := ⟨n - 3, by omega⟩
    have ih := sub_ref k
    have fa := okT_facts ha.ok
    have fb := okT_facts hb.ok
    have hp := len_pairs a
    have hf := len_funs a
    have hfb := len_funs b
    have hwa : a.funs.length ≤ 9 := by by_cases q : a.fn = 1; exact (fa.2.2.2.2.2.2.2.1 q).2; rw [fa.2.2.2.2.2.2.2.2 q]; decide
    refine pcall_fin t21 ?_
    refine WL_seq ?_
    refine WL_reg ?_
    refine O_n rfl rfl rfl ?_
    refine O_n rfl rfl rfl ?_
    refine O_p rfl rfl rfl ?_
    refine WO_nil ?_
    refine WL_seq ?_
    apply WL_prune
    · (repeat (first | exact restr_nil | apply restr_cons rfl | apply restr_none rfl))
    refine WL_seq ?_
    refine WL_seq ?_
    refine WL_reg ?_
    refine O_p rfl rfl rfl ?_
    refine O_h rfl rfl rfl rfl ?_
    refine WO_nil ?_
    refine WL_seq ?_
    apply WL_prune
    · (repeat (first | exact restr_nil | apply restr_cons rfl | apply restr_none rfl))
    refine WL_cond rfl (fun h17 => ?_) (fun h17 => ?_)
    · skip
      have hr : subT (k + 1) a b = true := by simp [subT, h17]
      refine WL_seq ?_
      refine WL_reg ?_
      refine O_p rfl rfl rfl ?_
      refine WO_nil ?_
      refine WL_ret ?_
      exact ⟨_, rfl, _, rfl, by rw [hr]⟩
    · skip
      refine WL_skip ?_
      refine WL_seq ?_
      apply WL_prune
      · (repeat (first | exact restr_nil | apply restr_cons rfl | apply restr_none rfl))
      refine WL_seq ?_
      refine WL_seq ?_
      refine WL_reg ?_
      refine O_p rfl rfl rfl ?_
      refine O_h rfl rfl rfl rfl ?_
      refine WO_nil ?_
      refine WL_seq ?_
      apply WL_prune
      · (repeat (first | exact restr_nil | apply restr_cons rfl | apply restr_none rfl))
      refine WL_cond rfl (fun h19 => ?_) (fun h19 => ?_)
      · skip
        have hr : subT (k + 1) a b = false := by simp [subT, h17, h19]
        refine WL_seq ?_
        refine WL_reg ?_
        refine O_p rfl rfl rfl ?_
        refine WO_nil ?_
        refine WL_ret ?_
        exact ⟨_, rfl, _, rfl, by rw [hr]⟩
      · skip
        have hS := subT_conj k a b h17 h19
        refine WL_skip ?_
        refine WL_seq ?_
        apply WL_prune
        · (repeat (first | exact restr_nil | apply restr_cons rfl | apply restr_none rfl))
        refine WL_seq ?_
        refine WL_seq ?_
        refine WL_reg ?_
        refine O_p rfl rfl rfl ?_
        refine WO_nil ?_
        refine WL_seq ?_
        apply WL_prune
        · (repeat (first | exact restr_nil | apply restr_cons rfl | apply restr_none rfl))
        refine WL_block ?_
        apply WL_forc (α := Nat) (fun j => [(5, .int .i64 ((2 ^ j : Nat) : Int))]) (fun j => j ≤ 6 ∧ (List.range j).all (bitOk a.flat b.flat) = true) (fun j => 6 - j) (0) (he := ?he) (hP := ?hP) (hk := ?hk) (round := ?round)
        case he =>
          (repeat (first | exact restr_nil | apply restr_cons rfl | apply restr_none rfl))
        case hP =>
          exact ⟨by decide, rfl⟩
        case hk =>
          show 6 - 0 < n + 2; omega
        case round =>
          rintro j ⟨hj, hs⟩
          dsimp only [List.cons_append, List.nil_append] at *
          refine WL_seq ?_
          refine WL_seq ?_
          refine WL_reg ?_
          refine O_p rfl rfl rfl ?_
          refine O_p rfl rfl rfl ?_
          refine WO_nil ?_
          refine WL_seq ?_
          apply WL_prune
          · (repeat (first | exact restr_nil | apply restr_cons rfl | apply restr_none rfl))
          refine WL_cond rfl (fun h21 => ?_) (fun h21 => ?_)
          · skip
            have hj6 : j < 6 := (pow_lt64 hj).1 (by simpa using h21)
            refine WL_skip ?_
            refine WL_seq ?_
            apply WL_prune
            · (repeat (first | exact restr_nil | apply restr_cons rfl | apply restr_none rfl))
            refine WL_seq ?_
            refine WL_block ?_
            refine WL_seq ?_
            refine WL_reg ?_
            refine O_p rfl rfl rfl ?_
            refine O_h rfl rfl rfl rfl ?_
            refine O_p rfl rfl rfl ?_
            refine O_quo rfl rfl (pow_ne0 _) (tdiv_pow fa.1 _) ?_
            refine O_rem rfl rfl (by decide) (tmod2 _) ?_
            refine O_p rfl rfl rfl ?_
            refine O_p rfl rfl rfl ?_
            apply O_and [_, _, _, _, _, _] rfl rfl (hT := ?hT37) (h := ?hR37)
            case hT37 =>
              intro hb30
              refine O_p rfl rfl rfl ?_
              refine O_h rfl rfl rfl rfl ?_
              refine O_p rfl rfl rfl ?_
              refine O_quo rfl rfl (pow_ne0 _) (tdiv_pow fb.1 _) ?_
              refine O_rem rfl rfl (by decide) (tmod2 _) ?_
              refine O_p rfl rfl rfl ?_
              exact WO_nil (WL_nil ⟨rfl, rfl, rfl⟩)
            case hR37 =>
              intro vs hvs
              obtain ⟨u31, u32, u33, u34, u35, u36, rfl⟩ := len6 hvs
              clear hvs; dsimp only [junk]
              refine WO_nil ?_
              refine WL_seq ?_
              apply WL_prune
              · (repeat (first | exact restr_nil | apply restr_cons rfl | apply restr_none rfl))
              try clear u31 u32 u33 u34 u35 u36
              refine WL_cond rfl (fun h37 => ?_) (fun h37 => ?_)
              · skip
                have hr : subT (k + 1) a b = false := by
                  have hb1 : bitOk a.flat b.flat j = false := by rw [bit_cast] at h37; simpa using h37
                  have hq : subF a.flat b.flat = false := by
                    rw [subF_bits fa.1 fb.1]; rw [List.all_eq_false]; exact ⟨j, List.mem_range.2 hj6, by simp [hb1]⟩
                  rw [hS, hq]; simp
                refine WL_seq ?_
                refine WL_reg ?_
                refine O_p rfl rfl rfl ?_
                refine WO_nil ?_
                refine WL_ret ?_
                refine Blk_ret ?_
                refine RndC_ret ?_
                refine Blk_ret ?_
                exact ⟨_, rfl, _, rfl, by rw [hr]⟩
              · skip
                refine WL_skip ?_
                refine WL_nil ?_
                refine Blk_norm (?_ : WL _ _ _ _ _)
                refine WL_seq ?_
                apply WL_prune
                · (repeat (first | exact restr_nil | apply restr_cons rfl | apply restr_none rfl))
                refine WL_reg ?_
                refine O_p rfl rfl rfl ?_
                refine O_p rfl rfl rfl ?_
                refine O_p rfl rfl rfl ?_
                refine WO_nil ?_
                refine WL_nil ?_
                refine RndC_norm (j + 1) (by refine ⟨by omega, ?_⟩; rw [range_all_succ, hs]; rw [bit_cast] at h37; simpa using h37) (by show _ < _; omega) ?_ rfl
                · rw [wrap_dbl hj]; (repeat (first | exact restr_nil | apply restr_cons rfl | apply restr_none rfl))
          · skip
            have hj6 : j = 6 := by have := mt (pow_lt64 hj).2 (by simpa using h21); omega
            subst hj6
            rw [← subF_bits fa.1 fb.1] at hs
            rw [hs] at hS
            refine WL_exit ?_
            refine RndC_exit ?_
            refine Blk_exit (?_ : WL _ _ _ _ _)
            refine WL_seq ?_
            apply WL_prune
            · (repeat (first | exact restr_nil | apply restr_cons rfl | apply restr_none rfl))
            refine WL_seq ?_
            refine WL_seq ?_
            refine WL_reg ?_
            refine O_p rfl rfl rfl ?_
            refine O_h rfl rfl rfl rfl ?_
            refine O_p rfl rfl rfl ?_
            refine WO_nil ?_
            refine WL_seq ?_
            apply WL_prune
            · (repeat (first | exact restr_nil | apply restr_cons rfl | apply restr_none rfl))
            refine WL_cond rfl (fun h40 => ?_) (fun h40 => ?_)
            · skip
              simp at h40
              refine WL_seq ?_
              refine WL_seq ?_
              refine WL_reg ?_
              refine O_p rfl rfl rfl ?_
              refine O_h rfl rfl rfl rfl ?_
              refine O_p rfl rfl rfl ?_
              refine WO_nil ?_
              refine WL_seq ?_
              apply WL_prune
              · (repeat (first | exact restr_nil | apply restr_cons rfl | apply restr_none rfl))
              refine WL_cond rfl (fun h43 => ?_) (fun h43 => ?_)
              · skip
                have hr : subT (k + 1) a b = false := by simp at h43; rw [hS]; simp [h40, h43]
                refine WL_seq ?_
                refine WL_reg ?_
                refine O_p rfl rfl rfl ?_
                refine WO_nil ?_
                refine WL_ret ?_
                exact ⟨_, rfl, _, rfl, by rw [hr]⟩
              · skip
                simp at h43
                have h1 := car_facts ha h19 h40
                have h2 := car_facts hb h17 h43
                have h3 := cdr_facts ha h19 h40
                have h4 := cdr_facts hb h17 h43
                refine WL_skip ?_
                refine WL_seq ?_
                apply WL_prune
                · (repeat (first | exact restr_nil | apply restr_cons rfl | apply restr_none rfl))
                refine WL_seq ?_
                refine WL_reg ?_
                refine O_h rfl rfl rfl rfl ?_
                refine O_c 15 rfl rfl (callA_of rfl (car_ref (n + 1) a ha)) ?_
                refine O_p rfl rfl rfl ?_
                refine O_p rfl rfl rfl ?_
                refine O_p rfl rfl rfl ?_
                refine O_n rfl rfl rfl ?_
                refine O_hn rfl rfl rfl rfl ?_
                refine O_p rfl rfl rfl ?_
                refine WO_nil ?_
                refine WL_seq ?_
                apply WL_prune
                · (repeat (first | exact restr_nil | apply restr_cons rfl | apply restr_none rfl))
                refine WL_seq ?_
                refine WL_reg ?_
                refine O_h rfl rfl rfl rfl ?_
                refine O_c 15 rfl rfl (callA_of rfl (car_ref (n + 1) b hb)) ?_
                refine O_p rfl rfl rfl ?_
                refine O_p rfl rfl rfl ?_
                refine O_p rfl rfl rfl ?_
                refine O_n rfl rfl rfl ?_
                refine O_hn rfl rfl rfl rfl ?_
                refine O_p rfl rfl rfl ?_
                refine WO_nil ?_
                refine WL_seq ?_
                apply WL_prune
                · (repeat (first | exact restr_nil | apply restr_cons rfl | apply restr_none rfl))
                refine WL_seq ?_
                refine WL_seq ?_
                refine WL_reg ?_
                refine O_h rfl rfl rfl rfl ?_
                refine O_h rfl rfl rfl rfl ?_
                refine O_c 21 rfl rfl (callA_of rfl (ih _ _ _ h1.2.1 h2.2.1 (car_wf wa) (car_wf wb) (by omega) (by omega))) ?_
                refine O_p rfl rfl rfl ?_
                refine WO_nil ?_
                refine WL_seq ?_
                apply WL_prune
                · (repeat (first | exact restr_nil | apply restr_cons rfl | apply restr_none rfl))
                refine WL_cond rfl (fun h57 => ?_) (fun h57 => ?_)
                · skip
                  have hr : subT (k + 1) a b = false := by simp at h57; rw [hS]; simp [h40, h57]
                  refine WL_seq ?_
                  refine WL_reg ?_
                  refine O_p rfl rfl rfl ?_
                  refine WO_nil ?_
                  refine WL_ret ?_
                  exact ⟨_, rfl, _, rfl, by rw [hr]⟩
                · skip
                  simp at h57
                  refine WL_skip ?_
                  refine WL_seq ?_
                  apply WL_prune
                  · (repeat (first | exact restr_nil | apply restr_cons rfl | apply restr_none rfl))
                  refine WL_seq ?_
                  refine WL_reg ?_
                  refine O_p rfl rfl rfl ?_
                  refine O_h rfl rfl rfl rfl ?_
                  refine O_p rfl rfl rfl ?_
                  refine O_p rfl rfl rfl ?_
                  apply O_or [_, _, _] rfl rfl (hT := ?hT65) (h := ?hR65)
                  case hT65 =>
                    intro hb61
                    refine O_p rfl rfl rfl ?_
                    refine O_h rfl rfl rfl rfl ?_
                    refine O_p rfl rfl rfl ?_
                    exact WO_nil (WL_nil ⟨rfl, rfl, rfl⟩)
                  case hR65 =>
                    intro vs hvs
                    obtain ⟨u62, u63, u64, rfl⟩ := len3 hvs
                    clear hvs; dsimp only [junk]
                    refine WO_nil ?_
                    refine WL_seq ?_
                    apply WL_prune
                    · (repeat (first | exact restr_nil | apply restr_cons rfl | apply restr_none rfl))
                    try clear u62 u63 u64
                    refine WL_cond rfl (fun h65 => ?_) (fun h65 => ?_)
                    · skip
                      simp at h65
                      have hb2 : ¬(a.pair = 2 ∧ b.pair = 2) := by omega
                      refine WL_seq ?_
                      refine WL_reg ?_
                      refine O_h rfl rfl rfl rfl ?_
                      refine O_c 17 rfl rfl (callA_of rfl (cdr_ref n a ha)) ?_
                      refine O_p rfl rfl rfl ?_
                      refine O_p rfl rfl rfl ?_
                      refine O_p rfl rfl rfl ?_
                      refine O_n rfl rfl rfl ?_
                      refine O_hn rfl rfl rfl rfl ?_
                      refine O_p rfl rfl rfl ?_
                      refine WO_nil ?_
                      refine WL_seq ?_
                      apply WL_prune
                      · (repeat (first | exact restr_nil | apply restr_cons rfl | apply restr_none rfl))
                      refine WL_seq ?_
                      refine WL_reg ?_
                      refine O_h rfl rfl rfl rfl ?_
                      refine O_c 17 rfl rfl (callA_of rfl (cdr_ref n b hb)) ?_
                      refine O_p rfl rfl rfl ?_
                      refine O_p rfl rfl rfl ?_
                      refine O_p rfl rfl rfl ?_
                      refine O_n rfl rfl rfl ?_
                      refine O_hn rfl rfl rfl rfl ?_
                      refine O_p rfl rfl rfl ?_
                      refine WO_nil ?_
                      refine WL_seq ?_
                      apply WL_prune
                      · (repeat (first | exact restr_nil | apply restr_cons rfl | apply restr_none rfl))
                      refine WL_seq ?_
                      refine WL_reg ?_
                      refine O_h rfl rfl rfl rfl ?_
                      refine O_h rfl rfl rfl rfl ?_
                      refine O_c 21 rfl rfl (callA_of rfl (ih _ _ _ h3.2.2 h4.2.2 (cdr_wf wa) (cdr_wf wb) (by omega) (by omega))) ?_
                      refine O_p rfl rfl rfl ?_
                      refine WO_nil ?_
                      refine WL_seq ?_
                      apply WL_prune
                      · (repeat (first | exact restr_nil | apply restr_cons rfl | apply restr_none rfl))
                      refine WL_cond rfl (fun h79 => ?_) (fun h79 => ?_)
                      · skip
                        have hr : subT (k + 1) a b = false := by simp at h79; rw [hS]; simp [h40, h57, h79, hb2]
                        refine WL_seq ?_
                        refine WL_reg ?_
                        refine O_p rfl rfl rfl ?_
                        refine WO_nil ?_
                        refine WL_ret ?_
                        exact ⟨_, rfl, _, rfl, by rw [hr]⟩
                      · skip
                        simp at h79
                        refine WL_skip ?_
                        refine WL_seq ?_
                        apply WL_prune
                        · (repeat (first | exact restr_nil | apply restr_cons rfl | apply restr_none rfl))
                        refine WL_seq ?_
                        refine WL_seq ?_
                        refine WL_reg ?_
                        refine O_p rfl rfl rfl ?_
                        refine O_h rfl rfl rfl rfl ?_
                        refine O_p rfl rfl rfl ?_
                        refine O_p rfl rfl rfl ?_
                        apply O_or [_, _, _] rfl rfl (hT := ?hT87) (h := ?hR87)
                        case hT87 =>
                          intro hb83
                          refine O_p rfl rfl rfl ?_
                          refine O_h rfl rfl rfl rfl ?_
                          refine O_p rfl rfl rfl ?_
                          exact WO_nil (WL_nil ⟨rfl, rfl, rfl⟩)
                        case hR87 =>
                          intro vs hvs
                          obtain ⟨u84, u85, u86, rfl⟩ := len3 hvs
                          clear hvs; dsimp only [junk]
                          refine WO_nil ?_
                          refine WL_seq ?_
                          apply WL_prune
                          · (repeat (first | exact restr_nil | apply restr_cons rfl | apply restr_none rfl))
                          try clear u84 u85 u86
                          refine WL_cond rfl (fun h87 => ?_) (fun h87 => ?_)
                          · skip
                            have hr : subT (k + 1) a b = true := by
                              simp at h87; rw [hS]
                              rcases h87 with q | q <;> simp_all
                            refine WL_seq ?_
                            refine WL_reg ?_
                            refine O_p rfl rfl rfl ?_
                            refine WO_nil ?_
                            refine WL_ret ?_
                            exact ⟨_, rfl, _, rfl, by rw [hr]⟩
                          · skip
                            simp at h87
                            have hf1 : a.funs.length ≥ 1 ∨ a.fn = 2 := by
                              by_cases q : a.fn = 1
                              · exact .inl (fa.2.2.2.2.2.2.2.1 q).1
                              · right; omega
                            refine WL_skip ?_
                            refine WL_seq ?_
                            apply WL_prune
                            · (repeat (first | exact restr_nil | apply restr_cons rfl | apply restr_none rfl))
                            refine WL_seq ?_
                            refine WL_seq ?_
                            refine WL_reg ?_
                            refine O_p rfl rfl rfl ?_
                            refine O_h rfl rfl rfl rfl ?_
                            refine O_p rfl rfl rfl ?_
                            refine O_p rfl rfl rfl ?_
                            apply O_or [_, _, _] rfl rfl (hT := ?hT95) (h := ?hR95)
                            case hT95 =>
                              intro hb91
                              refine O_p rfl rfl rfl ?_
                              refine O_h rfl rfl rfl rfl ?_
                              refine O_p rfl rfl rfl ?_
                              exact WO_nil (WL_nil ⟨rfl, rfl, rfl⟩)
                            case hR95 =>
                              intro vs hvs
                              obtain ⟨u92, u93, u94, rfl⟩ := len3 hvs
                              clear hvs; dsimp only [junk]
                              refine O_p rfl rfl rfl ?_
                              apply O_or [_, _, _, _, _, _, _] rfl rfl (hT := ?hT104) (h := ?hR104)
                              case hT104 =>
                                intro hb96
                                refine O_p rfl rfl rfl ?_
                                refine O_h rfl rfl rfl rfl ?_
                                refine O_h rfl rfl rfl rfl ?_
                                refine O_p rfl rfl rfl ?_
                                refine O_h rfl rfl rfl rfl ?_
                                refine O_h rfl rfl rfl rfl ?_
                                refine O_p rfl rfl rfl ?_
                                exact WO_nil (WL_nil ⟨rfl, rfl, rfl⟩)
                              case hR104 =>
                                intro vs hvs
                                obtain ⟨u97, u98, u99, u100, u101, u102, u103, rfl⟩ := len7 hvs
                                clear hvs; dsimp only [junk]
                                refine WO_nil ?_
                                refine WL_seq ?_
                                apply WL_prune
                                · (repeat (first | exact restr_nil | apply restr_cons rfl | apply restr_none rfl))
                                try clear u92 u93 u94 u97 u98 u99 u100 u101 u102 u103
                                refine WL_cond rfl (fun h104 => ?_) (fun h104 => ?_)
                                · skip
                                  have hr : subT (k + 1) a b = false := by
                                    simp at h104; rw [hS]
                                    rcases h104 with (q | q) | q
                                    · simp [h87, q]
                                    · simp [h87, q]
                                    · have q2 : ¬ b.funs.length = a.funs.length := by omega
                                      simp [h87, q2]
                                  refine WL_seq ?_
                                  refine WL_reg ?_
                                  refine O_p rfl rfl rfl ?_
                                  refine WO_nil ?_
                                  refine WL_ret ?_
                                  exact ⟨_, rfl, _, rfl, by rw [hr]⟩
                                · skip
                                  simp at h104
                                  have e63 : IntKind.i64.wrap (((List.map encT a.funs).length : Int) - 1) = ((a.funs.length - 1 : Nat) : Int) := by
                                    rw [List.length_map, kw_i64_id (by omega) (by omega)]; omega
                                  have hS2 : subT (k + 1) a b = ((List.range (a.funs.length - 1)).all (fun i => subT k (b.funs.getD i zeroT) (a.funs.getD i zeroT)) && subT k (a.funs.getD (a.funs.length - 1) zeroT) (b.funs.getD (a.funs.length - 1) zeroT)) := by
                                    have q2 : b.funs.length = a.funs.length := by omega
                                    rw [hS]; simp_all
                                  refine WL_skip ?_
                                  refine WL_seq ?_
                                  apply WL_prune
                                  · (repeat (first | exact restr_nil | apply restr_cons rfl | apply restr_none rfl))
                                  refine WL_seq ?_
                                  refine WL_reg ?_
                                  refine O_p rfl rfl rfl ?_
                                  refine O_h rfl rfl rfl rfl ?_
                                  refine O_h rfl rfl rfl rfl ?_
                                  refine O_p rfl rfl rfl ?_
                                  refine O_p rfl rfl rfl ?_
                                  refine WO_nil ?_
                                  refine WL_seq ?_
                                  apply WL_prune
                                  · (repeat (first | exact restr_nil | apply restr_cons rfl | apply restr_none rfl))
                                  refine WL_seq ?_
                                  refine WL_seq ?_
                                  refine WL_reg ?_
                                  refine O_p rfl rfl rfl ?_
                                  refine WO_nil ?_
                                  refine WL_seq ?_
                                  apply WL_prune
                                  · (repeat (first | exact restr_nil | apply restr_cons rfl | apply restr_none rfl))
                                  refine WL_block ?_
                                  rw [e63]
                                  apply WL_forc (α := Nat) (fun i => [(15, .int .i64 (i : Nat))]) (fun i => i ≤ a.funs.length - 1 ∧ (List.range i).all (fun i => subT k (b.funs.getD i zeroT) (a.funs.getD i zeroT)) = true) (fun i => a.funs.length - i) (0) (he := ?he) (hP := ?hP) (hk := ?hk) (round := ?round)
                                  case he =>
                                    (repeat (first | exact restr_nil | apply restr_cons rfl | apply restr_none rfl))
                                  case hP =>
                                    exact ⟨by simp, by simp⟩
                                  case hk =>
                                    show a.funs.length - 0 < n + 2; omega
                                  case round =>
                                    rintro i ⟨hi, hs⟩
                                    dsimp only [List.cons_append, List.nil_append] at *
                                    refine WL_seq ?_
                                    refine WL_seq ?_
                                    refine WL_reg ?_
                                    refine O_p rfl rfl rfl ?_
                                    refine O_p rfl rfl rfl ?_
                                    refine O_p rfl rfl rfl ?_
                                    refine WO_nil ?_
                                    refine WL_seq ?_
                                    apply WL_prune
                                    · (repeat (first | exact restr_nil | apply restr_cons rfl | apply restr_none rfl))
                                    refine WL_cond rfl (fun h111 => ?_) (fun h111 => ?_)
                                    · skip
                                      simp at h111
                                      obtain ⟨x, hx⟩ : ∃ x, (b.funs)[i]? = some x := ⟨_, List.getElem?_eq_getElem (by omega)⟩
                                      have hmx := List.mem_of_getElem? hx
                                      have hsx := szT_funs hmx
                                      obtain ⟨y, hy⟩ : ∃ y, (a.funs)[i]? = some y := ⟨_, List.getElem?_eq_getElem (by omega)⟩
                                      have hmy := List.mem_of_getElem? hy
                                      have hsy := szT_funs hmy
                                      refine WL_skip ?_
                                      refine WL_seq ?_
                                      apply WL_prune
                                      · (repeat (first | exact restr_nil | apply restr_cons rfl | apply restr_none rfl))
                                      refine WL_seq ?_
                                      refine WL_block ?_
                                      refine WL_seq ?_
                                      refine WL_drawS (ops := [_, _, _, _, _, _, _, _, _, _, _, _]) rfl rfl ?_
                                      refine O_p rfl rfl rfl ?_
                                      refine O_h rfl rfl rfl rfl ?_
                                      refine O_p rfl rfl rfl ?_
                                      refine O_ia rfl rfl (Int.natCast_nonneg _) (encT_get (i := (i : Nat)) hx) (encT_flat _) rfl ?_
                                      refine O_h rfl rfl rfl rfl ?_
                                      refine O_p rfl rfl rfl ?_
                                      refine O_h rfl rfl rfl rfl ?_
                                      refine O_p rfl rfl rfl ?_
                                      refine O_ia rfl rfl (Int.natCast_nonneg _) (encT_get (i := (i : Nat)) hy) (encT_flat _) rfl ?_
                                      refine O_h rfl rfl rfl rfl ?_
                                      refine O_c 21 rfl rfl (callA_of rfl (ih _ x y (hb.funs hmx) (ha.funs hmy) (wb.funs hmx) (wa.funs hmy) (by omega) (by omega))) ?_
                                      refine O_p rfl rfl rfl ?_
                                      refine WO_nil (WL_nil ⟨rfl, ?_⟩)
                                      refine WL_seq ?_
                                      apply WL_prune
                                      · (repeat (first | exact restr_nil | apply restr_cons rfl | apply restr_none rfl))
                                      refine WL_cond rfl (fun h125 => ?_) (fun h125 => ?_)
                                      · skip
                                        have hr : subT (k + 1) a b = false := by
                                          simp at h125
                                          rw [hS2]
                                          have : (List.range (a.funs.length - 1)).all (fun i => subT k (b.funs.getD i zeroT) (a.funs.getD i zeroT)) = false := by
                                            rw [List.all_eq_false]; exact ⟨i, List.mem_range.2 (by omega), by rw [getD_of hx, getD_of hy, h125]; decide⟩
                                          rw [this]; rfl
                                        refine WL_seq ?_
                                        refine WL_reg ?_
                                        refine O_p rfl rfl rfl ?_
                                        refine WO_nil ?_
                                        refine WL_ret ?_
                                        refine Blk_ret ?_
                                        refine RndC_ret ?_
                                        refine Blk_ret ?_
                                        exact ⟨_, rfl, _, rfl, by rw [hr]⟩
                                      · skip
                                        refine WL_skip ?_
                                        refine WL_nil ?_
                                        refine Blk_norm (?_ : WL _ _ _ _ _)
                                        refine WL_seq ?_
                                        apply WL_prune
                                        · (repeat (first | exact restr_nil | apply restr_cons rfl | apply restr_none rfl))
                                        refine WL_reg ?_
                                        refine O_p rfl rfl rfl ?_
                                        refine O_p rfl rfl rfl ?_
                                        refine O_p rfl rfl rfl ?_
                                        refine WO_nil ?_
                                        refine WL_nil ?_
                                        simp at h125
                                        refine RndC_norm (i + 1) (by refine ⟨by omega, ?_⟩; rw [range_all_succ, hs, getD_of hx, getD_of hy, h125]; rfl) (by show _ < _; omega) ?_ rfl
                                        · rw [wrap_succ (by omega)]; (repeat (first | exact restr_nil | apply restr_cons rfl | apply restr_none rfl))
                                    · skip
                                      simp at h111
                                      obtain rfl : i = a.funs.length - 1 := by omega
                                      obtain ⟨x, hx⟩ : ∃ x, (b.funs)[(a.funs.length - 1)]? = some x := ⟨_, List.getElem?_eq_getElem (by omega)⟩
                                      have hmx := List.mem_of_getElem? hx
                                      have hsx := szT_funs hmx
                                      obtain ⟨y, hy⟩ : ∃ y, (a.funs)[(a.funs.length - 1)]? = some y := ⟨_, List.getElem?_eq_getElem (by omega)⟩
                                      have hmy := List.mem_of_getElem? hy
                                      have hsy := szT_funs hmy
                                      have hr : subT (k + 1) a b = subT k y x := by
                                        rw [hS2, hs, getD_of hx, getD_of hy]; rfl
                                      refine WL_exit ?_
                                      refine RndC_exit ?_
                                      refine Blk_exit (?_ : WL _ _ _ _ _)
                                      refine WL_seq ?_
                                      apply WL_prune
                                      · (repeat (first | exact restr_nil | apply restr_cons rfl | apply restr_none rfl))
                                      refine WL_seq ?_
                                      refine WL_drawS (ops := [_, _, _, _, _, _, _, _, _, _, _, _]) rfl rfl ?_
                                      refine O_p rfl rfl rfl ?_
                                      refine O_h rfl rfl rfl rfl ?_
                                      refine O_p rfl rfl rfl ?_
                                      refine O_ia rfl rfl (Int.natCast_nonneg _) (encT_get (i := ((a.funs.length - 1) : Nat)) hy) (encT_flat _) rfl ?_
                                      refine O_h rfl rfl rfl rfl ?_
                                      refine O_p rfl rfl rfl ?_
                                      refine O_h rfl rfl rfl rfl ?_
                                      refine O_p rfl rfl rfl ?_
                                      refine O_ia rfl rfl (Int.natCast_nonneg _) (encT_get (i := ((a.funs.length - 1) : Nat)) hx) (encT_flat _) rfl ?_
                                      refine O_h rfl rfl rfl rfl ?_
                                      refine O_c 21 rfl rfl (callA_of rfl (ih _ y x (ha.funs hmy) (hb.funs hmx) (wa.funs hmy) (wb.funs hmx) (by omega) (by omega))) ?_
                                      refine O_p rfl rfl rfl ?_
                                      refine WO_nil (WL_nil ⟨rfl, ?_⟩)
                                      refine WL_ret ?_
                                      exact ⟨_, rfl, _, rfl, by rw [hr]⟩
                    · skip
                      simp at h65
                      have hb2 : a.pair = 2 ∧ b.pair = 2 := by omega
                      refine WL_skip ?_
                      refine WL_seq ?_
                      apply WL_prune
                      · (repeat (first | exact restr_nil | apply restr_cons rfl | apply restr_none rfl))
                      refine WL_seq ?_
                      refine WL_seq ?_
                      refine WL_reg ?_
                      refine O_p rfl rfl rfl ?_
                      refine O_h rfl rfl rfl rfl ?_
                      refine O_p rfl rfl rfl ?_
                      refine O_p rfl rfl rfl ?_
                      apply O_or [_, _, _] rfl rfl (hT := ?hT87) (h := ?hR87)
                      case hT87 =>
                        intro hb83
                        refine O_p rfl rfl rfl ?_
                        refine O_h rfl rfl rfl rfl ?_
                        refine O_p rfl rfl rfl ?_
                        exact WO_nil (WL_nil ⟨rfl, rfl, rfl⟩)
                      case hR87 =>
                        intro vs hvs
                        obtain ⟨u84, u85, u86, rfl⟩ := len3 hvs
                        clear hvs; dsimp only [junk]
                        refine WO_nil ?_
                        refine WL_seq ?_
                        apply WL_prune
                        · (repeat (first | exact restr_nil | apply restr_cons rfl | apply restr_none rfl))
                        try clear u84 u85 u86
                        refine WL_cond rfl (fun h87 => ?_) (fun h87 => ?_)
                        · skip
                          have hr : subT (k + 1) a b = true := by
                            simp at h87; rw [hS]
                            rcases h87 with q | q <;> simp_all
                          refine WL_seq ?_
                          refine WL_reg ?_
                          refine O_p rfl rfl rfl ?_
                          refine WO_nil ?_
                          refine WL_ret ?_
                          exact ⟨_, rfl, _, rfl, by rw [hr]⟩
                        · skip
                          simp at h87
                          have hf1 : a.funs.length ≥ 1 ∨ a.fn = 2 := by
                            by_cases q : a.fn = 1
                            · exact .inl (fa.2.2.2.2.2.2.2.1 q).1
                            · right; omega
                          refine WL_skip ?_
                          refine WL_seq ?_
                          apply WL_prune
                          · (repeat (first | exact restr_nil | apply restr_cons rfl | apply restr_none rfl))
                          refine WL_seq ?_
                          refine WL_seq ?_
                          refine WL_reg ?_
                          refine O_p rfl rfl rfl ?_
                          refine O_h rfl rfl rfl rfl ?_
                          refine O_p rfl rfl rfl ?_
                          refine O_p rfl rfl rfl ?_
                          apply O_or [_, _, _] rfl rfl (hT := ?hT95) (h := ?hR95)
                          case hT95 =>
                            intro hb91
                            refine O_p rfl rfl rfl ?_
                            refine O_h rfl rfl rfl rfl ?_
                            refine O_p rfl rfl rfl ?_
                            exact WO_nil (WL_nil ⟨rfl, rfl, rfl⟩)
                          case hR95 =>
                            intro vs hvs
                            obtain ⟨u92, u93, u94, rfl⟩ := len3 hvs
                            clear hvs; dsimp only [junk]
                            refine O_p rfl rfl rfl ?_
                            apply O_or [_, _, _, _, _, _, _] rfl rfl (hT := ?hT104) (h := ?hR104)
                            case hT104 =>
                              intro hb96
                              refine O_p rfl rfl rfl ?_
                              refine O_h rfl rfl rfl rfl ?_
                              refine O_h rfl rfl rfl rfl ?_
                              refine O_p rfl rfl rfl ?_
                              refine O_h rfl rfl rfl rfl ?_
                              refine O_h rfl rfl rfl rfl ?_
                              refine O_p rfl rfl rfl ?_
                              exact WO_nil (WL_nil ⟨rfl, rfl, rfl⟩)
                            case hR104 =>
                              intro vs hvs
                              obtain ⟨u97, u98, u99, u100, u101, u102, u103, rfl⟩ := len7 hvs
                              clear hvs; dsimp only [junk]
                              refine WO_nil ?_
                              refine WL_seq ?_
                              apply WL_prune
                              · (repeat (first | exact restr_nil | apply restr_cons rfl | apply restr_none rfl))
                              try clear u92 u93 u94 u97 u98 u99 u100 u101 u102 u103
                              refine WL_cond rfl (fun h104 => ?_) (fun h104 => ?_)
                              · skip
                                have hr : subT (k + 1) a b = false := by
                                  simp at h104; rw [hS]
                                  rcases h104 with (q | q) | q
                                  · simp [h87, q]
                                  · simp [h87, q]
                                  · have q2 : ¬ b.funs.length = a.funs.length := by omega
                                    simp [h87, q2]
                                refine WL_seq ?_
                                refine WL_reg ?_
                                refine O_p rfl rfl rfl ?_
                                refine WO_nil ?_
                                refine WL_ret ?_
                                exact ⟨_, rfl, _, rfl, by rw [hr]⟩
                              · skip
                                simp at h104
                                have e63 : IntKind.i64.wrap (((List.map encT a.funs).length : Int) - 1) = ((a.funs.length - 1 : Nat) : Int) := by
                                  rw [List.length_map, kw_i64_id (by omega) (by omega)]; omega
                                have hS2 : subT (k + 1) a b = ((List.range (a.funs.length - 1)).all (fun i => subT k (b.funs.getD i zeroT) (a.funs.getD i zeroT)) && subT k (a.funs.getD (a.funs.length - 1) zeroT) (b.funs.getD (a.funs.length - 1) zeroT)) := by
                                  have q2 : b.funs.length = a.funs.length := by omega
                                  rw [hS]; simp_all
                                refine WL_skip ?_
                                refine WL_seq ?_
                                apply WL_prune
                                · (repeat (first | exact restr_nil | apply restr_cons rfl | apply restr_none rfl))
                                refine WL_seq ?_
                                refine WL_reg ?_
                                refine O_p rfl rfl rfl ?_
                                refine O_h rfl rfl rfl rfl ?_
                                refine O_h rfl rfl rfl rfl ?_
                                refine O_p rfl rfl rfl ?_
                                refine O_p rfl rfl rfl ?_
                                refine WO_nil ?_
                                refine WL_seq ?_
                                apply WL_prune
                                · (repeat (first | exact restr_nil | apply restr_cons rfl | apply restr_none rfl))
                                refine WL_seq ?_
                                refine WL_seq ?_
                                refine WL_reg ?_
                                refine O_p rfl rfl rfl ?_
                                refine WO_nil ?_
                                refine WL_seq ?_
                                apply WL_prune
                                · (repeat (first | exact restr_nil | apply restr_cons rfl | apply restr_none rfl))
                                refine WL_block ?_
                                rw [e63]
                                apply WL_forc (α := Nat) (fun i => [(15, .int .i64 (i : Nat))]) (fun i => i ≤ a.funs.length - 1 ∧ (List.range i).all (fun i => subT k (b.funs.getD i zeroT) (a.funs.getD i zeroT)) = true) (fun i => a.funs.length - i) (0) (he := ?he) (hP := ?hP) (hk := ?hk) (round := ?round)
                                case he =>
                                  (repeat (first | exact restr_nil | apply restr_cons rfl | apply restr_none rfl))
                                case hP =>
                                  exact ⟨by simp, by simp⟩
                                case hk =>
                                  show a.funs.length - 0 < n + 2; omega
                                case round =>
                                  rintro i ⟨hi, hs⟩
                                  dsimp only [List.cons_append, List.nil_append] at *
                                  refine WL_seq ?_
                                  refine WL_seq ?_
                                  refine WL_reg ?_
                                  refine O_p rfl rfl rfl ?_
                                  refine O_p rfl rfl rfl ?_
                                  refine O_p rfl rfl rfl ?_
                                  refine WO_nil ?_
                                  refine WL_seq ?_
                                  apply WL_prune
                                  · (repeat (first | exact restr_nil | apply restr_cons rfl | apply restr_none rfl))
                                  refine WL_cond rfl (fun h111 => ?_) (fun h111 => ?_)
                                  · skip
                                    simp at h111
                                    obtain ⟨x, hx⟩ : ∃ x, (b.funs)[i]? = some x := ⟨_, List.getElem?_eq_getElem (by omega)⟩
                                    have hmx := List.mem_of_getElem? hx
                                    have hsx := szT_funs hmx
                                    obtain ⟨y, hy⟩ : ∃ y, (a.funs)[i]? = some y := ⟨_, List.getElem?_eq_getElem (by omega)⟩
                                    have hmy := List.mem_of_getElem? hy
                                    have hsy := szT_funs hmy
                                    refine WL_skip ?_
                                    refine WL_seq ?_
                                    apply WL_prune
                                    · (repeat (first | exact restr_nil | apply restr_cons rfl | apply restr_none rfl))
                                    refine WL_seq ?_
                                    refine WL_block ?_
                                    refine WL_seq ?_
                                    refine WL_drawS (ops := [_, _, _, _, _, _, _, _, _, _, _, _]) rfl rfl ?_
                                    refine O_p rfl rfl rfl ?_
                                    refine O_h rfl rfl rfl rfl ?_
                                    refine O_p rfl rfl rfl ?_
                                    refine O_ia rfl rfl (Int.natCast_nonneg _) (encT_get (i := (i : Nat)) hx) (encT_flat _) rfl ?_
                                    refine O_h rfl rfl rfl rfl ?_
                                    refine O_p rfl rfl rfl ?_
                                    refine O_h rfl rfl rfl rfl ?_
                                    refine O_p rfl rfl rfl ?_
                                    refine O_ia rfl rfl (Int.natCast_nonneg _) (encT_get (i := (i : Nat)) hy) (encT_flat _) rfl ?_
                                    refine O_h rfl rfl rfl rfl ?_
                                    refine O_c 21 rfl rfl (callA_of rfl (ih _ x y (hb.funs hmx) (ha.funs hmy) (wb.funs hmx) (wa.funs hmy) (by omega) (by omega))) ?_
                                    refine O_p rfl rfl rfl ?_
                                    refine WO_nil (WL_nil ⟨rfl, ?_⟩)
                                    refine WL_seq ?_
                                    apply WL_prune
                                    · (repeat (first | exact restr_nil | apply restr_cons rfl | apply restr_none rfl))
                                    refine WL_cond rfl (fun h125 => ?_) (fun h125 => ?_)
                                    · skip
                                      have hr : subT (k + 1) a b = false := by
                                        simp at h125
                                        rw [hS2]
                                        have : (List.range (a.funs.length - 1)).all (fun i => subT k (b.funs.getD i zeroT) (a.funs.getD i zeroT)) = false := by
                                          rw [List.all_eq_false]; exact ⟨i, List.mem_range.2 (by omega), by rw [getD_of hx, getD_of hy, h125]; decide⟩
                                        rw [this]; rfl
                                      refine WL_seq ?_
                                      refine WL_reg ?_
                                      refine O_p rfl rfl rfl ?_
                                      refine WO_nil ?_
                                      refine WL_ret ?_
                                      refine Blk_ret ?_
                                      refine RndC_ret ?_
                                      refine Blk_ret ?_
                                      exact ⟨_, rfl, _, rfl, by rw [hr]⟩
                                    · skip
                                      refine WL_skip ?_
                                      refine WL_nil ?_
                                      refine Blk_norm (?_ : WL _ _ _ _ _)
                                      refine WL_seq ?_
                                      apply WL_prune
                                      · (repeat (first | exact restr_nil | apply restr_cons rfl | apply restr_none rfl))
                                      refine WL_reg ?_
                                      refine O_p rfl rfl rfl ?_
                                      refine O_p rfl rfl rfl ?_
                                      refine O_p rfl rfl rfl ?_
                                      refine WO_nil ?_
                                      refine WL_nil ?_
                                      simp at h125
                                      refine RndC_norm (i + 1) (by refine ⟨by omega, ?_⟩; rw [range_all_succ, hs, getD_of hx, getD_of hy, h125]; rfl) (by show _ < _; omega) ?_ rfl
                                      · rw [wrap_succ (by omega)]; (repeat (first | exact restr_nil | apply restr_cons rfl | apply restr_none rfl))
                                  · skip
                                    simp at h111
                                    obtain rfl : i = a.funs.length - 1 := by omega
                                    obtain ⟨x, hx⟩ : ∃ x, (b.funs)[(a.funs.length - 1)]? = some x := ⟨_, List.getElem?_eq_getElem (by omega)⟩
                                    have hmx := List.mem_of_getElem? hx
                                    have hsx := szT_funs hmx
                                    obtain ⟨y, hy⟩ : ∃ y, (a.funs)[(a.funs.length - 1)]? = some y := ⟨_, List.getElem?_eq_getElem (by omega)⟩
                                    have hmy := List.mem_of_getElem? hy
                                    have hsy := szT_funs hmy
                                    have hr : subT (k + 1) a b = subT k y x := by
                                      rw [hS2, hs, getD_of hx, getD_of hy]; rfl
                                    refine WL_exit ?_
                                    refine RndC_exit ?_
                                    refine Blk_exit (?_ : WL _ _ _ _ _)
                                    refine WL_seq ?_
                                    apply WL_prune
                                    · (repeat (first | exact restr_nil | apply restr_cons rfl | apply restr_none rfl))
                                    refine WL_seq ?_
                                    refine WL_drawS (ops := [_, _, _, _, _, _, _, _, _, _, _, _]) rfl rfl ?_
                                    refine O_p rfl rfl rfl ?_
                                    refine O_h rfl rfl rfl rfl ?_
                                    refine O_p rfl rfl rfl ?_
                                    refine O_ia rfl rfl (Int.natCast_nonneg _) (encT_get (i := ((a.funs.length - 1) : Nat)) hy) (encT_flat _) rfl ?_
                                    refine O_h rfl rfl rfl rfl ?_
                                    refine O_p rfl rfl rfl ?_
                                    refine O_h rfl rfl rfl rfl ?_
                                    refine O_p rfl rfl rfl ?_
                                    refine O_ia rfl rfl (Int.natCast_nonneg _) (encT_get (i := ((a.funs.length - 1) : Nat)) hx) (encT_flat _) rfl ?_
                                    refine O_h rfl rfl rfl rfl ?_
                                    refine O_c 21 rfl rfl (callA_of rfl (ih _ y x (ha.funs hmy) (hb.funs hmx) (wa.funs hmy) (wb.funs hmx) (by omega) (by omega))) ?_
                                    refine O_p rfl rfl rfl ?_
                                    refine WO_nil (WL_nil ⟨rfl, ?_⟩)
                                    refine WL_ret ?_
                                    exact ⟨_, rfl, _, rfl, by rw [hr]⟩
            · skip
              simp at h40
              refine WL_skip ?_
              refine WL_seq ?_
              apply WL_prune
              · (repeat (first | exact restr_nil | apply restr_cons rfl | apply restr_none rfl))
              refine WL_seq ?_
              refine WL_seq ?_
              refine WL_reg ?_
              refine O_p rfl rfl rfl ?_
              refine O_h rfl rfl rfl rfl ?_
              refine O_p rfl rfl rfl ?_
              refine O_p rfl rfl rfl ?_
              apply O_or [_, _, _] rfl rfl (hT := ?hT87) (h := ?hR87)
              case hT87 =>
                intro hb83
                refine O_p rfl rfl rfl ?_
                refine O_h rfl rfl rfl rfl ?_
                refine O_p rfl rfl rfl ?_
                exact WO_nil (WL_nil ⟨rfl, rfl, rfl⟩)
              case hR87 =>
                intro vs hvs
                obtain ⟨u84, u85, u86, rfl⟩ := len3 hvs
                clear hvs; dsimp only [junk]
                refine WO_nil ?_
                refine WL_seq ?_
                apply WL_prune
                · (repeat (first | exact restr_nil | apply restr_cons rfl | apply restr_none rfl))
                try clear u84 u85 u86
                refine WL_cond rfl (fun h87 => ?_) (fun h87 => ?_)
                · skip
                  have hr : subT (k + 1) a b = true := by
                    simp at h87; rw [hS]
                    rcases h87 with q | q <;> simp_all
                  refine WL_seq ?_
                  refine WL_reg ?_
                  refine O_p rfl rfl rfl ?_
                  refine WO_nil ?_
                  refine WL_ret ?_
                  exact ⟨_, rfl, _, rfl, by rw [hr]⟩
                · skip
                  simp at h87
                  have hf1 : a.funs.length ≥ 1 ∨ a.fn = 2 := by
                    by_cases q : a.fn = 1
                    · exact .inl (fa.2.2.2.2.2.2.2.1 q).1
                    · right; omega
                  refine WL_skip ?_
                  refine WL_seq ?_
                  apply WL_prune
                  · (repeat (first | exact restr_nil | apply restr_cons rfl | apply restr_none rfl))
                  refine WL_seq ?_
                  refine WL_seq ?_
                  refine WL_reg ?_
                  refine O_p rfl rfl rfl ?_
                  refine O_h rfl rfl rfl rfl ?_
                  refine O_p rfl rfl rfl ?_
                  refine O_p rfl rfl rfl ?_
                  apply O_or [_, _, _] rfl rfl (hT := ?hT95) (h := ?hR95)
                  case hT95 =>
                    intro hb91
                    refine O_p rfl rfl rfl ?_
                    refine O_h rfl rfl rfl rfl ?_
                    refine O_p rfl rfl rfl ?_
                    exact WO_nil (WL_nil ⟨rfl, rfl, rfl⟩)
                  case hR95 =>
                    intro vs hvs
                    obtain ⟨u92, u93, u94, rfl⟩ := len3 hvs
                    clear hvs; dsimp only [junk]
                    refine O_p rfl rfl rfl ?_
                    apply O_or [_, _, _, _, _, _, _] rfl rfl (hT := ?hT104) (h := ?hR104)
                    case hT104 =>
                      intro hb96
                      refine O_p rfl rfl rfl ?_
                      refine O_h rfl rfl rfl rfl ?_
                      refine O_h rfl rfl rfl rfl ?_
                      refine O_p rfl rfl rfl ?_
                      refine O_h rfl rfl rfl rfl ?_
                      refine O_h rfl rfl rfl rfl ?_
                      refine O_p rfl rfl rfl ?_
                      exact WO_nil (WL_nil ⟨rfl, rfl, rfl⟩)
                    case hR104 =>
                      intro vs hvs
                      obtain ⟨u97, u98, u99, u100, u101, u102, u103, rfl⟩ := len7 hvs
                      clear hvs; dsimp only [junk]
                      refine WO_nil ?_
                      refine WL_seq ?_
                      apply WL_prune
                      · (repeat (first | exact restr_nil | apply restr_cons rfl | apply restr_none rfl))
                      try clear u92 u93 u94 u97 u98 u99 u100 u101 u102 u103
                      refine WL_cond rfl (fun h104 => ?_) (fun h104 => ?_)
                      · skip
                        have hr : subT (k + 1) a b = false := by
                          simp at h104; rw [hS]
                          rcases h104 with (q | q) | q
                          · simp [h87, q]
                          · simp [h87, q]
                          · have q2 : ¬ b.funs.length = a.funs.length := by omega
                            simp [h87, q2]
                        refine WL_seq ?_
                        refine WL_reg ?_
                        refine O_p rfl rfl rfl ?_
                        refine WO_nil ?_
                        refine WL_ret ?_
                        exact ⟨_, rfl, _, rfl, by rw [hr]⟩
                      · skip
                        simp at h104
                        have e63 : IntKind.i64.wrap (((List.map encT a.funs).length : Int) - 1) = ((a.funs.length - 1 : Nat) : Int) := by
                          rw [List.length_map, kw_i64_id (by omega) (by omega)]; omega
                        have hS2 : subT (k + 1) a b = ((List.range (a.funs.length - 1)).all (fun i => subT k (b.funs.getD i zeroT) (a.funs.getD i zeroT)) && subT k (a.funs.getD (a.funs.length - 1) zeroT) (b.funs.getD (a.funs.length - 1) zeroT)) := by
                          have q2 : b.funs.length = a.funs.length := by omega
                          rw [hS]; simp_all
                        refine WL_skip ?_
                        refine WL_seq ?_
                        apply WL_prune
                        · (repeat (first | exact restr_nil | apply restr_cons rfl | apply restr_none rfl))
                        refine WL_seq ?_
                        refine WL_reg ?_
                        refine O_p rfl rfl rfl ?_
                        refine O_h rfl rfl rfl rfl ?_
                        refine O_h rfl rfl rfl rfl ?_
                        refine O_p rfl rfl rfl ?_
                        refine O_p rfl rfl rfl ?_
                        refine WO_nil ?_
                        refine WL_seq ?_
                        apply WL_prune
                        · (repeat (first | exact restr_nil | apply restr_cons rfl | apply restr_none rfl))
                        refine WL_seq ?_
                        refine WL_seq ?_
                        refine WL_reg ?_
                        refine O_p rfl rfl rfl ?_
                        refine WO_nil ?_
                        refine WL_seq ?_
                        apply WL_prune
                        · (repeat (first | exact restr_nil | apply restr_cons rfl | apply restr_none rfl))
                        refine WL_block ?_
                        rw [e63]
                        apply WL_forc (α := Nat) (fun i => [(15, .int .i64 (i : Nat))]) (fun i => i ≤ a.funs.length - 1 ∧ (List.range i).all (fun i => subT k (b.funs.getD i zeroT) (a.funs.getD i zeroT)) = true) (fun i => a.funs.length - i) (0) (he := ?he) (hP := ?hP) (hk := ?hk) (round := ?round)
                        case he =>
                          (repeat (first | exact restr_nil | apply restr_cons rfl | apply restr_none rfl))
                        case hP =>
                          exact ⟨by simp, by simp⟩
                        case hk =>
                          show a.funs.length - 0 < n + 2; omega
                        case round =>
                          rintro i ⟨hi, hs⟩
                          dsimp only [List.cons_append, List.nil_append] at *
                          refine WL_seq ?_
                          refine WL_seq ?_
                          refine WL_reg ?_
                          refine O_p rfl rfl rfl ?_
                          refine O_p rfl rfl rfl ?_
                          refine O_p rfl rfl rfl ?_
                          refine WO_nil ?_
                          refine WL_seq ?_
                          apply WL_prune
                          · (repeat (first | exact restr_nil | apply restr_cons rfl | apply restr_none rfl))
                          refine WL_cond rfl (fun h111 => ?_) (fun h111 => ?_)
                          · skip
                            simp at h111
                            obtain ⟨x, hx⟩ : ∃ x, (b.funs)[i]? = some x := ⟨_, List.getElem?_eq_getElem (by omega)⟩
                            have hmx := List.mem_of_getElem? hx
                            have hsx := szT_funs hmx
                            obtain ⟨y, hy⟩ : ∃ y, (a.funs)[i]? = some y := ⟨_, List.getElem?_eq_getElem (by omega)⟩
                            have hmy := List.mem_of_getElem? hy
                            have hsy := szT_funs hmy
                            refine WL_skip ?_
                            refine WL_seq ?_
                            apply WL_prune
                            · (repeat (first | exact restr_nil | apply restr_cons rfl | apply restr_none rfl))
                            refine WL_seq ?_
                            refine WL_block ?_
                            refine WL_seq ?_
                            refine WL_drawS (ops := [_, _, _, _, _, _, _, _, _, _, _, _]) rfl rfl ?_
                            refine O_p rfl rfl rfl ?_
                            refine O_h rfl rfl rfl rfl ?_
                            refine O_p rfl rfl rfl ?_
                            refine O_ia rfl rfl (Int.natCast_nonneg _) (encT_get (i := (i : Nat)) hx) (encT_flat _) rfl ?_
                            refine O_h rfl rfl rfl rfl ?_
                            refine O_p rfl rfl rfl ?_
                            refine O_h rfl rfl rfl rfl ?_
                            refine O_p rfl rfl rfl ?_
                            refine O_ia rfl rfl (Int.natCast_nonneg _) (encT_get (i := (i : Nat)) hy) (encT_flat _) rfl ?_
                            refine O_h rfl rfl rfl rfl ?_
                            refine O_c 21 rfl rfl (callA_of rfl (ih _ x y (hb.funs hmx) (ha.funs hmy) (wb.funs hmx) (wa.funs hmy) (by omega) (by omega))) ?_
                            refine O_p rfl rfl rfl ?_
                            refine WO_nil (WL_nil ⟨rfl, ?_⟩)
                            refine WL_seq ?_
                            apply WL_prune
                            · (repeat (first | exact restr_nil | apply restr_cons rfl | apply restr_none rfl))
                            refine WL_cond rfl (fun h125 => ?_) (fun h125 => ?_)
                            · skip
                              have hr : subT (k + 1) a b = false := by
                                simp at h125
                                rw [hS2]
                                have : (List.range (a.funs.length - 1)).all (fun i => subT k (b.funs.getD i zeroT) (a.funs.getD i zeroT)) = false := by
                                  rw [List.all_eq_false]; exact ⟨i, List.mem_range.2 (by omega), by rw [getD_of hx, getD_of hy, h125]; decide⟩
                                rw [this]; rfl
                              refine WL_seq ?_
                              refine WL_reg ?_
                              refine O_p rfl rfl rfl ?_
                              refine WO_nil ?_
                              refine WL_ret ?_
                              refine Blk_ret ?_
                              refine RndC_ret ?_
                              refine Blk_ret ?_
                              exact ⟨_, rfl, _, rfl, by rw [hr]⟩
                            · skip
                              refine WL_skip ?_
                              refine WL_nil ?_
                              refine Blk_norm (?_ : WL _ _ _ _ _)
                              refine WL_seq ?_
                              apply WL_prune
                              · (repeat (first | exact restr_nil | apply restr_cons rfl | apply restr_none rfl))
                              refine WL_reg ?_
                              refine O_p rfl rfl rfl ?_
                              refine O_p rfl rfl rfl ?_
                              refine O_p rfl rfl rfl ?_
                              refine WO_nil ?_
                              refine WL_nil ?_
                              simp at h125
                              refine RndC_norm (i + 1) (by refine ⟨by omega, ?_⟩; rw [range_all_succ, hs, getD_of hx, getD_of hy, h125]; rfl) (by show _ < _; omega) ?_ rfl
                              · rw [wrap_succ (by omega)]; (repeat (first | exact restr_nil | apply restr_cons rfl | apply restr_none rfl))
                          · skip
                            simp at h111
                            obtain rfl : i = a.funs.length - 1 := by omega
                            obtain ⟨x, hx⟩ : ∃ x, (b.funs)[(a.funs.length - 1)]? = some x := ⟨_, List.getElem?_eq_getElem (by omega)⟩
                            have hmx := List.mem_of_getElem? hx
                            have hsx := szT_funs hmx
                            obtain ⟨y, hy⟩ : ∃ y, (a.funs)[(a.funs.length - 1)]? = some y := ⟨_, List.getElem?_eq_getElem (by omega)⟩
                            have hmy := List.mem_of_getElem? hy
                            have hsy := szT_funs hmy
                            have hr : subT (k + 1) a b = subT k y x := by
                              rw [hS2, hs, getD_of hx, getD_of hy]; rfl
                            refine WL_exit ?_
                            refine RndC_exit ?_
                            refine Blk_exit (?_ : WL _ _ _ _ _)
                            refine WL_seq ?_
                            apply WL_prune
                            · (repeat (first | exact restr_nil | apply restr_cons rfl | apply restr_none rfl))
                            refine WL_seq ?_
                            refine WL_drawS (ops := [_, _, _, _, _, _, _, _, _, _, _, _]) rfl rfl ?_
                            refine O_p rfl rfl rfl ?_
                            refine O_h rfl rfl rfl rfl ?_
                            refine O_p rfl rfl rfl ?_
                            refine O_ia rfl rfl (Int.natCast_nonneg _) (encT_get (i := ((a.funs.length - 1) : Nat)) hy) (encT_flat _) rfl ?_
                            refine O_h rfl rfl rfl rfl ?_
                            refine O_p rfl rfl rfl ?_
                            refine O_h rfl rfl rfl rfl ?_
                            refine O_p rfl rfl rfl ?_
                            refine O_ia rfl rfl (Int.natCast_nonneg _) (encT_get (i := ((a.funs.length - 1) : Nat)) hx) (encT_flat _) rfl ?_
                            refine O_h rfl rfl rfl rfl ?_
                            refine O_c 21 rfl rfl (callA_of rfl (ih _ y x (ha.funs hmy) (hb.funs hmx) (wa.funs hmy) (wb.funs hmx) (by omega) (by omega))) ?_
                            refine O_p rfl rfl rfl ?_
                            refine WO_nil (WL_nil ⟨rfl, ?_⟩)
                            refine WL_ret ?_
                            exact ⟨_, rfl, _, rfl, by rw [hr]⟩

def outB (f p g : Int) (gs : List Ty) (x : AVal) : ABlock := .cells [.bool false, .int .i64 f, .int .i64 p, x, .int .i64 g, .lst (gs.map encT) false]
def zeroB : ABlock := .cells [.bool false, .int .i64 0, .int .i64 0, .lst [] true, .int .i64 0, .lst [] true]
theorem join1_c (m : Nat) (a b x y u w r : Ty) (f p g : Int) (gs : List Ty) (h : pcall (tabOf tabL) m 18 [vT x, vT y] = some (.ok (vT r))) :
    callA ⟨callF (tabOf tabL) (m + 1), m + 1⟩ false 36 [vT x, vT y, .ptr 3 0] [.cells (cT a), .cells (cT b), zeroB, outB f p g gs (.lst [] true), .cells (cT a), .cells (cT b), .cells (cT u), .cells (cT w)] =
      some (.ok (.tup []), [.cells (cT a), .cells (cT b), zeroB, outB f p g gs (.gl 10 1), .cells (cT a), .cells (cT b), .cells (cT u), .cells (cT w), .cells (cT x), .cells (cT y), .grow 6 [vT r] none]) := by
  refine callA_nr (H1 := [.cells (cT a), .cells (cT b), zeroB, outB f p g gs (.gl 10 1), .cells (cT a), .cells (cT b), .cells (cT u), .cells (cT w), .cells (cT x), .cells (cT y), .grow 6 [vT r] none]) rfl ?_ rfl
  refine callF_fin t36 ?_
  refine WL_seq ?_
  refine WL_reg ?_
  refine O_n rfl rfl rfl ?_
  refine O_n rfl rfl rfl ?_
  refine WO_nil ?_
  refine WL_seq ?_
  apply WL_prune
  · (repeat (first | exact restr_nil | apply restr_cons rfl | apply restr_none rfl))
  refine WL_draw ?_
  refine D_p rfl rfl rfl ?_
  refine D_h (d := some 6) rfl rfl rfl rfl rfl ?_
  refine D_h (d := some 7) rfl rfl rfl rfl rfl ?_
  refine D_h (d := some 8) rfl rfl rfl rfl rfl ?_
  refine D_c 18 rfl rfl rfl (callA_of rfl h) ?_
  refine D_h (d := some 10) rfl rfl rfl rfl rfl ?_
  refine D_h (d := some 11) rfl rfl rfl rfl rfl ?_
  refine D_o (d := some 12) rfl rfl rfl rfl rfl ?_
  refine D_h (d := some 13) rfl rfl rfl rfl rfl ?_
  refine D_h (d := none) rfl rfl rfl rfl rfl ?_
  refine D_p rfl rfl rfl ?_
  refine D_h (d := none) rfl rfl rfl rfl rfl ?_
  refine WD_nil ⟨by first | rfl | (simp [okFs, okEarlier, disj, notIn, noneIn, sameOn, sameB_self, glsL, glsV, partsGls, AOpd.ev, zeroB, outB] <;> (repeat' apply And.intro) <;> rfl), ?_⟩
  refine WL_nil ?_
  exact ⟨_, rfl, rfl, rfl⟩
theorem join2_c (m : Nat) (a b x y u w r r2 z1 z2 : Ty) (f p g : Int) (gs : List Ty) (h : pcall (tabOf tabL) m 18 [vT x, vT y] = some (.ok (vT r2))) :
    callA ⟨callF (tabOf tabL) (m + 1), m + 1⟩ false 36 [vT x, vT y, .ptr 3 0] [.cells (cT a), .cells (cT b), zeroB, outB f p g gs (.gl 10 1), .cells (cT a), .cells (cT b), .cells (cT u), .cells (cT w), .cells (cT z1), .cells (cT z2), .grow 6 [vT r] none] =
      some (.ok (.tup []), [.cells (cT a), .cells (cT b), zeroB, outB f p g gs (.gl 10 2), .cells (cT a), .cells (cT b), .cells (cT u), .cells (cT w), .cells (cT z1), .cells (cT z2), .grow 6 [vT r, vT r2] none]) := by
  refine callA_nr (H1 := [.cells (cT a), .cells (cT b), zeroB, outB f p g gs (.gl 10 2), .cells (cT a), .cells (cT b), .cells (cT u), .cells (cT w), .cells (cT z1), .cells (cT z2), .grow 6 [vT r, vT r2] none, .cells (cT x), .cells (cT y), .hole]) rfl ?_ rfl
  refine callF_fin t36 ?_
  refine WL_seq ?_
  refine WL_reg ?_
  refine O_n rfl rfl rfl ?_
  refine O_n rfl rfl rfl ?_
  refine WO_nil ?_
  refine WL_seq ?_
  apply WL_prune
  · (repeat (first | exact restr_nil | apply restr_cons rfl | apply restr_none rfl))
  refine WL_draw ?_
  refine D_p rfl rfl rfl ?_
  refine D_h (d := some 6) rfl rfl rfl rfl rfl ?_
  refine D_h (d := some 7) rfl rfl rfl rfl rfl ?_
  refine D_h (d := some 8) rfl rfl rfl rfl rfl ?_
  refine D_c 18 rfl rfl rfl (callA_of rfl h) ?_
  refine D_h (d := some 10) rfl rfl rfl rfl rfl ?_
  refine D_h (d := some 11) rfl rfl rfl rfl rfl ?_
  refine D_o (d := some 12) rfl rfl rfl rfl rfl ?_
  refine D_h (d := some 13) rfl rfl rfl rfl rfl ?_
  refine D_h (d := none) rfl rfl rfl rfl rfl ?_
  refine D_p rfl rfl rfl ?_
  refine D_h (d := none) rfl rfl rfl rfl rfl ?_
  refine WD_nil ⟨by first | rfl | (simp [okFs, okEarlier, disj, notIn, noneIn, sameOn, sameB_self, glsL, glsV, partsGls, AOpd.ev, zeroB, outB] <;> (repeat' apply And.intro) <;> rfl), ?_⟩
  refine WL_nil ?_
  exact ⟨_, rfl, rfl, rfl⟩
theorem both_join1 (m : Nat) (a b r : Ty) (f p g : Int) (gs : List Ty) (ha : Rt a) (hb : Rt b) (hp : a.pair = 2 ∧ b.pair = 2) (h1 : pcall (tabOf tabL) m 18 [vT (carT a), vT (carT b)] = some (.ok (vT r))) (hm : 1 ≤ m) :
    callA ⟨callF (tabOf tabL) (m + 2), m + 2⟩ false 35 [vT a, vT b, .fn 36 [.ptr 3 0]] [.cells (cT a), .cells (cT b), zeroB, outB f p g gs (.lst [] true)] =
      some (.ok (.tup []), [.cells (cT a), .cells (cT b), zeroB, outB f p g gs (.gl 10 1), .cells (cT a), .cells (cT b), .cells (cT (carT a)), .cells (cT (carT b)), .cells (cT (carT a)), .cells (cT (carT b)), .grow 6 [vT r] none]) := by
  obtain ⟨m, rfl⟩ : ∃ q, m = q + 1 := ⟨m - 1, by omega⟩
  refine callA_nr (H1 := [.cells (cT a), .cells (cT b), zeroB, outB f p g gs (.gl 10 1), .cells (cT a), .cells (cT b), .cells (cT (carT a)), .cells (cT (carT b)), .cells (cT (carT a)), .cells (cT (carT b)), .grow 6 [vT r] none]) rfl ?_ rfl
  refine callF_fin t35 ?_
  refine WL_seq ?_
  refine WL_reg ?_
  refine O_n rfl rfl rfl ?_
  refine O_n rfl rfl rfl ?_
  refine WO_nil ?_
  refine WL_seq ?_
  apply WL_prune
  · (repeat (first | exact restr_nil | apply restr_cons rfl | apply restr_none rfl))
  refine WL_seq ?_
  refine WL_reg ?_
  refine O_h rfl rfl rfl rfl ?_
  refine O_c 14 rfl rfl (callA_of rfl (car_c (m + 1) a ha)) ?_
  refine O_p rfl rfl rfl ?_
  refine O_p rfl rfl rfl ?_
  refine O_p rfl rfl rfl ?_
  refine O_n rfl rfl rfl ?_
  refine O_hn rfl rfl rfl rfl ?_
  refine O_p rfl rfl rfl ?_
  refine WO_nil ?_
  refine WL_seq ?_
  apply WL_prune
  · (repeat (first | exact restr_nil | apply restr_cons rfl | apply restr_none rfl))
  refine WL_seq ?_
  refine WL_reg ?_
  refine O_h rfl rfl rfl rfl ?_
  refine O_c 14 rfl rfl (callA_of rfl (car_c (m + 1) b hb)) ?_
  refine O_p rfl rfl rfl ?_
  refine O_p rfl rfl rfl ?_
  refine O_p rfl rfl rfl ?_
  refine O_n rfl rfl rfl ?_
  refine O_hn rfl rfl rfl rfl ?_
  refine O_p rfl rfl rfl ?_
  refine WO_nil ?_
  refine WL_seq ?_
  apply WL_prune
  · (repeat (first | exact restr_nil | apply restr_cons rfl | apply restr_none rfl))
  refine WL_seq ?_
  refine WL_reg ?_
  refine O_p rfl rfl rfl ?_
  refine O_h rfl rfl rfl rfl ?_
  refine O_h rfl rfl rfl rfl ?_
  refine O_cv rfl rfl (join1_c (m + 1) a b (carT a) (carT b) (carT a) (carT b) r f p g gs h1) ?_
  refine WO_nil ?_
  refine WL_seq ?_
  apply WL_prune
  · (repeat (first | exact restr_nil | apply restr_cons rfl | apply restr_none rfl))
  refine WL_seq ?_
  refine WL_seq ?_
  refine WL_reg ?_
  refine O_p rfl rfl rfl ?_
  refine O_h rfl rfl rfl rfl ?_
  refine O_p rfl rfl rfl ?_
  refine O_p rfl rfl rfl ?_
  apply O_and [_, _, _] rfl rfl (hT := ?hT31) (h := ?hR31)
  case hT31 =>
    intro hb27
    refine O_p rfl rfl rfl ?_
    refine O_h rfl rfl rfl rfl ?_
    refine O_p rfl rfl rfl ?_
    exact WO_nil (WL_nil ⟨rfl, rfl, rfl⟩)
  case hR31 =>
    intro vs hvs
    obtain ⟨u28, u29, u30, rfl⟩ := len3 hvs
    clear hvs; dsimp only [junk]
    refine WO_nil ?_
    refine WL_seq ?_
    apply WL_prune
    · (repeat (first | exact restr_nil | apply restr_cons rfl | apply restr_none rfl))
    try clear u28 u29 u30
    refine WL_cond rfl (fun h31 => ?_) (fun h31 => ?_)
    · skip
      refine WL_ret ?_
      exact ⟨_, rfl, rfl, rfl⟩
    · skip
      simp [hp] at h31
theorem both_join2 (m : Nat) (a b r r2 : Ty) (f p g : Int) (gs : List Ty) (ha : Rt a) (hb : Rt b) (hp : ¬(a.pair = 2 ∧ b.pair = 2)) (h1 : pcall (tabOf tabL) m 18 [vT (carT a), vT (carT b)] = some (.ok (vT r)))
    (h2 : pcall (tabOf tabL) m 18 [vT (cdrT a), vT (cdrT b)] = some (.ok (vT r2))) (hm : 1 ≤ m) :
    callA ⟨callF (tabOf tabL) (m + 2), m + 2⟩ false 35 [vT a, vT b, .fn 36 [.ptr 3 0]] [.cells (cT a), .cells (cT b), zeroB, outB f p g gs (.lst [] true)] =
      some (.ok (.tup []), [.cells (cT a), .cells (cT b), zeroB, outB f p g gs (.gl 10 2), .cells (cT a), .cells (cT b), .cells (cT (cdrT a)), .cells (cT (cdrT b)), .cells (cT (carT a)), .cells (cT (carT b)), .grow 6 [vT r, vT r2] none]) := by
  obtain ⟨m, rfl⟩ : ∃ q, m = q + 1 := ⟨m - 1, by omega⟩
  refine callA_nr (H1 := [.cells (cT a), .cells (cT b), zeroB, outB f p g gs (.gl 10 2), .cells (cT a), .cells (cT b), .cells (cT (cdrT a)), .cells (cT (cdrT b)), .cells (cT (carT a)), .cells (cT (carT b)), .grow 6 [vT r, vT r2] none]) rfl ?_ rfl
  refine callF_fin t35 ?_
  refine WL_seq ?_
  refine WL_reg ?_
  refine O_n rfl rfl rfl ?_
  refine O_n rfl rfl rfl ?_
  refine WO_nil ?_
  refine WL_seq ?_
  apply WL_prune
  · (repeat (first | exact restr_nil | apply restr_cons rfl | apply restr_none rfl))
  refine WL_seq ?_
  refine WL_reg ?_
  refine O_h rfl rfl rfl rfl ?_
  refine O_c 14 rfl rfl (callA_of rfl (car_c (m + 1) a ha)) ?_
  refine O_p rfl rfl rfl ?_
  refine O_p rfl rfl rfl ?_
  refine O_p rfl rfl rfl ?_
  refine O_n rfl rfl rfl ?_
  refine O_hn rfl rfl rfl rfl ?_
  refine O_p rfl rfl rfl ?_
  refine WO_nil ?_
  refine WL_seq ?_
  apply WL_prune
  · (repeat (first | exact restr_nil | apply restr_cons rfl | apply restr_none rfl))
  refine WL_seq ?_
  refine WL_reg ?_
  refine O_h rfl rfl rfl rfl ?_
  refine O_c 14 rfl rfl (callA_of rfl (car_c (m + 1) b hb)) ?_
  refine O_p rfl rfl rfl ?_
  refine O_p rfl rfl rfl ?_
  refine O_p rfl rfl rfl ?_
  refine O_n rfl rfl rfl ?_
  refine O_hn rfl rfl rfl rfl ?_
  refine O_p rfl rfl rfl ?_
  refine WO_nil ?_
  refine WL_seq ?_
  apply WL_prune
  · (repeat (first | exact restr_nil | apply restr_cons rfl | apply restr_none rfl))
  refine WL_seq ?_
  refine WL_reg ?_
  refine O_p rfl rfl rfl ?_
  refine O_h rfl rfl rfl rfl ?_
  refine O_h rfl rfl rfl rfl ?_
  refine O_cv rfl rfl (join1_c (m + 1) a b (carT a) (carT b) (carT a) (carT b) r f p g gs h1) ?_
  refine WO_nil ?_
  refine WL_seq ?_
  apply WL_prune
  · (repeat (first | exact restr_nil | apply restr_cons rfl | apply restr_none rfl))
  refine WL_seq ?_
  refine WL_seq ?_
  refine WL_reg ?_
  refine O_p rfl rfl rfl ?_
  refine O_h rfl rfl rfl rfl ?_
  refine O_p rfl rfl rfl ?_
  refine O_p rfl rfl rfl ?_
  apply O_and [_, _, _] rfl rfl (hT := ?hT31) (h := ?hR31)
  case hT31 =>
    intro hb27
    refine O_p rfl rfl rfl ?_
    refine O_h rfl rfl rfl rfl ?_
    refine O_p rfl rfl rfl ?_
    exact WO_nil (WL_nil ⟨rfl, rfl, rfl⟩)
  case hR31 =>
    intro vs hvs
    obtain ⟨u28, u29, u30, rfl⟩ := len3 hvs
    clear hvs; dsimp only [junk]
    refine WO_nil ?_
    refine WL_seq ?_
    apply WL_prune
    · (repeat (first | exact restr_nil | apply restr_cons rfl | apply restr_none rfl))
    try clear u28 u29 u30
    refine WL_cond rfl (fun h31 => ?_) (fun h31 => ?_)
    · skip
      simp at h31; exact absurd h31 hp
    · skip
      refine WL_skip ?_
      refine WL_seq ?_
      apply WL_prune
      · (repeat (first | exact restr_nil | apply restr_cons rfl | apply restr_none rfl))
      refine WL_seq ?_
      refine WL_reg ?_
      refine O_h rfl rfl rfl rfl ?_
      refine O_c 16 rfl rfl (callA_of rfl (cdr_c m a ha)) ?_
      refine O_p rfl rfl rfl ?_
      refine O_p rfl rfl rfl ?_
      refine O_p rfl rfl rfl ?_
      refine O_hn rfl rfl rfl rfl ?_
      refine WO_nil ?_
      refine WL_seq ?_
      apply WL_prune
      · (repeat (first | exact restr_nil | apply restr_cons rfl | apply restr_none rfl))
      refine WL_seq ?_
      refine WL_reg ?_
      refine O_h rfl rfl rfl rfl ?_
      refine O_c 16 rfl rfl (callA_of rfl (cdr_c m b hb)) ?_
      refine O_p rfl rfl rfl ?_
      refine O_p rfl rfl rfl ?_
      refine O_p rfl rfl rfl ?_
      refine O_hn rfl rfl rfl rfl ?_
      refine WO_nil ?_
      refine WL_seq ?_
      apply WL_prune
      · (repeat (first | exact restr_nil | apply restr_cons rfl | apply restr_none rfl))
      refine WL_reg ?_
      refine O_p rfl rfl rfl ?_
      refine O_h rfl rfl rfl rfl ?_
      refine O_h rfl rfl rfl rfl ?_
      refine O_cv rfl rfl (join2_c (m + 1) a b (cdrT a) (cdrT b) (cdrT a) (cdrT b) r r2 (carT a) (carT b) f p g gs h2) ?_
      refine WO_nil ?_
      refine WL_nil ?_
      exact ⟨_, rfl, rfl, rfl⟩

end Go.Ev.Seat
