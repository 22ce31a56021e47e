/-
  Part 6 of a proof: ModuleKeeps: for every input the law returns true, and what it was given reads behind the call as before. No conditions beyond the row's own.
-/
import Derived.Test.YtpldpnbnhfcklaaGreatDoorP5
namespace Go.Ev.Seat.TyS
set_option linter.unusedVariables false
set_option linter.unusedSimpArgs false
open Go Go.Ev
set_option maxRecDepth 20000
attribute [local irreducible] pcall callF
theorem list_c (n : Nat) (t : Ty) : pcall (tabOf tabL) (n + 1) 65 [vT t] = some (.ok (vT (listT t))) := by
  refine pcall_fin t65 ?_
  refine WL_seq ?_
  refine WL_reg ?_
  refine O_n rfl rfl rfl ?_
  refine O_n rfl rfl rfl ?_
  refine WO_nil ?_
  refine WL_seq ?_
  apply WLp
  · (repeat (first | exact rzz | apply rcc rfl | apply rnn rfl))
  refine WL_seq ?_
  refine WL_reg ?_
  refine O_h rfl rfl rfl rfl ?_
  refine O_h rfl rfl rfl rfl ?_
  refine O_p rfl rfl rfl ?_
  refine O_hn rfl rfl rfl rfl ?_
  refine WO_nil ?_
  refine WL_ret ?_
  exact ⟨_, rfl, _, rfl, by simp [vT, cT, listT, encT_eq, Ty.all, Ty.flat, Ty.pair, Ty.pairs, Ty.fn, Ty.funs]⟩
theorem car_c (n : Nat) (t : Ty) (h : Rt t) : pcall (tabOf tabL) (n + 1) 53 [vT t] = some (.ok (.tup [vT (carT t), .bool (hasT t)])) := by
  refine pcall_fin t53 ?_
  refine WL_seq ?_
  refine WL_reg ?_
  refine O_n rfl rfl rfl ?_
  refine O_n rfl rfl rfl ?_
  refine O_p rfl rfl rfl ?_
  refine WO_nil ?_
  refine WL_seq ?_
  apply WLp
  · (repeat (first | exact rzz | apply rcc rfl | apply rnn rfl))
  refine WL_seq ?_
  refine WL_block ?_
  refine WL_seq ?_
  refine WL_reg ?_
  refine O_p rfl rfl rfl ?_
  refine O_h rfl rfl rfl rfl ?_
  refine O_p rfl rfl rfl ?_
  refine WO_nil ?_
  refine WL_seq ?_
  apply WLp
  · (repeat (first | exact rzz | apply rcc rfl | apply rnn rfl))
  refine WL_cond rfl (fun h4 => ?_) (fun h4 => ?_)
  · skip
    have hr : carT t = t := by simp [carT, h4]
    have hr2 : hasT t = true := by simp [hasT, h4]
    refine WL_seq ?_
    refine WL_reg ?_
    refine O_h rfl rfl rfl rfl ?_
    refine O_hn rfl rfl rfl rfl ?_
    refine O_p rfl rfl rfl ?_
    refine WO_nil ?_
    refine WL_ret ?_
    refine Blk_ret ?_
    exact ⟨_, rfl, _, rfl, by rw [hr, hr2]; rfl⟩
  · skip
    refine WL_seq ?_
    refine WL_reg ?_
    refine O_p rfl rfl rfl ?_
    refine O_h rfl rfl rfl rfl ?_
    refine O_p rfl rfl rfl ?_
    refine O_p rfl rfl rfl ?_
    refine WO_nil ?_
    refine WL_seq ?_
    apply WLp
    · (repeat (first | exact rzz | apply rcc rfl | apply rnn rfl))
    refine WL_cond rfl (fun h8 => ?_) (fun h8 => ?_)
    · skip
      simp at h8
      have hr : carT t = zeroT := by simp [carT, h4, h8]
      have hr2 : hasT t = false := by simp [hasT, h4, h8]
      refine WL_seq ?_
      refine WL_reg ?_
      refine O_p rfl rfl rfl ?_
      refine O_hn rfl rfl rfl rfl ?_
      refine O_p rfl rfl rfl ?_
      refine WO_nil ?_
      refine WL_ret ?_
      refine Blk_ret ?_
      exact ⟨_, rfl, _, rfl, by rw [hr, hr2]; rfl⟩
    · skip
      simp at h8
      obtain ⟨x, hx⟩ : ∃ x, t.pairs[0]? = some x := by
        have hm := (car_facts h h4 h8).1
        exact ⟨_, List.getElem?_eq_getElem (by have := List.length_pos_of_mem hm; omega)⟩
      have hr : carT t = x := by
        simp only [carT, h4, h8, if_false, Bool.false_eq_true]
        cases hp : t.pairs with
        | nil => rw [hp] at hx; cases hx
        | cons y ys => rw [hp] at hx; simpa using hx
      have hr2 : hasT t = true := by simp [hasT, h8]
      refine WL_skip ?_
      refine WL_nil ?_
      refine Blk_norm (?_ : WL _ _ _ _ _)
      refine WL_seq ?_
      apply WLp
      · (repeat (first | exact rzz | apply rcc rfl | apply rnn rfl))
      refine WL_seq ?_
      refine WL_reg ?_
      refine O_p rfl rfl rfl ?_
      refine O_h rfl rfl rfl rfl ?_
      refine O_ia rfl rfl (by decide) (encT_get (i := 0) hx) (encT_flat _) rfl ?_
      refine O_h rfl rfl rfl rfl ?_
      refine O_hn rfl rfl rfl rfl ?_
      refine O_p rfl rfl rfl ?_
      refine WO_nil ?_
      refine WL_ret ?_
      exact ⟨_, rfl, _, rfl, by rw [hr, hr2]; rfl⟩
theorem cdr_c (n : Nat) (t : Ty) (h : Rt t) : pcall (tabOf tabL) (n + 2) 54 [vT t] = some (.ok (.tup [vT (cdrT t), .bool (hasT t)])) := by
  have hk := okT_facts h.ok
  refine pcall_fin t54 ?_
  refine WL_seq ?_
  refine WL_reg ?_
  refine O_n rfl rfl rfl ?_
  refine O_n rfl rfl rfl ?_
  refine O_p rfl rfl rfl ?_
  refine WO_nil ?_
  refine WL_seq ?_
  apply WLp
  · (repeat (first | exact rzz | apply rcc rfl | apply rnn rfl))
  refine WL_seq ?_
  refine WL_block ?_
  refine WL_seq ?_
  refine WL_reg ?_
  refine O_p rfl rfl rfl ?_
  refine O_h rfl rfl rfl rfl ?_
  refine O_p rfl rfl rfl ?_
  refine WO_nil ?_
  refine WL_seq ?_
  apply WLp
  · (repeat (first | exact rzz | apply rcc rfl | apply rnn rfl))
  refine WL_cond rfl (fun h4 => ?_) (fun h4 => ?_)
  · skip
    have hr : cdrT t = t := by simp [cdrT, h4]
    have hr2 : hasT t = true := by simp [hasT, h4]
    refine WL_seq ?_
    refine WL_reg ?_
    refine O_h rfl rfl rfl rfl ?_
    refine O_hn rfl rfl rfl rfl ?_
    refine O_p rfl rfl rfl ?_
    refine WO_nil ?_
    refine WL_ret ?_
    refine Blk_ret ?_
    exact ⟨_, rfl, _, rfl, by rw [hr, hr2]; rfl⟩
  · skip
    refine WL_seq ?_
    refine WL_reg ?_
    refine O_p rfl rfl rfl ?_
    refine O_h rfl rfl rfl rfl ?_
    refine O_p rfl rfl rfl ?_
    refine O_p rfl rfl rfl ?_
    refine WO_nil ?_
    refine WL_seq ?_
    apply WLp
    · (repeat (first | exact rzz | apply rcc rfl | apply rnn rfl))
    refine WL_cond rfl (fun h8 => ?_) (fun h8 => ?_)
    · skip
      simp at h8
      have hr : cdrT t = zeroT := by simp [cdrT, h4, h8]
      have hr2 : hasT t = false := by simp [hasT, h4, h8]
      refine WL_seq ?_
      refine WL_reg ?_
      refine O_p rfl rfl rfl ?_
      refine O_hn rfl rfl rfl rfl ?_
      refine O_p rfl rfl rfl ?_
      refine WO_nil ?_
      refine WL_ret ?_
      refine Blk_ret ?_
      exact ⟨_, rfl, _, rfl, by rw [hr, hr2]; rfl⟩
    · skip
      simp at h8
      have hr2 : hasT t = true := by simp [hasT, h8]
      refine WL_seq ?_
      refine WL_reg ?_
      refine O_p rfl rfl rfl ?_
      refine O_h rfl rfl rfl rfl ?_
      refine O_p rfl rfl rfl ?_
      refine O_p rfl rfl rfl ?_
      refine WO_nil ?_
      refine WL_seq ?_
      apply WLp
      · (repeat (first | exact rzz | apply rcc rfl | apply rnn rfl))
      refine WL_cond rfl (fun h13 => ?_) (fun h13 => ?_)
      · skip
        simp at h13
        obtain ⟨x, hp⟩ := hk.2.2.2.2.2.2.1 h13
        have hx : t.pairs[0]? = some x := by rw [hp]; rfl
        have hr : cdrT t = listT x := by simp [cdrT, h4, h8, h13, hp]
        refine WL_seq ?_
        refine WL_reg ?_
        refine O_p rfl rfl rfl ?_
        refine O_h rfl rfl rfl rfl ?_
        refine O_ia rfl rfl (by decide) (encT_get (i := 0) hx) (encT_flat _) rfl ?_
        refine O_h rfl rfl rfl rfl ?_
        refine O_c 65 rfl rfl (callA_of rfl (list_c n x)) ?_
        refine O_hn rfl rfl rfl rfl ?_
        refine O_p rfl rfl rfl ?_
        refine WO_nil ?_
        refine WL_ret ?_
        refine Blk_ret ?_
        exact ⟨_, rfl, _, rfl, by rw [hr, hr2]; rfl⟩
      · skip
        simp at h13
        obtain ⟨y, x, hp⟩ := hk.2.2.2.2.2.1 (by omega)
        have hx : t.pairs[1]? = some x := by rw [hp]; rfl
        have hr : cdrT t = x := by simp [cdrT, h4, h8, h13, hp]
        refine WL_skip ?_
        refine WL_nil ?_
        refine Blk_norm (?_ : WL _ _ _ _ _)
        refine WL_seq ?_
        apply WLp
        · (repeat (first | exact rzz | apply rcc rfl | apply rnn rfl))
        refine WL_seq ?_
        refine WL_reg ?_
        refine O_p rfl rfl rfl ?_
        refine O_h rfl rfl rfl rfl ?_
        refine O_ia rfl rfl (by decide) (encT_get (i := 1) hx) (encT_flat _) rfl ?_
        refine O_h rfl rfl rfl rfl ?_
        refine O_hn rfl rfl rfl rfl ?_
        refine O_p rfl rfl rfl ?_
        refine WO_nil ?_
        refine WL_ret ?_
        exact ⟨_, rfl, _, rfl, by rw [hr, hr2]; rfl⟩
theorem sub1_c3 (m : Nat) (x y : Ty) (r is : Bool) (c0 c1 : ABlock) (h : pcall (tabOf tabL) m 17 [vT x, vT y] = some (.ok (.bool r))) (hl : lowH 3 [c0, c1, .cells [.bool is]] = true) :
    callA ⟨callF (tabOf tabL) (m + 1), m + 1⟩ false 34 [vT x, vT y, .ptr 2 0] [c0, c1, .cells [.bool is]] = some (.ok (.tup []), [c0, c1, .cells [.bool (is && r)]]) := by
  refine callA_hc (H1 := [c0, c1, .cells [.bool (is && r)], .cells (cT x), .cells (cT y)]) rfl ?_ (by simp) rfl rfl (by simpa [lowH, lowB, lowL, lowV] using hl)
  refine callF_fin t34 ?_
  refine WL_seq ?_
  refine WL_reg ?_
  refine O_n rfl rfl rfl ?_
  refine O_n rfl rfl rfl ?_
  refine WO_nil ?_
  refine WL_seq ?_
  apply WLp
  · (repeat (first | exact rzz | apply rcc rfl | apply rnn rfl))
  refine WL_reg ?_
  refine O_h rfl rfl rfl rfl ?_
  refine O_p rfl rfl rfl ?_
  apply O_and [_, _, _] rfl rfl (hT := ?hT10) (h := ?hR10)
  case hT10 =>
    intro hb6
    refine O_h rfl rfl rfl rfl ?_
    refine O_h rfl rfl rfl rfl ?_
    refine O_c 17 rfl rfl (callA_of rfl h) ?_
    exact WO_nil (WL_nil ⟨rfl, rfl, rfl⟩)
  case hR10 =>
    intro vs hvs
    obtain ⟨u7, u8, u9, rfl⟩ := len3 hvs
    clear hvs; dsimp only [junk]
    refine O_hn rfl rfl rfl rfl ?_
    refine WO_nil ?_
    refine WL_nil ?_
    exact ⟨_, rfl, rfl, rfl⟩
theorem sub1_c7 (m : Nat) (x y : Ty) (r is : Bool) (c0 c1 c3 c4 c5 c6 : ABlock) (h : pcall (tabOf tabL) m 17 [vT x, vT y] = some (.ok (.bool r))) (hl : lowH 7 [c0, c1, .cells [.bool is], c3, c4, c5, c6] = true) :
    callA ⟨callF (tabOf tabL) (m + 1), m + 1⟩ false 34 [vT x, vT y, .ptr 2 0] [c0, c1, .cells [.bool is], c3, c4, c5, c6] = some (.ok (.tup []), [c0, c1, .cells [.bool (is && r)], c3, c4, c5, c6]) := by
  refine callA_hc (H1 := [c0, c1, .cells [.bool (is && r)], c3, c4, c5, c6, .cells (cT x), .cells (cT y)]) rfl ?_ (by simp) rfl rfl (by simpa [lowH, lowB, lowL, lowV] using hl)
  refine callF_fin t34 ?_
  refine WL_seq ?_
  refine WL_reg ?_
  refine O_n rfl rfl rfl ?_
  refine O_n rfl rfl rfl ?_
  refine WO_nil ?_
  refine WL_seq ?_
  apply WLp
  · (repeat (first | exact rzz | apply rcc rfl | apply rnn rfl))
  refine WL_reg ?_
  refine O_h rfl rfl rfl rfl ?_
  refine O_p rfl rfl rfl ?_
  apply O_and [_, _, _] rfl rfl (hT := ?hT10) (h := ?hR10)
  case hT10 =>
    intro hb6
    refine O_h rfl rfl rfl rfl ?_
    refine O_h rfl rfl rfl rfl ?_
    refine O_c 17 rfl rfl (callA_of rfl h) ?_
    exact WO_nil (WL_nil ⟨rfl, rfl, rfl⟩)
  case hR10 =>
    intro vs hvs
    obtain ⟨u7, u8, u9, rfl⟩ := len3 hvs
    clear hvs; dsimp only [junk]
    refine O_hn rfl rfl rfl rfl ?_
    refine WO_nil ?_
    refine WL_nil ?_
    exact ⟨_, rfl, rfl, rfl⟩
theorem both_sub (m : Nat) (a b : Ty) (r1 r2 is : Bool) (c0 c1 : ABlock) (ha : Rt a) (hb : Rt b) (h1 : pcall (tabOf tabL) m 17 [vT (carT a), vT (carT b)] = some (.ok (.bool r1)))
    (h2 : ¬(a.pair = 2 ∧ b.pair = 2) → pcall (tabOf tabL) m 17 [vT (cdrT a), vT (cdrT b)] = some (.ok (.bool r2))) (hm : 1 ≤ m) (hl : lowH 3 [c0, c1, .cells [.bool is]] = true) :
    callA ⟨callF (tabOf tabL) (m + 2), m + 2⟩ false 35 [vT a, vT b, .fn 34 [.ptr 2 0]] [c0, c1, .cells [.bool is]] = some (.ok (.tup []), [c0, c1, .cells [.bool (is && (r1 && (if a.pair = 2 ∧ b.pair = 2 then true else r2)))]]) := by
  obtain ⟨m, rfl⟩ : ∃ q, m = q + 1 := ⟨m - 1, by omega⟩
  have hl0 : lowB 3 c0 = true ∧ lowB 3 c1 = true := by simp only [lowH, Bool.and_eq_true] at hl; exact ⟨hl.1, hl.2.1⟩
  have hl7 : lowB 7 c0 = true ∧ lowB 7 c1 = true := ⟨lowB_mono (by decide) hl0.1, lowB_mono (by decide) hl0.2⟩
  by_cases hp : a.pair = 2 ∧ b.pair = 2
  · refine callA_hc (H1 := [c0, c1, .cells [.bool (is && r1)], .cells (cT a), .cells (cT b), .cells (cT (carT a)), .cells (cT (carT b))]) rfl ?_ (by simp) rfl (by simp [hp]) (lowH_cons hl0.1 (lowH_cons hl0.2 rfl))
    refine callF_fin t35 ?_
    refine WL_seq ?_
    refine WL_reg ?_
    refine O_n rfl rfl rfl ?_
    refine O_n rfl rfl rfl ?_
    refine WO_nil ?_
    refine WL_seq ?_
    apply WLp
    · (repeat (first | exact rzz | apply rcc rfl | apply rnn rfl))
    refine WL_seq ?_
    refine WL_reg ?_
    refine O_h rfl rfl rfl rfl ?_
    refine O_c 53 rfl rfl (callA_of rfl (car_c (m + 1) a ha)) ?_
    refine O_p rfl rfl rfl ?_
    refine O_p rfl rfl rfl ?_
    refine O_p rfl rfl rfl ?_
    refine O_n rfl rfl rfl ?_
    refine O_hn rfl rfl rfl rfl ?_
    refine O_p rfl rfl rfl ?_
    refine WO_nil ?_
    refine WL_seq ?_
    apply WLp
    · (repeat (first | exact rzz | apply rcc rfl | apply rnn rfl))
    refine WL_seq ?_
    refine WL_reg ?_
    refine O_h rfl rfl rfl rfl ?_
    refine O_c 53 rfl rfl (callA_of rfl (car_c (m + 1) b hb)) ?_
    refine O_p rfl rfl rfl ?_
    refine O_p rfl rfl rfl ?_
    refine O_p rfl rfl rfl ?_
    refine O_n rfl rfl rfl ?_
    refine O_hn rfl rfl rfl rfl ?_
    refine O_p rfl rfl rfl ?_
    refine WO_nil ?_
    refine WL_seq ?_
    apply WLp
    · (repeat (first | exact rzz | apply rcc rfl | apply rnn rfl))
    refine WL_seq ?_
    refine WL_reg ?_
    refine O_p rfl rfl rfl ?_
    refine O_h rfl rfl rfl rfl ?_
    refine O_h rfl rfl rfl rfl ?_
    refine O_cv rfl rfl (sub1_c7 (m + 1) (carT a) (carT b) r1 is c0 c1 _ _ _ _ h1 (lowH_cons hl7.1 (lowH_cons hl7.2 rfl))) ?_
    refine WO_nil ?_
    refine WL_seq ?_
    apply WLp
    · (repeat (first | exact rzz | apply rcc rfl | apply rnn rfl))
    refine WL_seq ?_
    refine WL_seq ?_
    refine WL_reg ?_
    refine O_p rfl rfl rfl ?_
    refine O_h rfl rfl rfl rfl ?_
    refine O_p rfl rfl rfl ?_
    refine O_p rfl rfl rfl ?_
    apply O_and [_, _, _] rfl rfl (hT := ?hT31) (h := ?hR31)
    case hT31 =>
      intro hb27
      refine O_p rfl rfl rfl ?_
      refine O_h rfl rfl rfl rfl ?_
      refine O_p rfl rfl rfl ?_
      exact WO_nil (WL_nil ⟨rfl, rfl, rfl⟩)
    case hR31 =>
      intro vs hvs
      obtain ⟨u28, u29, u30, rfl⟩ := len3 hvs
      clear hvs; dsimp only [junk]
      refine WO_nil ?_
      refine WL_seq ?_
      apply WLp
      · (repeat (first | exact rzz | apply rcc rfl | apply rnn rfl))
      try clear u28 u29 u30
      refine WL_cond rfl (fun h31 => ?_) (fun h31 => ?_)
      · skip
        refine WL_ret ?_
        exact ⟨_, rfl, rfl, rfl⟩
      · skip
        simp [hp] at h31
  · refine callA_hc (H1 := [c0, c1, .cells [.bool (is && r1 && r2)], .cells (cT a), .cells (cT b), .cells (cT (cdrT a)), .cells (cT (cdrT b))]) rfl ?_ (by simp) rfl (by simp [hp, Bool.and_assoc]) (lowH_cons hl0.1 (lowH_cons hl0.2 rfl))
    refine callF_fin t35 ?_
    refine WL_seq ?_
    refine WL_reg ?_
    refine O_n rfl rfl rfl ?_
    refine O_n rfl rfl rfl ?_
    refine WO_nil ?_
    refine WL_seq ?_
    apply WLp
    · (repeat (first | exact rzz | apply rcc rfl | apply rnn rfl))
    refine WL_seq ?_
    refine WL_reg ?_
    refine O_h rfl rfl rfl rfl ?_
    refine O_c 53 rfl rfl (callA_of rfl (car_c (m + 1) a ha)) ?_
    refine O_p rfl rfl rfl ?_
    refine O_p rfl rfl rfl ?_
    refine O_p rfl rfl rfl ?_
    refine O_n rfl rfl rfl ?_
    refine O_hn rfl rfl rfl rfl ?_
    refine O_p rfl rfl rfl ?_
    refine WO_nil ?_
    refine WL_seq ?_
    apply WLp
    · (repeat (first | exact rzz | apply rcc rfl | apply rnn rfl))
    refine WL_seq ?_
    refine WL_reg ?_
    refine O_h rfl rfl rfl rfl ?_
    refine O_c 53 rfl rfl (callA_of rfl (car_c (m + 1) b hb)) ?_
    refine O_p rfl rfl rfl ?_
    refine O_p rfl rfl rfl ?_
    refine O_p rfl rfl rfl ?_
    refine O_n rfl rfl rfl ?_
    refine O_hn rfl rfl rfl rfl ?_
    refine O_p rfl rfl rfl ?_
    refine WO_nil ?_
    refine WL_seq ?_
    apply WLp
    · (repeat (first | exact rzz | apply rcc rfl | apply rnn rfl))
    refine WL_seq ?_
    refine WL_reg ?_
    refine O_p rfl rfl rfl ?_
    refine O_h rfl rfl rfl rfl ?_
    refine O_h rfl rfl rfl rfl ?_
    refine O_cv rfl rfl (sub1_c7 (m + 1) (carT a) (carT b) r1 is c0 c1 _ _ _ _ h1 (lowH_cons hl7.1 (lowH_cons hl7.2 rfl))) ?_
    refine WO_nil ?_
    refine WL_seq ?_
    apply WLp
    · (repeat (first | exact rzz | apply rcc rfl | apply rnn rfl))
    refine WL_seq ?_
    refine WL_seq ?_
    refine WL_reg ?_
    refine O_p rfl rfl rfl ?_
    refine O_h rfl rfl rfl rfl ?_
    refine O_p rfl rfl rfl ?_
    refine O_p rfl rfl rfl ?_
    apply O_and [_, _, _] rfl rfl (hT := ?hT31) (h := ?hR31)
    case hT31 =>
      intro hb27
      refine O_p rfl rfl rfl ?_
      refine O_h rfl rfl rfl rfl ?_
      refine O_p rfl rfl rfl ?_
      exact WO_nil (WL_nil ⟨rfl, rfl, rfl⟩)
    case hR31 =>
      intro vs hvs
      obtain ⟨u28, u29, u30, rfl⟩ := len3 hvs
      clear hvs; dsimp only [junk]
      refine WO_nil ?_
      refine WL_seq ?_
      apply WLp
      · (repeat (first | exact rzz | apply rcc rfl | apply rnn rfl))
      try clear u28 u29 u30
      refine WL_cond rfl (fun h31 => ?_) (fun h31 => ?_)
      · skip
        simp at h31; exact absurd h31 hp
      · skip
        refine WL_skip ?_
        refine WL_seq ?_
        apply WLp
        · (repeat (first | exact rzz | apply rcc rfl | apply rnn rfl))
        refine WL_seq ?_
        refine WL_reg ?_
        refine O_h rfl rfl rfl rfl ?_
        refine O_c 54 rfl rfl (callA_of rfl (cdr_c m a ha)) ?_
        refine O_p rfl rfl rfl ?_
        refine O_p rfl rfl rfl ?_
        refine O_p rfl rfl rfl ?_
        refine O_hn rfl rfl rfl rfl ?_
        refine WO_nil ?_
        refine WL_seq ?_
        apply WLp
        · (repeat (first | exact rzz | apply rcc rfl | apply rnn rfl))
        refine WL_seq ?_
        refine WL_reg ?_
        refine O_h rfl rfl rfl rfl ?_
        refine O_c 54 rfl rfl (callA_of rfl (cdr_c m b hb)) ?_
        refine O_p rfl rfl rfl ?_
        refine O_p rfl rfl rfl ?_
        refine O_p rfl rfl rfl ?_
        refine O_hn rfl rfl rfl rfl ?_
        refine WO_nil ?_
        refine WL_seq ?_
        apply WLp
        · (repeat (first | exact rzz | apply rcc rfl | apply rnn rfl))
        refine WL_reg ?_
        refine O_p rfl rfl rfl ?_
        refine O_h rfl rfl rfl rfl ?_
        refine O_h rfl rfl rfl rfl ?_
        refine O_cv rfl rfl (sub1_c7 (m + 1) (cdrT a) (cdrT b) r2 (is && r1) c0 c1 _ _ _ _ (h2 hp) (lowH_cons hl7.1 (lowH_cons hl7.2 rfl))) ?_
        refine WO_nil ?_
        refine WL_nil ?_
        exact ⟨_, rfl, rfl, rfl⟩
theorem sub_c : ∀ (k n : Nat) (a b : Ty), Rt a → Rt b → WfT a → WfT b → szT a + szT b ≤ k → 20 * k + 20 < n → pcall (tabOf tabL) n 17 [vT a, vT b] = some (.ok (.bool (subT k a b)))
  | 0, n, a, b, _, _, _, _, h, _ => by have := szT_pos a; omega
  | k + 1, n, a, b, ha, hb, wa, wb, h, hn => by
    obtain ⟨n, rfl⟩ : ∃ m, n = m + 3 := ⟨n - 3, by omega⟩
    have ih := sub_c k
    have fa := okT_facts ha.ok
    have fb := okT_facts hb.ok
    have hp := len_pairs a
    have hf := len_funs a
    have hfb := len_funs b
    have hwa : a.funs.length ≤ 9 := by by_cases q : a.fn = 1; exact (fa.2.2.2.2.2.2.2.1 q).2; rw [fa.2.2.2.2.2.2.2.2 q]; decide
    have hF := andn_dec fa.1 fb.1
    refine pcall_fin t17 ?_
    refine WL_seq ?_
    refine WL_reg ?_
    refine O_n rfl rfl rfl ?_
    refine O_n rfl rfl rfl ?_
    refine O_p rfl rfl rfl ?_
    refine WO_nil ?_
    refine WL_seq ?_
    apply WLp
    · (repeat (first | exact rzz | apply rcc rfl | apply rnn rfl))
    refine WL_seq ?_
    refine WL_block ?_
    refine WL_seq ?_
    refine WL_reg ?_
    refine O_p rfl rfl rfl ?_
    refine O_h rfl rfl rfl rfl ?_
    refine O_p rfl rfl rfl ?_
    refine WO_nil ?_
    refine WL_seq ?_
    apply WLp
    · (repeat (first | exact rzz | apply rcc rfl | apply rnn rfl))
    refine WL_cond rfl (fun h9 => ?_) (fun h9 => ?_)
    · skip
      have hr : subT (k + 1) a b = true := by simp [subT, h9]
      refine WL_seq ?_
      refine WL_reg ?_
      refine O_p rfl rfl rfl ?_
      refine WO_nil ?_
      refine WL_ret ?_
      refine Blk_ret ?_
      exact ⟨_, rfl, _, rfl, by rw [hr]⟩
    · skip
      refine WL_seq ?_
      refine WL_reg ?_
      refine O_p rfl rfl rfl ?_
      refine O_h rfl rfl rfl rfl ?_
      refine O_p rfl rfl rfl ?_
      apply O_or [_, _, _, _, _, _] rfl rfl (hT := ?hT22) (h := ?hR22)
      case hT22 =>
        intro hb15
        refine O_p rfl rfl rfl ?_
        refine O_h rfl rfl rfl rfl ?_
        refine O_p rfl rfl rfl ?_
        refine O_h rfl rfl rfl rfl ?_
        refine O_p rfl rfl rfl ?_
        refine O_p rfl rfl rfl ?_
        exact WO_nil (WL_nil ⟨rfl, rfl, rfl⟩)
      case hR22 =>
        intro vs hvs
        obtain ⟨u16, u17, u18, u19, u20, u21, rfl⟩ := len6 hvs
        clear hvs; dsimp only [junk]
        refine O_p rfl rfl rfl ?_
        apply O_or [_, _, _, _, _, _, _, _] rfl rfl (hT := ?hT32) (h := ?hR32)
        case hT32 =>
          intro hb23
          refine O_p rfl rfl rfl ?_
          refine O_h rfl rfl rfl rfl ?_
          refine O_p rfl rfl rfl ?_
          refine O_p rfl rfl rfl ?_
          apply O_and [_, _, _] rfl rfl (hT := ?hT31) (h := ?hR31)
          case hT31 =>
            intro hb27
            refine O_p rfl rfl rfl ?_
            refine O_h rfl rfl rfl rfl ?_
            refine O_p rfl rfl rfl ?_
            exact WO_nil (WL_nil ⟨rfl, rfl, rfl⟩)
          case hR31 =>
            intro vs hvs
            obtain ⟨u28, u29, u30, rfl⟩ := len3 hvs
            clear hvs; dsimp only [junk]
            exact WO_nil (WL_nil ⟨rfl, rfl, rfl⟩)
        case hR32 =>
          intro vs hvs
          obtain ⟨u24, u25, u26, u27, u28, u29, u30, u31, rfl⟩ := len8 hvs
          clear hvs; dsimp only [junk]
          refine O_p rfl rfl rfl ?_
          apply O_or [_, _, _, _, _, _, _, _] rfl rfl (hT := ?hT42) (h := ?hR42)
          case hT42 =>
            intro hb33
            refine O_p rfl rfl rfl ?_
            refine O_h rfl rfl rfl rfl ?_
            refine O_p rfl rfl rfl ?_
            refine O_p rfl rfl rfl ?_
            apply O_and [_, _, _] rfl rfl (hT := ?hT41) (h := ?hR41)
            case hT41 =>
              intro hb37
              refine O_p rfl rfl rfl ?_
              refine O_h rfl rfl rfl rfl ?_
              refine O_p rfl rfl rfl ?_
              exact WO_nil (WL_nil ⟨rfl, rfl, rfl⟩)
            case hR41 =>
              intro vs hvs
              obtain ⟨u38, u39, u40, rfl⟩ := len3 hvs
              clear hvs; dsimp only [junk]
              exact WO_nil (WL_nil ⟨rfl, rfl, rfl⟩)
          case hR42 =>
            intro vs hvs
            obtain ⟨u34, u35, u36, u37, u38, u39, u40, u41, rfl⟩ := len8 hvs
            clear hvs; dsimp only [junk]
            refine O_p rfl rfl rfl ?_
            refine WO_nil ?_
            refine WL_seq ?_
            apply WLp
            · (repeat (first | exact rzz | apply rcc rfl | apply rnn rfl))
            try clear u16 u17 u18 u19 u20 u21 u28 u29 u30 u24 u25 u26 u27 u28 u29 u30 u31 u38 u39 u40 u34 u35 u36 u37 u38 u39 u40 u41
            refine WL_cond rfl (fun h12 => ?_) (fun h12 => ?_)
            · skip
              have hr : subT (k + 1) a b = false := by
                simp only [hF] at h12
                simp only [subT, h9, Bool.false_eq_true, if_false]
                rw [if_pos h12]
              refine WL_seq ?_
              refine WL_reg ?_
              refine O_p rfl rfl rfl ?_
              refine WO_nil ?_
              refine WL_ret ?_
              refine Blk_ret ?_
              exact ⟨_, rfl, _, rfl, by rw [hr]⟩
            · skip
              simp only [hF] at h12
              have hS := subT_succ k a b h9 h12
              simp at h12
              refine WL_skip ?_
              refine WL_nil ?_
              refine Blk_norm (?_ : WL _ _ _ _ _)
              refine WL_seq ?_
              apply WLp
              · (repeat (first | exact rzz | apply rcc rfl | apply rnn rfl))
              refine WL_seq ?_
              refine WL_reg ?_
              refine O_n rfl rfl rfl ?_
              refine O_hn rfl rfl rfl rfl ?_
              refine WO_nil ?_
              refine WL_seq ?_
              apply WLp
              · (repeat (first | exact rzz | apply rcc rfl | apply rnn rfl))
              refine WL_seq ?_
              refine WL_reg ?_
              refine O_p rfl rfl rfl ?_
              refine O_p rfl rfl rfl ?_
              refine WO_nil ?_
              refine WL_seq ?_
              apply WLp
              · (repeat (first | exact rzz | apply rcc rfl | apply rnn rfl))
              refine WL_seq ?_
              refine WL_seq ?_
              refine WL_reg ?_
              refine O_p rfl rfl rfl ?_
              refine O_h rfl rfl rfl rfl ?_
              refine O_p rfl rfl rfl ?_
              refine WO_nil ?_
              refine WL_seq ?_
              apply WLp
              · (repeat (first | exact rzz | apply rcc rfl | apply rnn rfl))
              refine WL_cond rfl (fun h46 => ?_) (fun h46 => ?_)
              · skip
                simp at h46
                have h1 := car_facts ha h12.1.1.1 h46
                have h2 := car_facts hb h9 (by simpa using h12.1.2 h46)
                have h3 := cdr_facts ha h12.1.1.1 h46
                have h4 := cdr_facts hb h9 (by simpa using h12.1.2 h46)
                let v0 : Bool := (true && (subT k (carT a) (carT b) && (if a.pair = 2 ∧ b.pair = 2 then true else subT k (cdrT a) (cdrT b))))
                have hv0 : v0 = (if a.pair = 0 then true else (subT k (carT a) (carT b) && (if a.pair = 2 ∧ b.pair = 2 then true else subT k (cdrT a) (cdrT b)))) := by simp [v0, h46]
                refine WL_reg ?_
                refine O_h rfl rfl rfl rfl ?_
                refine O_h rfl rfl rfl rfl ?_
                refine O_p rfl rfl rfl ?_
                refine O_c 35 rfl rfl (both_sub (n + 0) a b _ _ true _ _ ha hb (ih n _ _ h1.2.1 h2.2.1 (car_wf wa) (car_wf wb) (by omega) (by omega)) (fun hnl => ih n _ _ h3.2.2 h4.2.2 (cdr_wf wa) (cdr_wf wb) (by omega) (by omega)) (by omega) rfl) ?_
                refine WO_nil ?_
                refine WL_seq ?_
                apply WLp
                · (repeat (first | exact rzz | apply rcc rfl | apply rnn rfl))
                refine WL_seq ?_
                refine WL_seq ?_
                refine WL_reg ?_
                refine O_p rfl rfl rfl ?_
                refine O_h rfl rfl rfl rfl ?_
                refine O_p rfl rfl rfl ?_
                refine O_p rfl rfl rfl ?_
                apply O_or [_, _, _] rfl rfl (hT := ?hT58) (h := ?hR58)
                case hT58 =>
                  intro hb54
                  refine O_p rfl rfl rfl ?_
                  refine O_h rfl rfl rfl rfl ?_
                  refine O_p rfl rfl rfl ?_
                  exact WO_nil (WL_nil ⟨rfl, rfl, rfl⟩)
                case hR58 =>
                  intro vs hvs
                  obtain ⟨u55, u56, u57, rfl⟩ := len3 hvs
                  clear hvs; dsimp only [junk]
                  refine WO_nil ?_
                  refine WL_seq ?_
                  apply WLp
                  · (repeat (first | exact rzz | apply rcc rfl | apply rnn rfl))
                  try clear u55 u56 u57
                  refine WL_cond rfl (fun h58 => ?_) (fun h58 => ?_)
                  · skip
                    have hr : subT (k + 1) a b = v0 := by
                      simp at h58
                      rw [hS, if_pos h58, hv0]
                    refine WL_seq ?_
                    refine WL_reg ?_
                    refine O_h rfl rfl rfl rfl ?_
                    refine O_p rfl rfl rfl ?_
                    refine WO_nil ?_
                    refine WL_ret ?_
                    exact ⟨_, rfl, _, rfl, by rw [hr]⟩
                  · skip
                    simp at h58
                    rw [if_neg (by omega)] at hS
                    have hf1 : a.funs.length ≥ 1 ∨ a.fn = 2 := by
                      by_cases q : a.fn = 1
                      · exact .inl (fa.2.2.2.2.2.2.2.1 q).1
                      · right; omega
                    have e63 : a.fn ≠ 2 → IntKind.i64.wrap (((List.map encT a.funs).length : Int) - 1) = ((a.funs.length - 1 : Nat) : Int) := by
                      intro q; rw [List.length_map, kw_i64_id (by omega) (by omega)]; omega
                    refine WL_skip ?_
                    refine WL_seq ?_
                    apply WLp
                    · (repeat (first | exact rzz | apply rcc rfl | apply rnn rfl))
                    refine WL_seq ?_
                    refine WL_reg ?_
                    refine O_p rfl rfl rfl ?_
                    refine O_h rfl rfl rfl rfl ?_
                    refine O_h rfl rfl rfl rfl ?_
                    refine O_p rfl rfl rfl ?_
                    refine O_p rfl rfl rfl ?_
                    refine WO_nil ?_
                    refine WL_seq ?_
                    apply WLp
                    · (repeat (first | exact rzz | apply rcc rfl | apply rnn rfl))
                    refine WL_seq ?_
                    refine WL_seq ?_
                    refine WL_reg ?_
                    refine O_p rfl rfl rfl ?_
                    refine O_h rfl rfl rfl rfl ?_
                    refine O_p rfl rfl rfl ?_
                    refine O_p rfl rfl rfl ?_
                    apply O_or [_, _, _, _, _, _] rfl rfl (hT := ?hT74) (h := ?hR74)
                    case hT74 =>
                      intro hb67
                      refine O_p rfl rfl rfl ?_
                      refine O_h rfl rfl rfl rfl ?_
                      refine O_h rfl rfl rfl rfl ?_
                      refine O_p rfl rfl rfl ?_
                      refine O_p rfl rfl rfl ?_
                      refine O_p rfl rfl rfl ?_
                      exact WO_nil (WL_nil ⟨rfl, rfl, rfl⟩)
                    case hR74 =>
                      intro vs hvs
                      obtain ⟨u68, u69, u70, u71, u72, u73, rfl⟩ := len6 hvs
                      clear hvs; dsimp only [junk]
                      refine WO_nil ?_
                      refine WL_seq ?_
                      apply WLp
                      · (repeat (first | exact rzz | apply rcc rfl | apply rnn rfl))
                      try clear u68 u69 u70 u71 u72 u73
                      refine WL_cond rfl (fun h74 => ?_) (fun h74 => ?_)
                      · skip
                        have hr : subT (k + 1) a b = false := by
                          by_cases q : a.fn = 2
                          · rw [hS, if_pos (.inl q)]
                          · simp [q] at h74
                            have e63 := e63 q
                            rw [List.length_map] at e63
                            rw [e63, kw_i64_id (by omega) (by omega)] at h74
                            rw [hS, if_pos (.inr (by omega))]
                        refine WL_seq ?_
                        refine WL_reg ?_
                        refine O_p rfl rfl rfl ?_
                        refine WO_nil ?_
                        refine WL_ret ?_
                        exact ⟨_, rfl, _, rfl, by rw [hr]⟩
                      · skip
                        have hq2 : a.fn ≠ 2 := by intro q; simp [q] at h74
                        have e63 := e63 hq2
                        have hlen : b.funs.length = a.funs.length := by
                          simp [hq2] at h74
                          rw [List.length_map] at e63
                          rw [e63, kw_i64_id (by omega) (by omega)] at h74; omega
                        rw [if_neg (by omega)] at hS
                        rw [e63]
                        refine WL_skip ?_
                        refine WL_seq ?_
                        apply WLp
                        · (repeat (first | exact rzz | apply rcc rfl | apply rnn rfl))
                        refine WL_seq ?_
                        refine WL_seq ?_
                        refine WL_reg ?_
                        refine O_p rfl rfl rfl ?_
                        refine O_p rfl rfl rfl ?_
                        refine WO_nil ?_
                        refine WL_seq ?_
                        apply WLp
                        · (repeat (first | exact rzz | apply rcc rfl | apply rnn rfl))
                        refine WL_block ?_
                        apply WL_forv (hc := [.cells (cT a), .cells (cT b)]) (α := Nat × Bool) (fun s => [(76, .int .i64 (s.1 : Nat))]) (fun s => [.cells [.bool s.2]]) (fun s => s.1 ≤ a.funs.length - 1 ∧ s.2 = (v0 && (List.range s.1).all (fun i => subT k (b.funs.getD i zeroT) (a.funs.getD i zeroT)))) (fun s => a.funs.length - s.1) ((0, v0)) (he := ?he) (hh := ?hh) (hP := ?hP) (hk := ?hk) (round := ?round)
                        case he =>
                          (repeat (first | exact rzz | apply rcc rfl | apply rnn rfl))
                        case hh =>
                          rfl
                        case hP =>
                          exact ⟨by simp, by simp⟩
                        case hk =>
                          show a.funs.length - 0 < n + 2; omega
                        case round =>
                          rintro ⟨i, v⟩ ⟨hi, hs⟩
                          simp only at hi hs
                          dsimp only [List.cons_append, List.nil_append] at *
                          refine WL_seq ?_
                          refine WL_reg ?_
                          refine O_p rfl rfl rfl ?_
                          refine WO_nil ?_
                          refine WL_seq ?_
                          apply WLp
                          · (repeat (first | exact rzz | apply rcc rfl | apply rnn rfl))
                          refine WL_seq ?_
                          refine WL_cond rfl (fun h77 => ?_) (fun h77 => ?_)
                          · skip
                            simp at h77
                            obtain ⟨x, hx⟩ : ∃ x, (b.funs)[i]? = some x := ⟨_, List.getElem?_eq_getElem (by omega)⟩
                            have hmx := List.mem_of_getElem? hx
                            have hsx := szT_funs hmx
                            obtain ⟨y, hy⟩ : ∃ y, (a.funs)[i]? = some y := ⟨_, List.getElem?_eq_getElem (by omega)⟩
                            have hmy := List.mem_of_getElem? hy
                            have hsy := szT_funs hmy
                            refine WL_skip ?_
                            refine WL_seq ?_
                            apply WLp
                            · (repeat (first | exact rzz | apply rcc rfl | apply rnn rfl))
                            refine WL_seq ?_
                            refine WL_block ?_
                            refine WL_seq ?_
                            refine WL_reg ?_
                            refine O_p rfl rfl rfl ?_
                            refine O_p rfl rfl rfl ?_
                            refine WO_nil ?_
                            refine WL_seq ?_
                            apply WLp
                            · (repeat (first | exact rzz | apply rcc rfl | apply rnn rfl))
                            refine WL_drawS (ops := [_, _, _, _, _, _, _, _, _, _, _, _]) rfl rfl ?_
                            refine O_p rfl rfl rfl ?_
                            refine O_p rfl rfl rfl ?_
                            refine O_h rfl rfl rfl rfl ?_
                            refine O_p rfl rfl rfl ?_
                            refine O_ia rfl rfl (Int.natCast_nonneg _) (encT_get (i := (i : Nat)) hx) (encT_flat _) rfl ?_
                            refine O_h rfl rfl rfl rfl ?_
                            refine O_p rfl rfl rfl ?_
                            refine O_h rfl rfl rfl rfl ?_
                            refine O_p rfl rfl rfl ?_
                            refine O_ia rfl rfl (Int.natCast_nonneg _) (encT_get (i := (i : Nat)) hy) (encT_flat _) rfl ?_
                            refine O_h rfl rfl rfl rfl ?_
                            refine O_cv rfl rfl (sub1_c3 (n + 1) x y (subT k x y) v _ _ (ih (n + 1) x y (hb.funs hmx) (ha.funs hmy) (wb.funs hmx) (wa.funs hmy) (by omega) (by omega)) rfl) ?_
                            refine WO_nil (WL_nil ⟨rfl, ?_⟩)
                            refine WL_nil ?_
                            refine Blk_norm (?_ : WL _ _ _ _ _)
                            refine WL_seq ?_
                            apply WLp
                            · (repeat (first | exact rzz | apply rcc rfl | apply rnn rfl))
                            refine WL_reg ?_
                            refine O_p rfl rfl rfl ?_
                            refine O_p rfl rfl rfl ?_
                            refine WO_nil ?_
                            refine WL_nil ?_
                            refine RndV_norm ((i + 1, v && subT k x y)) (by refine ⟨by simp only; omega, ?_⟩; simp only; rw [y2k, hs, getD_of hx, getD_of hy, Bool.and_assoc]) (by show _ < _; omega) ?_ rfl
                            · rw [wrap_succ (by omega)]; (repeat (first | exact rzz | apply rcc rfl | apply rnn rfl))
                          · skip
                            simp at h77
                            obtain rfl : i = a.funs.length - 1 := by omega
                            obtain ⟨x, hx⟩ : ∃ x, (b.funs)[(a.funs.length - 1)]? = some x := ⟨_, List.getElem?_eq_getElem (by omega)⟩
                            have hmx := List.mem_of_getElem? hx
                            have hsx := szT_funs hmx
                            obtain ⟨y, hy⟩ : ∃ y, (a.funs)[(a.funs.length - 1)]? = some y := ⟨_, List.getElem?_eq_getElem (by omega)⟩
                            have hmy := List.mem_of_getElem? hy
                            have hsy := szT_funs hmy
                            have hr : subT (k + 1) a b = (v && subT k y x) := by
                              rw [hS, hs, hv0, getD_of hx, getD_of hy]
                            refine WL_exit ?_
                            refine RndV_exit ?_
                            refine Blk_exit (?_ : WL _ _ _ _ _)
                            refine WL_seq ?_
                            apply WLp
                            · (repeat (first | exact rzz | apply rcc rfl | apply rnn rfl))
                            refine WL_seq ?_
                            refine WL_drawS (ops := [_, _, _, _, _, _, _, _, _, _, _, _]) rfl rfl ?_
                            refine O_p rfl rfl rfl ?_
                            refine O_p rfl rfl rfl ?_
                            refine O_h rfl rfl rfl rfl ?_
                            refine O_p rfl rfl rfl ?_
                            refine O_ia rfl rfl (Int.natCast_nonneg _) (encT_get (i := ((a.funs.length - 1) : Nat)) hy) (encT_flat _) rfl ?_
                            refine O_h rfl rfl rfl rfl ?_
                            refine O_p rfl rfl rfl ?_
                            refine O_h rfl rfl rfl rfl ?_
                            refine O_p rfl rfl rfl ?_
                            refine O_ia rfl rfl (Int.natCast_nonneg _) (encT_get (i := ((a.funs.length - 1) : Nat)) hx) (encT_flat _) rfl ?_
                            refine O_h rfl rfl rfl rfl ?_
                            refine O_cv rfl rfl (sub1_c3 (n + 1) y x (subT k y x) v _ _ (ih (n + 1) y x (ha.funs hmy) (hb.funs hmx) (wa.funs hmy) (wb.funs hmx) (by omega) (by omega)) rfl) ?_
                            refine WO_nil (WL_nil ⟨rfl, ?_⟩)
                            refine WL_seq ?_
                            apply WLp
                            · (repeat (first | exact rzz | apply rcc rfl | apply rnn rfl))
                            refine WL_seq ?_
                            refine WL_reg ?_
                            refine O_h rfl rfl rfl rfl ?_
                            refine O_p rfl rfl rfl ?_
                            refine WO_nil ?_
                            refine WL_ret ?_
                            exact ⟨_, rfl, _, rfl, by rw [hr]⟩
              · skip
                simp at h46
                let v0 : Bool := true
                have hv0 : v0 = (if a.pair = 0 then true else (subT k (carT a) (carT b) && (if a.pair = 2 ∧ b.pair = 2 then true else subT k (cdrT a) (cdrT b)))) := by simp [v0, h46]
                refine WL_skip ?_
                refine WL_seq ?_
                apply WLp
                · (repeat (first | exact rzz | apply rcc rfl | apply rnn rfl))
                refine WL_seq ?_
                refine WL_seq ?_
                refine WL_reg ?_
                refine O_p rfl rfl rfl ?_
                refine O_h rfl rfl rfl rfl ?_
                refine O_p rfl rfl rfl ?_
                refine O_p rfl rfl rfl ?_
                apply O_or [_, _, _] rfl rfl (hT := ?hT58) (h := ?hR58)
                case hT58 =>
                  intro hb54
                  refine O_p rfl rfl rfl ?_
                  refine O_h rfl rfl rfl rfl ?_
                  refine O_p rfl rfl rfl ?_
                  exact WO_nil (WL_nil ⟨rfl, rfl, rfl⟩)
                case hR58 =>
                  intro vs hvs
                  obtain ⟨u55, u56, u57, rfl⟩ := len3 hvs
                  clear hvs; dsimp only [junk]
                  refine WO_nil ?_
                  refine WL_seq ?_
                  apply WLp
                  · (repeat (first | exact rzz | apply rcc rfl | apply rnn rfl))
                  try clear u55 u56 u57
                  refine WL_cond rfl (fun h58 => ?_) (fun h58 => ?_)
                  · skip
                    have hr : subT (k + 1) a b = v0 := by
                      simp at h58
                      rw [hS, if_pos h58, hv0]
                    refine WL_seq ?_
                    refine WL_reg ?_
                    refine O_h rfl rfl rfl rfl ?_
                    refine O_p rfl rfl rfl ?_
                    refine WO_nil ?_
                    refine WL_ret ?_
                    exact ⟨_, rfl, _, rfl, by rw [hr]⟩
                  · skip
                    simp at h58
                    rw [if_neg (by omega)] at hS
                    have hf1 : a.funs.length ≥ 1 ∨ a.fn = 2 := by
                      by_cases q : a.fn = 1
                      · exact .inl (fa.2.2.2.2.2.2.2.1 q).1
                      · right; omega
                    have e63 : a.fn ≠ 2 → IntKind.i64.wrap (((List.map encT a.funs).length : Int) - 1) = ((a.funs.length - 1 : Nat) : Int) := by
                      intro q; rw [List.length_map, kw_i64_id (by omega) (by omega)]; omega
                    refine WL_skip ?_
                    refine WL_seq ?_
                    apply WLp
                    · (repeat (first | exact rzz | apply rcc rfl | apply rnn rfl))
                    refine WL_seq ?_
                    refine WL_reg ?_
                    refine O_p rfl rfl rfl ?_
                    refine O_h rfl rfl rfl rfl ?_
                    refine O_h rfl rfl rfl rfl ?_
                    refine O_p rfl rfl rfl ?_
                    refine O_p rfl rfl rfl ?_
                    refine WO_nil ?_
                    refine WL_seq ?_
                    apply WLp
                    · (repeat (first | exact rzz | apply rcc rfl | apply rnn rfl))
                    refine WL_seq ?_
                    refine WL_seq ?_
                    refine WL_reg ?_
                    refine O_p rfl rfl rfl ?_
                    refine O_h rfl rfl rfl rfl ?_
                    refine O_p rfl rfl rfl ?_
                    refine O_p rfl rfl rfl ?_
                    apply O_or [_, _, _, _, _, _] rfl rfl (hT := ?hT74) (h := ?hR74)
                    case hT74 =>
                      intro hb67
                      refine O_p rfl rfl rfl ?_
                      refine O_h rfl rfl rfl rfl ?_
                      refine O_h rfl rfl rfl rfl ?_
                      refine O_p rfl rfl rfl ?_
                      refine O_p rfl rfl rfl ?_
                      refine O_p rfl rfl rfl ?_
                      exact WO_nil (WL_nil ⟨rfl, rfl, rfl⟩)
                    case hR74 =>
                      intro vs hvs
                      obtain ⟨u68, u69, u70, u71, u72, u73, rfl⟩ := len6 hvs
                      clear hvs; dsimp only [junk]
                      refine WO_nil ?_
                      refine WL_seq ?_
                      apply WLp
                      · (repeat (first | exact rzz | apply rcc rfl | apply rnn rfl))
                      try clear u68 u69 u70 u71 u72 u73
                      refine WL_cond rfl (fun h74 => ?_) (fun h74 => ?_)
                      · skip
                        have hr : subT (k + 1) a b = false := by
                          by_cases q : a.fn = 2
                          · rw [hS, if_pos (.inl q)]
                          · simp [q] at h74
                            have e63 := e63 q
                            rw [List.length_map] at e63
                            rw [e63, kw_i64_id (by omega) (by omega)] at h74
                            rw [hS, if_pos (.inr (by omega))]
                        refine WL_seq ?_
                        refine WL_reg ?_
                        refine O_p rfl rfl rfl ?_
                        refine WO_nil ?_
                        refine WL_ret ?_
                        exact ⟨_, rfl, _, rfl, by rw [hr]⟩
                      · skip
                        have hq2 : a.fn ≠ 2 := by intro q; simp [q] at h74
                        have e63 := e63 hq2
                        have hlen : b.funs.length = a.funs.length := by
                          simp [hq2] at h74
                          rw [List.length_map] at e63
                          rw [e63, kw_i64_id (by omega) (by omega)] at h74; omega
                        rw [if_neg (by omega)] at hS
                        rw [e63]
                        refine WL_skip ?_
                        refine WL_seq ?_
                        apply WLp
                        · (repeat (first | exact rzz | apply rcc rfl | apply rnn rfl))
                        refine WL_seq ?_
                        refine WL_seq ?_
                        refine WL_reg ?_
                        refine O_p rfl rfl rfl ?_
                        refine O_p rfl rfl rfl ?_
                        refine WO_nil ?_
                        refine WL_seq ?_
                        apply WLp
                        · (repeat (first | exact rzz | apply rcc rfl | apply rnn rfl))
                        refine WL_block ?_
                        apply WL_forv (hc := [.cells (cT a), .cells (cT b)]) (α := Nat × Bool) (fun s => [(76, .int .i64 (s.1 : Nat))]) (fun s => [.cells [.bool s.2]]) (fun s => s.1 ≤ a.funs.length - 1 ∧ s.2 = (v0 && (List.range s.1).all (fun i => subT k (b.funs.getD i zeroT) (a.funs.getD i zeroT)))) (fun s => a.funs.length - s.1) ((0, v0)) (he := ?he) (hh := ?hh) (hP := ?hP) (hk := ?hk) (round := ?round)
                        case he =>
                          (repeat (first | exact rzz | apply rcc rfl | apply rnn rfl))
                        case hh =>
                          rfl
                        case hP =>
                          exact ⟨by simp, by simp⟩
                        case hk =>
                          show a.funs.length - 0 < n + 2; omega
                        case round =>
                          rintro ⟨i, v⟩ ⟨hi, hs⟩
                          simp only at hi hs
                          dsimp only [List.cons_append, List.nil_append] at *
                          refine WL_seq ?_
                          refine WL_reg ?_
                          refine O_p rfl rfl rfl ?_
                          refine WO_nil ?_
                          refine WL_seq ?_
                          apply WLp
                          · (repeat (first | exact rzz | apply rcc rfl | apply rnn rfl))
                          refine WL_seq ?_
                          refine WL_cond rfl (fun h77 => ?_) (fun h77 => ?_)
                          · skip
                            simp at h77
                            obtain ⟨x, hx⟩ : ∃ x, (b.funs)[i]? = some x := ⟨_, List.getElem?_eq_getElem (by omega)⟩
                            have hmx := List.mem_of_getElem? hx
                            have hsx := szT_funs hmx
                            obtain ⟨y, hy⟩ : ∃ y, (a.funs)[i]? = some y := ⟨_, List.getElem?_eq_getElem (by omega)⟩
                            have hmy := List.mem_of_getElem? hy
                            have hsy := szT_funs hmy
                            refine WL_skip ?_
                            refine WL_seq ?_
                            apply WLp
                            · (repeat (first | exact rzz | apply rcc rfl | apply rnn rfl))
                            refine WL_seq ?_
                            refine WL_block ?_
                            refine WL_seq ?_
                            refine WL_reg ?_
                            refine O_p rfl rfl rfl ?_
                            refine O_p rfl rfl rfl ?_
                            refine WO_nil ?_
                            refine WL_seq ?_
                            apply WLp
                            · (repeat (first | exact rzz | apply rcc rfl | apply rnn rfl))
                            refine WL_drawS (ops := [_, _, _, _, _, _, _, _, _, _, _, _]) rfl rfl ?_
                            refine O_p rfl rfl rfl ?_
                            refine O_p rfl rfl rfl ?_
                            refine O_h rfl rfl rfl rfl ?_
                            refine O_p rfl rfl rfl ?_
                            refine O_ia rfl rfl (Int.natCast_nonneg _) (encT_get (i := (i : Nat)) hx) (encT_flat _) rfl ?_
                            refine O_h rfl rfl rfl rfl ?_
                            refine O_p rfl rfl rfl ?_
                            refine O_h rfl rfl rfl rfl ?_
                            refine O_p rfl rfl rfl ?_
                            refine O_ia rfl rfl (Int.natCast_nonneg _) (encT_get (i := (i : Nat)) hy) (encT_flat _) rfl ?_
                            refine O_h rfl rfl rfl rfl ?_
                            refine O_cv rfl rfl (sub1_c3 (n + 1) x y (subT k x y) v _ _ (ih (n + 1) x y (hb.funs hmx) (ha.funs hmy) (wb.funs hmx) (wa.funs hmy) (by omega) (by omega)) rfl) ?_
                            refine WO_nil (WL_nil ⟨rfl, ?_⟩)
                            refine WL_nil ?_
                            refine Blk_norm (?_ : WL _ _ _ _ _)
                            refine WL_seq ?_
                            apply WLp
                            · (repeat (first | exact rzz | apply rcc rfl | apply rnn rfl))
                            refine WL_reg ?_
                            refine O_p rfl rfl rfl ?_
                            refine O_p rfl rfl rfl ?_
                            refine WO_nil ?_
                            refine WL_nil ?_
                            refine RndV_norm ((i + 1, v && subT k x y)) (by refine ⟨by simp only; omega, ?_⟩; simp only; rw [y2k, hs, getD_of hx, getD_of hy, Bool.and_assoc]) (by show _ < _; omega) ?_ rfl
                            · rw [wrap_succ (by omega)]; (repeat (first | exact rzz | apply rcc rfl | apply rnn rfl))
                          · skip
                            simp at h77
                            obtain rfl : i = a.funs.length - 1 := by omega
                            obtain ⟨x, hx⟩ : ∃ x, (b.funs)[(a.funs.length - 1)]? = some x := ⟨_, List.getElem?_eq_getElem (by omega)⟩
                            have hmx := List.mem_of_getElem? hx
                            have hsx := szT_funs hmx
                            obtain ⟨y, hy⟩ : ∃ y, (a.funs)[(a.funs.length - 1)]? = some y := ⟨_, List.getElem?_eq_getElem (by omega)⟩
                            have hmy := List.mem_of_getElem? hy
                            have hsy := szT_funs hmy
                            have hr : subT (k + 1) a b = (v && subT k y x) := by
                              rw [hS, hs, hv0, getD_of hx, getD_of hy]
                            refine WL_exit ?_
                            refine RndV_exit ?_
                            refine Blk_exit (?_ : WL _ _ _ _ _)
                            refine WL_seq ?_
                            apply WLp
                            · (repeat (first | exact rzz | apply rcc rfl | apply rnn rfl))
                            refine WL_seq ?_
                            refine WL_drawS (ops := [_, _, _, _, _, _, _, _, _, _, _, _]) rfl rfl ?_
                            refine O_p rfl rfl rfl ?_
                            refine O_p rfl rfl rfl ?_
                            refine O_h rfl rfl rfl rfl ?_
                            refine O_p rfl rfl rfl ?_
                            refine O_ia rfl rfl (Int.natCast_nonneg _) (encT_get (i := ((a.funs.length - 1) : Nat)) hy) (encT_flat _) rfl ?_
                            refine O_h rfl rfl rfl rfl ?_
                            refine O_p rfl rfl rfl ?_
                            refine O_h rfl rfl rfl rfl ?_
                            refine O_p rfl rfl rfl ?_
                            refine O_ia rfl rfl (Int.natCast_nonneg _) (encT_get (i := ((a.funs.length - 1) : Nat)) hx) (encT_flat _) rfl ?_
                            refine O_h rfl rfl rfl rfl ?_
                            refine O_cv rfl rfl (sub1_c3 (n + 1) y x (subT k y x) v _ _ (ih (n + 1) y x (ha.funs hmy) (hb.funs hmx) (wa.funs hmy) (wb.funs hmx) (by omega) (by omega)) rfl) ?_
                            refine WO_nil (WL_nil ⟨rfl, ?_⟩)
                            refine WL_seq ?_
                            apply WLp
                            · (repeat (first | exact rzz | apply rcc rfl | apply rnn rfl))
                            refine WL_seq ?_
                            refine WL_reg ?_
                            refine O_h rfl rfl rfl rfl ?_
                            refine O_p rfl rfl rfl ?_
                            refine WO_nil ?_
                            refine WL_ret ?_
                            exact ⟨_, rfl, _, rfl, by rw [hr]⟩
def outB (f p g : Int) (gs : List Ty) (x : AVal) : ABlock := .cells [.bool false, .int .i64 f, .int .i64 p, x, .int .i64 g, .lst (gs.map encT) false]
def zeroB : ABlock := .cells [.bool false, .int .i64 0, .int .i64 0, .lst [] true, .int .i64 0, .lst [] true]
end Go.Ev.Seat.TyS
namespace Go.Ev
set_option linter.unusedVariables false
set_option linter.unusedSimpArgs false
open Go
inductive Co where
  | mk (flat : Nat → Int) (pair plab : Int) (pairs : List Co) (fn flab : Int) (funs : List Co)
namespace Co
def flat : Co → Nat → Int | mk a _ _ _ _ _ _ => a
def pair : Co → Int | mk _ a _ _ _ _ _ => a
def plab : Co → Int | mk _ _ a _ _ _ _ => a
def pairs : Co → List Co | mk _ _ _ a _ _ _ => a
def fn : Co → Int | mk _ _ _ _ a _ _ => a
def flab : Co → Int | mk _ _ _ _ _ a _ => a
def funs : Co → List Co | mk _ _ _ _ _ _ a => a
end Co
def sixC (f : Nat → Int) : List AVal := [.int .i64 (f 0), .int .i64 (f 1), .int .i64 (f 2), .int .i64 (f 3), .int .i64 (f 4), .int .i64 (f 5)]
mutual
def encC : Co → AVal
  | .mk f p l ps g m gs => .agg [.int .i64 (f 0), .int .i64 (f 1), .int .i64 (f 2), .int .i64 (f 3), .int .i64 (f 4), .int .i64 (f 5), .int .i64 p, .int .i64 l, .lst (encCs ps) false, .int .i64 g, .int .i64 m, .lst (encCs gs) false]
def encCs : List Co → List AVal
  | [] => []
  | x :: xs => encC x :: encCs xs
end
def cC (x : Co) : List AVal := [.int .i64 (x.flat 0), .int .i64 (x.flat 1), .int .i64 (x.flat 2), .int .i64 (x.flat 3), .int .i64 (x.flat 4), .int .i64 (x.flat 5), .int .i64 x.pair, .int .i64 x.plab, .lst (x.pairs.map encC) false, .int .i64 x.fn, .int .i64 x.flab, .lst (x.funs.map encC) false]
abbrev vC (x : Co) : AVal := .agg (cC x)
theorem encCs_map : ∀ l : List Co, encCs l = l.map encC
  | [] => rfl
  | x :: xs => by simp only [encCs, List.map_cons, encCs_map xs]
theorem encC_eq (x : Co) : encC x = vC x := by
  cases x with | mk f p l ps g m gs => simp only [encC, encCs_map, vC, cC, Co.flat, Co.pair, Co.plab, Co.pairs, Co.fn, Co.flab, Co.funs]
theorem encC_flat (x : Co) : (encC x).flat = cC x := by rw [encC_eq]; rfl
theorem encC_get {l : List Co} {i : Nat} {x : Co} (h : l[i]? = some x) : (l.map encC)[((i : Nat) : Int).toNat]? = some (encC x) := by rw [Int.toNat_natCast, List.getElem?_map, h]; rfl
theorem encC_w (l : List Co) : (l.map encC).all (fun y => decide (y.width = 12)) = true := by
  rw [List.all_eq_true]
  intro y hy
  obtain ⟨x, _, rfl⟩ := List.mem_map.1 hy
  simp [AVal.width, encC_flat, cC]
theorem encC_w1 (x : Co) : (encC x).width = 12 := by simp [AVal.width, encC_flat, cC]
mutual
def szC : Co → Nat
  | .mk _ _ _ ps _ _ gs => 1 + szCs ps + szCs gs
def szCs : List Co → Nat
  | [] => 0
  | x :: xs => szC x + szCs xs
end
theorem szC_eq (x : Co) : szC x = 1 + szCs x.pairs + szCs x.funs := by cases x; rfl
theorem szCs_mem {x : Co} : ∀ {l : List Co}, x ∈ l → szC x ≤ szCs l
  | y :: ys, h => by
    simp only [szCs]
    rcases List.mem_cons.1 h with rfl | h
    · omega
    · have := szCs_mem h; omega
theorem szC_pairs {x y : Co} (h : y ∈ x.pairs) : szC y < szC x := by rw [szC_eq x]; have := szCs_mem h; omega
def six (p : Nat → Bool) : Bool := p 0 && (p 1 && (p 2 && (p 3 && (p 4 && (p 5 && true)))))
def passC (c : Co) : Bool := six (fun i => decide (c.flat i = 0)) && decide (c.pair = 0) && decide (c.plab = 0) && decide ((c.pairs.length : Int) = 0) && decide (c.fn = 0) && decide (c.flab = 0) && decide ((c.funs.length : Int) = 0)
def pcntC (p : Int) : Int := if p = 2 then 2 else if p = 3 then 1 else 0
def okC (c : Co) : Bool :=
  six (fun i => decide (0 ≤ c.flat i) && decide (c.flat i ≤ 99)) && decide (0 ≤ c.plab) && decide (c.plab ≤ 99) && decide (0 ≤ c.flab) && decide (c.flab ≤ 99) && decide (0 ≤ c.pair) && decide (c.pair ≤ 3) && decide (0 ≤ c.fn) && decide (c.fn ≤ 3) &&
    decide ((c.pairs.length : Int) = pcntC c.pair) &&
    (if c.pair = 0 then decide (c.plab = 0) else if c.pair = 1 then !decide (c.plab = 0) else if c.pair = 2 then decide (c.plab = 0) && c.pairs.any (fun x => !passC x) else !decide (c.plab = 0) || c.pairs.any (fun x => !passC x)) &&
    (if c.fn = 2 then decide (c.funs.length ≤ 9) && c.funs.any (fun x => !passC x) else decide (c.funs.length = 0)) && (decide (c.fn = 1) == !decide (c.flab = 0))
mutual
def rightC : Co → Nat → Bool
  | .mk f p l ps g m gs, d => match d with
    | 0 => false
    | d + 1 => okC (.mk f p l ps g m gs) && rightCs ps d && rightCs gs d
def rightCs : List Co → Nat → Bool
  | [], _ => true
  | x :: xs, d => rightC x d && rightCs xs d
end
theorem y1w (x : Co) : rightC x 0 = false := by cases x; rfl
theorem y1a (x : Co) (d : Nat) : rightC x (d + 1) = (okC x && rightCs x.pairs d && rightCs x.funs d) := by cases x; rfl
theorem y2d {d : Nat} : ∀ {l : List Co} {x : Co}, rightCs l d = true → x ∈ l → rightC x d = true
  | y :: ys, x, h, hm => by
    simp only [rightCs, Bool.and_eq_true] at h
    rcases List.mem_cons.1 hm with rfl | hm
    · exact h.1
    · exact y2d h.2 hm
def es0 (w i : Nat) : Nat := if i = 0 then 0 else w
theorem es0_or (w i : Nat) : es0 w i = w ∨ es0 w i = 0 := by unfold es0; split <;> simp
theorem y1c {l : List Co} {i : Nat} {x : Co} (h : l[i]? = some x) : (l.take (i + 1)).map encC = (l.take i).map encC ++ [vC x] := by
  rw [List.take_add_one, h]; simp [encC_eq]
theorem six_all {p : Nat → Bool} (h : ∀ i, i < 6 → p i = true) : six p = true := by simp [six, h]
def lab (n : Int) : Bool := decide (0 ≤ n) && decide (n ≤ 99)
def anyA (l : List Co) : Bool := l.any (fun x => !passC x)
theorem okC_iff (c : Co) : okC c = true ↔ (six (fun i => lab (c.flat i)) = true ∧ lab c.plab = true ∧ lab c.flab = true ∧ 0 ≤ c.pair ∧ c.pair ≤ 3 ∧ 0 ≤ c.fn ∧ c.fn ≤ 3 ∧ (c.pairs.length : Int) = pcntC c.pair ∧
    (c.pair = 0 → c.plab = 0) ∧ (c.pair = 1 → c.plab ≠ 0) ∧ (c.pair = 2 → c.plab = 0 ∧ anyA c.pairs = true) ∧ (c.pair = 3 → c.plab ≠ 0 ∨ anyA c.pairs = true) ∧
    (c.fn = 2 → c.funs.length ≤ 9 ∧ anyA c.funs = true) ∧ (c.fn ≠ 2 → c.funs.length = 0) ∧ (c.fn = 1 ↔ c.flab ≠ 0)) := by
  have e : six (fun i => decide (0 ≤ c.flat i) && decide (c.flat i ≤ 99)) = six (fun i => lab (c.flat i)) := rfl
  unfold okC
  rw [e]
  generalize six (fun i => lab (c.flat i)) = s
  unfold lab
  change ((s && decide (0 ≤ c.plab) && decide (c.plab ≤ 99) && decide (0 ≤ c.flab) && decide (c.flab ≤ 99) && decide (0 ≤ c.pair) && decide (c.pair ≤ 3) && decide (0 ≤ c.fn) && decide (c.fn ≤ 3) &&
    decide ((c.pairs.length : Int) = pcntC c.pair) &&
    (if c.pair = 0 then decide (c.plab = 0) else if c.pair = 1 then !decide (c.plab = 0) else if c.pair = 2 then decide (c.plab = 0) && anyA c.pairs else !decide (c.plab = 0) || anyA c.pairs) &&
    (if c.fn = 2 then decide (c.funs.length ≤ 9) && anyA c.funs else decide (c.funs.length = 0)) && (decide (c.fn = 1) == !decide (c.flab = 0))) = true) ↔ _
  generalize anyA c.pairs = ap
  generalize anyA c.funs = af
  simp only [Bool.and_eq_true, decide_eq_true_eq]
  constructor
  · rintro ⟨⟨⟨⟨⟨⟨⟨⟨⟨⟨⟨⟨h1, h2⟩, h3⟩, h4⟩, h5⟩, h6⟩, h7⟩, h8⟩, h9⟩, h10⟩, h11⟩, h12⟩, h13⟩
    refine ⟨h1, ⟨h2, h3⟩, ⟨h4, h5⟩, h6, h7, h8, h9, h10, ?_, ?_, ?_, ?_, ?_, ?_, ?_⟩
    · intro q; rw [if_pos q] at h11; simpa using h11
    · intro q; rw [if_neg (by omega), if_pos q] at h11; simpa using h11
    · intro q; rw [if_neg (by omega), if_neg (by omega), if_pos q] at h11; simpa using h11
    · intro q; rw [if_neg (by omega), if_neg (by omega), if_neg (by omega)] at h11; simpa using h11
    · intro q; rw [if_pos q] at h12; simpa using h12
    · intro q; rw [if_neg q] at h12; simpa using h12
    · by_cases a : c.fn = 1 <;> by_cases b : c.flab = 0 <;> simp [a, b] at h13 ⊢
  · rintro ⟨h1, ⟨h2, h3⟩, ⟨h4, h5⟩, h6, h7, h8, h9, h10, k1, k2, k3, k4, k5, k6, k7⟩
    refine ⟨⟨⟨⟨⟨⟨⟨⟨⟨⟨⟨⟨h1, h2⟩, h3⟩, h4⟩, h5⟩, h6⟩, h7⟩, h8⟩, h9⟩, h10⟩, ?_⟩, ?_⟩, ?_⟩
    · split
      · rename_i q; simp [k1 q]
      · split
        · rename_i q; simpa using k2 q
        · split
          · rename_i q; simp [k3 q]
          · simpa using k4 (by omega)
    · split
      · rename_i q; simpa using k5 q
      · rename_i q; simpa using k6 q
    · by_cases a : c.fn = 1 <;> by_cases b : c.flab = 0 <;> simp [a, b] at k7 ⊢
def zeroC : Co := .mk (fun _ => 0) 0 0 [] 0 0 []
def carC (c : Co) : Co := if c.pair < 2 then zeroC else c.pairs.headD zeroC
def listsC (x : Co) (l : Int) : Co := .mk (fun i => if i = 4 then 0 else l) 3 l [x] (if l = 0 then 0 else 1) l []
def cdrC (c : Co) : Co := if c.pair = 2 then (c.pairs.drop 1).headD zeroC else if c.pair = 3 then listsC (c.pairs.headD zeroC) c.plab else zeroC
def flatAt (c : Co) (tag : Int) : Int := if tag = 1 then c.flat 0 else if tag = 2 then c.flat 1 else if tag = 4 then c.flat 2 else if tag = 8 then c.flat 3 else if tag = 16 then c.flat 4 else if tag = 32 then c.flat 5 else 0
def firstC (c : Co) (tag : Int) : Int := if tag = 64 ∧ c.pair = 1 then c.plab else if tag = 128 ∧ c.fn = 1 then c.flab else flatAt c tag
theorem okC_facts {c : Co} (h : okC c = true) : 0 ≤ c.pair ∧ c.pair ≤ 3 ∧ 0 ≤ c.fn ∧ c.fn ≤ 3 ∧ (c.pairs.length : Int) = pcntC c.pair := by
  obtain ⟨q1, q2, q3, q4, q5, q6, q7, q8, _⟩ := (okC_iff c).1 h
  exact ⟨q4, q5, q6, q7, q8⟩
theorem pairs2 {c : Co} (h : okC c = true) (hp : c.pair = 2) : ∃ x y, c.pairs = [x, y] := by
  have := (okC_facts h).2.2.2.2
  rw [hp] at this
  match hl : c.pairs with
  | [] => simp [hl, pcntC] at this
  | [x] => simp [hl, pcntC] at this
  | [x, y] => exact ⟨x, y, rfl⟩
  | _ :: _ :: _ :: _ => simp [hl, pcntC] at this; omega
theorem pairs3 {c : Co} (h : okC c = true) (hp : c.pair = 3) : ∃ x, c.pairs = [x] := by
  have := (okC_facts h).2.2.2.2
  rw [hp] at this
  match hl : c.pairs with
  | [] => simp [hl, pcntC] at this
  | [x] => exact ⟨x, rfl⟩
  | _ :: _ :: _ => simp [hl, pcntC] at this; omega
theorem y5s {i : Nat} (h : i < 6) : (2 : Int) ^ i = 1 ∨ (2 : Int) ^ i = 2 ∨ (2 : Int) ^ i = 4 ∨ (2 : Int) ^ i = 8 ∨ (2 : Int) ^ i = 16 ∨ (2 : Int) ^ i = 32 := by
  obtain rfl | rfl | rfl | rfl | rfl | rfl : i = 0 ∨ i = 1 ∨ i = 2 ∨ i = 3 ∨ i = 4 ∨ i = 5 := by omega
  all_goals simp
theorem y5t (c : Co) {i : Nat} (h : i < 6) : flatAt c (2 ^ i) = c.flat i := by
  obtain rfl | rfl | rfl | rfl | rfl | rfl : i = 0 ∨ i = 1 ∨ i = 2 ∨ i = 3 ∨ i = 4 ∨ i = 5 := by omega
  all_goals rfl
theorem y58 (c : Co) {tag : Int} (h : ∀ j, j < 6 → tag ≠ 2 ^ j) : flatAt c tag = 0 := by
  have h0 := h 0 (by omega); have h1 := h 1 (by omega); have h2 := h 2 (by omega); have h3 := h 3 (by omega); have h4 := h 4 (by omega); have h5 := h 5 (by omega)
  simp at h0 h1 h2 h3 h4 h5
  unfold flatAt
  rw [if_neg h0, if_neg h1, if_neg h2, if_neg h3, if_neg h4, if_neg h5]
theorem y5z (c : Co) {i : Nat} (h : i < 6) : firstC c (2 ^ i) = c.flat i := by
  have := y5s h
  unfold firstC
  rw [if_neg (by omega), if_neg (by omega), y5t c h]
theorem shl_pow {i : Nat} (h : i < 6) : IntKind.i64.wrap (1 * 2 ^ (min ((i : Int).toNat) IntKind.i64.bits)) = (2 : Int) ^ i := by
  obtain rfl | rfl | rfl | rfl | rfl | rfl : i = 0 ∨ i = 1 ∨ i = 2 ∨ i = 3 ∨ i = 4 ∨ i = 5 := by omega
  all_goals rfl
theorem ixa_six {c : Co} {i : Nat} (h : i < 6) : (if 0 ≤ (i : Int) ∧ (i : Int) < ((6 : Nat) : Int) then part ((i : Int).toNat * 1) none (sixC c.flat) else none) = some (.int .i64 (c.flat i)) := by
  obtain rfl | rfl | rfl | rfl | rfl | rfl : i = 0 ∨ i = 1 ∨ i = 2 ∨ i = 3 ∨ i = 4 ∨ i = 5 := by omega
  all_goals rfl
theorem listsC_1 (x : Co) (l : Int) (h : l ≠ 0) : cC (listsC x l) = [.int .i64 l, .int .i64 l, .int .i64 l, .int .i64 l, .int .i64 0, .int .i64 l, .int .i64 3, .int .i64 l, .lst [vC x] false, .int .i64 1, .int .i64 l, .lst [] false] := by
  simp [cC, listsC, h, Co.flat, Co.pair, Co.plab, Co.pairs, Co.fn, Co.flab, Co.funs, encC_eq]
theorem listsC_0 (x : Co) (l : Int) (h : l = 0) : cC (listsC x l) = [.int .i64 l, .int .i64 l, .int .i64 l, .int .i64 l, .int .i64 0, .int .i64 l, .int .i64 3, .int .i64 l, .lst [vC x] false, .int .i64 0, .int .i64 0, .lst [] false] := by
  subst h
  simp [cC, listsC, Co.flat, Co.pair, Co.plab, Co.pairs, Co.fn, Co.flab, Co.funs, encC_eq]
theorem rightC_ok {c : Co} {d : Nat} (h : rightC c d = true) : okC c = true := by
  cases d with
  | zero => rw [y1w] at h; cases h
  | succ d => rw [y1a] at h; simp only [Bool.and_eq_true] at h; exact h.1.1
end Go.Ev
namespace Go.Ev.Seat
set_option linter.unusedVariables false
set_option linter.unusedSimpArgs false
open Go Go.Ev
set_option maxRecDepth 20000
attribute [local irreducible] pcall callF
theorem pass_c (n : Nat) (c : Co) : pcall (tabOf tabL) (n + 1) 56 [vC c] = some (.ok (.bool (passC c))) := by
  refine pcall_fin t56 ?_
  refine WL_seq ?_
  refine WL_reg ?_
  refine O_n rfl rfl rfl ?_
  refine O_p rfl rfl rfl ?_
  refine WO_nil ?_
  refine WL_seq ?_
  apply WLp
  · (repeat (first | exact rzz | apply rcc rfl | apply rnn rfl))
  refine WL_seq ?_
  refine WL_reg ?_
  refine O_p rfl rfl rfl ?_
  refine O_h rfl rfl rfl rfl ?_
  refine O_p rfl rfl rfl ?_
  refine O_p rfl rfl rfl ?_
  refine O_p rfl rfl rfl ?_
  apply O_and [_, _, _] rfl rfl (hT := ?hT11) (h := ?hR11)
  case hT11 =>
    intro hb7
    refine O_p rfl rfl rfl ?_
    refine O_h rfl rfl rfl rfl ?_
    refine O_p rfl rfl rfl ?_
    exact WO_nil (WL_nil ⟨rfl, rfl, rfl⟩)
  case hR11 =>
    intro vs hvs
    obtain ⟨u8, u9, u10, rfl⟩ := len3 hvs
    clear hvs; dsimp only [junk]
    refine O_p rfl rfl rfl ?_
    apply O_and [_, _, _] rfl rfl (hT := ?hT16) (h := ?hR16)
    case hT16 =>
      intro hb12
      refine O_p rfl rfl rfl ?_
      refine O_h rfl rfl rfl rfl ?_
      refine O_p rfl rfl rfl ?_
      exact WO_nil (WL_nil ⟨rfl, rfl, rfl⟩)
    case hR16 =>
      intro vs hvs
      obtain ⟨u13, u14, u15, rfl⟩ := len3 hvs
      clear hvs; dsimp only [junk]
      refine O_p rfl rfl rfl ?_
      apply O_and [_, _, _, _] rfl rfl (hT := ?hT22) (h := ?hR22)
      case hT22 =>
        intro hb17
        refine O_p rfl rfl rfl ?_
        refine O_h rfl rfl rfl rfl ?_
        refine O_h rfl rfl rfl rfl ?_
        refine O_p rfl rfl rfl ?_
        exact WO_nil (WL_nil ⟨rfl, rfl, rfl⟩)
      case hR22 =>
        intro vs hvs
        obtain ⟨u18, u19, u20, u21, rfl⟩ := len4 hvs
        clear hvs; dsimp only [junk]
        refine O_p rfl rfl rfl ?_
        apply O_and [_, _, _] rfl rfl (hT := ?hT27) (h := ?hR27)
        case hT27 =>
          intro hb23
          refine O_p rfl rfl rfl ?_
          refine O_h rfl rfl rfl rfl ?_
          refine O_p rfl rfl rfl ?_
          exact WO_nil (WL_nil ⟨rfl, rfl, rfl⟩)
        case hR27 =>
          intro vs hvs
          obtain ⟨u24, u25, u26, rfl⟩ := len3 hvs
          clear hvs; dsimp only [junk]
          refine O_p rfl rfl rfl ?_
          apply O_and [_, _, _] rfl rfl (hT := ?hT32) (h := ?hR32)
          case hT32 =>
            intro hb28
            refine O_p rfl rfl rfl ?_
            refine O_h rfl rfl rfl rfl ?_
            refine O_p rfl rfl rfl ?_
            exact WO_nil (WL_nil ⟨rfl, rfl, rfl⟩)
          case hR32 =>
            intro vs hvs
            obtain ⟨u29, u30, u31, rfl⟩ := len3 hvs
            clear hvs; dsimp only [junk]
            refine O_p rfl rfl rfl ?_
            apply O_and [_, _, _, _] rfl rfl (hT := ?hT38) (h := ?hR38)
            case hT38 =>
              intro hb33
              refine O_p rfl rfl rfl ?_
              refine O_h rfl rfl rfl rfl ?_
              refine O_h rfl rfl rfl rfl ?_
              refine O_p rfl rfl rfl ?_
              exact WO_nil (WL_nil ⟨rfl, rfl, rfl⟩)
            case hR38 =>
              intro vs hvs
              obtain ⟨u34, u35, u36, u37, rfl⟩ := len4 hvs
              clear hvs; dsimp only [junk]
              refine O_p rfl rfl rfl ?_
              refine WO_nil ?_
              refine WL_ret ?_
              refine ⟨_, rfl, _, rfl, ?_⟩
              simp [passC, six]
theorem acts_c (n : Nat) (c : Co) : pcall (tabOf tabL) (n + 2) 37 [vC c] = some (.ok (.bool (!passC c))) := by
  refine pcall_fin t37 ?_
  refine WL_seq ?_
  refine WL_reg ?_
  refine O_n rfl rfl rfl ?_
  refine O_p rfl rfl rfl ?_
  refine WO_nil ?_
  refine WL_seq ?_
  apply WLp
  · (repeat (first | exact rzz | apply rcc rfl | apply rnn rfl))
  refine WL_seq ?_
  refine WL_reg ?_
  refine O_h rfl rfl rfl rfl ?_
  refine O_c 56 rfl rfl (callA_of rfl (pass_c n c)) ?_
  refine O_p rfl rfl rfl ?_
  refine O_p rfl rfl rfl ?_
  refine WO_nil ?_
  refine WL_ret ?_
  exact ⟨_, rfl, _, rfl, rfl⟩
end Go.Ev.Seat
namespace Go.Ev.Seat
set_option linter.unusedVariables false
set_option linter.unusedSimpArgs false
open Go Go.Ev
set_option maxRecDepth 20000
attribute [local irreducible] pcall callF
theorem index_c (n : Nat) (l : List Co) (b : Bool) (f : FuncId) (caps : List AVal) (p : Co → Bool) (H : Heap) (hl : l.length < n) (hm : l.length < 9223372036854775808)
    (hf : ∀ x, x ∈ l → callA ⟨callF (tabOf tabL) n, n⟩ false f (vC x :: caps) H = some (.ok (.bool (p x)), H)) :
    callF (tabOf tabL) (n + 1) 66 [.lst (l.map encC) b, .fn f caps] H = some (.ok (.int .i64 (fidx p l 0)), H) := by
  refine callF_fin t66 ?_
  refine WL_seq ?_
  refine WL_reg ?_
  refine O_p rfl rfl rfl ?_
  refine WO_nil ?_
  refine WL_seq ?_
  apply WLp
  · (repeat (first | exact rzz | apply rcc rfl | apply rnn rfl))
  refine WL_seq ?_
  refine WL_seq ?_
  refine WL_reg ?_
  refine O_p rfl rfl rfl ?_
  refine O_h rfl rfl rfl rfl ?_
  refine O_p rfl rfl rfl ?_
  refine WO_nil ?_
  refine WL_seq ?_
  apply WLp
  · (repeat (first | exact rzz | apply rcc rfl | apply rnn rfl))
  refine WL_block ?_
  apply WL_forc (α := Nat) (fun i => [(8, .int .i64 (i : Nat))]) (fun i => i ≤ l.length ∧ fidx p l 0 = fidx p (l.drop i) i) (fun i => l.length - i) (0) (he := ?he) (hP := ?hP) (hk := ?hk) (round := ?round)
  case he =>
    (repeat (first | exact rzz | apply rcc rfl | apply rnn rfl))
  case hP =>
    exact ⟨by omega, rfl⟩
  case hk =>
    show l.length - 0 < n; omega
  case round =>
    rintro i ⟨hi, hs⟩
    dsimp only [List.cons_append, List.nil_append] at *
    refine WL_seq ?_
    refine WL_reg ?_
    refine O_p rfl rfl rfl ?_
    refine WO_nil ?_
    refine WL_seq ?_
    apply WLp
    · (repeat (first | exact rzz | apply rcc rfl | apply rnn rfl))
    refine WL_seq ?_
    refine WL_cond rfl (fun h9 => ?_) (fun h9 => ?_)
    · skip
      simp at h9
      obtain ⟨x, hx⟩ : ∃ x, (l)[i]? = some x := ⟨_, List.getElem?_eq_getElem (by omega)⟩
      have hmx := List.mem_of_getElem? hx
      have hg := drop_of hx
      refine WL_skip ?_
      refine WL_seq ?_
      apply WLp
      · (repeat (first | exact rzz | apply rcc rfl | apply rnn rfl))
      refine WL_seq ?_
      refine WL_block ?_
      refine WL_seq ?_
      refine WL_reg ?_
      refine O_p rfl rfl rfl ?_
      refine O_p rfl rfl rfl ?_
      refine WO_nil ?_
      refine WL_seq ?_
      apply WLp
      · (repeat (first | exact rzz | apply rcc rfl | apply rnn rfl))
      refine WL_seq ?_
      refine WL_reg ?_
      refine O_p rfl rfl rfl ?_
      refine O_p rfl rfl rfl ?_
      refine O_p rfl rfl rfl ?_
      refine O_ia rfl rfl (Int.natCast_nonneg _) (encC_get (i := (i : Nat)) hx) (encC_flat _) rfl ?_
      refine O_h rfl rfl rfl rfl ?_
      refine O_cv rfl rfl (hf x hmx) ?_
      refine WO_nil ?_
      refine WL_seq ?_
      apply WLp
      · (repeat (first | exact rzz | apply rcc rfl | apply rnn rfl))
      refine WL_cond rfl (fun h16 => ?_) (fun h16 => ?_)
      · skip
        have hr : fidx p l 0 = i := by
          rw [hs, hg]; simp [fidx, h16]
        refine WL_seq ?_
        refine WL_reg ?_
        refine O_p rfl rfl rfl ?_
        refine O_p rfl rfl rfl ?_
        refine WO_nil ?_
        refine WL_ret ?_
        refine Blk_ret ?_
        refine RndC_ret ?_
        refine Blk_ret ?_
        exact ⟨_, rfl, by rw [hr]; rfl, rfl⟩
      · skip
        refine WL_skip ?_
        refine WL_nil ?_
        refine Blk_norm (?_ : WL _ _ _ _ _)
        refine WL_seq ?_
        apply WLp
        · (repeat (first | exact rzz | apply rcc rfl | apply rnn rfl))
        refine WL_reg ?_
        refine O_p rfl rfl rfl ?_
        refine O_p rfl rfl rfl ?_
        refine WO_nil ?_
        refine WL_nil ?_
        refine RndC_norm (i + 1) (by refine ⟨by omega, ?_⟩; rw [hs, hg]; simp [fidx, h16]) (by show _ < _; omega) ?_ ?_
        · rw [wrap_succ (by omega)]; (repeat (first | exact rzz | apply rcc rfl | apply rnn rfl))
        · exact trunc_id (Nat.le_refl _)
    · skip
      have hr : fidx p l 0 = -1 := by
        simp at h9
        rw [hs, List.drop_eq_nil_of_le (by omega)]; rfl
      refine WL_exit ?_
      refine RndC_exit ?_
      refine Blk_exit (?_ : WL _ _ _ _ _)
      refine WL_seq ?_
      apply WLp
      · (repeat (first | exact rzz | apply rcc rfl | apply rnn rfl))
      refine WL_seq ?_
      refine WL_reg ?_
      refine O_p rfl rfl rfl ?_
      refine WO_nil ?_
      refine WL_ret ?_
      exact ⟨_, rfl, by rw [hr]; rfl, rfl⟩
theorem some_idx (n : Nat) (l : List Co) (hl : l.length < n) (hm : l.length < 1000000) : pcall (tabOf tabL) (n + 3) 66 [.lst (l.map encC) false, .fn 37 []] = some (.ok (.int .i64 (fidx (fun x => !passC x) l 0))) := by
  have := index_c (n + 2) l false 37 [] (fun x => !passC x) [] (by omega) (by omega) (fun x hx => callA_of rfl (acts_c n x))
  unfold pcall
  rw [this]; rfl
theorem some_c (n : Nat) (l : List Co) (hl : l.length < n) (hm : l.length < 1000000) : pcall (tabOf tabL) (n + 4) 55 [.lst (l.map encC) false, .fn 37 []] = some (.ok (.bool (l.any (fun x => !passC x)))) := by
  refine pcall_fin t55 ?_
  refine WL_seq ?_
  refine WL_reg ?_
  refine O_p rfl rfl rfl ?_
  refine WO_nil ?_
  refine WL_seq ?_
  apply WLp
  · (repeat (first | exact rzz | apply rcc rfl | apply rnn rfl))
  refine WL_seq ?_
  refine WL_reg ?_
  refine O_p rfl rfl rfl ?_
  refine O_p rfl rfl rfl ?_
  refine O_c 66 rfl rfl (callA_of rfl (some_idx n l hl hm)) ?_
  refine O_p rfl rfl rfl ?_
  refine O_p rfl rfl rfl ?_
  refine WO_nil ?_
  refine WL_ret ?_
  exact ⟨_, rfl, _, rfl, by rw [← fidx_any (fun x => !passC x) l 0]; try rfl⟩
end Go.Ev.Seat
namespace Go.Ev.Seat
set_option linter.unusedVariables false
set_option linter.unusedSimpArgs false
open Go Go.Ev
set_option maxRecDepth 20000
attribute [local irreducible] pcall callF
theorem car_c (n : Nat) (c : Co) (hok : okC c = true) : pcall (tabOf tabL) (n + 1) 40 [vC c] = some (.ok (vC (carC c))) := by
  have hfc := okC_facts hok
  refine pcall_fin t40 ?_
  refine WL_seq ?_
  refine WL_reg ?_
  refine O_n rfl rfl rfl ?_
  refine O_n rfl rfl rfl ?_
  refine WO_nil ?_
  refine WL_seq ?_
  apply WLp
  · (repeat (first | exact rzz | apply rcc rfl | apply rnn rfl))
  refine WL_seq ?_
  refine WL_seq ?_
  refine WL_reg ?_
  refine O_p rfl rfl rfl ?_
  refine O_h rfl rfl rfl rfl ?_
  refine O_p rfl rfl rfl ?_
  refine WO_nil ?_
  refine WL_seq ?_
  apply WLp
  · (repeat (first | exact rzz | apply rcc rfl | apply rnn rfl))
  refine WL_cond rfl (fun h5 => ?_) (fun h5 => ?_)
  · skip
    have hr : carC c = zeroC := by
      simp at h5; unfold carC; rw [if_pos h5]
    refine WL_seq ?_
    refine WL_reg ?_
    refine O_p rfl rfl rfl ?_
    refine O_hn rfl rfl rfl rfl ?_
    refine WO_nil ?_
    refine WL_ret ?_
    exact ⟨_, rfl, _, rfl, by rw [hr]; rfl⟩
  · skip
    simp at h5
    obtain ⟨x, hx, hr⟩ : ∃ x, c.pairs[0]? = some x ∧ carC c = x := by
      unfold carC; rw [if_neg (by omega)]
      rcases (show c.pair = 2 ∨ c.pair = 3 by omega) with q | q
      · obtain ⟨x, y, hp⟩ := pairs2 hok q; exact ⟨x, by rw [hp]; rfl, by rw [hp]; rfl⟩
      · obtain ⟨x, hp⟩ := pairs3 hok q; exact ⟨x, by rw [hp]; rfl, by rw [hp]; rfl⟩
    refine WL_skip ?_
    refine WL_seq ?_
    apply WLp
    · (repeat (first | exact rzz | apply rcc rfl | apply rnn rfl))
    refine WL_seq ?_
    refine WL_reg ?_
    refine O_p rfl rfl rfl ?_
    refine O_h rfl rfl rfl rfl ?_
    refine O_ia rfl rfl (Int.natCast_nonneg _) (encC_get (i := (0 : Nat)) hx) (encC_flat _) rfl ?_
    refine O_h rfl rfl rfl rfl ?_
    refine O_hn rfl rfl rfl rfl ?_
    refine WO_nil ?_
    refine WL_ret ?_
    exact ⟨_, rfl, _, rfl, by rw [hr]; rfl⟩
theorem cdr_c (n : Nat) (c : Co) (hok : okC c = true) : pcall (tabOf tabL) (n + 1) 41 [vC c] = some (.ok (vC (cdrC c))) := by
  have hfc := okC_facts hok
  refine pcall_fin t41 ?_
  refine WL_seq ?_
  refine WL_reg ?_
  refine O_n rfl rfl rfl ?_
  refine O_n rfl rfl rfl ?_
  refine WO_nil ?_
  refine WL_seq ?_
  apply WLp
  · (repeat (first | exact rzz | apply rcc rfl | apply rnn rfl))
  conv => arg 4; (try simp only [nrm, Nat.reduceAdd, pCT, tCT, putCells, AVal.flat])
  conv => arg 3; (try simp only [nrm, Nat.reduceAdd, pCT, tCT, putCells, AVal.flat])
  refine WL_seq ?_
  refine WL_seq ?_
  refine WL_reg ?_
  refine O_p rfl rfl rfl ?_
  refine O_h rfl rfl rfl rfl ?_
  refine WO_nil ?_
  refine WL_seq ?_
  apply WLp
  · (repeat (first | exact rzz | apply rcc rfl | apply rnn rfl))
  conv => arg 4; (try simp only [nrm, Nat.reduceAdd, pCT, tCT, putCells, AVal.flat])
  conv => arg 3; (try simp only [nrm, Nat.reduceAdd, pCT, tCT, putCells, AVal.flat])
  refine WL_block ?_
  refine WL_seq ?_
  refine WL_reg ?_
  refine O_p rfl rfl rfl ?_
  refine O_p rfl rfl rfl ?_
  refine WO_nil ?_
  refine WL_seq ?_
  apply WLp
  · (repeat (first | exact rzz | apply rcc rfl | apply rnn rfl))
  conv => arg 4; (try simp only [nrm, Nat.reduceAdd, pCT, tCT, putCells, AVal.flat])
  conv => arg 3; (try simp only [nrm, Nat.reduceAdd, pCT, tCT, putCells, AVal.flat])
  refine WL_cond rfl (fun h7 => ?_) (fun h7 => ?_)
  · skip
    simp at h7
    obtain ⟨x, y, hp⟩ := pairs2 hok h7
    have hy : c.pairs[1]? = some y := by rw [hp]; rfl
    have hr : cC (cdrC c) = cC y := by unfold cdrC; rw [if_pos h7, hp]; rfl
    refine WL_seq ?_
    refine WL_reg ?_
    refine O_p rfl rfl rfl ?_
    refine O_h rfl rfl rfl rfl ?_
    refine O_ia rfl rfl (Int.natCast_nonneg _) (encC_get (i := (1 : Nat)) hy) (encC_flat _) rfl ?_
    refine O_h rfl rfl rfl rfl ?_
    refine O_hn rfl rfl rfl rfl ?_
    refine WO_nil ?_
    refine WL_ret ?_
    refine Blk_ret ?_
    exact ⟨_, rfl, _, rfl, by show _ = Ex.ok _; rw [show vC (cdrC c) = .agg (cC (cdrC c)) from rfl, hr]; try rfl⟩
  · skip
    simp at h7
    refine WL_seq ?_
    refine WL_reg ?_
    refine O_p rfl rfl rfl ?_
    refine O_p rfl rfl rfl ?_
    refine WO_nil ?_
    refine WL_seq ?_
    apply WLp
    · (repeat (first | exact rzz | apply rcc rfl | apply rnn rfl))
    conv => arg 4; (try simp only [nrm, Nat.reduceAdd, pCT, tCT, putCells, AVal.flat])
    conv => arg 3; (try simp only [nrm, Nat.reduceAdd, pCT, tCT, putCells, AVal.flat])
    refine WL_cond rfl (fun h13 => ?_) (fun h13 => ?_)
    · skip
      simp at h13
      obtain ⟨x, hp⟩ := pairs3 hok h13
      have hr0 : cdrC c = listsC x c.plab := by unfold cdrC; rw [if_neg h7, if_pos h13, hp]; rfl
      refine WL_seq ?_
      refine WL_reg ?_
      refine O_p rfl rfl rfl ?_
      refine O_h rfl rfl rfl rfl ?_
      refine O_p rfl rfl rfl ?_
      refine WO_nil ?_
      refine WL_seq ?_
      apply WLp
      · (repeat (first | exact rzz | apply rcc rfl | apply rnn rfl))
      conv => arg 4; (try simp only [nrm, Nat.reduceAdd, pCT, tCT, putCells, AVal.flat])
      conv => arg 3; (try simp only [nrm, Nat.reduceAdd, pCT, tCT, putCells, AVal.flat])
      refine WL_seq ?_
      refine WL_reg ?_
      refine O_p rfl rfl rfl ?_
      refine O_p rfl rfl rfl ?_
      refine O_p rfl rfl rfl ?_
      refine O_p rfl rfl rfl ?_
      refine O_p rfl rfl rfl ?_
      refine O_v (.agg ([.int .i64 (c.plab), .int .i64 (c.plab), .int .i64 (c.plab), .int .i64 (c.plab), .int .i64 0, .int .i64 (c.plab)])) rfl rfl rfl rfl ?_
      refine O_p rfl rfl rfl ?_
      refine O_p rfl rfl rfl ?_
      refine O_h rfl rfl rfl rfl ?_
      refine O_v (.agg ([.int .i64 (c.plab), .int .i64 (c.plab), .int .i64 (c.plab), .int .i64 (c.plab), .int .i64 0, .int .i64 (c.plab), .int .i64 3, .int .i64 (c.plab), .lst (c.pairs.map encC) false, .int .i64 0, .int .i64 0, .lst [] true])) rfl rfl rfl rfl ?_
      refine O_n rfl rfl rfl ?_
      refine O_hn rfl rfl rfl rfl ?_
      refine WO_nil ?_
      refine WL_seq ?_
      apply WLp
      · (repeat (first | exact rzz | apply rcc rfl | apply rnn rfl))
      conv => arg 4; (try simp only [nrm, Nat.reduceAdd, pCT, tCT, putCells, AVal.flat])
      conv => arg 3; (try simp only [nrm, Nat.reduceAdd, pCT, tCT, putCells, AVal.flat])
      refine WL_seq ?_
      refine WL_seq ?_
      refine WL_reg ?_
      refine O_p rfl rfl rfl ?_
      refine O_p rfl rfl rfl ?_
      refine WO_nil ?_
      refine WL_seq ?_
      apply WLp
      · (repeat (first | exact rzz | apply rcc rfl | apply rnn rfl))
      conv => arg 4; (try simp only [nrm, Nat.reduceAdd, pCT, tCT, putCells, AVal.flat])
      conv => arg 3; (try simp only [nrm, Nat.reduceAdd, pCT, tCT, putCells, AVal.flat])
      refine WL_cond rfl (fun h28 => ?_) (fun h28 => ?_)
      · skip
        simp at h28
        have hr : cC (cdrC c) = _ := (congrArg cC hr0).trans (listsC_1 x _ h28)
        simp only [hp, List.map_cons, List.map_nil, encC_eq]
        refine WL_reg ?_
        refine O_p rfl rfl rfl ?_
        refine O_p rfl rfl rfl ?_
        refine O_hn rfl rfl rfl rfl ?_
        refine O_p rfl rfl rfl ?_
        refine O_hn rfl rfl rfl rfl ?_
        refine WO_nil ?_
        refine WL_seq ?_
        apply WLp
        · (repeat (first | exact rzz | apply rcc rfl | apply rnn rfl))
        conv => arg 4; (try simp only [nrm, Nat.reduceAdd, pCT, tCT, putCells, AVal.flat])
        conv => arg 3; (try simp only [nrm, Nat.reduceAdd, pCT, tCT, putCells, AVal.flat])
        refine WL_seq ?_
        refine WL_reg ?_
        refine O_h rfl rfl rfl rfl ?_
        refine O_hn rfl rfl rfl rfl ?_
        refine WO_nil ?_
        refine WL_ret ?_
        refine Blk_ret ?_
        exact ⟨_, rfl, _, rfl, by show _ = Ex.ok _; rw [show vC (cdrC c) = .agg (cC (cdrC c)) from rfl, hr]; try rfl⟩
      · skip
        simp at h28
        have hr : cC (cdrC c) = _ := (congrArg cC hr0).trans (listsC_0 x _ h28)
        simp only [hp, List.map_cons, List.map_nil, encC_eq]
        refine WL_skip ?_
        refine WL_seq ?_
        apply WLp
        · (repeat (first | exact rzz | apply rcc rfl | apply rnn rfl))
        conv => arg 4; (try simp only [nrm, Nat.reduceAdd, pCT, tCT, putCells, AVal.flat])
        conv => arg 3; (try simp only [nrm, Nat.reduceAdd, pCT, tCT, putCells, AVal.flat])
        refine WL_seq ?_
        refine WL_reg ?_
        refine O_h rfl rfl rfl rfl ?_
        refine O_hn rfl rfl rfl rfl ?_
        refine WO_nil ?_
        refine WL_ret ?_
        refine Blk_ret ?_
        exact ⟨_, rfl, _, rfl, by show _ = Ex.ok _; rw [show vC (cdrC c) = .agg (cC (cdrC c)) from rfl, hr]; try rfl⟩
    · skip
      simp at h13
      have hr : cC (cdrC c) = cC zeroC := by unfold cdrC; rw [if_neg h7, if_neg h13]
      refine WL_skip ?_
      refine WL_nil ?_
      refine Blk_norm (?_ : WL _ _ _ _ _)
      refine WL_seq ?_
      apply WLp
      · (repeat (first | exact rzz | apply rcc rfl | apply rnn rfl))
      conv => arg 4; (try simp only [nrm, Nat.reduceAdd, pCT, tCT, putCells, AVal.flat])
      conv => arg 3; (try simp only [nrm, Nat.reduceAdd, pCT, tCT, putCells, AVal.flat])
      refine WL_seq ?_
      refine WL_reg ?_
      refine O_p rfl rfl rfl ?_
      refine O_hn rfl rfl rfl rfl ?_
      refine WO_nil ?_
      refine WL_ret ?_
      exact ⟨_, rfl, _, rfl, by show _ = Ex.ok _; rw [show vC (cdrC c) = .agg (cC (cdrC c)) from rfl, hr]; try rfl⟩
theorem first_c (n : Nat) (c : Co) (tag : Int) (hn : 6 < n) : pcall (tabOf tabL) (n + 1) 39 [vC c, .int .i64 tag] = some (.ok (.int .i64 (firstC c tag))) := by
  refine pcall_fin t39 ?_
  refine WL_seq ?_
  refine WL_reg ?_
  refine O_n rfl rfl rfl ?_
  refine O_p rfl rfl rfl ?_
  refine WO_nil ?_
  refine WL_seq ?_
  apply WLp
  · (repeat (first | exact rzz | apply rcc rfl | apply rnn rfl))
  refine WL_seq ?_
  refine WL_block ?_
  refine WL_seq ?_
  refine WL_reg ?_
  refine O_p rfl rfl rfl ?_
  refine O_p rfl rfl rfl ?_
  refine O_p rfl rfl rfl ?_
  apply O_and [_, _, _] rfl rfl (hT := ?hT14) (h := ?hR14)
  case hT14 =>
    intro hb10
    refine O_p rfl rfl rfl ?_
    refine O_h rfl rfl rfl rfl ?_
    refine O_p rfl rfl rfl ?_
    exact WO_nil (WL_nil ⟨rfl, rfl, rfl⟩)
  case hR14 =>
    intro vs hvs
    obtain ⟨u11, u12, u13, rfl⟩ := len3 hvs
    clear hvs; dsimp only [junk]
    refine O_p rfl rfl rfl ?_
    refine WO_nil ?_
    refine WL_seq ?_
    apply WLp
    · (repeat (first | exact rzz | apply rcc rfl | apply rnn rfl))
    try clear u11 u12 u13
    refine WL_cond rfl (fun h7 => ?_) (fun h7 => ?_)
    · skip
      have hr : firstC c tag = c.plab := by simp at h7; unfold firstC; rw [if_pos h7]
      refine WL_seq ?_
      refine WL_reg ?_
      refine O_p rfl rfl rfl ?_
      refine O_h rfl rfl rfl rfl ?_
      refine O_p rfl rfl rfl ?_
      refine WO_nil ?_
      refine WL_ret ?_
      refine Blk_ret ?_
      exact ⟨_, rfl, _, rfl, by rw [hr]⟩
    · skip
      simp at h7
      refine WL_seq ?_
      refine WL_reg ?_
      refine O_p rfl rfl rfl ?_
      refine O_p rfl rfl rfl ?_
      refine O_p rfl rfl rfl ?_
      apply O_and [_, _, _] rfl rfl (hT := ?hT24) (h := ?hR24)
      case hT24 =>
        intro hb20
        refine O_p rfl rfl rfl ?_
        refine O_h rfl rfl rfl rfl ?_
        refine O_p rfl rfl rfl ?_
        exact WO_nil (WL_nil ⟨rfl, rfl, rfl⟩)
      case hR24 =>
        intro vs hvs
        obtain ⟨u21, u22, u23, rfl⟩ := len3 hvs
        clear hvs; dsimp only [junk]
        refine O_p rfl rfl rfl ?_
        refine WO_nil ?_
        refine WL_seq ?_
        apply WLp
        · (repeat (first | exact rzz | apply rcc rfl | apply rnn rfl))
        try clear u21 u22 u23
        refine WL_cond rfl (fun h17 => ?_) (fun h17 => ?_)
        · skip
          have hr : firstC c tag = c.flab := by simp at h17; unfold firstC; rw [if_neg (by intro q; exact h7 q.1 q.2), if_pos h17]
          refine WL_seq ?_
          refine WL_reg ?_
          refine O_p rfl rfl rfl ?_
          refine O_h rfl rfl rfl rfl ?_
          refine O_p rfl rfl rfl ?_
          refine WO_nil ?_
          refine WL_ret ?_
          refine Blk_ret ?_
          exact ⟨_, rfl, _, rfl, by rw [hr]⟩
        · skip
          simp at h17
          have hr0 : firstC c tag = flatAt c tag := by unfold firstC; rw [if_neg (by intro q; exact h7 q.1 q.2), if_neg (by intro q; exact h17 q.1 q.2)]
          refine WL_skip ?_
          refine WL_nil ?_
          refine Blk_norm (?_ : WL _ _ _ _ _)
          refine WL_seq ?_
          apply WLp
          · (repeat (first | exact rzz | apply rcc rfl | apply rnn rfl))
          refine WL_seq ?_
          refine WL_seq ?_
          refine WL_reg ?_
          refine O_p rfl rfl rfl ?_
          refine O_h rfl rfl rfl rfl ?_
          refine O_p rfl rfl rfl ?_
          refine WO_nil ?_
          refine WL_seq ?_
          apply WLp
          · (repeat (first | exact rzz | apply rcc rfl | apply rnn rfl))
          refine WL_block ?_
          apply WL_forc (α := Nat) (fun i => [(29, .int .i64 (i : Nat))]) (fun i => i ≤ 6 ∧ ∀ j, j < i → tag ≠ 2 ^ j) (fun i => 6 - i) (0) (he := ?he) (hP := ?hP) (hk := ?hk) (round := ?round)
          case he =>
            (repeat (first | exact rzz | apply rcc rfl | apply rnn rfl))
          case hP =>
            exact ⟨by omega, fun j hj => by omega⟩
          case hk =>
            show 6 - 0 < n; omega
          case round =>
            rintro i ⟨hi, hs⟩
            dsimp only [List.cons_append, List.nil_append] at *
            refine WL_seq ?_
            refine WL_reg ?_
            refine O_p rfl rfl rfl ?_
            refine WO_nil ?_
            refine WL_seq ?_
            apply WLp
            · (repeat (first | exact rzz | apply rcc rfl | apply rnn rfl))
            refine WL_seq ?_
            refine WL_cond rfl (fun h30 => ?_) (fun h30 => ?_)
            · skip
              replace h30 : i < 6 := by simp at h30; omega
              have hsh := shl_pow h30
              refine WL_skip ?_
              refine WL_seq ?_
              apply WLp
              · (repeat (first | exact rzz | apply rcc rfl | apply rnn rfl))
              refine WL_seq ?_
              refine WL_block ?_
              refine WL_seq ?_
              refine WL_reg ?_
              refine O_p rfl rfl rfl ?_
              refine O_p (v := .int .i64 (c.flat i)) rfl rfl (ixa_six h30) ?_
              refine O_p rfl rfl rfl ?_
              refine O_p rfl rfl rfl ?_
              refine WO_nil ?_
              refine WL_seq ?_
              apply WLp
              · (repeat (first | exact rzz | apply rcc rfl | apply rnn rfl))
              refine WL_seq ?_
              refine WL_reg ?_
              refine O_p rfl rfl rfl ?_
              refine O_p rfl rfl rfl ?_
              refine O_v (.int .i64 (2 ^ i)) rfl rfl rfl (by rw [hsh]) ?_
              refine O_p rfl rfl rfl ?_
              refine WO_nil ?_
              refine WL_seq ?_
              apply WLp
              · (repeat (first | exact rzz | apply rcc rfl | apply rnn rfl))
              refine WL_cond rfl (fun h36 => ?_) (fun h36 => ?_)
              · skip
                have hr : firstC c tag = c.flat i := by
                  simp at h36; rw [h36]; exact y5z c h30
                refine WL_seq ?_
                refine WL_reg ?_
                refine O_p rfl rfl rfl ?_
                refine O_p rfl rfl rfl ?_
                refine WO_nil ?_
                refine WL_ret ?_
                refine Blk_ret ?_
                refine RndC_ret ?_
                refine Blk_ret ?_
                exact ⟨_, rfl, _, rfl, by rw [hr]⟩
              · skip
                simp at h36
                refine WL_skip ?_
                refine WL_nil ?_
                refine Blk_norm (?_ : WL _ _ _ _ _)
                refine WL_seq ?_
                apply WLp
                · (repeat (first | exact rzz | apply rcc rfl | apply rnn rfl))
                refine WL_reg ?_
                refine O_p rfl rfl rfl ?_
                refine O_p rfl rfl rfl ?_
                refine WO_nil ?_
                refine WL_nil ?_
                refine RndC_norm (i + 1) (by refine ⟨by omega, fun j hj => ?_⟩; rcases Nat.lt_succ_iff_lt_or_eq.1 hj with q | q; exact hs j q; rw [q]; exact h36) (by show _ < _; omega) ?_ rfl
                · rw [wrap_succ (by omega)]; (repeat (first | exact rzz | apply rcc rfl | apply rnn rfl))
            · skip
              have hr : firstC c tag = 0 := by
                simp at h30; rw [hr0]; exact y58 c fun j hj => hs j (by omega)
              refine WL_exit ?_
              refine RndC_exit ?_
              refine Blk_exit (?_ : WL _ _ _ _ _)
              refine WL_seq ?_
              apply WLp
              · (repeat (first | exact rzz | apply rcc rfl | apply rnn rfl))
              refine WL_seq ?_
              refine WL_reg ?_
              refine O_p rfl rfl rfl ?_
              refine WO_nil ?_
              refine WL_ret ?_
              exact ⟨_, rfl, _, rfl, by rw [hr]⟩
end Go.Ev.Seat
namespace Go.Ev
set_option linter.unusedVariables false
set_option linter.unusedSimpArgs false
open Go
def RtC (c : Co) : Prop := ∃ d, rightC c d = true
theorem RtC.ok {c : Co} (h : RtC c) : okC c = true := by obtain ⟨d, h⟩ := h; exact rightC_ok h
theorem RtC.pairs {c x : Co} (h : RtC c) (hx : x ∈ c.pairs) : RtC x := by
  obtain ⟨d, h⟩ := h
  cases d with
  | zero => rw [y1w] at h; cases h
  | succ d => rw [y1a] at h; simp only [Bool.and_eq_true] at h; exact ⟨d, y2d h.1.2 hx⟩
theorem RtC.funs {c x : Co} (h : RtC c) (hx : x ∈ c.funs) : RtC x := by
  obtain ⟨d, h⟩ := h
  cases d with
  | zero => rw [y1w] at h; cases h
  | succ d => rw [y1a] at h; simp only [Bool.and_eq_true] at h; exact ⟨d, y2d h.2 hx⟩
theorem lab_iff {n : Int} : lab n = true ↔ 0 ≤ n ∧ n ≤ 99 := by simp [lab]
theorem okC_lists {x : Co} {l : Int} (hl : lab l = true) (h : l ≠ 0 ∨ passC x = false) : okC (listsC x l) = true := by
  rw [okC_iff]
  refine ⟨?_, hl, hl, ?_⟩
  · refine six_all fun i _ => ?_
    show lab (if i = 4 then 0 else l) = true
    split
    · rfl
    · exact hl
  · show (0 : Int) ≤ 3 ∧ (3 : Int) ≤ 3 ∧ (0 : Int) ≤ (if l = 0 then 0 else 1) ∧ (if l = 0 then (0 : Int) else 1) ≤ 3 ∧ (([x].length : Nat) : Int) = pcntC 3 ∧ ((3 : Int) = 0 → l = 0) ∧ ((3 : Int) = 1 → l ≠ 0) ∧ ((3 : Int) = 2 → l = 0 ∧ anyA [x] = true) ∧ ((3 : Int) = 3 → l ≠ 0 ∨ anyA [x] = true) ∧ ((if l = 0 then (0 : Int) else 1) = 2 → ([] : List Co).length ≤ 9 ∧ anyA [] = true) ∧ ((if l = 0 then (0 : Int) else 1) ≠ 2 → ([] : List Co).length = 0) ∧ ((if l = 0 then (0 : Int) else 1) = 1 ↔ l ≠ 0)
    have ha : anyA [x] = !passC x := by simp [anyA]
    rw [ha]
    by_cases h0 : l = 0
    · simp [h0] at h
      simp [h0, h, pcntC]
    · simp [h0, pcntC]
theorem RtC.car {c : Co} (h : RtC c) (hp : 2 ≤ c.pair) : RtC (carC c) ∧ szC (carC c) < szC c := by
  have hm : carC c ∈ c.pairs := by
    have hf := okC_facts h.ok
    unfold carC; rw [if_neg (by omega)]
    rcases (show c.pair = 2 ∨ c.pair = 3 by omega) with q | q
    · obtain ⟨x, y, e⟩ := pairs2 h.ok q; rw [e]; simp
    · obtain ⟨x, e⟩ := pairs3 h.ok q; rw [e]; simp
  exact ⟨h.pairs hm, szC_pairs hm⟩
theorem cdr3_eq {c : Co} (h : RtC c) (hp : c.pair = 3) : ∃ x, c.pairs = [x] ∧ cdrC c = listsC x c.plab ∧ (c.plab ≠ 0 ∨ passC x = false) ∧ lab c.plab = true := by
  obtain ⟨x, e⟩ := pairs3 h.ok hp
  obtain ⟨q1, q2, q3, q4, q5, q6, q7, q8, q9, q10, q11, q12, _⟩ := (okC_iff c).1 h.ok
  refine ⟨x, e, ?_, ?_, q2⟩
  · unfold cdrC; rw [if_neg (by omega), if_pos hp, e]; rfl
  · have := q12 hp
    rw [e] at this
    simpa [anyA] using this
theorem RtC.cdr {c : Co} (h : RtC c) (hp : 2 ≤ c.pair) : RtC (cdrC c) ∧ szC (cdrC c) ≤ szC c ∧ (c.pair = 2 → szC (cdrC c) < szC c) := by
  have hf := okC_facts h.ok
  rcases (show c.pair = 2 ∨ c.pair = 3 by omega) with q | q
  · obtain ⟨x, y, e⟩ := pairs2 h.ok q
    have e2 : cdrC c = y := by unfold cdrC; rw [if_pos q, e]; rfl
    have hm : y ∈ c.pairs := by rw [e]; simp
    rw [e2]
    exact ⟨h.pairs hm, Nat.le_of_lt (szC_pairs hm), fun _ => szC_pairs hm⟩
  · obtain ⟨x, e, e2, e3, e4⟩ := cdr3_eq h q
    have hm : x ∈ c.pairs := by rw [e]; simp
    refine ⟨?_, ?_, fun q2 => by omega⟩
    · rw [e2]
      obtain ⟨d, hd⟩ := h
      cases d with
      | zero => rw [y1w] at hd; cases hd
      | succ d =>
        refine ⟨d + 1, ?_⟩
        rw [y1a] at hd ⊢
        simp only [Bool.and_eq_true] at hd ⊢
        refine ⟨⟨okC_lists e4 e3, ?_⟩, rfl⟩
        show rightCs [x] d = true
        rw [← e]; exact hd.1.2
    · rw [e2]
      have e5 : szC (listsC x c.plab) = 1 + (szC x + 0) + 0 := rfl
      have e6 : szCs c.pairs = szC x + 0 := by rw [e]; rfl
      rw [e5, szC_eq c, e6]; omega
end Go.Ev
namespace Go.Ev.Seat
set_option linter.unusedVariables false
set_option linter.unusedSimpArgs false
open Go Go.Ev
set_option maxRecDepth 20000
attribute [local irreducible] pcall callF
def fC (g : Nat → Int) (p l : Int) (ps : AVal) (f m : Int) (gs : AVal) : List AVal := [.int .i64 (g 0), .int .i64 (g 1), .int .i64 (g 2), .int .i64 (g 3), .int .i64 (g 4), .int .i64 (g 5), .int .i64 p, .int .i64 l, ps, .int .i64 f, .int .i64 m, gs]
end Go.Ev.Seat
namespace Go.Ev
set_option linter.unusedVariables false
set_option linter.unusedSimpArgs false
open Go
def bit0 (f : Int) (i : Nat) : Bool := decide (f / 2 ^ i % 2 = 0)
def pairG (up : Bool) (l p : Int) (qs : List Co) : Int × Int × List Co :=
  if p = 0 then (if up then (1, l, []) else (0, 0, []))
  else if p = 1 then (if anyA qs then (2, 0, qs) else (0, 0, []))
  else if up then (3, l, qs) else if anyA qs then (3, 0, qs) else (0, 0, [])
def funG (up : Bool) (l g : Int) (ds : List Co) : Int × Int × List Co :=
  if g = 0 then (if up then (1, l, []) else (0, 0, []))
  else if g = 1 then (if anyA ds then (2, 0, ds) else (0, 0, []))
  else (0, 0, [])
def flatG (up : Bool) (l f : Int) (i : Nat) : Int := if up && bit0 f i then l else 0
def goK (up : Bool) (l : Int) (a : Bool) (f p : Int) (qs : List Co) (g : Int) (ds : List Co) : Co :=
  if up && a then zeroC else .mk (flatG up l f) (pairG up l p qs).1 (pairG up l p qs).2.1 (pairG up l p qs).2.2 (funG up l g ds).1 (funG up l g ds).2.1 (funG up l g ds).2.2
mutual
def goC : Bool → Int → Ty → Co
  | up, l, .mk a f p ps g gs => goK up l a f p (goCs up l ps) g (goFs up l gs)
def goCs : Bool → Int → List Ty → List Co
  | _, _, [] => []
  | up, l, x :: xs => goC up l x :: goCs up l xs
def goFs : Bool → Int → List Ty → List Co
  | _, _, [] => []
  | up, l, x :: xs => (if xs.length = 0 then goC up l x else goC (!up) l x) :: goFs up l xs
end
theorem goC_eq (up : Bool) (l : Int) (t : Ty) : goC up l t = goK up l t.all t.flat t.pair (goCs up l t.pairs) t.fn (goFs up l t.funs) := by cases t; rfl
theorem goCs_map (up : Bool) (l : Int) : ∀ ts : List Ty, goCs up l ts = ts.map (goC up l)
  | [] => rfl
  | x :: xs => by simp only [goCs, List.map_cons, goCs_map up l xs]
theorem goFs_len (up : Bool) (l : Int) : ∀ ts : List Ty, (goFs up l ts).length = ts.length
  | [] => rfl
  | x :: xs => by simp only [goFs, List.length_cons, goFs_len up l xs]
theorem goFs_get (up : Bool) (l : Int) : ∀ (ts : List Ty) (i : Nat) (x : Ty), ts[i]? = some x → (goFs up l ts)[i]? = some (if i + 1 = ts.length then goC up l x else goC (!up) l x)
  | [], _, _, h => by simp at h
  | y :: ys, 0, x, h => by
    simp at h; subst h
    simp only [goFs, List.getElem?_cons_zero, List.length_cons]
    by_cases h : ys.length = 0
    · rw [if_pos h, if_pos (by omega)]
    · rw [if_neg h, if_neg (by omega)]
  | y :: ys, i + 1, x, h => by
    simp only [goFs, List.getElem?_cons_succ, List.length_cons] at h ⊢
    rw [goFs_get up l ys i x h]
    congr 1
    by_cases h : i + 1 = ys.length
    · rw [if_pos h, if_pos (by omega)]
    · rw [if_neg h, if_neg (by omega)]
theorem goFs_mem (up : Bool) (l : Int) : ∀ {ts : List Ty} {c : Co}, c ∈ goFs up l ts → ∃ x, x ∈ ts ∧ ∃ u, c = goC u l x
  | x :: xs, c, h => by
    simp only [goFs, List.mem_cons] at h
    rcases h with rfl | h
    · split
      · exact ⟨x, by simp, _, rfl⟩
      · exact ⟨x, by simp, _, rfl⟩
    · obtain ⟨y, hy, u, e⟩ := goFs_mem up l h
      exact ⟨y, by simp [hy], u, e⟩
theorem lab_l {l : Int} (h : 1 ≤ l ∧ l ≤ 99) : lab l = true := by rw [lab_iff]; omega
theorem okC_zero : okC zeroC = true := by rfl
theorem pairG_ok {t : Ty} (ht : okT t = true) (up : Bool) {l : Int} (hl : 1 ≤ l ∧ l ≤ 99) (qs : List Co) (hq : qs.length = t.pairs.length) :
    lab (pairG up l t.pair qs).2.1 = true ∧ 0 ≤ (pairG up l t.pair qs).1 ∧ (pairG up l t.pair qs).1 ≤ 3 ∧ ((pairG up l t.pair qs).2.2.length : Int) = pcntC (pairG up l t.pair qs).1 ∧
      ((pairG up l t.pair qs).1 = 0 → (pairG up l t.pair qs).2.1 = 0) ∧ ((pairG up l t.pair qs).1 = 1 → (pairG up l t.pair qs).2.1 ≠ 0) ∧
      ((pairG up l t.pair qs).1 = 2 → (pairG up l t.pair qs).2.1 = 0 ∧ anyA (pairG up l t.pair qs).2.2 = true) ∧ ((pairG up l t.pair qs).1 = 3 → (pairG up l t.pair qs).2.1 ≠ 0 ∨ anyA (pairG up l t.pair qs).2.2 = true) := by
  have hf := okT_facts ht
  have hlab := lab_l hl
  rcases (show t.pair = 0 ∨ t.pair = 1 ∨ t.pair = 2 by omega) with h | h | h
  · cases up <;> simp [pairG, h, pcntC, hlab, lab] <;> omega
  · obtain ⟨x, y, e⟩ := hf.2.2.2.2.2.1 h
    rw [e] at hq
    by_cases ha : anyA qs = true
    · simp [pairG, h, ha, pcntC, hq, lab]
    · simp [pairG, h, ha, pcntC, lab]
  · obtain ⟨x, e⟩ := hf.2.2.2.2.2.2.1 h
    rw [e] at hq
    cases up
    · by_cases ha : anyA qs = true
      · simp [pairG, h, ha, pcntC, hq, lab]
      · simp [pairG, h, ha, pcntC, lab]
    · simp [pairG, h, pcntC, hq, hlab]; omega
theorem funG_ok {t : Ty} (ht : okT t = true) (up : Bool) {l : Int} (hl : 1 ≤ l ∧ l ≤ 99) (ds : List Co) (hd : ds.length = t.funs.length) :
    lab (funG up l t.fn ds).2.1 = true ∧ 0 ≤ (funG up l t.fn ds).1 ∧ (funG up l t.fn ds).1 ≤ 3 ∧
      ((funG up l t.fn ds).1 = 2 → (funG up l t.fn ds).2.2.length ≤ 9 ∧ anyA (funG up l t.fn ds).2.2 = true) ∧ ((funG up l t.fn ds).1 ≠ 2 → (funG up l t.fn ds).2.2.length = 0) ∧ ((funG up l t.fn ds).1 = 1 ↔ (funG up l t.fn ds).2.1 ≠ 0) := by
  have hf := okT_facts ht
  have hlab := lab_l hl
  rcases (show t.fn = 0 ∨ t.fn = 1 ∨ t.fn = 2 by omega) with h | h | h
  · cases up <;> simp [funG, h, hlab, lab] <;> omega
  · have := (hf.2.2.2.2.2.2.2.1 h).2
    by_cases ha : anyA ds = true
    · simp [funG, h, ha, lab]; omega
    · simp [funG, h, ha, lab]
  · simp [funG, h, lab]
theorem goC_ok {t : Ty} (ht : okT t = true) (up : Bool) {l : Int} (hl : 1 ≤ l ∧ l ≤ 99) : okC (goC up l t) = true := by
  rw [goC_eq, goK]
  split
  · exact okC_zero
  · obtain ⟨p1, p2, p3, p4, p5, p6, p7, p8⟩ := pairG_ok ht up hl (goCs up l t.pairs) (by rw [goCs_map, List.length_map])
    obtain ⟨f1, f2, f3, f4, f5, f6⟩ := funG_ok ht up hl (goFs up l t.funs) (goFs_len up l t.funs)
    rw [okC_iff]
    refine ⟨six_all fun i _ => ?_, p1, f1, p2, p3, f2, f3, p4, p5, p6, p7, p8, f4, f5, f6⟩
    show lab (flatG up l t.flat i) = true
    unfold flatG; split
    · exact lab_l hl
    · rfl
theorem y2h {d : Nat} : ∀ {l : List Co}, (∀ x, x ∈ l → rightC x d = true) → rightCs l d = true
  | [], _ => rfl
  | x :: xs, h => by simp only [rightCs, h x (by simp), y2h (l := xs) fun y hy => h y (by simp [hy]), Bool.and_self]
theorem pairG_mem {up : Bool} {l p : Int} {qs : List Co} {c : Co} (h : c ∈ (pairG up l p qs).2.2) : c ∈ qs := by
  revert h; unfold pairG
  split
  · split <;> simp
  · split
    · split <;> simp
    · split
      · simp
      · split <;> simp
theorem funG_mem {up : Bool} {l p : Int} {qs : List Co} {c : Co} (h : c ∈ (funG up l p qs).2.2) : c ∈ qs := by
  revert h; unfold funG
  split
  · split <;> simp
  · split
    · split <;> simp
    · simp
theorem goC_right {l : Int} (hl : 1 ≤ l ∧ l ≤ 99) : ∀ (d : Nat) (t : Ty) (up : Bool), rightT t d = true → rightC (goC up l t) d = true
  | 0, t, up, h => by rw [y16] at h; cases h
  | d + 1, t, up, h => by
    rw [y0a] at h
    simp only [Bool.and_eq_true] at h
    obtain ⟨⟨h1, h2⟩, h3⟩ := h
    rw [y1a, goC_ok h1 up hl, Bool.true_and]
    rw [goC_eq, goK]
    split
    · rfl
    · rw [Bool.and_eq_true]
      refine ⟨y2h fun c hc => ?_, y2h fun c hc => ?_⟩
      · have hc := pairG_mem (show c ∈ (pairG up l t.pair (goCs up l t.pairs)).2.2 from hc)
        rw [goCs_map] at hc
        obtain ⟨x, hx, rfl⟩ := List.mem_map.1 hc
        exact goC_right hl d x up (y17 h2 hx)
      · have hc := funG_mem (show c ∈ (funG up l t.fn (goFs up l t.funs)).2.2 from hc)
        obtain ⟨x, hx, u, rfl⟩ := goFs_mem up l hc
        exact goC_right hl d x u (y17 h3 hx)
theorem and_bit0 {f : Int} (h0 : 0 ≤ f) (h1 : f ≤ 63) {i : Nat} (hi : i < 6) : decide (IntKind.i64.wrap (((BitVec.ofInt IntKind.i64.bits f &&& BitVec.ofInt IntKind.i64.bits (2 ^ i)).toNat : Nat) : Int) = 0) = bit0 f i := by
  obtain ⟨k, rfl⟩ : ∃ k : Fin 64, f = (k.val : Int) := ⟨⟨f.toNat, by omega⟩, by simp; omega⟩
  have key : ∀ (k : Fin 64) (i : Fin 6), decide (IntKind.i64.wrap (((BitVec.ofInt IntKind.i64.bits (k.val : Int) &&& BitVec.ofInt IntKind.i64.bits (2 ^ i.val)).toNat : Nat) : Int) = 0) = bit0 (k.val : Int) i.val := by decide +kernel
  exact key k ⟨i, hi⟩
end Go.Ev
namespace Go.Ev.Seat
set_option linter.unusedVariables false
set_option linter.unusedSimpArgs false
open Go Go.Ev
set_option maxRecDepth 20000
attribute [local irreducible] pcall callF
theorem pairsM_c (n : Nat) (up : Bool) (lb : Int) (qs : List Co) (c0 c1 : List AVal) (g : Nat → Int) (f m : Int) (gs : AVal) (hl : qs.length < n) (hm : qs.length < 1000000) :
    callF (tabOf tabL) (n + 5) 36 [.ptr 2 0, .lst (qs.map encC) true] [.cells c0, .cells c1, .cells (fC g 0 0 (.lst [] true) f m gs)] =
      some (.ok (.tup []), [.cells c0, .cells c1, .cells (fC g (pairG up lb 1 qs).1 (pairG up lb 1 qs).2.1 (.lst ((pairG up lb 1 qs).2.2.map encC) true) f m gs)]) := by
  refine callF_fin t36 ?_
  refine WL_seq ?_
  refine WL_reg ?_
  refine O_p rfl rfl rfl ?_
  refine O_c 55 rfl rfl (callA_of rfl (some_c n qs hl hm)) ?_
  refine WO_nil ?_
  refine WL_seq ?_
  apply WLp
  · (repeat (first | exact rzz | apply rcc rfl | apply rnn rfl))
  refine WL_cond rfl (fun h5 => ?_) (fun h5 => ?_)
  · skip
    have hP : pairG up lb 1 qs = (2, 0, qs) := by
      have ha : anyA qs = true := h5
      simp [pairG, ha]
    refine WL_reg ?_
    refine O_p rfl rfl rfl ?_
    refine O_p rfl rfl rfl ?_
    refine O_p rfl rfl rfl ?_
    refine O_p rfl rfl rfl ?_
    refine O_p rfl rfl rfl ?_
    refine O_hn rfl rfl rfl rfl ?_
    refine O_p rfl rfl rfl ?_
    refine O_p rfl rfl rfl ?_
    refine O_hn rfl rfl rfl rfl ?_
    refine WO_nil ?_
    refine WL_nil ?_
    refine ⟨_, rfl, rfl, ?_⟩
    rw [hP]; rfl
  · skip
    have hP : pairG up lb 1 qs = (0, 0, []) := by
      have ha : anyA qs = false := h5
      simp [pairG, ha]
    refine WL_skip ?_
    refine WL_nil ?_
    refine ⟨_, rfl, rfl, ?_⟩
    rw [hP]; rfl
abbrev Zc : List AVal := [.int .i64 0, .int .i64 0, .int .i64 0, .int .i64 0, .int .i64 0, .int .i64 0, .int .i64 0, .int .i64 0, .lst [] true, .int .i64 0, .int .i64 0, .lst [] true]
theorem funsM_c (n : Nat) (up : Bool) (lb : Int) (ts : List Ty) (t : Ty) (A R : FuncId) (g : Nat → Int) (p q : Int) (ps : List AVal) (b : Bool) (hl : ts.length < n) (h9 : ts.length ≤ 9)
    (hA : ∀ x, x ∈ ts → pcall (tabOf tabL) (n + 5) A [vT x, .int .i64 lb] = some (.ok (vC (goC (!up) lb x)))) (hR : ∀ x, x ∈ ts → pcall (tabOf tabL) (n + 5) R [vT x, .int .i64 lb] = some (.ok (vC (goC up lb x)))) :
    callF (tabOf tabL) (n + 6) 38 [.ptr 2 0, .lst (ts.map encT) false, .fn A [], .fn R [], .int .i64 lb] [.cells (cT t), .cells Zc, .cells (fC g p q (.lst ps b) 0 0 (.lst [] true))] =
      some (.ok (.tup []), [.cells (cT t), .cells Zc, .cells (if anyA (goFs up lb ts) then fC g p q (.lst ps b) 2 0 (.gl 3 ts.length) else fC g p q (.lst ps b) 0 0 (.lst [] true)), .grow (es0 12 ts.length) ((goFs up lb ts).map encC) none]) := by
  have hL := goFs_len up lb ts
  refine callF_fin t38 ?_
  refine WL_seq ?_
  refine WL_reg ?_
  refine O_p rfl rfl rfl ?_
  refine WO_nil ?_
  refine WL_seq ?_
  apply WLp
  · (repeat (first | exact rzz | apply rcc rfl | apply rnn rfl))
  conv => arg 4; (try simp only [nrm, Nat.reduceAdd, pCT, tCT, putCells, AVal.flat])
  conv => arg 3; (try simp only [nrm, Nat.reduceAdd, pCT, tCT, putCells, AVal.flat])
  refine WL_seq ?_
  refine WL_seq ?_
  refine WL_reg ?_
  refine O_p rfl rfl rfl ?_
  refine O_h rfl rfl rfl rfl ?_
  refine O_p rfl rfl rfl ?_
  refine WO_nil ?_
  refine WL_seq ?_
  apply WLp
  · (repeat (first | exact rzz | apply rcc rfl | apply rnn rfl))
  conv => arg 4; (try simp only [nrm, Nat.reduceAdd, pCT, tCT, putCells, AVal.flat])
  conv => arg 3; (try simp only [nrm, Nat.reduceAdd, pCT, tCT, putCells, AVal.flat])
  refine WL_block ?_
  refine WL_seq ?_
  refine WL_own rfl ?_
  apply WL_forv (hc := [.cells (cT t), .cells Zc, .cells (fC g p q (.lst ps b) 0 0 (.lst [] true))]) (α := Nat) (fun i => [(10, .gl 3 i), (16, .int .i64 (i : Nat))]) (fun i => [.grow (es0 12 i) (((goFs up lb ts).take i).map encC) none]) (fun i => i ≤ ts.length) (fun i => ts.length - i) (0) (he := ?he) (hh := ?hh) (hP := ?hP) (hk := ?hk) (round := ?round)
  case he =>
    (repeat (first | exact rzz | apply rcc rfl | apply rnn rfl))
  case hh =>
    rfl
  case hP =>
    omega
  case hk =>
    show ts.length - 0 < n + 5; omega
  case round =>
    rintro i hi
    dsimp only [List.cons_append, List.nil_append] at *
    refine WL_seq ?_
    refine WL_reg ?_
    refine O_p rfl rfl rfl ?_
    refine WO_nil ?_
    refine WL_seq ?_
    apply WLp
    · (repeat (first | exact rzz | apply rcc rfl | apply rnn rfl))
    conv => arg 4; (try simp only [nrm, Nat.reduceAdd, pCT, tCT, putCells, AVal.flat])
    conv => arg 3; (try simp only [nrm, Nat.reduceAdd, pCT, tCT, putCells, AVal.flat])
    refine WL_seq ?_
    refine WL_cond rfl (fun h17 => ?_) (fun h17 => ?_)
    · skip
      simp at h17
      obtain ⟨x, hx⟩ : ∃ x, (ts)[i]? = some x := ⟨_, List.getElem?_eq_getElem (by omega)⟩
      have hmx := List.mem_of_getElem? hx
      refine WL_skip ?_
      refine WL_seq ?_
      apply WLp
      · (repeat (first | exact rzz | apply rcc rfl | apply rnn rfl))
      conv => arg 4; (try simp only [nrm, Nat.reduceAdd, pCT, tCT, putCells, AVal.flat])
      conv => arg 3; (try simp only [nrm, Nat.reduceAdd, pCT, tCT, putCells, AVal.flat])
      refine WL_seq ?_
      refine WL_block ?_
      refine WL_seq ?_
      refine WL_reg ?_
      refine O_p rfl rfl rfl ?_
      refine O_ia rfl rfl (Int.natCast_nonneg _) (encT_get (i := (i : Nat)) hx) (encT_flat _) rfl ?_
      refine O_h rfl rfl rfl rfl ?_
      refine O_n rfl rfl rfl ?_
      refine O_p rfl rfl rfl ?_
      refine O_hn rfl rfl rfl rfl ?_
      refine WO_nil ?_
      refine WL_seq ?_
      apply WLp
      · (repeat (first | exact rzz | apply rcc rfl | apply rnn rfl))
      conv => arg 4; (try simp only [nrm, Nat.reduceAdd, pCT, tCT, putCells, AVal.flat])
      conv => arg 3; (try simp only [nrm, Nat.reduceAdd, pCT, tCT, putCells, AVal.flat])
      refine WL_seq ?_
      refine WL_reg ?_
      refine O_p rfl rfl rfl ?_
      refine O_p rfl rfl rfl ?_
      refine WO_nil ?_
      refine WL_seq ?_
      apply WLp
      · (repeat (first | exact rzz | apply rcc rfl | apply rnn rfl))
      conv => arg 4; (try simp only [nrm, Nat.reduceAdd, pCT, tCT, putCells, AVal.flat])
      conv => arg 3; (try simp only [nrm, Nat.reduceAdd, pCT, tCT, putCells, AVal.flat])
      refine WL_seq ?_
      refine WL_seq ?_
      refine WL_reg ?_
      refine O_p rfl rfl rfl ?_
      refine O_p rfl rfl rfl ?_
      refine O_h rfl rfl rfl rfl ?_
      refine O_p rfl rfl rfl ?_
      refine O_p rfl rfl rfl ?_
      refine WO_nil ?_
      refine WL_seq ?_
      apply WLp
      · (repeat (first | exact rzz | apply rcc rfl | apply rnn rfl))
      conv => arg 4; (try simp only [nrm, Nat.reduceAdd, pCT, tCT, putCells, AVal.flat])
      conv => arg 3; (try simp only [nrm, Nat.reduceAdd, pCT, tCT, putCells, AVal.flat])
      refine WL_cond rfl (fun h26 => ?_) (fun h26 => ?_)
      · skip
        have hlst : i + 1 = ts.length := by
          simp at h26; rw [kw_i64_id (by omega) (by omega)] at h26; omega
        obtain ⟨z, hzd⟩ : ∃ z, z = goC up lb x := ⟨_, rfl⟩
        have hz : (goFs up lb ts)[i]? = some z := by rw [goFs_get _ _ _ i x hx, if_pos hlst, hzd]
        have hcall := hR x hmx
        rw [← hzd] at hcall
        refine WL_reg ?_
        refine O_p rfl rfl rfl ?_
        refine O_p rfl rfl rfl ?_
        refine WO_nil ?_
        refine WL_seq ?_
        apply WLp
        · (repeat (first | exact rzz | apply rcc rfl | apply rnn rfl))
        conv => arg 4; (try simp only [nrm, Nat.reduceAdd, pCT, tCT, putCells, AVal.flat])
        conv => arg 3; (try simp only [nrm, Nat.reduceAdd, pCT, tCT, putCells, AVal.flat])
        refine WL_reg ?_
        refine O_p rfl rfl rfl ?_
        refine O_p rfl rfl rfl ?_
        refine O_h rfl rfl rfl rfl ?_
        refine O_p rfl rfl rfl ?_
        refine O_cv rfl rfl (callA_of rfl hcall) ?_
        refine O_h rfl rfl rfl rfl ?_
        refine O_push (y := vC z) rfl rfl rfl (by simp; omega) (es0_or 12 i) (encC_w _) rfl (by omega)  (y1c hz).symm rfl ?_
        refine O_p rfl rfl rfl ?_
        refine WO_nil ?_
        refine WL_nil ?_
        refine Blk_norm (?_ : WL _ _ _ _ _)
        refine WL_seq ?_
        apply WLp
        · (repeat (first | exact rzz | apply rcc rfl | apply rnn rfl))
        conv => arg 4; (try simp only [nrm, Nat.reduceAdd, pCT, tCT, putCells, AVal.flat])
        conv => arg 3; (try simp only [nrm, Nat.reduceAdd, pCT, tCT, putCells, AVal.flat])
        refine WL_reg ?_
        refine O_p rfl rfl rfl ?_
        refine O_p rfl rfl rfl ?_
        refine WO_nil ?_
        refine WL_nil ?_
        refine RndV_norm (i + 1) (by omega) (by show _ < _; omega) ?_ rfl
        · rw [wrap_succ (by omega)]; (repeat (first | exact rzz | apply rcc rfl | apply rnn rfl))
      · skip
        have hlst : ¬ i + 1 = ts.length := by
          simp at h26; rw [kw_i64_id (by omega) (by omega)] at h26; omega
        obtain ⟨z, hzd⟩ : ∃ z, z = goC (!up) lb x := ⟨_, rfl⟩
        have hz : (goFs up lb ts)[i]? = some z := by rw [goFs_get _ _ _ i x hx, if_neg hlst, hzd]
        have hcall := hA x hmx
        rw [← hzd] at hcall
        refine WL_skip ?_
        refine WL_seq ?_
        apply WLp
        · (repeat (first | exact rzz | apply rcc rfl | apply rnn rfl))
        conv => arg 4; (try simp only [nrm, Nat.reduceAdd, pCT, tCT, putCells, AVal.flat])
        conv => arg 3; (try simp only [nrm, Nat.reduceAdd, pCT, tCT, putCells, AVal.flat])
        refine WL_reg ?_
        refine O_p rfl rfl rfl ?_
        refine O_p rfl rfl rfl ?_
        refine O_h rfl rfl rfl rfl ?_
        refine O_p rfl rfl rfl ?_
        refine O_cv rfl rfl (callA_of rfl hcall) ?_
        refine O_h rfl rfl rfl rfl ?_
        refine O_push (y := vC z) rfl rfl rfl (by simp; omega) (es0_or 12 i) (encC_w _) rfl (by omega)  (y1c hz).symm rfl ?_
        refine O_p rfl rfl rfl ?_
        refine WO_nil ?_
        refine WL_nil ?_
        refine Blk_norm (?_ : WL _ _ _ _ _)
        refine WL_seq ?_
        apply WLp
        · (repeat (first | exact rzz | apply rcc rfl | apply rnn rfl))
        conv => arg 4; (try simp only [nrm, Nat.reduceAdd, pCT, tCT, putCells, AVal.flat])
        conv => arg 3; (try simp only [nrm, Nat.reduceAdd, pCT, tCT, putCells, AVal.flat])
        refine WL_reg ?_
        refine O_p rfl rfl rfl ?_
        refine O_p rfl rfl rfl ?_
        refine WO_nil ?_
        refine WL_nil ?_
        refine RndV_norm (i + 1) (by omega) (by show _ < _; omega) ?_ rfl
        · rw [wrap_succ (by omega)]; (repeat (first | exact rzz | apply rcc rfl | apply rnn rfl))
    · skip
      simp at h17
      obtain rfl : i = ts.length := by omega
      rw [← hL, List.take_length, hL]
      refine WL_exit ?_
      refine RndV_exit ?_
      refine Blk_exit (?_ : WL _ _ _ _ _)
      refine WL_seq ?_
      apply WLp
      · (repeat (first | exact rzz | apply rcc rfl | apply rnn rfl))
      conv => arg 4; (try simp only [nrm, Nat.reduceAdd, pCT, tCT, putCells, AVal.flat])
      conv => arg 3; (try simp only [nrm, Nat.reduceAdd, pCT, tCT, putCells, AVal.flat])
      refine WL_seq ?_
      refine WL_reg ?_
      refine O_p rfl rfl rfl ?_
      refine O_c 55 rfl rfl (callA_of (as := [.lst ((goFs up lb ts).map encC) false, .fn 37 []]) (by simp [shutL, shutV, growAt, hL]) (some_c (n + 1) (goFs up lb ts) (by omega) (by omega))) ?_
      refine WO_nil ?_
      refine WL_seq ?_
      apply WLp
      · (repeat (first | exact rzz | apply rcc rfl | apply rnn rfl))
      conv => arg 4; (try simp only [nrm, Nat.reduceAdd, pCT, tCT, putCells, AVal.flat])
      conv => arg 3; (try simp only [nrm, Nat.reduceAdd, pCT, tCT, putCells, AVal.flat])
      refine WL_cond rfl (fun h37 => ?_) (fun h37 => ?_)
      · skip
        replace h37 : anyA (goFs up lb ts) = true := h37
        refine WL_reg ?_
        refine O_p rfl rfl rfl ?_
        refine O_p rfl rfl rfl ?_
        refine O_p rfl rfl rfl ?_
        refine O_p rfl rfl rfl ?_
        refine O_p rfl rfl rfl ?_
        refine O_hn rfl rfl rfl rfl ?_
        refine O_p rfl rfl rfl ?_
        refine O_p rfl rfl rfl ?_
        refine O_hn rfl rfl rfl rfl ?_
        refine WO_nil ?_
        refine WL_nil ?_
        refine ⟨_, rfl, rfl, ?_⟩
        simp only [h37, if_true, Bool.false_eq_true, if_false]; first | done | rfl
      · skip
        replace h37 : anyA (goFs up lb ts) = false := h37
        refine WL_skip ?_
        refine WL_nil ?_
        refine ⟨_, rfl, rfl, ?_⟩
        simp only [h37, if_true, Bool.false_eq_true, if_false]; first | done | rfl
theorem funsA (n m : Nat) (up : Bool) (lb : Int) (ts : List Ty) (t : Ty) (A R : FuncId) (g : Nat → Int) (p q : Int) (ps : List AVal) (b : Bool) (hl : ts.length < n) (h9 : ts.length ≤ 9)
    (hA : ∀ x, x ∈ ts → pcall (tabOf tabL) (n + 5) A [vT x, .int .i64 lb] = some (.ok (vC (goC (!up) lb x)))) (hR : ∀ x, x ∈ ts → pcall (tabOf tabL) (n + 5) R [vT x, .int .i64 lb] = some (.ok (vC (goC up lb x)))) :
    (anyA (goFs up lb ts) = true ∧ callA ⟨callF (tabOf tabL) (n + 6), m⟩ false 38 [.ptr 2 0, .lst (ts.map encT) false, .fn A [], .fn R [], .int .i64 lb] [.cells (cT t), .cells Zc, .cells (fC g p q (.lst ps b) 0 0 (.lst [] true))] =
      some (.ok (.tup []), [.cells (cT t), .cells Zc, .cells (fC g p q (.lst ps b) 2 0 (.gl 3 ts.length)), .grow (es0 12 ts.length) ((goFs up lb ts).map encC) none])) ∨
    (anyA (goFs up lb ts) = false ∧ callA ⟨callF (tabOf tabL) (n + 6), m⟩ false 38 [.ptr 2 0, .lst (ts.map encT) false, .fn A [], .fn R [], .int .i64 lb] [.cells (cT t), .cells Zc, .cells (fC g p q (.lst ps b) 0 0 (.lst [] true))] =
      some (.ok (.tup []), [.cells (cT t), .cells Zc, .cells (fC g p q (.lst ps b) 0 0 (.lst [] true))])) := by
  have h := funsM_c n up lb ts t A R g p q ps b hl h9 hA hR
  cases ha : anyA (goFs up lb ts) with
  | true => rw [ha] at h; exact .inl ⟨rfl, callA_nr rfl h rfl⟩
  | false => rw [ha] at h; exact .inr ⟨rfl, callA_hc rfl h (by simp) rfl rfl rfl⟩
theorem funsM1_c (n : Nat) (up : Bool) (lb : Int) (ts : List Ty) (t : Ty) (A R : FuncId) (g : Nat → Int) (p q : Int) (ps : List AVal) (b : Bool) (x6 : Co) (hl : ts.length < n) (h9 : ts.length ≤ 9)
    (hA : ∀ x, x ∈ ts → pcall (tabOf tabL) (n + 5) A [vT x, .int .i64 lb] = some (.ok (vC (goC (!up) lb x)))) (hR : ∀ x, x ∈ ts → pcall (tabOf tabL) (n + 5) R [vT x, .int .i64 lb] = some (.ok (vC (goC up lb x)))) :
    callF (tabOf tabL) (n + 6) 38 [.ptr 2 0, .lst (ts.map encT) false, .fn A [], .fn R [], .int .i64 lb] [.cells (cT t), .cells Zc, .cells (fC g p q (.lst ps b) 0 0 (.lst [] true)), .cells (cC x6)] =
      some (.ok (.tup []), [.cells (cT t), .cells Zc, .cells (if anyA (goFs up lb ts) then fC g p q (.lst ps b) 2 0 (.gl 4 ts.length) else fC g p q (.lst ps b) 0 0 (.lst [] true)), .cells (cC x6), .grow (es0 12 ts.length) ((goFs up lb ts).map encC) none]) := by
  have hL := goFs_len up lb ts
  refine callF_fin t38 ?_
  refine WL_seq ?_
  refine WL_reg ?_
  refine O_p rfl rfl rfl ?_
  refine WO_nil ?_
  refine WL_seq ?_
  apply WLp
  · (repeat (first | exact rzz | apply rcc rfl | apply rnn rfl))
  conv => arg 4; (try simp only [nrm, Nat.reduceAdd, pCT, tCT, putCells, AVal.flat])
  conv => arg 3; (try simp only [nrm, Nat.reduceAdd, pCT, tCT, putCells, AVal.flat])
  refine WL_seq ?_
  refine WL_seq ?_
  refine WL_reg ?_
  refine O_p rfl rfl rfl ?_
  refine O_h rfl rfl rfl rfl ?_
  refine O_p rfl rfl rfl ?_
  refine WO_nil ?_
  refine WL_seq ?_
  apply WLp
  · (repeat (first | exact rzz | apply rcc rfl | apply rnn rfl))
  conv => arg 4; (try simp only [nrm, Nat.reduceAdd, pCT, tCT, putCells, AVal.flat])
  conv => arg 3; (try simp only [nrm, Nat.reduceAdd, pCT, tCT, putCells, AVal.flat])
  refine WL_block ?_
  refine WL_seq ?_
  refine WL_own rfl ?_
  apply WL_forv (hc := [.cells (cT t), .cells Zc, .cells (fC g p q (.lst ps b) 0 0 (.lst [] true)), .cells (cC x6)]) (α := Nat) (fun i => [(10, .gl 4 i), (16, .int .i64 (i : Nat))]) (fun i => [.grow (es0 12 i) (((goFs up lb ts).take i).map encC) none]) (fun i => i ≤ ts.length) (fun i => ts.length - i) (0) (he := ?he) (hh := ?hh) (hP := ?hP) (hk := ?hk) (round := ?round)
  case he =>
    (repeat (first | exact rzz | apply rcc rfl | apply rnn rfl))
  case hh =>
    rfl
  case hP =>
    omega
  case hk =>
    show ts.length - 0 < n + 5; omega
  case round =>
    rintro i hi
    dsimp only [List.cons_append, List.nil_append] at *
    refine WL_seq ?_
    refine WL_reg ?_
    refine O_p rfl rfl rfl ?_
    refine WO_nil ?_
    refine WL_seq ?_
    apply WLp
    · (repeat (first | exact rzz | apply rcc rfl | apply rnn rfl))
    conv => arg 4; (try simp only [nrm, Nat.reduceAdd, pCT, tCT, putCells, AVal.flat])
    conv => arg 3; (try simp only [nrm, Nat.reduceAdd, pCT, tCT, putCells, AVal.flat])
    refine WL_seq ?_
    refine WL_cond rfl (fun h17 => ?_) (fun h17 => ?_)
    · skip
      simp at h17
      obtain ⟨x, hx⟩ : ∃ x, (ts)[i]? = some x := ⟨_, List.getElem?_eq_getElem (by omega)⟩
      have hmx := List.mem_of_getElem? hx
      refine WL_skip ?_
      refine WL_seq ?_
      apply WLp
      · (repeat (first | exact rzz | apply rcc rfl | apply rnn rfl))
      conv => arg 4; (try simp only [nrm, Nat.reduceAdd, pCT, tCT, putCells, AVal.flat])
      conv => arg 3; (try simp only [nrm, Nat.reduceAdd, pCT, tCT, putCells, AVal.flat])
      refine WL_seq ?_
      refine WL_block ?_
      refine WL_seq ?_
      refine WL_reg ?_
      refine O_p rfl rfl rfl ?_
      refine O_ia rfl rfl (Int.natCast_nonneg _) (encT_get (i := (i : Nat)) hx) (encT_flat _) rfl ?_
      refine O_h rfl rfl rfl rfl ?_
      refine O_n rfl rfl rfl ?_
      refine O_p rfl rfl rfl ?_
      refine O_hn rfl rfl rfl rfl ?_
      refine WO_nil ?_
      refine WL_seq ?_
      apply WLp
      · (repeat (first | exact rzz | apply rcc rfl | apply rnn rfl))
      conv => arg 4; (try simp only [nrm, Nat.reduceAdd, pCT, tCT, putCells, AVal.flat])
      conv => arg 3; (try simp only [nrm, Nat.reduceAdd, pCT, tCT, putCells, AVal.flat])
      refine WL_seq ?_
      refine WL_reg ?_
      refine O_p rfl rfl rfl ?_
      refine O_p rfl rfl rfl ?_
      refine WO_nil ?_
      refine WL_seq ?_
      apply WLp
      · (repeat (first | exact rzz | apply rcc rfl | apply rnn rfl))
      conv => arg 4; (try simp only [nrm, Nat.reduceAdd, pCT, tCT, putCells, AVal.flat])
      conv => arg 3; (try simp only [nrm, Nat.reduceAdd, pCT, tCT, putCells, AVal.flat])
      refine WL_seq ?_
      refine WL_seq ?_
      refine WL_reg ?_
      refine O_p rfl rfl rfl ?_
      refine O_p rfl rfl rfl ?_
      refine O_h rfl rfl rfl rfl ?_
      refine O_p rfl rfl rfl ?_
      refine O_p rfl rfl rfl ?_
      refine WO_nil ?_
      refine WL_seq ?_
      apply WLp
      · (repeat (first | exact rzz | apply rcc rfl | apply rnn rfl))
      conv => arg 4; (try simp only [nrm, Nat.reduceAdd, pCT, tCT, putCells, AVal.flat])
      conv => arg 3; (try simp only [nrm, Nat.reduceAdd, pCT, tCT, putCells, AVal.flat])
      refine WL_cond rfl (fun h26 => ?_) (fun h26 => ?_)
      · skip
        have hlst : i + 1 = ts.length := by
          simp at h26; rw [kw_i64_id (by omega) (by omega)] at h26; omega
        obtain ⟨z, hzd⟩ : ∃ z, z = goC up lb x := ⟨_, rfl⟩
        have hz : (goFs up lb ts)[i]? = some z := by rw [goFs_get _ _ _ i x hx, if_pos hlst, hzd]
        have hcall := hR x hmx
        rw [← hzd] at hcall
        refine WL_reg ?_
        refine O_p rfl rfl rfl ?_
        refine O_p rfl rfl rfl ?_
        refine WO_nil ?_
        refine WL_seq ?_
        apply WLp
        · (repeat (first | exact rzz | apply rcc rfl | apply rnn rfl))
        conv => arg 4; (try simp only [nrm, Nat.reduceAdd, pCT, tCT, putCells, AVal.flat])
        conv => arg 3; (try simp only [nrm, Nat.reduceAdd, pCT, tCT, putCells, AVal.flat])
        refine WL_reg ?_
        refine O_p rfl rfl rfl ?_
        refine O_p rfl rfl rfl ?_
        refine O_h rfl rfl rfl rfl ?_
        refine O_p rfl rfl rfl ?_
        refine O_cv rfl rfl (callA_of rfl hcall) ?_
        refine O_h rfl rfl rfl rfl ?_
        refine O_push (y := vC z) rfl rfl rfl (by simp; omega) (es0_or 12 i) (encC_w _) rfl (by omega)  (y1c hz).symm rfl ?_
        refine O_p rfl rfl rfl ?_
        refine WO_nil ?_
        refine WL_nil ?_
        refine Blk_norm (?_ : WL _ _ _ _ _)
        refine WL_seq ?_
        apply WLp
        · (repeat (first | exact rzz | apply rcc rfl | apply rnn rfl))
        conv => arg 4; (try simp only [nrm, Nat.reduceAdd, pCT, tCT, putCells, AVal.flat])
        conv => arg 3; (try simp only [nrm, Nat.reduceAdd, pCT, tCT, putCells, AVal.flat])
        refine WL_reg ?_
        refine O_p rfl rfl rfl ?_
        refine O_p rfl rfl rfl ?_
        refine WO_nil ?_
        refine WL_nil ?_
        refine RndV_norm (i + 1) (by omega) (by show _ < _; omega) ?_ rfl
        · rw [wrap_succ (by omega)]; (repeat (first | exact rzz | apply rcc rfl | apply rnn rfl))
      · skip
        have hlst : ¬ i + 1 = ts.length := by
          simp at h26; rw [kw_i64_id (by omega) (by omega)] at h26; omega
        obtain ⟨z, hzd⟩ : ∃ z, z = goC (!up) lb x := ⟨_, rfl⟩
        have hz : (goFs up lb ts)[i]? = some z := by rw [goFs_get _ _ _ i x hx, if_neg hlst, hzd]
        have hcall := hA x hmx
        rw [← hzd] at hcall
        refine WL_skip ?_
        refine WL_seq ?_
        apply WLp
        · (repeat (first | exact rzz | apply rcc rfl | apply rnn rfl))
        conv => arg 4; (try simp only [nrm, Nat.reduceAdd, pCT, tCT, putCells, AVal.flat])
        conv => arg 3; (try simp only [nrm, Nat.reduceAdd, pCT, tCT, putCells, AVal.flat])
        refine WL_reg ?_
        refine O_p rfl rfl rfl ?_
        refine O_p rfl rfl rfl ?_
        refine O_h rfl rfl rfl rfl ?_
        refine O_p rfl rfl rfl ?_
        refine O_cv rfl rfl (callA_of rfl hcall) ?_
        refine O_h rfl rfl rfl rfl ?_
        refine O_push (y := vC z) rfl rfl rfl (by simp; omega) (es0_or 12 i) (encC_w _) rfl (by omega)  (y1c hz).symm rfl ?_
        refine O_p rfl rfl rfl ?_
        refine WO_nil ?_
        refine WL_nil ?_
        refine Blk_norm (?_ : WL _ _ _ _ _)
        refine WL_seq ?_
        apply WLp
        · (repeat (first | exact rzz | apply rcc rfl | apply rnn rfl))
        conv => arg 4; (try simp only [nrm, Nat.reduceAdd, pCT, tCT, putCells, AVal.flat])
        conv => arg 3; (try simp only [nrm, Nat.reduceAdd, pCT, tCT, putCells, AVal.flat])
        refine WL_reg ?_
        refine O_p rfl rfl rfl ?_
        refine O_p rfl rfl rfl ?_
        refine WO_nil ?_
        refine WL_nil ?_
        refine RndV_norm (i + 1) (by omega) (by show _ < _; omega) ?_ rfl
        · rw [wrap_succ (by omega)]; (repeat (first | exact rzz | apply rcc rfl | apply rnn rfl))
    · skip
      simp at h17
      obtain rfl : i = ts.length := by omega
      rw [← hL, List.take_length, hL]
      refine WL_exit ?_
      refine RndV_exit ?_
      refine Blk_exit (?_ : WL _ _ _ _ _)
      refine WL_seq ?_
      apply WLp
      · (repeat (first | exact rzz | apply rcc rfl | apply rnn rfl))
      conv => arg 4; (try simp only [nrm, Nat.reduceAdd, pCT, tCT, putCells, AVal.flat])
      conv => arg 3; (try simp only [nrm, Nat.reduceAdd, pCT, tCT, putCells, AVal.flat])
      refine WL_seq ?_
      refine WL_reg ?_
      refine O_p rfl rfl rfl ?_
      refine O_c 55 rfl rfl (callA_of (as := [.lst ((goFs up lb ts).map encC) false, .fn 37 []]) (by simp [shutL, shutV, growAt, hL]) (some_c (n + 1) (goFs up lb ts) (by omega) (by omega))) ?_
      refine WO_nil ?_
      refine WL_seq ?_
      apply WLp
      · (repeat (first | exact rzz | apply rcc rfl | apply rnn rfl))
      conv => arg 4; (try simp only [nrm, Nat.reduceAdd, pCT, tCT, putCells, AVal.flat])
      conv => arg 3; (try simp only [nrm, Nat.reduceAdd, pCT, tCT, putCells, AVal.flat])
      refine WL_cond rfl (fun h37 => ?_) (fun h37 => ?_)
      · skip
        replace h37 : anyA (goFs up lb ts) = true := h37
        refine WL_reg ?_
        refine O_p rfl rfl rfl ?_
        refine O_p rfl rfl rfl ?_
        refine O_p rfl rfl rfl ?_
        refine O_p rfl rfl rfl ?_
        refine O_p rfl rfl rfl ?_
        refine O_hn rfl rfl rfl rfl ?_
        refine O_p rfl rfl rfl ?_
        refine O_p rfl rfl rfl ?_
        refine O_hn rfl rfl rfl rfl ?_
        refine WO_nil ?_
        refine WL_nil ?_
        refine ⟨_, rfl, rfl, ?_⟩
        simp only [h37, if_true, Bool.false_eq_true, if_false]; first | done | rfl
      · skip
        replace h37 : anyA (goFs up lb ts) = false := h37
        refine WL_skip ?_
        refine WL_nil ?_
        refine ⟨_, rfl, rfl, ?_⟩
        simp only [h37, if_true, Bool.false_eq_true, if_false]; first | done | rfl
theorem funsA1 (n m : Nat) (up : Bool) (lb : Int) (ts : List Ty) (t : Ty) (A R : FuncId) (g : Nat → Int) (p q : Int) (ps : List AVal) (b : Bool) (x6 : Co) (hl : ts.length < n) (h9 : ts.length ≤ 9)
    (hA : ∀ x, x ∈ ts → pcall (tabOf tabL) (n + 5) A [vT x, .int .i64 lb] = some (.ok (vC (goC (!up) lb x)))) (hR : ∀ x, x ∈ ts → pcall (tabOf tabL) (n + 5) R [vT x, .int .i64 lb] = some (.ok (vC (goC up lb x)))) :
    (anyA (goFs up lb ts) = true ∧ callA ⟨callF (tabOf tabL) (n + 6), m⟩ false 38 [.ptr 2 0, .lst (ts.map encT) false, .fn A [], .fn R [], .int .i64 lb] [.cells (cT t), .cells Zc, .cells (fC g p q (.lst ps b) 0 0 (.lst [] true)), .cells (cC x6)] =
      some (.ok (.tup []), [.cells (cT t), .cells Zc, .cells (fC g p q (.lst ps b) 2 0 (.gl 4 ts.length)), .cells (cC x6), .grow (es0 12 ts.length) ((goFs up lb ts).map encC) none])) ∨
    (anyA (goFs up lb ts) = false ∧ callA ⟨callF (tabOf tabL) (n + 6), m⟩ false 38 [.ptr 2 0, .lst (ts.map encT) false, .fn A [], .fn R [], .int .i64 lb] [.cells (cT t), .cells Zc, .cells (fC g p q (.lst ps b) 0 0 (.lst [] true)), .cells (cC x6)] =
      some (.ok (.tup []), [.cells (cT t), .cells Zc, .cells (fC g p q (.lst ps b) 0 0 (.lst [] true)), .cells (cC x6)])) := by
  have h := funsM1_c n up lb ts t A R g p q ps b x6 hl h9 hA hR
  cases ha : anyA (goFs up lb ts) with
  | true => rw [ha] at h; exact .inl ⟨rfl, callA_nr rfl h rfl⟩
  | false => rw [ha] at h; exact .inr ⟨rfl, callA_hc rfl h (by simp) rfl rfl rfl⟩
theorem funsB (n m : Nat) (up : Bool) (lb : Int) (ts : List Ty) (t : Ty) (A R : FuncId) (g : Nat → Int) (p q : Int) (ps : List AVal) (b : Bool) (hl : ts.length < n) (h9 : ts.length ≤ 9)
    (hA : ∀ x, x ∈ ts → pcall (tabOf tabL) (n + 5) A [vT x, .int .i64 lb] = some (.ok (vC (goC (!up) lb x)))) (hR : ∀ x, x ∈ ts → pcall (tabOf tabL) (n + 5) R [vT x, .int .i64 lb] = some (.ok (vC (goC up lb x)))) (rest : Heap) (hrest : rest = [] ∨ ∃ x, rest = [.cells (cC x)]) :
    (rest = [] ∧ anyA (goFs up lb ts) = true ∧ callA ⟨callF (tabOf tabL) (n + 6), m⟩ false 38 [.ptr 2 0, .lst (ts.map encT) false, .fn A [], .fn R [], .int .i64 lb] [.cells (cT t), .cells Zc, .cells (fC g p q (.lst ps b) 0 0 (.lst [] true))] =
      some (.ok (.tup []), [.cells (cT t), .cells Zc, .cells (fC g p q (.lst ps b) 2 0 (.gl 3 ts.length)), .grow (es0 12 ts.length) ((goFs up lb ts).map encC) none])) ∨
    (rest = [] ∧ anyA (goFs up lb ts) = false ∧ callA ⟨callF (tabOf tabL) (n + 6), m⟩ false 38 [.ptr 2 0, .lst (ts.map encT) false, .fn A [], .fn R [], .int .i64 lb] [.cells (cT t), .cells Zc, .cells (fC g p q (.lst ps b) 0 0 (.lst [] true))] =
      some (.ok (.tup []), [.cells (cT t), .cells Zc, .cells (fC g p q (.lst ps b) 0 0 (.lst [] true))])) ∨
    (∃ x6, rest = [.cells (cC x6)] ∧ anyA (goFs up lb ts) = true ∧ callA ⟨callF (tabOf tabL) (n + 6), m⟩ false 38 [.ptr 2 0, .lst (ts.map encT) false, .fn A [], .fn R [], .int .i64 lb] [.cells (cT t), .cells Zc, .cells (fC g p q (.lst ps b) 0 0 (.lst [] true)), .cells (cC x6)] =
      some (.ok (.tup []), [.cells (cT t), .cells Zc, .cells (fC g p q (.lst ps b) 2 0 (.gl 4 ts.length)), .cells (cC x6), .grow (es0 12 ts.length) ((goFs up lb ts).map encC) none])) ∨
    (∃ x6, rest = [.cells (cC x6)] ∧ anyA (goFs up lb ts) = false ∧ callA ⟨callF (tabOf tabL) (n + 6), m⟩ false 38 [.ptr 2 0, .lst (ts.map encT) false, .fn A [], .fn R [], .int .i64 lb] [.cells (cT t), .cells Zc, .cells (fC g p q (.lst ps b) 0 0 (.lst [] true)), .cells (cC x6)] =
      some (.ok (.tup []), [.cells (cT t), .cells Zc, .cells (fC g p q (.lst ps b) 0 0 (.lst [] true)), .cells (cC x6)])) := by
  rcases hrest with rfl | ⟨x6, rfl⟩
  · rcases funsA n m up lb ts t A R g p q ps b hl h9 hA hR with ⟨ha, h⟩ | ⟨ha, h⟩
    · exact .inl ⟨rfl, ha, h⟩
    · exact .inr (.inl ⟨rfl, ha, h⟩)
  · rcases funsA1 n m up lb ts t A R g p q ps b x6 hl h9 hA hR with ⟨ha, h⟩ | ⟨ha, h⟩
    · exact .inr (.inr (.inl ⟨x6, rfl, ha, h⟩))
    · exact .inr (.inr (.inr ⟨x6, rfl, ha, h⟩))
def gT (lb f : Int) (i j : Nat) : Int := if j < i then flatG true lb f j else 0
theorem gT_set {lb f : Int} {i : Nat} (h : i < 6) (hb : bit0 f i = true) {p l : Int} {ps : AVal} {g m : Int} {gs : AVal} : (fC (gT lb f i) p l ps g m gs).set (0 + i * 1) (.int .i64 lb) = fC (gT lb f (i + 1)) p l ps g m gs := by
  have e : flatG true lb f i = lb := by simp [flatG, hb]
  have h2 : (fC (gT lb f i) p l ps g m gs).set (0 + i * 1) (.int .i64 (flatG true lb f i)) = fC (gT lb f (i + 1)) p l ps g m gs := by
    clear e
    obtain rfl | rfl | rfl | rfl | rfl | rfl : i = 0 ∨ i = 1 ∨ i = 2 ∨ i = 3 ∨ i = 4 ∨ i = 5 := by omega
    all_goals rfl
  rw [e] at h2
  exact h2
theorem gT_skip {lb f : Int} {i : Nat} (hb : bit0 f i = false) : gT lb f (i + 1) = gT lb f i := by
  have e : flatG true lb f i = 0 := by simp [flatG, hb]
  funext j
  unfold gT
  by_cases h1 : j < i
  · rw [if_pos h1, if_pos (by omega)]
  · rw [if_neg h1]
    by_cases h2 : j = i
    · rw [h2, if_pos (by omega), e]
    · rw [if_neg (by omega)]
theorem gT_six (lb f : Int) : fC (gT lb f 6) = fC (flatG true lb f) := by funext p l ps g m gs; rfl
set_option maxHeartbeats 1000000 in
theorem toS_c (n : Nat) (t : Ty) (lb : Int) (rt : Rt t) (hn : szT t + 30 < n)
    (ihT : ∀ x, Rt x → szT x < szT t → ∀ k, n ≤ k + 3 → pcall (tabOf tabL) k 20 [vT x, .int .i64 lb] = some (.ok (vC (goC true lb x))))
    (ihF : ∀ x, Rt x → szT x < szT t → ∀ k, n ≤ k + 3 → pcall (tabOf tabL) k 18 [vT x, .int .i64 lb] = some (.ok (vC (goC false lb x)))) :
    pcall (tabOf tabL) (n + 1) 20 [vT t, .int .i64 lb] = some (.ok (vC (goC true lb t))) := by
  have hf := okT_facts rt.ok
  have hlp := len_pairs t
  have hlf := len_funs t
  obtain ⟨n, rfl⟩ : ∃ m, n = m + 10 := ⟨n - 10, by omega⟩
  have ev : t.all = false → vC (goC true lb t) = .agg (fC (flatG true lb t.flat) (pairG true lb t.pair (goCs true lb t.pairs)).1 (pairG true lb t.pair (goCs true lb t.pairs)).2.1 (.lst ((pairG true lb t.pair (goCs true lb t.pairs)).2.2.map encC) false) (funG true lb t.fn (goFs true lb t.funs)).1 (funG true lb t.fn (goFs true lb t.funs)).2.1 (.lst ((funG true lb t.fn (goFs true lb t.funs)).2.2.map encC) false)) := by
    intro h; rw [goC_eq]; simp only [goK, h, Bool.and_false, Bool.false_eq_true, if_false]; rfl
  have ef := goC_eq true lb t
  refine pcall_fin t20 ?_
  refine WL_seq ?_
  refine WL_reg ?_
  refine O_n rfl rfl rfl ?_
  refine O_n rfl rfl rfl ?_
  refine WO_nil ?_
  refine WL_seq ?_
  apply WLp
  · (repeat (first | exact rzz | apply rcc rfl | apply rnn rfl))
  conv => arg 4; (try simp only [nrm, Nat.reduceAdd, pCT, tCT, putCells, AVal.flat])
  conv => arg 3; (try simp only [nrm, Nat.reduceAdd, pCT, tCT, putCells, AVal.flat])
  refine WL_seq ?_
  refine WL_reg ?_
  refine O_n rfl rfl rfl ?_
  refine WO_nil ?_
  refine WL_seq ?_
  apply WLp
  · (repeat (first | exact rzz | apply rcc rfl | apply rnn rfl))
  conv => arg 4; (try simp only [nrm, Nat.reduceAdd, pCT, tCT, putCells, AVal.flat])
  conv => arg 3; (try simp only [nrm, Nat.reduceAdd, pCT, tCT, putCells, AVal.flat])
  refine WL_seq ?_
  refine WL_seq ?_
  refine WL_reg ?_
  refine O_p rfl rfl rfl ?_
  refine O_h rfl rfl rfl rfl ?_
  refine WO_nil ?_
  refine WL_seq ?_
  apply WLp
  · (repeat (first | exact rzz | apply rcc rfl | apply rnn rfl))
  conv => arg 4; (try simp only [nrm, Nat.reduceAdd, pCT, tCT, putCells, AVal.flat])
  conv => arg 3; (try simp only [nrm, Nat.reduceAdd, pCT, tCT, putCells, AVal.flat])
  refine WL_cond rfl (fun h8 => ?_) (fun h8 => ?_)
  · skip
    replace h8 : t.all = true := h8
    have ha0 : goC true lb t = zeroC := by rw [ef]; simp [goK, h8]
    refine WL_seq ?_
    refine WL_reg ?_
    refine O_h rfl rfl rfl rfl ?_
    refine O_hn rfl rfl rfl rfl ?_
    refine WO_nil ?_
    refine WL_ret ?_
    first | exact ⟨_, rfl, vC zeroC, rfl, by rw [ha0]⟩ | (refine ⟨_, rfl, vC (goC true lb t), ?_, rfl⟩; rw [ev h8, hG]; rfl) | (refine ⟨_, rfl, vC (goC true lb t), ?_, rfl⟩; rw [ev h8, show funG true lb t.fn (goFs true lb t.funs) = (0, 0, []) by rw [h65]; simp [funG, ha]]; rfl) | (refine ⟨_, rfl, vC (goC true lb t), ?_, rfl⟩; rw [ev h8, show funG true lb t.fn (goFs true lb t.funs) = (2, 0, goFs true lb t.funs) by rw [h65]; simp [funG, ha]]; show shutR _ (.agg (fC (flatG true lb t.flat) (pairG true lb t.pair (goCs true lb t.pairs)).1 (pairG true lb t.pair (goCs true lb t.pairs)).2.1 (.lst ((pairG true lb t.pair (goCs true lb t.pairs)).2.2.map encC) f) 2 0 (.gl 3 t.funs.length))) = _; simp [shutR, shutRL, growAt, fC, goFs_len]; done)
  · skip
    replace h8 : t.all = false := h8
    refine WL_skip ?_
    refine WL_seq ?_
    apply WLp
    · (repeat (first | exact rzz | apply rcc rfl | apply rnn rfl))
    conv => arg 4; (try simp only [nrm, Nat.reduceAdd, pCT, tCT, putCells, AVal.flat])
    conv => arg 3; (try simp only [nrm, Nat.reduceAdd, pCT, tCT, putCells, AVal.flat])
    refine WL_seq ?_
    refine WL_seq ?_
    refine WL_reg ?_
    refine O_p rfl rfl rfl ?_
    refine WO_nil ?_
    refine WL_seq ?_
    apply WLp
    · (repeat (first | exact rzz | apply rcc rfl | apply rnn rfl))
    conv => arg 4; (try simp only [nrm, Nat.reduceAdd, pCT, tCT, putCells, AVal.flat])
    conv => arg 3; (try simp only [nrm, Nat.reduceAdd, pCT, tCT, putCells, AVal.flat])
    refine WL_block ?_
    apply WL_forv (hc := [.cells (cT t), .cells Zc]) (α := Nat) (fun i => [(10, .int .i64 (i : Nat))]) (fun i => [.cells (fC (gT lb t.flat i) 0 0 (.lst [] true) 0 0 (.lst [] true))]) (fun i => i ≤ 6) (fun i => 6 - i) (0) (he := ?he) (hh := ?hh) (hP := ?hP) (hk := ?hk) (round := ?round)
    case he =>
      (repeat (first | exact rzz | apply rcc rfl | apply rnn rfl))
    case hh =>
      rfl
    case hP =>
      omega
    case hk =>
      show 6 - 0 < n + 10; omega
    case round =>
      rintro i hi
      dsimp only [List.cons_append, List.nil_append] at *
      refine WL_seq ?_
      refine WL_reg ?_
      refine O_p rfl rfl rfl ?_
      refine WO_nil ?_
      refine WL_seq ?_
      apply WLp
      · (repeat (first | exact rzz | apply rcc rfl | apply rnn rfl))
      conv => arg 4; (try simp only [nrm, Nat.reduceAdd, pCT, tCT, putCells, AVal.flat])
      conv => arg 3; (try simp only [nrm, Nat.reduceAdd, pCT, tCT, putCells, AVal.flat])
      refine WL_seq ?_
      refine WL_cond rfl (fun h11 => ?_) (fun h11 => ?_)
      · skip
        replace h11 : i < 6 := by simp at h11; omega
        refine WL_skip ?_
        refine WL_seq ?_
        apply WLp
        · (repeat (first | exact rzz | apply rcc rfl | apply rnn rfl))
        conv => arg 4; (try simp only [nrm, Nat.reduceAdd, pCT, tCT, putCells, AVal.flat])
        conv => arg 3; (try simp only [nrm, Nat.reduceAdd, pCT, tCT, putCells, AVal.flat])
        refine WL_seq ?_
        refine WL_block ?_
        refine WL_seq ?_
        refine WL_reg ?_
        refine O_p rfl rfl rfl ?_
        refine O_p rfl rfl rfl ?_
        refine WO_nil ?_
        refine WL_seq ?_
        apply WLp
        · (repeat (first | exact rzz | apply rcc rfl | apply rnn rfl))
        conv => arg 4; (try simp only [nrm, Nat.reduceAdd, pCT, tCT, putCells, AVal.flat])
        conv => arg 3; (try simp only [nrm, Nat.reduceAdd, pCT, tCT, putCells, AVal.flat])
        refine WL_seq ?_
        refine WL_drawS (ops := [_, _, _, _, _, _]) rfl rfl ?_
        refine O_p rfl rfl rfl ?_
        refine O_h rfl rfl rfl rfl ?_
        refine O_p rfl rfl rfl ?_
        refine O_v (v := .int .i64 (IntKind.i64.wrap (1 * 2 ^ (min ((i : Int).toNat) IntKind.i64.bits)))) (.int .i64 (2 ^ i)) rfl rfl rfl (by rw [shl_pow h11]) ?_
        refine O_p rfl rfl rfl ?_
        refine O_v (.bool (bit0 t.flat i)) rfl rfl rfl (by rw [← and_bit0 hf.1.1 hf.1.2 h11]) ?_
        refine WO_nil (WL_nil ⟨rfl, ?_⟩)
        refine WL_seq ?_
        apply WLp
        · (repeat (first | exact rzz | apply rcc rfl | apply rnn rfl))
        conv => arg 4; (try simp only [nrm, Nat.reduceAdd, pCT, tCT, putCells, AVal.flat])
        conv => arg 3; (try simp only [nrm, Nat.reduceAdd, pCT, tCT, putCells, AVal.flat])
        refine WL_cond rfl (fun h18 => ?_) (fun h18 => ?_)
        · skip
          replace h18 : bit0 t.flat i = true := h18
          refine WL_reg ?_
          refine O_p rfl rfl rfl ?_
          refine O_p rfl rfl rfl ?_
          refine O_p rfl rfl rfl ?_
          refine O_iaa rfl rfl h11 ?_
          refine O_st rfl rfl rfl rfl rfl (by simp [fC]; omega) (gT_set h11 h18) rfl ?_
          refine WO_nil ?_
          refine WL_nil ?_
          refine Blk_norm (?_ : WL _ _ _ _ _)
          refine WL_seq ?_
          apply WLp
          · (repeat (first | exact rzz | apply rcc rfl | apply rnn rfl))
          conv => arg 4; (try simp only [nrm, Nat.reduceAdd, pCT, tCT, putCells, AVal.flat])
          conv => arg 3; (try simp only [nrm, Nat.reduceAdd, pCT, tCT, putCells, AVal.flat])
          refine WL_reg ?_
          refine O_p rfl rfl rfl ?_
          refine O_p rfl rfl rfl ?_
          refine WO_nil ?_
          refine WL_nil ?_
          first | (rw [← gT_skip h18]; refine RndV_norm (i + 1) (by omega) (by show _ < _; omega) ?_ rfl; rw [wrap_succ (by omega)]; (repeat (first | exact rzz | apply rcc rfl | apply rnn rfl))) | (refine RndV_norm (i + 1) (by omega) (by show _ < _; omega) ?_ rfl; rw [wrap_succ (by omega)]; (repeat (first | exact rzz | apply rcc rfl | apply rnn rfl)))
        · skip
          replace h18 : bit0 t.flat i = false := h18
          refine WL_skip ?_
          refine WL_nil ?_
          refine Blk_norm (?_ : WL _ _ _ _ _)
          refine WL_seq ?_
          apply WLp
          · (repeat (first | exact rzz | apply rcc rfl | apply rnn rfl))
          conv => arg 4; (try simp only [nrm, Nat.reduceAdd, pCT, tCT, putCells, AVal.flat])
          conv => arg 3; (try simp only [nrm, Nat.reduceAdd, pCT, tCT, putCells, AVal.flat])
          refine WL_reg ?_
          refine O_p rfl rfl rfl ?_
          refine O_p rfl rfl rfl ?_
          refine WO_nil ?_
          refine WL_nil ?_
          first | (rw [← gT_skip h18]; refine RndV_norm (i + 1) (by omega) (by show _ < _; omega) ?_ rfl; rw [wrap_succ (by omega)]; (repeat (first | exact rzz | apply rcc rfl | apply rnn rfl))) | (refine RndV_norm (i + 1) (by omega) (by show _ < _; omega) ?_ rfl; rw [wrap_succ (by omega)]; (repeat (first | exact rzz | apply rcc rfl | apply rnn rfl)))
      · skip
        simp at h11
        obtain rfl : i = 6 := by omega
        rw [gT_six]
        refine WL_exit ?_
        refine RndV_exit ?_
        refine Blk_exit (?_ : WL _ _ _ _ _)
        refine WL_seq ?_
        apply WLp
        · (repeat (first | exact rzz | apply rcc rfl | apply rnn rfl))
        conv => arg 4; (try simp only [nrm, Nat.reduceAdd, pCT, tCT, putCells, AVal.flat])
        conv => arg 3; (try simp only [nrm, Nat.reduceAdd, pCT, tCT, putCells, AVal.flat])
        refine WL_seq ?_
        refine WL_seq ?_
        refine WL_reg ?_
        refine O_p rfl rfl rfl ?_
        refine O_h rfl rfl rfl rfl ?_
        refine WO_nil ?_
        refine WL_seq ?_
        apply WLp
        · (repeat (first | exact rzz | apply rcc rfl | apply rnn rfl))
        conv => arg 4; (try simp only [nrm, Nat.reduceAdd, pCT, tCT, putCells, AVal.flat])
        conv => arg 3; (try simp only [nrm, Nat.reduceAdd, pCT, tCT, putCells, AVal.flat])
        refine WL_cut (fun e H => restr e [1, 2, 4, 5] = [(1, .int .i64 lb), (2, .ptr 0 0), (4, .ptr 1 0), (5, .ptr 2 0)] ∧ ∃ f, H = [.cells (cT t), .cells Zc, .cells (fC (flatG true lb t.flat) (pairG true lb t.pair (goCs true lb t.pairs)).1 (pairG true lb t.pair (goCs true lb t.pairs)).2.1 (.lst ((pairG true lb t.pair (goCs true lb t.pairs)).2.2.map encC) f) 0 0 (.lst [] true))]) ?_ ?_
        · skip
          refine WL_block ?_
          refine WL_seq ?_
          refine WL_reg ?_
          refine O_p rfl rfl rfl ?_
          refine O_p rfl rfl rfl ?_
          refine WO_nil ?_
          refine WL_seq ?_
          apply WLp
          · (repeat (first | exact rzz | apply rcc rfl | apply rnn rfl))
          conv => arg 4; (try simp only [nrm, Nat.reduceAdd, pCT, tCT, putCells, AVal.flat])
          conv => arg 3; (try simp only [nrm, Nat.reduceAdd, pCT, tCT, putCells, AVal.flat])
          refine WL_cond rfl (fun h37 => ?_) (fun h37 => ?_)
          · skip
            replace h37 : t.pair = 0 := by simpa using h37
            have hP : pairG true lb t.pair (goCs true lb t.pairs) = (1, lb, []) := by rw [h37]; simp [pairG]
            refine WL_reg ?_
            refine O_p rfl rfl rfl ?_
            refine O_p rfl rfl rfl ?_
            refine O_hn rfl rfl rfl rfl ?_
            refine O_p rfl rfl rfl ?_
            refine O_hn rfl rfl rfl rfl ?_
            refine WO_nil ?_
            refine WL_nil ?_
            refine Blk_norm (?_ : WL _ _ _ _ _)
            refine WL_nil ?_
            first | exact ⟨by (repeat (first | exact rzz | apply rcc rfl | apply rnn rfl)), true, by rw [hP]; (try simp only [List.map_cons, List.map_nil, encC_eq]); first | done | rfl⟩
          · skip
            replace h37 : ¬ t.pair = 0 := by simpa using h37
            refine WL_seq ?_
            refine WL_reg ?_
            refine O_p rfl rfl rfl ?_
            refine O_p rfl rfl rfl ?_
            refine WO_nil ?_
            refine WL_seq ?_
            apply WLp
            · (repeat (first | exact rzz | apply rcc rfl | apply rnn rfl))
            conv => arg 4; (try simp only [nrm, Nat.reduceAdd, pCT, tCT, putCells, AVal.flat])
            conv => arg 3; (try simp only [nrm, Nat.reduceAdd, pCT, tCT, putCells, AVal.flat])
            refine WL_cond rfl (fun h42 => ?_) (fun h42 => ?_)
            · skip
              replace h42 : t.pair = 1 := by simpa using h42
              obtain ⟨x, y, hp⟩ := hf.2.2.2.2.2.1 h42
              have hx : t.pairs[0]? = some x := by rw [hp]; rfl
              have hy : t.pairs[1]? = some y := by rw [hp]; rfl
              have hmx := List.mem_of_getElem? hx
              have hmy := List.mem_of_getElem? hy
              have hcx := ihT x (rt.pairs hmx) (szT_pairs hmx) (n + 10) (by omega)
              have hcy := ihT y (rt.pairs hmy) (szT_pairs hmy) (n + 10) (by omega)
              have hP : pairG true lb t.pair (goCs true lb t.pairs) = pairG true lb 1 [goC true lb x, goC true lb y] := by rw [h42, hp]; rfl
              have hpm := pairsM_c (n + 5) true lb [goC true lb x, goC true lb y] (cT t) Zc (flatG true lb t.flat) 0 0 (.lst [] true) (by simp) (by simp)
              simp only [List.map_cons, List.map_nil, encC_eq] at hpm
              refine WL_drawT [57] rfl ?_
              refine S_p rfl rfl rfl ?_
              refine S_h (d := some 45) rfl rfl rfl rfl rfl ?_
              refine S_ia rfl rfl (Int.natCast_nonneg _) (encT_get (i := (0 : Nat)) hx) (encT_flat _) rfl ?_
              refine S_h (d := some 47) rfl rfl rfl rfl rfl ?_
              refine S_p rfl rfl rfl ?_
              refine S_c 20 rfl rfl rfl (callA_of rfl hcx) ?_
              refine S_p rfl rfl rfl ?_
              refine S_h (d := some 51) rfl rfl rfl rfl rfl ?_
              refine S_ia rfl rfl (Int.natCast_nonneg _) (encT_get (i := (1 : Nat)) hy) (encT_flat _) rfl ?_
              refine S_h (d := some 53) rfl rfl rfl rfl rfl ?_
              refine S_p rfl rfl rfl ?_
              refine S_c 20 rfl rfl rfl (callA_of rfl hcy) ?_
              refine S_h (d := some 56) rfl rfl rfl rfl rfl ?_
              refine S_ci 36 rfl rfl rfl (callA_nr rfl hpm rfl) ?_
              refine WS_nil ?_
              refine WL_nil ?_
              refine Blk_norm (?_ : WL _ _ _ _ _)
              refine WL_nil ?_
              first | exact ⟨by (repeat (first | exact rzz | apply rcc rfl | apply rnn rfl)), true, by rw [hP]; (try simp only [List.map_cons, List.map_nil, encC_eq]); first | done | rfl⟩
            · skip
              replace h42 : ¬ t.pair = 1 := by simpa using h42
              have h2 : t.pair = 2 := by omega
              obtain ⟨x, hp⟩ := hf.2.2.2.2.2.2.1 h2
              have hx : t.pairs[0]? = some x := by rw [hp]; rfl
              have hmx := List.mem_of_getElem? hx
              have hcx := ihT x (rt.pairs hmx) (szT_pairs hmx) (n + 10) (by omega)
              have hP : pairG true lb t.pair (goCs true lb t.pairs) = (3, lb, [goC true lb x]) := by rw [h2, hp]; rfl
              refine WL_reg ?_
              refine O_p rfl rfl rfl ?_
              refine O_p rfl rfl rfl ?_
              refine O_h rfl rfl rfl rfl ?_
              refine O_ia rfl rfl (Int.natCast_nonneg _) (encT_get (i := (0 : Nat)) hx) (encT_flat _) rfl ?_
              refine O_h rfl rfl rfl rfl ?_
              refine O_p rfl rfl rfl ?_
              refine O_c 20 rfl rfl (callA_of rfl hcx) ?_
              refine O_h rfl rfl rfl rfl ?_
              refine O_p rfl rfl rfl ?_
              refine O_hn rfl rfl rfl rfl ?_
              refine O_p rfl rfl rfl ?_
              refine O_hn rfl rfl rfl rfl ?_
              refine O_p rfl rfl rfl ?_
              refine O_hn rfl rfl rfl rfl ?_
              refine WO_nil ?_
              refine WL_nil ?_
              refine Blk_norm (?_ : WL _ _ _ _ _)
              refine WL_nil ?_
              first | exact ⟨by (repeat (first | exact rzz | apply rcc rfl | apply rnn rfl)), true, by rw [hP]; (try simp only [List.map_cons, List.map_nil, encC_eq]); first | done | rfl⟩
        · skip
          rintro e H ⟨he, f, rfl⟩
          refine WL_seq ?_
          apply WLp
          · exact he
          refine WL_seq ?_
          refine WL_seq ?_
          refine WL_reg ?_
          refine O_p rfl rfl rfl ?_
          refine O_h rfl rfl rfl rfl ?_
          refine WO_nil ?_
          refine WL_seq ?_
          apply WLp
          · (repeat (first | exact rzz | apply rcc rfl | apply rnn rfl))
          conv => arg 4; (try simp only [nrm, Nat.reduceAdd, pCT, tCT, putCells, AVal.flat])
          conv => arg 3; (try simp only [nrm, Nat.reduceAdd, pCT, tCT, putCells, AVal.flat])
          refine WL_block ?_
          refine WL_seq ?_
          refine WL_reg ?_
          refine O_p rfl rfl rfl ?_
          refine O_p rfl rfl rfl ?_
          refine WO_nil ?_
          refine WL_seq ?_
          apply WLp
          · (repeat (first | exact rzz | apply rcc rfl | apply rnn rfl))
          conv => arg 4; (try simp only [nrm, Nat.reduceAdd, pCT, tCT, putCells, AVal.flat])
          conv => arg 3; (try simp only [nrm, Nat.reduceAdd, pCT, tCT, putCells, AVal.flat])
          refine WL_cond rfl (fun h60 => ?_) (fun h60 => ?_)
          · skip
            replace h60 : t.fn = 0 := by simpa using h60
            have hG : funG true lb t.fn (goFs true lb t.funs) = (1, lb, []) := by rw [h60]; simp [funG]
            refine WL_reg ?_
            refine O_p rfl rfl rfl ?_
            refine O_p rfl rfl rfl ?_
            refine O_hn rfl rfl rfl rfl ?_
            refine O_p rfl rfl rfl ?_
            refine O_hn rfl rfl rfl rfl ?_
            refine WO_nil ?_
            refine WL_nil ?_
            refine Blk_norm (?_ : WL _ _ _ _ _)
            refine WL_seq ?_
            apply WLp
            · (repeat (first | exact rzz | apply rcc rfl | apply rnn rfl))
            conv => arg 4; (try simp only [nrm, Nat.reduceAdd, pCT, tCT, putCells, AVal.flat])
            conv => arg 3; (try simp only [nrm, Nat.reduceAdd, pCT, tCT, putCells, AVal.flat])
            refine WL_seq ?_
            refine WL_reg ?_
            refine O_h rfl rfl rfl rfl ?_
            refine O_hn rfl rfl rfl rfl ?_
            refine WO_nil ?_
            refine WL_ret ?_
            first | exact ⟨_, rfl, vC zeroC, rfl, by rw [ha0]⟩ | (refine ⟨_, rfl, vC (goC true lb t), ?_, rfl⟩; rw [ev h8, hG]; rfl) | (refine ⟨_, rfl, vC (goC true lb t), ?_, rfl⟩; rw [ev h8, show funG true lb t.fn (goFs true lb t.funs) = (0, 0, []) by rw [h65]; simp [funG, ha]]; rfl) | (refine ⟨_, rfl, vC (goC true lb t), ?_, rfl⟩; rw [ev h8, show funG true lb t.fn (goFs true lb t.funs) = (2, 0, goFs true lb t.funs) by rw [h65]; simp [funG, ha]]; show shutR _ (.agg (fC (flatG true lb t.flat) (pairG true lb t.pair (goCs true lb t.pairs)).1 (pairG true lb t.pair (goCs true lb t.pairs)).2.1 (.lst ((pairG true lb t.pair (goCs true lb t.pairs)).2.2.map encC) f) 2 0 (.gl 3 t.funs.length))) = _; simp [shutR, shutRL, growAt, fC, goFs_len]; done)
          · skip
            replace h60 : ¬ t.fn = 0 := by simpa using h60
            refine WL_seq ?_
            refine WL_reg ?_
            refine O_p rfl rfl rfl ?_
            refine O_p rfl rfl rfl ?_
            refine WO_nil ?_
            refine WL_seq ?_
            apply WLp
            · (repeat (first | exact rzz | apply rcc rfl | apply rnn rfl))
            conv => arg 4; (try simp only [nrm, Nat.reduceAdd, pCT, tCT, putCells, AVal.flat])
            conv => arg 3; (try simp only [nrm, Nat.reduceAdd, pCT, tCT, putCells, AVal.flat])
            refine WL_cond rfl (fun h65 => ?_) (fun h65 => ?_)
            · skip
              replace h65 : t.fn = 1 := by simpa using h65
              rcases funsA (n + 4) (n + 10) true lb t.funs t 18 20 (flatG true lb t.flat) (pairG true lb t.pair (goCs true lb t.pairs)).1 (pairG true lb t.pair (goCs true lb t.pairs)).2.1 ((pairG true lb t.pair (goCs true lb t.pairs)).2.2.map encC) f (by omega) (hf.2.2.2.2.2.2.2.1 h65).2 (fun x hx => ihF x (rt.funs hx) (szT_funs hx) (n + 9) (by omega)) (fun x hx => ihT x (rt.funs hx) (szT_funs hx) (n + 9) (by omega)) with ⟨ha, hcall⟩ | ⟨ha, hcall⟩
              · skip
                refine WL_reg ?_
                refine O_p rfl rfl rfl ?_
                refine O_h rfl rfl rfl rfl ?_
                refine O_p rfl rfl rfl ?_
                refine O_c 38 rfl rfl (hcall) ?_
                refine WO_nil ?_
                refine WL_nil ?_
                refine Blk_norm (?_ : WL _ _ _ _ _)
                refine WL_seq ?_
                apply WLp
                · (repeat (first | exact rzz | apply rcc rfl | apply rnn rfl))
                conv => arg 4; (try simp only [nrm, Nat.reduceAdd, pCT, tCT, putCells, AVal.flat])
                conv => arg 3; (try simp only [nrm, Nat.reduceAdd, pCT, tCT, putCells, AVal.flat])
                refine WL_seq ?_
                refine WL_reg ?_
                refine O_h rfl rfl rfl rfl ?_
                refine O_hn rfl rfl rfl rfl ?_
                refine WO_nil ?_
                refine WL_ret ?_
                first | exact ⟨_, rfl, vC zeroC, rfl, by rw [ha0]⟩ | (refine ⟨_, rfl, vC (goC true lb t), ?_, rfl⟩; rw [ev h8, hG]; rfl) | (refine ⟨_, rfl, vC (goC true lb t), ?_, rfl⟩; rw [ev h8, show funG true lb t.fn (goFs true lb t.funs) = (0, 0, []) by rw [h65]; simp [funG, ha]]; rfl) | (refine ⟨_, rfl, vC (goC true lb t), ?_, rfl⟩; rw [ev h8, show funG true lb t.fn (goFs true lb t.funs) = (2, 0, goFs true lb t.funs) by rw [h65]; simp [funG, ha]]; show shutR _ (.agg (fC (flatG true lb t.flat) (pairG true lb t.pair (goCs true lb t.pairs)).1 (pairG true lb t.pair (goCs true lb t.pairs)).2.1 (.lst ((pairG true lb t.pair (goCs true lb t.pairs)).2.2.map encC) f) 2 0 (.gl 3 t.funs.length))) = _; simp [shutR, shutRL, growAt, fC, goFs_len]; done)
              · skip
                refine WL_reg ?_
                refine O_p rfl rfl rfl ?_
                refine O_h rfl rfl rfl rfl ?_
                refine O_p rfl rfl rfl ?_
                refine O_c 38 rfl rfl (hcall) ?_
                refine WO_nil ?_
                refine WL_nil ?_
                refine Blk_norm (?_ : WL _ _ _ _ _)
                refine WL_seq ?_
                apply WLp
                · (repeat (first | exact rzz | apply rcc rfl | apply rnn rfl))
                conv => arg 4; (try simp only [nrm, Nat.reduceAdd, pCT, tCT, putCells, AVal.flat])
                conv => arg 3; (try simp only [nrm, Nat.reduceAdd, pCT, tCT, putCells, AVal.flat])
                refine WL_seq ?_
                refine WL_reg ?_
                refine O_h rfl rfl rfl rfl ?_
                refine O_hn rfl rfl rfl rfl ?_
                refine WO_nil ?_
                refine WL_ret ?_
                first | exact ⟨_, rfl, vC zeroC, rfl, by rw [ha0]⟩ | (refine ⟨_, rfl, vC (goC true lb t), ?_, rfl⟩; rw [ev h8, hG]; rfl) | (refine ⟨_, rfl, vC (goC true lb t), ?_, rfl⟩; rw [ev h8, show funG true lb t.fn (goFs true lb t.funs) = (0, 0, []) by rw [h65]; simp [funG, ha]]; rfl) | (refine ⟨_, rfl, vC (goC true lb t), ?_, rfl⟩; rw [ev h8, show funG true lb t.fn (goFs true lb t.funs) = (2, 0, goFs true lb t.funs) by rw [h65]; simp [funG, ha]]; show shutR _ (.agg (fC (flatG true lb t.flat) (pairG true lb t.pair (goCs true lb t.pairs)).1 (pairG true lb t.pair (goCs true lb t.pairs)).2.1 (.lst ((pairG true lb t.pair (goCs true lb t.pairs)).2.2.map encC) f) 2 0 (.gl 3 t.funs.length))) = _; simp [shutR, shutRL, growAt, fC, goFs_len]; done)
            · skip
              replace h65 : ¬ t.fn = 1 := by simpa using h65
              have hG : funG true lb t.fn (goFs true lb t.funs) = (0, 0, []) := by simp [funG, h60, h65]
              refine WL_skip ?_
              refine WL_nil ?_
              refine Blk_norm (?_ : WL _ _ _ _ _)
              refine WL_seq ?_
              apply WLp
              · (repeat (first | exact rzz | apply rcc rfl | apply rnn rfl))
              conv => arg 4; (try simp only [nrm, Nat.reduceAdd, pCT, tCT, putCells, AVal.flat])
              conv => arg 3; (try simp only [nrm, Nat.reduceAdd, pCT, tCT, putCells, AVal.flat])
              refine WL_seq ?_
              refine WL_reg ?_
              refine O_h rfl rfl rfl rfl ?_
              refine O_hn rfl rfl rfl rfl ?_
              refine WO_nil ?_
              refine WL_ret ?_
              first | exact ⟨_, rfl, vC zeroC, rfl, by rw [ha0]⟩ | (refine ⟨_, rfl, vC (goC true lb t), ?_, rfl⟩; rw [ev h8, hG]; rfl) | (refine ⟨_, rfl, vC (goC true lb t), ?_, rfl⟩; rw [ev h8, show funG true lb t.fn (goFs true lb t.funs) = (0, 0, []) by rw [h65]; simp [funG, ha]]; rfl) | (refine ⟨_, rfl, vC (goC true lb t), ?_, rfl⟩; rw [ev h8, show funG true lb t.fn (goFs true lb t.funs) = (2, 0, goFs true lb t.funs) by rw [h65]; simp [funG, ha]]; show shutR _ (.agg (fC (flatG true lb t.flat) (pairG true lb t.pair (goCs true lb t.pairs)).1 (pairG true lb t.pair (goCs true lb t.pairs)).2.1 (.lst ((pairG true lb t.pair (goCs true lb t.pairs)).2.2.map encC) f) 2 0 (.gl 3 t.funs.length))) = _; simp [shutR, shutRL, growAt, fC, goFs_len]; done)
set_option maxHeartbeats 1000000 in
theorem fromS_c (n : Nat) (t : Ty) (lb : Int) (rt : Rt t) (hn : szT t + 30 < n)
    (ihT : ∀ x, Rt x → szT x < szT t → ∀ k, n ≤ k + 3 → pcall (tabOf tabL) k 20 [vT x, .int .i64 lb] = some (.ok (vC (goC true lb x))))
    (ihF : ∀ x, Rt x → szT x < szT t → ∀ k, n ≤ k + 3 → pcall (tabOf tabL) k 18 [vT x, .int .i64 lb] = some (.ok (vC (goC false lb x)))) :
    pcall (tabOf tabL) (n + 1) 18 [vT t, .int .i64 lb] = some (.ok (vC (goC false lb t))) := by
  have hf := okT_facts rt.ok
  have hlp := len_pairs t
  have hlf := len_funs t
  obtain ⟨n, rfl⟩ : ∃ m, n = m + 10 := ⟨n - 10, by omega⟩
  have ev : vC (goC false lb t) = .agg (fC (fun _ => 0) (pairG false lb t.pair (goCs false lb t.pairs)).1 (pairG false lb t.pair (goCs false lb t.pairs)).2.1 (.lst ((pairG false lb t.pair (goCs false lb t.pairs)).2.2.map encC) false) (funG false lb t.fn (goFs false lb t.funs)).1 (funG false lb t.fn (goFs false lb t.funs)).2.1 (.lst ((funG false lb t.fn (goFs false lb t.funs)).2.2.map encC) false)) := by
    rw [goC_eq]; simp only [goK, Bool.false_and, Bool.false_eq_true, if_false]; rfl
  refine pcall_fin t18 ?_
  refine WL_seq ?_
  refine WL_reg ?_
  refine O_n rfl rfl rfl ?_
  refine O_n rfl rfl rfl ?_
  refine WO_nil ?_
  refine WL_seq ?_
  apply WLp
  · (repeat (first | exact rzz | apply rcc rfl | apply rnn rfl))
  conv => arg 4; (try simp only [nrm, Nat.reduceAdd, pCT, tCT, putCells, AVal.flat])
  conv => arg 3; (try simp only [nrm, Nat.reduceAdd, pCT, tCT, putCells, AVal.flat])
  refine WL_seq ?_
  refine WL_reg ?_
  refine O_n rfl rfl rfl ?_
  refine WO_nil ?_
  refine WL_seq ?_
  apply WLp
  · (repeat (first | exact rzz | apply rcc rfl | apply rnn rfl))
  conv => arg 4; (try simp only [nrm, Nat.reduceAdd, pCT, tCT, putCells, AVal.flat])
  conv => arg 3; (try simp only [nrm, Nat.reduceAdd, pCT, tCT, putCells, AVal.flat])
  refine WL_seq ?_
  refine WL_seq ?_
  refine WL_reg ?_
  refine O_p rfl rfl rfl ?_
  refine O_h rfl rfl rfl rfl ?_
  refine WO_nil ?_
  refine WL_seq ?_
  apply WLp
  · (repeat (first | exact rzz | apply rcc rfl | apply rnn rfl))
  conv => arg 4; (try simp only [nrm, Nat.reduceAdd, pCT, tCT, putCells, AVal.flat])
  conv => arg 3; (try simp only [nrm, Nat.reduceAdd, pCT, tCT, putCells, AVal.flat])
  refine WL_cut (fun e H => restr e [1, 2, 4, 5] = [(1, .int .i64 lb), (2, .ptr 0 0), (4, .ptr 1 0), (5, .ptr 2 0)] ∧ ∃ f rest, (rest = [] ∨ ∃ x, rest = [.cells (cC x)]) ∧ H = .cells (cT t) :: .cells Zc :: .cells (fC (fun _ => 0) (pairG false lb t.pair (goCs false lb t.pairs)).1 (pairG false lb t.pair (goCs false lb t.pairs)).2.1 (.lst ((pairG false lb t.pair (goCs false lb t.pairs)).2.2.map encC) f) 0 0 (.lst [] true)) :: rest) ?_ ?_
  · skip
    refine WL_block ?_
    refine WL_seq ?_
    refine WL_reg ?_
    refine O_p rfl rfl rfl ?_
    refine O_p rfl rfl rfl ?_
    refine WO_nil ?_
    refine WL_seq ?_
    apply WLp
    · (repeat (first | exact rzz | apply rcc rfl | apply rnn rfl))
    conv => arg 4; (try simp only [nrm, Nat.reduceAdd, pCT, tCT, putCells, AVal.flat])
    conv => arg 3; (try simp only [nrm, Nat.reduceAdd, pCT, tCT, putCells, AVal.flat])
    refine WL_cond rfl (fun h9 => ?_) (fun h9 => ?_)
    · skip
      replace h9 : t.pair = 1 := by simpa using h9
      obtain ⟨x, y, hp⟩ := hf.2.2.2.2.2.1 h9
      have hx : t.pairs[0]? = some x := by rw [hp]; rfl
      have hy : t.pairs[1]? = some y := by rw [hp]; rfl
      have hmx := List.mem_of_getElem? hx
      have hmy := List.mem_of_getElem? hy
      have hcx := ihF x (rt.pairs hmx) (szT_pairs hmx) (n + 10) (by omega)
      have hcy := ihF y (rt.pairs hmy) (szT_pairs hmy) (n + 10) (by omega)
      have hP : (pairG false lb t.pair (goCs false lb t.pairs)) = pairG false lb 1 [goC false lb x, goC false lb y] := by rw [h9, hp]; rfl
      have hpm := pairsM_c (n + 5) false lb [goC false lb x, goC false lb y] (cT t) Zc (fun _ => 0) 0 0 (.lst [] true) (by simp) (by simp)
      simp only [List.map_cons, List.map_nil, encC_eq] at hpm
      refine WL_drawT [24] rfl ?_
      refine S_p rfl rfl rfl ?_
      refine S_h (d := some 12) rfl rfl rfl rfl rfl ?_
      refine S_ia rfl rfl (Int.natCast_nonneg _) (encT_get (i := (0 : Nat)) hx) (encT_flat _) rfl ?_
      refine S_h (d := some 14) rfl rfl rfl rfl rfl ?_
      refine S_p rfl rfl rfl ?_
      refine S_c 18 rfl rfl rfl (callA_of rfl hcx) ?_
      refine S_p rfl rfl rfl ?_
      refine S_h (d := some 18) rfl rfl rfl rfl rfl ?_
      refine S_ia rfl rfl (Int.natCast_nonneg _) (encT_get (i := (1 : Nat)) hy) (encT_flat _) rfl ?_
      refine S_h (d := some 20) rfl rfl rfl rfl rfl ?_
      refine S_p rfl rfl rfl ?_
      refine S_c 18 rfl rfl rfl (callA_of rfl hcy) ?_
      refine S_h (d := some 23) rfl rfl rfl rfl rfl ?_
      refine S_ci 36 rfl rfl rfl (callA_nr rfl hpm rfl) ?_
      refine WS_nil ?_
      refine WL_nil ?_
      refine Blk_norm (?_ : WL _ _ _ _ _)
      refine WL_nil ?_
      first | exact ⟨by (repeat (first | exact rzz | apply rcc rfl | apply rnn rfl)), true, [], .inl rfl, by rw [hP]; (try simp only [List.map_cons, List.map_nil, encC_eq]); first | done | rfl⟩ | exact ⟨by (repeat (first | exact rzz | apply rcc rfl | apply rnn rfl)), true, [.cells (cC (goC false lb x))], .inr ⟨_, rfl⟩, by rw [hP]; (try simp only [List.map_cons, List.map_nil, encC_eq]); first | done | rfl⟩
    · skip
      replace h9 : ¬ t.pair = 1 := by simpa using h9
      refine WL_seq ?_
      refine WL_reg ?_
      refine O_p rfl rfl rfl ?_
      refine O_p rfl rfl rfl ?_
      refine WO_nil ?_
      refine WL_seq ?_
      apply WLp
      · (repeat (first | exact rzz | apply rcc rfl | apply rnn rfl))
      conv => arg 4; (try simp only [nrm, Nat.reduceAdd, pCT, tCT, putCells, AVal.flat])
      conv => arg 3; (try simp only [nrm, Nat.reduceAdd, pCT, tCT, putCells, AVal.flat])
      refine WL_cond rfl (fun h25 => ?_) (fun h25 => ?_)
      · skip
        replace h25 : t.pair = 2 := by simpa using h25
        obtain ⟨x, hp⟩ := hf.2.2.2.2.2.2.1 h25
        have hx : t.pairs[0]? = some x := by rw [hp]; rfl
        have hmx := List.mem_of_getElem? hx
        have hcx := ihF x (rt.pairs hmx) (szT_pairs hmx) (n + 10) (by omega)
        refine WL_seq ?_
        refine WL_reg ?_
        refine O_p rfl rfl rfl ?_
        refine O_h rfl rfl rfl rfl ?_
        refine O_ia rfl rfl (Int.natCast_nonneg _) (encT_get (i := (0 : Nat)) hx) (encT_flat _) rfl ?_
        refine O_h rfl rfl rfl rfl ?_
        refine O_p rfl rfl rfl ?_
        refine O_c 18 rfl rfl (callA_of rfl hcx) ?_
        refine O_n rfl rfl rfl ?_
        refine O_hn rfl rfl rfl rfl ?_
        refine WO_nil ?_
        refine WL_seq ?_
        apply WLp
        · (repeat (first | exact rzz | apply rcc rfl | apply rnn rfl))
        conv => arg 4; (try simp only [nrm, Nat.reduceAdd, pCT, tCT, putCells, AVal.flat])
        conv => arg 3; (try simp only [nrm, Nat.reduceAdd, pCT, tCT, putCells, AVal.flat])
        refine WL_seq ?_
        refine WL_reg ?_
        refine O_h rfl rfl rfl rfl ?_
        refine O_c 37 rfl rfl (callA_of rfl (acts_c (n + 8) _)) ?_
        refine WO_nil ?_
        refine WL_seq ?_
        apply WLp
        · (repeat (first | exact rzz | apply rcc rfl | apply rnn rfl))
        conv => arg 4; (try simp only [nrm, Nat.reduceAdd, pCT, tCT, putCells, AVal.flat])
        conv => arg 3; (try simp only [nrm, Nat.reduceAdd, pCT, tCT, putCells, AVal.flat])
        refine WL_cond rfl (fun h34 => ?_) (fun h34 => ?_)
        · skip
          have hP : (pairG false lb t.pair (goCs false lb t.pairs)) = (3, 0, [goC false lb x]) := by
            have ha : passC (goC false lb x) = false := by simpa using h34
            rw [h25, hp]; simp [pairG, goCs, anyA, ha]
          refine WL_draw0 ?_
          refine D_h (d := some 35) rfl rfl rfl rfl rfl ?_
          refine D_h (d := some 36) rfl rfl rfl rfl rfl ?_
          refine D_p rfl rfl rfl ?_
          refine D_h (d := none) rfl rfl rfl rfl rfl ?_
          refine D_p rfl rfl rfl ?_
          refine D_h (d := none) rfl rfl rfl rfl rfl ?_
          refine WD_nil ⟨by first | rfl | (simp [okFs, okEarlier, disj, notIn, noneIn, sameOn, y0j, glsL, glsV, partsGls, AOpd.ev, zeroB, outB] <;> (repeat' apply And.intro) <;> rfl), ?_⟩
          refine WL_nil ?_
          refine Blk_norm (?_ : WL _ _ _ _ _)
          refine WL_nil ?_
          first | exact ⟨by (repeat (first | exact rzz | apply rcc rfl | apply rnn rfl)), true, [], .inl rfl, by rw [hP]; (try simp only [List.map_cons, List.map_nil, encC_eq]); first | done | rfl⟩ | exact ⟨by (repeat (first | exact rzz | apply rcc rfl | apply rnn rfl)), true, [.cells (cC (goC false lb x))], .inr ⟨_, rfl⟩, by rw [hP]; (try simp only [List.map_cons, List.map_nil, encC_eq]); first | done | rfl⟩
        · skip
          have hP : (pairG false lb t.pair (goCs false lb t.pairs)) = (0, 0, []) := by
            have ha : passC (goC false lb x) = true := by simpa using h34
            rw [h25, hp]; simp [pairG, goCs, anyA, ha]
          refine WL_skip ?_
          refine WL_nil ?_
          refine Blk_norm (?_ : WL _ _ _ _ _)
          refine WL_nil ?_
          first | exact ⟨by (repeat (first | exact rzz | apply rcc rfl | apply rnn rfl)), true, [], .inl rfl, by rw [hP]; (try simp only [List.map_cons, List.map_nil, encC_eq]); first | done | rfl⟩ | exact ⟨by (repeat (first | exact rzz | apply rcc rfl | apply rnn rfl)), true, [.cells (cC (goC false lb x))], .inr ⟨_, rfl⟩, by rw [hP]; (try simp only [List.map_cons, List.map_nil, encC_eq]); first | done | rfl⟩
      · skip
        replace h25 : ¬ t.pair = 2 := by simpa using h25
        have hP : (pairG false lb t.pair (goCs false lb t.pairs)) = (0, 0, []) := by
          have h0 : t.pair = 0 := by omega
          rw [h0]; rfl
        refine WL_skip ?_
        refine WL_nil ?_
        refine Blk_norm (?_ : WL _ _ _ _ _)
        refine WL_nil ?_
        first | exact ⟨by (repeat (first | exact rzz | apply rcc rfl | apply rnn rfl)), true, [], .inl rfl, by rw [hP]; (try simp only [List.map_cons, List.map_nil, encC_eq]); first | done | rfl⟩ | exact ⟨by (repeat (first | exact rzz | apply rcc rfl | apply rnn rfl)), true, [.cells (cC (goC false lb x))], .inr ⟨_, rfl⟩, by rw [hP]; (try simp only [List.map_cons, List.map_nil, encC_eq]); first | done | rfl⟩
  · skip
    rintro e H ⟨he, f, rest, hrest, rfl⟩
    refine WL_seq ?_
    apply WLp
    · exact he
    refine WL_seq ?_
    refine WL_seq ?_
    refine WL_reg ?_
    refine O_p rfl rfl rfl ?_
    refine O_h rfl rfl rfl rfl ?_
    refine O_p rfl rfl rfl ?_
    refine WO_nil ?_
    refine WL_seq ?_
    apply WLp
    · (repeat (first | exact rzz | apply rcc rfl | apply rnn rfl))
    conv => arg 4; (try simp only [nrm, Nat.reduceAdd, pCT, tCT, putCells, AVal.flat])
    conv => arg 3; (try simp only [nrm, Nat.reduceAdd, pCT, tCT, putCells, AVal.flat])
    refine WL_cond rfl (fun h41 => ?_) (fun h41 => ?_)
    · skip
      replace h41 : t.fn = 1 := by simpa using h41
      rcases funsB (n + 4) (n + 10) false lb t.funs t 20 18 (fun _ => 0) (pairG false lb t.pair (goCs false lb t.pairs)).1 (pairG false lb t.pair (goCs false lb t.pairs)).2.1 ((pairG false lb t.pair (goCs false lb t.pairs)).2.2.map encC) f (by omega) (hf.2.2.2.2.2.2.2.1 h41).2 (fun x hx => ihT x (rt.funs hx) (szT_funs hx) (n + 9) (by omega)) (fun x hx => ihF x (rt.funs hx) (szT_funs hx) (n + 9) (by omega)) rest hrest with ⟨rfl, ha, hcall⟩ | ⟨rfl, ha, hcall⟩ | ⟨x6, rfl, ha, hcall⟩ | ⟨x6, rfl, ha, hcall⟩
      · skip
        refine WL_reg ?_
        refine O_p rfl rfl rfl ?_
        refine O_h rfl rfl rfl rfl ?_
        refine O_p rfl rfl rfl ?_
        refine O_c 38 rfl rfl (hcall) ?_
        refine WO_nil ?_
        refine WL_seq ?_
        apply WLp
        · (repeat (first | exact rzz | apply rcc rfl | apply rnn rfl))
        conv => arg 4; (try simp only [nrm, Nat.reduceAdd, pCT, tCT, putCells, AVal.flat])
        conv => arg 3; (try simp only [nrm, Nat.reduceAdd, pCT, tCT, putCells, AVal.flat])
        refine WL_seq ?_
        refine WL_reg ?_
        refine O_h rfl rfl rfl rfl ?_
        refine O_hn rfl rfl rfl rfl ?_
        refine WO_nil ?_
        refine WL_ret ?_
        refine ⟨_, rfl, vC (goC false lb t), ?_, rfl⟩
        have hG : funG false lb t.fn (goFs false lb t.funs) = (2, 0, goFs false lb t.funs) := by rw [h41]; simp [funG, ha]
        rw [ev, hG]
        show shutR _ (.agg (fC (fun _ => 0) (pairG false lb t.pair (goCs false lb t.pairs)).1 (pairG false lb t.pair (goCs false lb t.pairs)).2.1 (.lst ((pairG false lb t.pair (goCs false lb t.pairs)).2.2.map encC) f) 2 0 (.gl 3 t.funs.length))) = _
        simp [shutR, shutRL, growAt, fC, goFs_len]
      · skip
        refine WL_reg ?_
        refine O_p rfl rfl rfl ?_
        refine O_h rfl rfl rfl rfl ?_
        refine O_p rfl rfl rfl ?_
        refine O_c 38 rfl rfl (hcall) ?_
        refine WO_nil ?_
        refine WL_seq ?_
        apply WLp
        · (repeat (first | exact rzz | apply rcc rfl | apply rnn rfl))
        conv => arg 4; (try simp only [nrm, Nat.reduceAdd, pCT, tCT, putCells, AVal.flat])
        conv => arg 3; (try simp only [nrm, Nat.reduceAdd, pCT, tCT, putCells, AVal.flat])
        refine WL_seq ?_
        refine WL_reg ?_
        refine O_h rfl rfl rfl rfl ?_
        refine O_hn rfl rfl rfl rfl ?_
        refine WO_nil ?_
        refine WL_ret ?_
        refine ⟨_, rfl, vC (goC false lb t), ?_, rfl⟩
        have hG : funG false lb t.fn (goFs false lb t.funs) = (0, 0, []) := by rw [h41]; simp [funG, ha]
        rw [ev, hG]; rfl
      · skip
        refine WL_reg ?_
        refine O_p rfl rfl rfl ?_
        refine O_h rfl rfl rfl rfl ?_
        refine O_p rfl rfl rfl ?_
        refine O_c 38 rfl rfl (hcall) ?_
        refine WO_nil ?_
        refine WL_seq ?_
        apply WLp
        · (repeat (first | exact rzz | apply rcc rfl | apply rnn rfl))
        conv => arg 4; (try simp only [nrm, Nat.reduceAdd, pCT, tCT, putCells, AVal.flat])
        conv => arg 3; (try simp only [nrm, Nat.reduceAdd, pCT, tCT, putCells, AVal.flat])
        refine WL_seq ?_
        refine WL_reg ?_
        refine O_h rfl rfl rfl rfl ?_
        refine O_hn rfl rfl rfl rfl ?_
        refine WO_nil ?_
        refine WL_ret ?_
        refine ⟨_, rfl, vC (goC false lb t), ?_, rfl⟩
        have hG : funG false lb t.fn (goFs false lb t.funs) = (2, 0, goFs false lb t.funs) := by rw [h41]; simp [funG, ha]
        rw [ev, hG]
        show shutR _ (.agg (fC (fun _ => 0) (pairG false lb t.pair (goCs false lb t.pairs)).1 (pairG false lb t.pair (goCs false lb t.pairs)).2.1 (.lst ((pairG false lb t.pair (goCs false lb t.pairs)).2.2.map encC) f) 2 0 (.gl 4 t.funs.length))) = _
        simp [shutR, shutRL, growAt, fC, goFs_len]
      · skip
        refine WL_reg ?_
        refine O_p rfl rfl rfl ?_
        refine O_h rfl rfl rfl rfl ?_
        refine O_p rfl rfl rfl ?_
        refine O_c 38 rfl rfl (hcall) ?_
        refine WO_nil ?_
        refine WL_seq ?_
        apply WLp
        · (repeat (first | exact rzz | apply rcc rfl | apply rnn rfl))
        conv => arg 4; (try simp only [nrm, Nat.reduceAdd, pCT, tCT, putCells, AVal.flat])
        conv => arg 3; (try simp only [nrm, Nat.reduceAdd, pCT, tCT, putCells, AVal.flat])
        refine WL_seq ?_
        refine WL_reg ?_
        refine O_h rfl rfl rfl rfl ?_
        refine O_hn rfl rfl rfl rfl ?_
        refine WO_nil ?_
        refine WL_ret ?_
        refine ⟨_, rfl, vC (goC false lb t), ?_, rfl⟩
        have hG : funG false lb t.fn (goFs false lb t.funs) = (0, 0, []) := by rw [h41]; simp [funG, ha]
        rw [ev, hG]; rfl
    · skip
      replace h41 : ¬ t.fn = 1 := by simpa using h41
      have hG : funG false lb t.fn (goFs false lb t.funs) = (0, 0, []) := by simp [funG, h41]
      refine WL_skip ?_
      refine WL_seq ?_
      apply WLp
      · (repeat (first | exact rzz | apply rcc rfl | apply rnn rfl))
      conv => arg 4; (try simp only [nrm, Nat.reduceAdd, pCT, tCT, putCells, AVal.flat])
      conv => arg 3; (try simp only [nrm, Nat.reduceAdd, pCT, tCT, putCells, AVal.flat])
      refine WL_seq ?_
      refine WL_reg ?_
      refine O_h rfl rfl rfl rfl ?_
      refine O_hn rfl rfl rfl rfl ?_
      refine WO_nil ?_
      refine WL_ret ?_
      refine ⟨_, rfl, vC (goC false lb t), ?_, rfl⟩
      rw [ev, hG]; rfl
theorem tof_c (lb : Int) : ∀ (s : Nat) (t : Ty), szT t ≤ s → Rt t → ∀ k, 4 * szT t + 40 < k → pcall (tabOf tabL) k 20 [vT t, .int .i64 lb] = some (.ok (vC (goC true lb t))) ∧ pcall (tabOf tabL) k 18 [vT t, .int .i64 lb] = some (.ok (vC (goC false lb t)))
  | 0, t, h, _, _, _ => by have := szT_pos t; omega
  | s + 1, t, h, rt, k, hk => by
    obtain ⟨k, rfl⟩ : ∃ m, k = m + 1 := ⟨k - 1, by omega⟩
    have h0 := szT_pos t
    exact ⟨toS_c k t lb rt (by omega) (fun x rx hx k2 hk2 => (tof_c lb s x (by omega) rx k2 (by omega)).1) (fun x rx hx k2 hk2 => (tof_c lb s x (by omega) rx k2 (by omega)).2),
      fromS_c k t lb rt (by omega) (fun x rx hx k2 hk2 => (tof_c lb s x (by omega) rx k2 (by omega)).1) (fun x rx hx k2 hk2 => (tof_c lb s x (by omega) rx k2 (by omega)).2)⟩
end Go.Ev.Seat
namespace Go.Ev.Seat
set_option linter.unusedVariables false
set_option linter.unusedSimpArgs false
open Go Go.Ev
set_option maxRecDepth 20000
attribute [local irreducible] pcall callF
noncomputable section
open Classical
def oSafe (t : Ty) (out : Bool) : Option Bool := if szT t ≤ 1000000 then some (safeT t out) else none
theorem oSafe_ok {t : Ty} {out r : Bool} (h : oSafe t out = some r) : PRes (tabOf tabL) 14 [vT t, .bool out] (.bool r) := by
  unfold oSafe at h
  split at h <;> cases h
  rename_i hw
  exact y27 (szT t + 1) (safe_c _ t out (by omega) hw)
def oSub (a b : Ty) : Option Bool := if Rt a ∧ Rt b ∧ WfT a ∧ WfT b then some (S a b) else none
theorem oSub_ok {a b : Ty} {r : Bool} (h : oSub a b = some r) : PRes (tabOf tabL) 17 [vT a, vT b] (.bool r) := by
  unfold oSub at h
  split at h <;> cases h
  rename_i hw
  exact .of_lt (20 * (szT a + szT b) + 20) fun n hn => by
    have := TyS.sub_c (szT a + szT b) n a b hw.1 hw.2.1 hw.2.2.1 hw.2.2.2 (Nat.le_refl _) hn
    rw [this]; rfl
def oTo (t : Ty) (l : Int) : Option Co := if Rt t then some (goC true l t) else none
theorem oTo_ok {t : Ty} {l : Int} {r : Co} (h : oTo t l = some r) : PRes (tabOf tabL) 20 [vT t, .int .i64 l] (vC r) := by
  unfold oTo at h
  split at h <;> cases h
  rename_i hw
  exact .of_lt (4 * szT t + 40) fun n hn => (tof_c l (szT t) t (Nat.le_refl _) hw n hn).1
def oFrom (t : Ty) (l : Int) : Option Co := if Rt t then some (goC false l t) else none
theorem oFrom_ok {t : Ty} {l : Int} {r : Co} (h : oFrom t l = some r) : PRes (tabOf tabL) 18 [vT t, .int .i64 l] (vC r) := by
  unfold oFrom at h
  split at h <;> cases h
  rename_i hw
  exact .of_lt (4 * szT t + 40) fun n hn => (tof_c l (szT t) t (Nat.le_refl _) hw n hn).2
def oFirst (c : Co) (tag : Int) : Option Int := some (firstC c tag)
theorem oFirst_ok {c : Co} {tag r : Int} (h : oFirst c tag = some r) : PRes (tabOf tabL) 39 [vC c, .int .i64 tag] (.int .i64 r) := by
  cases h
  exact .of_lt 8 fun n hn => by obtain ⟨m, rfl⟩ : ∃ m, n = m + 1 := ⟨n - 1, by omega⟩; exact first_c m c tag (by omega)
def oCar (c : Co) : Option Co := if okC c = true then some (carC c) else none
theorem oCar_ok {c r : Co} (h : oCar c = some r) : PRes (tabOf tabL) 40 [vC c] (vC r) := by
  unfold oCar at h
  split at h <;> cases h
  rename_i hw
  exact .of_lt 1 fun n hn => by obtain ⟨m, rfl⟩ : ∃ m, n = m + 1 := ⟨n - 1, by omega⟩; exact car_c m c hw
def oCdr (c : Co) : Option Co := if okC c = true then some (cdrC c) else none
theorem oCdr_ok {c r : Co} (h : oCdr c = some r) : PRes (tabOf tabL) 41 [vC c] (vC r) := by
  unfold oCdr at h
  split at h <;> cases h
  rename_i hw
  exact .of_lt 1 fun n hn => by obtain ⟨m, rfl⟩ : ∃ m, n = m + 1 := ⟨n - 1, by omega⟩; exact cdr_c m c hw
end
end Go.Ev.Seat
namespace Go.Ev
set_option linter.unusedVariables false
open Go
inductive Dt where
  | mk (kind : Int) (text : List UInt8) (list : List Dt)
namespace Dt
def kind : Dt → Int | mk a _ _ => a
def text : Dt → List UInt8 | mk _ a _ => a
def list : Dt → List Dt | mk _ _ a => a
end Dt
inductive Tst where
  | mk (op : Int) (var : Int) (tags : Int) (yes : Bool) (of : List Tst)
namespace Tst
def op : Tst → Int | mk a _ _ _ _ => a
def var : Tst → Int | mk _ a _ _ _ => a
def tags : Tst → Int | mk _ _ a _ _ => a
def yes : Tst → Bool | mk _ _ _ a _ => a
def of : Tst → List Tst | mk _ _ _ _ a => a
end Tst
inductive Vl where
  | mk (tag : Int) (of : List Vl)
namespace Vl
def tag : Vl → Int | mk a _ => a
def of : Vl → List Vl | mk _ a => a
end Vl
mutual
def encVl : Vl → AVal
  | .mk x0 x1 => .agg ([.int .i64 x0, .lst (encVls x1) false])
def encVls : List Vl → List AVal
  | [] => []
  | x :: xs => encVl x :: encVls xs
end
def cVl (x : Vl) : List AVal := [.int .i64 x.tag, .lst (x.of.map encVl) false]
abbrev vVl (x : Vl) : AVal := .agg (cVl x)
theorem y4o : ∀ l : List Vl, encVls l = l.map encVl
  | [] => rfl
  | x :: xs => by simp only [encVls, List.map_cons, y4o xs]
theorem encVl_eq (x : Vl) : encVl x = .agg (cVl x) := by
  cases x; simp only [encVl, y4o, cVl, Vl.tag, Vl.of]
theorem y4c (x : Vl) : (encVl x).flat = cVl x := by rw [encVl_eq]; rfl
inductive Bnd where
  | mk (name : List UInt8) (depth : Int) (d : Dt) (row : List Bnd)
namespace Bnd
def name : Bnd → List UInt8 | mk a _ _ _ => a
def depth : Bnd → Int | mk _ a _ _ => a
def d : Bnd → Dt | mk _ _ a _ => a
def row : Bnd → List Bnd | mk _ _ _ a => a
end Bnd
structure Wy2 where
  s : Ty
  t : Ty
  a : Int
  b : Int
  out : Bool
def cWy2 (x : Wy2) : List AVal := cT x.s ++ cT x.t ++ [.int .i64 x.a, .int .i64 x.b, .bool x.out]
abbrev vWy2 (x : Wy2) : AVal := .agg (cWy2 x)
end Go.Ev
