/-
  Part 4 of a proof: TypesBack: for every input the law returns true, and what it was given reads behind the call as before. No conditions.
-/
import Derived.Test.YtpidcekngfnfjaaP3
namespace Go.Ev.Seat.TyS
set_option linter.unusedVariables false
set_option linter.unusedSimpArgs false
open Go Go.Ev
set_option maxRecDepth 20000
attribute [local irreducible] pcall callF
theorem list_c (n : Nat) (t : Ty) : pcall (tabOf tabL) (n + 1) 23 [vT t] = some (.ok (vT (listT t))) := by
  refine pcall_fin t23 ?_
  refine WL_seq ?_
  refine WL_reg ?_
  refine O_n rfl rfl rfl ?_
  refine O_n rfl rfl rfl ?_
  refine WO_nil ?_
  refine WL_seq ?_
  apply WLp
  · (repeat (first | exact rzz | apply rcc rfl | apply rnn rfl))
  refine WL_seq ?_
  refine WL_reg ?_
  refine O_h rfl rfl rfl rfl ?_
  refine O_h rfl rfl rfl rfl ?_
  refine O_p rfl rfl rfl ?_
  refine O_hn rfl rfl rfl rfl ?_
  refine WO_nil ?_
  refine WL_ret ?_
  exact ⟨_, rfl, _, rfl, by simp [vT, cT, listT, encT_eq, Ty.all, Ty.flat, Ty.pair, Ty.pairs, Ty.fn, Ty.funs]⟩
theorem all_c (n : Nat) : pcall (tabOf tabL) (n + 1) 27 [] = some (.ok (vT allT)) := by
  refine pcall_fin t27 ?_
  refine WL_seq ?_
  refine WL_reg ?_
  refine O_n rfl rfl rfl ?_
  refine WO_nil ?_
  refine WL_seq ?_
  apply WLp
  · (repeat (first | exact rzz | apply rcc rfl | apply rnn rfl))
  refine WL_seq ?_
  refine WL_reg ?_
  refine O_p rfl rfl rfl ?_
  refine O_hn rfl rfl rfl rfl ?_
  refine WO_nil ?_
  refine WL_ret ?_
  exact ⟨_, rfl, _, rfl, rfl⟩
theorem car_c (n : Nat) (t : Ty) (h : Rt t) : pcall (tabOf tabL) (n + 1) 14 [vT t] = some (.ok (.tup [vT (carT t), .bool (hasT t)])) := by
  refine pcall_fin t14 ?_
  refine WL_seq ?_
  refine WL_reg ?_
  refine O_n rfl rfl rfl ?_
  refine O_n rfl rfl rfl ?_
  refine O_p rfl rfl rfl ?_
  refine WO_nil ?_
  refine WL_seq ?_
  apply WLp
  · (repeat (first | exact rzz | apply rcc rfl | apply rnn rfl))
  refine WL_seq ?_
  refine WL_block ?_
  refine WL_seq ?_
  refine WL_reg ?_
  refine O_p rfl rfl rfl ?_
  refine O_h rfl rfl rfl rfl ?_
  refine O_p rfl rfl rfl ?_
  refine WO_nil ?_
  refine WL_seq ?_
  apply WLp
  · (repeat (first | exact rzz | apply rcc rfl | apply rnn rfl))
  refine WL_cond rfl (fun h4 => ?_) (fun h4 => ?_)
  · skip
    have hr : carT t = t := by simp [carT, h4]
    have hr2 : hasT t = true := by simp [hasT, h4]
    refine WL_seq ?_
    refine WL_reg ?_
    refine O_h rfl rfl rfl rfl ?_
    refine O_hn rfl rfl rfl rfl ?_
    refine O_p rfl rfl rfl ?_
    refine WO_nil ?_
    refine WL_ret ?_
    refine Blk_ret ?_
    exact ⟨_, rfl, _, rfl, by rw [hr, hr2]; rfl⟩
  · skip
    refine WL_seq ?_
    refine WL_reg ?_
    refine O_p rfl rfl rfl ?_
    refine O_h rfl rfl rfl rfl ?_
    refine O_p rfl rfl rfl ?_
    refine O_p rfl rfl rfl ?_
    refine WO_nil ?_
    refine WL_seq ?_
    apply WLp
    · (repeat (first | exact rzz | apply rcc rfl | apply rnn rfl))
    refine WL_cond rfl (fun h8 => ?_) (fun h8 => ?_)
    · skip
      simp at h8
      have hr : carT t = zeroT := by simp [carT, h4, h8]
      have hr2 : hasT t = false := by simp [hasT, h4, h8]
      refine WL_seq ?_
      refine WL_reg ?_
      refine O_p rfl rfl rfl ?_
      refine O_hn rfl rfl rfl rfl ?_
      refine O_p rfl rfl rfl ?_
      refine WO_nil ?_
      refine WL_ret ?_
      refine Blk_ret ?_
      exact ⟨_, rfl, _, rfl, by rw [hr, hr2]; rfl⟩
    · skip
      simp at h8
      obtain ⟨x, hx⟩ : ∃ x, t.pairs[0]? = some x := by
        have hm := (car_facts h h4 h8).1
        exact ⟨_, List.getElem?_eq_getElem (by have := List.length_pos_of_mem hm; omega)⟩
      have hr : carT t = x := by
        simp only [carT, h4, h8, if_false, Bool.false_eq_true]
        cases hp : t.pairs with
        | nil => rw [hp] at hx; cases hx
        | cons y ys => rw [hp] at hx; simpa using hx
      have hr2 : hasT t = true := by simp [hasT, h8]
      refine WL_skip ?_
      refine WL_nil ?_
      refine Blk_norm (?_ : WL _ _ _ _ _)
      refine WL_seq ?_
      apply WLp
      · (repeat (first | exact rzz | apply rcc rfl | apply rnn rfl))
      refine WL_seq ?_
      refine WL_reg ?_
      refine O_p rfl rfl rfl ?_
      refine O_h rfl rfl rfl rfl ?_
      refine O_ia rfl rfl (by decide) (encT_get (i := 0) hx) (encT_flat _) rfl ?_
      refine O_h rfl rfl rfl rfl ?_
      refine O_hn rfl rfl rfl rfl ?_
      refine O_p rfl rfl rfl ?_
      refine WO_nil ?_
      refine WL_ret ?_
      exact ⟨_, rfl, _, rfl, by rw [hr, hr2]; rfl⟩
theorem cdr_c (n : Nat) (t : Ty) (h : Rt t) : pcall (tabOf tabL) (n + 2) 16 [vT t] = some (.ok (.tup [vT (cdrT t), .bool (hasT t)])) := by
  have hk := okT_facts h.ok
  refine pcall_fin t16 ?_
  refine WL_seq ?_
  refine WL_reg ?_
  refine O_n rfl rfl rfl ?_
  refine O_n rfl rfl rfl ?_
  refine O_p rfl rfl rfl ?_
  refine WO_nil ?_
  refine WL_seq ?_
  apply WLp
  · (repeat (first | exact rzz | apply rcc rfl | apply rnn rfl))
  refine WL_seq ?_
  refine WL_block ?_
  refine WL_seq ?_
  refine WL_reg ?_
  refine O_p rfl rfl rfl ?_
  refine O_h rfl rfl rfl rfl ?_
  refine O_p rfl rfl rfl ?_
  refine WO_nil ?_
  refine WL_seq ?_
  apply WLp
  · (repeat (first | exact rzz | apply rcc rfl | apply rnn rfl))
  refine WL_cond rfl (fun h4 => ?_) (fun h4 => ?_)
  · skip
    have hr : cdrT t = t := by simp [cdrT, h4]
    have hr2 : hasT t = true := by simp [hasT, h4]
    refine WL_seq ?_
    refine WL_reg ?_
    refine O_h rfl rfl rfl rfl ?_
    refine O_hn rfl rfl rfl rfl ?_
    refine O_p rfl rfl rfl ?_
    refine WO_nil ?_
    refine WL_ret ?_
    refine Blk_ret ?_
    exact ⟨_, rfl, _, rfl, by rw [hr, hr2]; rfl⟩
  · skip
    refine WL_seq ?_
    refine WL_reg ?_
    refine O_p rfl rfl rfl ?_
    refine O_h rfl rfl rfl rfl ?_
    refine O_p rfl rfl rfl ?_
    refine O_p rfl rfl rfl ?_
    refine WO_nil ?_
    refine WL_seq ?_
    apply WLp
    · (repeat (first | exact rzz | apply rcc rfl | apply rnn rfl))
    refine WL_cond rfl (fun h8 => ?_) (fun h8 => ?_)
    · skip
      simp at h8
      have hr : cdrT t = zeroT := by simp [cdrT, h4, h8]
      have hr2 : hasT t = false := by simp [hasT, h4, h8]
      refine WL_seq ?_
      refine WL_reg ?_
      refine O_p rfl rfl rfl ?_
      refine O_hn rfl rfl rfl rfl ?_
      refine O_p rfl rfl rfl ?_
      refine WO_nil ?_
      refine WL_ret ?_
      refine Blk_ret ?_
      exact ⟨_, rfl, _, rfl, by rw [hr, hr2]; rfl⟩
    · skip
      simp at h8
      have hr2 : hasT t = true := by simp [hasT, h8]
      refine WL_seq ?_
      refine WL_reg ?_
      refine O_p rfl rfl rfl ?_
      refine O_h rfl rfl rfl rfl ?_
      refine O_p rfl rfl rfl ?_
      refine O_p rfl rfl rfl ?_
      refine WO_nil ?_
      refine WL_seq ?_
      apply WLp
      · (repeat (first | exact rzz | apply rcc rfl | apply rnn rfl))
      refine WL_cond rfl (fun h13 => ?_) (fun h13 => ?_)
      · skip
        simp at h13
        obtain ⟨x, hp⟩ := hk.2.2.2.2.2.2.1 h13
        have hx : t.pairs[0]? = some x := by rw [hp]; rfl
        have hr : cdrT t = listT x := by simp [cdrT, h4, h8, h13, hp]
        refine WL_seq ?_
        refine WL_reg ?_
        refine O_p rfl rfl rfl ?_
        refine O_h rfl rfl rfl rfl ?_
        refine O_ia rfl rfl (by decide) (encT_get (i := 0) hx) (encT_flat _) rfl ?_
        refine O_h rfl rfl rfl rfl ?_
        refine O_c 23 rfl rfl (callA_of rfl (list_c n x)) ?_
        refine O_hn rfl rfl rfl rfl ?_
        refine O_p rfl rfl rfl ?_
        refine WO_nil ?_
        refine WL_ret ?_
        refine Blk_ret ?_
        exact ⟨_, rfl, _, rfl, by rw [hr, hr2]; rfl⟩
      · skip
        simp at h13
        obtain ⟨y, x, hp⟩ := hk.2.2.2.2.2.1 (by omega)
        have hx : t.pairs[1]? = some x := by rw [hp]; rfl
        have hr : cdrT t = x := by simp [cdrT, h4, h8, h13, hp]
        refine WL_skip ?_
        refine WL_nil ?_
        refine Blk_norm (?_ : WL _ _ _ _ _)
        refine WL_seq ?_
        apply WLp
        · (repeat (first | exact rzz | apply rcc rfl | apply rnn rfl))
        refine WL_seq ?_
        refine WL_reg ?_
        refine O_p rfl rfl rfl ?_
        refine O_h rfl rfl rfl rfl ?_
        refine O_ia rfl rfl (by decide) (encT_get (i := 1) hx) (encT_flat _) rfl ?_
        refine O_h rfl rfl rfl rfl ?_
        refine O_hn rfl rfl rfl rfl ?_
        refine O_p rfl rfl rfl ?_
        refine WO_nil ?_
        refine WL_ret ?_
        exact ⟨_, rfl, _, rfl, by rw [hr, hr2]; rfl⟩
def outB (f p g : Int) (gs : List Ty) (x : AVal) : ABlock := .cells [.bool false, .int .i64 f, .int .i64 p, x, .int .i64 g, .lst (gs.map encT) false]
def zeroB : ABlock := .cells [.bool false, .int .i64 0, .int .i64 0, .lst [] true, .int .i64 0, .lst [] true]
theorem join1_c (m : Nat) (a b x y u w r : Ty) (f p g : Int) (gs : List Ty) (h : pcall (tabOf tabL) m 18 [vT x, vT y] = some (.ok (vT r))) :
    callA ⟨callF (tabOf tabL) (m + 1), m + 1⟩ false 36 [vT x, vT y, .ptr 3 0] [.cells (cT a), .cells (cT b), zeroB, outB f p g gs (.lst [] true), .cells (cT a), .cells (cT b), .cells (cT u), .cells (cT w)] =
      some (.ok (.tup []), [.cells (cT a), .cells (cT b), zeroB, outB f p g gs (.gl 10 1), .cells (cT a), .cells (cT b), .cells (cT u), .cells (cT w), .cells (cT x), .cells (cT y), .grow 6 [vT r] none]) := by
  refine callA_nr (H1 := [.cells (cT a), .cells (cT b), zeroB, outB f p g gs (.gl 10 1), .cells (cT a), .cells (cT b), .cells (cT u), .cells (cT w), .cells (cT x), .cells (cT y), .grow 6 [vT r] none]) rfl ?_ rfl
  refine callF_fin t36 ?_
  refine WL_seq ?_
  refine WL_reg ?_
  refine O_n rfl rfl rfl ?_
  refine O_n rfl rfl rfl ?_
  refine WO_nil ?_
  refine WL_seq ?_
  apply WLp
  · (repeat (first | exact rzz | apply rcc rfl | apply rnn rfl))
  refine WL_draw ?_
  refine D_p rfl rfl rfl ?_
  refine D_h (d := some 6) rfl rfl rfl rfl rfl ?_
  refine D_h (d := some 7) rfl rfl rfl rfl rfl ?_
  refine D_h (d := some 8) rfl rfl rfl rfl rfl ?_
  refine D_c 18 rfl rfl rfl (callA_of rfl h) ?_
  refine D_h (d := some 10) rfl rfl rfl rfl rfl ?_
  refine D_h (d := some 11) rfl rfl rfl rfl rfl ?_
  refine D_o (d := some 12) rfl rfl rfl rfl rfl ?_
  refine D_h (d := some 13) rfl rfl rfl rfl rfl ?_
  refine D_h (d := none) rfl rfl rfl rfl rfl ?_
  refine D_p rfl rfl rfl ?_
  refine D_h (d := none) rfl rfl rfl rfl rfl ?_
  refine WD_nil ⟨by first | rfl | (simp [okFs, okEarlier, disj, notIn, noneIn, sameOn, sameB_self, glsL, glsV, partsGls, AOpd.ev, zeroB, outB] <;> (repeat' apply And.intro) <;> rfl), ?_⟩
  refine WL_nil ?_
  exact ⟨_, rfl, rfl, rfl⟩
theorem join2_c (m : Nat) (a b x y u w r r2 z1 z2 : Ty) (f p g : Int) (gs : List Ty) (h : pcall (tabOf tabL) m 18 [vT x, vT y] = some (.ok (vT r2))) :
    callA ⟨callF (tabOf tabL) (m + 1), m + 1⟩ false 36 [vT x, vT y, .ptr 3 0] [.cells (cT a), .cells (cT b), zeroB, outB f p g gs (.gl 10 1), .cells (cT a), .cells (cT b), .cells (cT u), .cells (cT w), .cells (cT z1), .cells (cT z2), .grow 6 [vT r] none] =
      some (.ok (.tup []), [.cells (cT a), .cells (cT b), zeroB, outB f p g gs (.gl 10 2), .cells (cT a), .cells (cT b), .cells (cT u), .cells (cT w), .cells (cT z1), .cells (cT z2), .grow 6 [vT r, vT r2] none]) := by
  refine callA_nr (H1 := [.cells (cT a), .cells (cT b), zeroB, outB f p g gs (.gl 10 2), .cells (cT a), .cells (cT b), .cells (cT u), .cells (cT w), .cells (cT z1), .cells (cT z2), .grow 6 [vT r, vT r2] none, .cells (cT x), .cells (cT y), .hole]) rfl ?_ rfl
  refine callF_fin t36 ?_
  refine WL_seq ?_
  refine WL_reg ?_
  refine O_n rfl rfl rfl ?_
  refine O_n rfl rfl rfl ?_
  refine WO_nil ?_
  refine WL_seq ?_
  apply WLp
  · (repeat (first | exact rzz | apply rcc rfl | apply rnn rfl))
  refine WL_draw ?_
  refine D_p rfl rfl rfl ?_
  refine D_h (d := some 6) rfl rfl rfl rfl rfl ?_
  refine D_h (d := some 7) rfl rfl rfl rfl rfl ?_
  refine D_h (d := some 8) rfl rfl rfl rfl rfl ?_
  refine D_c 18 rfl rfl rfl (callA_of rfl h) ?_
  refine D_h (d := some 10) rfl rfl rfl rfl rfl ?_
  refine D_h (d := some 11) rfl rfl rfl rfl rfl ?_
  refine D_o (d := some 12) rfl rfl rfl rfl rfl ?_
  refine D_h (d := some 13) rfl rfl rfl rfl rfl ?_
  refine D_h (d := none) rfl rfl rfl rfl rfl ?_
  refine D_p rfl rfl rfl ?_
  refine D_h (d := none) rfl rfl rfl rfl rfl ?_
  refine WD_nil ⟨by first | rfl | (simp [okFs, okEarlier, disj, notIn, noneIn, sameOn, sameB_self, glsL, glsV, partsGls, AOpd.ev, zeroB, outB] <;> (repeat' apply And.intro) <;> rfl), ?_⟩
  refine WL_nil ?_
  exact ⟨_, rfl, rfl, rfl⟩
theorem both_join1 (m : Nat) (a b r : Ty) (f p g : Int) (gs : List Ty) (ha : Rt a) (hb : Rt b) (hp : a.pair = 2 ∧ b.pair = 2) (h1 : pcall (tabOf tabL) m 18 [vT (carT a), vT (carT b)] = some (.ok (vT r))) (hm : 1 ≤ m) :
    callA ⟨callF (tabOf tabL) (m + 2), m + 2⟩ false 35 [vT a, vT b, .fn 36 [.ptr 3 0]] [.cells (cT a), .cells (cT b), zeroB, outB f p g gs (.lst [] true)] =
      some (.ok (.tup []), [.cells (cT a), .cells (cT b), zeroB, outB f p g gs (.gl 10 1), .cells (cT a), .cells (cT b), .cells (cT (carT a)), .cells (cT (carT b)), .cells (cT (carT a)), .cells (cT (carT b)), .grow 6 [vT r] none]) := by
  obtain ⟨m, rfl⟩ : ∃ q, m = q + 1 := ⟨m - 1, by omega⟩
  refine callA_nr (H1 := [.cells (cT a), .cells (cT b), zeroB, outB f p g gs (.gl 10 1), .cells (cT a), .cells (cT b), .cells (cT (carT a)), .cells (cT (carT b)), .cells (cT (carT a)), .cells (cT (carT b)), .grow 6 [vT r] none]) rfl ?_ rfl
  refine callF_fin t35 ?_
  refine WL_seq ?_
  refine WL_reg ?_
  refine O_n rfl rfl rfl ?_
  refine O_n rfl rfl rfl ?_
  refine WO_nil ?_
  refine WL_seq ?_
  apply WLp
  · (repeat (first | exact rzz | apply rcc rfl | apply rnn rfl))
  refine WL_seq ?_
  refine WL_reg ?_
  refine O_h rfl rfl rfl rfl ?_
  refine O_c 14 rfl rfl (callA_of rfl (car_c (m + 1) a ha)) ?_
  refine O_p rfl rfl rfl ?_
  refine O_p rfl rfl rfl ?_
  refine O_p rfl rfl rfl ?_
  refine O_n rfl rfl rfl ?_
  refine O_hn rfl rfl rfl rfl ?_
  refine O_p rfl rfl rfl ?_
  refine WO_nil ?_
  refine WL_seq ?_
  apply WLp
  · (repeat (first | exact rzz | apply rcc rfl | apply rnn rfl))
  refine WL_seq ?_
  refine WL_reg ?_
  refine O_h rfl rfl rfl rfl ?_
  refine O_c 14 rfl rfl (callA_of rfl (car_c (m + 1) b hb)) ?_
  refine O_p rfl rfl rfl ?_
  refine O_p rfl rfl rfl ?_
  refine O_p rfl rfl rfl ?_
  refine O_n rfl rfl rfl ?_
  refine O_hn rfl rfl rfl rfl ?_
  refine O_p rfl rfl rfl ?_
  refine WO_nil ?_
  refine WL_seq ?_
  apply WLp
  · (repeat (first | exact rzz | apply rcc rfl | apply rnn rfl))
  refine WL_seq ?_
  refine WL_reg ?_
  refine O_p rfl rfl rfl ?_
  refine O_h rfl rfl rfl rfl ?_
  refine O_h rfl rfl rfl rfl ?_
  refine O_cv rfl rfl (join1_c (m + 1) a b (carT a) (carT b) (carT a) (carT b) r f p g gs h1) ?_
  refine WO_nil ?_
  refine WL_seq ?_
  apply WLp
  · (repeat (first | exact rzz | apply rcc rfl | apply rnn rfl))
  refine WL_seq ?_
  refine WL_seq ?_
  refine WL_reg ?_
  refine O_p rfl rfl rfl ?_
  refine O_h rfl rfl rfl rfl ?_
  refine O_p rfl rfl rfl ?_
  refine O_p rfl rfl rfl ?_
  apply O_and [_, _, _] rfl rfl (hT := ?hT31) (h := ?hR31)
  case hT31 =>
    intro hb27
    refine O_p rfl rfl rfl ?_
    refine O_h rfl rfl rfl rfl ?_
    refine O_p rfl rfl rfl ?_
    exact WO_nil (WL_nil ⟨rfl, rfl, rfl⟩)
  case hR31 =>
    intro vs hvs
    obtain ⟨u28, u29, u30, rfl⟩ := len3 hvs
    clear hvs; dsimp only [junk]
    refine WO_nil ?_
    refine WL_seq ?_
    apply WLp
    · (repeat (first | exact rzz | apply rcc rfl | apply rnn rfl))
    try clear u28 u29 u30
    refine WL_cond rfl (fun h31 => ?_) (fun h31 => ?_)
    · skip
      refine WL_ret ?_
      exact ⟨_, rfl, rfl, rfl⟩
    · skip
      simp [hp] at h31
theorem both_join2 (m : Nat) (a b r r2 : Ty) (f p g : Int) (gs : List Ty) (ha : Rt a) (hb : Rt b) (hp : ¬(a.pair = 2 ∧ b.pair = 2)) (h1 : pcall (tabOf tabL) m 18 [vT (carT a), vT (carT b)] = some (.ok (vT r)))
    (h2 : pcall (tabOf tabL) m 18 [vT (cdrT a), vT (cdrT b)] = some (.ok (vT r2))) (hm : 1 ≤ m) :
    callA ⟨callF (tabOf tabL) (m + 2), m + 2⟩ false 35 [vT a, vT b, .fn 36 [.ptr 3 0]] [.cells (cT a), .cells (cT b), zeroB, outB f p g gs (.lst [] true)] =
      some (.ok (.tup []), [.cells (cT a), .cells (cT b), zeroB, outB f p g gs (.gl 10 2), .cells (cT a), .cells (cT b), .cells (cT (cdrT a)), .cells (cT (cdrT b)), .cells (cT (carT a)), .cells (cT (carT b)), .grow 6 [vT r, vT r2] none]) := by
  obtain ⟨m, rfl⟩ : ∃ q, m = q + 1 := ⟨m - 1, by omega⟩
  refine callA_nr (H1 := [.cells (cT a), .cells (cT b), zeroB, outB f p g gs (.gl 10 2), .cells (cT a), .cells (cT b), .cells (cT (cdrT a)), .cells (cT (cdrT b)), .cells (cT (carT a)), .cells (cT (carT b)), .grow 6 [vT r, vT r2] none]) rfl ?_ rfl
  refine callF_fin t35 ?_
  refine WL_seq ?_
  refine WL_reg ?_
  refine O_n rfl rfl rfl ?_
  refine O_n rfl rfl rfl ?_
  refine WO_nil ?_
  refine WL_seq ?_
  apply WLp
  · (repeat (first | exact rzz | apply rcc rfl | apply rnn rfl))
  refine WL_seq ?_
  refine WL_reg ?_
  refine O_h rfl rfl rfl rfl ?_
  refine O_c 14 rfl rfl (callA_of rfl (car_c (m + 1) a ha)) ?_
  refine O_p rfl rfl rfl ?_
  refine O_p rfl rfl rfl ?_
  refine O_p rfl rfl rfl ?_
  refine O_n rfl rfl rfl ?_
  refine O_hn rfl rfl rfl rfl ?_
  refine O_p rfl rfl rfl ?_
  refine WO_nil ?_
  refine WL_seq ?_
  apply WLp
  · (repeat (first | exact rzz | apply rcc rfl | apply rnn rfl))
  refine WL_seq ?_
  refine WL_reg ?_
  refine O_h rfl rfl rfl rfl ?_
  refine O_c 14 rfl rfl (callA_of rfl (car_c (m + 1) b hb)) ?_
  refine O_p rfl rfl rfl ?_
  refine O_p rfl rfl rfl ?_
  refine O_p rfl rfl rfl ?_
  refine O_n rfl rfl rfl ?_
  refine O_hn rfl rfl rfl rfl ?_
  refine O_p rfl rfl rfl ?_
  refine WO_nil ?_
  refine WL_seq ?_
  apply WLp
  · (repeat (first | exact rzz | apply rcc rfl | apply rnn rfl))
  refine WL_seq ?_
  refine WL_reg ?_
  refine O_p rfl rfl rfl ?_
  refine O_h rfl rfl rfl rfl ?_
  refine O_h rfl rfl rfl rfl ?_
  refine O_cv rfl rfl (join1_c (m + 1) a b (carT a) (carT b) (carT a) (carT b) r f p g gs h1) ?_
  refine WO_nil ?_
  refine WL_seq ?_
  apply WLp
  · (repeat (first | exact rzz | apply rcc rfl | apply rnn rfl))
  refine WL_seq ?_
  refine WL_seq ?_
  refine WL_reg ?_
  refine O_p rfl rfl rfl ?_
  refine O_h rfl rfl rfl rfl ?_
  refine O_p rfl rfl rfl ?_
  refine O_p rfl rfl rfl ?_
  apply O_and [_, _, _] rfl rfl (hT := ?hT31) (h := ?hR31)
  case hT31 =>
    intro hb27
    refine O_p rfl rfl rfl ?_
    refine O_h rfl rfl rfl rfl ?_
    refine O_p rfl rfl rfl ?_
    exact WO_nil (WL_nil ⟨rfl, rfl, rfl⟩)
  case hR31 =>
    intro vs hvs
    obtain ⟨u28, u29, u30, rfl⟩ := len3 hvs
    clear hvs; dsimp only [junk]
    refine WO_nil ?_
    refine WL_seq ?_
    apply WLp
    · (repeat (first | exact rzz | apply rcc rfl | apply rnn rfl))
    try clear u28 u29 u30
    refine WL_cond rfl (fun h31 => ?_) (fun h31 => ?_)
    · skip
      simp at h31; exact absurd h31 hp
    · skip
      refine WL_skip ?_
      refine WL_seq ?_
      apply WLp
      · (repeat (first | exact rzz | apply rcc rfl | apply rnn rfl))
      refine WL_seq ?_
      refine WL_reg ?_
      refine O_h rfl rfl rfl rfl ?_
      refine O_c 16 rfl rfl (callA_of rfl (cdr_c m a ha)) ?_
      refine O_p rfl rfl rfl ?_
      refine O_p rfl rfl rfl ?_
      refine O_p rfl rfl rfl ?_
      refine O_hn rfl rfl rfl rfl ?_
      refine WO_nil ?_
      refine WL_seq ?_
      apply WLp
      · (repeat (first | exact rzz | apply rcc rfl | apply rnn rfl))
      refine WL_seq ?_
      refine WL_reg ?_
      refine O_h rfl rfl rfl rfl ?_
      refine O_c 16 rfl rfl (callA_of rfl (cdr_c m b hb)) ?_
      refine O_p rfl rfl rfl ?_
      refine O_p rfl rfl rfl ?_
      refine O_p rfl rfl rfl ?_
      refine O_hn rfl rfl rfl rfl ?_
      refine WO_nil ?_
      refine WL_seq ?_
      apply WLp
      · (repeat (first | exact rzz | apply rcc rfl | apply rnn rfl))
      refine WL_reg ?_
      refine O_p rfl rfl rfl ?_
      refine O_h rfl rfl rfl rfl ?_
      refine O_h rfl rfl rfl rfl ?_
      refine O_cv rfl rfl (join2_c (m + 1) a b (cdrT a) (cdrT b) (cdrT a) (cdrT b) r r2 (carT a) (carT b) f p g gs h2) ?_
      refine WO_nil ?_
      refine WL_nil ?_
      exact ⟨_, rfl, rfl, rfl⟩
end Go.Ev.Seat.TyS
namespace Go.Ev.Seat.TyS
set_option linter.unusedVariables false
set_option linter.unusedSimpArgs false
open Go Go.Ev
set_option maxRecDepth 20000
attribute [local irreducible] pcall callF
set_option maxHeartbeats 400000 in
theorem join_l (k n : Nat) (a b : Ty) (ha : Rt a) (hb : Rt b) (wa : WfT a) (wb : WfT b) (h : szT a + szT b ≤ k + 1) (hn : 20 * (k + 1) + 20 < n + 3) (hp : a.pair = 2 ∧ b.pair = 2)
    (ih : ∀ (n : Nat) (a b : Ty), Rt a → Rt b → WfT a → WfT b → szT a + szT b ≤ k → 20 * k + 20 < n → pcall (tabOf tabL) n 18 [vT a, vT b] = some (.ok (vT (joinT k a b)))) :
    pcall (tabOf tabL) (n + 3) 18 [vT a, vT b] = some (.ok (vT (joinT (k + 1) a b))) := by
  have fa := okT_facts ha.ok
  have fb := okT_facts hb.ok
  have hl1 := len_pairs a
  have hl2 := len_funs a
  have hF := or_orF fa.1 fb.1
  have hE : pcall (tabOf tabL) (n + 2) 34 [.lst (a.funs.map encT) false, .lst (b.funs.map encT) false, .fn 12 []] = some (.ok (.bool (sameTs a.funs b.funs))) :=
    equal_c (n + 1) a.funs b.funs 12 (by omega) (by cases wa; assumption) (fun x hx y => same_c (n + 1) x y (by have := szT_funs hx; omega) (wa.funs hx))
  refine pcall_fin t18 ?_
  refine WL_seq ?_
  refine WL_reg ?_
  refine O_n rfl rfl rfl ?_
  refine O_n rfl rfl rfl ?_
  refine O_n rfl rfl rfl ?_
  refine WO_nil ?_
  refine WL_seq ?_
  apply WLp
  · (repeat (first | exact rzz | apply rcc rfl | apply rnn rfl))
  conv => arg 4; (try simp only [nrm, Nat.reduceAdd, pCT, tCT, putCells, AVal.flat])
  conv => arg 3; (try simp only [nrm, Nat.reduceAdd, pCT, tCT, putCells, AVal.flat])
  refine WL_seq ?_
  refine WL_seq ?_
  refine WL_reg ?_
  refine O_p rfl rfl rfl ?_
  refine O_h rfl rfl rfl rfl ?_
  refine O_p rfl rfl rfl ?_
  apply O_or [_, _] rfl rfl (hT := ?hT11) (h := ?hR11)
  case hT11 =>
    intro hb8
    refine O_p rfl rfl rfl ?_
    refine O_h rfl rfl rfl rfl ?_
    exact WO_nil (WL_nil ⟨rfl, rfl, rfl⟩)
  case hR11 =>
    intro vs hvs
    obtain ⟨u9, u10, rfl⟩ := len2 hvs
    clear hvs; dsimp only [junk]
    refine WO_nil ?_
    refine WL_seq ?_
    apply WLp
    · (repeat (first | exact rzz | apply rcc rfl | apply rnn rfl))
    conv => arg 4; (try simp only [nrm, Nat.reduceAdd, pCT, tCT, putCells, AVal.flat])
    conv => arg 3; (try simp only [nrm, Nat.reduceAdd, pCT, tCT, putCells, AVal.flat])
    try clear u9 u10
    refine WL_cond rfl (fun h11 => ?_) (fun h11 => ?_)
    · skip
      have hJ := joinT_all k a b h11
      refine WL_seq ?_
      refine WL_reg ?_
      refine O_c 27 rfl rfl (callA_of rfl (all_c (n + 1))) ?_
      refine O_hn rfl rfl rfl rfl ?_
      refine WO_nil ?_
      refine WL_ret ?_
      refine ⟨_, rfl, _, rfl, ?_⟩
      first | (rw [hF, hJ, hP, hG]; simp [vT, cT, Ty.all, Ty.flat, Ty.pair, Ty.pairs, Ty.fn, Ty.funs, hF, encT_eq]; done) | (rw [hJ]; rfl)
    · skip
      have hJ := joinT_succ k a b h11
      simp at h11
      refine WL_skip ?_
      refine WL_seq ?_
      apply WLp
      · (repeat (first | exact rzz | apply rcc rfl | apply rnn rfl))
      conv => arg 4; (try simp only [nrm, Nat.reduceAdd, pCT, tCT, putCells, AVal.flat])
      conv => arg 3; (try simp only [nrm, Nat.reduceAdd, pCT, tCT, putCells, AVal.flat])
      refine WL_seq ?_
      refine WL_reg ?_
      refine O_p rfl rfl rfl ?_
      refine O_h rfl rfl rfl rfl ?_
      refine O_p rfl rfl rfl ?_
      refine O_h rfl rfl rfl rfl ?_
      refine O_p rfl rfl rfl ?_
      refine O_p rfl rfl rfl ?_
      refine O_h rfl rfl rfl rfl ?_
      refine O_p rfl rfl rfl ?_
      refine O_h rfl rfl rfl rfl ?_
      refine O_p rfl rfl rfl ?_
      refine O_h rfl rfl rfl rfl ?_
      refine O_p rfl rfl rfl ?_
      refine O_h rfl rfl rfl rfl ?_
      refine O_p rfl rfl rfl ?_
      refine O_n rfl rfl rfl ?_
      refine O_hn rfl rfl rfl rfl ?_
      refine WO_nil ?_
      refine WL_seq ?_
      apply WLp
      · (repeat (first | exact rzz | apply rcc rfl | apply rnn rfl))
      conv => arg 4; (try simp only [nrm, Nat.reduceAdd, pCT, tCT, putCells, AVal.flat])
      conv => arg 3; (try simp only [nrm, Nat.reduceAdd, pCT, tCT, putCells, AVal.flat])
      refine WL_seq ?_
      refine WL_block ?_
      refine WL_seq ?_
      refine WL_reg ?_
      refine O_p rfl rfl rfl ?_
      refine O_h rfl rfl rfl rfl ?_
      refine O_p rfl rfl rfl ?_
      refine O_p rfl rfl rfl ?_
      refine WO_nil ?_
      refine WL_seq ?_
      apply WLp
      · (repeat (first | exact rzz | apply rcc rfl | apply rnn rfl))
      conv => arg 4; (try simp only [nrm, Nat.reduceAdd, pCT, tCT, putCells, AVal.flat])
      conv => arg 3; (try simp only [nrm, Nat.reduceAdd, pCT, tCT, putCells, AVal.flat])
      refine WL_cond rfl (fun h27 => ?_) (fun h27 => ?_)
      · skip
        have hP : joinP k a b = (b.pair, b.pairs) := by simp at h27; simp [joinP, h27]
        refine WL_draw0 ?_
        refine D_p rfl rfl rfl ?_
        refine D_h (d := some 32) rfl rfl rfl rfl rfl ?_
        refine D_p rfl rfl rfl ?_
        refine D_h (d := some 34) rfl rfl rfl rfl rfl ?_
        refine D_p rfl rfl rfl ?_
        refine D_h (d := none) rfl rfl rfl rfl rfl ?_
        refine D_p rfl rfl rfl ?_
        refine D_h (d := none) rfl rfl rfl rfl rfl ?_
        refine WD_nil ⟨by first | rfl | (simp [okFs, okEarlier, disj, notIn, noneIn, sameOn, sameB_self, glsL, glsV, partsGls, AOpd.ev, zeroB, outB] <;> (repeat' apply And.intro) <;> rfl), ?_⟩
        refine WL_nil ?_
        refine Blk_norm (?_ : WL _ _ _ _ _)
        refine WL_seq ?_
        apply WLp
        · (repeat (first | exact rzz | apply rcc rfl | apply rnn rfl))
        conv => arg 4; (try simp only [nrm, Nat.reduceAdd, pCT, tCT, putCells, AVal.flat])
        conv => arg 3; (try simp only [nrm, Nat.reduceAdd, pCT, tCT, putCells, AVal.flat])
        refine WL_seq ?_
        refine WL_block ?_
        refine WL_seq ?_
        refine WL_reg ?_
        refine O_p rfl rfl rfl ?_
        refine O_h rfl rfl rfl rfl ?_
        refine O_p rfl rfl rfl ?_
        refine O_p rfl rfl rfl ?_
        refine WO_nil ?_
        refine WL_seq ?_
        apply WLp
        · (repeat (first | exact rzz | apply rcc rfl | apply rnn rfl))
        conv => arg 4; (try simp only [nrm, Nat.reduceAdd, pCT, tCT, putCells, AVal.flat])
        conv => arg 3; (try simp only [nrm, Nat.reduceAdd, pCT, tCT, putCells, AVal.flat])
        refine WL_cond rfl (fun h52 => ?_) (fun h52 => ?_)
        · skip
          have hG : joinG a b = (b.fn, b.funs) := by simp at h52; simp [joinG, h52]
          refine WL_draw0 ?_
          refine D_p rfl rfl rfl ?_
          refine D_h (d := some 57) rfl rfl rfl rfl rfl ?_
          refine D_p rfl rfl rfl ?_
          refine D_h (d := some 59) rfl rfl rfl rfl rfl ?_
          refine D_p rfl rfl rfl ?_
          refine D_h (d := none) rfl rfl rfl rfl rfl ?_
          refine D_p rfl rfl rfl ?_
          refine D_h (d := none) rfl rfl rfl rfl rfl ?_
          refine WD_nil ⟨by first | rfl | (simp [okFs, okEarlier, disj, notIn, noneIn, sameOn, sameB_self, glsL, glsV, partsGls, AOpd.ev, zeroB, outB] <;> (repeat' apply And.intro) <;> rfl), ?_⟩
          refine WL_nil ?_
          refine Blk_norm (?_ : WL _ _ _ _ _)
          refine WL_seq ?_
          apply WLp
          · (repeat (first | exact rzz | apply rcc rfl | apply rnn rfl))
          conv => arg 4; (try simp only [nrm, Nat.reduceAdd, pCT, tCT, putCells, AVal.flat])
          conv => arg 3; (try simp only [nrm, Nat.reduceAdd, pCT, tCT, putCells, AVal.flat])
          refine WL_seq ?_
          refine WL_reg ?_
          refine O_h rfl rfl rfl rfl ?_
          refine O_hn rfl rfl rfl rfl ?_
          refine WO_nil ?_
          refine WL_ret ?_
          refine ⟨_, rfl, _, rfl, ?_⟩
          first | (rw [hF, hJ, hP, hG]; simp [vT, cT, Ty.all, Ty.flat, Ty.pair, Ty.pairs, Ty.fn, Ty.funs, hF, encT_eq]; done) | (rw [hJ]; rfl)
        · skip
          simp at h52
          refine WL_seq ?_
          refine WL_reg ?_
          refine O_p rfl rfl rfl ?_
          refine O_h rfl rfl rfl rfl ?_
          refine O_p rfl rfl rfl ?_
          refine O_p rfl rfl rfl ?_
          apply O_and [_, _, _, _, _, _, _, _, _, _, _, _, _] rfl rfl (hT := ?hT80) (h := ?hR80)
          case hT80 =>
            intro hb66
            refine O_p rfl rfl rfl ?_
            refine O_h rfl rfl rfl rfl ?_
            refine O_p rfl rfl rfl ?_
            refine O_h rfl rfl rfl rfl ?_
            refine O_p rfl rfl rfl ?_
            refine O_p rfl rfl rfl ?_
            apply O_and [_, _, _, _, _] rfl rfl (hT := ?hT78) (h := ?hR78)
            case hT78 =>
              intro hb72
              refine O_p rfl rfl rfl ?_
              refine O_h rfl rfl rfl rfl ?_
              refine O_p rfl rfl rfl ?_
              refine O_h rfl rfl rfl rfl ?_
              refine O_c 34 rfl rfl (callA_of rfl hE) ?_
              exact WO_nil (WL_nil ⟨rfl, rfl, rfl⟩)
            case hR78 =>
              intro vs hvs
              obtain ⟨u73, u74, u75, u76, u77, rfl⟩ := len5 hvs
              clear hvs; dsimp only [junk]
              refine O_p rfl rfl rfl ?_
              exact WO_nil (WL_nil ⟨rfl, rfl, rfl⟩)
          case hR80 =>
            intro vs hvs
            obtain ⟨u67, u68, u69, u70, u71, u72, u73, u74, u75, u76, u77, u78, u79, rfl⟩ := len13 hvs
            clear hvs; dsimp only [junk]
            refine O_p rfl rfl rfl ?_
            refine WO_nil ?_
            refine WL_seq ?_
            apply WLp
            · (repeat (first | exact rzz | apply rcc rfl | apply rnn rfl))
            conv => arg 4; (try simp only [nrm, Nat.reduceAdd, pCT, tCT, putCells, AVal.flat])
            conv => arg 3; (try simp only [nrm, Nat.reduceAdd, pCT, tCT, putCells, AVal.flat])
            try clear u73 u74 u75 u76 u77 u67 u68 u69 u70 u71 u72 u73 u74 u75 u76 u77 u78 u79
            refine WL_cond rfl (fun h62 => ?_) (fun h62 => ?_)
            · skip
              have hG : joinG a b = (2, []) := by
                simp at h62; unfold joinG
                rw [if_neg h52, if_pos ⟨h62.1, by rintro ⟨q1, q2⟩; rcases h62.2 with q | q; exact q q1; rw [q] at q2; cases q2⟩]
              refine WL_reg ?_
              refine O_p rfl rfl rfl ?_
              refine O_hn rfl rfl rfl rfl ?_
              refine O_p rfl rfl rfl ?_
              refine O_hn rfl rfl rfl rfl ?_
              refine WO_nil ?_
              refine WL_nil ?_
              refine Blk_norm (?_ : WL _ _ _ _ _)
              refine WL_seq ?_
              apply WLp
              · (repeat (first | exact rzz | apply rcc rfl | apply rnn rfl))
              conv => arg 4; (try simp only [nrm, Nat.reduceAdd, pCT, tCT, putCells, AVal.flat])
              conv => arg 3; (try simp only [nrm, Nat.reduceAdd, pCT, tCT, putCells, AVal.flat])
              refine WL_seq ?_
              refine WL_reg ?_
              refine O_h rfl rfl rfl rfl ?_
              refine O_hn rfl rfl rfl rfl ?_
              refine WO_nil ?_
              refine WL_ret ?_
              refine ⟨_, rfl, _, rfl, ?_⟩
              first | (rw [hF, hJ, hP, hG]; simp [vT, cT, Ty.all, Ty.flat, Ty.pair, Ty.pairs, Ty.fn, Ty.funs, hF, encT_eq]; done) | (rw [hJ]; rfl)
            · skip
              have hG : joinG a b = (a.fn, a.funs) := by
                simp at h62; unfold joinG
                rw [if_neg h52, if_neg (by rintro ⟨q1, q2⟩; exact q2 (h62 q1))]
              refine WL_skip ?_
              refine WL_nil ?_
              refine Blk_norm (?_ : WL _ _ _ _ _)
              refine WL_seq ?_
              apply WLp
              · (repeat (first | exact rzz | apply rcc rfl | apply rnn rfl))
              conv => arg 4; (try simp only [nrm, Nat.reduceAdd, pCT, tCT, putCells, AVal.flat])
              conv => arg 3; (try simp only [nrm, Nat.reduceAdd, pCT, tCT, putCells, AVal.flat])
              refine WL_seq ?_
              refine WL_reg ?_
              refine O_h rfl rfl rfl rfl ?_
              refine O_hn rfl rfl rfl rfl ?_
              refine WO_nil ?_
              refine WL_ret ?_
              refine ⟨_, rfl, _, rfl, ?_⟩
              first | (rw [hF, hJ, hP, hG]; simp [vT, cT, Ty.all, Ty.flat, Ty.pair, Ty.pairs, Ty.fn, Ty.funs, hF, encT_eq]; done) | (rw [hJ]; rfl)
      · skip
        simp at h27
        refine WL_seq ?_
        refine WL_reg ?_
        refine O_p rfl rfl rfl ?_
        refine O_h rfl rfl rfl rfl ?_
        refine O_p rfl rfl rfl ?_
        refine O_p rfl rfl rfl ?_
        refine WO_nil ?_
        refine WL_seq ?_
        apply WLp
        · (repeat (first | exact rzz | apply rcc rfl | apply rnn rfl))
        conv => arg 4; (try simp only [nrm, Nat.reduceAdd, pCT, tCT, putCells, AVal.flat])
        conv => arg 3; (try simp only [nrm, Nat.reduceAdd, pCT, tCT, putCells, AVal.flat])
        refine WL_cond rfl (fun h37 => ?_) (fun h37 => ?_)
        · skip
          simp at h37
          have h1 := car_facts ha h11.1 h27
          have h2 := car_facts hb h11.2 h37
          have h3 := cdr_facts ha h11.1 h27
          have h4 := cdr_facts hb h11.2 h37
          have hP : joinP k a b = (2, [joinT k (carT a) (carT b)]) := by simp [joinP, h27, h37, hp]
          refine WL_seq ?_
          refine WL_reg ?_
          refine O_p rfl rfl rfl ?_
          refine O_hn rfl rfl rfl rfl ?_
          refine WO_nil ?_
          refine WL_seq ?_
          apply WLp
          · (repeat (first | exact rzz | apply rcc rfl | apply rnn rfl))
          conv => arg 4; (try simp only [nrm, Nat.reduceAdd, pCT, tCT, putCells, AVal.flat])
          conv => arg 3; (try simp only [nrm, Nat.reduceAdd, pCT, tCT, putCells, AVal.flat])
          refine WL_seq ?_
          refine WL_reg ?_
          refine O_h rfl rfl rfl rfl ?_
          refine O_h rfl rfl rfl rfl ?_
          refine O_p rfl rfl rfl ?_
          refine O_c 35 rfl rfl (both_join1 n a b _ _ _ _ _ ha hb hp (ih n _ _ h1.2.1 h2.2.1 (car_wf wa) (car_wf wb) (by omega) (by omega)) (by omega)) ?_
          refine WO_nil ?_
          refine WL_seq ?_
          apply WLp
          · (repeat (first | exact rzz | apply rcc rfl | apply rnn rfl))
          conv => arg 4; (try simp only [nrm, Nat.reduceAdd, pCT, tCT, putCells, AVal.flat])
          conv => arg 3; (try simp only [nrm, Nat.reduceAdd, pCT, tCT, putCells, AVal.flat])
          refine WL_seq ?_
          refine WL_reg ?_
          refine O_p rfl rfl rfl ?_
          refine O_hn rfl rfl rfl rfl ?_
          refine WO_nil ?_
          refine WL_seq ?_
          apply WLp
          · (repeat (first | exact rzz | apply rcc rfl | apply rnn rfl))
          conv => arg 4; (try simp only [nrm, Nat.reduceAdd, pCT, tCT, putCells, AVal.flat])
          conv => arg 3; (try simp only [nrm, Nat.reduceAdd, pCT, tCT, putCells, AVal.flat])
          refine WL_seq ?_
          refine WL_reg ?_
          refine O_p rfl rfl rfl ?_
          refine O_h rfl rfl rfl rfl ?_
          refine O_h rfl rfl rfl rfl ?_
          refine O_p rfl rfl rfl ?_
          refine WO_nil ?_
          refine WL_seq ?_
          apply WLp
          · (repeat (first | exact rzz | apply rcc rfl | apply rnn rfl))
          conv => arg 4; (try simp only [nrm, Nat.reduceAdd, pCT, tCT, putCells, AVal.flat])
          conv => arg 3; (try simp only [nrm, Nat.reduceAdd, pCT, tCT, putCells, AVal.flat])
          refine WL_cond rfl (fun h50 => ?_) (fun h50 => ?_)
          · skip
            simp at h50
          · skip
            refine WL_skip ?_
            refine WL_nil ?_
            refine Blk_norm (?_ : WL _ _ _ _ _)
            refine WL_seq ?_
            apply WLp
            · (repeat (first | exact rzz | apply rcc rfl | apply rnn rfl))
            conv => arg 4; (try simp only [nrm, Nat.reduceAdd, pCT, tCT, putCells, AVal.flat])
            conv => arg 3; (try simp only [nrm, Nat.reduceAdd, pCT, tCT, putCells, AVal.flat])
            refine WL_seq ?_
            refine WL_block ?_
            refine WL_seq ?_
            refine WL_reg ?_
            refine O_p rfl rfl rfl ?_
            refine O_h rfl rfl rfl rfl ?_
            refine O_p rfl rfl rfl ?_
            refine O_p rfl rfl rfl ?_
            refine WO_nil ?_
            refine WL_seq ?_
            apply WLp
            · (repeat (first | exact rzz | apply rcc rfl | apply rnn rfl))
            conv => arg 4; (try simp only [nrm, Nat.reduceAdd, pCT, tCT, putCells, AVal.flat])
            conv => arg 3; (try simp only [nrm, Nat.reduceAdd, pCT, tCT, putCells, AVal.flat])
            refine WL_cond rfl (fun h52 => ?_) (fun h52 => ?_)
            · skip
              have hG : joinG a b = (b.fn, b.funs) := by simp at h52; simp [joinG, h52]
              refine WL_draw0 ?_
              refine D_p rfl rfl rfl ?_
              refine D_h (d := some 57) rfl rfl rfl rfl rfl ?_
              refine D_p rfl rfl rfl ?_
              refine D_h (d := some 59) rfl rfl rfl rfl rfl ?_
              refine D_p rfl rfl rfl ?_
              refine D_h (d := none) rfl rfl rfl rfl rfl ?_
              refine D_p rfl rfl rfl ?_
              refine D_h (d := none) rfl rfl rfl rfl rfl ?_
              refine WD_nil ⟨by first | rfl | (simp [okFs, okEarlier, disj, notIn, noneIn, sameOn, sameB_self, glsL, glsV, partsGls, AOpd.ev, zeroB, outB] <;> (repeat' apply And.intro) <;> rfl), ?_⟩
              refine WL_nil ?_
              refine Blk_norm (?_ : WL _ _ _ _ _)
              refine WL_seq ?_
              apply WLp
              · (repeat (first | exact rzz | apply rcc rfl | apply rnn rfl))
              conv => arg 4; (try simp only [nrm, Nat.reduceAdd, pCT, tCT, putCells, AVal.flat])
              conv => arg 3; (try simp only [nrm, Nat.reduceAdd, pCT, tCT, putCells, AVal.flat])
              refine WL_seq ?_
              refine WL_reg ?_
              refine O_h rfl rfl rfl rfl ?_
              refine O_hn rfl rfl rfl rfl ?_
              refine WO_nil ?_
              refine WL_ret ?_
              refine ⟨_, rfl, _, rfl, ?_⟩
              first | (rw [hF, hJ, hP, hG]; simp [vT, cT, Ty.all, Ty.flat, Ty.pair, Ty.pairs, Ty.fn, Ty.funs, hF, encT_eq]; done) | (rw [hJ]; rfl)
            · skip
              simp at h52
              refine WL_seq ?_
              refine WL_reg ?_
              refine O_p rfl rfl rfl ?_
              refine O_h rfl rfl rfl rfl ?_
              refine O_p rfl rfl rfl ?_
              refine O_p rfl rfl rfl ?_
              apply O_and [_, _, _, _, _, _, _, _, _, _, _, _, _] rfl rfl (hT := ?hT80) (h := ?hR80)
              case hT80 =>
                intro hb66
                refine O_p rfl rfl rfl ?_
                refine O_h rfl rfl rfl rfl ?_
                refine O_p rfl rfl rfl ?_
                refine O_h rfl rfl rfl rfl ?_
                refine O_p rfl rfl rfl ?_
                refine O_p rfl rfl rfl ?_
                apply O_and [_, _, _, _, _] rfl rfl (hT := ?hT78) (h := ?hR78)
                case hT78 =>
                  intro hb72
                  refine O_p rfl rfl rfl ?_
                  refine O_h rfl rfl rfl rfl ?_
                  refine O_p rfl rfl rfl ?_
                  refine O_h rfl rfl rfl rfl ?_
                  refine O_c 34 rfl rfl (callA_of rfl hE) ?_
                  exact WO_nil (WL_nil ⟨rfl, rfl, rfl⟩)
                case hR78 =>
                  intro vs hvs
                  obtain ⟨u73, u74, u75, u76, u77, rfl⟩ := len5 hvs
                  clear hvs; dsimp only [junk]
                  refine O_p rfl rfl rfl ?_
                  exact WO_nil (WL_nil ⟨rfl, rfl, rfl⟩)
              case hR80 =>
                intro vs hvs
                obtain ⟨u67, u68, u69, u70, u71, u72, u73, u74, u75, u76, u77, u78, u79, rfl⟩ := len13 hvs
                clear hvs; dsimp only [junk]
                refine O_p rfl rfl rfl ?_
                refine WO_nil ?_
                refine WL_seq ?_
                apply WLp
                · (repeat (first | exact rzz | apply rcc rfl | apply rnn rfl))
                conv => arg 4; (try simp only [nrm, Nat.reduceAdd, pCT, tCT, putCells, AVal.flat])
                conv => arg 3; (try simp only [nrm, Nat.reduceAdd, pCT, tCT, putCells, AVal.flat])
                try clear u73 u74 u75 u76 u77 u67 u68 u69 u70 u71 u72 u73 u74 u75 u76 u77 u78 u79
                refine WL_cond rfl (fun h62 => ?_) (fun h62 => ?_)
                · skip
                  have hG : joinG a b = (2, []) := by
                    simp at h62; unfold joinG
                    rw [if_neg h52, if_pos ⟨h62.1, by rintro ⟨q1, q2⟩; rcases h62.2 with q | q; exact q q1; rw [q] at q2; cases q2⟩]
                  refine WL_reg ?_
                  refine O_p rfl rfl rfl ?_
                  refine O_hn rfl rfl rfl rfl ?_
                  refine O_p rfl rfl rfl ?_
                  refine O_hn rfl rfl rfl rfl ?_
                  refine WO_nil ?_
                  refine WL_nil ?_
                  refine Blk_norm (?_ : WL _ _ _ _ _)
                  refine WL_seq ?_
                  apply WLp
                  · (repeat (first | exact rzz | apply rcc rfl | apply rnn rfl))
                  conv => arg 4; (try simp only [nrm, Nat.reduceAdd, pCT, tCT, putCells, AVal.flat])
                  conv => arg 3; (try simp only [nrm, Nat.reduceAdd, pCT, tCT, putCells, AVal.flat])
                  refine WL_seq ?_
                  refine WL_reg ?_
                  refine O_h rfl rfl rfl rfl ?_
                  refine O_hn rfl rfl rfl rfl ?_
                  refine WO_nil ?_
                  refine WL_ret ?_
                  refine ⟨_, rfl, _, rfl, ?_⟩
                  first | (rw [hF, hJ, hP, hG]; simp [vT, cT, Ty.all, Ty.flat, Ty.pair, Ty.pairs, Ty.fn, Ty.funs, hF, encT_eq]; done) | (rw [hJ]; rfl)
                · skip
                  have hG : joinG a b = (a.fn, a.funs) := by
                    simp at h62; unfold joinG
                    rw [if_neg h52, if_neg (by rintro ⟨q1, q2⟩; exact q2 (h62 q1))]
                  refine WL_skip ?_
                  refine WL_nil ?_
                  refine Blk_norm (?_ : WL _ _ _ _ _)
                  refine WL_seq ?_
                  apply WLp
                  · (repeat (first | exact rzz | apply rcc rfl | apply rnn rfl))
                  conv => arg 4; (try simp only [nrm, Nat.reduceAdd, pCT, tCT, putCells, AVal.flat])
                  conv => arg 3; (try simp only [nrm, Nat.reduceAdd, pCT, tCT, putCells, AVal.flat])
                  refine WL_seq ?_
                  refine WL_reg ?_
                  refine O_h rfl rfl rfl rfl ?_
                  refine O_hn rfl rfl rfl rfl ?_
                  refine WO_nil ?_
                  refine WL_ret ?_
                  refine ⟨_, rfl, _, rfl, ?_⟩
                  first | (rw [hF, hJ, hP, hG]; simp [vT, cT, Ty.all, Ty.flat, Ty.pair, Ty.pairs, Ty.fn, Ty.funs, hF, encT_eq]; done) | (rw [hJ]; rfl)
        · skip
          have hP : joinP k a b = (a.pair, a.pairs) := by simp at h37; simp [joinP, h27, h37]
          refine WL_skip ?_
          refine WL_nil ?_
          refine Blk_norm (?_ : WL _ _ _ _ _)
          refine WL_seq ?_
          apply WLp
          · (repeat (first | exact rzz | apply rcc rfl | apply rnn rfl))
          conv => arg 4; (try simp only [nrm, Nat.reduceAdd, pCT, tCT, putCells, AVal.flat])
          conv => arg 3; (try simp only [nrm, Nat.reduceAdd, pCT, tCT, putCells, AVal.flat])
          refine WL_seq ?_
          refine WL_block ?_
          refine WL_seq ?_
          refine WL_reg ?_
          refine O_p rfl rfl rfl ?_
          refine O_h rfl rfl rfl rfl ?_
          refine O_p rfl rfl rfl ?_
          refine O_p rfl rfl rfl ?_
          refine WO_nil ?_
          refine WL_seq ?_
          apply WLp
          · (repeat (first | exact rzz | apply rcc rfl | apply rnn rfl))
          conv => arg 4; (try simp only [nrm, Nat.reduceAdd, pCT, tCT, putCells, AVal.flat])
          conv => arg 3; (try simp only [nrm, Nat.reduceAdd, pCT, tCT, putCells, AVal.flat])
          refine WL_cond rfl (fun h52 => ?_) (fun h52 => ?_)
          · skip
            have hG : joinG a b = (b.fn, b.funs) := by simp at h52; simp [joinG, h52]
            refine WL_draw0 ?_
            refine D_p rfl rfl rfl ?_
            refine D_h (d := some 57) rfl rfl rfl rfl rfl ?_
            refine D_p rfl rfl rfl ?_
            refine D_h (d := some 59) rfl rfl rfl rfl rfl ?_
            refine D_p rfl rfl rfl ?_
            refine D_h (d := none) rfl rfl rfl rfl rfl ?_
            refine D_p rfl rfl rfl ?_
            refine D_h (d := none) rfl rfl rfl rfl rfl ?_
            refine WD_nil ⟨by first | rfl | (simp [okFs, okEarlier, disj, notIn, noneIn, sameOn, sameB_self, glsL, glsV, partsGls, AOpd.ev, zeroB, outB] <;> (repeat' apply And.intro) <;> rfl), ?_⟩
            refine WL_nil ?_
            refine Blk_norm (?_ : WL _ _ _ _ _)
            refine WL_seq ?_
            apply WLp
            · (repeat (first | exact rzz | apply rcc rfl | apply rnn rfl))
            conv => arg 4; (try simp only [nrm, Nat.reduceAdd, pCT, tCT, putCells, AVal.flat])
            conv => arg 3; (try simp only [nrm, Nat.reduceAdd, pCT, tCT, putCells, AVal.flat])
            refine WL_seq ?_
            refine WL_reg ?_
            refine O_h rfl rfl rfl rfl ?_
            refine O_hn rfl rfl rfl rfl ?_
            refine WO_nil ?_
            refine WL_ret ?_
            refine ⟨_, rfl, _, rfl, ?_⟩
            first | (rw [hF, hJ, hP, hG]; simp [vT, cT, Ty.all, Ty.flat, Ty.pair, Ty.pairs, Ty.fn, Ty.funs, hF, encT_eq]; done) | (rw [hJ]; rfl)
          · skip
            simp at h52
            refine WL_seq ?_
            refine WL_reg ?_
            refine O_p rfl rfl rfl ?_
            refine O_h rfl rfl rfl rfl ?_
            refine O_p rfl rfl rfl ?_
            refine O_p rfl rfl rfl ?_
            apply O_and [_, _, _, _, _, _, _, _, _, _, _, _, _] rfl rfl (hT := ?hT80) (h := ?hR80)
            case hT80 =>
              intro hb66
              refine O_p rfl rfl rfl ?_
              refine O_h rfl rfl rfl rfl ?_
              refine O_p rfl rfl rfl ?_
              refine O_h rfl rfl rfl rfl ?_
              refine O_p rfl rfl rfl ?_
              refine O_p rfl rfl rfl ?_
              apply O_and [_, _, _, _, _] rfl rfl (hT := ?hT78) (h := ?hR78)
              case hT78 =>
                intro hb72
                refine O_p rfl rfl rfl ?_
                refine O_h rfl rfl rfl rfl ?_
                refine O_p rfl rfl rfl ?_
                refine O_h rfl rfl rfl rfl ?_
                refine O_c 34 rfl rfl (callA_of rfl hE) ?_
                exact WO_nil (WL_nil ⟨rfl, rfl, rfl⟩)
              case hR78 =>
                intro vs hvs
                obtain ⟨u73, u74, u75, u76, u77, rfl⟩ := len5 hvs
                clear hvs; dsimp only [junk]
                refine O_p rfl rfl rfl ?_
                exact WO_nil (WL_nil ⟨rfl, rfl, rfl⟩)
            case hR80 =>
              intro vs hvs
              obtain ⟨u67, u68, u69, u70, u71, u72, u73, u74, u75, u76, u77, u78, u79, rfl⟩ := len13 hvs
              clear hvs; dsimp only [junk]
              refine O_p rfl rfl rfl ?_
              refine WO_nil ?_
              refine WL_seq ?_
              apply WLp
              · (repeat (first | exact rzz | apply rcc rfl | apply rnn rfl))
              conv => arg 4; (try simp only [nrm, Nat.reduceAdd, pCT, tCT, putCells, AVal.flat])
              conv => arg 3; (try simp only [nrm, Nat.reduceAdd, pCT, tCT, putCells, AVal.flat])
              try clear u73 u74 u75 u76 u77 u67 u68 u69 u70 u71 u72 u73 u74 u75 u76 u77 u78 u79
              refine WL_cond rfl (fun h62 => ?_) (fun h62 => ?_)
              · skip
                have hG : joinG a b = (2, []) := by
                  simp at h62; unfold joinG
                  rw [if_neg h52, if_pos ⟨h62.1, by rintro ⟨q1, q2⟩; rcases h62.2 with q | q; exact q q1; rw [q] at q2; cases q2⟩]
                refine WL_reg ?_
                refine O_p rfl rfl rfl ?_
                refine O_hn rfl rfl rfl rfl ?_
                refine O_p rfl rfl rfl ?_
                refine O_hn rfl rfl rfl rfl ?_
                refine WO_nil ?_
                refine WL_nil ?_
                refine Blk_norm (?_ : WL _ _ _ _ _)
                refine WL_seq ?_
                apply WLp
                · (repeat (first | exact rzz | apply rcc rfl | apply rnn rfl))
                conv => arg 4; (try simp only [nrm, Nat.reduceAdd, pCT, tCT, putCells, AVal.flat])
                conv => arg 3; (try simp only [nrm, Nat.reduceAdd, pCT, tCT, putCells, AVal.flat])
                refine WL_seq ?_
                refine WL_reg ?_
                refine O_h rfl rfl rfl rfl ?_
                refine O_hn rfl rfl rfl rfl ?_
                refine WO_nil ?_
                refine WL_ret ?_
                refine ⟨_, rfl, _, rfl, ?_⟩
                first | (rw [hF, hJ, hP, hG]; simp [vT, cT, Ty.all, Ty.flat, Ty.pair, Ty.pairs, Ty.fn, Ty.funs, hF, encT_eq]; done) | (rw [hJ]; rfl)
              · skip
                have hG : joinG a b = (a.fn, a.funs) := by
                  simp at h62; unfold joinG
                  rw [if_neg h52, if_neg (by rintro ⟨q1, q2⟩; exact q2 (h62 q1))]
                refine WL_skip ?_
                refine WL_nil ?_
                refine Blk_norm (?_ : WL _ _ _ _ _)
                refine WL_seq ?_
                apply WLp
                · (repeat (first | exact rzz | apply rcc rfl | apply rnn rfl))
                conv => arg 4; (try simp only [nrm, Nat.reduceAdd, pCT, tCT, putCells, AVal.flat])
                conv => arg 3; (try simp only [nrm, Nat.reduceAdd, pCT, tCT, putCells, AVal.flat])
                refine WL_seq ?_
                refine WL_reg ?_
                refine O_h rfl rfl rfl rfl ?_
                refine O_hn rfl rfl rfl rfl ?_
                refine WO_nil ?_
                refine WL_ret ?_
                refine ⟨_, rfl, _, rfl, ?_⟩
                first | (rw [hF, hJ, hP, hG]; simp [vT, cT, Ty.all, Ty.flat, Ty.pair, Ty.pairs, Ty.fn, Ty.funs, hF, encT_eq]; done) | (rw [hJ]; rfl)
set_option maxHeartbeats 400000 in
theorem join_n (k n : Nat) (a b : Ty) (ha : Rt a) (hb : Rt b) (wa : WfT a) (wb : WfT b) (h : szT a + szT b ≤ k + 1) (hn : 20 * (k + 1) + 20 < n + 3) (hp : ¬(a.pair = 2 ∧ b.pair = 2))
    (ih : ∀ (n : Nat) (a b : Ty), Rt a → Rt b → WfT a → WfT b → szT a + szT b ≤ k → 20 * k + 20 < n → pcall (tabOf tabL) n 18 [vT a, vT b] = some (.ok (vT (joinT k a b)))) :
    pcall (tabOf tabL) (n + 3) 18 [vT a, vT b] = some (.ok (vT (joinT (k + 1) a b))) := by
  have fa := okT_facts ha.ok
  have fb := okT_facts hb.ok
  have hl1 := len_pairs a
  have hl2 := len_funs a
  have hF := or_orF fa.1 fb.1
  have hE : pcall (tabOf tabL) (n + 2) 34 [.lst (a.funs.map encT) false, .lst (b.funs.map encT) false, .fn 12 []] = some (.ok (.bool (sameTs a.funs b.funs))) :=
    equal_c (n + 1) a.funs b.funs 12 (by omega) (by cases wa; assumption) (fun x hx y => same_c (n + 1) x y (by have := szT_funs hx; omega) (wa.funs hx))
  refine pcall_fin t18 ?_
  refine WL_seq ?_
  refine WL_reg ?_
  refine O_n rfl rfl rfl ?_
  refine O_n rfl rfl rfl ?_
  refine O_n rfl rfl rfl ?_
  refine WO_nil ?_
  refine WL_seq ?_
  apply WLp
  · (repeat (first | exact rzz | apply rcc rfl | apply rnn rfl))
  conv => arg 4; (try simp only [nrm, Nat.reduceAdd, pCT, tCT, putCells, AVal.flat])
  conv => arg 3; (try simp only [nrm, Nat.reduceAdd, pCT, tCT, putCells, AVal.flat])
  refine WL_seq ?_
  refine WL_seq ?_
  refine WL_reg ?_
  refine O_p rfl rfl rfl ?_
  refine O_h rfl rfl rfl rfl ?_
  refine O_p rfl rfl rfl ?_
  apply O_or [_, _] rfl rfl (hT := ?hT11) (h := ?hR11)
  case hT11 =>
    intro hb8
    refine O_p rfl rfl rfl ?_
    refine O_h rfl rfl rfl rfl ?_
    exact WO_nil (WL_nil ⟨rfl, rfl, rfl⟩)
  case hR11 =>
    intro vs hvs
    obtain ⟨u9, u10, rfl⟩ := len2 hvs
    clear hvs; dsimp only [junk]
    refine WO_nil ?_
    refine WL_seq ?_
    apply WLp
    · (repeat (first | exact rzz | apply rcc rfl | apply rnn rfl))
    conv => arg 4; (try simp only [nrm, Nat.reduceAdd, pCT, tCT, putCells, AVal.flat])
    conv => arg 3; (try simp only [nrm, Nat.reduceAdd, pCT, tCT, putCells, AVal.flat])
    try clear u9 u10
    refine WL_cond rfl (fun h11 => ?_) (fun h11 => ?_)
    · skip
      have hJ := joinT_all k a b h11
      refine WL_seq ?_
      refine WL_reg ?_
      refine O_c 27 rfl rfl (callA_of rfl (all_c (n + 1))) ?_
      refine O_hn rfl rfl rfl rfl ?_
      refine WO_nil ?_
      refine WL_ret ?_
      refine ⟨_, rfl, _, rfl, ?_⟩
      first | (rw [hF, hJ, hP, hG]; simp [vT, cT, Ty.all, Ty.flat, Ty.pair, Ty.pairs, Ty.fn, Ty.funs, hF, encT_eq]; done) | (rw [hJ]; rfl)
    · skip
      have hJ := joinT_succ k a b h11
      simp at h11
      refine WL_skip ?_
      refine WL_seq ?_
      apply WLp
      · (repeat (first | exact rzz | apply rcc rfl | apply rnn rfl))
      conv => arg 4; (try simp only [nrm, Nat.reduceAdd, pCT, tCT, putCells, AVal.flat])
      conv => arg 3; (try simp only [nrm, Nat.reduceAdd, pCT, tCT, putCells, AVal.flat])
      refine WL_seq ?_
      refine WL_reg ?_
      refine O_p rfl rfl rfl ?_
      refine O_h rfl rfl rfl rfl ?_
      refine O_p rfl rfl rfl ?_
      refine O_h rfl rfl rfl rfl ?_
      refine O_p rfl rfl rfl ?_
      refine O_p rfl rfl rfl ?_
      refine O_h rfl rfl rfl rfl ?_
      refine O_p rfl rfl rfl ?_
      refine O_h rfl rfl rfl rfl ?_
      refine O_p rfl rfl rfl ?_
      refine O_h rfl rfl rfl rfl ?_
      refine O_p rfl rfl rfl ?_
      refine O_h rfl rfl rfl rfl ?_
      refine O_p rfl rfl rfl ?_
      refine O_n rfl rfl rfl ?_
      refine O_hn rfl rfl rfl rfl ?_
      refine WO_nil ?_
      refine WL_seq ?_
      apply WLp
      · (repeat (first | exact rzz | apply rcc rfl | apply rnn rfl))
      conv => arg 4; (try simp only [nrm, Nat.reduceAdd, pCT, tCT, putCells, AVal.flat])
      conv => arg 3; (try simp only [nrm, Nat.reduceAdd, pCT, tCT, putCells, AVal.flat])
      refine WL_seq ?_
      refine WL_block ?_
      refine WL_seq ?_
      refine WL_reg ?_
      refine O_p rfl rfl rfl ?_
      refine O_h rfl rfl rfl rfl ?_
      refine O_p rfl rfl rfl ?_
      refine O_p rfl rfl rfl ?_
      refine WO_nil ?_
      refine WL_seq ?_
      apply WLp
      · (repeat (first | exact rzz | apply rcc rfl | apply rnn rfl))
      conv => arg 4; (try simp only [nrm, Nat.reduceAdd, pCT, tCT, putCells, AVal.flat])
      conv => arg 3; (try simp only [nrm, Nat.reduceAdd, pCT, tCT, putCells, AVal.flat])
      refine WL_cond rfl (fun h27 => ?_) (fun h27 => ?_)
      · skip
        have hP : joinP k a b = (b.pair, b.pairs) := by simp at h27; simp [joinP, h27]
        refine WL_draw0 ?_
        refine D_p rfl rfl rfl ?_
        refine D_h (d := some 32) rfl rfl rfl rfl rfl ?_
        refine D_p rfl rfl rfl ?_
        refine D_h (d := some 34) rfl rfl rfl rfl rfl ?_
        refine D_p rfl rfl rfl ?_
        refine D_h (d := none) rfl rfl rfl rfl rfl ?_
        refine D_p rfl rfl rfl ?_
        refine D_h (d := none) rfl rfl rfl rfl rfl ?_
        refine WD_nil ⟨by first | rfl | (simp [okFs, okEarlier, disj, notIn, noneIn, sameOn, sameB_self, glsL, glsV, partsGls, AOpd.ev, zeroB, outB] <;> (repeat' apply And.intro) <;> rfl), ?_⟩
        refine WL_nil ?_
        refine Blk_norm (?_ : WL _ _ _ _ _)
        refine WL_seq ?_
        apply WLp
        · (repeat (first | exact rzz | apply rcc rfl | apply rnn rfl))
        conv => arg 4; (try simp only [nrm, Nat.reduceAdd, pCT, tCT, putCells, AVal.flat])
        conv => arg 3; (try simp only [nrm, Nat.reduceAdd, pCT, tCT, putCells, AVal.flat])
        refine WL_seq ?_
        refine WL_block ?_
        refine WL_seq ?_
        refine WL_reg ?_
        refine O_p rfl rfl rfl ?_
        refine O_h rfl rfl rfl rfl ?_
        refine O_p rfl rfl rfl ?_
        refine O_p rfl rfl rfl ?_
        refine WO_nil ?_
        refine WL_seq ?_
        apply WLp
        · (repeat (first | exact rzz | apply rcc rfl | apply rnn rfl))
        conv => arg 4; (try simp only [nrm, Nat.reduceAdd, pCT, tCT, putCells, AVal.flat])
        conv => arg 3; (try simp only [nrm, Nat.reduceAdd, pCT, tCT, putCells, AVal.flat])
        refine WL_cond rfl (fun h52 => ?_) (fun h52 => ?_)
        · skip
          have hG : joinG a b = (b.fn, b.funs) := by simp at h52; simp [joinG, h52]
          refine WL_draw0 ?_
          refine D_p rfl rfl rfl ?_
          refine D_h (d := some 57) rfl rfl rfl rfl rfl ?_
          refine D_p rfl rfl rfl ?_
          refine D_h (d := some 59) rfl rfl rfl rfl rfl ?_
          refine D_p rfl rfl rfl ?_
          refine D_h (d := none) rfl rfl rfl rfl rfl ?_
          refine D_p rfl rfl rfl ?_
          refine D_h (d := none) rfl rfl rfl rfl rfl ?_
          refine WD_nil ⟨by first | rfl | (simp [okFs, okEarlier, disj, notIn, noneIn, sameOn, sameB_self, glsL, glsV, partsGls, AOpd.ev, zeroB, outB] <;> (repeat' apply And.intro) <;> rfl), ?_⟩
          refine WL_nil ?_
          refine Blk_norm (?_ : WL _ _ _ _ _)
          refine WL_seq ?_
          apply WLp
          · (repeat (first | exact rzz | apply rcc rfl | apply rnn rfl))
          conv => arg 4; (try simp only [nrm, Nat.reduceAdd, pCT, tCT, putCells, AVal.flat])
          conv => arg 3; (try simp only [nrm, Nat.reduceAdd, pCT, tCT, putCells, AVal.flat])
          refine WL_seq ?_
          refine WL_reg ?_
          refine O_h rfl rfl rfl rfl ?_
          refine O_hn rfl rfl rfl rfl ?_
          refine WO_nil ?_
          refine WL_ret ?_
          refine ⟨_, rfl, _, rfl, ?_⟩
          first | (rw [hF, hJ, hP, hG]; simp [vT, cT, Ty.all, Ty.flat, Ty.pair, Ty.pairs, Ty.fn, Ty.funs, hF, encT_eq]; done) | (rw [hJ]; rfl)
        · skip
          simp at h52
          refine WL_seq ?_
          refine WL_reg ?_
          refine O_p rfl rfl rfl ?_
          refine O_h rfl rfl rfl rfl ?_
          refine O_p rfl rfl rfl ?_
          refine O_p rfl rfl rfl ?_
          apply O_and [_, _, _, _, _, _, _, _, _, _, _, _, _] rfl rfl (hT := ?hT80) (h := ?hR80)
          case hT80 =>
            intro hb66
            refine O_p rfl rfl rfl ?_
            refine O_h rfl rfl rfl rfl ?_
            refine O_p rfl rfl rfl ?_
            refine O_h rfl rfl rfl rfl ?_
            refine O_p rfl rfl rfl ?_
            refine O_p rfl rfl rfl ?_
            apply O_and [_, _, _, _, _] rfl rfl (hT := ?hT78) (h := ?hR78)
            case hT78 =>
              intro hb72
              refine O_p rfl rfl rfl ?_
              refine O_h rfl rfl rfl rfl ?_
              refine O_p rfl rfl rfl ?_
              refine O_h rfl rfl rfl rfl ?_
              refine O_c 34 rfl rfl (callA_of rfl hE) ?_
              exact WO_nil (WL_nil ⟨rfl, rfl, rfl⟩)
            case hR78 =>
              intro vs hvs
              obtain ⟨u73, u74, u75, u76, u77, rfl⟩ := len5 hvs
              clear hvs; dsimp only [junk]
              refine O_p rfl rfl rfl ?_
              exact WO_nil (WL_nil ⟨rfl, rfl, rfl⟩)
          case hR80 =>
            intro vs hvs
            obtain ⟨u67, u68, u69, u70, u71, u72, u73, u74, u75, u76, u77, u78, u79, rfl⟩ := len13 hvs
            clear hvs; dsimp only [junk]
            refine O_p rfl rfl rfl ?_
            refine WO_nil ?_
            refine WL_seq ?_
            apply WLp
            · (repeat (first | exact rzz | apply rcc rfl | apply rnn rfl))
            conv => arg 4; (try simp only [nrm, Nat.reduceAdd, pCT, tCT, putCells, AVal.flat])
            conv => arg 3; (try simp only [nrm, Nat.reduceAdd, pCT, tCT, putCells, AVal.flat])
            try clear u73 u74 u75 u76 u77 u67 u68 u69 u70 u71 u72 u73 u74 u75 u76 u77 u78 u79
            refine WL_cond rfl (fun h62 => ?_) (fun h62 => ?_)
            · skip
              have hG : joinG a b = (2, []) := by
                simp at h62; unfold joinG
                rw [if_neg h52, if_pos ⟨h62.1, by rintro ⟨q1, q2⟩; rcases h62.2 with q | q; exact q q1; rw [q] at q2; cases q2⟩]
              refine WL_reg ?_
              refine O_p rfl rfl rfl ?_
              refine O_hn rfl rfl rfl rfl ?_
              refine O_p rfl rfl rfl ?_
              refine O_hn rfl rfl rfl rfl ?_
              refine WO_nil ?_
              refine WL_nil ?_
              refine Blk_norm (?_ : WL _ _ _ _ _)
              refine WL_seq ?_
              apply WLp
              · (repeat (first | exact rzz | apply rcc rfl | apply rnn rfl))
              conv => arg 4; (try simp only [nrm, Nat.reduceAdd, pCT, tCT, putCells, AVal.flat])
              conv => arg 3; (try simp only [nrm, Nat.reduceAdd, pCT, tCT, putCells, AVal.flat])
              refine WL_seq ?_
              refine WL_reg ?_
              refine O_h rfl rfl rfl rfl ?_
              refine O_hn rfl rfl rfl rfl ?_
              refine WO_nil ?_
              refine WL_ret ?_
              refine ⟨_, rfl, _, rfl, ?_⟩
              first | (rw [hF, hJ, hP, hG]; simp [vT, cT, Ty.all, Ty.flat, Ty.pair, Ty.pairs, Ty.fn, Ty.funs, hF, encT_eq]; done) | (rw [hJ]; rfl)
            · skip
              have hG : joinG a b = (a.fn, a.funs) := by
                simp at h62; unfold joinG
                rw [if_neg h52, if_neg (by rintro ⟨q1, q2⟩; exact q2 (h62 q1))]
              refine WL_skip ?_
              refine WL_nil ?_
              refine Blk_norm (?_ : WL _ _ _ _ _)
              refine WL_seq ?_
              apply WLp
              · (repeat (first | exact rzz | apply rcc rfl | apply rnn rfl))
              conv => arg 4; (try simp only [nrm, Nat.reduceAdd, pCT, tCT, putCells, AVal.flat])
              conv => arg 3; (try simp only [nrm, Nat.reduceAdd, pCT, tCT, putCells, AVal.flat])
              refine WL_seq ?_
              refine WL_reg ?_
              refine O_h rfl rfl rfl rfl ?_
              refine O_hn rfl rfl rfl rfl ?_
              refine WO_nil ?_
              refine WL_ret ?_
              refine ⟨_, rfl, _, rfl, ?_⟩
              first | (rw [hF, hJ, hP, hG]; simp [vT, cT, Ty.all, Ty.flat, Ty.pair, Ty.pairs, Ty.fn, Ty.funs, hF, encT_eq]; done) | (rw [hJ]; rfl)
      · skip
        simp at h27
        refine WL_seq ?_
        refine WL_reg ?_
        refine O_p rfl rfl rfl ?_
        refine O_h rfl rfl rfl rfl ?_
        refine O_p rfl rfl rfl ?_
        refine O_p rfl rfl rfl ?_
        refine WO_nil ?_
        refine WL_seq ?_
        apply WLp
        · (repeat (first | exact rzz | apply rcc rfl | apply rnn rfl))
        conv => arg 4; (try simp only [nrm, Nat.reduceAdd, pCT, tCT, putCells, AVal.flat])
        conv => arg 3; (try simp only [nrm, Nat.reduceAdd, pCT, tCT, putCells, AVal.flat])
        refine WL_cond rfl (fun h37 => ?_) (fun h37 => ?_)
        · skip
          simp at h37
          have h1 := car_facts ha h11.1 h27
          have h2 := car_facts hb h11.2 h37
          have h3 := cdr_facts ha h11.1 h27
          have h4 := cdr_facts hb h11.2 h37
          have hP : joinP k a b = (1, [joinT k (carT a) (carT b), joinT k (cdrT a) (cdrT b)]) := by simp [joinP, h27, h37, hp]
          refine WL_seq ?_
          refine WL_reg ?_
          refine O_p rfl rfl rfl ?_
          refine O_hn rfl rfl rfl rfl ?_
          refine WO_nil ?_
          refine WL_seq ?_
          apply WLp
          · (repeat (first | exact rzz | apply rcc rfl | apply rnn rfl))
          conv => arg 4; (try simp only [nrm, Nat.reduceAdd, pCT, tCT, putCells, AVal.flat])
          conv => arg 3; (try simp only [nrm, Nat.reduceAdd, pCT, tCT, putCells, AVal.flat])
          refine WL_seq ?_
          refine WL_reg ?_
          refine O_h rfl rfl rfl rfl ?_
          refine O_h rfl rfl rfl rfl ?_
          refine O_p rfl rfl rfl ?_
          refine O_c 35 rfl rfl (both_join2 n a b _ _ _ _ _ _ ha hb hp (ih n _ _ h1.2.1 h2.2.1 (car_wf wa) (car_wf wb) (by omega) (by omega)) (ih n _ _ h3.2.2 h4.2.2 (cdr_wf wa) (cdr_wf wb) (by omega) (by omega)) (by omega)) ?_
          refine WO_nil ?_
          refine WL_seq ?_
          apply WLp
          · (repeat (first | exact rzz | apply rcc rfl | apply rnn rfl))
          conv => arg 4; (try simp only [nrm, Nat.reduceAdd, pCT, tCT, putCells, AVal.flat])
          conv => arg 3; (try simp only [nrm, Nat.reduceAdd, pCT, tCT, putCells, AVal.flat])
          refine WL_seq ?_
          refine WL_reg ?_
          refine O_p rfl rfl rfl ?_
          refine O_hn rfl rfl rfl rfl ?_
          refine WO_nil ?_
          refine WL_seq ?_
          apply WLp
          · (repeat (first | exact rzz | apply rcc rfl | apply rnn rfl))
          conv => arg 4; (try simp only [nrm, Nat.reduceAdd, pCT, tCT, putCells, AVal.flat])
          conv => arg 3; (try simp only [nrm, Nat.reduceAdd, pCT, tCT, putCells, AVal.flat])
          refine WL_seq ?_
          refine WL_reg ?_
          refine O_p rfl rfl rfl ?_
          refine O_h rfl rfl rfl rfl ?_
          refine O_h rfl rfl rfl rfl ?_
          refine O_p rfl rfl rfl ?_
          refine WO_nil ?_
          refine WL_seq ?_
          apply WLp
          · (repeat (first | exact rzz | apply rcc rfl | apply rnn rfl))
          conv => arg 4; (try simp only [nrm, Nat.reduceAdd, pCT, tCT, putCells, AVal.flat])
          conv => arg 3; (try simp only [nrm, Nat.reduceAdd, pCT, tCT, putCells, AVal.flat])
          refine WL_cond rfl (fun h50 => ?_) (fun h50 => ?_)
          · skip
            refine WL_reg ?_
            refine O_p rfl rfl rfl ?_
            refine O_hn rfl rfl rfl rfl ?_
            refine WO_nil ?_
            refine WL_nil ?_
            refine Blk_norm (?_ : WL _ _ _ _ _)
            refine WL_seq ?_
            apply WLp
            · (repeat (first | exact rzz | apply rcc rfl | apply rnn rfl))
            conv => arg 4; (try simp only [nrm, Nat.reduceAdd, pCT, tCT, putCells, AVal.flat])
            conv => arg 3; (try simp only [nrm, Nat.reduceAdd, pCT, tCT, putCells, AVal.flat])
            refine WL_seq ?_
            refine WL_block ?_
            refine WL_seq ?_
            refine WL_reg ?_
            refine O_p rfl rfl rfl ?_
            refine O_h rfl rfl rfl rfl ?_
            refine O_p rfl rfl rfl ?_
            refine O_p rfl rfl rfl ?_
            refine WO_nil ?_
            refine WL_seq ?_
            apply WLp
            · (repeat (first | exact rzz | apply rcc rfl | apply rnn rfl))
            conv => arg 4; (try simp only [nrm, Nat.reduceAdd, pCT, tCT, putCells, AVal.flat])
            conv => arg 3; (try simp only [nrm, Nat.reduceAdd, pCT, tCT, putCells, AVal.flat])
            refine WL_cond rfl (fun h52 => ?_) (fun h52 => ?_)
            · skip
              have hG : joinG a b = (b.fn, b.funs) := by simp at h52; simp [joinG, h52]
              refine WL_draw0 ?_
              refine D_p rfl rfl rfl ?_
              refine D_h (d := some 57) rfl rfl rfl rfl rfl ?_
              refine D_p rfl rfl rfl ?_
              refine D_h (d := some 59) rfl rfl rfl rfl rfl ?_
              refine D_p rfl rfl rfl ?_
              refine D_h (d := none) rfl rfl rfl rfl rfl ?_
              refine D_p rfl rfl rfl ?_
              refine D_h (d := none) rfl rfl rfl rfl rfl ?_
              refine WD_nil ⟨by first | rfl | (simp [okFs, okEarlier, disj, notIn, noneIn, sameOn, sameB_self, glsL, glsV, partsGls, AOpd.ev, zeroB, outB] <;> (repeat' apply And.intro) <;> rfl), ?_⟩
              refine WL_nil ?_
              refine Blk_norm (?_ : WL _ _ _ _ _)
              refine WL_seq ?_
              apply WLp
              · (repeat (first | exact rzz | apply rcc rfl | apply rnn rfl))
              conv => arg 4; (try simp only [nrm, Nat.reduceAdd, pCT, tCT, putCells, AVal.flat])
              conv => arg 3; (try simp only [nrm, Nat.reduceAdd, pCT, tCT, putCells, AVal.flat])
              refine WL_seq ?_
              refine WL_reg ?_
              refine O_h rfl rfl rfl rfl ?_
              refine O_hn rfl rfl rfl rfl ?_
              refine WO_nil ?_
              refine WL_ret ?_
              refine ⟨_, rfl, _, rfl, ?_⟩
              first | (rw [hF, hJ, hP, hG]; simp [vT, cT, Ty.all, Ty.flat, Ty.pair, Ty.pairs, Ty.fn, Ty.funs, hF, encT_eq]; done) | (rw [hJ]; rfl)
            · skip
              simp at h52
              refine WL_seq ?_
              refine WL_reg ?_
              refine O_p rfl rfl rfl ?_
              refine O_h rfl rfl rfl rfl ?_
              refine O_p rfl rfl rfl ?_
              refine O_p rfl rfl rfl ?_
              apply O_and [_, _, _, _, _, _, _, _, _, _, _, _, _] rfl rfl (hT := ?hT80) (h := ?hR80)
              case hT80 =>
                intro hb66
                refine O_p rfl rfl rfl ?_
                refine O_h rfl rfl rfl rfl ?_
                refine O_p rfl rfl rfl ?_
                refine O_h rfl rfl rfl rfl ?_
                refine O_p rfl rfl rfl ?_
                refine O_p rfl rfl rfl ?_
                apply O_and [_, _, _, _, _] rfl rfl (hT := ?hT78) (h := ?hR78)
                case hT78 =>
                  intro hb72
                  refine O_p rfl rfl rfl ?_
                  refine O_h rfl rfl rfl rfl ?_
                  refine O_p rfl rfl rfl ?_
                  refine O_h rfl rfl rfl rfl ?_
                  refine O_c 34 rfl rfl (callA_of rfl hE) ?_
                  exact WO_nil (WL_nil ⟨rfl, rfl, rfl⟩)
                case hR78 =>
                  intro vs hvs
                  obtain ⟨u73, u74, u75, u76, u77, rfl⟩ := len5 hvs
                  clear hvs; dsimp only [junk]
                  refine O_p rfl rfl rfl ?_
                  exact WO_nil (WL_nil ⟨rfl, rfl, rfl⟩)
              case hR80 =>
                intro vs hvs
                obtain ⟨u67, u68, u69, u70, u71, u72, u73, u74, u75, u76, u77, u78, u79, rfl⟩ := len13 hvs
                clear hvs; dsimp only [junk]
                refine O_p rfl rfl rfl ?_
                refine WO_nil ?_
                refine WL_seq ?_
                apply WLp
                · (repeat (first | exact rzz | apply rcc rfl | apply rnn rfl))
                conv => arg 4; (try simp only [nrm, Nat.reduceAdd, pCT, tCT, putCells, AVal.flat])
                conv => arg 3; (try simp only [nrm, Nat.reduceAdd, pCT, tCT, putCells, AVal.flat])
                try clear u73 u74 u75 u76 u77 u67 u68 u69 u70 u71 u72 u73 u74 u75 u76 u77 u78 u79
                refine WL_cond rfl (fun h62 => ?_) (fun h62 => ?_)
                · skip
                  have hG : joinG a b = (2, []) := by
                    simp at h62; unfold joinG
                    rw [if_neg h52, if_pos ⟨h62.1, by rintro ⟨q1, q2⟩; rcases h62.2 with q | q; exact q q1; rw [q] at q2; cases q2⟩]
                  refine WL_reg ?_
                  refine O_p rfl rfl rfl ?_
                  refine O_hn rfl rfl rfl rfl ?_
                  refine O_p rfl rfl rfl ?_
                  refine O_hn rfl rfl rfl rfl ?_
                  refine WO_nil ?_
                  refine WL_nil ?_
                  refine Blk_norm (?_ : WL _ _ _ _ _)
                  refine WL_seq ?_
                  apply WLp
                  · (repeat (first | exact rzz | apply rcc rfl | apply rnn rfl))
                  conv => arg 4; (try simp only [nrm, Nat.reduceAdd, pCT, tCT, putCells, AVal.flat])
                  conv => arg 3; (try simp only [nrm, Nat.reduceAdd, pCT, tCT, putCells, AVal.flat])
                  refine WL_seq ?_
                  refine WL_reg ?_
                  refine O_h rfl rfl rfl rfl ?_
                  refine O_hn rfl rfl rfl rfl ?_
                  refine WO_nil ?_
                  refine WL_ret ?_
                  refine ⟨_, rfl, _, rfl, ?_⟩
                  first | (rw [hF, hJ, hP, hG]; simp [vT, cT, Ty.all, Ty.flat, Ty.pair, Ty.pairs, Ty.fn, Ty.funs, hF, encT_eq]; done) | (rw [hJ]; rfl)
                · skip
                  have hG : joinG a b = (a.fn, a.funs) := by
                    simp at h62; unfold joinG
                    rw [if_neg h52, if_neg (by rintro ⟨q1, q2⟩; exact q2 (h62 q1))]
                  refine WL_skip ?_
                  refine WL_nil ?_
                  refine Blk_norm (?_ : WL _ _ _ _ _)
                  refine WL_seq ?_
                  apply WLp
                  · (repeat (first | exact rzz | apply rcc rfl | apply rnn rfl))
                  conv => arg 4; (try simp only [nrm, Nat.reduceAdd, pCT, tCT, putCells, AVal.flat])
                  conv => arg 3; (try simp only [nrm, Nat.reduceAdd, pCT, tCT, putCells, AVal.flat])
                  refine WL_seq ?_
                  refine WL_reg ?_
                  refine O_h rfl rfl rfl rfl ?_
                  refine O_hn rfl rfl rfl rfl ?_
                  refine WO_nil ?_
                  refine WL_ret ?_
                  refine ⟨_, rfl, _, rfl, ?_⟩
                  first | (rw [hF, hJ, hP, hG]; simp [vT, cT, Ty.all, Ty.flat, Ty.pair, Ty.pairs, Ty.fn, Ty.funs, hF, encT_eq]; done) | (rw [hJ]; rfl)
          · skip
            simp at h50
        · skip
          have hP : joinP k a b = (a.pair, a.pairs) := by simp at h37; simp [joinP, h27, h37]
          refine WL_skip ?_
          refine WL_nil ?_
          refine Blk_norm (?_ : WL _ _ _ _ _)
          refine WL_seq ?_
          apply WLp
          · (repeat (first | exact rzz | apply rcc rfl | apply rnn rfl))
          conv => arg 4; (try simp only [nrm, Nat.reduceAdd, pCT, tCT, putCells, AVal.flat])
          conv => arg 3; (try simp only [nrm, Nat.reduceAdd, pCT, tCT, putCells, AVal.flat])
          refine WL_seq ?_
          refine WL_block ?_
          refine WL_seq ?_
          refine WL_reg ?_
          refine O_p rfl rfl rfl ?_
          refine O_h rfl rfl rfl rfl ?_
          refine O_p rfl rfl rfl ?_
          refine O_p rfl rfl rfl ?_
          refine WO_nil ?_
          refine WL_seq ?_
          apply WLp
          · (repeat (first | exact rzz | apply rcc rfl | apply rnn rfl))
          conv => arg 4; (try simp only [nrm, Nat.reduceAdd, pCT, tCT, putCells, AVal.flat])
          conv => arg 3; (try simp only [nrm, Nat.reduceAdd, pCT, tCT, putCells, AVal.flat])
          refine WL_cond rfl (fun h52 => ?_) (fun h52 => ?_)
          · skip
            have hG : joinG a b = (b.fn, b.funs) := by simp at h52; simp [joinG, h52]
            refine WL_draw0 ?_
            refine D_p rfl rfl rfl ?_
            refine D_h (d := some 57) rfl rfl rfl rfl rfl ?_
            refine D_p rfl rfl rfl ?_
            refine D_h (d := some 59) rfl rfl rfl rfl rfl ?_
            refine D_p rfl rfl rfl ?_
            refine D_h (d := none) rfl rfl rfl rfl rfl ?_
            refine D_p rfl rfl rfl ?_
            refine D_h (d := none) rfl rfl rfl rfl rfl ?_
            refine WD_nil ⟨by first | rfl | (simp [okFs, okEarlier, disj, notIn, noneIn, sameOn, sameB_self, glsL, glsV, partsGls, AOpd.ev, zeroB, outB] <;> (repeat' apply And.intro) <;> rfl), ?_⟩
            refine WL_nil ?_
            refine Blk_norm (?_ : WL _ _ _ _ _)
            refine WL_seq ?_
            apply WLp
            · (repeat (first | exact rzz | apply rcc rfl | apply rnn rfl))
            conv => arg 4; (try simp only [nrm, Nat.reduceAdd, pCT, tCT, putCells, AVal.flat])
            conv => arg 3; (try simp only [nrm, Nat.reduceAdd, pCT, tCT, putCells, AVal.flat])
            refine WL_seq ?_
            refine WL_reg ?_
            refine O_h rfl rfl rfl rfl ?_
            refine O_hn rfl rfl rfl rfl ?_
            refine WO_nil ?_
            refine WL_ret ?_
            refine ⟨_, rfl, _, rfl, ?_⟩
            first | (rw [hF, hJ, hP, hG]; simp [vT, cT, Ty.all, Ty.flat, Ty.pair, Ty.pairs, Ty.fn, Ty.funs, hF, encT_eq]; done) | (rw [hJ]; rfl)
          · skip
            simp at h52
            refine WL_seq ?_
            refine WL_reg ?_
            refine O_p rfl rfl rfl ?_
            refine O_h rfl rfl rfl rfl ?_
            refine O_p rfl rfl rfl ?_
            refine O_p rfl rfl rfl ?_
            apply O_and [_, _, _, _, _, _, _, _, _, _, _, _, _] rfl rfl (hT := ?hT80) (h := ?hR80)
            case hT80 =>
              intro hb66
              refine O_p rfl rfl rfl ?_
              refine O_h rfl rfl rfl rfl ?_
              refine O_p rfl rfl rfl ?_
              refine O_h rfl rfl rfl rfl ?_
              refine O_p rfl rfl rfl ?_
              refine O_p rfl rfl rfl ?_
              apply O_and [_, _, _, _, _] rfl rfl (hT := ?hT78) (h := ?hR78)
              case hT78 =>
                intro hb72
                refine O_p rfl rfl rfl ?_
                refine O_h rfl rfl rfl rfl ?_
                refine O_p rfl rfl rfl ?_
                refine O_h rfl rfl rfl rfl ?_
                refine O_c 34 rfl rfl (callA_of rfl hE) ?_
                exact WO_nil (WL_nil ⟨rfl, rfl, rfl⟩)
              case hR78 =>
                intro vs hvs
                obtain ⟨u73, u74, u75, u76, u77, rfl⟩ := len5 hvs
                clear hvs; dsimp only [junk]
                refine O_p rfl rfl rfl ?_
                exact WO_nil (WL_nil ⟨rfl, rfl, rfl⟩)
            case hR80 =>
              intro vs hvs
              obtain ⟨u67, u68, u69, u70, u71, u72, u73, u74, u75, u76, u77, u78, u79, rfl⟩ := len13 hvs
              clear hvs; dsimp only [junk]
              refine O_p rfl rfl rfl ?_
              refine WO_nil ?_
              refine WL_seq ?_
              apply WLp
              · (repeat (first | exact rzz | apply rcc rfl | apply rnn rfl))
              conv => arg 4; (try simp only [nrm, Nat.reduceAdd, pCT, tCT, putCells, AVal.flat])
              conv => arg 3; (try simp only [nrm, Nat.reduceAdd, pCT, tCT, putCells, AVal.flat])
              try clear u73 u74 u75 u76 u77 u67 u68 u69 u70 u71 u72 u73 u74 u75 u76 u77 u78 u79
              refine WL_cond rfl (fun h62 => ?_) (fun h62 => ?_)
              · skip
                have hG : joinG a b = (2, []) := by
                  simp at h62; unfold joinG
                  rw [if_neg h52, if_pos ⟨h62.1, by rintro ⟨q1, q2⟩; rcases h62.2 with q | q; exact q q1; rw [q] at q2; cases q2⟩]
                refine WL_reg ?_
                refine O_p rfl rfl rfl ?_
                refine O_hn rfl rfl rfl rfl ?_
                refine O_p rfl rfl rfl ?_
                refine O_hn rfl rfl rfl rfl ?_
                refine WO_nil ?_
                refine WL_nil ?_
                refine Blk_norm (?_ : WL _ _ _ _ _)
                refine WL_seq ?_
                apply WLp
                · (repeat (first | exact rzz | apply rcc rfl | apply rnn rfl))
                conv => arg 4; (try simp only [nrm, Nat.reduceAdd, pCT, tCT, putCells, AVal.flat])
                conv => arg 3; (try simp only [nrm, Nat.reduceAdd, pCT, tCT, putCells, AVal.flat])
                refine WL_seq ?_
                refine WL_reg ?_
                refine O_h rfl rfl rfl rfl ?_
                refine O_hn rfl rfl rfl rfl ?_
                refine WO_nil ?_
                refine WL_ret ?_
                refine ⟨_, rfl, _, rfl, ?_⟩
                first | (rw [hF, hJ, hP, hG]; simp [vT, cT, Ty.all, Ty.flat, Ty.pair, Ty.pairs, Ty.fn, Ty.funs, hF, encT_eq]; done) | (rw [hJ]; rfl)
              · skip
                have hG : joinG a b = (a.fn, a.funs) := by
                  simp at h62; unfold joinG
                  rw [if_neg h52, if_neg (by rintro ⟨q1, q2⟩; exact q2 (h62 q1))]
                refine WL_skip ?_
                refine WL_nil ?_
                refine Blk_norm (?_ : WL _ _ _ _ _)
                refine WL_seq ?_
                apply WLp
                · (repeat (first | exact rzz | apply rcc rfl | apply rnn rfl))
                conv => arg 4; (try simp only [nrm, Nat.reduceAdd, pCT, tCT, putCells, AVal.flat])
                conv => arg 3; (try simp only [nrm, Nat.reduceAdd, pCT, tCT, putCells, AVal.flat])
                refine WL_seq ?_
                refine WL_reg ?_
                refine O_h rfl rfl rfl rfl ?_
                refine O_hn rfl rfl rfl rfl ?_
                refine WO_nil ?_
                refine WL_ret ?_
                refine ⟨_, rfl, _, rfl, ?_⟩
                first | (rw [hF, hJ, hP, hG]; simp [vT, cT, Ty.all, Ty.flat, Ty.pair, Ty.pairs, Ty.fn, Ty.funs, hF, encT_eq]; done) | (rw [hJ]; rfl)
theorem join_c : ∀ (k n : Nat) (a b : Ty), Rt a → Rt b → WfT a → WfT b → szT a + szT b ≤ k → 20 * k + 20 < n → pcall (tabOf tabL) n 18 [vT a, vT b] = some (.ok (vT (joinT k a b)))
  | 0, n, a, b, _, _, _, _, h, _ => by have := szT_pos a; omega
  | k + 1, n, a, b, ha, hb, wa, wb, h, hn => by
    obtain ⟨n, rfl⟩ : ∃ m, n = m + 3 := ⟨n - 3, by omega⟩
    by_cases hp : a.pair = 2 ∧ b.pair = 2
    · exact join_l k n a b ha hb wa wb h hn hp (join_c k)
    · exact join_n k n a b ha hb wa wb h hn hp (join_c k)
end Go.Ev.Seat.TyS
namespace Go.Ev
set_option linter.unusedVariables false
open Go
def okEarlier2 (deps : List Nat) (f : Foot) : Nat → List Foot → Bool
  | _, [] => true
  | o, g :: gs => (!notIn o deps || disj g f) && okEarlier2 deps f (o + 1) gs
def okFs2 (all : List Foot) : Nat → List (AOper × Nat × List Nat) → List Foot → Bool
  | _, [], [] => true
  | i, p :: ps, f :: fs => okEarlier2 p.2.2 f 0 (all.take i) && okFs2 all (i + 1) ps fs
  | _, _, _ => false
theorem okEarlier2_eq (deps : List Nat) (f : Foot) : ∀ (o : Nat) (gs : List Foot), okEarlier2 deps f o gs = okEarlier deps f o gs
  | _, [] => rfl
  | o, g :: gs => by simp only [okEarlier2, okEarlier, okEarlier2_eq deps f (o + 1) gs, Bool.or_comm]
theorem okFs2_eq (all : List Foot) : ∀ (i : Nat) (l : List (AOper × Nat × List Nat)) (fs : List Foot), okFs2 all i l fs = okFs all i l fs
  | _, [], [] => rfl
  | i, p :: ps, f :: fs => by simp only [okFs2, okFs, okFs2_eq all (i + 1) ps fs, okEarlier2_eq]
  | _, [], _ :: _ => rfl
  | _, _ :: _, [] => rfl
section
variable {C : Ctx} {cs : List ACode} {e : Env} {H : Heap} {Q : Post} {base : Nat} {l : List (AOper × Nat × List Nat)} {acc : List Foot} {K : List Foot → Env → Heap → Prop}
end
section
variable {C : Ctx} {cs : List ACode} {e : Env} {H : Heap} {Q : Post} {l : List AOper}
end
section
variable {imp : List Nat} {C : Ctx} {e : Env} {H : Heap} {l : List (AOper × Nat × List Nat)} {K : Env → Heap → Prop}
end
section
variable {C : Ctx} {cs : List ACode} {e : Env} {H : Heap} {base : Nat} {l : List (AOper × Nat × List Nat)} {acc : List Foot} {K : List Foot → Env → Heap → Prop}
end
end Go.Ev
namespace Go.Ev
set_option linter.unusedVariables false
set_option linter.unusedSimpArgs false
open Go
def Lim (p : Nat → Prop) : Prop := ∃ N, ∀ n, N ≤ n → p n
theorem Lim.of {p : Nat → Prop} (h : ∀ n, p n) : Lim p := ⟨0, fun n _ => h n⟩
theorem Lim.map {p q : Nat → Prop} (h1 : Lim p) (h : ∀ n, p n → q n) : Lim q := h1.elim fun N hN => ⟨N, fun n hn => h n (hN n hn)⟩
theorem Lim.map2 {p q r : Nat → Prop} (h1 : Lim p) (h2 : Lim q) (h : ∀ n, p n → q n → r n) : Lim r := by
  obtain ⟨N, hN⟩ := h1
  obtain ⟨M, hM⟩ := h2
  exact ⟨N + M, fun n hn => h n (hN n (by omega)) (hM n (by omega))⟩
theorem Lim.succ {p : Nat → Prop} (h : Lim fun n => p (n + 1)) : Lim p := by
  obtain ⟨N, hN⟩ := h
  refine ⟨N + 1, fun n hn => ?_⟩
  obtain ⟨m, rfl⟩ : ∃ m, n = m + 1 := ⟨n - 1, by omega⟩
  exact hN m (by omega)
theorem Lim.get {p : Nat → Prop} (h : Lim p) : ∃ n, p n := h.elim fun N hN => ⟨N, hN N (Nat.le_refl _)⟩
abbrev Cn (T : Nat → Option AFunc) (n : Nat) : Ctx := ⟨callF T n, n⟩
section
variable (T : Nat → Option AFunc)
def PRes (f : FuncId) (as : List AVal) (v : AVal) : Prop := Lim fun n => pcall T n f as = some (.ok v)
def HRes (f : FuncId) (as : List AVal) (H : Heap) (v : AVal) (H' : Heap) : Prop := Lim fun n => callF T n f as H = some (.ok v, H')
def CA (raw : Bool) (f : FuncId) (vs : List AVal) (H : Heap) (v : AVal) (H' : Heap) : Prop := Lim fun n => callA (Cn T n) raw f vs H = some (.ok v, H')
def GL : List ACode → Env → Heap → Post → Prop
  | [], e, H, Q => Q .norm e H
  | c :: cs, e, H, Q => ∃ x e' H', (Lim fun n => evalCode (Cn T n) c e H = some (x, e', H')) ∧ match x with
    | .norm => GL cs e' H' Q
    | x => Q x e' H'
def GO (l : List AOper) (cs : List ACode) (e : Env) (H : Heap) (Q : Post) : Prop :=
  ∃ x e' H', (Lim fun n => evalOps (Cn T n) l e H = some (x, e', H')) ∧ match x with
    | .norm => GL T cs e' H' Q
    | x => Q x e' H'
def GLoop (base : Nat) (keep : List Nat) (a : ACode) (e : Env) (H : Heap) (Q : Post) : Prop :=
  ∃ x e' H', (∃ N, ∀ n m, N ≤ n → N ≤ m → iter m (fun e' H' => evalCode (Cn T n) a (restr e' keep) (trunc base (restr e' keep) H')) e H = some (x, e', H')) ∧ x ≠ .norm ∧ Q x e' H'
end
section
variable {T : Nat → Option AFunc} {cs : List ACode} {e e' : Env} {H H' : Heap} {Q : Post}
theorem PRes.of_lt {f : FuncId} {as : List AVal} {v : AVal} (N : Nat) (h : ∀ n, N < n → pcall T n f as = some (.ok v)) : PRes T f as v := ⟨N + 1, fun n hn => h n (by omega)⟩
theorem PRes.of_le {f : FuncId} {as : List AVal} {v : AVal} (N : Nat) (h : ∀ n, pcall T (n + N) f as = some (.ok v)) : PRes T f as v := ⟨N, fun n hn => by
  have := h (n - N); rwa [show n - N + N = n by omega] at this⟩
theorem CA_of {f : FuncId} {vs as : List AVal} {v : AVal} {H : Heap} (hs : shutL H vs = some as) (h : PRes T f as v) : CA T false f vs H v H := h.map fun n hn => callA_of hs hn
theorem CA_nr {f : FuncId} {vs : List AVal} {v : AVal} {H H1 H2 : Heap} (hs : shutL H vs = none) (h : HRes T f vs H v H1) (hc : cutH H.length v H1 = H2) : CA T false f vs H v H2 := h.map fun n hn => callA_nr hs hn hc
theorem CA_raw {f : FuncId} {vs : List AVal} {v : AVal} {H H1 H2 : Heap} (h : HRes T f vs H v H1) (hc : cutH H.length v H1 = H2) : CA T true f vs H v H2 := h.map fun n hn => callA_raw hn hc
theorem L_nil (h : Q .norm e H) : GL T [] e H Q := h
theorem L_skip (h : GL T cs e H Q) : GL T (.skip :: cs) e H Q := ⟨.norm, e, H, .of fun _ => rfl, h⟩
theorem L_ret (h : Q .ret e H) : GL T (.ret :: cs) e H Q := ⟨.ret, e, H, .of fun _ => rfl, h⟩
theorem L_exit {id : Nat} (h : Q (.exit id) e H) : GL T (.exit id :: cs) e H Q := ⟨.exit id, e, H, .of fun _ => rfl, h⟩
theorem L_prune {keep : List Nat} (h1 : restr e keep = e') (h : GL T cs e' H Q) : GL T (.prune keep :: cs) e H Q := ⟨.norm, _, H, .of fun _ => rfl, by rw [h1]; exact h⟩
theorem L_own {t : Nat} {off : Option Nat} (h1 : ownA t off e H = (e', H')) (h : GL T cs e' H' Q) : GL T (.own t off :: cs) e H Q := ⟨.norm, _, _, .of fun _ => rfl, by rw [h1]; exact h⟩
theorem L_seq {a b : ACode} (h : GL T (a :: b :: cs) e H Q) : GL T (.seq a b :: cs) e H Q := by
  obtain ⟨x, e1, H1, h1, h2⟩ := h
  cases x with
  | norm =>
    obtain ⟨y, e2, H2, h3, h4⟩ := h2
    exact ⟨y, e2, H2, h1.map2 h3 fun n k1 k2 => by simp only [evalCode, k1, k2], h4⟩
  | exit i => exact ⟨.exit i, e1, H1, h1.map fun n k => by simp only [evalCode, k], h2⟩
  | ret => exact ⟨.ret, e1, H1, h1.map fun n k => by simp only [evalCode, k], h2⟩
  | pan v => exact ⟨.pan v, e1, H1, h1.map fun n k => by simp only [evalCode, k], h2⟩
theorem L_reg {l : List AOper} (h : GO T l cs e H Q) : GL T (.reg l :: cs) e H Q := h
theorem L_T {x : AOpd} {a b : ACode} {t : Bool} (hx : x.ev e = some (.bool t)) (ht : t = true) (h : GL T (a :: cs) e H Q) : GL T (.cond x a b :: cs) e H Q := by
  subst ht
  obtain ⟨y, e2, H2, h3, h4⟩ := h
  exact ⟨y, e2, H2, h3.map fun n k => by simp only [evalCode, hx, if_true, k], h4⟩
theorem L_F {x : AOpd} {a b : ACode} {t : Bool} (hx : x.ev e = some (.bool t)) (ht : t = false) (h : GL T (b :: cs) e H Q) : GL T (.cond x a b :: cs) e H Q := by
  subst ht
  obtain ⟨y, e2, H2, h3, h4⟩ := h
  exact ⟨y, e2, H2, h3.map fun n k => by simp only [evalCode, hx, Bool.false_eq_true, if_false, k], h4⟩
theorem L_block {id : Nat} {a : ACode} (h : GL T [a] e H (Blk id (fun e' H' => GL T cs e' H' Q) Q)) : GL T (.block id a :: cs) e H Q := by
  obtain ⟨x, e1, H1, h1, h2⟩ := h
  cases x with
  | norm => exact ⟨.norm, e1, H1, h1.map fun n k => by simp only [evalCode, k], h2⟩
  | exit j =>
    simp only [Blk] at h2
    split at h2
    · rename_i hj; exact ⟨.norm, e1, H1, h1.map fun n k => by simp only [evalCode, k, hj, if_true], h2⟩
    · rename_i hj; exact ⟨.exit j, e1, H1, h1.map fun n k => by simp only [evalCode, k, hj, if_false], h2⟩
  | ret => exact ⟨.ret, e1, H1, h1.map fun n k => by simp only [evalCode, k], h2⟩
  | pan v => exact ⟨.pan v, e1, H1, h1.map fun n k => by simp only [evalCode, k], h2⟩
def Rd (K : Env → Heap → Prop) (Q : Post) : Post
  | .norm, e, H => K e H
  | x, e, H => Q x e H
theorem Rd_norm {K : Env → Heap → Prop} (h : K e H) : Rd K Q .norm e H := h
theorem Rd_exit {K : Env → Heap → Prop} {j : Nat} (h : Q (.exit j) e H) : Rd K Q (.exit j) e H := h
theorem Rd_ret {K : Env → Heap → Prop} (h : Q .ret e H) : Rd K Q .ret e H := h
theorem L_round {base : Nat} {keep : List Nat} {a : ACode} {e1 : Env} {H1 : Heap} (he : restr e keep = e1) (hH : trunc base e1 H = H1) (h : GL T [a] e1 H1 (Rd (fun e' H' => GLoop T base keep a e' H' Q) Q)) : GLoop T base keep a e H Q := by
  subst he hH
  obtain ⟨x, e1, H1, ⟨N, hN⟩, h2⟩ := h
  cases x with
  | norm =>
    obtain ⟨y, e2, H2, ⟨M, hM⟩, h3, h4⟩ := h2
    refine ⟨y, e2, H2, ⟨N + M + 1, fun n m hn hm => ?_⟩, h3, h4⟩
    obtain ⟨m, rfl⟩ : ∃ k, m = k + 1 := ⟨m - 1, by omega⟩
    simp only [iter, hN n (by omega), hM n m (by omega) (by omega)]
  | exit i =>
    refine ⟨.exit i, e1, H1, ⟨N + 1, fun n m hn hm => ?_⟩, by simp, h2⟩
    obtain ⟨m, rfl⟩ : ∃ k, m = k + 1 := ⟨m - 1, by omega⟩
    simp only [iter, hN n (by omega)]
  | ret =>
    refine ⟨.ret, e1, H1, ⟨N + 1, fun n m hn hm => ?_⟩, by simp, h2⟩
    obtain ⟨m, rfl⟩ : ∃ k, m = k + 1 := ⟨m - 1, by omega⟩
    simp only [iter, hN n (by omega)]
  | pan v =>
    refine ⟨.pan v, e1, H1, ⟨N + 1, fun n m hn hm => ?_⟩, by simp, h2⟩
    obtain ⟨m, rfl⟩ : ∃ k, m = k + 1 := ⟨m - 1, by omega⟩
    simp only [iter, hN n (by omega)]
theorem L_loop {keep : List Nat} {a : ACode} (h : GLoop T H.length keep a e H Q) : GL T (.loop keep a :: cs) e H Q := by
  obtain ⟨x, e1, H1, ⟨N, hN⟩, h2, h3⟩ := h
  refine ⟨x, e1, H1, ⟨N, fun n hn => hN n n hn hn⟩, ?_⟩
  cases x with
  | norm => exact absurd rfl h2
  | _ => exact h3
theorem G_nil (h : GL T cs e H Q) : GO T [] cs e H Q := ⟨.norm, e, H, .of fun _ => rfl, h⟩
theorem G_step {o : AOper} {l : List AOper} {v : AVal} (hg : wantedA e o.guard = some true) (hv : Lim fun n => evalOp (Cn T n) e H.length H o.op = some (.ok v, H')) (h : GO T l cs (e.put o.dst v) H' Q) : GO T (o :: l) cs e H Q := by
  obtain ⟨x, e1, H1, h1, h2⟩ := h
  exact ⟨x, e1, H1, hv.map2 h1 fun n k1 k2 => by simp only [evalOps, hg, k1, k2], h2⟩
section
variable {d : Nat} {op : AOp} {g : Option (Nat × Bool)} {l : List AOper} {v : AVal}
theorem G_p (hk : op.kind = .pure) (hg : wantedA e g = some true) (hv : evP e op = some v) (h : GO T l cs ((d, v) :: e) H Q) : GO T (⟨some d, op, g⟩ :: l) cs e H Q :=
  G_step (v := v) (H' := H) hg (.of fun n => by simp only [evalOp, hk, hv, okv]) h
theorem G_v {v : AVal} (v' : AVal) (hk : op.kind = .pure) (hg : wantedA e g = some true) (hv : evP e op = some v) (hvv : v = v') (h : GO T l cs ((d, v') :: e) H Q) : GO T (⟨some d, op, g⟩ :: l) cs e H Q := G_p hk hg (hvv ▸ hv) h
theorem G_n {B : ABlock} (hk : op.kind = .new) (hg : wantedA e g = some true) (hv : evN e H.length op = some (v, B)) (h : GO T l cs ((d, v) :: e) (H ++ [B]) Q) : GO T (⟨some d, op, g⟩ :: l) cs e H Q :=
  G_step (v := v) (H' := H ++ [B]) hg (.of fun n => by simp only [evalOp, hk, hv, newAt, if_true]) h
theorem G_h (hc : op.isCall = false) (hk : op.kind = .heap) (hg : wantedA e g = some true) (hv : ∀ C, evH C e H.length H op = some (.ok v, H')) (h : GO T l cs ((d, v) :: e) H' Q) : GO T (⟨some d, op, g⟩ :: l) cs e H Q :=
  G_step (v := v) (H' := H') hg (.of fun n => by simp only [evalOp, hk, hv]) h
theorem G_hn (hc : op.isCall = false) (hk : op.kind = .heap) (hg : wantedA e g = some true) (hv : ∀ C, evH C e H.length H op = some (.ok v, H')) (h : GO T l cs e H' Q) : GO T (⟨none, op, g⟩ :: l) cs e H Q :=
  G_step (v := v) (H' := H') hg (.of fun n => by simp only [evalOp, hk, hv]) h
theorem G_c {raw : Bool} (f : FuncId) {args : List AOpd} {vs : List AVal} (hg : wantedA e g = some true) (hvs : evs e args = some vs) (hv : CA T raw f vs H v H') (h : GO T l cs ((d, v) :: e) H' Q) : GO T (⟨some d, .call raw f args, g⟩ :: l) cs e H Q :=
  G_step (v := v) (H' := H') hg (hv.map fun n hn => by simp only [evalOp, AOp.kind, evH, hvs, hn]) h
theorem G_cv {raw : Bool} {x : AOpd} {args : List AOpd} {f : FuncId} {caps vs : List AVal} (hg : wantedA e g = some true) (hx : x.ev e = some (.fn f caps)) (hvs : evs e args = some vs) (hv : CA T raw f (vs ++ caps) H v H') (h : GO T l cs ((d, v) :: e) H' Q) : GO T (⟨some d, .callv raw x args, g⟩ :: l) cs e H Q :=
  G_step (v := v) (H' := H') hg (hv.map fun n hn => by simp only [evalOp, AOp.kind, evH, hx, hvs, hn]) h
end
theorem bare_offU {C : Ctx} {k : Nat} {w b : Bool} (hb : b ≠ w) : ∀ {blk l : List AOper} {ks seen : List Nat} {e : Env} {r : List AOper} {H : Heap}, bare k w seen blk = some (l, ks) → e.get k = some (.bool b) → (∀ d, d ∈ seen → e.get d = some undefA) →
    evalOps C (blk ++ r) e H = evalOps C r (junk ks (List.replicate ks.length undefA) e) H ∧ (junk ks (List.replicate ks.length undefA) e).get k = some (.bool b)
  | [], l, ks, seen, e, r, H, h, hk, hs => by
    simp only [bare, Option.some.injEq, Prod.mk.injEq] at h
    obtain ⟨rfl, rfl⟩ := h
    exact ⟨rfl, hk⟩
  | o :: blk, l, ks, seen, e, r, H, h, hk, hs => by
    obtain ⟨d, op, g⟩ := o
    cases d with
    | none => simp [bare] at h
    | some d =>
      cases g with
      | none => simp [bare] at h
      | some g =>
        obtain ⟨k', w'⟩ := g
        simp only [bare] at h
        split at h <;> first | (cases h; done) | skip
        rename_i hd
        have hdk : d ≠ k := by intro hh; subst hh; simp at hd
        have hseen : ∀ c, c ∈ d :: seen → Env.get ((d, undefA) :: e) c = some undefA := by
          intro c hc
          by_cases hcd : d = c
          · subst hcd; simp [Env.get]
          · rw [get_put_ne hcd]
            rcases List.mem_cons.1 hc with h1 | h1
            · exact absurd h1.symm hcd
            · exact hs c h1
        split at h
        · rename_i hc
          simp only [Bool.and_eq_true, beq_iff_eq] at hc
          split at h <;> first | (cases h; done) | skip
          rename_i l' ks' hr
          simp only [Option.some.injEq, Prod.mk.injEq] at h
          obtain ⟨rfl, rfl⟩ := h
          have e1 := Nat.eq_of_beq_eq_true hc.1
          have e2 := hc.2
          subst e1 e2
          obtain ⟨h2, h3⟩ := bare_offU hb (e := (d, undefA) :: e) (r := r) (H := H) hr (by rw [get_put_ne hdk]; exact hk) hseen
          refine ⟨?_, h3⟩
          have hbw : (b == w') = false := by simpa using hb
          simp only [List.cons_append, evalOps, wantedA, hk, hbw, Env.put]
          exact h2
        · split at h <;> first | (cases h; done) | skip
          rename_i hc
          simp only [Bool.and_eq_true, Bool.not_eq_true'] at hc
          split at h <;> first | (cases h; done) | skip
          rename_i l' ks' hr
          simp only [Option.some.injEq, Prod.mk.injEq] at h
          obtain ⟨rfl, rfl⟩ := h
          obtain ⟨h2, h3⟩ := bare_offU hb (e := (d, undefA) :: e) (r := r) (H := H) hr (by rw [get_put_ne hdk]; exact hk) hseen
          refine ⟨?_, h3⟩
          have := hs k' (notIn_false hc.1)
          simp only [undefA] at this
          simp only [List.cons_append, evalOps, wantedA, this, Env.put]
          exact h2
theorem bare_onU {k : Nat} {w : Bool} {blk l : List AOper} {ks : List Nat} {e e1 : Env} {H : Heap} (hb : bare k w [] blk = some (l, ks)) (hk : e.get k = some (.bool w)) (h4 : Lim fun n => evalOps (Cn T n) l e H = some (.norm, e1, H)) :
    ∃ vs, vs.length = ks.length ∧ e1 = junk ks vs e ∧ (junk ks vs e).get k = some (.bool w) ∧ ∀ r, Lim fun n => evalOps (Cn T n) (blk ++ r) e H = evalOps (Cn T n) r (junk ks vs e) H := by
  obtain ⟨n0, hn0⟩ := h4.get
  obtain ⟨vs, h1, _, h3, h7⟩ := bare_on (C := Cn T n0) (w := w) (r := []) hb hk hn0
  refine ⟨vs, h1, h7, h3, fun r => h4.map fun n hn => ?_⟩
  obtain ⟨us, _, k2, _, k7⟩ := bare_on (C := Cn T n) (w := w) (r := r) hb hk hn
  rw [k2, ← k7, h7]
theorem G_pick (w : Bool) (blk : List AOper) {k d : Nat} {b : Bool} {v vo : AVal} {x y : AOpd} {l r : List AOper} {ks : List Nat} (hb : bare k w [] blk = some (l, ks)) (hk : e.get k = some (.bool b))
    (hT : b = w → GO T l [] e H (fun z e1 H1 => z = .norm ∧ H1 = H ∧ (if w then x.ev e1 else y.ev e1) = some v)) (hF : b ≠ w → v = vo) (ho : (if w then y else x) = .c vo)
    (h : ∀ vs, vs.length = ks.length → GO T r cs ((d, v) :: junk ks vs e) H Q) : GO T (blk ++ ⟨some d, .pick (.t k) x y, none⟩ :: r) cs e H Q := by
  by_cases hbw : b = w
  · subst hbw
    obtain ⟨z, e1, H1, h4, h5⟩ := hT rfl
    have h5' : z = .norm ∧ H1 = H ∧ (if b then x.ev e1 else y.ev e1) = some v := by
      cases z with
      | norm => exact h5
      | _ => exact h5
    obtain ⟨rfl, rfl, h6⟩ := h5'
    obtain ⟨vs, h1, rfl, h3, h7⟩ := bare_onU hb hk h4
    obtain ⟨z, e', H', h8, h9⟩ := h vs h1
    refine ⟨z, e', H', (h7 (⟨some d, .pick (.t k) x y, none⟩ :: r)).map2 h8 fun n k1 k2 => ?_, h9⟩
    rw [k1]
    cases b with
    | true =>
      simp only [if_true] at h6
      have h3' : (AOpd.t k).ev (junk ks vs e) = some (.bool true) := h3
      simp only [evalOps, wantedA, evalOp, AOp.kind, evP, h3', h6, okv, Env.put]
      exact k2
    | false =>
      simp only [Bool.false_eq_true, if_false] at h6
      have h3' : (AOpd.t k).ev (junk ks vs e) = some (.bool false) := h3
      simp only [evalOps, wantedA, evalOp, AOp.kind, evP, h3', h6, okv, Env.put]
      exact k2
  · obtain rfl := hF hbw
    obtain ⟨z, e', H', h4, h5⟩ := h (List.replicate ks.length undefA) (by simp)
    refine ⟨z, e', H', h4.map fun n k1 => ?_, h5⟩
    obtain ⟨h2, h3⟩ := bare_offU (C := Cn T n) hbw (r := ⟨some d, .pick (.t k) x y, none⟩ :: r) (H := H) hb hk (by simp)
    rw [h2]
    cases w with
    | true =>
      have hbf : b = false := by cases b <;> simp_all
      subst hbf
      simp only [if_true] at ho
      subst ho
      simp only [evalOps, wantedA, evalOp, AOp.kind, evP, AOpd.ev, h3, okv, Env.put]
      exact k1
    | false =>
      have hbt : b = true := by cases b <;> simp_all
      subst hbt
      simp only [Bool.false_eq_true, if_false] at ho
      subst ho
      simp only [evalOps, wantedA, evalOp, AOp.kind, evP, AOpd.ev, h3, okv, Env.put]
      exact k1
theorem G_and (blk : List AOper) {k s d : Nat} {b f : Bool} {l r : List AOper} {ks : List Nat} (hb : bare k true [] blk = some (l, ks)) (hk : e.get k = some (.bool b))
    (hT : b = true → GO T l [] e H (fun x e1 H1 => x = .norm ∧ H1 = H ∧ e1.get s = some (.bool f)))
    (h : ∀ vs, vs.length = ks.length → GO T r cs ((d, .bool (b && f)) :: junk ks vs e) H Q) : GO T (blk ++ ⟨some d, .pick (.t k) (.t s) (.c (.bool false)), none⟩ :: r) cs e H Q :=
  G_pick true blk hb hk (fun h1 => by subst h1; exact hT rfl) (fun h1 => by cases b <;> simp_all) rfl h
theorem G_or (blk : List AOper) {k s d : Nat} {b f : Bool} {l r : List AOper} {ks : List Nat} (hb : bare k false [] blk = some (l, ks)) (hk : e.get k = some (.bool b))
    (hT : b = false → GO T l [] e H (fun x e1 H1 => x = .norm ∧ H1 = H ∧ e1.get s = some (.bool f)))
    (h : ∀ vs, vs.length = ks.length → GO T r cs ((d, .bool (b || f)) :: junk ks vs e) H Q) : GO T (blk ++ ⟨some d, .pick (.t k) (.c (.bool true)) (.t s), none⟩ :: r) cs e H Q :=
  G_pick false blk hb hk (fun h1 => by subst h1; exact hT rfl) (fun h1 => by cases b <;> simp_all) rfl h
theorem L_drawS {l : List (AOper × Nat × List Nat)} {ops : List AOper} (hs : statOk [] l = true) (ho : l.map (·.1) = ops) (h : GO T ops [] e H (fun x e' H' => x = .norm ∧ GL T cs e' H' Q)) : GL T (.draw 0 l :: cs) e H Q := by
  subst ho
  obtain ⟨x, e1, H1, h1, h2⟩ := h
  have h2' : x = .norm ∧ GL T cs e1 H1 Q := by
    cases x with
    | norm => exact h2
    | _ => exact h2
  obtain ⟨rfl, h3⟩ := h2'
  refine ⟨.norm, e1, H1, h1.map fun n hn => ?_, h3⟩
  obtain ⟨fs, k1, k2⟩ := runD_seq (base := H.length) (gs := []) hs .nil hn
  simp only [evalCode, evalDraw, List.replicate_zero, List.append_nil, k1]
  exact if_pos (k2 fs rfl)
section
variable {imp : List Nat} {l : List (AOper × Nat × List Nat)} {K : Env → Heap → Prop} {d j : Nat} {ds : List Nat} {op : AOp} {g : Option (Nat × Bool)} {v : AVal}
end
def GD (T : Nat → Option AFunc) (base : Nat) (l : List (AOper × Nat × List Nat)) (acc : List Foot) (e : Env) (H : Heap) (K : List Foot → Env → Heap → Prop) : Prop :=
  ∃ fs e' H', (Lim fun n => runD (Cn T n) base l e H = some (fs, e', H')) ∧ K (acc ++ fs) e' H'
theorem L_draw {m : Nat} {l : List (AOper × Nat × List Nat)} (h : GD T H.length l [] e (H ++ List.replicate m .hole) (fun fs e' H' => okFs fs 0 l fs = true ∧ GL T cs e' H' Q)) : GL T (.draw m l :: cs) e H Q := by
  obtain ⟨fs, e1, H1, h1, h2, h3⟩ := h
  refine ⟨.norm, e1, H1, h1.map fun n hn => ?_, h3⟩
  rw [List.nil_append] at h2
  simp only [evalCode, evalDraw, hn, h2, if_true]
section
variable {base : Nat} {l : List (AOper × Nat × List Nat)} {acc : List Foot} {K : List Foot → Env → Heap → Prop} {d j : Nat} {ds : List Nat} {op : AOp} {g : Option (Nat × Bool)} {v : AVal}
theorem GD_nil (h : K acc e H) : GD T base [] acc e H K := ⟨[], e, H, .of fun _ => rfl, by rw [List.append_nil]; exact h⟩
theorem GD_nil2 {all : List (AOper × Nat × List Nat)} (h1 : okFs2 acc 0 all acc = true) (h2 : GL T cs e H Q) : GD T base [] acc e H (fun fs e' H' => okFs fs 0 all fs = true ∧ GL T cs e' H' Q) :=
  GD_nil ⟨by rw [← okFs2_eq]; exact h1, h2⟩
theorem GD_step {o : AOper} {f : Foot} (hv : Lim fun n => stepV (Cn T n) base o j e H = some (f, v, H')) (h : GD T base l (acc ++ [f]) (e.put o.dst v) H' K) : GD T base ((o, j, ds) :: l) acc e H K := by
  obtain ⟨fs, e1, H1, h1, h2⟩ := h
  refine ⟨f :: fs, e1, H1, hv.map2 h1 fun n k1 k2 => by simp only [runD, k1, k2], ?_⟩
  rw [List.append_assoc] at h2
  exact h2
theorem GD_p (hk : op.kind = .pure) (hg : wantedA e g = some true) (hv : evP e op = some v) (h : GD T base l (acc ++ [.io [] []]) ((d, v) :: e) H K) : GD T base ((⟨some d, op, g⟩, j, ds) :: l) acc e H K :=
  GD_step (f := .io [] []) (v := v) (H' := H) (.of fun n => by simp [stepV, hg, hk, evalOp, hv, okv, footA]) h
theorem GD_h {d : Option Nat} {r w : List Nat} (hc : op.isCall = false) (hk : op.kind = .heap) (hg : wantedA e g = some true) (hf : footH e H op = some (r, w)) (hv : ∀ C, evH C e (base + j) H op = some (.ok v, H'))
    (h : GD T base l (acc ++ [.io r w]) (e.put d v) H' K) : GD T base ((⟨d, op, g⟩, j, ds) :: l) acc e H K :=
  GD_step (f := .io r w) (v := v) (H' := H') (.of fun n => by simp [stepV, hg, hk, evalOp, hv, footA, hf]) h
theorem GD_o {d : Option Nat} (hc : op.isCall = false) (hk : op.kind = .heap) (hg : wantedA e g = some true) (hf : footH e H op = none) (hv : ∀ C, evH C e (base + j) H op = some (.ok v, H'))
    (h : GD T base l (acc ++ [.opq H H']) (e.put d v) H' K) : GD T base ((⟨d, op, g⟩, j, ds) :: l) acc e H K :=
  GD_step (f := .opq H H') (v := v) (H' := H') (.of fun n => by simp [stepV, hg, hk, evalOp, hv, footA, hf]) h
theorem GD_c (f : FuncId) {args : List AOpd} {vs as : List AVal} (hg : wantedA e g = some true) (hvs : evs e args = some vs) (hs : shutL H vs = some as) (hv : CA T false f vs H v H)
    (h : GD T base l (acc ++ [.io (glsL vs) []]) ((d, v) :: e) H K) : GD T base ((⟨some d, .call false f args, g⟩, j, ds) :: l) acc e H K :=
  GD_step (f := .io (glsL vs) []) (v := v) (H' := H) (hv.map fun n hn => by simp [stepV, hg, AOp.kind, evalOp, evH, hvs, hn, footA, footH, footArgs, hs]) h
end
theorem pres_fin {f : Nat} {body : ACode} {rs : List ARes} {as : List AVal} {v : AVal} (h : T f = some ⟨body, rs⟩)
    (hw : GL T [body] (initEnv 0 as) [] (FinQ rs (.ok v))) : PRes T f as v := by
  obtain ⟨x, e1, H1, h1, h2⟩ := hw
  refine Lim.succ (h1.map fun n hn => ?_)
  rw [pcall_step h, show (⟨callF T n, n⟩ : Ctx) = Cn T n from rfl, hn]
  cases x with
  | norm =>
    obtain ⟨vs, h3, v, h4, h5⟩ := h2
    cases h5
    simp only [finish, h3, pureRes, h4]
  | ret =>
    obtain ⟨vs, h3, v, h4, h5⟩ := h2
    cases h5
    simp only [finish, h3, pureRes, h4]
  | pan v =>
    obtain ⟨v', h3, h5⟩ := h2
    cases h5
  | exit i => exact h2.elim
theorem hres_fin {f : Nat} {body : ACode} {rs : List ARes} {as : List AVal} {H : Heap} {v : AVal} {H' : Heap} (h : T f = some ⟨body, rs⟩)
    (hw : GL T [body] (initEnv 0 as) H (FinH rs fun y H2 => y = .ok v ∧ H2 = H')) : HRes T f as H v H' := by
  obtain ⟨y, e1, H1, h1, h2⟩ := hw
  refine Lim.succ (h1.map fun n hn => ?_)
  simp only [callF, h, show (⟨callF T n, n⟩ : Ctx) = Cn T n from rfl, hn]
  cases y with
  | norm =>
    obtain ⟨vs, h3, h4, rfl⟩ := h2
    cases h4
    simp only [finish, h3]
  | ret =>
    obtain ⟨vs, h3, h4, rfl⟩ := h2
    cases h4
    simp only [finish, h3]
  | pan v =>
    obtain ⟨h4, h5⟩ := h2
    cases h4
  | exit i => exact h2.elim
theorem GL_nilI : GL T [] e H Q ↔ Q .norm e H := Iff.rfl
theorem GL_consI {c : ACode} : GL T (c :: cs) e H Q ↔ ∃ x e' H', (Lim fun n => evalCode (Cn T n) c e H = some (x, e', H')) ∧ match x with
    | .norm => GL T cs e' H' Q
    | x => Q x e' H' := Iff.rfl
theorem GL_mono {Q' : Post} (hq : ∀ x e H, Q x e H → Q' x e H) : ∀ {cs : List ACode} {e : Env} {H : Heap}, GL T cs e H Q → GL T cs e H Q'
  | [], e, H, h => hq _ _ _ h
  | c :: cs, e, H, h => by
    obtain ⟨x, e1, H1, h1, h2⟩ := h
    refine ⟨x, e1, H1, h1, ?_⟩
    cases x with
    | norm => exact GL_mono hq h2
    | exit i => exact hq _ _ _ h2
    | ret => exact hq _ _ _ h2
    | pan v => exact hq _ _ _ h2
theorem Rd_mono {K K' : Env → Heap → Prop} (hk : ∀ e H, K e H → K' e H) : ∀ x e H, Rd K Q x e H → Rd K' Q x e H
  | .norm, e, H, h => hk _ _ h
  | .exit i, e, H, h => h
  | .ret, e, H, h => h
  | .pan v, e, H, h => h
end
attribute [irreducible] GL GO GLoop GD
end Go.Ev
namespace Go.Ev
set_option linter.unusedVariables false
set_option linter.unusedSimpArgs false
open Go
theorem bind_s {α β : Type} {o : Option α} {f : α → Option β} {r : β} (h : o.bind f = some r) : ∃ x, o = some x ∧ f x = some r := by
  cases o with
  | none => cases h
  | some x => exact ⟨x, rfl, h⟩
theorem cond_s {α : Type} {c : Bool} {a b : Option α} {r : α} (h : cond c a b = some r) : (c = true ∧ a = some r) ∨ (c = false ∧ b = some r) := by
  cases c with
  | true => exact .inl ⟨rfl, h⟩
  | false => exact .inr ⟨rfl, h⟩
theorem some_s {α : Type} {a b : α} (h : some a = some b) : a = b := Option.some.inj h
theorem guard_s {α : Type} {c : Bool} {a : Option α} {r : α} (h : cond c a none = some r) : c = true ∧ a = some r := by
  cases c with
  | true => exact ⟨rfl, h⟩
  | false => cases h
theorem condF {α : Type} {c : Bool} {a b : Option α} {r : α} (hc : c = false) (h : cond c a b = some r) : b = some r := by subst hc; exact h
theorem pickF {c f v : Bool} {a : Option Bool} (h : cond c (some f) a = some v) (hc : c ≠ false) : AVal.bool v = .bool f := by
  cases c with
  | false => exact absurd rfl hc
  | true => cases h; rfl
def okLen {α : Type} (l : List α) : Bool := decide (l.length < 100000000000)
theorem okLen_s {α : Type} {l : List α} (h : okLen l = true) : l.length < 100000000000 := of_decide_eq_true h
theorem okLen_of {α : Type} {l : List α} (h : l.length < 100000000000) : okLen l = true := decide_eq_true h
def idx {α : Type} (l : List α) (i : Int) : Option α := if 0 ≤ i then l[i.toNat]? else none
theorem idx_s {α : Type} {l : List α} {i : Int} {x : α} (h : idx l i = some x) : 0 ≤ i ∧ l[i.toNat]? = some x := by
  unfold idx at h
  split at h
  · rename_i h0; exact ⟨h0, h⟩
  · cases h
def catL {α : Type} (l m : List α) : Option (List α) := if l.length + m.length < 100000000000 then some (l ++ m) else none
theorem catL_s {α : Type} {l m r : List α} (h : catL l m = some r) : r = l ++ m ∧ l.length + m.length < 100000000000 := by
  unfold catL at h
  split at h
  · rename_i h0; cases h; exact ⟨rfl, h0⟩
  · cases h
def subL {α : Type} (l : List α) (lo hi : Int) : Option (List α) := if 0 ≤ lo ∧ lo ≤ hi ∧ hi ≤ l.length then some ((l.take hi.toNat).drop lo.toNat) else none
def andB (k : IntKind) (a b : Int) : Int := k.wrap ((BitVec.ofInt k.bits a &&& BitVec.ofInt k.bits b).toNat)
def shlI (k : IntKind) (a b : Int) : Option Int := if b < 0 then none else some (k.wrap (a * 2 ^ (min b.toNat k.bits)))
def esz (w n : Nat) : Nat := if n = 0 then 0 else w
theorem esz_or (w n : Nat) : esz w n = w ∨ esz w n = 0 := by unfold esz; split <;> simp
def growM {α : Type} (w : Nat) (f : α → AVal) (l : List α) : ABlock := .grow (esz w l.length) (l.map f) none
theorem growM_w {α : Type} {w : Nat} {f : α → AVal} (hf : ∀ x, (f x).width = w) (l : List α) : (l.map f).all (fun y => decide (y.width = w)) = true := by
  rw [List.all_eq_true]
  intro y hy
  obtain ⟨x, _, rfl⟩ := List.mem_map.1 hy
  simp [hf]
theorem map_get {α : Type} {f : α → AVal} {l : List α} {n : Nat} {x : α} (h : l[n]? = some x) : (l.map f)[n]? = some (f x) := by rw [List.getElem?_map, h]; rfl
theorem shutV_gl {α : Type} {H : Heap} {o w : Nat} {f : α → AVal} {l : List α} (h : H[o]? = some (growM w f l)) : shutV H (.gl o l.length) = some (.lst (l.map f) false) := by
  simp [shutV, growAt, h, growM]
theorem shutL_cons {H : Heap} {v a : AVal} {vs b : List AVal} (h1 : shutV H v = some a) (h2 : shutL H vs = some b) : shutL H (v :: vs) = some (a :: b) := by simp [shutL, h1, h2]
theorem shutR_gl {α : Type} {H : Heap} {o w : Nat} {f : α → AVal} {l : List α} (h : H[o]? = some (growM w f l)) : shutR H (.gl o l.length) = some (.lst (l.map f) false) := by
  simp [shutR, growAt, h, growM]
theorem shutR_agg {H : Heap} {cs cs' : List AVal} (h : shutRL H cs = some cs') : shutR H (.agg cs) = some (.agg cs') := by simp [shutR, h]
theorem shutRL_cons {H : Heap} {v a : AVal} {vs b : List AVal} (h1 : shutR H v = some a) (h2 : shutRL H vs = some b) : shutRL H (v :: vs) = some (a :: b) := by simp [shutRL, h1, h2]
theorem wrap_next {i n : Nat} (h : n < 100000000000) (hi : i < n) : IntKind.i64.wrap ((i : Int) + 1) = ((i + 1 : Nat) : Int) := by
  rw [kw_i64_id (by omega) (by omega)]; rfl
section
variable {T : Nat → Option AFunc} {cs : List ACode} {e e' : Env} {H H' : Heap} {Q : Post}
theorem L_pruneH {keep : List Nat} {H1 : Heap} (h1 : restr e keep = e') (h2 : H = H1) (h : GL T cs e' H1 Q) : GL T (.prune keep :: cs) e H Q := by
  subst h2; exact L_prune h1 h
def Sm (keep : List Nat) (frz : List (Nat × Option Nat)) (n : Nat) (K : Env → Heap → Prop) (Q : Post) : Post
  | .norm, e, H => K (stmtE keep frz e H) (stmtH n keep frz e H)
  | x, e, H => Q x e H
theorem Sm_norm {keep : List Nat} {frz : List (Nat × Option Nat)} {n : Nat} {K : Env → Heap → Prop} {e1 e2 : Env} {H1 H2 : Heap} (h0 : frzAll frz e H = (e1, H1)) (h1 : restr e1 keep = e2) (h2 : trunc n e2 H1 = H2) (h : K e2 H2) : Sm keep frz n K Q .norm e H := by
  subst h1 h2
  show K (stmtE keep frz e H) (stmtH n keep frz e H)
  unfold stmtH stmtE
  rw [h0]; exact h
theorem Sm_exit {keep : List Nat} {frz : List (Nat × Option Nat)} {n : Nat} {K : Env → Heap → Prop} {j : Nat} (h : Q (.exit j) e H) : Sm keep frz n K Q (.exit j) e H := h
theorem Sm_ret {keep : List Nat} {frz : List (Nat × Option Nat)} {n : Nat} {K : Env → Heap → Prop} (h : Q .ret e H) : Sm keep frz n K Q .ret e H := h
theorem L_stmt {keep : List Nat} {frz : List (Nat × Option Nat)} {a : ACode} (h : GL T [a] e H (Sm keep frz H.length (fun e' H' => GL T cs e' H' Q) Q)) : GL T (.stmt keep frz a :: cs) e H Q := by
  rw [GL_consI] at h ⊢
  obtain ⟨x, e1, H1, h1, h2⟩ := h
  cases x with
  | norm =>
    rw [GL_nilI] at h2
    exact ⟨.norm, _, _, h1.map fun n k => by simp only [evalCode, k], h2⟩
  | exit i => exact ⟨.exit i, e1, H1, h1.map fun n k => by simp only [evalCode, k], h2⟩
  | ret => exact ⟨.ret, e1, H1, h1.map fun n k => by simp only [evalCode, k], h2⟩
  | pan v => exact ⟨.pan v, e1, H1, h1.map fun n k => by simp only [evalCode, k], h2⟩
theorem L_stmtJ {S : Type} {keep : List Nat} {frz : List (Nat × Option Nat)} {a : ACode} (envs : S → Env) (heaps : S → Heap) (P : S → Prop) (h1 : GL T [a] e H (Sm keep frz H.length (fun e' H' => ∃ s, e' = envs s ∧ H' = heaps s ∧ P s) Q)) (h2 : ∀ s, P s → GL T cs (envs s) (heaps s) Q) :
    GL T (.stmt keep frz a :: cs) e H Q := by
  refine L_stmt (GL_mono ?_ h1)
  intro x e1 H1 h
  cases x with
  | norm => obtain ⟨s, k1, k2, k3⟩ := h; show GL T cs _ _ Q; rw [k1, k2]; exact h2 s k3
  | exit i => exact h
  | ret => exact h
  | pan v => exact h
theorem frz_c {t : Nat} {off : Option Nat} {r : List (Nat × Option Nat)} {e1 : Env} {H1 : Heap} {R : Env × Heap} (h1 : frzA t off e H = (e1, H1)) (h2 : frzAll r e1 H1 = R) : frzAll ((t, off) :: r) e H = R := by
  simp only [frzAll, h1]; exact h2
theorem frz_gl {α : Type} {t o w : Nat} {f : α → AVal} {l : List α} (h1 : e.get t = some (.gl o l.length)) (h2 : H[o]? = some (growM w f l)) : frzA t none e H = ((t, .lst (l.map f) false) :: e, H) := by
  simp only [frzA, h1, frzV, shutV_gl h2]
theorem frz_glC {α : Type} {t k b o j w : Nat} {f : α → AVal} {l : List α} {vs : List AVal} {H2 : Heap} (h1 : e.get t = some (.ptr b o)) (hb : H[b]? = some (.cells vs)) (hv : vs[o + k]? = some (.gl j l.length)) (h2 : H[j]? = some (growM w f l)) (h3 : H.set b (.cells (vs.set (o + k) (.lst (l.map f) false))) = H2) : frzA t (some k) e H = (e, H2) := by
  subst h3
  simp only [frzA, h1, hb, hv, frzV, shutV_gl h2]
theorem L_range {X S : Type} {keep : List Nat} {a : ACode} (L : List X) (envs : Nat → S → Env) (heaps : Nat → S → Heap) (P : List X → Nat → S → Prop) (s0 : S)
    (he : restr e keep = envs 0 s0) (hH : trunc H.length (envs 0 s0) H = heaps 0 s0) (h0 : P L 0 s0)
    (hnil : ∀ s, P [] L.length s → GL T [a] (envs L.length s) (heaps L.length s) (Rd (fun _ _ => False) Q))
    (hcons : ∀ x rest i s, L[i]? = some x → i < L.length → P (x :: rest) i s → GL T [a] (envs i s) (heaps i s) (Rd (fun e' H' => ∃ s', restr e' keep = envs (i + 1) s' ∧ trunc H.length (envs (i + 1) s') H' = heaps (i + 1) s' ∧ P rest (i + 1) s') Q)) :
    GL T (.loop keep a :: cs) e H Q := by
  refine L_loop ?_
  have key : ∀ (rest : List X) (i : Nat) (s : S) (e2 : Env) (H2 : Heap), L.drop i = rest → i ≤ L.length → P rest i s → restr e2 keep = envs i s → trunc H.length (envs i s) H2 = heaps i s → GLoop T H.length keep a e2 H2 Q := by
    intro rest
    induction rest with
    | nil =>
      intro i s e2 H2 hd hi hP he hH
      have hi2 : i = L.length := by
        have := congrArg List.length hd
        simp at this; omega
      subst hi2
      refine L_round he hH ?_
      exact GL_mono (Rd_mono fun _ _ h => h.elim) (hnil s hP)
    | cons x rest ih =>
      intro i s e2 H2 hd hi hP he hH
      have hx : L[i]? = some x := by
        have := congrArg (fun l => l[0]?) hd
        simpa using this
      have hlt := (List.getElem?_eq_some_iff.1 hx).1
      refine L_round he hH ?_
      refine GL_mono (Rd_mono ?_) (hcons x rest i s hx hlt hP)
      rintro e3 H3 ⟨s', k1, k2, k3⟩
      refine ih (i + 1) s' e3 H3 ?_ (by omega) k3 k1 k2
      have := congrArg List.tail hd
      simpa using this
  exact key L 0 s0 e H rfl (Nat.zero_le _) h0 he hH
theorem bounds_of {len : Nat} {lo hi : Option AVal} {a b : Int} (hlo : lo = none ∧ a = 0 ∨ ∃ k, lo = some (.int k a)) (hhi : hi = none ∧ b = len ∨ ∃ k, hi = some (.int k b)) (h0 : 0 ≤ a) (h1 : a ≤ b) (h2 : b ≤ len) : bounds len len lo hi none = some (a.toNat, b.toNat, len) := by
  have e1 : ∀ k, bnd len (.int k b) = some b.toNat := by intro k; simp only [bnd]; rw [if_pos ⟨by omega, h2⟩]
  have e2 : ∀ k, bnd b.toNat (.int k a) = some a.toNat := by intro k; simp only [bnd]; rw [if_pos ⟨h0, by omega⟩]
  rcases hlo with ⟨rfl, rfl⟩ | ⟨k, rfl⟩ <;> rcases hhi with ⟨rfl, rfl⟩ | ⟨k', rfl⟩ <;> simp_all [bounds]
theorem evP_shl {x y : AOpd} {k k' : IntKind} {a b v : Int} (hx : x.ev e = some (.int k a)) (hy : y.ev e = some (.int k' b)) (hv : shlI k a b = some v) : evP e (.bin .shl x y) = some (.int k v) := by
  unfold shlI at hv
  split at hv
  · cases hv
  · rename_i hb; cases hv
    simp only [evP, hx, hy, binA, shiftA, hb, if_false]
theorem ia_ev {id es : Nat} {x i : AOpd} {xs : List AVal} {b : Bool} {k : IntKind} {n : Int} {y : AVal} {cells : List AVal} (hx : x.ev e = some (.lst xs b)) (hi : i.ev e = some (.int k n)) (h0 : 0 ≤ n) (hy : xs[n.toNat]? = some y) (hf : y.flat = cells) (hw : cells.length = es) (C : Ctx) :
    evH C e id H (.ia es x i) = some (.ok (.ro cells), H) := by
  simp only [evH, hx, hi, h0, if_true, hy, AVal.width, hf, hw]
theorem lenL_ev {id : Nat} {x : AOpd} {xs : List AVal} {b : Bool} {n : Nat} (hx : x.ev e = some (.lst xs b)) (hn : xs.length = n) (C : Ctx) : evH C e id H (.len .slice x) = some (.ok (.int .i64 (n : Nat)), H) := by
  subst hn
  simp only [evH, hx, lenOf]; rfl
theorem sub_ev {α : Type} {es id : Nat} {x : AOpd} {lo hi : Option AOpd} {lv hv : Option AVal} {f : α → AVal} {m v : List α} {a b : Int} {fl : Bool} (hf : ∀ x, (f x).width = es) (hx : x.ev e = some (.lst (m.map f) fl)) (h1 : optEv e lo = some lv) (h2 : optEv e hi = some hv) (hlo : lv = none ∧ a = 0 ∨ ∃ k, lv = some (.int k a)) (hhi : hv = none ∧ b = m.length ∨ ∃ k, hv = some (.int k b))
    (hr : subL m a b = some v) (C : Ctx) : evH C e id H (.slc es x lo hi none) = some (.ok (.lst (v.map f) (fl && decide (b.toNat = m.length))), H) := by
  unfold subL at hr
  split at hr
  · rename_i hb; cases hr
    have hbd := bounds_of (len := (m.map f).length) (lo := lv) (hi := hv) (a := a) (b := b) hlo (by rw [List.length_map]; exact hhi) hb.1 hb.2.1 (by rw [List.length_map]; exact hb.2.2)
    have hw := growM_w hf m
    have hcl : cutLst es (m.map f) fl lv hv none = some (.lst (((m.take b.toNat).drop a.toNat).map f) (fl && decide (b.toNat = m.length))) := by
      rw [List.length_map] at hbd
      simp only [cutLst, List.length_map, hbd, hw, if_true, List.map_take, List.map_drop]
    have hco : cutOpen H es (.lst (m.map f) fl) lv hv none = none := rfl
    have h3 : optEv e (none : Option AOpd) = some none := rfl
    unfold evH
    simp only [hx, h1, h2, h3, hco, asLst, hcl]
  · cases hr
theorem appG_ev {α : Type} {id es bytes o : Nat} {s x : AOpd} {sx : AVal} {f : α → AVal} {m ys r : List α} (hf : ∀ x, (f x).width = es) (hby : bytes ≤ 1400) (hs : s.ev e = some (.gl o m.length)) (hx : x.ev e = some sx) (he : elemsOf H sx = some (ys.map f)) (hb : H[o]? = some (growM es f m)) (hr : catL m ys = some r) (C : Ctx) :
    evH C e id H (.app es bytes false s x) = some (.ok (.gl o r.length), H.set o (growM es f r)) := by
  obtain ⟨rfl, hl⟩ := catL_s hr
  have hw := growM_w hf m
  have hy := growM_w hf ys
  simp only [growM] at hb
  have hm : (m.length + ys.length) * bytes ≤ 140737488355328 := by
    have := Nat.mul_le_mul (Nat.le_of_lt hl) hby
    omega
  simp only [evH, hs, hx, appendA, he, hy, if_true, hb, List.length_map]
  rw [if_pos ⟨trivial, esz_or _ _, hw⟩]
  cases ys with
  | nil =>
    have e1 : H.set o (growM es f (m ++ [])) = H := by
      apply List.ext_getElem?
      intro j
      rw [List.getElem?_set]
      split
      · rename_i hj; subst hj; rw [hb, List.append_nil]; rw [if_pos (List.getElem?_eq_some_iff.1 hb).1]; rfl
      · rfl
    rw [e1]
    simp
  | cons y ys =>
    simp only [List.map_cons, List.isEmpty_cons, Bool.false_eq_true, if_false]
    rw [if_pos (by simpa using hm)]
    simp [growM, esz]
theorem appN_ev {α : Type} {id es bytes : Nat} {s x : AOpd} {sx : AVal} {f : α → AVal} {ys : List α} (hf : ∀ x, (f x).width = es) (hby : bytes ≤ 1400) (hs : s.ev e = some (.lst [] true)) (hx : x.ev e = some sx) (he : elemsOf H sx = some (ys.map f)) (hne : ys.isEmpty = false) (hl : okLen ys = true) {H2 : Heap} (hn : newAt H id (growM es f ys) = some H2) (C : Ctx) :
    evH C e id H (.app es bytes false s x) = some (.ok (.gl id ys.length), H2) := by
  have hy := growM_w hf ys
  have hl := okLen_s hl
  have hm : ys.length * bytes ≤ 140737488355328 := by
    have := Nat.mul_le_mul (Nat.le_of_lt hl) hby
    omega
  have hne2 : (ys.map f).isEmpty = false := by cases ys <;> simp_all
  have hg2 : growM es f ys = .grow es (ys.map f) none := by cases ys <;> simp_all [growM, esz]
  rw [hg2] at hn
  simp only [evH, hs, hx, appendA, he, hy, if_true, hne2, Bool.false_eq_true, if_false]
  rw [if_pos ⟨trivial, rfl, by simpa using hm⟩]
  simp [hn]
theorem appL_ev {α : Type} {id es bytes : Nat} {s x : AOpd} {sx : AVal} {f : α → AVal} {m ys : List α} (hf : ∀ x, (f x).width = es) (hby : bytes ≤ 1400) (hs : s.ev e = some (.lst (m.map f) true)) (hx : x.ev e = some sx) (he : elemsOf H sx = some (ys.map f)) (hne : ys.isEmpty = false) (hl : okLen (m ++ ys) = true) {H2 : Heap} (hn : newAt H id (growM es f (m ++ ys)) = some H2) (C : Ctx) :
    evH C e id H (.app es bytes false s x) = some (.ok (.gl id (m ++ ys).length), H2) := by
  have hy := growM_w hf ys
  have hw := growM_w hf m
  have hl := okLen_s hl
  have hm : (m ++ ys).length * bytes ≤ 140737488355328 := by
    have := Nat.mul_le_mul (Nat.le_of_lt hl) hby
    omega
  rw [List.length_append] at hm
  have hne2 : (ys.map f).isEmpty = false := by cases ys <;> simp_all
  have hg2 : growM es f (m ++ ys) = .grow es (m.map f ++ ys.map f) none := by
    cases ys with
    | nil => simp at hne
    | cons y ys => simp [growM, esz]
  rw [hg2] at hn
  simp only [evH, hs, hx, appendA, he, hy, if_true, hne2, Bool.false_eq_true, if_false]
  rw [if_pos ⟨trivial, hw, by simpa using hm⟩]
  simp [hn]
theorem appM_ev {α : Type} {id es bytes : Nat} {s x : AOpd} {sx : AVal} {f : α → AVal} {m ys r : List α} (hf : ∀ x, (f x).width = es) (hby : bytes ≤ 1400) (hs : s.ev e = some (.lst (m.map f) true)) (hx : x.ev e = some sx) (he : elemsOf H sx = some (ys.map f)) (hne : ys.isEmpty = false) (hr : catL m ys = some r) {H2 : Heap} (hn : newAt H id (growM es f r) = some H2) (C : Ctx) :
    evH C e id H (.app es bytes false s x) = some (.ok (.gl id r.length), H2) := by
  obtain ⟨rfl, hl⟩ := catL_s hr
  have hl2 : okLen (m ++ ys) = true := okLen_of (by rw [List.length_append]; exact hl)
  exact appL_ev hf hby hs hx he hne hl2 hn C
theorem appO_ev {α : Type} {id es bytes : Nat} {s x : AOpd} {sx : AVal} {f : α → AVal} {m ys r : List α} (hf : ∀ x, (f x).width = es) (hs : s.ev e = some (.lst (m.map f) true)) (hx : x.ev e = some sx) (he : elemsOf H sx = some (ys.map f)) (hne : ys.isEmpty = true) (hr : catL m ys = some r) (C : Ctx) :
    evH C e id H (.app es bytes false s x) = some (.ok (.lst (r.map f) true), H) := by
  obtain ⟨rfl, hl⟩ := catL_s hr
  cases ys with
  | cons y ys => simp at hne
  | nil => simp [evH, hs, hx, appendA, he]
theorem newAt_end (H : Heap) (B : ABlock) : newAt H H.length B = some (H ++ [B]) := by simp [newAt]
theorem emp_or {α : Type} (l : List α) : l.isEmpty = true ∨ l.isEmpty = false := by cases l <;> simp
theorem wt {k : Nat} {b w : Bool} (h : e.get k = some (.bool b)) (hb : b = w) : wantedA e (some (k, w)) = some true := by subst hb; simp [wantedA, h]
theorem wf {k : Nat} {b w : Bool} (h : e.get k = some (.bool b)) (hb : b = !w) : wantedA e (some (k, w)) = some false := by subst hb; simp [wantedA, h]
end
def cloneF (es bytes : Nat) (z : AVal) : AFunc := ⟨.fork 0 [2] (.seq (.stmt [0] [] (.reg [⟨some 2, .mv (.c (.lst [] true)), none⟩])) (.seq (.stmt [0] [] (.seq (.stmt [0, 4] [] (.reg [⟨some 3, .mv (.t 0), none⟩, ⟨some 4, .isnil .slice false (.t 3), none⟩]))
  (.cond (.t 4) (.seq (.reg [⟨some 2, .mv (.c (.lst [] true)), none⟩]) (.ret)) (.skip)))) (.seq (.reg [⟨some 5, .bsl es z 0 [], none⟩, ⟨some 6, .mv (.t 0), none⟩, ⟨some 7, .app es bytes false (.t 5) (.t 6), none⟩, ⟨some 2, .mv (.t 7), none⟩]) (.ret)))), [.t 2]⟩
section
variable {T : Nat → Option AFunc} {cs : List ACode} {e e' : Env} {H H' : Heap} {Q : Post}
theorem L_fork {t : Nat} {keep : List Nat} {a : ACode} {x : AVal} {xs : List AVal} {f : Bool} (ht : e.get t = some (.lst (x :: xs) f)) (h : GL T (a :: cs) e H Q) : GL T (.fork t keep a :: cs) e H Q := by
  rw [GL_consI] at h ⊢
  obtain ⟨x, e1, H1, h1, h2⟩ := h
  exact ⟨x, e1, H1, h1.map fun n k => by simp only [evalCode, ht, k], h2⟩
theorem sameH_self : ∀ H : Heap, sameH H H = true
  | [] => rfl
  | b :: r => by simp [sameH, sameB_self, sameH_self r]
theorem clone_n {α : Type} {F es bytes : Nat} {z : AVal} {f : α → AVal} {ys : List α} {b : Bool} (hF : T F = some (cloneF es bytes z)) (hf : ∀ x, (f x).width = es) (hby : bytes ≤ 1400) (hz : z.width = es) (hne : ys.isEmpty = false) (hl : okLen ys = true) :
    HRes T F [.lst (ys.map f) b] H (.gl H.length ys.length) (H ++ [growM es f ys]) := by
  cases ys with
  | nil => simp at hne
  | cons y ys =>
  refine hres_fin hF ?_
  refine L_fork (x := f y) (xs := ys.map f) rfl ?_
  refine L_seq ?_
  refine L_stmt ?_
  refine L_reg ?_
  refine G_p rfl rfl rfl ?_
  refine G_nil ?_
  refine L_nil ?_
  refine Sm_norm (e2 := [(0, .lst (List.map f (y :: ys)) b)]) (H1 := H) (H2 := H) rfl rfl (trunc_id (Nat.le_refl _)) (?_ : GL _ _ _ _ _)
  refine L_seq ?_
  refine L_stmt ?_
  refine L_seq ?_
  refine L_stmt ?_
  refine L_reg ?_
  refine G_p rfl rfl rfl ?_
  refine G_p rfl rfl (v := .bool false) rfl ?_
  refine G_nil ?_
  refine L_nil ?_
  refine Sm_norm (e2 := [(0, .lst (List.map f (y :: ys)) b), (4, .bool false)]) (H1 := H) (H2 := H) rfl rfl (trunc_id (Nat.le_refl _)) (?_ : GL _ _ _ _ _)
  refine L_F rfl rfl ?_
  refine L_skip ?_
  refine L_nil ?_
  refine Sm_norm (e2 := [(0, .lst (List.map f (y :: ys)) b)]) (H1 := H) (H2 := H) rfl rfl (trunc_id (Nat.le_refl _)) (?_ : GL _ _ _ _ _)
  refine L_seq ?_
  refine L_reg ?_
  refine G_h (v := .lst [] true) (H' := H) rfl rfl rfl (fun C => by simp [evH, hz, bslGo]) ?_
  refine G_p rfl rfl rfl ?_
  refine G_h rfl rfl rfl (appN_ev (ys := y :: ys) hf hby rfl rfl rfl rfl hl (newAt_end _ _)) ?_
  refine G_p rfl rfl rfl ?_
  refine G_nil ?_
  refine L_ret ?_
  exact ⟨_, rfl, rfl, rfl⟩
theorem clone_e {α : Type} {F es bytes : Nat} {z : AVal} {f : α → AVal} {ys : List α} {b : Bool} (hF : T F = some (cloneF es bytes z)) (hf : ∀ x, (f x).width = es) (hz : z.width = es) (hne : ys.isEmpty = true) :
    HRes T F [.lst (ys.map f) b] H (.lst (ys.map f) true) H := by
  cases ys with
  | cons y ys => simp at hne
  | nil =>
  refine Lim.succ (.of fun n => ?_)
  have ht : ∀ e, trunc H.length e H = H := fun e => trunc_id (Nat.le_refl _)
  simp [callF, hF, cloneF, finish, evalCode, evalOps, wantedA, evalOp, AOp.kind, evP, AOpd.ev, okv, evH, isNil, initEnv, Env.get, Env.put, stmtE, stmtH, frzAll, restr, ht, hz, bslGo, appendA, elemsOf, meet, sameE, sameV, sameL, sameH_self, resAll, resOf, oneOr]
end
def FinC (rs : List ARes) (n : Nat) (v : AVal) (H' : Heap) : Post
  | .norm, e, H => ∃ vs, resAll e H rs = some vs ∧ oneOr vs = v ∧ cutH n v H = H'
  | .ret, e, H => ∃ vs, resAll e H rs = some vs ∧ oneOr vs = v ∧ cutH n v H = H'
  | .pan v, e, H => False
  | .exit _, _, _ => False
theorem ca_fin {T : Nat → Option AFunc} {f : Nat} {body : ACode} {rs : List ARes} {raw : Bool} {as : List AVal} {H : Heap} {v : AVal} {H' : Heap} (h : T f = some ⟨body, rs⟩) (hs : raw = true ∨ shutL H as = none)
    (hw : GL T [body] (initEnv 0 as) H (FinC rs H.length v H')) : CA T raw f as H v H' := by
  have key : ∃ H2, HRes T f as H v H2 ∧ cutH H.length v H2 = H' := by
    have hw2 : GL T [body] (initEnv 0 as) H (FinH rs fun y H2 => y = .ok v ∧ cutH H.length v H2 = H') := by
      refine GL_mono ?_ hw
      intro x e1 H1 hq
      cases x with
      | norm => obtain ⟨vs, h1, h2, h3⟩ := hq; exact ⟨vs, h1, by rw [h2], h3⟩
      | ret => obtain ⟨vs, h1, h2, h3⟩ := hq; exact ⟨vs, h1, by rw [h2], h3⟩
      | exit j => exact hq.elim
      | pan v => exact hq.elim
    rw [GL_consI] at hw2
    obtain ⟨x, e1, H1, h1, h2⟩ := hw2
    have h3 : FinH rs (fun y H2 => y = .ok v ∧ cutH H.length v H2 = H') x e1 H1 := by
      cases x with
      | norm => rw [GL_nilI] at h2; exact h2
      | _ => exact h2
    refine ⟨H1, Lim.succ (h1.map fun n hn => ?_), ?_⟩
    · simp only [callF, h, show (⟨callF T n, n⟩ : Ctx) = Cn T n from rfl, hn]
      cases x with
      | norm => obtain ⟨vs, k1, k2, _⟩ := h3; cases k2; simp only [finish, k1]
      | ret => obtain ⟨vs, k1, k2, _⟩ := h3; cases k2; simp only [finish, k1]
      | exit j => exact h3.elim
      | pan v => obtain ⟨k, _⟩ := h3; cases k
    · cases x with
      | norm => obtain ⟨vs, k1, k2, k3⟩ := h3; exact k3
      | ret => obtain ⟨vs, k1, k2, k3⟩ := h3; exact k3
      | exit j => exact h3.elim
      | pan v => obtain ⟨k, _⟩ := h3; cases k
  obtain ⟨H2, h1, h2⟩ := key
  cases raw with
  | true => exact CA_raw h1 h2
  | false => exact CA_nr (hs.resolve_left (by simp)) h1 h2
end Go.Ev
namespace Go.Ev
set_option linter.unusedVariables false
set_option linter.unusedSimpArgs false
open Go
section
variable {e : Env} {H : Heap}
theorem own_l {α : Type} {t es : Nat} {f : α → AVal} {l : List α} (hf : ∀ x, (f x).width = es) (h1 : e.get t = some (.lst (l.map f) true)) : ownA t none e H = ((t, .gl H.length l.length) :: e, H ++ [growM es f l]) := by
  simp only [ownA, h1, List.length_map]
  cases l with
  | nil => rfl
  | cons x l => simp [widthL, hf, growM, esz]
theorem catL_len {α : Type} {m r : List α} {v : α} (h : catL m [v] = some r) : r.length = m.length + 1 := by
  obtain ⟨rfl, _⟩ := catL_s h
  simp
def openZ {α : Type} (w : Nat) (f : α → AVal) (l : List α) (z : AVal) : ABlock := .grow w (l.map f ++ [z]) (some l.length)
theorem appZ_ev {α : Type} {id es bytes o : Nat} {s x : AOpd} {z : AVal} {f : α → AVal} {m r : List α} {v : α} {fl : Bool} (hf : ∀ x, (f x).width = es) (hby : bytes ≤ 1400) (hz : z.width = es) (hs : s.ev e = some (.gl o m.length)) (hx : x.ev e = some (.lst [z] fl)) (hb : H[o]? = some (growM es f m)) (hr : catL m [v] = some r) {H2 : Heap} (h2 : H.set o (openZ es f m z) = H2) (C : Ctx) :
    evH C e id H (.app es bytes true s x) = some (.ok (.gl o (m.length + 1)), H2) := by
  subst h2
  obtain ⟨_, hl⟩ := catL_s hr
  have hw := growM_w hf m
  simp only [growM] at hb
  simp only [List.length_cons, List.length_nil, Nat.zero_add] at hl
  have hm : (m.length + 1) * bytes ≤ 140737488355328 := by
    have := Nat.mul_le_mul (Nat.le_of_lt hl) hby
    omega
  have hz2 : ([z].all fun y => decide (y.width = es)) = true := by simp [hz]
  simp only [evH, hs, hx, appendA, elemsOf, hz2, if_true, hb, List.length_map]
  rw [if_pos ⟨trivial, esz_or _ _, hw⟩]
  simp only [List.isEmpty_cons, Bool.false_eq_true, if_false, List.length_cons, List.length_nil, Nat.zero_add]
  rw [if_pos hm]
  simp [openZ]
theorem iaZ_ev {α : Type} {id es o : Nat} {x i : AOpd} {z : AVal} {f : α → AVal} {m : List α} {k : IntKind} (hz : z.width = es) (hx : x.ev e = some (.gl o (m.length + 1))) (hi : i.ev e = some (.int k (m.length : Nat))) (hb : H[o]? = some (openZ es f m z)) (C : Ctx) :
    evH C e id H (.ia es x i) = some (.ok (.lptr o (m.length + 1) (m.length * es)), H) := by
  simp only [openZ] at hb
  have hy : (m.map f ++ [z])[m.length]? = some z := by
    rw [List.getElem?_append_right (by simp)]; simp
  simp only [evH, hx, hi, hb, Int.toNat_natCast, hy, Option.any_some, hz]
  rw [if_pos ⟨by omega, by omega, by simp, by simp⟩]
  simp
theorem staZ_ev {α : Type} {id es o : Nat} {x y : AOpd} {z : AVal} {f : α → AVal} {m r : List α} {v : α} {vv : AVal} {H2 : Heap} (hf : ∀ x, (f x).width = es) (hx : x.ev e = some (.lptr o (m.length + 1) (m.length * es))) (hy : y.ev e = some vv) (hs : vv.solid = true ∧ vv.width = es) (hsh : shutV H vv = some (f v)) (hb : H[o]? = some (openZ es f m z)) (hr : catL m [v] = some r) (h2 : H.set o (growM es f r) = H2) (C : Ctx) :
    evH C e id H (.sta es x y) = some (.ok undefA, H2) := by
  subst h2
  obtain ⟨rfl, hl⟩ := catL_s hr
  simp only [openZ] at hb
  simp only [evH, hx, hy, storeA, hs, and_self, if_true, hb, hsh]
  rw [if_pos ⟨by omega, by simp, by simp, trivial, hf v⟩]
  have : (m.map f ++ [z]).set (m.length + 1 - 1) (f v) = (m ++ [v]).map f := by
    rw [List.set_append_right _ _ (by simp)]; simp
  rw [this]
  simp [growM, esz]
end
section
variable {T : Nat → Option AFunc} {cs : List ACode} {e e' : Env} {H H' : Heap} {Q : Post}
end
end Go.Ev
namespace Go.Ev
set_option linter.unusedVariables false
set_option linter.unusedSimpArgs false
open Go
inductive Co where
  | mk (flat : Nat → Int) (pair plab : Int) (pairs : List Co) (fn flab : Int) (funs : List Co)
namespace Co
def flat : Co → Nat → Int | mk a _ _ _ _ _ _ => a
def pair : Co → Int | mk _ a _ _ _ _ _ => a
def plab : Co → Int | mk _ _ a _ _ _ _ => a
def pairs : Co → List Co | mk _ _ _ a _ _ _ => a
def fn : Co → Int | mk _ _ _ _ a _ _ => a
def flab : Co → Int | mk _ _ _ _ _ a _ => a
def funs : Co → List Co | mk _ _ _ _ _ _ a => a
end Co
def es0 (w i : Nat) : Nat := if i = 0 then 0 else w
end Go.Ev
namespace Go.Ev
set_option linter.unusedVariables false
open Go
inductive Dt where
  | mk (kind : Int) (text : List UInt8) (list : List Dt)
namespace Dt
def kind : Dt → Int | mk a _ _ => a
def text : Dt → List UInt8 | mk _ a _ => a
def list : Dt → List Dt | mk _ _ a => a
end Dt
mutual
def encDt : Dt → AVal
  | .mk x0 x1 x2 => .agg ([.int .i64 x0, .str x1, .lst (encDts x2) false])
def encDts : List Dt → List AVal
  | [] => []
  | x :: xs => encDt x :: encDts xs
end
def cDt (x : Dt) : List AVal := [.int .i64 x.kind, .str x.text, .lst (x.list.map encDt) false]
theorem encDts_map : ∀ l : List Dt, encDts l = l.map encDt
  | [] => rfl
  | x :: xs => by simp only [encDts, List.map_cons, encDts_map xs]
theorem encDt_eq (x : Dt) : encDt x = .agg (cDt x) := by
  cases x; simp only [encDt, encDts_map, cDt, Dt.kind, Dt.text, Dt.list]
theorem encDt_flat (x : Dt) : (encDt x).flat = cDt x := by rw [encDt_eq]; rfl
theorem encDt_w1 (x : Dt) : (encDt x).width = 3 := by unfold AVal.width; rw [encDt_flat]; first | rfl | simp [cDt]
inductive Tst where
  | mk (op : Int) (var : Int) (tags : Int) (yes : Bool) (of : List Tst)
namespace Tst
def op : Tst → Int | mk a _ _ _ _ => a
def var : Tst → Int | mk _ a _ _ _ => a
def tags : Tst → Int | mk _ _ a _ _ => a
def yes : Tst → Bool | mk _ _ _ a _ => a
def of : Tst → List Tst | mk _ _ _ _ a => a
end Tst
inductive Vl where
  | mk (tag : Int) (of : List Vl)
namespace Vl
def tag : Vl → Int | mk a _ => a
def of : Vl → List Vl | mk _ a => a
end Vl
inductive Bnd where
  | mk (name : List UInt8) (depth : Int) (d : Dt) (row : List Bnd)
namespace Bnd
def name : Bnd → List UInt8 | mk a _ _ _ => a
def depth : Bnd → Int | mk _ a _ _ => a
def d : Bnd → Dt | mk _ _ a _ => a
def row : Bnd → List Bnd | mk _ _ _ a => a
end Bnd
end Go.Ev
namespace Go.Ev.Seat
set_option linter.unusedVariables false
set_option linter.unusedSimpArgs false
open Go Go.Ev
set_option maxRecDepth 20000
attribute [local irreducible] pcall callF
theorem names_ok : PRes (tabOf tabL) 47 [] (.agg [.str [73, 110, 116], .str [66, 111, 111, 108], .str [83, 116, 114], .str [83, 121, 109], .str [78, 117, 108, 108], .str [86, 111, 105, 100]]) := .of_le 40 fun n => by kernel_rfl
theorem awakeB_c (n : Nat) : pcall (tabOf tabL) (n + 60) 8 [] = some (.ok (.bool true)) := by kernel_rfl
noncomputable section
open Classical
def oRight (t : Ty) : Option Bool := if WfT t ∧ szT t ≤ 1000000 then some (decide (szT t ≤ 300) && rightT t 20) else none
theorem oRight_ok {t : Ty} {r : Bool} (h : oRight t = some r) : PRes (tabOf tabL) 10 [vT t] (.bool r) := by
  unfold oRight at h
  split at h <;> cases h
  rename_i hw
  exact .of_lt (10 * szT t + 31) fun n hn => by obtain ⟨m, rfl⟩ : ∃ m, n = m + 1 := ⟨n - 1, by omega⟩; exact TyS.tright_c m t (by omega) hw.1 hw.2
def oJoin (a b : Ty) : Option Ty := if Rt a ∧ Rt b ∧ WfT a ∧ WfT b then some (joinT (szT a + szT b) a b) else none
theorem oJoin_ok {a b r : Ty} (h : oJoin a b = some r) : PRes (tabOf tabL) 18 [vT a, vT b] (vT r) := by
  unfold oJoin at h
  split at h <;> cases h
  rename_i hw
  exact .of_lt (20 * (szT a + szT b) + 20) fun n hn => TyS.join_c _ n a b hw.1 hw.2.1 hw.2.2.1 hw.2.2.2 (Nat.le_refl _) hn
def oAwake : Option Bool := some true
theorem oAwake_ok {r : Bool} (h : oAwake = some r) : PRes (tabOf tabL) 8 [] (.bool r) := by
  cases h; exact .of_le 60 awakeB_c
def oLightT (t : Ty) : Option Bool := if WfT t then some (decide (rsz t 60 < 120)) else none
theorem oLightT_ok {t : Ty} {r : Bool} (h : oLightT t = some r) : PRes (tabOf tabL) 9 [vT t] (.bool r) := by
  unfold oLightT at h
  split at h <;> cases h
  rename_i hw
  exact .of_lt (szT t + 1) fun n hn => by obtain ⟨m, rfl⟩ : ∃ m, n = m + 1 := ⟨n - 1, by omega⟩; exact TyS.light_c m t (by omega) hw
def oSameT (a b : Ty) : Option Bool := if WfT a then some (sameT a b) else none
theorem oSameT_ok {a b : Ty} {r : Bool} (h : oSameT a b = some r) : PRes (tabOf tabL) 13 [vT a, vT b] (.bool r) := by
  unfold oSameT at h
  split at h <;> cases h
  rename_i hw
  exact .of_lt (szT a) fun n hn => TyS.same_ref n a b hn hw
end
end Go.Ev.Seat
