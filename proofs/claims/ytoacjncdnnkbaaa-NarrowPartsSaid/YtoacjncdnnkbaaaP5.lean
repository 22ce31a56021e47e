/-
  Part 5 of a proof: NarrowParts: for every input the law returns true, and what it was given reads behind the call as before. No conditions.
-/
import Derived.Test.YtoacjncdnnkbaaaP4
import Derived.OpenShut
namespace Go.Ev.Seat.TyS
set_option linter.unusedVariables false
set_option linter.unusedSimpArgs false
open Go Go.Ev
set_option maxRecDepth 20000
attribute [local irreducible] pcall callF
set_option maxHeartbeats 400000 in
theorem join_l (k n : Nat) (a b : Ty) (ha : Rt a) (hb : Rt b) (wa : WfT a) (wb : WfT b) (h : szT a + szT b ≤ k + 1) (hn : 20 * (k + 1) + 20 < n + 3) (hp : a.pair = 2 ∧ b.pair = 2)
    (ih : ∀ (n : Nat) (a b : Ty), Rt a → Rt b → WfT a → WfT b → szT a + szT b ≤ k → 20 * k + 20 < n → pcall (tabOf tabL) n 31 [vT a, vT b] = some (.ok (vT (joinT k a b)))) :
    pcall (tabOf tabL) (n + 3) 31 [vT a, vT b] = some (.ok (vT (joinT (k + 1) a b))) := by
  have fa := okT_facts ha.ok
  have fb := okT_facts hb.ok
  have hl1 := len_pairs a
  have hl2 := len_funs a
  have hF := or_orF fa.1 fb.1
  have hE : pcall (tabOf tabL) (n + 2) 63 [.lst (a.funs.map encT) false, .lst (b.funs.map encT) false, .fn 64 []] = some (.ok (.bool (sameTs a.funs b.funs))) :=
    equal_c (n + 1) a.funs b.funs 64 (by omega) (by cases wa; assumption) (fun x hx y => same_c (n + 1) x y (by have := szT_funs hx; omega) (wa.funs hx))
  refine pcall_fin t31 ?_
  refine WL_seq ?_
  refine WL_reg ?_
  refine O_n rfl rfl rfl ?_
  refine O_n rfl rfl rfl ?_
  refine O_n rfl rfl rfl ?_
  refine WO_nil ?_
  refine WL_seq ?_
  apply WLp
  · (repeat (first | exact rzz | apply rcc rfl | apply rnn rfl))
  conv => arg 4; (try simp only [nrm, Nat.reduceAdd, pCT, tCT, putCells, AVal.flat])
  conv => arg 3; (try simp only [nrm, Nat.reduceAdd, pCT, tCT, putCells, AVal.flat])
  refine WL_seq ?_
  refine WL_seq ?_
  refine WL_reg ?_
  refine O_p rfl rfl rfl ?_
  refine O_h rfl rfl rfl rfl ?_
  refine O_p rfl rfl rfl ?_
  apply O_or [_, _] rfl rfl (hT := ?hT11) (h := ?hR11)
  case hT11 =>
    intro hb8
    refine O_p rfl rfl rfl ?_
    refine O_h rfl rfl rfl rfl ?_
    exact WO_nil (WL_nil ⟨rfl, rfl, rfl⟩)
  case hR11 =>
    intro vs hvs
    obtain ⟨u9, u10, rfl⟩ := len2 hvs
    clear hvs; dsimp only [junk]
    refine WO_nil ?_
    refine WL_seq ?_
    apply WLp
    · (repeat (first | exact rzz | apply rcc rfl | apply rnn rfl))
    conv => arg 4; (try simp only [nrm, Nat.reduceAdd, pCT, tCT, putCells, AVal.flat])
    conv => arg 3; (try simp only [nrm, Nat.reduceAdd, pCT, tCT, putCells, AVal.flat])
    try clear u9 u10
    refine WL_cond rfl (fun h11 => ?_) (fun h11 => ?_)
    · skip
      have hJ := joinT_all k a b h11
      refine WL_seq ?_
      refine WL_reg ?_
      refine O_c 36 rfl rfl (callA_of rfl (all_c (n + 1))) ?_
      refine O_hn rfl rfl rfl rfl ?_
      refine WO_nil ?_
      refine WL_ret ?_
      refine ⟨_, rfl, _, rfl, ?_⟩
      first | (rw [hF, hJ, hP, hG]; simp [vT, cT, Ty.all, Ty.flat, Ty.pair, Ty.pairs, Ty.fn, Ty.funs, hF, encT_eq]; done) | (rw [hJ]; rfl)
    · skip
      have hJ := joinT_succ k a b h11
      simp at h11
      refine WL_skip ?_
      refine WL_seq ?_
      apply WLp
      · (repeat (first | exact rzz | apply rcc rfl | apply rnn rfl))
      conv => arg 4; (try simp only [nrm, Nat.reduceAdd, pCT, tCT, putCells, AVal.flat])
      conv => arg 3; (try simp only [nrm, Nat.reduceAdd, pCT, tCT, putCells, AVal.flat])
      refine WL_seq ?_
      refine WL_reg ?_
      refine O_p rfl rfl rfl ?_
      refine O_h rfl rfl rfl rfl ?_
      refine O_p rfl rfl rfl ?_
      refine O_h rfl rfl rfl rfl ?_
      refine O_p rfl rfl rfl ?_
      refine O_p rfl rfl rfl ?_
      refine O_h rfl rfl rfl rfl ?_
      refine O_p rfl rfl rfl ?_
      refine O_h rfl rfl rfl rfl ?_
      refine O_p rfl rfl rfl ?_
      refine O_h rfl rfl rfl rfl ?_
      refine O_p rfl rfl rfl ?_
      refine O_h rfl rfl rfl rfl ?_
      refine O_p rfl rfl rfl ?_
      refine O_n rfl rfl rfl ?_
      refine O_hn rfl rfl rfl rfl ?_
      refine WO_nil ?_
      refine WL_seq ?_
      apply WLp
      · (repeat (first | exact rzz | apply rcc rfl | apply rnn rfl))
      conv => arg 4; (try simp only [nrm, Nat.reduceAdd, pCT, tCT, putCells, AVal.flat])
      conv => arg 3; (try simp only [nrm, Nat.reduceAdd, pCT, tCT, putCells, AVal.flat])
      refine WL_seq ?_
      refine WL_block ?_
      refine WL_seq ?_
      refine WL_reg ?_
      refine O_p rfl rfl rfl ?_
      refine O_h rfl rfl rfl rfl ?_
      refine O_p rfl rfl rfl ?_
      refine O_p rfl rfl rfl ?_
      refine WO_nil ?_
      refine WL_seq ?_
      apply WLp
      · (repeat (first | exact rzz | apply rcc rfl | apply rnn rfl))
      conv => arg 4; (try simp only [nrm, Nat.reduceAdd, pCT, tCT, putCells, AVal.flat])
      conv => arg 3; (try simp only [nrm, Nat.reduceAdd, pCT, tCT, putCells, AVal.flat])
      refine WL_cond rfl (fun h27 => ?_) (fun h27 => ?_)
      · skip
        have hP : joinP k a b = (b.pair, b.pairs) := by simp at h27; simp [joinP, h27]
        refine WL_draw0 ?_
        refine D_p rfl rfl rfl ?_
        refine D_h (d := some 32) rfl rfl rfl rfl rfl ?_
        refine D_p rfl rfl rfl ?_
        refine D_h (d := some 34) rfl rfl rfl rfl rfl ?_
        refine D_p rfl rfl rfl ?_
        refine D_h (d := none) rfl rfl rfl rfl rfl ?_
        refine D_p rfl rfl rfl ?_
        refine D_h (d := none) rfl rfl rfl rfl rfl ?_
        refine WD_nil ⟨by first | rfl | (simp [okFs, okEarlier, disj, notIn, noneIn, sameOn, sameB_self, glsL, glsV, partsGls, AOpd.ev, zeroB, outB] <;> (repeat' apply And.intro) <;> rfl), ?_⟩
        refine WL_nil ?_
        refine Blk_norm (?_ : WL _ _ _ _ _)
        refine WL_seq ?_
        apply WLp
        · (repeat (first | exact rzz | apply rcc rfl | apply rnn rfl))
        conv => arg 4; (try simp only [nrm, Nat.reduceAdd, pCT, tCT, putCells, AVal.flat])
        conv => arg 3; (try simp only [nrm, Nat.reduceAdd, pCT, tCT, putCells, AVal.flat])
        refine WL_seq ?_
        refine WL_block ?_
        refine WL_seq ?_
        refine WL_reg ?_
        refine O_p rfl rfl rfl ?_
        refine O_h rfl rfl rfl rfl ?_
        refine O_p rfl rfl rfl ?_
        refine O_p rfl rfl rfl ?_
        refine WO_nil ?_
        refine WL_seq ?_
        apply WLp
        · (repeat (first | exact rzz | apply rcc rfl | apply rnn rfl))
        conv => arg 4; (try simp only [nrm, Nat.reduceAdd, pCT, tCT, putCells, AVal.flat])
        conv => arg 3; (try simp only [nrm, Nat.reduceAdd, pCT, tCT, putCells, AVal.flat])
        refine WL_cond rfl (fun h52 => ?_) (fun h52 => ?_)
        · skip
          have hG : joinG a b = (b.fn, b.funs) := by simp at h52; simp [joinG, h52]
          refine WL_draw0 ?_
          refine D_p rfl rfl rfl ?_
          refine D_h (d := some 57) rfl rfl rfl rfl rfl ?_
          refine D_p rfl rfl rfl ?_
          refine D_h (d := some 59) rfl rfl rfl rfl rfl ?_
          refine D_p rfl rfl rfl ?_
          refine D_h (d := none) rfl rfl rfl rfl rfl ?_
          refine D_p rfl rfl rfl ?_
          refine D_h (d := none) rfl rfl rfl rfl rfl ?_
          refine WD_nil ⟨by first | rfl | (simp [okFs, okEarlier, disj, notIn, noneIn, sameOn, sameB_self, glsL, glsV, partsGls, AOpd.ev, zeroB, outB] <;> (repeat' apply And.intro) <;> rfl), ?_⟩
          refine WL_nil ?_
          refine Blk_norm (?_ : WL _ _ _ _ _)
          refine WL_seq ?_
          apply WLp
          · (repeat (first | exact rzz | apply rcc rfl | apply rnn rfl))
          conv => arg 4; (try simp only [nrm, Nat.reduceAdd, pCT, tCT, putCells, AVal.flat])
          conv => arg 3; (try simp only [nrm, Nat.reduceAdd, pCT, tCT, putCells, AVal.flat])
          refine WL_seq ?_
          refine WL_reg ?_
          refine O_h rfl rfl rfl rfl ?_
          refine O_hn rfl rfl rfl rfl ?_
          refine WO_nil ?_
          refine WL_ret ?_
          refine ⟨_, rfl, _, rfl, ?_⟩
          first | (rw [hF, hJ, hP, hG]; simp [vT, cT, Ty.all, Ty.flat, Ty.pair, Ty.pairs, Ty.fn, Ty.funs, hF, encT_eq]; done) | (rw [hJ]; rfl)
        · skip
          simp at h52
          refine WL_seq ?_
          refine WL_reg ?_
          refine O_p rfl rfl rfl ?_
          refine O_h rfl rfl rfl rfl ?_
          refine O_p rfl rfl rfl ?_
          refine O_p rfl rfl rfl ?_
          apply O_and [_, _, _, _, _, _, _, _, _, _, _, _, _] rfl rfl (hT := ?hT80) (h := ?hR80)
          case hT80 =>
            intro hb66
            refine O_p rfl rfl rfl ?_
            refine O_h rfl rfl rfl rfl ?_
            refine O_p rfl rfl rfl ?_
            refine O_h rfl rfl rfl rfl ?_
            refine O_p rfl rfl rfl ?_
            refine O_p rfl rfl rfl ?_
            apply O_and [_, _, _, _, _] rfl rfl (hT := ?hT78) (h := ?hR78)
            case hT78 =>
              intro hb72
              refine O_p rfl rfl rfl ?_
              refine O_h rfl rfl rfl rfl ?_
              refine O_p rfl rfl rfl ?_
              refine O_h rfl rfl rfl rfl ?_
              refine O_c 63 rfl rfl (callA_of rfl hE) ?_
              exact WO_nil (WL_nil ⟨rfl, rfl, rfl⟩)
            case hR78 =>
              intro vs hvs
              obtain ⟨u73, u74, u75, u76, u77, rfl⟩ := len5 hvs
              clear hvs; dsimp only [junk]
              refine O_p rfl rfl rfl ?_
              exact WO_nil (WL_nil ⟨rfl, rfl, rfl⟩)
          case hR80 =>
            intro vs hvs
            obtain ⟨u67, u68, u69, u70, u71, u72, u73, u74, u75, u76, u77, u78, u79, rfl⟩ := len13 hvs
            clear hvs; dsimp only [junk]
            refine O_p rfl rfl rfl ?_
            refine WO_nil ?_
            refine WL_seq ?_
            apply WLp
            · (repeat (first | exact rzz | apply rcc rfl | apply rnn rfl))
            conv => arg 4; (try simp only [nrm, Nat.reduceAdd, pCT, tCT, putCells, AVal.flat])
            conv => arg 3; (try simp only [nrm, Nat.reduceAdd, pCT, tCT, putCells, AVal.flat])
            try clear u73 u74 u75 u76 u77 u67 u68 u69 u70 u71 u72 u73 u74 u75 u76 u77 u78 u79
            refine WL_cond rfl (fun h62 => ?_) (fun h62 => ?_)
            · skip
              have hG : joinG a b = (2, []) := by
                simp at h62; unfold joinG
                rw [if_neg h52, if_pos ⟨h62.1, by rintro ⟨q1, q2⟩; rcases h62.2 with q | q; exact q q1; rw [q] at q2; cases q2⟩]
              refine WL_reg ?_
              refine O_p rfl rfl rfl ?_
              refine O_hn rfl rfl rfl rfl ?_
              refine O_p rfl rfl rfl ?_
              refine O_hn rfl rfl rfl rfl ?_
              refine WO_nil ?_
              refine WL_nil ?_
              refine Blk_norm (?_ : WL _ _ _ _ _)
              refine WL_seq ?_
              apply WLp
              · (repeat (first | exact rzz | apply rcc rfl | apply rnn rfl))
              conv => arg 4; (try simp only [nrm, Nat.reduceAdd, pCT, tCT, putCells, AVal.flat])
              conv => arg 3; (try simp only [nrm, Nat.reduceAdd, pCT, tCT, putCells, AVal.flat])
              refine WL_seq ?_
              refine WL_reg ?_
              refine O_h rfl rfl rfl rfl ?_
              refine O_hn rfl rfl rfl rfl ?_
              refine WO_nil ?_
              refine WL_ret ?_
              refine ⟨_, rfl, _, rfl, ?_⟩
              first | (rw [hF, hJ, hP, hG]; simp [vT, cT, Ty.all, Ty.flat, Ty.pair, Ty.pairs, Ty.fn, Ty.funs, hF, encT_eq]; done) | (rw [hJ]; rfl)
            · skip
              have hG : joinG a b = (a.fn, a.funs) := by
                simp at h62; unfold joinG
                rw [if_neg h52, if_neg (by rintro ⟨q1, q2⟩; exact q2 (h62 q1))]
              refine WL_skip ?_
              refine WL_nil ?_
              refine Blk_norm (?_ : WL _ _ _ _ _)
              refine WL_seq ?_
              apply WLp
              · (repeat (first | exact rzz | apply rcc rfl | apply rnn rfl))
              conv => arg 4; (try simp only [nrm, Nat.reduceAdd, pCT, tCT, putCells, AVal.flat])
              conv => arg 3; (try simp only [nrm, Nat.reduceAdd, pCT, tCT, putCells, AVal.flat])
              refine WL_seq ?_
              refine WL_reg ?_
              refine O_h rfl rfl rfl rfl ?_
              refine O_hn rfl rfl rfl rfl ?_
              refine WO_nil ?_
              refine WL_ret ?_
              refine ⟨_, rfl, _, rfl, ?_⟩
              first | (rw [hF, hJ, hP, hG]; simp [vT, cT, Ty.all, Ty.flat, Ty.pair, Ty.pairs, Ty.fn, Ty.funs, hF, encT_eq]; done) | (rw [hJ]; rfl)
      · skip
        simp at h27
        refine WL_seq ?_
        refine WL_reg ?_
        refine O_p rfl rfl rfl ?_
        refine O_h rfl rfl rfl rfl ?_
        refine O_p rfl rfl rfl ?_
        refine O_p rfl rfl rfl ?_
        refine WO_nil ?_
        refine WL_seq ?_
        apply WLp
        · (repeat (first | exact rzz | apply rcc rfl | apply rnn rfl))
        conv => arg 4; (try simp only [nrm, Nat.reduceAdd, pCT, tCT, putCells, AVal.flat])
        conv => arg 3; (try simp only [nrm, Nat.reduceAdd, pCT, tCT, putCells, AVal.flat])
        refine WL_cond rfl (fun h37 => ?_) (fun h37 => ?_)
        · skip
          simp at h37
          have h1 := car_facts ha h11.1 h27
          have h2 := car_facts hb h11.2 h37
          have h3 := cdr_facts ha h11.1 h27
          have h4 := cdr_facts hb h11.2 h37
          have hP : joinP k a b = (2, [joinT k (carT a) (carT b)]) := by simp [joinP, h27, h37, hp]
          refine WL_seq ?_
          refine WL_reg ?_
          refine O_p rfl rfl rfl ?_
          refine O_hn rfl rfl rfl rfl ?_
          refine WO_nil ?_
          refine WL_seq ?_
          apply WLp
          · (repeat (first | exact rzz | apply rcc rfl | apply rnn rfl))
          conv => arg 4; (try simp only [nrm, Nat.reduceAdd, pCT, tCT, putCells, AVal.flat])
          conv => arg 3; (try simp only [nrm, Nat.reduceAdd, pCT, tCT, putCells, AVal.flat])
          refine WL_seq ?_
          refine WL_reg ?_
          refine O_h rfl rfl rfl rfl ?_
          refine O_h rfl rfl rfl rfl ?_
          refine O_p rfl rfl rfl ?_
          refine O_c 61 rfl rfl (both_join1 n a b _ _ _ _ _ ha hb hp (ih n _ _ h1.2.1 h2.2.1 (car_wf wa) (car_wf wb) (by omega) (by omega)) (by omega)) ?_
          refine WO_nil ?_
          refine WL_seq ?_
          apply WLp
          · (repeat (first | exact rzz | apply rcc rfl | apply rnn rfl))
          conv => arg 4; (try simp only [nrm, Nat.reduceAdd, pCT, tCT, putCells, AVal.flat])
          conv => arg 3; (try simp only [nrm, Nat.reduceAdd, pCT, tCT, putCells, AVal.flat])
          refine WL_seq ?_
          refine WL_reg ?_
          refine O_p rfl rfl rfl ?_
          refine O_hn rfl rfl rfl rfl ?_
          refine WO_nil ?_
          refine WL_seq ?_
          apply WLp
          · (repeat (first | exact rzz | apply rcc rfl | apply rnn rfl))
          conv => arg 4; (try simp only [nrm, Nat.reduceAdd, pCT, tCT, putCells, AVal.flat])
          conv => arg 3; (try simp only [nrm, Nat.reduceAdd, pCT, tCT, putCells, AVal.flat])
          refine WL_seq ?_
          refine WL_reg ?_
          refine O_p rfl rfl rfl ?_
          refine O_h rfl rfl rfl rfl ?_
          refine O_h rfl rfl rfl rfl ?_
          refine O_p rfl rfl rfl ?_
          refine WO_nil ?_
          refine WL_seq ?_
          apply WLp
          · (repeat (first | exact rzz | apply rcc rfl | apply rnn rfl))
          conv => arg 4; (try simp only [nrm, Nat.reduceAdd, pCT, tCT, putCells, AVal.flat])
          conv => arg 3; (try simp only [nrm, Nat.reduceAdd, pCT, tCT, putCells, AVal.flat])
          refine WL_cond rfl (fun h50 => ?_) (fun h50 => ?_)
          · skip
            simp at h50
          · skip
            refine WL_skip ?_
            refine WL_nil ?_
            refine Blk_norm (?_ : WL _ _ _ _ _)
            refine WL_seq ?_
            apply WLp
            · (repeat (first | exact rzz | apply rcc rfl | apply rnn rfl))
            conv => arg 4; (try simp only [nrm, Nat.reduceAdd, pCT, tCT, putCells, AVal.flat])
            conv => arg 3; (try simp only [nrm, Nat.reduceAdd, pCT, tCT, putCells, AVal.flat])
            refine WL_seq ?_
            refine WL_block ?_
            refine WL_seq ?_
            refine WL_reg ?_
            refine O_p rfl rfl rfl ?_
            refine O_h rfl rfl rfl rfl ?_
            refine O_p rfl rfl rfl ?_
            refine O_p rfl rfl rfl ?_
            refine WO_nil ?_
            refine WL_seq ?_
            apply WLp
            · (repeat (first | exact rzz | apply rcc rfl | apply rnn rfl))
            conv => arg 4; (try simp only [nrm, Nat.reduceAdd, pCT, tCT, putCells, AVal.flat])
            conv => arg 3; (try simp only [nrm, Nat.reduceAdd, pCT, tCT, putCells, AVal.flat])
            refine WL_cond rfl (fun h52 => ?_) (fun h52 => ?_)
            · skip
              have hG : joinG a b = (b.fn, b.funs) := by simp at h52; simp [joinG, h52]
              refine WL_draw0 ?_
              refine D_p rfl rfl rfl ?_
              refine D_h (d := some 57) rfl rfl rfl rfl rfl ?_
              refine D_p rfl rfl rfl ?_
              refine D_h (d := some 59) rfl rfl rfl rfl rfl ?_
              refine D_p rfl rfl rfl ?_
              refine D_h (d := none) rfl rfl rfl rfl rfl ?_
              refine D_p rfl rfl rfl ?_
              refine D_h (d := none) rfl rfl rfl rfl rfl ?_
              refine WD_nil ⟨by first | rfl | (simp [okFs, okEarlier, disj, notIn, noneIn, sameOn, sameB_self, glsL, glsV, partsGls, AOpd.ev, zeroB, outB] <;> (repeat' apply And.intro) <;> rfl), ?_⟩
              refine WL_nil ?_
              refine Blk_norm (?_ : WL _ _ _ _ _)
              refine WL_seq ?_
              apply WLp
              · (repeat (first | exact rzz | apply rcc rfl | apply rnn rfl))
              conv => arg 4; (try simp only [nrm, Nat.reduceAdd, pCT, tCT, putCells, AVal.flat])
              conv => arg 3; (try simp only [nrm, Nat.reduceAdd, pCT, tCT, putCells, AVal.flat])
              refine WL_seq ?_
              refine WL_reg ?_
              refine O_h rfl rfl rfl rfl ?_
              refine O_hn rfl rfl rfl rfl ?_
              refine WO_nil ?_
              refine WL_ret ?_
              refine ⟨_, rfl, _, rfl, ?_⟩
              first | (rw [hF, hJ, hP, hG]; simp [vT, cT, Ty.all, Ty.flat, Ty.pair, Ty.pairs, Ty.fn, Ty.funs, hF, encT_eq]; done) | (rw [hJ]; rfl)
            · skip
              simp at h52
              refine WL_seq ?_
              refine WL_reg ?_
              refine O_p rfl rfl rfl ?_
              refine O_h rfl rfl rfl rfl ?_
              refine O_p rfl rfl rfl ?_
              refine O_p rfl rfl rfl ?_
              apply O_and [_, _, _, _, _, _, _, _, _, _, _, _, _] rfl rfl (hT := ?hT80) (h := ?hR80)
              case hT80 =>
                intro hb66
                refine O_p rfl rfl rfl ?_
                refine O_h rfl rfl rfl rfl ?_
                refine O_p rfl rfl rfl ?_
                refine O_h rfl rfl rfl rfl ?_
                refine O_p rfl rfl rfl ?_
                refine O_p rfl rfl rfl ?_
                apply O_and [_, _, _, _, _] rfl rfl (hT := ?hT78) (h := ?hR78)
                case hT78 =>
                  intro hb72
                  refine O_p rfl rfl rfl ?_
                  refine O_h rfl rfl rfl rfl ?_
                  refine O_p rfl rfl rfl ?_
                  refine O_h rfl rfl rfl rfl ?_
                  refine O_c 63 rfl rfl (callA_of rfl hE) ?_
                  exact WO_nil (WL_nil ⟨rfl, rfl, rfl⟩)
                case hR78 =>
                  intro vs hvs
                  obtain ⟨u73, u74, u75, u76, u77, rfl⟩ := len5 hvs
                  clear hvs; dsimp only [junk]
                  refine O_p rfl rfl rfl ?_
                  exact WO_nil (WL_nil ⟨rfl, rfl, rfl⟩)
              case hR80 =>
                intro vs hvs
                obtain ⟨u67, u68, u69, u70, u71, u72, u73, u74, u75, u76, u77, u78, u79, rfl⟩ := len13 hvs
                clear hvs; dsimp only [junk]
                refine O_p rfl rfl rfl ?_
                refine WO_nil ?_
                refine WL_seq ?_
                apply WLp
                · (repeat (first | exact rzz | apply rcc rfl | apply rnn rfl))
                conv => arg 4; (try simp only [nrm, Nat.reduceAdd, pCT, tCT, putCells, AVal.flat])
                conv => arg 3; (try simp only [nrm, Nat.reduceAdd, pCT, tCT, putCells, AVal.flat])
                try clear u73 u74 u75 u76 u77 u67 u68 u69 u70 u71 u72 u73 u74 u75 u76 u77 u78 u79
                refine WL_cond rfl (fun h62 => ?_) (fun h62 => ?_)
                · skip
                  have hG : joinG a b = (2, []) := by
                    simp at h62; unfold joinG
                    rw [if_neg h52, if_pos ⟨h62.1, by rintro ⟨q1, q2⟩; rcases h62.2 with q | q; exact q q1; rw [q] at q2; cases q2⟩]
                  refine WL_reg ?_
                  refine O_p rfl rfl rfl ?_
                  refine O_hn rfl rfl rfl rfl ?_
                  refine O_p rfl rfl rfl ?_
                  refine O_hn rfl rfl rfl rfl ?_
                  refine WO_nil ?_
                  refine WL_nil ?_
                  refine Blk_norm (?_ : WL _ _ _ _ _)
                  refine WL_seq ?_
                  apply WLp
                  · (repeat (first | exact rzz | apply rcc rfl | apply rnn rfl))
                  conv => arg 4; (try simp only [nrm, Nat.reduceAdd, pCT, tCT, putCells, AVal.flat])
                  conv => arg 3; (try simp only [nrm, Nat.reduceAdd, pCT, tCT, putCells, AVal.flat])
                  refine WL_seq ?_
                  refine WL_reg ?_
                  refine O_h rfl rfl rfl rfl ?_
                  refine O_hn rfl rfl rfl rfl ?_
                  refine WO_nil ?_
                  refine WL_ret ?_
                  refine ⟨_, rfl, _, rfl, ?_⟩
                  first | (rw [hF, hJ, hP, hG]; simp [vT, cT, Ty.all, Ty.flat, Ty.pair, Ty.pairs, Ty.fn, Ty.funs, hF, encT_eq]; done) | (rw [hJ]; rfl)
                · skip
                  have hG : joinG a b = (a.fn, a.funs) := by
                    simp at h62; unfold joinG
                    rw [if_neg h52, if_neg (by rintro ⟨q1, q2⟩; exact q2 (h62 q1))]
                  refine WL_skip ?_
                  refine WL_nil ?_
                  refine Blk_norm (?_ : WL _ _ _ _ _)
                  refine WL_seq ?_
                  apply WLp
                  · (repeat (first | exact rzz | apply rcc rfl | apply rnn rfl))
                  conv => arg 4; (try simp only [nrm, Nat.reduceAdd, pCT, tCT, putCells, AVal.flat])
                  conv => arg 3; (try simp only [nrm, Nat.reduceAdd, pCT, tCT, putCells, AVal.flat])
                  refine WL_seq ?_
                  refine WL_reg ?_
                  refine O_h rfl rfl rfl rfl ?_
                  refine O_hn rfl rfl rfl rfl ?_
                  refine WO_nil ?_
                  refine WL_ret ?_
                  refine ⟨_, rfl, _, rfl, ?_⟩
                  first | (rw [hF, hJ, hP, hG]; simp [vT, cT, Ty.all, Ty.flat, Ty.pair, Ty.pairs, Ty.fn, Ty.funs, hF, encT_eq]; done) | (rw [hJ]; rfl)
        · skip
          have hP : joinP k a b = (a.pair, a.pairs) := by simp at h37; simp [joinP, h27, h37]
          refine WL_skip ?_
          refine WL_nil ?_
          refine Blk_norm (?_ : WL _ _ _ _ _)
          refine WL_seq ?_
          apply WLp
          · (repeat (first | exact rzz | apply rcc rfl | apply rnn rfl))
          conv => arg 4; (try simp only [nrm, Nat.reduceAdd, pCT, tCT, putCells, AVal.flat])
          conv => arg 3; (try simp only [nrm, Nat.reduceAdd, pCT, tCT, putCells, AVal.flat])
          refine WL_seq ?_
          refine WL_block ?_
          refine WL_seq ?_
          refine WL_reg ?_
          refine O_p rfl rfl rfl ?_
          refine O_h rfl rfl rfl rfl ?_
          refine O_p rfl rfl rfl ?_
          refine O_p rfl rfl rfl ?_
          refine WO_nil ?_
          refine WL_seq ?_
          apply WLp
          · (repeat (first | exact rzz | apply rcc rfl | apply rnn rfl))
          conv => arg 4; (try simp only [nrm, Nat.reduceAdd, pCT, tCT, putCells, AVal.flat])
          conv => arg 3; (try simp only [nrm, Nat.reduceAdd, pCT, tCT, putCells, AVal.flat])
          refine WL_cond rfl (fun h52 => ?_) (fun h52 => ?_)
          · skip
            have hG : joinG a b = (b.fn, b.funs) := by simp at h52; simp [joinG, h52]
            refine WL_draw0 ?_
            refine D_p rfl rfl rfl ?_
            refine D_h (d := some 57) rfl rfl rfl rfl rfl ?_
            refine D_p rfl rfl rfl ?_
            refine D_h (d := some 59) rfl rfl rfl rfl rfl ?_
            refine D_p rfl rfl rfl ?_
            refine D_h (d := none) rfl rfl rfl rfl rfl ?_
            refine D_p rfl rfl rfl ?_
            refine D_h (d := none) rfl rfl rfl rfl rfl ?_
            refine WD_nil ⟨by first | rfl | (simp [okFs, okEarlier, disj, notIn, noneIn, sameOn, sameB_self, glsL, glsV, partsGls, AOpd.ev, zeroB, outB] <;> (repeat' apply And.intro) <;> rfl), ?_⟩
            refine WL_nil ?_
            refine Blk_norm (?_ : WL _ _ _ _ _)
            refine WL_seq ?_
            apply WLp
            · (repeat (first | exact rzz | apply rcc rfl | apply rnn rfl))
            conv => arg 4; (try simp only [nrm, Nat.reduceAdd, pCT, tCT, putCells, AVal.flat])
            conv => arg 3; (try simp only [nrm, Nat.reduceAdd, pCT, tCT, putCells, AVal.flat])
            refine WL_seq ?_
            refine WL_reg ?_
            refine O_h rfl rfl rfl rfl ?_
            refine O_hn rfl rfl rfl rfl ?_
            refine WO_nil ?_
            refine WL_ret ?_
            refine ⟨_, rfl, _, rfl, ?_⟩
            first | (rw [hF, hJ, hP, hG]; simp [vT, cT, Ty.all, Ty.flat, Ty.pair, Ty.pairs, Ty.fn, Ty.funs, hF, encT_eq]; done) | (rw [hJ]; rfl)
          · skip
            simp at h52
            refine WL_seq ?_
            refine WL_reg ?_
            refine O_p rfl rfl rfl ?_
            refine O_h rfl rfl rfl rfl ?_
            refine O_p rfl rfl rfl ?_
            refine O_p rfl rfl rfl ?_
            apply O_and [_, _, _, _, _, _, _, _, _, _, _, _, _] rfl rfl (hT := ?hT80) (h := ?hR80)
            case hT80 =>
              intro hb66
              refine O_p rfl rfl rfl ?_
              refine O_h rfl rfl rfl rfl ?_
              refine O_p rfl rfl rfl ?_
              refine O_h rfl rfl rfl rfl ?_
              refine O_p rfl rfl rfl ?_
              refine O_p rfl rfl rfl ?_
              apply O_and [_, _, _, _, _] rfl rfl (hT := ?hT78) (h := ?hR78)
              case hT78 =>
                intro hb72
                refine O_p rfl rfl rfl ?_
                refine O_h rfl rfl rfl rfl ?_
                refine O_p rfl rfl rfl ?_
                refine O_h rfl rfl rfl rfl ?_
                refine O_c 63 rfl rfl (callA_of rfl hE) ?_
                exact WO_nil (WL_nil ⟨rfl, rfl, rfl⟩)
              case hR78 =>
                intro vs hvs
                obtain ⟨u73, u74, u75, u76, u77, rfl⟩ := len5 hvs
                clear hvs; dsimp only [junk]
                refine O_p rfl rfl rfl ?_
                exact WO_nil (WL_nil ⟨rfl, rfl, rfl⟩)
            case hR80 =>
              intro vs hvs
              obtain ⟨u67, u68, u69, u70, u71, u72, u73, u74, u75, u76, u77, u78, u79, rfl⟩ := len13 hvs
              clear hvs; dsimp only [junk]
              refine O_p rfl rfl rfl ?_
              refine WO_nil ?_
              refine WL_seq ?_
              apply WLp
              · (repeat (first | exact rzz | apply rcc rfl | apply rnn rfl))
              conv => arg 4; (try simp only [nrm, Nat.reduceAdd, pCT, tCT, putCells, AVal.flat])
              conv => arg 3; (try simp only [nrm, Nat.reduceAdd, pCT, tCT, putCells, AVal.flat])
              try clear u73 u74 u75 u76 u77 u67 u68 u69 u70 u71 u72 u73 u74 u75 u76 u77 u78 u79
              refine WL_cond rfl (fun h62 => ?_) (fun h62 => ?_)
              · skip
                have hG : joinG a b = (2, []) := by
                  simp at h62; unfold joinG
                  rw [if_neg h52, if_pos ⟨h62.1, by rintro ⟨q1, q2⟩; rcases h62.2 with q | q; exact q q1; rw [q] at q2; cases q2⟩]
                refine WL_reg ?_
                refine O_p rfl rfl rfl ?_
                refine O_hn rfl rfl rfl rfl ?_
                refine O_p rfl rfl rfl ?_
                refine O_hn rfl rfl rfl rfl ?_
                refine WO_nil ?_
                refine WL_nil ?_
                refine Blk_norm (?_ : WL _ _ _ _ _)
                refine WL_seq ?_
                apply WLp
                · (repeat (first | exact rzz | apply rcc rfl | apply rnn rfl))
                conv => arg 4; (try simp only [nrm, Nat.reduceAdd, pCT, tCT, putCells, AVal.flat])
                conv => arg 3; (try simp only [nrm, Nat.reduceAdd, pCT, tCT, putCells, AVal.flat])
                refine WL_seq ?_
                refine WL_reg ?_
                refine O_h rfl rfl rfl rfl ?_
                refine O_hn rfl rfl rfl rfl ?_
                refine WO_nil ?_
                refine WL_ret ?_
                refine ⟨_, rfl, _, rfl, ?_⟩
                first | (rw [hF, hJ, hP, hG]; simp [vT, cT, Ty.all, Ty.flat, Ty.pair, Ty.pairs, Ty.fn, Ty.funs, hF, encT_eq]; done) | (rw [hJ]; rfl)
              · skip
                have hG : joinG a b = (a.fn, a.funs) := by
                  simp at h62; unfold joinG
                  rw [if_neg h52, if_neg (by rintro ⟨q1, q2⟩; exact q2 (h62 q1))]
                refine WL_skip ?_
                refine WL_nil ?_
                refine Blk_norm (?_ : WL _ _ _ _ _)
                refine WL_seq ?_
                apply WLp
                · (repeat (first | exact rzz | apply rcc rfl | apply rnn rfl))
                conv => arg 4; (try simp only [nrm, Nat.reduceAdd, pCT, tCT, putCells, AVal.flat])
                conv => arg 3; (try simp only [nrm, Nat.reduceAdd, pCT, tCT, putCells, AVal.flat])
                refine WL_seq ?_
                refine WL_reg ?_
                refine O_h rfl rfl rfl rfl ?_
                refine O_hn rfl rfl rfl rfl ?_
                refine WO_nil ?_
                refine WL_ret ?_
                refine ⟨_, rfl, _, rfl, ?_⟩
                first | (rw [hF, hJ, hP, hG]; simp [vT, cT, Ty.all, Ty.flat, Ty.pair, Ty.pairs, Ty.fn, Ty.funs, hF, encT_eq]; done) | (rw [hJ]; rfl)
set_option maxHeartbeats 400000 in
theorem join_n (k n : Nat) (a b : Ty) (ha : Rt a) (hb : Rt b) (wa : WfT a) (wb : WfT b) (h : szT a + szT b ≤ k + 1) (hn : 20 * (k + 1) + 20 < n + 3) (hp : ¬(a.pair = 2 ∧ b.pair = 2))
    (ih : ∀ (n : Nat) (a b : Ty), Rt a → Rt b → WfT a → WfT b → szT a + szT b ≤ k → 20 * k + 20 < n → pcall (tabOf tabL) n 31 [vT a, vT b] = some (.ok (vT (joinT k a b)))) :
    pcall (tabOf tabL) (n + 3) 31 [vT a, vT b] = some (.ok (vT (joinT (k + 1) a b))) := by
  have fa := okT_facts ha.ok
  have fb := okT_facts hb.ok
  have hl1 := len_pairs a
  have hl2 := len_funs a
  have hF := or_orF fa.1 fb.1
  have hE : pcall (tabOf tabL) (n + 2) 63 [.lst (a.funs.map encT) false, .lst (b.funs.map encT) false, .fn 64 []] = some (.ok (.bool (sameTs a.funs b.funs))) :=
    equal_c (n + 1) a.funs b.funs 64 (by omega) (by cases wa; assumption) (fun x hx y => same_c (n + 1) x y (by have := szT_funs hx; omega) (wa.funs hx))
  refine pcall_fin t31 ?_
  refine WL_seq ?_
  refine WL_reg ?_
  refine O_n rfl rfl rfl ?_
  refine O_n rfl rfl rfl ?_
  refine O_n rfl rfl rfl ?_
  refine WO_nil ?_
  refine WL_seq ?_
  apply WLp
  · (repeat (first | exact rzz | apply rcc rfl | apply rnn rfl))
  conv => arg 4; (try simp only [nrm, Nat.reduceAdd, pCT, tCT, putCells, AVal.flat])
  conv => arg 3; (try simp only [nrm, Nat.reduceAdd, pCT, tCT, putCells, AVal.flat])
  refine WL_seq ?_
  refine WL_seq ?_
  refine WL_reg ?_
  refine O_p rfl rfl rfl ?_
  refine O_h rfl rfl rfl rfl ?_
  refine O_p rfl rfl rfl ?_
  apply O_or [_, _] rfl rfl (hT := ?hT11) (h := ?hR11)
  case hT11 =>
    intro hb8
    refine O_p rfl rfl rfl ?_
    refine O_h rfl rfl rfl rfl ?_
    exact WO_nil (WL_nil ⟨rfl, rfl, rfl⟩)
  case hR11 =>
    intro vs hvs
    obtain ⟨u9, u10, rfl⟩ := len2 hvs
    clear hvs; dsimp only [junk]
    refine WO_nil ?_
    refine WL_seq ?_
    apply WLp
    · (repeat (first | exact rzz | apply rcc rfl | apply rnn rfl))
    conv => arg 4; (try simp only [nrm, Nat.reduceAdd, pCT, tCT, putCells, AVal.flat])
    conv => arg 3; (try simp only [nrm, Nat.reduceAdd, pCT, tCT, putCells, AVal.flat])
    try clear u9 u10
    refine WL_cond rfl (fun h11 => ?_) (fun h11 => ?_)
    · skip
      have hJ := joinT_all k a b h11
      refine WL_seq ?_
      refine WL_reg ?_
      refine O_c 36 rfl rfl (callA_of rfl (all_c (n + 1))) ?_
      refine O_hn rfl rfl rfl rfl ?_
      refine WO_nil ?_
      refine WL_ret ?_
      refine ⟨_, rfl, _, rfl, ?_⟩
      first | (rw [hF, hJ, hP, hG]; simp [vT, cT, Ty.all, Ty.flat, Ty.pair, Ty.pairs, Ty.fn, Ty.funs, hF, encT_eq]; done) | (rw [hJ]; rfl)
    · skip
      have hJ := joinT_succ k a b h11
      simp at h11
      refine WL_skip ?_
      refine WL_seq ?_
      apply WLp
      · (repeat (first | exact rzz | apply rcc rfl | apply rnn rfl))
      conv => arg 4; (try simp only [nrm, Nat.reduceAdd, pCT, tCT, putCells, AVal.flat])
      conv => arg 3; (try simp only [nrm, Nat.reduceAdd, pCT, tCT, putCells, AVal.flat])
      refine WL_seq ?_
      refine WL_reg ?_
      refine O_p rfl rfl rfl ?_
      refine O_h rfl rfl rfl rfl ?_
      refine O_p rfl rfl rfl ?_
      refine O_h rfl rfl rfl rfl ?_
      refine O_p rfl rfl rfl ?_
      refine O_p rfl rfl rfl ?_
      refine O_h rfl rfl rfl rfl ?_
      refine O_p rfl rfl rfl ?_
      refine O_h rfl rfl rfl rfl ?_
      refine O_p rfl rfl rfl ?_
      refine O_h rfl rfl rfl rfl ?_
      refine O_p rfl rfl rfl ?_
      refine O_h rfl rfl rfl rfl ?_
      refine O_p rfl rfl rfl ?_
      refine O_n rfl rfl rfl ?_
      refine O_hn rfl rfl rfl rfl ?_
      refine WO_nil ?_
      refine WL_seq ?_
      apply WLp
      · (repeat (first | exact rzz | apply rcc rfl | apply rnn rfl))
      conv => arg 4; (try simp only [nrm, Nat.reduceAdd, pCT, tCT, putCells, AVal.flat])
      conv => arg 3; (try simp only [nrm, Nat.reduceAdd, pCT, tCT, putCells, AVal.flat])
      refine WL_seq ?_
      refine WL_block ?_
      refine WL_seq ?_
      refine WL_reg ?_
      refine O_p rfl rfl rfl ?_
      refine O_h rfl rfl rfl rfl ?_
      refine O_p rfl rfl rfl ?_
      refine O_p rfl rfl rfl ?_
      refine WO_nil ?_
      refine WL_seq ?_
      apply WLp
      · (repeat (first | exact rzz | apply rcc rfl | apply rnn rfl))
      conv => arg 4; (try simp only [nrm, Nat.reduceAdd, pCT, tCT, putCells, AVal.flat])
      conv => arg 3; (try simp only [nrm, Nat.reduceAdd, pCT, tCT, putCells, AVal.flat])
      refine WL_cond rfl (fun h27 => ?_) (fun h27 => ?_)
      · skip
        have hP : joinP k a b = (b.pair, b.pairs) := by simp at h27; simp [joinP, h27]
        refine WL_draw0 ?_
        refine D_p rfl rfl rfl ?_
        refine D_h (d := some 32) rfl rfl rfl rfl rfl ?_
        refine D_p rfl rfl rfl ?_
        refine D_h (d := some 34) rfl rfl rfl rfl rfl ?_
        refine D_p rfl rfl rfl ?_
        refine D_h (d := none) rfl rfl rfl rfl rfl ?_
        refine D_p rfl rfl rfl ?_
        refine D_h (d := none) rfl rfl rfl rfl rfl ?_
        refine WD_nil ⟨by first | rfl | (simp [okFs, okEarlier, disj, notIn, noneIn, sameOn, sameB_self, glsL, glsV, partsGls, AOpd.ev, zeroB, outB] <;> (repeat' apply And.intro) <;> rfl), ?_⟩
        refine WL_nil ?_
        refine Blk_norm (?_ : WL _ _ _ _ _)
        refine WL_seq ?_
        apply WLp
        · (repeat (first | exact rzz | apply rcc rfl | apply rnn rfl))
        conv => arg 4; (try simp only [nrm, Nat.reduceAdd, pCT, tCT, putCells, AVal.flat])
        conv => arg 3; (try simp only [nrm, Nat.reduceAdd, pCT, tCT, putCells, AVal.flat])
        refine WL_seq ?_
        refine WL_block ?_
        refine WL_seq ?_
        refine WL_reg ?_
        refine O_p rfl rfl rfl ?_
        refine O_h rfl rfl rfl rfl ?_
        refine O_p rfl rfl rfl ?_
        refine O_p rfl rfl rfl ?_
        refine WO_nil ?_
        refine WL_seq ?_
        apply WLp
        · (repeat (first | exact rzz | apply rcc rfl | apply rnn rfl))
        conv => arg 4; (try simp only [nrm, Nat.reduceAdd, pCT, tCT, putCells, AVal.flat])
        conv => arg 3; (try simp only [nrm, Nat.reduceAdd, pCT, tCT, putCells, AVal.flat])
        refine WL_cond rfl (fun h52 => ?_) (fun h52 => ?_)
        · skip
          have hG : joinG a b = (b.fn, b.funs) := by simp at h52; simp [joinG, h52]
          refine WL_draw0 ?_
          refine D_p rfl rfl rfl ?_
          refine D_h (d := some 57) rfl rfl rfl rfl rfl ?_
          refine D_p rfl rfl rfl ?_
          refine D_h (d := some 59) rfl rfl rfl rfl rfl ?_
          refine D_p rfl rfl rfl ?_
          refine D_h (d := none) rfl rfl rfl rfl rfl ?_
          refine D_p rfl rfl rfl ?_
          refine D_h (d := none) rfl rfl rfl rfl rfl ?_
          refine WD_nil ⟨by first | rfl | (simp [okFs, okEarlier, disj, notIn, noneIn, sameOn, sameB_self, glsL, glsV, partsGls, AOpd.ev, zeroB, outB] <;> (repeat' apply And.intro) <;> rfl), ?_⟩
          refine WL_nil ?_
          refine Blk_norm (?_ : WL _ _ _ _ _)
          refine WL_seq ?_
          apply WLp
          · (repeat (first | exact rzz | apply rcc rfl | apply rnn rfl))
          conv => arg 4; (try simp only [nrm, Nat.reduceAdd, pCT, tCT, putCells, AVal.flat])
          conv => arg 3; (try simp only [nrm, Nat.reduceAdd, pCT, tCT, putCells, AVal.flat])
          refine WL_seq ?_
          refine WL_reg ?_
          refine O_h rfl rfl rfl rfl ?_
          refine O_hn rfl rfl rfl rfl ?_
          refine WO_nil ?_
          refine WL_ret ?_
          refine ⟨_, rfl, _, rfl, ?_⟩
          first | (rw [hF, hJ, hP, hG]; simp [vT, cT, Ty.all, Ty.flat, Ty.pair, Ty.pairs, Ty.fn, Ty.funs, hF, encT_eq]; done) | (rw [hJ]; rfl)
        · skip
          simp at h52
          refine WL_seq ?_
          refine WL_reg ?_
          refine O_p rfl rfl rfl ?_
          refine O_h rfl rfl rfl rfl ?_
          refine O_p rfl rfl rfl ?_
          refine O_p rfl rfl rfl ?_
          apply O_and [_, _, _, _, _, _, _, _, _, _, _, _, _] rfl rfl (hT := ?hT80) (h := ?hR80)
          case hT80 =>
            intro hb66
            refine O_p rfl rfl rfl ?_
            refine O_h rfl rfl rfl rfl ?_
            refine O_p rfl rfl rfl ?_
            refine O_h rfl rfl rfl rfl ?_
            refine O_p rfl rfl rfl ?_
            refine O_p rfl rfl rfl ?_
            apply O_and [_, _, _, _, _] rfl rfl (hT := ?hT78) (h := ?hR78)
            case hT78 =>
              intro hb72
              refine O_p rfl rfl rfl ?_
              refine O_h rfl rfl rfl rfl ?_
              refine O_p rfl rfl rfl ?_
              refine O_h rfl rfl rfl rfl ?_
              refine O_c 63 rfl rfl (callA_of rfl hE) ?_
              exact WO_nil (WL_nil ⟨rfl, rfl, rfl⟩)
            case hR78 =>
              intro vs hvs
              obtain ⟨u73, u74, u75, u76, u77, rfl⟩ := len5 hvs
              clear hvs; dsimp only [junk]
              refine O_p rfl rfl rfl ?_
              exact WO_nil (WL_nil ⟨rfl, rfl, rfl⟩)
          case hR80 =>
            intro vs hvs
            obtain ⟨u67, u68, u69, u70, u71, u72, u73, u74, u75, u76, u77, u78, u79, rfl⟩ := len13 hvs
            clear hvs; dsimp only [junk]
            refine O_p rfl rfl rfl ?_
            refine WO_nil ?_
            refine WL_seq ?_
            apply WLp
            · (repeat (first | exact rzz | apply rcc rfl | apply rnn rfl))
            conv => arg 4; (try simp only [nrm, Nat.reduceAdd, pCT, tCT, putCells, AVal.flat])
            conv => arg 3; (try simp only [nrm, Nat.reduceAdd, pCT, tCT, putCells, AVal.flat])
            try clear u73 u74 u75 u76 u77 u67 u68 u69 u70 u71 u72 u73 u74 u75 u76 u77 u78 u79
            refine WL_cond rfl (fun h62 => ?_) (fun h62 => ?_)
            · skip
              have hG : joinG a b = (2, []) := by
                simp at h62; unfold joinG
                rw [if_neg h52, if_pos ⟨h62.1, by rintro ⟨q1, q2⟩; rcases h62.2 with q | q; exact q q1; rw [q] at q2; cases q2⟩]
              refine WL_reg ?_
              refine O_p rfl rfl rfl ?_
              refine O_hn rfl rfl rfl rfl ?_
              refine O_p rfl rfl rfl ?_
              refine O_hn rfl rfl rfl rfl ?_
              refine WO_nil ?_
              refine WL_nil ?_
              refine Blk_norm (?_ : WL _ _ _ _ _)
              refine WL_seq ?_
              apply WLp
              · (repeat (first | exact rzz | apply rcc rfl | apply rnn rfl))
              conv => arg 4; (try simp only [nrm, Nat.reduceAdd, pCT, tCT, putCells, AVal.flat])
              conv => arg 3; (try simp only [nrm, Nat.reduceAdd, pCT, tCT, putCells, AVal.flat])
              refine WL_seq ?_
              refine WL_reg ?_
              refine O_h rfl rfl rfl rfl ?_
              refine O_hn rfl rfl rfl rfl ?_
              refine WO_nil ?_
              refine WL_ret ?_
              refine ⟨_, rfl, _, rfl, ?_⟩
              first | (rw [hF, hJ, hP, hG]; simp [vT, cT, Ty.all, Ty.flat, Ty.pair, Ty.pairs, Ty.fn, Ty.funs, hF, encT_eq]; done) | (rw [hJ]; rfl)
            · skip
              have hG : joinG a b = (a.fn, a.funs) := by
                simp at h62; unfold joinG
                rw [if_neg h52, if_neg (by rintro ⟨q1, q2⟩; exact q2 (h62 q1))]
              refine WL_skip ?_
              refine WL_nil ?_
              refine Blk_norm (?_ : WL _ _ _ _ _)
              refine WL_seq ?_
              apply WLp
              · (repeat (first | exact rzz | apply rcc rfl | apply rnn rfl))
              conv => arg 4; (try simp only [nrm, Nat.reduceAdd, pCT, tCT, putCells, AVal.flat])
              conv => arg 3; (try simp only [nrm, Nat.reduceAdd, pCT, tCT, putCells, AVal.flat])
              refine WL_seq ?_
              refine WL_reg ?_
              refine O_h rfl rfl rfl rfl ?_
              refine O_hn rfl rfl rfl rfl ?_
              refine WO_nil ?_
              refine WL_ret ?_
              refine ⟨_, rfl, _, rfl, ?_⟩
              first | (rw [hF, hJ, hP, hG]; simp [vT, cT, Ty.all, Ty.flat, Ty.pair, Ty.pairs, Ty.fn, Ty.funs, hF, encT_eq]; done) | (rw [hJ]; rfl)
      · skip
        simp at h27
        refine WL_seq ?_
        refine WL_reg ?_
        refine O_p rfl rfl rfl ?_
        refine O_h rfl rfl rfl rfl ?_
        refine O_p rfl rfl rfl ?_
        refine O_p rfl rfl rfl ?_
        refine WO_nil ?_
        refine WL_seq ?_
        apply WLp
        · (repeat (first | exact rzz | apply rcc rfl | apply rnn rfl))
        conv => arg 4; (try simp only [nrm, Nat.reduceAdd, pCT, tCT, putCells, AVal.flat])
        conv => arg 3; (try simp only [nrm, Nat.reduceAdd, pCT, tCT, putCells, AVal.flat])
        refine WL_cond rfl (fun h37 => ?_) (fun h37 => ?_)
        · skip
          simp at h37
          have h1 := car_facts ha h11.1 h27
          have h2 := car_facts hb h11.2 h37
          have h3 := cdr_facts ha h11.1 h27
          have h4 := cdr_facts hb h11.2 h37
          have hP : joinP k a b = (1, [joinT k (carT a) (carT b), joinT k (cdrT a) (cdrT b)]) := by simp [joinP, h27, h37, hp]
          refine WL_seq ?_
          refine WL_reg ?_
          refine O_p rfl rfl rfl ?_
          refine O_hn rfl rfl rfl rfl ?_
          refine WO_nil ?_
          refine WL_seq ?_
          apply WLp
          · (repeat (first | exact rzz | apply rcc rfl | apply rnn rfl))
          conv => arg 4; (try simp only [nrm, Nat.reduceAdd, pCT, tCT, putCells, AVal.flat])
          conv => arg 3; (try simp only [nrm, Nat.reduceAdd, pCT, tCT, putCells, AVal.flat])
          refine WL_seq ?_
          refine WL_reg ?_
          refine O_h rfl rfl rfl rfl ?_
          refine O_h rfl rfl rfl rfl ?_
          refine O_p rfl rfl rfl ?_
          refine O_c 61 rfl rfl (both_join2 n a b _ _ _ _ _ _ ha hb hp (ih n _ _ h1.2.1 h2.2.1 (car_wf wa) (car_wf wb) (by omega) (by omega)) (ih n _ _ h3.2.2 h4.2.2 (cdr_wf wa) (cdr_wf wb) (by omega) (by omega)) (by omega)) ?_
          refine WO_nil ?_
          refine WL_seq ?_
          apply WLp
          · (repeat (first | exact rzz | apply rcc rfl | apply rnn rfl))
          conv => arg 4; (try simp only [nrm, Nat.reduceAdd, pCT, tCT, putCells, AVal.flat])
          conv => arg 3; (try simp only [nrm, Nat.reduceAdd, pCT, tCT, putCells, AVal.flat])
          refine WL_seq ?_
          refine WL_reg ?_
          refine O_p rfl rfl rfl ?_
          refine O_hn rfl rfl rfl rfl ?_
          refine WO_nil ?_
          refine WL_seq ?_
          apply WLp
          · (repeat (first | exact rzz | apply rcc rfl | apply rnn rfl))
          conv => arg 4; (try simp only [nrm, Nat.reduceAdd, pCT, tCT, putCells, AVal.flat])
          conv => arg 3; (try simp only [nrm, Nat.reduceAdd, pCT, tCT, putCells, AVal.flat])
          refine WL_seq ?_
          refine WL_reg ?_
          refine O_p rfl rfl rfl ?_
          refine O_h rfl rfl rfl rfl ?_
          refine O_h rfl rfl rfl rfl ?_
          refine O_p rfl rfl rfl ?_
          refine WO_nil ?_
          refine WL_seq ?_
          apply WLp
          · (repeat (first | exact rzz | apply rcc rfl | apply rnn rfl))
          conv => arg 4; (try simp only [nrm, Nat.reduceAdd, pCT, tCT, putCells, AVal.flat])
          conv => arg 3; (try simp only [nrm, Nat.reduceAdd, pCT, tCT, putCells, AVal.flat])
          refine WL_cond rfl (fun h50 => ?_) (fun h50 => ?_)
          · skip
            refine WL_reg ?_
            refine O_p rfl rfl rfl ?_
            refine O_hn rfl rfl rfl rfl ?_
            refine WO_nil ?_
            refine WL_nil ?_
            refine Blk_norm (?_ : WL _ _ _ _ _)
            refine WL_seq ?_
            apply WLp
            · (repeat (first | exact rzz | apply rcc rfl | apply rnn rfl))
            conv => arg 4; (try simp only [nrm, Nat.reduceAdd, pCT, tCT, putCells, AVal.flat])
            conv => arg 3; (try simp only [nrm, Nat.reduceAdd, pCT, tCT, putCells, AVal.flat])
            refine WL_seq ?_
            refine WL_block ?_
            refine WL_seq ?_
            refine WL_reg ?_
            refine O_p rfl rfl rfl ?_
            refine O_h rfl rfl rfl rfl ?_
            refine O_p rfl rfl rfl ?_
            refine O_p rfl rfl rfl ?_
            refine WO_nil ?_
            refine WL_seq ?_
            apply WLp
            · (repeat (first | exact rzz | apply rcc rfl | apply rnn rfl))
            conv => arg 4; (try simp only [nrm, Nat.reduceAdd, pCT, tCT, putCells, AVal.flat])
            conv => arg 3; (try simp only [nrm, Nat.reduceAdd, pCT, tCT, putCells, AVal.flat])
            refine WL_cond rfl (fun h52 => ?_) (fun h52 => ?_)
            · skip
              have hG : joinG a b = (b.fn, b.funs) := by simp at h52; simp [joinG, h52]
              refine WL_draw0 ?_
              refine D_p rfl rfl rfl ?_
              refine D_h (d := some 57) rfl rfl rfl rfl rfl ?_
              refine D_p rfl rfl rfl ?_
              refine D_h (d := some 59) rfl rfl rfl rfl rfl ?_
              refine D_p rfl rfl rfl ?_
              refine D_h (d := none) rfl rfl rfl rfl rfl ?_
              refine D_p rfl rfl rfl ?_
              refine D_h (d := none) rfl rfl rfl rfl rfl ?_
              refine WD_nil ⟨by first | rfl | (simp [okFs, okEarlier, disj, notIn, noneIn, sameOn, sameB_self, glsL, glsV, partsGls, AOpd.ev, zeroB, outB] <;> (repeat' apply And.intro) <;> rfl), ?_⟩
              refine WL_nil ?_
              refine Blk_norm (?_ : WL _ _ _ _ _)
              refine WL_seq ?_
              apply WLp
              · (repeat (first | exact rzz | apply rcc rfl | apply rnn rfl))
              conv => arg 4; (try simp only [nrm, Nat.reduceAdd, pCT, tCT, putCells, AVal.flat])
              conv => arg 3; (try simp only [nrm, Nat.reduceAdd, pCT, tCT, putCells, AVal.flat])
              refine WL_seq ?_
              refine WL_reg ?_
              refine O_h rfl rfl rfl rfl ?_
              refine O_hn rfl rfl rfl rfl ?_
              refine WO_nil ?_
              refine WL_ret ?_
              refine ⟨_, rfl, _, rfl, ?_⟩
              first | (rw [hF, hJ, hP, hG]; simp [vT, cT, Ty.all, Ty.flat, Ty.pair, Ty.pairs, Ty.fn, Ty.funs, hF, encT_eq]; done) | (rw [hJ]; rfl)
            · skip
              simp at h52
              refine WL_seq ?_
              refine WL_reg ?_
              refine O_p rfl rfl rfl ?_
              refine O_h rfl rfl rfl rfl ?_
              refine O_p rfl rfl rfl ?_
              refine O_p rfl rfl rfl ?_
              apply O_and [_, _, _, _, _, _, _, _, _, _, _, _, _] rfl rfl (hT := ?hT80) (h := ?hR80)
              case hT80 =>
                intro hb66
                refine O_p rfl rfl rfl ?_
                refine O_h rfl rfl rfl rfl ?_
                refine O_p rfl rfl rfl ?_
                refine O_h rfl rfl rfl rfl ?_
                refine O_p rfl rfl rfl ?_
                refine O_p rfl rfl rfl ?_
                apply O_and [_, _, _, _, _] rfl rfl (hT := ?hT78) (h := ?hR78)
                case hT78 =>
                  intro hb72
                  refine O_p rfl rfl rfl ?_
                  refine O_h rfl rfl rfl rfl ?_
                  refine O_p rfl rfl rfl ?_
                  refine O_h rfl rfl rfl rfl ?_
                  refine O_c 63 rfl rfl (callA_of rfl hE) ?_
                  exact WO_nil (WL_nil ⟨rfl, rfl, rfl⟩)
                case hR78 =>
                  intro vs hvs
                  obtain ⟨u73, u74, u75, u76, u77, rfl⟩ := len5 hvs
                  clear hvs; dsimp only [junk]
                  refine O_p rfl rfl rfl ?_
                  exact WO_nil (WL_nil ⟨rfl, rfl, rfl⟩)
              case hR80 =>
                intro vs hvs
                obtain ⟨u67, u68, u69, u70, u71, u72, u73, u74, u75, u76, u77, u78, u79, rfl⟩ := len13 hvs
                clear hvs; dsimp only [junk]
                refine O_p rfl rfl rfl ?_
                refine WO_nil ?_
                refine WL_seq ?_
                apply WLp
                · (repeat (first | exact rzz | apply rcc rfl | apply rnn rfl))
                conv => arg 4; (try simp only [nrm, Nat.reduceAdd, pCT, tCT, putCells, AVal.flat])
                conv => arg 3; (try simp only [nrm, Nat.reduceAdd, pCT, tCT, putCells, AVal.flat])
                try clear u73 u74 u75 u76 u77 u67 u68 u69 u70 u71 u72 u73 u74 u75 u76 u77 u78 u79
                refine WL_cond rfl (fun h62 => ?_) (fun h62 => ?_)
                · skip
                  have hG : joinG a b = (2, []) := by
                    simp at h62; unfold joinG
                    rw [if_neg h52, if_pos ⟨h62.1, by rintro ⟨q1, q2⟩; rcases h62.2 with q | q; exact q q1; rw [q] at q2; cases q2⟩]
                  refine WL_reg ?_
                  refine O_p rfl rfl rfl ?_
                  refine O_hn rfl rfl rfl rfl ?_
                  refine O_p rfl rfl rfl ?_
                  refine O_hn rfl rfl rfl rfl ?_
                  refine WO_nil ?_
                  refine WL_nil ?_
                  refine Blk_norm (?_ : WL _ _ _ _ _)
                  refine WL_seq ?_
                  apply WLp
                  · (repeat (first | exact rzz | apply rcc rfl | apply rnn rfl))
                  conv => arg 4; (try simp only [nrm, Nat.reduceAdd, pCT, tCT, putCells, AVal.flat])
                  conv => arg 3; (try simp only [nrm, Nat.reduceAdd, pCT, tCT, putCells, AVal.flat])
                  refine WL_seq ?_
                  refine WL_reg ?_
                  refine O_h rfl rfl rfl rfl ?_
                  refine O_hn rfl rfl rfl rfl ?_
                  refine WO_nil ?_
                  refine WL_ret ?_
                  refine ⟨_, rfl, _, rfl, ?_⟩
                  first | (rw [hF, hJ, hP, hG]; simp [vT, cT, Ty.all, Ty.flat, Ty.pair, Ty.pairs, Ty.fn, Ty.funs, hF, encT_eq]; done) | (rw [hJ]; rfl)
                · skip
                  have hG : joinG a b = (a.fn, a.funs) := by
                    simp at h62; unfold joinG
                    rw [if_neg h52, if_neg (by rintro ⟨q1, q2⟩; exact q2 (h62 q1))]
                  refine WL_skip ?_
                  refine WL_nil ?_
                  refine Blk_norm (?_ : WL _ _ _ _ _)
                  refine WL_seq ?_
                  apply WLp
                  · (repeat (first | exact rzz | apply rcc rfl | apply rnn rfl))
                  conv => arg 4; (try simp only [nrm, Nat.reduceAdd, pCT, tCT, putCells, AVal.flat])
                  conv => arg 3; (try simp only [nrm, Nat.reduceAdd, pCT, tCT, putCells, AVal.flat])
                  refine WL_seq ?_
                  refine WL_reg ?_
                  refine O_h rfl rfl rfl rfl ?_
                  refine O_hn rfl rfl rfl rfl ?_
                  refine WO_nil ?_
                  refine WL_ret ?_
                  refine ⟨_, rfl, _, rfl, ?_⟩
                  first | (rw [hF, hJ, hP, hG]; simp [vT, cT, Ty.all, Ty.flat, Ty.pair, Ty.pairs, Ty.fn, Ty.funs, hF, encT_eq]; done) | (rw [hJ]; rfl)
          · skip
            simp at h50
        · skip
          have hP : joinP k a b = (a.pair, a.pairs) := by simp at h37; simp [joinP, h27, h37]
          refine WL_skip ?_
          refine WL_nil ?_
          refine Blk_norm (?_ : WL _ _ _ _ _)
          refine WL_seq ?_
          apply WLp
          · (repeat (first | exact rzz | apply rcc rfl | apply rnn rfl))
          conv => arg 4; (try simp only [nrm, Nat.reduceAdd, pCT, tCT, putCells, AVal.flat])
          conv => arg 3; (try simp only [nrm, Nat.reduceAdd, pCT, tCT, putCells, AVal.flat])
          refine WL_seq ?_
          refine WL_block ?_
          refine WL_seq ?_
          refine WL_reg ?_
          refine O_p rfl rfl rfl ?_
          refine O_h rfl rfl rfl rfl ?_
          refine O_p rfl rfl rfl ?_
          refine O_p rfl rfl rfl ?_
          refine WO_nil ?_
          refine WL_seq ?_
          apply WLp
          · (repeat (first | exact rzz | apply rcc rfl | apply rnn rfl))
          conv => arg 4; (try simp only [nrm, Nat.reduceAdd, pCT, tCT, putCells, AVal.flat])
          conv => arg 3; (try simp only [nrm, Nat.reduceAdd, pCT, tCT, putCells, AVal.flat])
          refine WL_cond rfl (fun h52 => ?_) (fun h52 => ?_)
          · skip
            have hG : joinG a b = (b.fn, b.funs) := by simp at h52; simp [joinG, h52]
            refine WL_draw0 ?_
            refine D_p rfl rfl rfl ?_
            refine D_h (d := some 57) rfl rfl rfl rfl rfl ?_
            refine D_p rfl rfl rfl ?_
            refine D_h (d := some 59) rfl rfl rfl rfl rfl ?_
            refine D_p rfl rfl rfl ?_
            refine D_h (d := none) rfl rfl rfl rfl rfl ?_
            refine D_p rfl rfl rfl ?_
            refine D_h (d := none) rfl rfl rfl rfl rfl ?_
            refine WD_nil ⟨by first | rfl | (simp [okFs, okEarlier, disj, notIn, noneIn, sameOn, sameB_self, glsL, glsV, partsGls, AOpd.ev, zeroB, outB] <;> (repeat' apply And.intro) <;> rfl), ?_⟩
            refine WL_nil ?_
            refine Blk_norm (?_ : WL _ _ _ _ _)
            refine WL_seq ?_
            apply WLp
            · (repeat (first | exact rzz | apply rcc rfl | apply rnn rfl))
            conv => arg 4; (try simp only [nrm, Nat.reduceAdd, pCT, tCT, putCells, AVal.flat])
            conv => arg 3; (try simp only [nrm, Nat.reduceAdd, pCT, tCT, putCells, AVal.flat])
            refine WL_seq ?_
            refine WL_reg ?_
            refine O_h rfl rfl rfl rfl ?_
            refine O_hn rfl rfl rfl rfl ?_
            refine WO_nil ?_
            refine WL_ret ?_
            refine ⟨_, rfl, _, rfl, ?_⟩
            first | (rw [hF, hJ, hP, hG]; simp [vT, cT, Ty.all, Ty.flat, Ty.pair, Ty.pairs, Ty.fn, Ty.funs, hF, encT_eq]; done) | (rw [hJ]; rfl)
          · skip
            simp at h52
            refine WL_seq ?_
            refine WL_reg ?_
            refine O_p rfl rfl rfl ?_
            refine O_h rfl rfl rfl rfl ?_
            refine O_p rfl rfl rfl ?_
            refine O_p rfl rfl rfl ?_
            apply O_and [_, _, _, _, _, _, _, _, _, _, _, _, _] rfl rfl (hT := ?hT80) (h := ?hR80)
            case hT80 =>
              intro hb66
              refine O_p rfl rfl rfl ?_
              refine O_h rfl rfl rfl rfl ?_
              refine O_p rfl rfl rfl ?_
              refine O_h rfl rfl rfl rfl ?_
              refine O_p rfl rfl rfl ?_
              refine O_p rfl rfl rfl ?_
              apply O_and [_, _, _, _, _] rfl rfl (hT := ?hT78) (h := ?hR78)
              case hT78 =>
                intro hb72
                refine O_p rfl rfl rfl ?_
                refine O_h rfl rfl rfl rfl ?_
                refine O_p rfl rfl rfl ?_
                refine O_h rfl rfl rfl rfl ?_
                refine O_c 63 rfl rfl (callA_of rfl hE) ?_
                exact WO_nil (WL_nil ⟨rfl, rfl, rfl⟩)
              case hR78 =>
                intro vs hvs
                obtain ⟨u73, u74, u75, u76, u77, rfl⟩ := len5 hvs
                clear hvs; dsimp only [junk]
                refine O_p rfl rfl rfl ?_
                exact WO_nil (WL_nil ⟨rfl, rfl, rfl⟩)
            case hR80 =>
              intro vs hvs
              obtain ⟨u67, u68, u69, u70, u71, u72, u73, u74, u75, u76, u77, u78, u79, rfl⟩ := len13 hvs
              clear hvs; dsimp only [junk]
              refine O_p rfl rfl rfl ?_
              refine WO_nil ?_
              refine WL_seq ?_
              apply WLp
              · (repeat (first | exact rzz | apply rcc rfl | apply rnn rfl))
              conv => arg 4; (try simp only [nrm, Nat.reduceAdd, pCT, tCT, putCells, AVal.flat])
              conv => arg 3; (try simp only [nrm, Nat.reduceAdd, pCT, tCT, putCells, AVal.flat])
              try clear u73 u74 u75 u76 u77 u67 u68 u69 u70 u71 u72 u73 u74 u75 u76 u77 u78 u79
              refine WL_cond rfl (fun h62 => ?_) (fun h62 => ?_)
              · skip
                have hG : joinG a b = (2, []) := by
                  simp at h62; unfold joinG
                  rw [if_neg h52, if_pos ⟨h62.1, by rintro ⟨q1, q2⟩; rcases h62.2 with q | q; exact q q1; rw [q] at q2; cases q2⟩]
                refine WL_reg ?_
                refine O_p rfl rfl rfl ?_
                refine O_hn rfl rfl rfl rfl ?_
                refine O_p rfl rfl rfl ?_
                refine O_hn rfl rfl rfl rfl ?_
                refine WO_nil ?_
                refine WL_nil ?_
                refine Blk_norm (?_ : WL _ _ _ _ _)
                refine WL_seq ?_
                apply WLp
                · (repeat (first | exact rzz | apply rcc rfl | apply rnn rfl))
                conv => arg 4; (try simp only [nrm, Nat.reduceAdd, pCT, tCT, putCells, AVal.flat])
                conv => arg 3; (try simp only [nrm, Nat.reduceAdd, pCT, tCT, putCells, AVal.flat])
                refine WL_seq ?_
                refine WL_reg ?_
                refine O_h rfl rfl rfl rfl ?_
                refine O_hn rfl rfl rfl rfl ?_
                refine WO_nil ?_
                refine WL_ret ?_
                refine ⟨_, rfl, _, rfl, ?_⟩
                first | (rw [hF, hJ, hP, hG]; simp [vT, cT, Ty.all, Ty.flat, Ty.pair, Ty.pairs, Ty.fn, Ty.funs, hF, encT_eq]; done) | (rw [hJ]; rfl)
              · skip
                have hG : joinG a b = (a.fn, a.funs) := by
                  simp at h62; unfold joinG
                  rw [if_neg h52, if_neg (by rintro ⟨q1, q2⟩; exact q2 (h62 q1))]
                refine WL_skip ?_
                refine WL_nil ?_
                refine Blk_norm (?_ : WL _ _ _ _ _)
                refine WL_seq ?_
                apply WLp
                · (repeat (first | exact rzz | apply rcc rfl | apply rnn rfl))
                conv => arg 4; (try simp only [nrm, Nat.reduceAdd, pCT, tCT, putCells, AVal.flat])
                conv => arg 3; (try simp only [nrm, Nat.reduceAdd, pCT, tCT, putCells, AVal.flat])
                refine WL_seq ?_
                refine WL_reg ?_
                refine O_h rfl rfl rfl rfl ?_
                refine O_hn rfl rfl rfl rfl ?_
                refine WO_nil ?_
                refine WL_ret ?_
                refine ⟨_, rfl, _, rfl, ?_⟩
                first | (rw [hF, hJ, hP, hG]; simp [vT, cT, Ty.all, Ty.flat, Ty.pair, Ty.pairs, Ty.fn, Ty.funs, hF, encT_eq]; done) | (rw [hJ]; rfl)
theorem join_c : ∀ (k n : Nat) (a b : Ty), Rt a → Rt b → WfT a → WfT b → szT a + szT b ≤ k → 20 * k + 20 < n → pcall (tabOf tabL) n 31 [vT a, vT b] = some (.ok (vT (joinT k a b)))
  | 0, n, a, b, _, _, _, _, h, _ => by have := szT_pos a; omega
  | k + 1, n, a, b, ha, hb, wa, wb, h, hn => by
    obtain ⟨n, rfl⟩ : ∃ m, n = m + 3 := ⟨n - 3, by omega⟩
    by_cases hp : a.pair = 2 ∧ b.pair = 2
    · exact join_l k n a b ha hb wa wb h hn hp (join_c k)
    · exact join_n k n a b ha hb wa wb h hn hp (join_c k)
end Go.Ev.Seat.TyS
namespace Go.Ev.Seat
set_option linter.unusedVariables false
set_option linter.unusedSimpArgs false
open Go Go.Ev
set_option maxRecDepth 20000
attribute [local irreducible] pcall callF
noncomputable section
open Classical
def oRightP (t : Ty) : Option Bool := if WfT t ∧ szT t ≤ 1000000 then some (decide (szT t ≤ 300) && rightT t 20) else none
theorem oRightP_ok {t : Ty} {r : Bool} (h : oRightP t = some r) : PRes (tabOf tabL) 30 [vT t] (.bool r) := by
  unfold oRightP at h
  split at h <;> cases h
  rename_i hw
  exact .of_lt (10 * szT t + 31) fun n hn => by obtain ⟨m, rfl⟩ : ∃ m, n = m + 1 := ⟨n - 1, by omega⟩; exact TyS.tright_c m t (by omega) hw.1 hw.2
def oSubP (a b : Ty) : Option Bool := if Rt a ∧ Rt b ∧ WfT a ∧ WfT b then some (subT (szT a + szT b) a b) else none
theorem oSubP_ok {a b : Ty} {r : Bool} (h : oSubP a b = some r) : PRes (tabOf tabL) 32 [vT a, vT b] (.bool r) := by
  unfold oSubP at h
  split at h <;> cases h
  rename_i hw
  exact .of_lt (20 * (szT a + szT b) + 20) fun n hn => TyS.sub_c _ n a b hw.1 hw.2.1 hw.2.2.1 hw.2.2.2 (Nat.le_refl _) hn
def oJoinP (a b : Ty) : Option Ty := if Rt a ∧ Rt b ∧ WfT a ∧ WfT b then some (joinT (szT a + szT b) a b) else none
theorem oJoinP_ok {a b r : Ty} (h : oJoinP a b = some r) : PRes (tabOf tabL) 31 [vT a, vT b] (vT r) := by
  unfold oJoinP at h
  split at h <;> cases h
  rename_i hw
  exact .of_lt (20 * (szT a + szT b) + 20) fun n hn => TyS.join_c _ n a b hw.1 hw.2.1 hw.2.2.1 hw.2.2.2 (Nat.le_refl _) hn
end
end Go.Ev.Seat
namespace Go.Ev.Seat
set_option linter.unusedVariables false
set_option linter.unusedSimpArgs false
open Go Go.Ev
set_option maxRecDepth 20000
attribute [local irreducible] pcall callF
noncomputable def g_w06_NarrowParts (t1 : Ty) (tags2 : Int) : Option Bool :=
  ((oAwake).bind fun r3 => ((oLightT t1).bind fun r4 => ((cond (!r4) (some true) (((oRightP t1).bind fun r7 => some (!r7)))).bind fun v8 => (cond v8 (some r3) ((g_narrow_Keep t1 tags2).bind fun r9 => ((g_narrow_Keep t1 (notB .i64 tags2)).bind fun r10 => ((oJoinP r9 r10).bind fun r11 => ((oSameT r11 t1).bind fun r12 => ((cond r3 (((g_narrow_Tags r9).bind fun r13 => ((g_narrow_Tags t1).bind fun r14 => some (decide (r13 = (andB .i64 (andB .i64 r14 tags2) 255)))))) (some false)).bind fun v15 => ((cond v15 (((oSubP r9 t1).bind fun r18 => some r18)) (some false)).bind fun v19 => ((cond v19 (((oSubP r10 t1).bind fun r21 => some r21)) (some false)).bind fun v22 => ((cond v22 (((cond t1.all (some true) (some r12)).bind fun v24 => some v24)) (some false)).bind fun v25 => ((cond v25 (((oRightP r9).bind fun r30 => some r30)) (some false)).bind fun v31 => some v31)))))))))))))
abbrev kg21 (t1 : Ty) : ABlock := .cells [.bool t1.all, .int .i64 t1.flat, .int .i64 t1.pair, .lst (List.map encT t1.pairs) false, .int .i64 t1.fn, .lst (List.map encT t1.funs) false]
theorem g_w06_NarrowParts_ok {t1 : Ty} {tags2 : Int} {r : Bool} (hr : g_w06_NarrowParts t1 tags2 = some r) : PRes (tabOf tabL) 7 [.agg (cT t1), .int .i64 tags2] (.bool r) := by
  refine pres_fin t7 ?_
  unfold g_w06_NarrowParts at hr
  refine L_seq ?_
  refine L_stmt ?_
  refine L_reg ?_
  refine G_n (B := (kg21 t1)) rfl rfl rfl ?_
  refine G_p rfl rfl rfl ?_
  refine G_nil ?_
  refine L_nil ?_
  refine Sm_norm (e2 := [(1, .int .i64 tags2), (2, .ptr 0 0)]) (H1 := [(kg21 t1)]) (H2 := [(kg21 t1)]) rfl (by repeat (first | exact rzz | apply rcc rfl | apply rnn rfl)) rfl (?_ : GL _ _ _ _ _)
  refine L_seq ?_
  refine L_stmt ?_
  refine L_reg ?_
  obtain ⟨r3, hr3, hr⟩ := bind_s hr
  refine G_c 8 rfl rfl (CA_of (as := []) rfl (oAwake_ok hr3)) ?_
  refine G_p rfl rfl rfl ?_
  refine G_nil ?_
  refine L_nil ?_
  refine Sm_norm (e2 := [(1, .int .i64 tags2), (2, .ptr 0 0), (5, .bool r3)]) (H1 := [(kg21 t1)]) (H2 := [(kg21 t1)]) rfl (by repeat (first | exact rzz | apply rcc rfl | apply rnn rfl)) rfl (?_ : GL _ _ _ _ _)
  refine L_seq ?_
  refine L_stmt ?_
  refine L_reg ?_
  refine G_h (v := .agg (cT t1)) rfl rfl rfl (fun _ => rfl) ?_
  obtain ⟨r4, hr4, hr⟩ := bind_s hr
  refine G_c 15 rfl rfl (CA_of (as := [.agg (cT t1)]) rfl (oLightT_ok hr4)) ?_
  refine G_p rfl rfl rfl ?_
  refine G_nil ?_
  refine L_nil ?_
  refine Sm_norm (e2 := [(1, .int .i64 tags2), (2, .ptr 0 0), (5, .bool r3), (6, .bool r4)]) (H1 := [(kg21 t1)]) (H2 := [(kg21 t1)]) rfl (by repeat (first | exact rzz | apply rcc rfl | apply rnn rfl)) rfl (?_ : GL _ _ _ _ _)
  refine L_seq ?_
  refine L_stmt ?_
  refine L_seq ?_
  refine L_stmt ?_
  refine L_reg ?_
  refine G_p rfl rfl rfl ?_
  refine G_p rfl rfl rfl ?_
  refine G_p rfl rfl rfl ?_
  obtain ⟨v8, hvv8, hr⟩ := bind_s hr
  refine G_pick false [_, _, _] (v := .bool v8) (vo := .bool true) rfl rfl ?_ ?_ rfl ?_
  · intro hb15
    have hr := condF hb15 hvv8
    refine G_h (v := .agg (cT t1)) rfl rfl rfl (fun _ => rfl) ?_
    obtain ⟨r7, hr7, hr⟩ := bind_s hr
    refine G_c 30 rfl rfl (CA_of (as := [.agg (cT t1)]) rfl (oRightP_ok hr7)) ?_
    refine G_p rfl rfl rfl ?_
    cases hr; exact G_nil (L_nil ⟨rfl, rfl, rfl⟩)
  · intro hb15; exact pickF hvv8 hb15
  · intro vs hvs
    obtain ⟨u16, u17, u18, rfl⟩ := len3 hvs
    dsimp only [junk]
    refine G_nil ?_
    refine L_nil ?_
    refine Sm_norm (e2 := [(1, .int .i64 tags2), (2, .ptr 0 0), (5, .bool r3), (19, .bool v8)]) (H1 := [(kg21 t1)]) (H2 := [(kg21 t1)]) rfl (by repeat (first | exact rzz | apply rcc rfl | apply rnn rfl)) rfl (?_ : GL _ _ _ _ _)
    rcases cond_s hr with ⟨hc19, hr⟩ | ⟨hc19, hr⟩
    · refine L_T rfl hc19 ?_
      refine L_seq ?_
      refine L_reg ?_
      refine G_p rfl rfl rfl ?_
      refine G_p rfl rfl rfl ?_
      refine G_nil ?_
      refine L_ret ?_
      refine Sm_ret ?_
      have hr := some_s hr
      subst hr
      exact ⟨_, rfl, _, rfl, rfl⟩
    · refine L_F rfl hc19 ?_
      refine L_skip ?_
      refine L_nil ?_
      refine Sm_norm (e2 := [(1, .int .i64 tags2), (2, .ptr 0 0), (5, .bool r3)]) (H1 := [(kg21 t1)]) (H2 := [(kg21 t1)]) rfl (by repeat (first | exact rzz | apply rcc rfl | apply rnn rfl)) rfl (?_ : GL _ _ _ _ _)
      refine L_seq ?_
      refine L_stmt ?_
      refine L_reg ?_
      refine G_h (v := .agg (cT t1)) rfl rfl rfl (fun _ => rfl) ?_
      refine G_p rfl rfl rfl ?_
      obtain ⟨r9, hr9, hr⟩ := bind_s hr
      refine G_c 20 rfl rfl (CA_of (as := [.agg (cT t1), .int .i64 tags2]) rfl (g_narrow_Keep_ok hr9)) ?_
      refine G_n (B := .cells [.bool false, .int .i64 0, .int .i64 0, .lst [] true, .int .i64 0, .lst [] true]) rfl rfl rfl ?_
      refine G_hn (H' := [(kg21 t1), .cells [.bool r9.all, .int .i64 r9.flat, .int .i64 r9.pair, .lst (List.map encT r9.pairs) false, .int .i64 r9.fn, .lst (List.map encT r9.funs) false]]) rfl rfl rfl (fun _ => rfl) ?_
      refine G_nil ?_
      refine L_nil ?_
      refine Sm_norm (e2 := [(1, .int .i64 tags2), (2, .ptr 0 0), (5, .bool r3), (7, .ptr 1 0)]) (H1 := [(kg21 t1), .cells [.bool r9.all, .int .i64 r9.flat, .int .i64 r9.pair, .lst (List.map encT r9.pairs) false, .int .i64 r9.fn, .lst (List.map encT r9.funs) false]]) (H2 := [(kg21 t1), .cells [.bool r9.all, .int .i64 r9.flat, .int .i64 r9.pair, .lst (List.map encT r9.pairs) false, .int .i64 r9.fn, .lst (List.map encT r9.funs) false]]) rfl (by repeat (first | exact rzz | apply rcc rfl | apply rnn rfl)) rfl (?_ : GL _ _ _ _ _)
      refine L_seq ?_
      refine L_stmt ?_
      refine L_reg ?_
      refine G_h (v := .agg (cT t1)) rfl rfl rfl (fun _ => rfl) ?_
      refine G_p rfl rfl rfl ?_
      refine G_p rfl rfl rfl ?_
      obtain ⟨r10, hr10, hr⟩ := bind_s hr
      refine G_c 20 rfl rfl (CA_of (as := [.agg (cT t1), .int .i64 (notB .i64 tags2)]) rfl (g_narrow_Keep_ok hr10)) ?_
      refine G_n (B := .cells [.bool false, .int .i64 0, .int .i64 0, .lst [] true, .int .i64 0, .lst [] true]) rfl rfl rfl ?_
      refine G_hn (H' := [(kg21 t1), .cells [.bool r9.all, .int .i64 r9.flat, .int .i64 r9.pair, .lst (List.map encT r9.pairs) false, .int .i64 r9.fn, .lst (List.map encT r9.funs) false], .cells [.bool r10.all, .int .i64 r10.flat, .int .i64 r10.pair, .lst (List.map encT r10.pairs) false, .int .i64 r10.fn, .lst (List.map encT r10.funs) false]]) rfl rfl rfl (fun _ => rfl) ?_
      refine G_nil ?_
      refine L_nil ?_
      refine Sm_norm (e2 := [(1, .int .i64 tags2), (2, .ptr 0 0), (5, .bool r3), (7, .ptr 1 0), (8, .ptr 2 0)]) (H1 := [(kg21 t1), .cells [.bool r9.all, .int .i64 r9.flat, .int .i64 r9.pair, .lst (List.map encT r9.pairs) false, .int .i64 r9.fn, .lst (List.map encT r9.funs) false], .cells [.bool r10.all, .int .i64 r10.flat, .int .i64 r10.pair, .lst (List.map encT r10.pairs) false, .int .i64 r10.fn, .lst (List.map encT r10.funs) false]]) (H2 := [(kg21 t1), .cells [.bool r9.all, .int .i64 r9.flat, .int .i64 r9.pair, .lst (List.map encT r9.pairs) false, .int .i64 r9.fn, .lst (List.map encT r9.funs) false], .cells [.bool r10.all, .int .i64 r10.flat, .int .i64 r10.pair, .lst (List.map encT r10.pairs) false, .int .i64 r10.fn, .lst (List.map encT r10.funs) false]]) rfl (by repeat (first | exact rzz | apply rcc rfl | apply rnn rfl)) rfl (?_ : GL _ _ _ _ _)
      refine L_seq ?_
      refine L_stmt ?_
      refine L_drawT [] rfl ?_
      refine GS_h (d := some 28) (v := .agg (cT r9)) rfl rfl rfl rfl (fun _ => rfl) ?_
      refine GS_h (d := some 29) (v := .agg (cT r10)) rfl rfl rfl rfl (fun _ => rfl) ?_
      obtain ⟨r11, hr11, hr⟩ := bind_s hr
      refine GS_c 31 rfl rfl rfl (CA_of (as := [.agg (cT r9), .agg (cT r10)]) rfl (oJoinP_ok hr11)) ?_
      refine GS_h (d := some 31) (v := .agg (cT t1)) rfl rfl rfl rfl (fun _ => rfl) ?_
      obtain ⟨r12, hr12, hr⟩ := bind_s hr
      refine GS_c 19 rfl rfl rfl (CA_of (as := [.agg (cT r11), .agg (cT t1)]) rfl (oSameT_ok hr12)) ?_
      refine GS_p rfl rfl rfl ?_
      refine GS_nil ?_
      refine L_nil ?_
      refine Sm_norm (e2 := [(1, .int .i64 tags2), (2, .ptr 0 0), (5, .bool r3), (7, .ptr 1 0), (8, .ptr 2 0), (9, .bool r12)]) (H1 := [(kg21 t1), .cells [.bool r9.all, .int .i64 r9.flat, .int .i64 r9.pair, .lst (List.map encT r9.pairs) false, .int .i64 r9.fn, .lst (List.map encT r9.funs) false], .cells [.bool r10.all, .int .i64 r10.flat, .int .i64 r10.pair, .lst (List.map encT r10.pairs) false, .int .i64 r10.fn, .lst (List.map encT r10.funs) false]]) (H2 := [(kg21 t1), .cells [.bool r9.all, .int .i64 r9.flat, .int .i64 r9.pair, .lst (List.map encT r9.pairs) false, .int .i64 r9.fn, .lst (List.map encT r9.funs) false], .cells [.bool r10.all, .int .i64 r10.flat, .int .i64 r10.pair, .lst (List.map encT r10.pairs) false, .int .i64 r10.fn, .lst (List.map encT r10.funs) false]]) rfl (by repeat (first | exact rzz | apply rcc rfl | apply rnn rfl)) rfl (?_ : GL _ _ _ _ _)
      refine L_seq ?_
      refine L_drawT [] rfl ?_
      refine GS_p rfl rfl rfl ?_
      refine GS_p rfl rfl rfl ?_
      obtain ⟨v15, hvv15, hr⟩ := bind_s hr
      rcases cond_s hvv15 with ⟨hb34, hvv15⟩ | ⟨hb34, hvv15⟩
      · skip
        have hkv15 := hr
        have hr := hvv15
        refine GS_h (d := some 35) (v := .agg (cT r9)) rfl rfl rfl (wt rfl hb34) (fun _ => rfl) ?_
        obtain ⟨r16, hr16, hr⟩ := bind_s hr
        refine GS_c 22 (wt rfl hb34) rfl rfl (CA_of (as := [.agg (cT r9)]) rfl (g_narrow_Tags_ok hr16)) ?_
        refine GS_h (d := some 37) (v := .agg (cT t1)) rfl rfl rfl (wt rfl hb34) (fun _ => rfl) ?_
        obtain ⟨r17, hr17, hr⟩ := bind_s hr
        refine GS_c 22 (wt rfl hb34) rfl rfl (CA_of (as := [.agg (cT t1)]) rfl (g_narrow_Tags_ok hr17)) ?_
        refine GS_p rfl (wt rfl hb34) rfl ?_
        refine GS_p rfl (wt rfl hb34) rfl ?_
        refine GS_p rfl (wt rfl hb34) rfl ?_
        refine GS_p rfl (wt rfl hb34) rfl ?_
        replace hvv15 := some_s hr
        have hr := hkv15
        refine GS_v (.bool v15) rfl rfl (evP_pickT rfl hb34 rfl) (congrArg AVal.bool hvv15) ?_
        refine GS_p rfl rfl rfl ?_
        obtain ⟨v19, hvv19, hr⟩ := bind_s hr
        rcases cond_s hvv19 with ⟨hb44, hvv19⟩ | ⟨hb44, hvv19⟩
        · skip
          have hkv19 := hr
          have hr := hvv19
          refine GS_h (d := some 45) (v := .agg (cT r9)) rfl rfl rfl (wt rfl hb44) (fun _ => rfl) ?_
          refine GS_h (d := some 46) (v := .agg (cT t1)) rfl rfl rfl (wt rfl hb44) (fun _ => rfl) ?_
          obtain ⟨r20, hr20, hr⟩ := bind_s hr
          refine GS_c 32 (wt rfl hb44) rfl rfl (CA_of (as := [.agg (cT r9), .agg (cT t1)]) rfl (oSubP_ok hr20)) ?_
          replace hvv19 := some_s hr
          have hr := hkv19
          refine GS_v (.bool v19) rfl rfl (evP_pickT rfl hb44 rfl) (congrArg AVal.bool hvv19) ?_
          refine GS_p rfl rfl rfl ?_
          obtain ⟨v22, hvv22, hr⟩ := bind_s hr
          rcases cond_s hvv22 with ⟨hb49, hvv22⟩ | ⟨hb49, hvv22⟩
          · skip
            have hkv22 := hr
            have hr := hvv22
            refine GS_h (d := some 50) (v := .agg (cT r10)) rfl rfl rfl (wt rfl hb49) (fun _ => rfl) ?_
            refine GS_h (d := some 51) (v := .agg (cT t1)) rfl rfl rfl (wt rfl hb49) (fun _ => rfl) ?_
            obtain ⟨r23, hr23, hr⟩ := bind_s hr
            refine GS_c 32 (wt rfl hb49) rfl rfl (CA_of (as := [.agg (cT r10), .agg (cT t1)]) rfl (oSubP_ok hr23)) ?_
            replace hvv22 := some_s hr
            have hr := hkv22
            refine GS_v (.bool v22) rfl rfl (evP_pickT rfl hb49 rfl) (congrArg AVal.bool hvv22) ?_
            refine GS_p rfl rfl rfl ?_
            obtain ⟨v25, hvv25, hr⟩ := bind_s hr
            rcases cond_s hvv25 with ⟨hb54, hvv25⟩ | ⟨hb54, hvv25⟩
            · skip
              have hkv25 := hr
              have hr := hvv25
              refine GS_p rfl (wt rfl hb54) rfl ?_
              refine GS_h (d := some 56) rfl rfl rfl (wt rfl hb54) (fun _ => rfl) ?_
              refine GS_p rfl (wt rfl hb54) rfl ?_
              obtain ⟨v26, hvv26, hr⟩ := bind_s hr
              rcases cond_s hvv26 with ⟨hb57, hvv26⟩ | ⟨hb57, hvv26⟩
              · skip
                refine GS_s (wf rfl hb57) ?_
                replace hvv26 := some_s hvv26
                refine GS_v (.bool v26) rfl (wt rfl hb54) (evP_pickT rfl hb57 rfl) (congrArg AVal.bool hvv26) ?_
                replace hvv25 := some_s hr
                have hr := hkv25
                refine GS_v (.bool v25) rfl rfl (evP_pickT rfl hb54 rfl) (congrArg AVal.bool hvv25) ?_
                refine GS_p rfl rfl rfl ?_
                obtain ⟨v28, hvv28, hr⟩ := bind_s hr
                rcases cond_s hvv28 with ⟨hb61, hvv28⟩ | ⟨hb61, hvv28⟩
                · skip
                  have hkv28 := hr
                  have hr := hvv28
                  refine GS_h (d := some 62) (v := .agg (cT r9)) rfl rfl rfl (wt rfl hb61) (fun _ => rfl) ?_
                  obtain ⟨r29, hr29, hr⟩ := bind_s hr
                  refine GS_c 30 (wt rfl hb61) rfl rfl (CA_of (as := [.agg (cT r9)]) rfl (oRightP_ok hr29)) ?_
                  replace hvv28 := some_s hr
                  have hr := hkv28
                  refine GS_v (.bool v28) rfl rfl (evP_pickT rfl hb61 rfl) (congrArg AVal.bool hvv28) ?_
                  refine GS_p rfl rfl rfl ?_
                  refine GS_nil ?_
                  refine L_ret ?_
                  have hr := some_s hr
                  subst hr
                  exact ⟨_, rfl, _, rfl, rfl⟩
                · skip
                  refine GS_s (wf rfl hb61) ?_
                  refine GS_s (wf rfl hb61) ?_
                  replace hvv28 := some_s hvv28
                  refine GS_v (.bool v28) rfl rfl (evP_pickF rfl hb61 rfl) (congrArg AVal.bool hvv28) ?_
                  refine GS_p rfl rfl rfl ?_
                  refine GS_nil ?_
                  refine L_ret ?_
                  have hr := some_s hr
                  subst hr
                  exact ⟨_, rfl, _, rfl, rfl⟩
              · skip
                have hkv26 := hr
                have hr := hvv26
                refine GS_p rfl (wt rfl hb57) rfl ?_
                replace hvv26 := some_s hr
                have hr := hkv26
                refine GS_v (.bool v26) rfl (wt rfl hb54) (evP_pickF rfl hb57 rfl) (congrArg AVal.bool hvv26) ?_
                replace hvv25 := some_s hr
                have hr := hkv25
                refine GS_v (.bool v25) rfl rfl (evP_pickT rfl hb54 rfl) (congrArg AVal.bool hvv25) ?_
                refine GS_p rfl rfl rfl ?_
                obtain ⟨v31, hvv31, hr⟩ := bind_s hr
                rcases cond_s hvv31 with ⟨hb61, hvv31⟩ | ⟨hb61, hvv31⟩
                · skip
                  have hkv31 := hr
                  have hr := hvv31
                  refine GS_h (d := some 62) (v := .agg (cT r9)) rfl rfl rfl (wt rfl hb61) (fun _ => rfl) ?_
                  obtain ⟨r32, hr32, hr⟩ := bind_s hr
                  refine GS_c 30 (wt rfl hb61) rfl rfl (CA_of (as := [.agg (cT r9)]) rfl (oRightP_ok hr32)) ?_
                  replace hvv31 := some_s hr
                  have hr := hkv31
                  refine GS_v (.bool v31) rfl rfl (evP_pickT rfl hb61 rfl) (congrArg AVal.bool hvv31) ?_
                  refine GS_p rfl rfl rfl ?_
                  refine GS_nil ?_
                  refine L_ret ?_
                  have hr := some_s hr
                  subst hr
                  exact ⟨_, rfl, _, rfl, rfl⟩
                · skip
                  refine GS_s (wf rfl hb61) ?_
                  refine GS_s (wf rfl hb61) ?_
                  replace hvv31 := some_s hvv31
                  refine GS_v (.bool v31) rfl rfl (evP_pickF rfl hb61 rfl) (congrArg AVal.bool hvv31) ?_
                  refine GS_p rfl rfl rfl ?_
                  refine GS_nil ?_
                  refine L_ret ?_
                  have hr := some_s hr
                  subst hr
                  exact ⟨_, rfl, _, rfl, rfl⟩
            · skip
              refine GS_s (wf rfl hb54) ?_
              refine GS_s (wf rfl hb54) ?_
              refine GS_s (wf rfl hb54) ?_
              refine GS_s rfl ?_
              refine GS_s (wf rfl hb54) ?_
              replace hvv25 := some_s hvv25
              refine GS_v (.bool v25) rfl rfl (evP_pickF rfl hb54 rfl) (congrArg AVal.bool hvv25) ?_
              refine GS_p rfl rfl rfl ?_
              obtain ⟨v34, hvv34, hr⟩ := bind_s hr
              rcases cond_s hvv34 with ⟨hb61, hvv34⟩ | ⟨hb61, hvv34⟩
              · skip
                have hkv34 := hr
                have hr := hvv34
                refine GS_h (d := some 62) (v := .agg (cT r9)) rfl rfl rfl (wt rfl hb61) (fun _ => rfl) ?_
                obtain ⟨r35, hr35, hr⟩ := bind_s hr
                refine GS_c 30 (wt rfl hb61) rfl rfl (CA_of (as := [.agg (cT r9)]) rfl (oRightP_ok hr35)) ?_
                replace hvv34 := some_s hr
                have hr := hkv34
                refine GS_v (.bool v34) rfl rfl (evP_pickT rfl hb61 rfl) (congrArg AVal.bool hvv34) ?_
                refine GS_p rfl rfl rfl ?_
                refine GS_nil ?_
                refine L_ret ?_
                have hr := some_s hr
                subst hr
                exact ⟨_, rfl, _, rfl, rfl⟩
              · skip
                refine GS_s (wf rfl hb61) ?_
                refine GS_s (wf rfl hb61) ?_
                replace hvv34 := some_s hvv34
                refine GS_v (.bool v34) rfl rfl (evP_pickF rfl hb61 rfl) (congrArg AVal.bool hvv34) ?_
                refine GS_p rfl rfl rfl ?_
                refine GS_nil ?_
                refine L_ret ?_
                have hr := some_s hr
                subst hr
                exact ⟨_, rfl, _, rfl, rfl⟩
          · skip
            refine GS_s (wf rfl hb49) ?_
            refine GS_s (wf rfl hb49) ?_
            refine GS_s (wf rfl hb49) ?_
            replace hvv22 := some_s hvv22
            refine GS_v (.bool v22) rfl rfl (evP_pickF rfl hb49 rfl) (congrArg AVal.bool hvv22) ?_
            refine GS_p rfl rfl rfl ?_
            obtain ⟨v37, hvv37, hr⟩ := bind_s hr
            rcases cond_s hvv37 with ⟨hb54, hvv37⟩ | ⟨hb54, hvv37⟩
            · skip
              have hkv37 := hr
              have hr := hvv37
              refine GS_p rfl (wt rfl hb54) rfl ?_
              refine GS_h (d := some 56) rfl rfl rfl (wt rfl hb54) (fun _ => rfl) ?_
              refine GS_p rfl (wt rfl hb54) rfl ?_
              obtain ⟨v38, hvv38, hr⟩ := bind_s hr
              rcases cond_s hvv38 with ⟨hb57, hvv38⟩ | ⟨hb57, hvv38⟩
              · skip
                refine GS_s (wf rfl hb57) ?_
                replace hvv38 := some_s hvv38
                refine GS_v (.bool v38) rfl (wt rfl hb54) (evP_pickT rfl hb57 rfl) (congrArg AVal.bool hvv38) ?_
                replace hvv37 := some_s hr
                have hr := hkv37
                refine GS_v (.bool v37) rfl rfl (evP_pickT rfl hb54 rfl) (congrArg AVal.bool hvv37) ?_
                refine GS_p rfl rfl rfl ?_
                obtain ⟨v40, hvv40, hr⟩ := bind_s hr
                rcases cond_s hvv40 with ⟨hb61, hvv40⟩ | ⟨hb61, hvv40⟩
                · skip
                  have hkv40 := hr
                  have hr := hvv40
                  refine GS_h (d := some 62) (v := .agg (cT r9)) rfl rfl rfl (wt rfl hb61) (fun _ => rfl) ?_
                  obtain ⟨r41, hr41, hr⟩ := bind_s hr
                  refine GS_c 30 (wt rfl hb61) rfl rfl (CA_of (as := [.agg (cT r9)]) rfl (oRightP_ok hr41)) ?_
                  replace hvv40 := some_s hr
                  have hr := hkv40
                  refine GS_v (.bool v40) rfl rfl (evP_pickT rfl hb61 rfl) (congrArg AVal.bool hvv40) ?_
                  refine GS_p rfl rfl rfl ?_
                  refine GS_nil ?_
                  refine L_ret ?_
                  have hr := some_s hr
                  subst hr
                  exact ⟨_, rfl, _, rfl, rfl⟩
                · skip
                  refine GS_s (wf rfl hb61) ?_
                  refine GS_s (wf rfl hb61) ?_
                  replace hvv40 := some_s hvv40
                  refine GS_v (.bool v40) rfl rfl (evP_pickF rfl hb61 rfl) (congrArg AVal.bool hvv40) ?_
                  refine GS_p rfl rfl rfl ?_
                  refine GS_nil ?_
                  refine L_ret ?_
                  have hr := some_s hr
                  subst hr
                  exact ⟨_, rfl, _, rfl, rfl⟩
              · skip
                have hkv38 := hr
                have hr := hvv38
                refine GS_p rfl (wt rfl hb57) rfl ?_
                replace hvv38 := some_s hr
                have hr := hkv38
                refine GS_v (.bool v38) rfl (wt rfl hb54) (evP_pickF rfl hb57 rfl) (congrArg AVal.bool hvv38) ?_
                replace hvv37 := some_s hr
                have hr := hkv37
                refine GS_v (.bool v37) rfl rfl (evP_pickT rfl hb54 rfl) (congrArg AVal.bool hvv37) ?_
                refine GS_p rfl rfl rfl ?_
                obtain ⟨v43, hvv43, hr⟩ := bind_s hr
                rcases cond_s hvv43 with ⟨hb61, hvv43⟩ | ⟨hb61, hvv43⟩
                · skip
                  have hkv43 := hr
                  have hr := hvv43
                  refine GS_h (d := some 62) (v := .agg (cT r9)) rfl rfl rfl (wt rfl hb61) (fun _ => rfl) ?_
                  obtain ⟨r44, hr44, hr⟩ := bind_s hr
                  refine GS_c 30 (wt rfl hb61) rfl rfl (CA_of (as := [.agg (cT r9)]) rfl (oRightP_ok hr44)) ?_
                  replace hvv43 := some_s hr
                  have hr := hkv43
                  refine GS_v (.bool v43) rfl rfl (evP_pickT rfl hb61 rfl) (congrArg AVal.bool hvv43) ?_
                  refine GS_p rfl rfl rfl ?_
                  refine GS_nil ?_
                  refine L_ret ?_
                  have hr := some_s hr
                  subst hr
                  exact ⟨_, rfl, _, rfl, rfl⟩
                · skip
                  refine GS_s (wf rfl hb61) ?_
                  refine GS_s (wf rfl hb61) ?_
                  replace hvv43 := some_s hvv43
                  refine GS_v (.bool v43) rfl rfl (evP_pickF rfl hb61 rfl) (congrArg AVal.bool hvv43) ?_
                  refine GS_p rfl rfl rfl ?_
                  refine GS_nil ?_
                  refine L_ret ?_
                  have hr := some_s hr
                  subst hr
                  exact ⟨_, rfl, _, rfl, rfl⟩
            · skip
              refine GS_s (wf rfl hb54) ?_
              refine GS_s (wf rfl hb54) ?_
              refine GS_s (wf rfl hb54) ?_
              refine GS_s rfl ?_
              refine GS_s (wf rfl hb54) ?_
              replace hvv37 := some_s hvv37
              refine GS_v (.bool v37) rfl rfl (evP_pickF rfl hb54 rfl) (congrArg AVal.bool hvv37) ?_
              refine GS_p rfl rfl rfl ?_
              obtain ⟨v46, hvv46, hr⟩ := bind_s hr
              rcases cond_s hvv46 with ⟨hb61, hvv46⟩ | ⟨hb61, hvv46⟩
              · skip
                have hkv46 := hr
                have hr := hvv46
                refine GS_h (d := some 62) (v := .agg (cT r9)) rfl rfl rfl (wt rfl hb61) (fun _ => rfl) ?_
                obtain ⟨r47, hr47, hr⟩ := bind_s hr
                refine GS_c 30 (wt rfl hb61) rfl rfl (CA_of (as := [.agg (cT r9)]) rfl (oRightP_ok hr47)) ?_
                replace hvv46 := some_s hr
                have hr := hkv46
                refine GS_v (.bool v46) rfl rfl (evP_pickT rfl hb61 rfl) (congrArg AVal.bool hvv46) ?_
                refine GS_p rfl rfl rfl ?_
                refine GS_nil ?_
                refine L_ret ?_
                have hr := some_s hr
                subst hr
                exact ⟨_, rfl, _, rfl, rfl⟩
              · skip
                refine GS_s (wf rfl hb61) ?_
                refine GS_s (wf rfl hb61) ?_
                replace hvv46 := some_s hvv46
                refine GS_v (.bool v46) rfl rfl (evP_pickF rfl hb61 rfl) (congrArg AVal.bool hvv46) ?_
                refine GS_p rfl rfl rfl ?_
                refine GS_nil ?_
                refine L_ret ?_
                have hr := some_s hr
                subst hr
                exact ⟨_, rfl, _, rfl, rfl⟩
        · skip
          refine GS_s (wf rfl hb44) ?_
          refine GS_s (wf rfl hb44) ?_
          refine GS_s (wf rfl hb44) ?_
          replace hvv19 := some_s hvv19
          refine GS_v (.bool v19) rfl rfl (evP_pickF rfl hb44 rfl) (congrArg AVal.bool hvv19) ?_
          refine GS_p rfl rfl rfl ?_
          obtain ⟨v49, hvv49, hr⟩ := bind_s hr
          rcases cond_s hvv49 with ⟨hb49, hvv49⟩ | ⟨hb49, hvv49⟩
          · skip
            have hkv49 := hr
            have hr := hvv49
            refine GS_h (d := some 50) (v := .agg (cT r10)) rfl rfl rfl (wt rfl hb49) (fun _ => rfl) ?_
            refine GS_h (d := some 51) (v := .agg (cT t1)) rfl rfl rfl (wt rfl hb49) (fun _ => rfl) ?_
            obtain ⟨r50, hr50, hr⟩ := bind_s hr
            refine GS_c 32 (wt rfl hb49) rfl rfl (CA_of (as := [.agg (cT r10), .agg (cT t1)]) rfl (oSubP_ok hr50)) ?_
            replace hvv49 := some_s hr
            have hr := hkv49
            refine GS_v (.bool v49) rfl rfl (evP_pickT rfl hb49 rfl) (congrArg AVal.bool hvv49) ?_
            refine GS_p rfl rfl rfl ?_
            obtain ⟨v52, hvv52, hr⟩ := bind_s hr
            rcases cond_s hvv52 with ⟨hb54, hvv52⟩ | ⟨hb54, hvv52⟩
            · skip
              have hkv52 := hr
              have hr := hvv52
              refine GS_p rfl (wt rfl hb54) rfl ?_
              refine GS_h (d := some 56) rfl rfl rfl (wt rfl hb54) (fun _ => rfl) ?_
              refine GS_p rfl (wt rfl hb54) rfl ?_
              obtain ⟨v53, hvv53, hr⟩ := bind_s hr
              rcases cond_s hvv53 with ⟨hb57, hvv53⟩ | ⟨hb57, hvv53⟩
              · skip
                refine GS_s (wf rfl hb57) ?_
                replace hvv53 := some_s hvv53
                refine GS_v (.bool v53) rfl (wt rfl hb54) (evP_pickT rfl hb57 rfl) (congrArg AVal.bool hvv53) ?_
                replace hvv52 := some_s hr
                have hr := hkv52
                refine GS_v (.bool v52) rfl rfl (evP_pickT rfl hb54 rfl) (congrArg AVal.bool hvv52) ?_
                refine GS_p rfl rfl rfl ?_
                obtain ⟨v55, hvv55, hr⟩ := bind_s hr
                rcases cond_s hvv55 with ⟨hb61, hvv55⟩ | ⟨hb61, hvv55⟩
                · skip
                  have hkv55 := hr
                  have hr := hvv55
                  refine GS_h (d := some 62) (v := .agg (cT r9)) rfl rfl rfl (wt rfl hb61) (fun _ => rfl) ?_
                  obtain ⟨r56, hr56, hr⟩ := bind_s hr
                  refine GS_c 30 (wt rfl hb61) rfl rfl (CA_of (as := [.agg (cT r9)]) rfl (oRightP_ok hr56)) ?_
                  replace hvv55 := some_s hr
                  have hr := hkv55
                  refine GS_v (.bool v55) rfl rfl (evP_pickT rfl hb61 rfl) (congrArg AVal.bool hvv55) ?_
                  refine GS_p rfl rfl rfl ?_
                  refine GS_nil ?_
                  refine L_ret ?_
                  have hr := some_s hr
                  subst hr
                  exact ⟨_, rfl, _, rfl, rfl⟩
                · skip
                  refine GS_s (wf rfl hb61) ?_
                  refine GS_s (wf rfl hb61) ?_
                  replace hvv55 := some_s hvv55
                  refine GS_v (.bool v55) rfl rfl (evP_pickF rfl hb61 rfl) (congrArg AVal.bool hvv55) ?_
                  refine GS_p rfl rfl rfl ?_
                  refine GS_nil ?_
                  refine L_ret ?_
                  have hr := some_s hr
                  subst hr
                  exact ⟨_, rfl, _, rfl, rfl⟩
              · skip
                have hkv53 := hr
                have hr := hvv53
                refine GS_p rfl (wt rfl hb57) rfl ?_
                replace hvv53 := some_s hr
                have hr := hkv53
                refine GS_v (.bool v53) rfl (wt rfl hb54) (evP_pickF rfl hb57 rfl) (congrArg AVal.bool hvv53) ?_
                replace hvv52 := some_s hr
                have hr := hkv52
                refine GS_v (.bool v52) rfl rfl (evP_pickT rfl hb54 rfl) (congrArg AVal.bool hvv52) ?_
                refine GS_p rfl rfl rfl ?_
                obtain ⟨v58, hvv58, hr⟩ := bind_s hr
                rcases cond_s hvv58 with ⟨hb61, hvv58⟩ | ⟨hb61, hvv58⟩
                · skip
                  have hkv58 := hr
                  have hr := hvv58
                  refine GS_h (d := some 62) (v := .agg (cT r9)) rfl rfl rfl (wt rfl hb61) (fun _ => rfl) ?_
                  obtain ⟨r59, hr59, hr⟩ := bind_s hr
                  refine GS_c 30 (wt rfl hb61) rfl rfl (CA_of (as := [.agg (cT r9)]) rfl (oRightP_ok hr59)) ?_
                  replace hvv58 := some_s hr
                  have hr := hkv58
                  refine GS_v (.bool v58) rfl rfl (evP_pickT rfl hb61 rfl) (congrArg AVal.bool hvv58) ?_
                  refine GS_p rfl rfl rfl ?_
                  refine GS_nil ?_
                  refine L_ret ?_
                  have hr := some_s hr
                  subst hr
                  exact ⟨_, rfl, _, rfl, rfl⟩
                · skip
                  refine GS_s (wf rfl hb61) ?_
                  refine GS_s (wf rfl hb61) ?_
                  replace hvv58 := some_s hvv58
                  refine GS_v (.bool v58) rfl rfl (evP_pickF rfl hb61 rfl) (congrArg AVal.bool hvv58) ?_
                  refine GS_p rfl rfl rfl ?_
                  refine GS_nil ?_
                  refine L_ret ?_
                  have hr := some_s hr
                  subst hr
                  exact ⟨_, rfl, _, rfl, rfl⟩
            · skip
              refine GS_s (wf rfl hb54) ?_
              refine GS_s (wf rfl hb54) ?_
              refine GS_s (wf rfl hb54) ?_
              refine GS_s rfl ?_
              refine GS_s (wf rfl hb54) ?_
              replace hvv52 := some_s hvv52
              refine GS_v (.bool v52) rfl rfl (evP_pickF rfl hb54 rfl) (congrArg AVal.bool hvv52) ?_
              refine GS_p rfl rfl rfl ?_
              obtain ⟨v61, hvv61, hr⟩ := bind_s hr
              rcases cond_s hvv61 with ⟨hb61, hvv61⟩ | ⟨hb61, hvv61⟩
              · skip
                have hkv61 := hr
                have hr := hvv61
                refine GS_h (d := some 62) (v := .agg (cT r9)) rfl rfl rfl (wt rfl hb61) (fun _ => rfl) ?_
                obtain ⟨r62, hr62, hr⟩ := bind_s hr
                refine GS_c 30 (wt rfl hb61) rfl rfl (CA_of (as := [.agg (cT r9)]) rfl (oRightP_ok hr62)) ?_
                replace hvv61 := some_s hr
                have hr := hkv61
                refine GS_v (.bool v61) rfl rfl (evP_pickT rfl hb61 rfl) (congrArg AVal.bool hvv61) ?_
                refine GS_p rfl rfl rfl ?_
                refine GS_nil ?_
                refine L_ret ?_
                have hr := some_s hr
                subst hr
                exact ⟨_, rfl, _, rfl, rfl⟩
              · skip
                refine GS_s (wf rfl hb61) ?_
                refine GS_s (wf rfl hb61) ?_
                replace hvv61 := some_s hvv61
                refine GS_v (.bool v61) rfl rfl (evP_pickF rfl hb61 rfl) (congrArg AVal.bool hvv61) ?_
                refine GS_p rfl rfl rfl ?_
                refine GS_nil ?_
                refine L_ret ?_
                have hr := some_s hr
                subst hr
                exact ⟨_, rfl, _, rfl, rfl⟩
          · skip
            refine GS_s (wf rfl hb49) ?_
            refine GS_s (wf rfl hb49) ?_
            refine GS_s (wf rfl hb49) ?_
            replace hvv49 := some_s hvv49
            refine GS_v (.bool v49) rfl rfl (evP_pickF rfl hb49 rfl) (congrArg AVal.bool hvv49) ?_
            refine GS_p rfl rfl rfl ?_
            obtain ⟨v64, hvv64, hr⟩ := bind_s hr
            rcases cond_s hvv64 with ⟨hb54, hvv64⟩ | ⟨hb54, hvv64⟩
            · skip
              have hkv64 := hr
              have hr := hvv64
              refine GS_p rfl (wt rfl hb54) rfl ?_
              refine GS_h (d := some 56) rfl rfl rfl (wt rfl hb54) (fun _ => rfl) ?_
              refine GS_p rfl (wt rfl hb54) rfl ?_
              obtain ⟨v65, hvv65, hr⟩ := bind_s hr
              rcases cond_s hvv65 with ⟨hb57, hvv65⟩ | ⟨hb57, hvv65⟩
              · skip
                refine GS_s (wf rfl hb57) ?_
                replace hvv65 := some_s hvv65
                refine GS_v (.bool v65) rfl (wt rfl hb54) (evP_pickT rfl hb57 rfl) (congrArg AVal.bool hvv65) ?_
                replace hvv64 := some_s hr
                have hr := hkv64
                refine GS_v (.bool v64) rfl rfl (evP_pickT rfl hb54 rfl) (congrArg AVal.bool hvv64) ?_
                refine GS_p rfl rfl rfl ?_
                obtain ⟨v67, hvv67, hr⟩ := bind_s hr
                rcases cond_s hvv67 with ⟨hb61, hvv67⟩ | ⟨hb61, hvv67⟩
                · skip
                  have hkv67 := hr
                  have hr := hvv67
                  refine GS_h (d := some 62) (v := .agg (cT r9)) rfl rfl rfl (wt rfl hb61) (fun _ => rfl) ?_
                  obtain ⟨r68, hr68, hr⟩ := bind_s hr
                  refine GS_c 30 (wt rfl hb61) rfl rfl (CA_of (as := [.agg (cT r9)]) rfl (oRightP_ok hr68)) ?_
                  replace hvv67 := some_s hr
                  have hr := hkv67
                  refine GS_v (.bool v67) rfl rfl (evP_pickT rfl hb61 rfl) (congrArg AVal.bool hvv67) ?_
                  refine GS_p rfl rfl rfl ?_
                  refine GS_nil ?_
                  refine L_ret ?_
                  have hr := some_s hr
                  subst hr
                  exact ⟨_, rfl, _, rfl, rfl⟩
                · skip
                  refine GS_s (wf rfl hb61) ?_
                  refine GS_s (wf rfl hb61) ?_
                  replace hvv67 := some_s hvv67
                  refine GS_v (.bool v67) rfl rfl (evP_pickF rfl hb61 rfl) (congrArg AVal.bool hvv67) ?_
                  refine GS_p rfl rfl rfl ?_
                  refine GS_nil ?_
                  refine L_ret ?_
                  have hr := some_s hr
                  subst hr
                  exact ⟨_, rfl, _, rfl, rfl⟩
              · skip
                have hkv65 := hr
                have hr := hvv65
                refine GS_p rfl (wt rfl hb57) rfl ?_
                replace hvv65 := some_s hr
                have hr := hkv65
                refine GS_v (.bool v65) rfl (wt rfl hb54) (evP_pickF rfl hb57 rfl) (congrArg AVal.bool hvv65) ?_
                replace hvv64 := some_s hr
                have hr := hkv64
                refine GS_v (.bool v64) rfl rfl (evP_pickT rfl hb54 rfl) (congrArg AVal.bool hvv64) ?_
                refine GS_p rfl rfl rfl ?_
                obtain ⟨v70, hvv70, hr⟩ := bind_s hr
                rcases cond_s hvv70 with ⟨hb61, hvv70⟩ | ⟨hb61, hvv70⟩
                · skip
                  have hkv70 := hr
                  have hr := hvv70
                  refine GS_h (d := some 62) (v := .agg (cT r9)) rfl rfl rfl (wt rfl hb61) (fun _ => rfl) ?_
                  obtain ⟨r71, hr71, hr⟩ := bind_s hr
                  refine GS_c 30 (wt rfl hb61) rfl rfl (CA_of (as := [.agg (cT r9)]) rfl (oRightP_ok hr71)) ?_
                  replace hvv70 := some_s hr
                  have hr := hkv70
                  refine GS_v (.bool v70) rfl rfl (evP_pickT rfl hb61 rfl) (congrArg AVal.bool hvv70) ?_
                  refine GS_p rfl rfl rfl ?_
                  refine GS_nil ?_
                  refine L_ret ?_
                  have hr := some_s hr
                  subst hr
                  exact ⟨_, rfl, _, rfl, rfl⟩
                · skip
                  refine GS_s (wf rfl hb61) ?_
                  refine GS_s (wf rfl hb61) ?_
                  replace hvv70 := some_s hvv70
                  refine GS_v (.bool v70) rfl rfl (evP_pickF rfl hb61 rfl) (congrArg AVal.bool hvv70) ?_
                  refine GS_p rfl rfl rfl ?_
                  refine GS_nil ?_
                  refine L_ret ?_
                  have hr := some_s hr
                  subst hr
                  exact ⟨_, rfl, _, rfl, rfl⟩
            · skip
              refine GS_s (wf rfl hb54) ?_
              refine GS_s (wf rfl hb54) ?_
              refine GS_s (wf rfl hb54) ?_
              refine GS_s rfl ?_
              refine GS_s (wf rfl hb54) ?_
              replace hvv64 := some_s hvv64
              refine GS_v (.bool v64) rfl rfl (evP_pickF rfl hb54 rfl) (congrArg AVal.bool hvv64) ?_
              refine GS_p rfl rfl rfl ?_
              obtain ⟨v73, hvv73, hr⟩ := bind_s hr
              rcases cond_s hvv73 with ⟨hb61, hvv73⟩ | ⟨hb61, hvv73⟩
              · skip
                have hkv73 := hr
                have hr := hvv73
                refine GS_h (d := some 62) (v := .agg (cT r9)) rfl rfl rfl (wt rfl hb61) (fun _ => rfl) ?_
                obtain ⟨r74, hr74, hr⟩ := bind_s hr
                refine GS_c 30 (wt rfl hb61) rfl rfl (CA_of (as := [.agg (cT r9)]) rfl (oRightP_ok hr74)) ?_
                replace hvv73 := some_s hr
                have hr := hkv73
                refine GS_v (.bool v73) rfl rfl (evP_pickT rfl hb61 rfl) (congrArg AVal.bool hvv73) ?_
                refine GS_p rfl rfl rfl ?_
                refine GS_nil ?_
                refine L_ret ?_
                have hr := some_s hr
                subst hr
                exact ⟨_, rfl, _, rfl, rfl⟩
              · skip
                refine GS_s (wf rfl hb61) ?_
                refine GS_s (wf rfl hb61) ?_
                replace hvv73 := some_s hvv73
                refine GS_v (.bool v73) rfl rfl (evP_pickF rfl hb61 rfl) (congrArg AVal.bool hvv73) ?_
                refine GS_p rfl rfl rfl ?_
                refine GS_nil ?_
                refine L_ret ?_
                have hr := some_s hr
                subst hr
                exact ⟨_, rfl, _, rfl, rfl⟩
      · skip
        refine GS_s (wf rfl hb34) ?_
        refine GS_s (wf rfl hb34) ?_
        refine GS_s (wf rfl hb34) ?_
        refine GS_s (wf rfl hb34) ?_
        refine GS_s (wf rfl hb34) ?_
        refine GS_s (wf rfl hb34) ?_
        refine GS_s (wf rfl hb34) ?_
        refine GS_s (wf rfl hb34) ?_
        replace hvv15 := some_s hvv15
        refine GS_v (.bool v15) rfl rfl (evP_pickF rfl hb34 rfl) (congrArg AVal.bool hvv15) ?_
        refine GS_p rfl rfl rfl ?_
        obtain ⟨v76, hvv76, hr⟩ := bind_s hr
        rcases cond_s hvv76 with ⟨hb44, hvv76⟩ | ⟨hb44, hvv76⟩
        · skip
          have hkv76 := hr
          have hr := hvv76
          refine GS_h (d := some 45) (v := .agg (cT r9)) rfl rfl rfl (wt rfl hb44) (fun _ => rfl) ?_
          refine GS_h (d := some 46) (v := .agg (cT t1)) rfl rfl rfl (wt rfl hb44) (fun _ => rfl) ?_
          obtain ⟨r77, hr77, hr⟩ := bind_s hr
          refine GS_c 32 (wt rfl hb44) rfl rfl (CA_of (as := [.agg (cT r9), .agg (cT t1)]) rfl (oSubP_ok hr77)) ?_
          replace hvv76 := some_s hr
          have hr := hkv76
          refine GS_v (.bool v76) rfl rfl (evP_pickT rfl hb44 rfl) (congrArg AVal.bool hvv76) ?_
          refine GS_p rfl rfl rfl ?_
          obtain ⟨v79, hvv79, hr⟩ := bind_s hr
          rcases cond_s hvv79 with ⟨hb49, hvv79⟩ | ⟨hb49, hvv79⟩
          · skip
            have hkv79 := hr
            have hr := hvv79
            refine GS_h (d := some 50) (v := .agg (cT r10)) rfl rfl rfl (wt rfl hb49) (fun _ => rfl) ?_
            refine GS_h (d := some 51) (v := .agg (cT t1)) rfl rfl rfl (wt rfl hb49) (fun _ => rfl) ?_
            obtain ⟨r80, hr80, hr⟩ := bind_s hr
            refine GS_c 32 (wt rfl hb49) rfl rfl (CA_of (as := [.agg (cT r10), .agg (cT t1)]) rfl (oSubP_ok hr80)) ?_
            replace hvv79 := some_s hr
            have hr := hkv79
            refine GS_v (.bool v79) rfl rfl (evP_pickT rfl hb49 rfl) (congrArg AVal.bool hvv79) ?_
            refine GS_p rfl rfl rfl ?_
            obtain ⟨v82, hvv82, hr⟩ := bind_s hr
            rcases cond_s hvv82 with ⟨hb54, hvv82⟩ | ⟨hb54, hvv82⟩
            · skip
              have hkv82 := hr
              have hr := hvv82
              refine GS_p rfl (wt rfl hb54) rfl ?_
              refine GS_h (d := some 56) rfl rfl rfl (wt rfl hb54) (fun _ => rfl) ?_
              refine GS_p rfl (wt rfl hb54) rfl ?_
              obtain ⟨v83, hvv83, hr⟩ := bind_s hr
              rcases cond_s hvv83 with ⟨hb57, hvv83⟩ | ⟨hb57, hvv83⟩
              · skip
                refine GS_s (wf rfl hb57) ?_
                replace hvv83 := some_s hvv83
                refine GS_v (.bool v83) rfl (wt rfl hb54) (evP_pickT rfl hb57 rfl) (congrArg AVal.bool hvv83) ?_
                replace hvv82 := some_s hr
                have hr := hkv82
                refine GS_v (.bool v82) rfl rfl (evP_pickT rfl hb54 rfl) (congrArg AVal.bool hvv82) ?_
                refine GS_p rfl rfl rfl ?_
                obtain ⟨v85, hvv85, hr⟩ := bind_s hr
                rcases cond_s hvv85 with ⟨hb61, hvv85⟩ | ⟨hb61, hvv85⟩
                · skip
                  have hkv85 := hr
                  have hr := hvv85
                  refine GS_h (d := some 62) (v := .agg (cT r9)) rfl rfl rfl (wt rfl hb61) (fun _ => rfl) ?_
                  obtain ⟨r86, hr86, hr⟩ := bind_s hr
                  refine GS_c 30 (wt rfl hb61) rfl rfl (CA_of (as := [.agg (cT r9)]) rfl (oRightP_ok hr86)) ?_
                  replace hvv85 := some_s hr
                  have hr := hkv85
                  refine GS_v (.bool v85) rfl rfl (evP_pickT rfl hb61 rfl) (congrArg AVal.bool hvv85) ?_
                  refine GS_p rfl rfl rfl ?_
                  refine GS_nil ?_
                  refine L_ret ?_
                  have hr := some_s hr
                  subst hr
                  exact ⟨_, rfl, _, rfl, rfl⟩
                · skip
                  refine GS_s (wf rfl hb61) ?_
                  refine GS_s (wf rfl hb61) ?_
                  replace hvv85 := some_s hvv85
                  refine GS_v (.bool v85) rfl rfl (evP_pickF rfl hb61 rfl) (congrArg AVal.bool hvv85) ?_
                  refine GS_p rfl rfl rfl ?_
                  refine GS_nil ?_
                  refine L_ret ?_
                  have hr := some_s hr
                  subst hr
                  exact ⟨_, rfl, _, rfl, rfl⟩
              · skip
                have hkv83 := hr
                have hr := hvv83
                refine GS_p rfl (wt rfl hb57) rfl ?_
                replace hvv83 := some_s hr
                have hr := hkv83
                refine GS_v (.bool v83) rfl (wt rfl hb54) (evP_pickF rfl hb57 rfl) (congrArg AVal.bool hvv83) ?_
                replace hvv82 := some_s hr
                have hr := hkv82
                refine GS_v (.bool v82) rfl rfl (evP_pickT rfl hb54 rfl) (congrArg AVal.bool hvv82) ?_
                refine GS_p rfl rfl rfl ?_
                obtain ⟨v88, hvv88, hr⟩ := bind_s hr
                rcases cond_s hvv88 with ⟨hb61, hvv88⟩ | ⟨hb61, hvv88⟩
                · skip
                  have hkv88 := hr
                  have hr := hvv88
                  refine GS_h (d := some 62) (v := .agg (cT r9)) rfl rfl rfl (wt rfl hb61) (fun _ => rfl) ?_
                  obtain ⟨r89, hr89, hr⟩ := bind_s hr
                  refine GS_c 30 (wt rfl hb61) rfl rfl (CA_of (as := [.agg (cT r9)]) rfl (oRightP_ok hr89)) ?_
                  replace hvv88 := some_s hr
                  have hr := hkv88
                  refine GS_v (.bool v88) rfl rfl (evP_pickT rfl hb61 rfl) (congrArg AVal.bool hvv88) ?_
                  refine GS_p rfl rfl rfl ?_
                  refine GS_nil ?_
                  refine L_ret ?_
                  have hr := some_s hr
                  subst hr
                  exact ⟨_, rfl, _, rfl, rfl⟩
                · skip
                  refine GS_s (wf rfl hb61) ?_
                  refine GS_s (wf rfl hb61) ?_
                  replace hvv88 := some_s hvv88
                  refine GS_v (.bool v88) rfl rfl (evP_pickF rfl hb61 rfl) (congrArg AVal.bool hvv88) ?_
                  refine GS_p rfl rfl rfl ?_
                  refine GS_nil ?_
                  refine L_ret ?_
                  have hr := some_s hr
                  subst hr
                  exact ⟨_, rfl, _, rfl, rfl⟩
            · skip
              refine GS_s (wf rfl hb54) ?_
              refine GS_s (wf rfl hb54) ?_
              refine GS_s (wf rfl hb54) ?_
              refine GS_s rfl ?_
              refine GS_s (wf rfl hb54) ?_
              replace hvv82 := some_s hvv82
              refine GS_v (.bool v82) rfl rfl (evP_pickF rfl hb54 rfl) (congrArg AVal.bool hvv82) ?_
              refine GS_p rfl rfl rfl ?_
              obtain ⟨v91, hvv91, hr⟩ := bind_s hr
              rcases cond_s hvv91 with ⟨hb61, hvv91⟩ | ⟨hb61, hvv91⟩
              · skip
                have hkv91 := hr
                have hr := hvv91
                refine GS_h (d := some 62) (v := .agg (cT r9)) rfl rfl rfl (wt rfl hb61) (fun _ => rfl) ?_
                obtain ⟨r92, hr92, hr⟩ := bind_s hr
                refine GS_c 30 (wt rfl hb61) rfl rfl (CA_of (as := [.agg (cT r9)]) rfl (oRightP_ok hr92)) ?_
                replace hvv91 := some_s hr
                have hr := hkv91
                refine GS_v (.bool v91) rfl rfl (evP_pickT rfl hb61 rfl) (congrArg AVal.bool hvv91) ?_
                refine GS_p rfl rfl rfl ?_
                refine GS_nil ?_
                refine L_ret ?_
                have hr := some_s hr
                subst hr
                exact ⟨_, rfl, _, rfl, rfl⟩
              · skip
                refine GS_s (wf rfl hb61) ?_
                refine GS_s (wf rfl hb61) ?_
                replace hvv91 := some_s hvv91
                refine GS_v (.bool v91) rfl rfl (evP_pickF rfl hb61 rfl) (congrArg AVal.bool hvv91) ?_
                refine GS_p rfl rfl rfl ?_
                refine GS_nil ?_
                refine L_ret ?_
                have hr := some_s hr
                subst hr
                exact ⟨_, rfl, _, rfl, rfl⟩
          · skip
            refine GS_s (wf rfl hb49) ?_
            refine GS_s (wf rfl hb49) ?_
            refine GS_s (wf rfl hb49) ?_
            replace hvv79 := some_s hvv79
            refine GS_v (.bool v79) rfl rfl (evP_pickF rfl hb49 rfl) (congrArg AVal.bool hvv79) ?_
            refine GS_p rfl rfl rfl ?_
            obtain ⟨v94, hvv94, hr⟩ := bind_s hr
            rcases cond_s hvv94 with ⟨hb54, hvv94⟩ | ⟨hb54, hvv94⟩
            · skip
              have hkv94 := hr
              have hr := hvv94
              refine GS_p rfl (wt rfl hb54) rfl ?_
              refine GS_h (d := some 56) rfl rfl rfl (wt rfl hb54) (fun _ => rfl) ?_
              refine GS_p rfl (wt rfl hb54) rfl ?_
              obtain ⟨v95, hvv95, hr⟩ := bind_s hr
              rcases cond_s hvv95 with ⟨hb57, hvv95⟩ | ⟨hb57, hvv95⟩
              · skip
                refine GS_s (wf rfl hb57) ?_
                replace hvv95 := some_s hvv95
                refine GS_v (.bool v95) rfl (wt rfl hb54) (evP_pickT rfl hb57 rfl) (congrArg AVal.bool hvv95) ?_
                replace hvv94 := some_s hr
                have hr := hkv94
                refine GS_v (.bool v94) rfl rfl (evP_pickT rfl hb54 rfl) (congrArg AVal.bool hvv94) ?_
                refine GS_p rfl rfl rfl ?_
                obtain ⟨v97, hvv97, hr⟩ := bind_s hr
                rcases cond_s hvv97 with ⟨hb61, hvv97⟩ | ⟨hb61, hvv97⟩
                · skip
                  have hkv97 := hr
                  have hr := hvv97
                  refine GS_h (d := some 62) (v := .agg (cT r9)) rfl rfl rfl (wt rfl hb61) (fun _ => rfl) ?_
                  obtain ⟨r98, hr98, hr⟩ := bind_s hr
                  refine GS_c 30 (wt rfl hb61) rfl rfl (CA_of (as := [.agg (cT r9)]) rfl (oRightP_ok hr98)) ?_
                  replace hvv97 := some_s hr
                  have hr := hkv97
                  refine GS_v (.bool v97) rfl rfl (evP_pickT rfl hb61 rfl) (congrArg AVal.bool hvv97) ?_
                  refine GS_p rfl rfl rfl ?_
                  refine GS_nil ?_
                  refine L_ret ?_
                  have hr := some_s hr
                  subst hr
                  exact ⟨_, rfl, _, rfl, rfl⟩
                · skip
                  refine GS_s (wf rfl hb61) ?_
                  refine GS_s (wf rfl hb61) ?_
                  replace hvv97 := some_s hvv97
                  refine GS_v (.bool v97) rfl rfl (evP_pickF rfl hb61 rfl) (congrArg AVal.bool hvv97) ?_
                  refine GS_p rfl rfl rfl ?_
                  refine GS_nil ?_
                  refine L_ret ?_
                  have hr := some_s hr
                  subst hr
                  exact ⟨_, rfl, _, rfl, rfl⟩
              · skip
                have hkv95 := hr
                have hr := hvv95
                refine GS_p rfl (wt rfl hb57) rfl ?_
                replace hvv95 := some_s hr
                have hr := hkv95
                refine GS_v (.bool v95) rfl (wt rfl hb54) (evP_pickF rfl hb57 rfl) (congrArg AVal.bool hvv95) ?_
                replace hvv94 := some_s hr
                have hr := hkv94
                refine GS_v (.bool v94) rfl rfl (evP_pickT rfl hb54 rfl) (congrArg AVal.bool hvv94) ?_
                refine GS_p rfl rfl rfl ?_
                obtain ⟨v100, hvv100, hr⟩ := bind_s hr
                rcases cond_s hvv100 with ⟨hb61, hvv100⟩ | ⟨hb61, hvv100⟩
                · skip
                  have hkv100 := hr
                  have hr := hvv100
                  refine GS_h (d := some 62) (v := .agg (cT r9)) rfl rfl rfl (wt rfl hb61) (fun _ => rfl) ?_
                  obtain ⟨r101, hr101, hr⟩ := bind_s hr
                  refine GS_c 30 (wt rfl hb61) rfl rfl (CA_of (as := [.agg (cT r9)]) rfl (oRightP_ok hr101)) ?_
                  replace hvv100 := some_s hr
                  have hr := hkv100
                  refine GS_v (.bool v100) rfl rfl (evP_pickT rfl hb61 rfl) (congrArg AVal.bool hvv100) ?_
                  refine GS_p rfl rfl rfl ?_
                  refine GS_nil ?_
                  refine L_ret ?_
                  have hr := some_s hr
                  subst hr
                  exact ⟨_, rfl, _, rfl, rfl⟩
                · skip
                  refine GS_s (wf rfl hb61) ?_
                  refine GS_s (wf rfl hb61) ?_
                  replace hvv100 := some_s hvv100
                  refine GS_v (.bool v100) rfl rfl (evP_pickF rfl hb61 rfl) (congrArg AVal.bool hvv100) ?_
                  refine GS_p rfl rfl rfl ?_
                  refine GS_nil ?_
                  refine L_ret ?_
                  have hr := some_s hr
                  subst hr
                  exact ⟨_, rfl, _, rfl, rfl⟩
            · skip
              refine GS_s (wf rfl hb54) ?_
              refine GS_s (wf rfl hb54) ?_
              refine GS_s (wf rfl hb54) ?_
              refine GS_s rfl ?_
              refine GS_s (wf rfl hb54) ?_
              replace hvv94 := some_s hvv94
              refine GS_v (.bool v94) rfl rfl (evP_pickF rfl hb54 rfl) (congrArg AVal.bool hvv94) ?_
              refine GS_p rfl rfl rfl ?_
              obtain ⟨v103, hvv103, hr⟩ := bind_s hr
              rcases cond_s hvv103 with ⟨hb61, hvv103⟩ | ⟨hb61, hvv103⟩
              · skip
                have hkv103 := hr
                have hr := hvv103
                refine GS_h (d := some 62) (v := .agg (cT r9)) rfl rfl rfl (wt rfl hb61) (fun _ => rfl) ?_
                obtain ⟨r104, hr104, hr⟩ := bind_s hr
                refine GS_c 30 (wt rfl hb61) rfl rfl (CA_of (as := [.agg (cT r9)]) rfl (oRightP_ok hr104)) ?_
                replace hvv103 := some_s hr
                have hr := hkv103
                refine GS_v (.bool v103) rfl rfl (evP_pickT rfl hb61 rfl) (congrArg AVal.bool hvv103) ?_
                refine GS_p rfl rfl rfl ?_
                refine GS_nil ?_
                refine L_ret ?_
                have hr := some_s hr
                subst hr
                exact ⟨_, rfl, _, rfl, rfl⟩
              · skip
                refine GS_s (wf rfl hb61) ?_
                refine GS_s (wf rfl hb61) ?_
                replace hvv103 := some_s hvv103
                refine GS_v (.bool v103) rfl rfl (evP_pickF rfl hb61 rfl) (congrArg AVal.bool hvv103) ?_
                refine GS_p rfl rfl rfl ?_
                refine GS_nil ?_
                refine L_ret ?_
                have hr := some_s hr
                subst hr
                exact ⟨_, rfl, _, rfl, rfl⟩
        · skip
          refine GS_s (wf rfl hb44) ?_
          refine GS_s (wf rfl hb44) ?_
          refine GS_s (wf rfl hb44) ?_
          replace hvv76 := some_s hvv76
          refine GS_v (.bool v76) rfl rfl (evP_pickF rfl hb44 rfl) (congrArg AVal.bool hvv76) ?_
          refine GS_p rfl rfl rfl ?_
          obtain ⟨v106, hvv106, hr⟩ := bind_s hr
          rcases cond_s hvv106 with ⟨hb49, hvv106⟩ | ⟨hb49, hvv106⟩
          · skip
            have hkv106 := hr
            have hr := hvv106
            refine GS_h (d := some 50) (v := .agg (cT r10)) rfl rfl rfl (wt rfl hb49) (fun _ => rfl) ?_
            refine GS_h (d := some 51) (v := .agg (cT t1)) rfl rfl rfl (wt rfl hb49) (fun _ => rfl) ?_
            obtain ⟨r107, hr107, hr⟩ := bind_s hr
            refine GS_c 32 (wt rfl hb49) rfl rfl (CA_of (as := [.agg (cT r10), .agg (cT t1)]) rfl (oSubP_ok hr107)) ?_
            replace hvv106 := some_s hr
            have hr := hkv106
            refine GS_v (.bool v106) rfl rfl (evP_pickT rfl hb49 rfl) (congrArg AVal.bool hvv106) ?_
            refine GS_p rfl rfl rfl ?_
            obtain ⟨v109, hvv109, hr⟩ := bind_s hr
            rcases cond_s hvv109 with ⟨hb54, hvv109⟩ | ⟨hb54, hvv109⟩
            · skip
              have hkv109 := hr
              have hr := hvv109
              refine GS_p rfl (wt rfl hb54) rfl ?_
              refine GS_h (d := some 56) rfl rfl rfl (wt rfl hb54) (fun _ => rfl) ?_
              refine GS_p rfl (wt rfl hb54) rfl ?_
              obtain ⟨v110, hvv110, hr⟩ := bind_s hr
              rcases cond_s hvv110 with ⟨hb57, hvv110⟩ | ⟨hb57, hvv110⟩
              · skip
                refine GS_s (wf rfl hb57) ?_
                replace hvv110 := some_s hvv110
                refine GS_v (.bool v110) rfl (wt rfl hb54) (evP_pickT rfl hb57 rfl) (congrArg AVal.bool hvv110) ?_
                replace hvv109 := some_s hr
                have hr := hkv109
                refine GS_v (.bool v109) rfl rfl (evP_pickT rfl hb54 rfl) (congrArg AVal.bool hvv109) ?_
                refine GS_p rfl rfl rfl ?_
                obtain ⟨v112, hvv112, hr⟩ := bind_s hr
                rcases cond_s hvv112 with ⟨hb61, hvv112⟩ | ⟨hb61, hvv112⟩
                · skip
                  have hkv112 := hr
                  have hr := hvv112
                  refine GS_h (d := some 62) (v := .agg (cT r9)) rfl rfl rfl (wt rfl hb61) (fun _ => rfl) ?_
                  obtain ⟨r113, hr113, hr⟩ := bind_s hr
                  refine GS_c 30 (wt rfl hb61) rfl rfl (CA_of (as := [.agg (cT r9)]) rfl (oRightP_ok hr113)) ?_
                  replace hvv112 := some_s hr
                  have hr := hkv112
                  refine GS_v (.bool v112) rfl rfl (evP_pickT rfl hb61 rfl) (congrArg AVal.bool hvv112) ?_
                  refine GS_p rfl rfl rfl ?_
                  refine GS_nil ?_
                  refine L_ret ?_
                  have hr := some_s hr
                  subst hr
                  exact ⟨_, rfl, _, rfl, rfl⟩
                · skip
                  refine GS_s (wf rfl hb61) ?_
                  refine GS_s (wf rfl hb61) ?_
                  replace hvv112 := some_s hvv112
                  refine GS_v (.bool v112) rfl rfl (evP_pickF rfl hb61 rfl) (congrArg AVal.bool hvv112) ?_
                  refine GS_p rfl rfl rfl ?_
                  refine GS_nil ?_
                  refine L_ret ?_
                  have hr := some_s hr
                  subst hr
                  exact ⟨_, rfl, _, rfl, rfl⟩
              · skip
                have hkv110 := hr
                have hr := hvv110
                refine GS_p rfl (wt rfl hb57) rfl ?_
                replace hvv110 := some_s hr
                have hr := hkv110
                refine GS_v (.bool v110) rfl (wt rfl hb54) (evP_pickF rfl hb57 rfl) (congrArg AVal.bool hvv110) ?_
                replace hvv109 := some_s hr
                have hr := hkv109
                refine GS_v (.bool v109) rfl rfl (evP_pickT rfl hb54 rfl) (congrArg AVal.bool hvv109) ?_
                refine GS_p rfl rfl rfl ?_
                obtain ⟨v115, hvv115, hr⟩ := bind_s hr
                rcases cond_s hvv115 with ⟨hb61, hvv115⟩ | ⟨hb61, hvv115⟩
                · skip
                  have hkv115 := hr
                  have hr := hvv115
                  refine GS_h (d := some 62) (v := .agg (cT r9)) rfl rfl rfl (wt rfl hb61) (fun _ => rfl) ?_
                  obtain ⟨r116, hr116, hr⟩ := bind_s hr
                  refine GS_c 30 (wt rfl hb61) rfl rfl (CA_of (as := [.agg (cT r9)]) rfl (oRightP_ok hr116)) ?_
                  replace hvv115 := some_s hr
                  have hr := hkv115
                  refine GS_v (.bool v115) rfl rfl (evP_pickT rfl hb61 rfl) (congrArg AVal.bool hvv115) ?_
                  refine GS_p rfl rfl rfl ?_
                  refine GS_nil ?_
                  refine L_ret ?_
                  have hr := some_s hr
                  subst hr
                  exact ⟨_, rfl, _, rfl, rfl⟩
                · skip
                  refine GS_s (wf rfl hb61) ?_
                  refine GS_s (wf rfl hb61) ?_
                  replace hvv115 := some_s hvv115
                  refine GS_v (.bool v115) rfl rfl (evP_pickF rfl hb61 rfl) (congrArg AVal.bool hvv115) ?_
                  refine GS_p rfl rfl rfl ?_
                  refine GS_nil ?_
                  refine L_ret ?_
                  have hr := some_s hr
                  subst hr
                  exact ⟨_, rfl, _, rfl, rfl⟩
            · skip
              refine GS_s (wf rfl hb54) ?_
              refine GS_s (wf rfl hb54) ?_
              refine GS_s (wf rfl hb54) ?_
              refine GS_s rfl ?_
              refine GS_s (wf rfl hb54) ?_
              replace hvv109 := some_s hvv109
              refine GS_v (.bool v109) rfl rfl (evP_pickF rfl hb54 rfl) (congrArg AVal.bool hvv109) ?_
              refine GS_p rfl rfl rfl ?_
              obtain ⟨v118, hvv118, hr⟩ := bind_s hr
              rcases cond_s hvv118 with ⟨hb61, hvv118⟩ | ⟨hb61, hvv118⟩
              · skip
                have hkv118 := hr
                have hr := hvv118
                refine GS_h (d := some 62) (v := .agg (cT r9)) rfl rfl rfl (wt rfl hb61) (fun _ => rfl) ?_
                obtain ⟨r119, hr119, hr⟩ := bind_s hr
                refine GS_c 30 (wt rfl hb61) rfl rfl (CA_of (as := [.agg (cT r9)]) rfl (oRightP_ok hr119)) ?_
                replace hvv118 := some_s hr
                have hr := hkv118
                refine GS_v (.bool v118) rfl rfl (evP_pickT rfl hb61 rfl) (congrArg AVal.bool hvv118) ?_
                refine GS_p rfl rfl rfl ?_
                refine GS_nil ?_
                refine L_ret ?_
                have hr := some_s hr
                subst hr
                exact ⟨_, rfl, _, rfl, rfl⟩
              · skip
                refine GS_s (wf rfl hb61) ?_
                refine GS_s (wf rfl hb61) ?_
                replace hvv118 := some_s hvv118
                refine GS_v (.bool v118) rfl rfl (evP_pickF rfl hb61 rfl) (congrArg AVal.bool hvv118) ?_
                refine GS_p rfl rfl rfl ?_
                refine GS_nil ?_
                refine L_ret ?_
                have hr := some_s hr
                subst hr
                exact ⟨_, rfl, _, rfl, rfl⟩
          · skip
            refine GS_s (wf rfl hb49) ?_
            refine GS_s (wf rfl hb49) ?_
            refine GS_s (wf rfl hb49) ?_
            replace hvv106 := some_s hvv106
            refine GS_v (.bool v106) rfl rfl (evP_pickF rfl hb49 rfl) (congrArg AVal.bool hvv106) ?_
            refine GS_p rfl rfl rfl ?_
            obtain ⟨v121, hvv121, hr⟩ := bind_s hr
            rcases cond_s hvv121 with ⟨hb54, hvv121⟩ | ⟨hb54, hvv121⟩
            · skip
              have hkv121 := hr
              have hr := hvv121
              refine GS_p rfl (wt rfl hb54) rfl ?_
              refine GS_h (d := some 56) rfl rfl rfl (wt rfl hb54) (fun _ => rfl) ?_
              refine GS_p rfl (wt rfl hb54) rfl ?_
              obtain ⟨v122, hvv122, hr⟩ := bind_s hr
              rcases cond_s hvv122 with ⟨hb57, hvv122⟩ | ⟨hb57, hvv122⟩
              · skip
                refine GS_s (wf rfl hb57) ?_
                replace hvv122 := some_s hvv122
                refine GS_v (.bool v122) rfl (wt rfl hb54) (evP_pickT rfl hb57 rfl) (congrArg AVal.bool hvv122) ?_
                replace hvv121 := some_s hr
                have hr := hkv121
                refine GS_v (.bool v121) rfl rfl (evP_pickT rfl hb54 rfl) (congrArg AVal.bool hvv121) ?_
                refine GS_p rfl rfl rfl ?_
                obtain ⟨v124, hvv124, hr⟩ := bind_s hr
                rcases cond_s hvv124 with ⟨hb61, hvv124⟩ | ⟨hb61, hvv124⟩
                · skip
                  have hkv124 := hr
                  have hr := hvv124
                  refine GS_h (d := some 62) (v := .agg (cT r9)) rfl rfl rfl (wt rfl hb61) (fun _ => rfl) ?_
                  obtain ⟨r125, hr125, hr⟩ := bind_s hr
                  refine GS_c 30 (wt rfl hb61) rfl rfl (CA_of (as := [.agg (cT r9)]) rfl (oRightP_ok hr125)) ?_
                  replace hvv124 := some_s hr
                  have hr := hkv124
                  refine GS_v (.bool v124) rfl rfl (evP_pickT rfl hb61 rfl) (congrArg AVal.bool hvv124) ?_
                  refine GS_p rfl rfl rfl ?_
                  refine GS_nil ?_
                  refine L_ret ?_
                  have hr := some_s hr
                  subst hr
                  exact ⟨_, rfl, _, rfl, rfl⟩
                · skip
                  refine GS_s (wf rfl hb61) ?_
                  refine GS_s (wf rfl hb61) ?_
                  replace hvv124 := some_s hvv124
                  refine GS_v (.bool v124) rfl rfl (evP_pickF rfl hb61 rfl) (congrArg AVal.bool hvv124) ?_
                  refine GS_p rfl rfl rfl ?_
                  refine GS_nil ?_
                  refine L_ret ?_
                  have hr := some_s hr
                  subst hr
                  exact ⟨_, rfl, _, rfl, rfl⟩
              · skip
                have hkv122 := hr
                have hr := hvv122
                refine GS_p rfl (wt rfl hb57) rfl ?_
                replace hvv122 := some_s hr
                have hr := hkv122
                refine GS_v (.bool v122) rfl (wt rfl hb54) (evP_pickF rfl hb57 rfl) (congrArg AVal.bool hvv122) ?_
                replace hvv121 := some_s hr
                have hr := hkv121
                refine GS_v (.bool v121) rfl rfl (evP_pickT rfl hb54 rfl) (congrArg AVal.bool hvv121) ?_
                refine GS_p rfl rfl rfl ?_
                obtain ⟨v127, hvv127, hr⟩ := bind_s hr
                rcases cond_s hvv127 with ⟨hb61, hvv127⟩ | ⟨hb61, hvv127⟩
                · skip
                  have hkv127 := hr
                  have hr := hvv127
                  refine GS_h (d := some 62) (v := .agg (cT r9)) rfl rfl rfl (wt rfl hb61) (fun _ => rfl) ?_
                  obtain ⟨r128, hr128, hr⟩ := bind_s hr
                  refine GS_c 30 (wt rfl hb61) rfl rfl (CA_of (as := [.agg (cT r9)]) rfl (oRightP_ok hr128)) ?_
                  replace hvv127 := some_s hr
                  have hr := hkv127
                  refine GS_v (.bool v127) rfl rfl (evP_pickT rfl hb61 rfl) (congrArg AVal.bool hvv127) ?_
                  refine GS_p rfl rfl rfl ?_
                  refine GS_nil ?_
                  refine L_ret ?_
                  have hr := some_s hr
                  subst hr
                  exact ⟨_, rfl, _, rfl, rfl⟩
                · skip
                  refine GS_s (wf rfl hb61) ?_
                  refine GS_s (wf rfl hb61) ?_
                  replace hvv127 := some_s hvv127
                  refine GS_v (.bool v127) rfl rfl (evP_pickF rfl hb61 rfl) (congrArg AVal.bool hvv127) ?_
                  refine GS_p rfl rfl rfl ?_
                  refine GS_nil ?_
                  refine L_ret ?_
                  have hr := some_s hr
                  subst hr
                  exact ⟨_, rfl, _, rfl, rfl⟩
            · skip
              refine GS_s (wf rfl hb54) ?_
              refine GS_s (wf rfl hb54) ?_
              refine GS_s (wf rfl hb54) ?_
              refine GS_s rfl ?_
              refine GS_s (wf rfl hb54) ?_
              replace hvv121 := some_s hvv121
              refine GS_v (.bool v121) rfl rfl (evP_pickF rfl hb54 rfl) (congrArg AVal.bool hvv121) ?_
              refine GS_p rfl rfl rfl ?_
              obtain ⟨v130, hvv130, hr⟩ := bind_s hr
              rcases cond_s hvv130 with ⟨hb61, hvv130⟩ | ⟨hb61, hvv130⟩
              · skip
                have hkv130 := hr
                have hr := hvv130
                refine GS_h (d := some 62) (v := .agg (cT r9)) rfl rfl rfl (wt rfl hb61) (fun _ => rfl) ?_
                obtain ⟨r131, hr131, hr⟩ := bind_s hr
                refine GS_c 30 (wt rfl hb61) rfl rfl (CA_of (as := [.agg (cT r9)]) rfl (oRightP_ok hr131)) ?_
                replace hvv130 := some_s hr
                have hr := hkv130
                refine GS_v (.bool v130) rfl rfl (evP_pickT rfl hb61 rfl) (congrArg AVal.bool hvv130) ?_
                refine GS_p rfl rfl rfl ?_
                refine GS_nil ?_
                refine L_ret ?_
                have hr := some_s hr
                subst hr
                exact ⟨_, rfl, _, rfl, rfl⟩
              · skip
                refine GS_s (wf rfl hb61) ?_
                refine GS_s (wf rfl hb61) ?_
                replace hvv130 := some_s hvv130
                refine GS_v (.bool v130) rfl rfl (evP_pickF rfl hb61 rfl) (congrArg AVal.bool hvv130) ?_
                refine GS_p rfl rfl rfl ?_
                refine GS_nil ?_
                refine L_ret ?_
                have hr := some_s hr
                subst hr
                exact ⟨_, rfl, _, rfl, rfl⟩
end Go.Ev.Seat
namespace Go.Ev
set_option linter.unusedVariables false
set_option linter.unusedSimpArgs false
open Go
theorem getD_mem {l : List Ty} {i : Nat} (h : i < l.length) : l.getD i zeroT ∈ l := by
  simp [List.getD, List.getElem?_eq_getElem h]
theorem all_congr {n : Nat} {p q : Nat → Bool} (h : ∀ i, i < n → p i = q i) : (List.range n).all p = (List.range n).all q := by
  rw [Bool.eq_iff_iff, List.all_eq_true, List.all_eq_true]
  constructor
  · intro h1 i hi; rw [← h i (List.mem_range.1 hi)]; exact h1 i hi
  · intro h1 i hi; rw [h i (List.mem_range.1 hi)]; exact h1 i hi
theorem fn_facts {t : Ty} (h : Rt t) : t.fn = 0 ∨ t.fn = 2 ∨ (t.fn = 1 ∧ 1 ≤ t.funs.length) := by
  have f := okT_facts h.ok
  by_cases q : t.fn = 1
  · exact .inr (.inr ⟨q, (f.2.2.2.2.2.2.2.1 q).1⟩)
  · omega
theorem subT_step : ∀ (k : Nat) (a b : Ty), Rt a → Rt b → szT a + szT b ≤ k → subT (k + 1) a b = subT k a b
  | 0, a, b, _, _, h => by have := szT_pos a; omega
  | k + 1, a, b, ha, hb, h => by
    have ih := subT_step k
    cases hB : b.all with
    | true => simp [subT, hB]
    | false =>
      cases hA : a.all with
      | true => simp [subT, hA, hB]
      | false =>
        rw [subT_conj (k + 1) a b hB hA, subT_conj k a b hB hA]
        congr 1
        · congr 1
          by_cases hp : a.pair = 0
          · simp [hp]
          · by_cases hq : b.pair = 0
            · simp [hp, hq]
            · have c1 := car_facts ha hA hp
              have c2 := car_facts hb hB hq
              have d1 := cdr_facts ha hA hp
              have d2 := cdr_facts hb hB hq
              rw [ih _ _ c1.2.1 c2.2.1 (by omega)]
              by_cases hl : a.pair = 2 ∧ b.pair = 2
              · simp [hl]
              · have fa := (okT_facts ha.ok).2.1
                have fb := (okT_facts hb.ok).2.1
                rw [ih _ _ d1.2.2 d2.2.2 (by
                  rcases (show a.pair = 1 ∨ a.pair = 2 by omega) with q | q <;> rcases (show b.pair = 1 ∨ b.pair = 2 by omega) with r | r
                  · have := (d1.1 q).2; have := (d2.1 r).2; omega
                  · have := (d1.1 q).2; have := (d2.2.1 r).2; omega
                  · have := (d1.2.1 q).2; have := (d2.1 r).2; omega
                  · exact absurd ⟨q, r⟩ hl)]
        · by_cases hf0 : a.fn = 0
          · simp [hf0]
          congr 1
          congr 1
          congr 1
          by_cases hl : b.funs.length = a.funs.length
          · rcases fn_facts ha with q | q | ⟨_, q⟩
            · exact absurd q hf0
            · simp [q]
            · have key : ∀ i, i < a.funs.length → (a.funs.getD i zeroT ∈ a.funs ∧ szT (a.funs.getD i zeroT) < szT a) ∧ (b.funs.getD i zeroT ∈ b.funs ∧ szT (b.funs.getD i zeroT) < szT b) := by
                intro i hi
                have m1 := getD_mem hi
                have m2 := getD_mem (l := b.funs) (i := i) (by omega)
                exact ⟨⟨m1, szT_funs m1⟩, ⟨m2, szT_funs m2⟩⟩
              rw [all_congr (q := fun i => subT k (b.funs.getD i zeroT) (a.funs.getD i zeroT)) (fun i hi => by
                have := key i (by omega)
                exact ih _ _ (hb.funs this.2.1) (ha.funs this.1.1) (by omega))]
              have := key (a.funs.length - 1) (by omega)
              rw [ih _ _ (ha.funs this.1.1) (hb.funs this.2.1) (by omega)]
          · simp [hl]
def S (a b : Ty) : Bool := subT (szT a + szT b) a b
theorem subT_S : ∀ (k : Nat) (a b : Ty), Rt a → Rt b → szT a + szT b ≤ k → subT k a b = S a b
  | 0, a, b, _, _, h => by have := szT_pos a; omega
  | k + 1, a, b, ha, hb, h => by
    rcases Nat.lt_or_ge k (szT a + szT b) with q | q
    · have : k + 1 = szT a + szT b := by omega
      rw [this]; rfl
    · rw [subT_step k a b ha hb q]; exact subT_S k a b ha hb q
theorem S_all {a b : Ty} (h : b.all = true) : S a b = true := by
  unfold S
  have := szT_pos a
  obtain ⟨k, hk⟩ : ∃ k, szT a + szT b = k + 1 := ⟨szT a + szT b - 1, by omega⟩
  rw [hk]; simp [subT, h]
structure SubP (a b : Ty) : Prop where
  flat : subF a.flat b.flat = true
  pair : a.pair ≠ 0 → b.pair ≠ 0 ∧ S (carT a) (carT b) = true ∧ (¬(a.pair = 2 ∧ b.pair = 2) → S (cdrT a) (cdrT b) = true)
  fn : a.fn ≠ 0 → b.fn ≠ 0 ∧ (b.fn ≠ 2 → a.fn ≠ 2 ∧ b.funs.length = a.funs.length ∧ (∀ i, i < a.funs.length - 1 → S (b.funs.getD i zeroT) (a.funs.getD i zeroT) = true) ∧
    S (a.funs.getD (a.funs.length - 1) zeroT) (b.funs.getD (a.funs.length - 1) zeroT) = true)
theorem S_iff {a b : Ty} (ha : Rt a) (hb : Rt b) (hA : a.all = false) (hB : b.all = false) : S a b = true ↔ SubP a b := by
  have pa := szT_pos a
  obtain ⟨k, hk⟩ : ∃ k, szT a + szT b = k + 1 := ⟨szT a + szT b - 1, by omega⟩
  have e1 : a.pair ≠ 0 → b.pair ≠ 0 → subT k (carT a) (carT b) = S (carT a) (carT b) := by
    intro hp hq
    have c1 := car_facts ha hA hp
    have c2 := car_facts hb hB hq
    exact subT_S _ _ _ c1.2.1 c2.2.1 (by omega)
  have e2 : a.pair ≠ 0 → b.pair ≠ 0 → ¬(a.pair = 2 ∧ b.pair = 2) → subT k (cdrT a) (cdrT b) = S (cdrT a) (cdrT b) := by
    intro hp hq hl
    have d1 := cdr_facts ha hA hp
    have d2 := cdr_facts hb hB hq
    have fa := (okT_facts ha.ok).2.1
    have fb := (okT_facts hb.ok).2.1
    refine subT_S _ _ _ d1.2.2 d2.2.2 ?_
    rcases (show a.pair = 1 ∨ a.pair = 2 by omega) with q | q <;> rcases (show b.pair = 1 ∨ b.pair = 2 by omega) with r | r
    · have := (d1.1 q).2; have := (d2.1 r).2; omega
    · have := (d1.1 q).2; have := (d2.2.1 r).2; omega
    · have := (d1.2.1 q).2; have := (d2.1 r).2; omega
    · exact absurd ⟨q, r⟩ hl
  have key : b.funs.length = a.funs.length → ∀ i, i < a.funs.length → (a.funs.getD i zeroT ∈ a.funs ∧ szT (a.funs.getD i zeroT) < szT a) ∧ (b.funs.getD i zeroT ∈ b.funs ∧ szT (b.funs.getD i zeroT) < szT b) := by
    intro hl i hi
    have m1 := getD_mem hi
    have m2 := getD_mem (l := b.funs) (i := i) (by omega)
    exact ⟨⟨m1, szT_funs m1⟩, ⟨m2, szT_funs m2⟩⟩
  have e3 : b.funs.length = a.funs.length → ∀ i, i < a.funs.length → subT k (b.funs.getD i zeroT) (a.funs.getD i zeroT) = S (b.funs.getD i zeroT) (a.funs.getD i zeroT) := by
    intro hl i hi
    have := key hl i hi
    exact subT_S _ _ _ (hb.funs this.2.1) (ha.funs this.1.1) (by omega)
  have e4 : b.funs.length = a.funs.length → a.fn = 1 → subT k (a.funs.getD (a.funs.length - 1) zeroT) (b.funs.getD (a.funs.length - 1) zeroT) = S (a.funs.getD (a.funs.length - 1) zeroT) (b.funs.getD (a.funs.length - 1) zeroT) := by
    intro hl hf
    have := ((okT_facts ha.ok).2.2.2.2.2.2.2.1 hf).1
    have := key hl (a.funs.length - 1) (by omega)
    exact subT_S _ _ _ (ha.funs this.1.1) (hb.funs this.2.1) (by omega)
  have fa := (okT_facts ha.ok).2.2.1
  rw [S, hk, subT_conj k a b hB hA]
  simp only [Bool.and_eq_true, Bool.or_eq_true, decide_eq_true_eq, Bool.not_eq_true', decide_eq_false_iff_not, List.all_eq_true, List.mem_range]
  constructor
  · rintro ⟨⟨h1, h2⟩, h3⟩
    refine ⟨h1, fun hp => ?_, fun hf => ?_⟩
    · rcases h2 with h2 | ⟨⟨h2, h4⟩, h5⟩
      · exact absurd h2 hp
      · refine ⟨h2, by rw [← e1 hp h2]; exact h4, fun hl => ?_⟩
        rcases h5 with h5 | h5
        · exact absurd h5 hl
        · rw [← e2 hp h2 hl]; exact h5
    · rcases h3 with h3 | ⟨h3, h4⟩
      · exact absurd h3 hf
      · refine ⟨h3, fun h2 => ?_⟩
        rcases h4 with h4 | ⟨⟨⟨h4, h5⟩, h6⟩, h7⟩
        · exact absurd h4 h2
        · exact ⟨h4, h5, fun i hi => by rw [← e3 h5 i (by omega)]; exact h6 i hi, by rw [← e4 h5 (by omega)]; exact h7⟩
  · rintro ⟨h1, h2, h3⟩
    refine ⟨⟨h1, ?_⟩, ?_⟩
    · by_cases hp : a.pair = 0
      · exact .inl hp
      · obtain ⟨q1, q2, q3⟩ := h2 hp
        refine .inr ⟨⟨q1, by rw [e1 hp q1]; exact q2⟩, ?_⟩
        by_cases hl : a.pair = 2 ∧ b.pair = 2
        · exact .inl hl
        · exact .inr (by rw [e2 hp q1 hl]; exact q3 hl)
    · by_cases hf : a.fn = 0
      · exact .inl hf
      · obtain ⟨q1, q2⟩ := h3 hf
        refine .inr ⟨q1, ?_⟩
        by_cases h2 : b.fn = 2
        · exact .inl h2
        · obtain ⟨r1, r2, r3, r4⟩ := q2 h2
          exact .inr ⟨⟨⟨r1, r2⟩, fun i hi => by rw [e3 r2 i (by omega)]; exact r3 i hi⟩, by rw [e4 r2 (by omega)]; exact r4⟩
theorem subF_refl (a : Int) : subF a a = true := by simp [subF]
theorem S_refl : ∀ (n : Nat) (a : Ty), szT a ≤ n → Rt a → S a a = true
  | 0, a, h, _ => by have := szT_pos a; omega
  | n + 1, a, h, ha => by
    cases hA : a.all with
    | true => exact S_all hA
    | false =>
      refine (S_iff ha ha hA hA).2 ⟨subF_refl _, fun hp => ?_, fun hf => ?_⟩
      · have c := car_facts ha hA hp
        have d := cdr_facts ha hA hp
        refine ⟨hp, S_refl n _ (by omega) c.2.1, fun hl => ?_⟩
        have fa := (okT_facts ha.ok).2.1
        have := (d.1 (by omega)).2
        exact S_refl n _ (by omega) d.2.2
      · refine ⟨hf, fun h2 => ⟨h2, rfl, fun i hi => ?_, ?_⟩⟩
        · have m := getD_mem (l := a.funs) (i := i) (by omega)
          have := szT_funs m
          exact S_refl n _ (by omega) (ha.funs m)
        · have fa := (okT_facts ha.ok)
          have := (fa.2.2.2.2.2.2.2.1 (by have := fa.2.2.1; omega)).1
          have m := getD_mem (l := a.funs) (i := a.funs.length - 1) (by omega)
          have := szT_funs m
          exact S_refl n _ (by omega) (ha.funs m)
end Go.Ev
namespace Go.Ev
set_option linter.unusedVariables false
set_option linter.unusedSimpArgs false
open Go
theorem cd_small {a b : Ty} (ha : Rt a) (hb : Rt b) (hA : a.all = false) (hB : b.all = false) (hp : a.pair ≠ 0) (hq : b.pair ≠ 0) : Rt (carT a) ∧ Rt (carT b) ∧ szT (carT a) + szT (carT b) < szT a + szT b ∧ Rt (cdrT a) ∧ Rt (cdrT b) ∧ (¬(a.pair = 2 ∧ b.pair = 2) → szT (cdrT a) + szT (cdrT b) < szT a + szT b) := by
  have c1 := car_facts ha hA hp
  have c2 := car_facts hb hB hq
  have d1 := cdr_facts ha hA hp
  have d2 := cdr_facts hb hB hq
  have fa := (okT_facts ha.ok).2.1
  have fb := (okT_facts hb.ok).2.1
  refine ⟨c1.2.1, c2.2.1, by omega, d1.2.2, d2.2.2, fun hl => ?_⟩
  rcases (show a.pair = 1 ∨ a.pair = 2 by omega) with q | q <;> rcases (show b.pair = 1 ∨ b.pair = 2 by omega) with r | r
  · have := (d1.1 q).2; have := (d2.1 r).2; omega
  · have := (d1.1 q).2; have := (d2.2.1 r).2; omega
  · have := (d1.2.1 q).2; have := (d2.1 r).2; omega
  · exact absurd ⟨q, r⟩ hl
theorem joinT_step : ∀ (k : Nat) (a b : Ty), Rt a → Rt b → szT a + szT b ≤ k → joinT (k + 1) a b = joinT k a b
  | 0, a, b, _, _, h => by have := szT_pos a; omega
  | k + 1, a, b, ha, hb, h => by
    have ih := joinT_step k
    cases hAB : (a.all || b.all) with
    | true => rw [joinT_all _ _ _ hAB, joinT_all _ _ _ hAB]
    | false =>
      have e : joinP (k + 1) a b = joinP k a b := by
        simp only [Bool.or_eq_false_iff] at hAB
        unfold joinP
        split
        · rfl
        · rename_i hp
          split
          · rfl
          · rename_i hq
            obtain ⟨c1, c2, c3, d1, d2, d3⟩ := cd_small ha hb hAB.1 hAB.2 hp hq
            split
            · rw [ih _ _ c1 c2 (by omega)]
            · rename_i hl
              rw [ih _ _ c1 c2 (by omega), ih _ _ d1 d2 (by have := d3 hl; omega)]
      rw [joinT_succ _ _ _ hAB, joinT_succ _ _ _ hAB, e]
def J (a b : Ty) : Ty := joinT (szT a + szT b) a b
theorem joinT_J : ∀ (k : Nat) (a b : Ty), Rt a → Rt b → szT a + szT b ≤ k → joinT k a b = J a b
  | 0, a, b, _, _, h => by have := szT_pos a; omega
  | k + 1, a, b, ha, hb, h => by
    rcases Nat.lt_or_ge k (szT a + szT b) with q | q
    · have : k + 1 = szT a + szT b := by omega
      rw [this]; rfl
    · rw [joinT_step k a b ha hb q]; exact joinT_J k a b ha hb q
theorem J_all {a b : Ty} (h : (a.all || b.all) = true) : J a b = allT := by
  unfold J
  have := szT_pos a
  obtain ⟨k, hk⟩ : ∃ k, szT a + szT b = k + 1 := ⟨szT a + szT b - 1, by omega⟩
  rw [hk]; exact joinT_all _ _ _ h
def JP (a b : Ty) : Int × List Ty := if a.pair = 0 then (b.pair, b.pairs) else if b.pair = 0 then (a.pair, a.pairs)
        else if a.pair = 2 ∧ b.pair = 2 then (2, [J (carT a) (carT b)]) else (1, [J (carT a) (carT b), J (cdrT a) (cdrT b)])
theorem J_eq {a b : Ty} (ha : Rt a) (hb : Rt b) (hA : a.all = false) (hB : b.all = false) : J a b = ⟨false, orF a.flat b.flat, (JP a b).1, (JP a b).2, (joinG a b).1, (joinG a b).2⟩ := by
  have := szT_pos a
  obtain ⟨k, hk⟩ : ∃ k, szT a + szT b = k + 1 := ⟨szT a + szT b - 1, by omega⟩
  have e : joinP k a b = JP a b := by
    unfold joinP JP
    split
    · rfl
    · rename_i hp
      split
      · rfl
      · rename_i hq
        obtain ⟨c1, c2, c3, d1, d2, d3⟩ := cd_small ha hb hA hB hp hq
        split
        · rw [joinT_J _ _ _ c1 c2 (by omega)]
        · rename_i hl
          rw [joinT_J _ _ _ c1 c2 (by omega), joinT_J _ _ _ d1 d2 (by have := d3 hl; omega)]
  rw [J, hk, joinT_succ _ _ _ (by simp [hA, hB]), e]
mutual
theorem sameT_eq' : ∀ a b : Ty, sameT a b = true → a = b
  | .mk a f p ps g gs, .mk a' f' p' ps' g' gs', h => by
    simp only [sameT, Bool.and_eq_true, beq_iff_eq, decide_eq_true_eq] at h
    obtain ⟨⟨⟨⟨⟨h1, h2⟩, h3⟩, h4⟩, h5⟩, h6⟩ := h
    rw [h1, h2, h3, h4, sameTs_eq' ps ps' h5, sameTs_eq' gs gs' h6]
theorem sameTs_eq' : ∀ a b : List Ty, sameTs a b = true → a = b
  | [], [], _ => rfl
  | x :: xs, y :: ys, h => by
    simp only [sameTs, Bool.and_eq_true] at h
    rw [sameT_eq' x y h.1, sameTs_eq' xs ys h.2]
  | [], _ :: _, h => by simp [sameTs] at h
  | _ :: _, [], h => by simp [sameTs] at h
end
theorem sameTs_refl (l : List Ty) : sameTs l l = true := by
  induction l with
  | nil => rfl
  | cons x xs ih =>
    simp only [sameTs, ih, Bool.and_true]
    refine Ty.rec (motive_1 := fun t => sameT t t = true) (motive_2 := fun l => sameTs l l = true) ?_ rfl ?_ x
    · intro a f p ps g gs h1 h2; simp [sameT, h1, h2]
    · intro x xs h1 h2; simp [sameTs, h1, h2]
theorem joinG_cases (a b : Ty) : (a.fn = 0 ∧ joinG a b = (b.fn, b.funs)) ∨ (a.fn ≠ 0 ∧ b.fn = 0 ∧ joinG a b = (a.fn, a.funs)) ∨ (a.fn ≠ 0 ∧ b.fn ≠ 0 ∧ a.fn = b.fn ∧ a.funs = b.funs ∧ joinG a b = (a.fn, a.funs)) ∨
    (a.fn ≠ 0 ∧ b.fn ≠ 0 ∧ ¬(a.fn = b.fn ∧ a.funs = b.funs) ∧ joinG a b = (2, [])) := by
  unfold joinG
  by_cases h1 : a.fn = 0
  · exact .inl ⟨h1, by rw [if_pos h1]⟩
  · right
    by_cases h2 : b.fn = 0
    · exact .inl ⟨h1, h2, by rw [if_neg h1, if_neg (by simp [h2])]⟩
    · right
      by_cases h3 : a.fn = b.fn ∧ sameTs a.funs b.funs = true
      · exact .inl ⟨h1, h2, h3.1, sameTs_eq' _ _ h3.2, by rw [if_neg h1, if_neg (by simp [h2, h3])]⟩
      · refine .inr ⟨h1, h2, ?_, by rw [if_neg h1, if_pos ⟨h2, h3⟩]⟩
        rintro ⟨q1, q2⟩
        exact h3 ⟨q1, by rw [q2]; exact sameTs_refl _⟩
theorem fn_refl {a j : Ty} (ha : Rt a) (e1 : j.fn = a.fn) (e2 : j.funs = a.funs) : a.fn ≠ 0 → j.fn ≠ 0 ∧ (j.fn ≠ 2 → a.fn ≠ 2 ∧ j.funs.length = a.funs.length ∧ (∀ i, i < a.funs.length - 1 → S (j.funs.getD i zeroT) (a.funs.getD i zeroT) = true) ∧
    S (a.funs.getD (a.funs.length - 1) zeroT) (j.funs.getD (a.funs.length - 1) zeroT) = true) := by
  intro hf
  rw [e1, e2]
  refine ⟨hf, fun h2 => ⟨h2, rfl, fun i hi => S_refl _ _ (Nat.le_refl _) (ha.funs (getD_mem (by omega))), ?_⟩⟩
  have fa := okT_facts ha.ok
  have := (fa.2.2.2.2.2.2.2.1 (by have := fa.2.2.1; omega)).1
  exact S_refl _ _ (Nat.le_refl _) (ha.funs (getD_mem (by omega)))
theorem pair_refl {a j : Ty} (ha : Rt a) (hA : a.all = false) (hJ : j.all = false) (e1 : j.pair = a.pair) (e2 : j.pairs = a.pairs) : a.pair ≠ 0 → j.pair ≠ 0 ∧ S (carT a) (carT j) = true ∧ (¬(a.pair = 2 ∧ j.pair = 2) → S (cdrT a) (cdrT j) = true) := by
  intro hp
  have c := car_facts ha hA hp
  have d := cdr_facts ha hA hp
  have q1 : carT j = carT a := by simp [carT, hJ, hA, e1, e2]
  have q2 : cdrT j = cdrT a := by simp [cdrT, hJ, hA, e1, e2]
  rw [q1, q2, e1]
  exact ⟨hp, S_refl _ _ (Nat.le_refl _) c.2.1, fun _ => S_refl _ _ (Nat.le_refl _) d.2.2⟩
theorem subF_or_l {a b : Int} : subF a (orF a b) = true := by
  have : a.toNat &&& (a.toNat ||| b.toNat) = a.toNat := by
    apply Nat.eq_of_testBit_eq; intro i; simp only [Nat.testBit_and, Nat.testBit_or]; cases a.toNat.testBit i <;> simp
  simp [subF, orF, this]
section
variable {f p g : Int} {ps gs : List Ty}
theorem mk_pair : (Ty.mk false f p ps g gs).pair = p := rfl
theorem mk_pairs : (Ty.mk false f p ps g gs).pairs = ps := rfl
theorem mk_fn : (Ty.mk false f p ps g gs).fn = g := rfl
end
theorem JP_cases (a b : Ty) : (a.pair = 0 ∧ JP a b = (b.pair, b.pairs)) ∨ (a.pair ≠ 0 ∧ b.pair = 0 ∧ JP a b = (a.pair, a.pairs)) ∨ (a.pair ≠ 0 ∧ b.pair ≠ 0 ∧ (a.pair = 2 ∧ b.pair = 2) ∧ JP a b = (2, [J (carT a) (carT b)])) ∨
    (a.pair ≠ 0 ∧ b.pair ≠ 0 ∧ ¬(a.pair = 2 ∧ b.pair = 2) ∧ JP a b = (1, [J (carT a) (carT b), J (cdrT a) (cdrT b)])) := by
  unfold JP
  by_cases h1 : a.pair = 0
  · exact .inl ⟨h1, by rw [if_pos h1]⟩
  · right
    by_cases h2 : b.pair = 0
    · exact .inl ⟨h1, h2, by rw [if_neg h1, if_pos h2]⟩
    · right
      by_cases h3 : a.pair = 2 ∧ b.pair = 2
      · exact .inl ⟨h1, h2, h3, by rw [if_neg h1, if_neg h2, if_pos h3]⟩
      · exact .inr ⟨h1, h2, h3, by rw [if_neg h1, if_neg h2, if_neg h3]⟩
theorem join_l : ∀ (n : Nat) (a b : Ty), szT a + szT b ≤ n → Rt a → Rt b → Rt (J a b) → S a (J a b) = true
  | 0, a, b, h, _, _, _ => by have := szT_pos a; omega
  | n + 1, a, b, h, ha, hb, hj => by
    have ih := join_l n
    cases hAB : (a.all || b.all) with
    | true => rw [J_all hAB]; exact S_all rfl
    | false =>
      simp only [Bool.or_eq_false_iff] at hAB
      have hJ := J_eq ha hb hAB.1 hAB.2
      rw [hJ] at hj ⊢
      refine (S_iff ha hj hAB.1 rfl).2 ⟨subF_or_l, ?_, ?_⟩
      · rcases JP_cases a b with ⟨q, _⟩ | ⟨q1, q2, e⟩ | ⟨q1, q2, q3, e⟩ | ⟨q1, q2, q3, e⟩
        · exact fun hp => absurd q hp
        · rw [e] at hj ⊢; exact pair_refl ha hAB.1 rfl rfl rfl
        · obtain ⟨c1, c2, c3, d1, d2, d3⟩ := cd_small ha hb hAB.1 hAB.2 q1 q2
          rw [e] at hj ⊢
          refine fun hp => ⟨by simp [mk_pair], ?_, fun hl => absurd ⟨q3.1, rfl⟩ hl⟩
          have ec : carT (Ty.mk false (orF a.flat b.flat) 2 [J (carT a) (carT b)] (joinG a b).1 (joinG a b).2) = J (carT a) (carT b) := by simp [carT, Ty.all, Ty.pair, Ty.pairs]
          rw [ec]
          exact ih _ _ (by omega) c1 c2 (hj.pairs (by simp [mk_pairs]))
        · obtain ⟨c1, c2, c3, d1, d2, d3⟩ := cd_small ha hb hAB.1 hAB.2 q1 q2
          have d3 := d3 q3
          rw [e] at hj ⊢
          refine fun hp => ⟨by simp [mk_pair], ?_, fun hl => ?_⟩
          · have ec : carT (Ty.mk false (orF a.flat b.flat) 1 [J (carT a) (carT b), J (cdrT a) (cdrT b)] (joinG a b).1 (joinG a b).2) = J (carT a) (carT b) := by simp [carT, Ty.all, Ty.pair, Ty.pairs]
            rw [ec]
            exact ih _ _ (by omega) c1 c2 (hj.pairs (by simp [mk_pairs]))
          · have ec : cdrT (Ty.mk false (orF a.flat b.flat) 1 [J (carT a) (carT b), J (cdrT a) (cdrT b)] (joinG a b).1 (joinG a b).2) = J (cdrT a) (cdrT b) := by simp [cdrT, Ty.all, Ty.pair, Ty.pairs]
            rw [ec]
            exact ih _ _ (by omega) d1 d2 (hj.pairs (by simp [mk_pairs]))
      · rcases joinG_cases a b with ⟨q, _⟩ | ⟨q1, q2, e⟩ | ⟨q1, q2, q3, q4, e⟩ | ⟨q1, q2, q3, e⟩
        · exact fun hp => absurd q hp
        · rw [e]; exact fn_refl ha rfl rfl
        · rw [e]; exact fn_refl ha rfl rfl
        · rw [e]; exact fun _ => ⟨by simp [mk_fn], fun h2 => absurd rfl h2⟩
end Go.Ev
namespace Go.Ev.Seat
set_option linter.unusedVariables false
set_option linter.unusedSimpArgs false
open Go Go.Ev
theorem wrapBV (x : BitVec 64) : BitVec.ofInt 64 (IntKind.i64.wrap (x.toNat : Int)) = x := by
  have h := x.isLt
  apply BitVec.eq_of_toNat_eq
  rw [kw_i64, BitVec.toNat_ofInt]
  omega
theorem andBV (a b : Int) : BitVec.ofInt 64 (andB .i64 a b) = BitVec.ofInt 64 a &&& BitVec.ofInt 64 b := wrapBV _
theorem andB_of {a b c d : Int} (h : BitVec.ofInt 64 a &&& BitVec.ofInt 64 b = BitVec.ofInt 64 c &&& BitVec.ofInt 64 d) : andB .i64 a b = andB .i64 c d := by
  show IntKind.i64.wrap ((BitVec.ofInt 64 a &&& BitVec.ofInt 64 b).toNat) = IntKind.i64.wrap ((BitVec.ofInt 64 c &&& BitVec.ofInt 64 d).toNat)
  rw [h]
theorem and_bounds {f : Int} (g : Int) (h0 : 0 ≤ f) (h1 : f ≤ 63) : 0 ≤ andB .i64 f g ∧ andB .i64 f g ≤ 63 := by
  show 0 ≤ IntKind.i64.wrap ((BitVec.ofInt 64 f &&& BitVec.ofInt 64 g).toNat) ∧ IntKind.i64.wrap ((BitVec.ofInt 64 f &&& BitVec.ofInt 64 g).toNat) ≤ 63
  have h2 : (BitVec.ofInt 64 f &&& BitVec.ofInt 64 g).toNat ≤ 63 := by
    rw [BitVec.toNat_and]
    refine Nat.le_trans Nat.and_le_left ?_
    rw [BitVec.toNat_ofInt]; omega
  rw [kw_i64_id (by omega) (by omega)]
  omega
def keepC (t : Ty) (g : Int) : Ty := .mk t.all (andB .i64 t.flat g) (if andB .i64 g 64 = 0 then 0 else t.pair) (if andB .i64 g 64 = 0 then [] else t.pairs) (if andB .i64 g 128 = 0 then 0 else t.fn) (if andB .i64 g 128 = 0 then [] else t.funs)
def anyT : Ty := .mk false 63 1 [.mk true 0 0 [] 0 [], .mk true 0 0 [] 0 []] 2 []
def keepS (t : Ty) (g : Int) : Ty := if t.all then (if andB .i64 g 255 = 255 then t else keepC anyT g) else keepC t g
theorem keepC_j (g : Int) (a : Bool) (f p : Int) (ps : List Ty) (n : Int) (ns : List Ty) : g_narrow_Keep_j3 g a f p ps n ns = some (keepC (.mk a f p ps n ns) g) := by
  unfold g_narrow_Keep_j3 g_narrow_Keep_j2 g_narrow_Keep_j1 keepC
  by_cases h1 : andB .i64 g 64 = 0 <;> by_cases h2 : andB .i64 g 128 = 0 <;> simp [h1, h2, Ty.all, Ty.flat, Ty.pair, Ty.pairs, Ty.fn, Ty.funs]
theorem keep_p (t : Ty) (g : Int) : g_narrow_Keep t g = some (keepS t g) := by
  have hj : oJoin (.mk false (andB .i64 63 63) 0 [] 0 []) (.mk false 0 1 [.mk true 0 0 [] 0 [], .mk true 0 0 [] 0 []] 0 []) = some bothT := by
    unfold oJoin; rw [if_pos ⟨rfl, rfl⟩]
  unfold g_narrow_Keep keepS
  simp only [g_types_Flat, g_types_All, g_types_Pair, Option.bind_some, hj, keepC_j]
  obtain ⟨a, f, p, ps, q, qs⟩ := t
  cases a with
  | true => by_cases h : andB .i64 g 255 = 255 <;> simp [h, bothT, anyT, Ty.all, Ty.flat, Ty.pair, Ty.pairs, Ty.fn, Ty.funs]
  | false => simp [Ty.all, Ty.flat, Ty.pair, Ty.pairs, Ty.fn, Ty.funs]
def Fl (t : Ty) : Prop := 0 ≤ t.flat ∧ t.flat ≤ 63
theorem wf_keepC {t : Ty} (g : Int) (h : WfT t) (hf : Fl t) : WfT (keepC t g) := by
  obtain ⟨b0, b1⟩ := and_bounds g hf.1 hf.2
  cases h with | mk w1 w2 w3 w4 w5 w6 w7 =>
  refine .mk ?_ ?_ ?_ ?_ ?_ ?_ ?_
  · show -9223372036854775808 ≤ andB .i64 t.flat g ∧ andB .i64 t.flat g < 9223372036854775808
    omega
  · show -9223372036854775808 ≤ (if andB .i64 g 64 = 0 then 0 else t.pair) ∧ (if andB .i64 g 64 = 0 then 0 else t.pair) < 9223372036854775808
    split <;> omega
  · show -9223372036854775808 ≤ (if andB .i64 g 128 = 0 then 0 else t.fn) ∧ (if andB .i64 g 128 = 0 then 0 else t.fn) < 9223372036854775808
    split <;> omega
  · show (if andB .i64 g 64 = 0 then [] else t.pairs).length < _
    split
    · simp
    · exact w4
  · show (if andB .i64 g 128 = 0 then [] else t.funs).length < _
    split
    · simp
    · exact w5
  · intro y hy
    have hy : y ∈ (if andB .i64 g 64 = 0 then [] else t.pairs) := hy
    split at hy
    · simp at hy
    · exact w6 y hy
  · intro y hy
    have hy : y ∈ (if andB .i64 g 128 = 0 then [] else t.funs) := hy
    split at hy
    · simp at hy
    · exact w7 y hy
theorem wf_all0 : WfT (.mk true 0 0 [] 0 []) := WfT.allT
theorem wf_anyT : WfT anyT := by
  refine .mk (by decide) (by decide) (by decide) (by decide) (by decide) ?_ ?_
  · intro y hy
    have hy : y ∈ [Ty.mk true 0 0 [] 0 [], Ty.mk true 0 0 [] 0 []] := hy
    simp at hy; subst hy; exact wf_all0
  · intro y hy
    have hy : y ∈ ([] : List Ty) := hy
    simp at hy
theorem wf_keep {t : Ty} (g : Int) (h : WfT t) (hf : Fl t) : WfT (keepS t g) := by
  unfold keepS; split
  · split
    · exact h
    · exact wf_keepC g wf_anyT ⟨by decide, by decide⟩
  · exact wf_keepC g h hf
theorem sameT_refl (t : Ty) : sameT t t = true := by
  rw [sameT_eq]; simp [sameTs_refl]
end Go.Ev.Seat
namespace Go.Ev.Seat
set_option linter.unusedVariables false
set_option linter.unusedSimpArgs false
open Go Go.Ev
theorem notBV (g : Int) : BitVec.ofInt 64 (notB .i64 g) = ~~~(BitVec.ofInt 64 g) := by
  refine (wrapBV _).trans ?_
  show BitVec.allOnes 64 ^^^ BitVec.ofInt 64 g = _
  apply BitVec.eq_of_getLsbD_eq
  intro i hi
  rw [BitVec.getLsbD_xor, BitVec.getLsbD_allOnes, BitVec.getLsbD_not]
  simp [hi]
theorem andW (a b : Int) : andB .i64 a b = IntKind.i64.wrap ((BitVec.ofInt 64 a &&& BitVec.ofInt 64 b).toNat) := rfl
theorem orBV (a b : Int) : BitVec.ofInt 64 (orB .i64 a b) = BitVec.ofInt 64 a ||| BitVec.ofInt 64 b := wrapBV _
theorem w_zero (x : BitVec 64) : IntKind.i64.wrap (x.toNat : Int) = 0 ↔ x = 0#64 := by
  have h := x.isLt
  rw [kw_i64]
  constructor
  · intro e
    apply BitVec.eq_of_toNat_eq
    show x.toNat = 0
    omega
  · rintro rfl; decide
theorem b64 : BitVec.ofInt 64 64 = BitVec.twoPow 64 6 := by decide
theorem b128 : BitVec.ofInt 64 128 = BitVec.twoPow 64 7 := by decide
theorem bit64 (g : Int) : andB .i64 g 64 = 0 ↔ (BitVec.ofInt 64 g).getLsbD 6 = false := by
  rw [andW, w_zero, b64, BitVec.and_twoPow]
  cases (BitVec.ofInt 64 g).getLsbD 6 <;> simp <;> decide
theorem bit128 (g : Int) : andB .i64 g 128 = 0 ↔ (BitVec.ofInt 64 g).getLsbD 7 = false := by
  rw [andW, w_zero, b128, BitVec.and_twoPow]
  cases (BitVec.ofInt 64 g).getLsbD 7 <;> simp <;> decide
theorem not64 (g : Int) : andB .i64 (notB .i64 g) 64 = 0 ↔ ¬ andB .i64 g 64 = 0 := by
  rw [bit64, bit64, notBV, BitVec.getLsbD_not]; simp
theorem not128 (g : Int) : andB .i64 (notB .i64 g) 128 = 0 ↔ ¬ andB .i64 g 128 = 0 := by
  rw [bit128, bit128, notBV, BitVec.getLsbD_not]; simp
theorem low_bv {f : Int} (h0 : 0 ≤ f) (h1 : f ≤ 63) : BitVec.ofInt 64 f &&& 255#64 = BitVec.ofInt 64 f := by
  have : ∀ k : Fin 64, BitVec.ofInt 64 ((k.1 : Nat) : Int) &&& 255#64 = BitVec.ofInt 64 ((k.1 : Nat) : Int) := by decide
  have h2 := this ⟨f.toNat, by omega⟩
  rw [show (((⟨f.toNat, by omega⟩ : Fin 64).1 : Nat) : Int) = f by simp; omega] at h2
  exact h2
theorem andB_nat {f : Int} (g : Int) (h0 : 0 ≤ f) (h1 : f ≤ 63) : (andB .i64 f g).toNat = f.toNat &&& (BitVec.ofInt 64 g).toNat := by
  have e : (BitVec.ofInt 64 f).toNat = f.toNat := by rw [BitVec.toNat_ofInt]; omega
  have h2 : f.toNat &&& (BitVec.ofInt 64 g).toNat ≤ 63 := Nat.le_trans Nat.and_le_left (by omega)
  rw [andW, BitVec.toNat_and, e, kw_i64_id (by omega) (by omega)]
  rfl
theorem subF_keep {f : Int} (g : Int) (h0 : 0 ≤ f) (h1 : f ≤ 63) : subF (andB .i64 f g) f = true := by
  unfold subF
  rw [andB_nat g h0 h1, beq_iff_eq, Nat.and_assoc, Nat.and_comm (BitVec.ofInt 64 g).toNat, ← Nat.and_assoc, Nat.and_self]
theorem orF_keep {f : Int} (g : Int) (h0 : 0 ≤ f) (h1 : f ≤ 63) : orF (andB .i64 f g) (andB .i64 f (notB .i64 g)) = f := by
  unfold orF
  have e : (BitVec.ofInt 64 f).toNat = f.toNat := by rw [BitVec.toNat_ofInt]; omega
  have key : (BitVec.ofInt 64 f &&& BitVec.ofInt 64 g) ||| (BitVec.ofInt 64 f &&& ~~~(BitVec.ofInt 64 g)) = BitVec.ofInt 64 f := by
    apply BitVec.eq_of_getLsbD_eq
    intro i hi
    simp only [BitVec.getLsbD_or, BitVec.getLsbD_and, BitVec.getLsbD_not, hi, decide_true, Bool.true_and]
    cases (BitVec.ofInt 64 f).getLsbD i <;> cases (BitVec.ofInt 64 g).getLsbD i <;> rfl
  rw [andB_nat g h0 h1, andB_nat _ h0 h1, notBV, ← e, ← BitVec.toNat_and, ← BitVec.toNat_and, ← BitVec.toNat_or, key, e]
  omega
def tagsF (t : Ty) : Int := if t.all then 255 else if t.fn = 0 then (if t.pair = 0 then t.flat else orB .i64 t.flat 64) else orB .i64 (if t.pair = 0 then t.flat else orB .i64 t.flat 64) 128
theorem tags_p (t : Ty) : g_narrow_Tags t = some (tagsF t) := by
  unfold g_narrow_Tags g_narrow_Tags_j1 tagsF
  by_cases a : t.all = true <;> by_cases p : t.pair = 0 <;> by_cases q : t.fn = 0 <;> simp_all
theorem orB_and {a b c d : Int} (h : BitVec.ofInt 64 a ||| BitVec.ofInt 64 b = BitVec.ofInt 64 c &&& BitVec.ofInt 64 d) : orB .i64 a b = andB .i64 c d := by
  show IntKind.i64.wrap ((BitVec.ofInt 64 a ||| BitVec.ofInt 64 b).toNat) = IntKind.i64.wrap ((BitVec.ofInt 64 c &&& BitVec.ofInt 64 d).toNat)
  rw [h]
theorem tags_keepC {t : Ty} (g : Int) (hf : Fl t) (ha : t.all = false) : tagsF (keepC t g) = andB .i64 (andB .i64 (tagsF t) g) 255 := by
  have l := low_bv hf.1 hf.2
  have lg : (BitVec.ofInt 64 t.flat &&& BitVec.ofInt 64 g) &&& BitVec.ofInt 64 255 = BitVec.ofInt 64 t.flat &&& BitVec.ofInt 64 g := by
    rw [BitVec.and_assoc, BitVec.and_comm (BitVec.ofInt 64 g), ← BitVec.and_assoc]
    show (BitVec.ofInt 64 t.flat &&& 255#64) &&& _ = _
    rw [l]
  have c6 : BitVec.twoPow 64 6 &&& BitVec.ofInt 64 255 = BitVec.twoPow 64 6 := by decide
  have c7 : BitVec.twoPow 64 7 &&& BitVec.ofInt 64 255 = BitVec.twoPow 64 7 := by decide
  have z : (0#64) &&& BitVec.ofInt 64 255 = 0#64 := by decide
  have k6 : BitVec.twoPow 64 6 &&& BitVec.ofInt 64 g = if (BitVec.ofInt 64 g).getLsbD 6 = true then BitVec.twoPow 64 6 else 0#64 := by rw [BitVec.and_comm, BitVec.and_twoPow]
  have k7 : BitVec.twoPow 64 7 &&& BitVec.ofInt 64 g = if (BitVec.ofInt 64 g).getLsbD 7 = true then BitVec.twoPow 64 7 else 0#64 := by rw [BitVec.and_comm, BitVec.and_twoPow]
  have ea : (keepC t g).all = false := ha
  have ef : (keepC t g).flat = andB .i64 t.flat g := rfl
  have ep : (keepC t g).pair = if andB .i64 g 64 = 0 then 0 else t.pair := rfl
  have en : (keepC t g).fn = if andB .i64 g 128 = 0 then 0 else t.fn := rfl
  unfold tagsF
  rw [ea, ha, ef, ep, en]
  simp only [bit64, bit128, Bool.false_eq_true, if_false]
  have wf : t.flat = IntKind.i64.wrap ((BitVec.ofInt 64 t.flat).toNat : Int) := by
    have e : (BitVec.ofInt 64 t.flat).toNat = t.flat.toNat := by rw [BitVec.toNat_ofInt]; have := hf.1; have := hf.2; omega
    rw [e, kw_i64]; have := hf.1; have := hf.2; omega
  cases h6 : (BitVec.ofInt 64 g).getLsbD 6 <;> cases h7 : (BitVec.ofInt 64 g).getLsbD 7 <;> by_cases p : t.pair = 0 <;> by_cases q : t.fn = 0 <;>
    simp only [h6, h7, p, q, if_true, if_false, Bool.true_eq_false, Bool.false_eq_true, reduceIte] at k6 k7 ⊢ <;>
    ((first | refine andB_of ?_ | refine orB_and ?_); simp only [andBV, orBV, b64, b128, BitVec.and_or_distrib_right, lg, k6, k7, c6, c7, z, BitVec.or_zero, BitVec.zero_or])
theorem right_keepC {t : Ty} {d : Nat} (g : Int) (h : rightT t (d + 1) = true) (ha : t.all = false) : rightT (keepC t g) (d + 1) = true := by
  rw [rightT_succ] at h ⊢
  simp only [Bool.and_eq_true] at h
  obtain ⟨⟨h1, h2⟩, h3⟩ := h
  have h0 := h1
  unfold okT at h1
  simp only [Bool.and_eq_true, decide_eq_true_eq] at h1
  obtain ⟨⟨⟨⟨⟨⟨⟨⟨q1, q2⟩, q3⟩, q4⟩, q5⟩, q6⟩, q7⟩, q8⟩, q9⟩ := h1
  obtain ⟨b0, b1⟩ := and_bounds g q1 q2
  have ea : (keepC t g).all = false := ha
  have ef : (keepC t g).flat = andB .i64 t.flat g := rfl
  have ep : (keepC t g).pair = if andB .i64 g 64 = 0 then 0 else t.pair := rfl
  have eps : (keepC t g).pairs = if andB .i64 g 64 = 0 then [] else t.pairs := rfl
  have en : (keepC t g).fn = if andB .i64 g 128 = 0 then 0 else t.fn := rfl
  have ens : (keepC t g).funs = if andB .i64 g 128 = 0 then [] else t.funs := rfl
  have pc0 : ((([] : List Ty).length : Nat) : Int) = pcnt 0 := by decide
  unfold okT
  rw [ea, ef, ep, eps, en, ens]
  by_cases h64 : andB .i64 g 64 = 0 <;> by_cases h128 : andB .i64 g 128 = 0 <;>
    simp only [h64, h128, if_true, if_false, b0, b1, decide_true, Bool.true_and, Bool.and_true, Bool.not_false, Bool.true_or, q3, q4, q5, q6, q8, q9, pc0, h2, h3, rightTs, Int.le_refl] <;> simp
theorem sz_keepC (t : Ty) (g : Int) : szT (keepC t g) ≤ szT t := by
  cases t with
  | mk a f p ps n ns =>
    show szT (Ty.mk a _ _ (if andB .i64 g 64 = 0 then [] else ps) _ (if andB .i64 g 128 = 0 then [] else ns)) ≤ _
    simp only [szT]
    split <;> split <;> simp [szTs] <;> omega
theorem fl_any : Fl anyT := ⟨by decide, by decide⟩
theorem right_anyT : rightT anyT 20 = true := by decide
theorem keep_facts {t : Ty} (g : Int) (h : rightT t 20 = true) (hs : szT t ≤ 300) : rightT (keepS t g) 20 = true ∧ szT (keepS t g) ≤ 300 ∧ tagsF (keepS t g) = andB .i64 (andB .i64 (tagsF t) g) 255 := by
  have rt : Rt t := ⟨20, h⟩
  have hfacts := okT_facts rt.ok
  unfold keepS
  cases ha : t.all with
  | false =>
    simp only [Bool.false_eq_true, if_false]
    exact ⟨right_keepC g h ha, Nat.le_trans (sz_keepC t g) hs, tags_keepC g ⟨hfacts.1.1, hfacts.1.2⟩ ha⟩
  | true =>
    have he : t = allT := hfacts.2.2.2.1 ha
    have c : ∀ G : BitVec 64, (BitVec.ofInt 64 255 &&& G) &&& BitVec.ofInt 64 255 = G &&& BitVec.ofInt 64 255 := by
      intro G
      rw [BitVec.and_comm (BitVec.ofInt 64 255) G, BitVec.and_assoc]; congr 1
    have eq : andB .i64 (andB .i64 255 g) 255 = andB .i64 g 255 := andB_of (by rw [andBV]; exact c _)
    have tt : tagsF t = 255 := by unfold tagsF; rw [ha]; rfl
    simp only [if_true]
    split
    · rename_i hg
      exact ⟨h, hs, by rw [tt, eq, hg]⟩
    · refine ⟨right_keepC g right_anyT rfl, Nat.le_trans (sz_keepC anyT g) (by decide), ?_⟩
      rw [tags_keepC g fl_any rfl, tt]
      have : tagsF anyT = 255 := by decide
      rw [this]
theorem sub_keep {t : Ty} (g : Int) (h : rightT t 20 = true) (hs : szT t ≤ 300) : S (keepS t g) t = true := by
  have rt : Rt t := ⟨20, h⟩
  have hfacts := okT_facts rt.ok
  cases ha : t.all with
  | true => exact S_all ha
  | false =>
    have hk := (keep_facts g h hs).1
    have e : keepS t g = keepC t g := by unfold keepS; rw [ha]; rfl
    rw [e] at hk ⊢
    have rk : Rt (keepC t g) := ⟨20, hk⟩
    have ea : (keepC t g).all = false := ha
    have ep : (keepC t g).pair = if andB .i64 g 64 = 0 then 0 else t.pair := rfl
    have eps : (keepC t g).pairs = if andB .i64 g 64 = 0 then [] else t.pairs := rfl
    have en : (keepC t g).fn = if andB .i64 g 128 = 0 then 0 else t.fn := rfl
    have ens : (keepC t g).funs = if andB .i64 g 128 = 0 then [] else t.funs := rfl
    refine (S_iff rk rt ea ha).2 ⟨subF_keep g hfacts.1.1 hfacts.1.2, ?_, ?_⟩
    · intro hp
      have h64 : ¬ andB .i64 g 64 = 0 := by intro h; rw [ep, if_pos h] at hp; exact hp rfl
      rw [if_neg h64] at ep eps
      exact pair_refl rk ea ha ep.symm eps.symm hp
    · intro hp
      have h128 : ¬ andB .i64 g 128 = 0 := by intro h; rw [en, if_pos h] at hp; exact hp rfl
      rw [if_neg h128] at en ens
      exact fn_refl rk en.symm ens.symm hp
theorem join_keep {t : Ty} (g : Int) (h : rightT t 20 = true) (hs : szT t ≤ 300) (ha : t.all = false) : J (keepS t g) (keepS t (notB .i64 g)) = t := by
  have rt : Rt t := ⟨20, h⟩
  have hfacts := okT_facts rt.ok
  have hk := (keep_facts g h hs).1
  have hk2 := (keep_facts (notB .i64 g) h hs).1
  have e : ∀ g, keepS t g = keepC t g := by intro g; unfold keepS; rw [ha]; rfl
  rw [e] at hk hk2
  rw [e, e]
  have rk : Rt (keepC t g) := ⟨20, hk⟩
  have rk2 : Rt (keepC t (notB .i64 g)) := ⟨20, hk2⟩
  rw [J_eq rk rk2 ha ha]
  have ef : ∀ g, (keepC t g).flat = andB .i64 t.flat g := fun _ => rfl
  have ep : ∀ g, (keepC t g).pair = if andB .i64 g 64 = 0 then 0 else t.pair := fun _ => rfl
  have eps : ∀ g, (keepC t g).pairs = if andB .i64 g 64 = 0 then [] else t.pairs := fun _ => rfl
  have en : ∀ g, (keepC t g).fn = if andB .i64 g 128 = 0 then 0 else t.fn := fun _ => rfl
  have ens : ∀ g, (keepC t g).funs = if andB .i64 g 128 = 0 then [] else t.funs := fun _ => rfl
  have p0 := hfacts.2.2.2.2.1
  have f0 : t.fn = 0 → t.funs = [] := fun h => hfacts.2.2.2.2.2.2.2.2 (by omega)
  have hJP : JP (keepC t g) (keepC t (notB .i64 g)) = (t.pair, t.pairs) := by
    unfold JP
    simp only [ep, eps, not64]
    by_cases h64 : andB .i64 g 64 = 0 <;> by_cases hp : t.pair = 0 <;> simp [h64, hp, p0]
  have hJG : joinG (keepC t g) (keepC t (notB .i64 g)) = (t.fn, t.funs) := by
    unfold joinG
    simp only [en, ens, not128]
    by_cases h128 : andB .i64 g 128 = 0 <;> by_cases hp : t.fn = 0 <;> simp [h128, hp, f0]
  rw [hJP, hJG, ef, ef, orF_keep g hfacts.1.1 hfacts.1.2]
  obtain ⟨a, f, p, ps, n, ns⟩ := t
  have ha : a = false := ha
  subst ha
  rfl
theorem partsG (t : Ty) (g : Int) (wt : WfT t) : g_w06_NarrowParts t g = some true := by
  unfold g_w06_NarrowParts
  simp only [oAwake, Option.bind_some, oLightT, if_pos wt]
  cases hl : decide (rsz t 60 < 120) with
  | false => rfl
  | true =>
  have hsz : szT t < 120 := by
    have h := of_decide_eq_true hl
    rw [rsz_sz t 60 (by omega)]; exact h
  simp only [oRightP, if_pos (show WfT t ∧ szT t ≤ 1000000 from ⟨wt, by omega⟩), Bool.not_true, cond_false, Option.bind_some]
  cases hr : (decide (szT t ≤ 300) && rightT t 20) with
  | false => rfl
  | true =>
  have hr2 : rightT t 20 = true := by simp only [Bool.and_eq_true] at hr; exact hr.2
  have rt : Rt t := ⟨20, hr2⟩
  have hfacts := okT_facts rt.ok
  have fl : Fl t := ⟨hfacts.1.1, hfacts.1.2⟩
  obtain ⟨k1, k2, k3⟩ := keep_facts g hr2 (by omega)
  obtain ⟨m1, m2, m3⟩ := keep_facts (notB .i64 g) hr2 (by omega)
  have ra : Rt (keepS t g) := ⟨20, k1⟩
  have rb : Rt (keepS t (notB .i64 g)) := ⟨20, m1⟩
  have wa := wf_keep g wt fl
  have wb := wf_keep (notB .i64 g) wt fl
  have wj : WfT (J (keepS t g) (keepS t (notB .i64 g))) := join_wf _ _ _ ra rb wa wb
  have s1 : subT (szT (keepS t g) + szT t) (keepS t g) t = true := sub_keep g hr2 (by omega)
  have s2 : subT (szT (keepS t (notB .i64 g)) + szT t) (keepS t (notB .i64 g)) t = true := sub_keep (notB .i64 g) hr2 (by omega)
  have hj : joinT (szT (keepS t g) + szT (keepS t (notB .i64 g))) (keepS t g) (keepS t (notB .i64 g)) = J (keepS t g) (keepS t (notB .i64 g)) := rfl
  have h12 : (t.all || sameT (J (keepS t g) (keepS t (notB .i64 g))) t) = true := by
    cases ha : t.all with
    | true => rfl
    | false => rw [join_keep g hr2 (by omega) ha, sameT_refl]; rfl
  simp only [Bool.not_true, cond_false, keep_p, Option.bind_some, oJoinP, if_pos (show Rt (keepS t g) ∧ Rt (keepS t (notB .i64 g)) ∧ WfT (keepS t g) ∧ WfT (keepS t (notB .i64 g)) from ⟨ra, rb, wa, wb⟩), hj, oSameT, if_pos wj, tags_p, k3, decide_true, cond_true,
    oSubP, if_pos (show Rt (keepS t g) ∧ Rt t ∧ WfT (keepS t g) ∧ WfT t from ⟨ra, rt, wa, wt⟩), if_pos (show Rt (keepS t (notB .i64 g)) ∧ Rt t ∧ WfT (keepS t (notB .i64 g)) ∧ WfT t from ⟨rb, rt, wb, wt⟩), s1, s2, oRightP, if_pos (show WfT (keepS t g) ∧ szT (keepS t g) ≤ 1000000 from ⟨wa, by omega⟩), k1, decide_eq_true k2, Bool.and_self]
  cases ha : t.all with
  | true => rfl
  | false =>
    rw [ha] at h12
    simp only [Bool.false_or] at h12
    rw [h12]; rfl
theorem parts (t : Ty) (g : Int) (wt : WfT t) : ∃ n, pcall (tabOf tabL) n 7 [vT t, .int .i64 g] = some (.ok (.bool true)) :=
  (g_w06_NarrowParts_ok (partsG t g wt)).get
end Go.Ev.Seat
namespace Go.Ev
set_option linter.unusedVariables false
set_option linter.unusedSimpArgs false
open Go
def HasT (P : Program) : Nat → TypeId → List AVal → Prop
  | 0, _, _ => False
  | n + 1, t, as => match P.underlying t with
    | some .bool => ∃ b, as = [.bool b]
    | some (.int k) => ∃ i, (Lit.int k i).wf = true ∧ as = [.int k i]
    | some .string => ∃ s : List UInt8, s.length ≤ maxLen ∧ as = [.str s]
    | some (.slice e) => ∃ xs : List AVal, xs.length ≤ maxLen ∧ as = [.lst xs false] ∧ ∀ x, x ∈ xs → HasT P n e x.flat ∧ (aggB P e = some true → ∃ cs, x = .agg cs) ∧ (aggB P e = some false → x.flat = [x])
    | some (.struct fs) => ∃ parts : List (List AVal), parts.length = fs.size ∧ as = parts.flatten ∧ ∀ (i : Nat) (f : Field) (p : List AVal), fs[i]? = some f → parts[i]? = some p → HasT P n f.type p
    | some (.array m e) => ∃ parts : List (List AVal), parts.length = m ∧ as = parts.flatten ∧ ∀ p, p ∈ parts → HasT P n e p
    | some (.pointer e) => as = [.nilp] ∨ ∃ cs, as = [.ro cs] ∧ HasT P n e cs
    | _ => False
def contig (P : Program) : Nat → List Field → Nat → Bool
  | off, [], tot => Nat.beq off tot
  | off, f :: fs, tot => Nat.beq f.offset off && contig P (off + P.cellsOf f.type) fs tot
def plainT (P : Program) (ts : List TypeId) (t : TypeId) : Bool :=
  match P.underlying t with
  | some .bool => true
  | some (.int _) => true
  | some .string => true
  | some (.slice e) => ts.contains e && Nat.ble 1 (P.cellsOf e)
  | some (.struct fs) => contig P 0 fs.toList (P.cellsOf t) && fs.toList.all fun f => ts.contains f.type
  | some (.array m e) => ts.contains e && Nat.beq (P.cellsOf t) (m * P.cellsOf e)
  | some (.pointer e) => ts.contains e && Nat.ble 1 (P.cellsOf e)
  | _ => false
def plainTs (P : Program) (ts : List TypeId) : Bool := ts.all (plainT P ts)
theorem build {α : Type} {Pr : Nat → α → Prop} : ∀ (n : Nat), (∀ i, i < n → ∃ y, Pr i y) → ∃ l : List α, l.length = n ∧ ∀ (i : Nat) (y : α), l[i]? = some y → Pr i y
  | 0, _ => ⟨[], rfl, by simp⟩
  | n + 1, h => by
    obtain ⟨l, h1, h2⟩ := build n (fun i hi => h i (by omega))
    obtain ⟨y, hy⟩ := h n (by omega)
    refine ⟨l ++ [y], by simp [h1], ?_⟩
    intro i z hz
    by_cases hi : i < l.length
    · rw [List.getElem?_append_left hi] at hz; exact h2 i z hz
    · rw [List.getElem?_append_right (by omega)] at hz
      have : i = n := by
        have := (List.getElem?_eq_some_iff.1 hz).1
        simp at this; omega
      subst this
      simp [h1] at hz; subst hz; exact hy
def scal : AVal → Bool
  | .agg _ => false
  | .tup _ => false
  | _ => true
def Flat1 (c : AVal) : Prop := rfree c ∧ scal c = true
theorem Flat1.flat {c : AVal} (h : Flat1 c) : c.flat = [c] := by
  have := h.2
  cases c <;> simp [scal] at this <;> rfl
theorem Flat1.one {Γ : Gh} {c : AVal} {d : Value} (h : Flat1 c) (hr : Rep Γ c d) : d.oneCell' = true := by
  have := h.2
  cases hr <;> first | rfl | (simp [scal] at this; done)
section
variable {H : Type} {enc : TypeId × Value → H} {P : Program} {w : World}
theorem reps_flatten_parts {Γ : Gh} : ∀ {parts : List (List AVal)} {cparts : List (List Value)}, parts.length = cparts.length → (∀ (i : Nat) (p : List AVal) (c : List Value), parts[i]? = some p → cparts[i]? = some c → Reps Γ p c) → Reps Γ parts.flatten cparts.flatten
  | [], [], _, _ => Reps.nil Γ
  | p :: ps, c :: cs, hl, h => by
    simp only [List.flatten_cons]
    exact (h 0 p c rfl rfl).append (reps_flatten_parts (by simpa using hl) fun i p c h1 h2 => h (i + 1) p c (by simpa using h1) (by simpa using h2))
  | [], _ :: _, hl, _ => by simp at hl
  | _ :: _, [], hl, _ => by simp at hl
theorem contig_parts : ∀ {fs : List Field} {off tot : Nat} {cs : List Value}, contig P off fs tot = true → cs.length = tot → (fs.map fun f => (cs.drop f.offset).take (P.cellsOf f.type)).flatten = cs.drop off
  | [], off, tot, cs, h, hl => by
    have := Nat.eq_of_beq_eq_true (by simpa [contig] using h)
    simp; omega
  | f :: fs, off, tot, cs, h, hl => by
    simp only [contig, Bool.and_eq_true] at h
    have h1 := Nat.eq_of_beq_eq_true h.1
    simp only [List.map_cons, List.flatten_cons]
    rw [contig_parts h.2 hl, h1, ← List.drop_drop, List.take_append_drop]
theorem array_parts {z : Nat} : ∀ {m : Nat} {cs : List Value}, cs.length = m * z → ((List.range m).map fun i => (cs.drop (i * z)).take z).flatten = cs
  | 0, cs, hl => by
    have : cs = [] := List.length_eq_zero_iff.1 (by omega)
    simp [this]
  | m + 1, cs, hl => by
    rw [List.range_succ_eq_map, List.map_cons, List.flatten_cons, List.map_map]
    have h := array_parts (z := z) (m := m) (cs := cs.drop z) (by simp [hl, Nat.add_mul])
    have e : ((fun i => (cs.drop (i * z)).take z) ∘ Nat.succ) = fun i => ((cs.drop z).drop (i * z)).take z := by
      funext i
      simp only [Function.comp, List.drop_drop, Nat.succ_eq_add_one, Nat.add_mul, Nat.one_mul]
      rw [Nat.add_comm]
    rw [e, h]
    simp
def mkEl (b : Option Bool) (p : List AVal) : AVal := match b with
  | some false => p.headD .nilp
  | _ => .agg p
theorem mkEl_rfree {b : Option Bool} {p : List AVal} (h : ∀ c, c ∈ p → rfree c) : rfree (mkEl b p) := by
  unfold mkEl
  split
  · cases p with
    | nil => rfl
    | cons c cs => exact h c (by simp)
  · exact lowL_iff.2 h
theorem HasT_single {ts : List TypeId} (hp : plainTs P ts = true) {n : Nat} {e : TypeId} {p : List AVal} (he : e ∈ ts) (ha : aggB P e = some false) (h : HasT P n e p) : ∃ c, p = [c] := by
  cases n with
  | zero => cases h
  | succ n =>
    unfold aggB at ha
    unfold HasT at h
    cases hu : P.underlying e with
    | none => rw [hu] at h; cases h
    | some u =>
      rw [hu] at h ha
      cases u <;> simp only [reduceCtorEq] at h ha <;> first | (cases ha; done) | (cases h; done) | skip
      · obtain ⟨b, rfl⟩ := h; exact ⟨_, rfl⟩
      · obtain ⟨i, _, rfl⟩ := h; exact ⟨_, rfl⟩
      · obtain ⟨b, _, rfl⟩ := h; exact ⟨_, rfl⟩
      · rcases h with rfl | ⟨cs, rfl, _⟩ <;> exact ⟨_, rfl⟩
      · obtain ⟨xs, _, rfl, _⟩ := h; exact ⟨_, rfl⟩
theorem mkEl_flat {ts : List TypeId} (hp : plainTs P ts = true) {n : Nat} {e : TypeId} {p : List AVal} (he : e ∈ ts) (h : HasT P n e p) (hf : ∀ c, c ∈ p → Flat1 c) : (mkEl (aggB P e) p).flat = p := by
  unfold mkEl
  split
  · rename_i ha
    obtain ⟨c, rfl⟩ := HasT_single hp he ha h
    exact (hf c (by simp)).flat
  · rfl
theorem flatL_mkEl {b : Option Bool} : ∀ {parts : List (List AVal)}, (∀ p, p ∈ parts → (mkEl b p).flat = p) → flatL (parts.map (mkEl b)) = parts.flatten
  | [], _ => rfl
  | p :: ps, h => by
    simp only [List.map_cons, flatL, List.flatten_cons, h p (by simp)]
    rw [flatL_mkEl fun q hq => h q (by simp [hq])]
theorem flatten_get {α : Type} {z : Nat} (hz : 0 < z) : ∀ {parts : List (List α)} {j : Nat} {c : α}, (∀ p, p ∈ parts → p.length = z) → parts.flatten[j]? = some c → ∃ p, parts[j / z]? = some p ∧ p[j % z]? = some c
  | [], j, c, _, h => by simp at h
  | p :: ps, j, c, hl, h => by
    have hp := hl p (by simp)
    rw [List.flatten_cons] at h
    by_cases hj : j < z
    · rw [List.getElem?_append_left (by omega)] at h
      rw [Nat.div_eq_of_lt hj, Nat.mod_eq_of_lt hj]
      exact ⟨p, rfl, h⟩
    · rw [List.getElem?_append_right (by omega), hp] at h
      obtain ⟨q, h1, h2⟩ := flatten_get hz (fun q hq => hl q (by simp [hq])) h
      have e1 : j / z = (j - z) / z + 1 := by
        rw [← Nat.add_div_right _ hz]; congr 1; omega
      have e2 : j % z = (j - z) % z := by
        rw [Nat.mod_eq_sub_mod (by omega)]
      exact ⟨q, by rw [e1]; exact h1, by rw [e2]; exact h2⟩
theorem trod_has {ts : List TypeId} (hp : plainTs P ts = true) : ∀ (n : Nat) (t : TypeId) (cs : List Value) (x : DataW H × List MemPlace), t ∈ ts → DataW.trod enc P w 0 (fun _ => true) true n t cs = some x →
    ∃ as : List AVal, Reps (Gh.all w) as cs ∧ HasT P n t as ∧ ∀ c, c ∈ as → Flat1 c := by
  intro n
  induction n with
  | zero => intro t cs x _ h; simp [DataW.trod] at h
  | succ n ih =>
    intro t cs x ht h
    have hpt := List.all_eq_true.1 hp t ht
    unfold plainT at hpt
    have hT : ∀ as, HasT P (n + 1) t as = HasT P (n + 1) t as := fun _ => rfl
    have single : ∀ (a : AVal) (v : Value), cs = [v] → Rep (Gh.all w) a v → Flat1 a → ∀ Q : List AVal → Prop, Q [a] → ∃ as : List AVal, Reps (Gh.all w) as cs ∧ Q as ∧ ∀ c, c ∈ as → Flat1 c := by
      rintro a v rfl hr hf Q hQ
      exact ⟨[a], Reps.cons hr (Reps.nil _), hQ, by simpa using hf⟩
    split at hpt
    · rename_i hu
      obtain ⟨b, hc, _⟩ := DataW.trod_bool hu h
      simp only [HasT, hu]
      exact single (.bool b) _ hc (.bool b) ⟨rfl, rfl⟩ _ ⟨b, rfl⟩
    · rename_i k hu
      obtain ⟨i, hc, _, hw⟩ := DataW.trod_int hu h
      simp only [HasT, hu]
      exact single (.int k i) _ hc (.int k i) ⟨rfl, rfl⟩ _ ⟨i, hw, rfl⟩
    · rename_i hu
      obtain ⟨s, hc, _, hl⟩ := DataW.trod_string hu h
      simp only [HasT, hu]
      refine single (.str s.data.toList) _ hc ?_ ⟨rfl, rfl⟩ _ ⟨s.data.toList, by rw [Array.length_toList]; exact hl, rfl⟩
      have := Rep.str (Γ := Gh.all w) s.data.toList
      simpa using this
    · rename_i e hu
      simp only [Bool.and_eq_true] at hpt
      have hz : 1 ≤ P.cellsOf e := Nat.le_of_ble_eq_true hpt.2
      have he : e ∈ ts := by simpa using hpt.1
      simp only [HasT, hu]
      rcases DataW.trod_slice hu h with ⟨hc, _⟩ | ⟨a, len, cap, elems, rest, m, hm, hc, _, _, hlc, hmax, hel, hget, _, _⟩
      · exact single (.lst [] false) _ hc (.lstN false) ⟨rfl, rfl⟩ _ ⟨[], by simp, rfl, by simp⟩
      · cases hm
        have each : ∀ i, i < len → ∃ p : List AVal, ∃ ds : List Value, p.length = P.cellsOf e ∧ Reps (Gh.all w) p ds ∧ HasT P n e p ∧ (∀ c, c ∈ p → Flat1 c) ∧ ∀ j, j < P.cellsOf e → w.cell? ((a.add (i * P.cellsOf e)).add j) = ds[j]? := by
          intro i hi
          have h1 := hget i hi
          have hx : elems[i]? = some elems[i] := List.getElem?_eq_getElem (by omega)
          rw [hx] at h1
          obtain ⟨cs', hc1, hc2⟩ := Option.bind_eq_some_iff.1 h1
          obtain ⟨p, h2, h3, h4⟩ := ih e cs' elems[i] he hc2
          obtain ⟨_, hl, hcell⟩ := World.cells?_some hc1
          exact ⟨p, cs', by rw [← h2.1, hl], h2, h3, h4, hcell⟩
        obtain ⟨parts, hpl, hpe⟩ := build len each
        rcases Nat.eq_zero_or_pos len with hl0 | hpos
        · subst hl0
          exact single (.lst [] false) _ hc (.lstE (by simp)) ⟨rfl, rfl⟩ _ ⟨[], by simp, rfl, by simp⟩
        · obtain ⟨blk, off, spot⟩ := a
          have hspot : spot = none := by
            obtain ⟨p, ds, q1, q2, _, _, q3⟩ := each 0 hpos
            have h0 := q3 0 hz
            rw [Nat.zero_mul, Addr.add_zero', Addr.add_zero'] at h0
            cases hx : ds[0]? with
            | none => have := (List.getElem?_eq_none_iff.1 hx); have := q2.1; omega
            | some v => rw [hx] at h0; exact World.cell?_spot h0
          subst hspot
          refine single (.lst (parts.map (mkEl (aggB P e))) false) _ hc ?_ ⟨?_, rfl⟩ _ ⟨parts.map (mkEl (aggB P e)), by simpa [hpl] using Nat.le_trans hlc hmax, rfl, ?_⟩
          · have hfl : ∀ p, p ∈ parts → (mkEl (aggB P e) p).flat = p := by
              intro p hp1
              obtain ⟨i, hi⟩ := List.getElem?_of_mem hp1
              obtain ⟨ds, q1, q2, q3, q4, q5⟩ := hpe i p hi
              exact mkEl_flat hp he q3 q4
            have hlens : ∀ p, p ∈ parts → p.length = P.cellsOf e := by
              intro p hp1
              obtain ⟨i, hi⟩ := List.getElem?_of_mem hp1
              obtain ⟨ds, q1, _⟩ := hpe i p hi
              exact q1
            have hall : ∀ (j : Nat) (c : AVal), parts.flatten[j]? = some c → ∃ d, w.cell? ⟨blk, off + j, none⟩ = some d ∧ Rep (Gh.all w) c d ∧ Flat1 c := by
              intro j c hj
              obtain ⟨p, hp1, hp2⟩ := flatten_get hz hlens hj
              obtain ⟨ds, q1, q2, q3, q4, q5⟩ := hpe _ p hp1
              obtain ⟨d, hd, hr⟩ := q2.get hp2
              refine ⟨d, ?_, hr, q4 c (List.mem_of_getElem? hp2)⟩
              have h6 := q5 (j % P.cellsOf e) (Nat.mod_lt _ hz)
              rw [Addr.add_lit, Addr.add_lit] at h6
              rw [← hd, ← h6]
              congr 2
              rw [Nat.add_assoc, Nat.mul_comm, Nat.div_add_mod]
            have hflat : flatL (parts.map (mkEl (aggB P e))) = parts.flatten := flatL_mkEl hfl
            have hlen2 : (parts.map (mkEl (aggB P e))).length = len := by simp [hpl]
            have key := Rep.lst (Γ := Gh.all w) (xs := parts.map (mkEl (aggB P e))) (e := false) (g := blk) (off := off) (cap := cap) (es := P.cellsOf e) (fun j => (w.cell? ⟨blk, off + j, none⟩).getD undef) (by omega) (by simp) ?_ ?_ ?_ ?_ ?_
            · rw [hlen2] at key; exact key
            · intro x hx
              obtain ⟨p, hp1, rfl⟩ := List.mem_map.1 hx
              simp only [AVal.width, hfl p hp1, hlens p hp1]
            · intro x hx
              obtain ⟨p, hp1, rfl⟩ := List.mem_map.1 hx
              obtain ⟨i, hi⟩ := List.getElem?_of_mem hp1
              obtain ⟨ds, q1, q2, q3, q4, q5⟩ := hpe i p hi
              exact mkEl_rfree (fun c hc => (q4 c hc).1)
            · intro j c hj
              rw [hflat] at hj
              obtain ⟨d, h1, h2, h3⟩ := hall j c hj
              simp only [Gh.all, h1, Option.getD_some]
            · intro j c hj
              rw [hflat] at hj
              obtain ⟨d, h1, h2, h3⟩ := hall j c hj
              simp only [h1, Option.getD_some]
              exact h3.one h2
            · intro j c hj
              rw [hflat] at hj
              obtain ⟨d, h1, h2, h3⟩ := hall j c hj
              simp only [h1, Option.getD_some]
              exact h2
          · rfl
          · intro x hx
            obtain ⟨p, hp1, rfl⟩ := List.mem_map.1 hx
            obtain ⟨i, hi⟩ := List.getElem?_of_mem hp1
            obtain ⟨ds, q1, q2, q3, q4, q5⟩ := hpe i p hi
            have hf := mkEl_flat hp he q3 q4
            refine ⟨by rw [hf]; exact q3, ?_, ?_⟩
            · intro h; exact ⟨p, by rw [h]; rfl⟩
            · intro h
              rw [hf]
              obtain ⟨c, hc1⟩ := HasT_single hp he h q3
              rw [hc1, h]; rfl
    · rename_i fs hu
      simp only [Bool.and_eq_true] at hpt
      simp only [HasT, hu]
      obtain ⟨xs, m, hm, _, hlen, hxl, hget⟩ := DataW.trod_struct hu h
      cases hm
      have each : ∀ i, i < fs.size → ∃ p : List AVal, ∀ f, fs[i]? = some f → Reps (Gh.all w) p ((cs.drop f.offset).take (P.cellsOf f.type)) ∧ HasT P n f.type p ∧ ∀ c, c ∈ p → Flat1 c := by
        intro i hi
        have hfi : fs[i]? = some fs[i] := Array.getElem?_eq_getElem hi
        have hx : xs[i]? = some xs[i] := List.getElem?_eq_getElem (by omega)
        have hmem : fs[i].type ∈ ts := by
          have := List.all_eq_true.1 hpt.2 fs[i] (by simp)
          simpa using this
        obtain ⟨p, h1, h2, h3⟩ := ih fs[i].type _ xs[i] hmem (by rw [hget i _ hfi, hx])
        exact ⟨p, fun f hf => by rw [hfi] at hf; cases hf; exact ⟨h1, h2, h3⟩⟩
      obtain ⟨parts, hpl, hpe⟩ := build fs.size each
      refine ⟨parts.flatten, ?_, ⟨parts, hpl, rfl, fun i f p hf hp => ((hpe i p hp) f hf).2.1⟩, ?_⟩
      · have := contig_parts (cs := cs) hpt.1 hlen
        rw [List.drop_zero] at this
        rw [← this]
        refine reps_flatten_parts (by simp [hpl]) ?_
        intro i p c h1 h2
        rw [List.getElem?_map, Option.map_eq_some_iff] at h2
        obtain ⟨f, hf, rfl⟩ := h2
        exact ((hpe i p h1) f (by simpa using hf)).1
      · intro c hc
        obtain ⟨p, hp1, hp2⟩ := List.mem_flatten.1 hc
        obtain ⟨i, hi⟩ := List.getElem?_of_mem hp1
        have hlt : i < fs.size := by rw [← hpl]; exact (List.getElem?_eq_some_iff.1 hi).1
        exact ((hpe i p hi) fs[i] (Array.getElem?_eq_getElem hlt)).2.2 c hp2
    · rename_i m e hu
      simp only [Bool.and_eq_true] at hpt
      simp only [HasT, hu]
      have he : e ∈ ts := by simpa using hpt.1
      have hsz := Nat.eq_of_beq_eq_true hpt.2
      obtain ⟨xs, k, hm, _, hlen, hxl, hget⟩ := DataW.trod_array hu h
      cases hm
      have each : ∀ i, i < m → ∃ p : List AVal, Reps (Gh.all w) p ((cs.drop (i * P.cellsOf e)).take (P.cellsOf e)) ∧ HasT P n e p ∧ ∀ c, c ∈ p → Flat1 c := by
        intro i hi
        have hx : xs[i]? = some xs[i] := List.getElem?_eq_getElem (by omega)
        exact ih e _ xs[i] he (by rw [hget i hi, hx])
      obtain ⟨parts, hpl, hpe⟩ := build m each
      refine ⟨parts.flatten, ?_, ⟨parts, hpl, rfl, ?_⟩, ?_⟩
      · have := array_parts (z := P.cellsOf e) (m := m) (cs := cs) (by omega)
        rw [← this]
        refine reps_flatten_parts (by simp [hpl]) ?_
        intro i p c h1 h2
        rw [List.getElem?_map, Option.map_eq_some_iff] at h2
        obtain ⟨j, hj, rfl⟩ := h2
        have hji : j = i := by
          have := List.getElem?_eq_some_iff.1 hj
          obtain ⟨hj1, hj2⟩ := this
          simp at hj2; omega
        subst hji
        exact (hpe j p h1).1
      · intro p hp1
        obtain ⟨i, hi⟩ := List.getElem?_of_mem hp1
        exact (hpe i p hi).2.1
      · intro c hc
        obtain ⟨p, hp1, hp2⟩ := List.mem_flatten.1 hc
        obtain ⟨i, hi⟩ := List.getElem?_of_mem hp1
        exact (hpe i p hi).2.2 c hp2
    · rename_i e hu
      simp only [Bool.and_eq_true] at hpt
      simp only [HasT, hu]
      have hz : 1 ≤ P.cellsOf e := Nat.le_of_ble_eq_true hpt.2
      have he : e ∈ ts := by simpa using hpt.1
      rcases DataW.trod_pointer hu h with ⟨hc, _⟩ | ⟨a, cs', y, m, hm, hc, _, hcells, hy⟩
      · exact single .nilp _ hc .nilp ⟨rfl, rfl⟩ _ (.inl rfl)
      · cases hm
        obtain ⟨p, h1, h2, h3⟩ := ih e cs' y he hy
        obtain ⟨hb, hl, hcell⟩ := World.cells?_some hcells
        have hspot : a.spot = none := by
          have h0 := hcell 0 (by omega)
          rw [Addr.add_zero'] at h0
          cases hx : cs'[0]? with
          | none => have := (List.getElem?_eq_none_iff.1 hx); omega
          | some v => rw [hx] at h0; exact World.cell?_spot h0
        obtain ⟨blk, off, spot⟩ := a
        simp only at hspot
        subst hspot
        refine single (.ro p) _ hc ?_ ⟨rfl, rfl⟩ _ (.inr ⟨p, rfl, h2⟩)
        have hd : ∀ (j : Nat) (c : AVal), p[j]? = some c → ∃ d, cs'[j]? = some d ∧ Rep (Gh.all w) c d ∧ w.cell? ⟨blk, off + j, none⟩ = some d := by
          intro j c hj
          obtain ⟨d, hd, hr⟩ := h1.get hj
          have hlt := (List.getElem?_eq_some_iff.1 hd).1
          refine ⟨d, hd, hr, ?_⟩
          have := hcell j (by omega)
          rw [Addr.add_lit] at this
          rw [this]; exact hd
        refine .ro (fun j => cs'.getD j undef) (fun c hc => (h3 c hc).1) ?_ ?_ ?_
        · intro j c hj
          obtain ⟨d, hd1, hr, hd2⟩ := hd j c hj
          simp only [Gh.all, hd2, List.getD, hd1, Option.getD_some]
        · intro j c hj
          obtain ⟨d, hd1, hr, hd2⟩ := hd j c hj
          simp only [List.getD, hd1, Option.getD_some]
          exact (h3 c (List.mem_of_getElem? hj)).one hr
        · intro j c hj
          obtain ⟨d, hd1, hr, hd2⟩ := hd j c hj
          simp only [List.getD, hd1, Option.getD_some]
          exact hr
    · cases hpt
end
section
variable {H : Type} {enc : TypeId × Value → H} {P : Program} {w : World}
theorem plain_cell {ts : List TypeId} (hp : plainTs P ts = true) {t : TypeId} {v : Value} {base : Nat} (ht : t ∈ ts) (ha : aggB P t = some false) (hok : Value.okWide P w .any base t v) : v.cells.toList = [v] := by
  have hpt := List.all_eq_true.1 hp t ht
  cases v <;> first | rfl | skip
  exfalso
  unfold aggB at ha
  unfold plainT at hpt
  unfold Value.okWide Cell.okWide Cell.ok at hok
  cases hu : P.underlying t with
  | none => rw [hu] at ha; cases ha
  | some u => rw [hu] at ha hpt hok; cases u <;> simp_all
theorem arg_has {ts : List TypeId} (hp : plainTs P ts = true) {t : TypeId} {v : Value} {d : DataW H} {ps : List MemPlace} {base : Nat} (ht : t ∈ ts) (hok : Value.okWide P w .any base t v)
    (h : DataW.Trod enc P w 0 (fun _ => true) true t v d ps) : ∃ (n : Nat) (as : List AVal), HasT P n t as ∧ (aggB P t = some true → Rep (Gh.all w) (.agg as) v) ∧ (aggB P t = some false → ∃ c, as = [c] ∧ Rep (Gh.all w) c v) := by
  obtain ⟨n, hf⟩ := h
  obtain ⟨as, h1, h2, h3⟩ := trod_has hp n t _ _ ht hf
  refine ⟨n, as, h2, ?_, ?_⟩
  · intro ha
    have hv : ∃ cs, v = .agg cs := by
      unfold Value.okWide at hok
      unfold aggB at ha
      cases hu : P.underlying t with
      | none => rw [hu] at ha; cases ha
      | some u =>
        rw [hu] at ha hok
        cases u <;> simp only [reduceCtorEq, Option.some.injEq, Bool.false_eq_true] at ha
        · obtain ⟨cs, hcs, _⟩ := hok; exact ⟨cs, hcs⟩
        · obtain ⟨cs, hcs, _⟩ := hok; exact ⟨cs, hcs⟩
    obtain ⟨cs, rfl⟩ := hv
    have e : (Value.agg cs).cells.toList = cs.toList := rfl
    rw [e] at h1
    have := Rep.agg (Γ := Gh.all w) h1.1 h1.2 (fun d hd => by
      obtain ⟨i, hi⟩ := List.getElem?_of_mem hd
      have hlt : i < as.length := by rw [← h1.1]; exact (List.getElem?_eq_some_iff.1 hi).1
      have ha' := List.getElem?_eq_getElem hlt
      exact (h3 _ (List.mem_of_getElem? ha')).one (h1.2 i _ _ ha' hi))
    simpa using this
  · intro ha
    have hc := plain_cell hp ht ha hok
    rw [hc] at h1
    obtain ⟨c, rfl⟩ := HasT_single hp ht ha h2
    exact ⟨c, rfl, h1.2 0 c v rfl rfl⟩
end
end Go.Ev
namespace Go.Ev
set_option linter.unusedVariables false
set_option linter.unusedSimpArgs false
open Go
theorem dec_list {α : Type} {enc : α → AVal} {Q : α → Prop} : ∀ {xs : List AVal}, (∀ x, x ∈ xs → ∃ y, x = enc y ∧ Q y) → ∃ ys : List α, xs = ys.map enc ∧ ∀ y, y ∈ ys → Q y
  | [], _ => ⟨[], rfl, by simp⟩
  | x :: xs, h => by
    obtain ⟨y, rfl, hy⟩ := h x (by simp)
    obtain ⟨ys, rfl, hys⟩ := dec_list (xs := xs) (fun z hz => h z (List.mem_cons_of_mem _ hz))
    exact ⟨y :: ys, rfl, by simpa using ⟨hy, hys⟩⟩
structure TyP (P : Program) (t s b i : TypeId) : Prop where
  fs : ∃ fs : Array Field, P.underlying t = some (.struct fs) ∧ fs.toList.map (·.type) = [b, i, i, s, i, s]
  sl : P.underlying s = some (.slice t)
  bo : P.underlying b = some .bool
  int : P.underlying i = some (.int .i64)
theorem HasT.bool_of {P : Program} {n : Nat} {t : TypeId} {as : List AVal} (hu : P.underlying t = some .bool) (h : HasT P n t as) : ∃ b, as = [.bool b] := by
  cases n with
  | zero => cases h
  | succ n => unfold HasT at h; rw [hu] at h; exact h
theorem HasT.int_of {P : Program} {n : Nat} {t : TypeId} {k : IntKind} {as : List AVal} (hu : P.underlying t = some (.int k)) (h : HasT P n t as) : ∃ i, (Lit.int k i).wf = true ∧ as = [.int k i] := by
  cases n with
  | zero => cases h
  | succ n => unfold HasT at h; rw [hu] at h; exact h
theorem HasT.slice_of {P : Program} {n : Nat} {t e : TypeId} {as : List AVal} (hu : P.underlying t = some (.slice e)) (h : HasT P (n + 1) t as) :
    ∃ xs : List AVal, xs.length ≤ maxLen ∧ as = [.lst xs false] ∧ ∀ x, x ∈ xs → HasT P n e x.flat ∧ (aggB P e = some true → ∃ cs, x = .agg cs) ∧ (aggB P e = some false → x.flat = [x]) := by
  unfold HasT at h; rw [hu] at h; exact h
theorem HasT.struct_of {P : Program} {n : Nat} {t : TypeId} {fs : Array Field} {l : List TypeId} {as : List AVal} (hu : P.underlying t = some (.struct fs)) (hl : fs.toList.map (·.type) = l) (h : HasT P (n + 1) t as) :
    ∃ parts : List (List AVal), parts.length = l.length ∧ as = parts.flatten ∧ ∀ (i : Nat) (u : TypeId) (p : List AVal), l[i]? = some u → parts[i]? = some p → HasT P n u p := by
  unfold HasT at h; rw [hu] at h
  obtain ⟨parts, h1, h2, h3⟩ := h
  refine ⟨parts, by rw [h1, ← hl]; simp, h2, ?_⟩
  intro i u p hu hp
  rw [← hl, List.getElem?_map, Option.map_eq_some_iff] at hu
  obtain ⟨f, hf, rfl⟩ := hu
  exact h3 i f p (by simpa using hf) hp
theorem i64_wf {i : Int} (h : (Lit.int .i64 i).wf = true) : -9223372036854775808 ≤ i ∧ i < 9223372036854775808 := by
  simp only [Lit.wf, Bool.and_eq_true, IntKind.min, IntKind.max, IntKind.signed, IntKind.bits] at h
  simp at h
  exact ⟨by omega, by omega⟩
theorem ty_dec {P : Program} {t s b i : TypeId} (hP : TyP P t s b i) : ∀ (n : Nat) (as : List AVal), HasT P n t as → ∃ x : Ty, as = cT x ∧ WfT x := by
  obtain ⟨fs, hu, hl⟩ := hP.fs
  have hagg : aggB P t = some true := by unfold aggB; rw [hu]
  intro n
  induction n using Nat.strongRecOn with
  | ind n ih =>
    intro as h
    cases n with
    | zero => cases h
    | succ n =>
      obtain ⟨parts, h1, rfl, h3⟩ := HasT.struct_of hu hl h
      obtain ⟨p0, p1, p2, p3, p4, p5, rfl⟩ := len6 h1
      obtain ⟨v0, rfl⟩ := HasT.bool_of hP.bo (h3 0 b p0 rfl rfl)
      obtain ⟨v1, w1, rfl⟩ := HasT.int_of hP.int (h3 1 i p1 rfl rfl)
      obtain ⟨v2, w2, rfl⟩ := HasT.int_of hP.int (h3 2 i p2 rfl rfl)
      obtain ⟨v4, w4, rfl⟩ := HasT.int_of hP.int (h3 4 i p4 rfl rfl)
      have hs3 := h3 3 s p3 rfl rfl
      have hs5 := h3 5 s p5 rfl rfl
      cases n with
      | zero => cases hs3
      | succ n =>
        have list : ∀ p, HasT P (n + 1) s p → ∃ ys : List Ty, p = [.lst (ys.map encT) false] ∧ ys.length < 9223372036854775808 ∧ ∀ y, y ∈ ys → WfT y := by
          intro p hp
          obtain ⟨xs, k1, rfl, k3⟩ := HasT.slice_of hP.sl hp
          obtain ⟨ys, rfl, hys⟩ := dec_list (enc := encT) (Q := WfT) (xs := xs) (by
            intro x hx
            obtain ⟨q1, q2, _⟩ := k3 x hx
            obtain ⟨cs, rfl⟩ := q2 hagg
            obtain ⟨y, hy, hw⟩ := ih n (by omega) _ q1
            refine ⟨y, ?_, hw⟩
            rw [encT_eq]
            have : cs = cT y := hy
            rw [this])
          refine ⟨ys, rfl, ?_, hys⟩
          rw [List.length_map] at k1
          have : maxLen = 9223372036854775807 := rfl
          omega
        obtain ⟨ys3, rfl, l3, q3⟩ := list p3 hs3
        obtain ⟨ys5, rfl, l5, q5⟩ := list p5 hs5
        exact ⟨⟨v0, v1, v2, ys3, v4, ys5⟩, rfl, .mk (i64_wf w1) (i64_wf w2) (i64_wf w4) l3 l5 q3 q5⟩
end Go.Ev
