/-
  Part 7 of a proof: CoerceMakes: for every input the law returns true, and what it was given reads behind the call as before. No conditions.
-/
import Derived.Test.YtbjoldcjbpngaaaP6
import Derived.KernelRfl
namespace Go.Ev.Seat
set_option linter.unusedVariables false
set_option linter.unusedSimpArgs false
open Go Go.Ev
set_option maxRecDepth 20000
attribute [local irreducible] pcall callF
theorem index_c (n : Nat) (l : List Co) (b : Bool) (f : FuncId) (caps : List AVal) (p : Co → Bool) (H : Heap) (hl : l.length < n) (hm : l.length < 9223372036854775808)
    (hf : ∀ x, x ∈ l → callA ⟨callF (tabOf tabL) n, n⟩ false f (vC x :: caps) H = some (.ok (.bool (p x)), H)) :
    callF (tabOf tabL) (n + 1) 62 [.lst (l.map encC) b, .fn f caps] H = some (.ok (.int .i64 (fidx p l 0)), H) := by
  refine callF_fin t62 ?_
  refine WL_seq ?_
  refine WL_reg ?_
  refine O_p rfl rfl rfl ?_
  refine WO_nil ?_
  refine WL_seq ?_
  apply WLp
  · (repeat (first | exact rzz | apply rcc rfl | apply rnn rfl))
  refine WL_seq ?_
  refine WL_seq ?_
  refine WL_reg ?_
  refine O_p rfl rfl rfl ?_
  refine O_h rfl rfl rfl rfl ?_
  refine O_p rfl rfl rfl ?_
  refine WO_nil ?_
  refine WL_seq ?_
  apply WLp
  · (repeat (first | exact rzz | apply rcc rfl | apply rnn rfl))
  refine WL_block ?_
  apply WL_forc (α := Nat) (fun i => [(8, .int .i64 (i : Nat))]) (fun i => i ≤ l.length ∧ fidx p l 0 = fidx p (l.drop i) i) (fun i => l.length - i) (0) (he := ?he) (hP := ?hP) (hk := ?hk) (round := ?round)
  case he =>
    (repeat (first | exact rzz | apply rcc rfl | apply rnn rfl))
  case hP =>
    exact ⟨by omega, rfl⟩
  case hk =>
    show l.length - 0 < n; omega
  case round =>
    rintro i ⟨hi, hs⟩
    dsimp only [List.cons_append, List.nil_append] at *
    refine WL_seq ?_
    refine WL_reg ?_
    refine O_p rfl rfl rfl ?_
    refine WO_nil ?_
    refine WL_seq ?_
    apply WLp
    · (repeat (first | exact rzz | apply rcc rfl | apply rnn rfl))
    refine WL_seq ?_
    refine WL_cond rfl (fun h9 => ?_) (fun h9 => ?_)
    · skip
      simp at h9
      obtain ⟨x, hx⟩ : ∃ x, (l)[i]? = some x := ⟨_, List.getElem?_eq_getElem (by omega)⟩
      have hmx := List.mem_of_getElem? hx
      have hg := drop_of hx
      refine WL_skip ?_
      refine WL_seq ?_
      apply WLp
      · (repeat (first | exact rzz | apply rcc rfl | apply rnn rfl))
      refine WL_seq ?_
      refine WL_block ?_
      refine WL_seq ?_
      refine WL_reg ?_
      refine O_p rfl rfl rfl ?_
      refine O_p rfl rfl rfl ?_
      refine WO_nil ?_
      refine WL_seq ?_
      apply WLp
      · (repeat (first | exact rzz | apply rcc rfl | apply rnn rfl))
      refine WL_seq ?_
      refine WL_reg ?_
      refine O_p rfl rfl rfl ?_
      refine O_p rfl rfl rfl ?_
      refine O_p rfl rfl rfl ?_
      refine O_ia rfl rfl (Int.natCast_nonneg _) (encC_get (i := (i : Nat)) hx) (encC_flat _) rfl ?_
      refine O_h rfl rfl rfl rfl ?_
      refine O_cv rfl rfl (hf x hmx) ?_
      refine WO_nil ?_
      refine WL_seq ?_
      apply WLp
      · (repeat (first | exact rzz | apply rcc rfl | apply rnn rfl))
      refine WL_cond rfl (fun h16 => ?_) (fun h16 => ?_)
      · skip
        have hr : fidx p l 0 = i := by
          rw [hs, hg]; simp [fidx, h16]
        refine WL_seq ?_
        refine WL_reg ?_
        refine O_p rfl rfl rfl ?_
        refine O_p rfl rfl rfl ?_
        refine WO_nil ?_
        refine WL_ret ?_
        refine Blk_ret ?_
        refine RndC_ret ?_
        refine Blk_ret ?_
        exact ⟨_, rfl, by rw [hr]; rfl, rfl⟩
      · skip
        refine WL_skip ?_
        refine WL_nil ?_
        refine Blk_norm (?_ : WL _ _ _ _ _)
        refine WL_seq ?_
        apply WLp
        · (repeat (first | exact rzz | apply rcc rfl | apply rnn rfl))
        refine WL_reg ?_
        refine O_p rfl rfl rfl ?_
        refine O_p rfl rfl rfl ?_
        refine WO_nil ?_
        refine WL_nil ?_
        refine RndC_norm (i + 1) (by refine ⟨by omega, ?_⟩; rw [hs, hg]; simp [fidx, h16]) (by show _ < _; omega) ?_ ?_
        · rw [wrap_succ (by omega)]; (repeat (first | exact rzz | apply rcc rfl | apply rnn rfl))
        · exact trunc_id (Nat.le_refl _)
    · skip
      have hr : fidx p l 0 = -1 := by
        simp at h9
        rw [hs, List.drop_eq_nil_of_le (by omega)]; rfl
      refine WL_exit ?_
      refine RndC_exit ?_
      refine Blk_exit (?_ : WL _ _ _ _ _)
      refine WL_seq ?_
      apply WLp
      · (repeat (first | exact rzz | apply rcc rfl | apply rnn rfl))
      refine WL_seq ?_
      refine WL_reg ?_
      refine O_p rfl rfl rfl ?_
      refine WO_nil ?_
      refine WL_ret ?_
      exact ⟨_, rfl, by rw [hr]; rfl, rfl⟩
theorem some_idx (n : Nat) (l : List Co) (hl : l.length < n) (hm : l.length < 1000000) : pcall (tabOf tabL) (n + 3) 62 [.lst (l.map encC) false, .fn 45 []] = some (.ok (.int .i64 (fidx (fun x => !passC x) l 0))) := by
  have := index_c (n + 2) l false 45 [] (fun x => !passC x) [] (by omega) (by omega) (fun x hx => callA_of rfl (acts_c n x))
  unfold pcall
  rw [this]; rfl
theorem some_c (n : Nat) (l : List Co) (hl : l.length < n) (hm : l.length < 1000000) : pcall (tabOf tabL) (n + 4) 56 [.lst (l.map encC) false, .fn 45 []] = some (.ok (.bool (l.any (fun x => !passC x)))) := by
  refine pcall_fin t56 ?_
  refine WL_seq ?_
  refine WL_reg ?_
  refine O_p rfl rfl rfl ?_
  refine WO_nil ?_
  refine WL_seq ?_
  apply WLp
  · (repeat (first | exact rzz | apply rcc rfl | apply rnn rfl))
  refine WL_seq ?_
  refine WL_reg ?_
  refine O_p rfl rfl rfl ?_
  refine O_p rfl rfl rfl ?_
  refine O_c 62 rfl rfl (callA_of rfl (some_idx n l hl hm)) ?_
  refine O_p rfl rfl rfl ?_
  refine O_p rfl rfl rfl ?_
  refine WO_nil ?_
  refine WL_ret ?_
  exact ⟨_, rfl, _, rfl, by rw [← fidx_any (fun x => !passC x) l 0]; try rfl⟩
theorem all_c2 (n : Nat) (l : List Co) (b : Bool) (h : l.length + 10 < n) (hm : l.length < 1000000) : pcall (tabOf tabL) (n + 1) 44 [.lst (l.map encC) b] = some (.ok (.bool (!anyA l))) := by
  rw [← all_anyA]; exact all_c n l b h hm
theorem deep_c : ∀ (n : Nat) (c : Co) (d : Nat), szC c + 20 < n → szC c ≤ 1000000 → d < 1000 → pcall (tabOf tabL) n 46 [vC c, .int .i64 (d : Nat)] = some (.ok (.bool (rightC c d)))
  | 0, c, d, h, _, _ => by omega
  | n + 1, c, d, h, hs1, hd => by
    have hz := szC_pos c
    obtain ⟨n, rfl⟩ : ∃ m, n = m + 1 := ⟨n - 1, by omega⟩
    have ih := deep_c (n + 1)
    have hp := lenC_pairs c
    have hf := lenC_funs c
    refine pcall_fin t46 ?_
    refine WL_seq ?_
    refine WL_reg ?_
    refine O_n rfl rfl rfl ?_
    refine O_p rfl rfl rfl ?_
    refine WO_nil ?_
    refine WL_seq ?_
    apply WLp
    · (repeat (first | exact rzz | apply rcc rfl | apply rnn rfl))
    refine WL_seq ?_
    refine WL_seq ?_
    refine WL_reg ?_
    refine O_p rfl rfl rfl ?_
    refine O_p rfl rfl rfl ?_
    refine O_p rfl rfl rfl ?_
    apply O_or [_, _, _] rfl rfl (hT := ?hT15) (h := ?hR15)
    case hT15 =>
      intro hb11
      refine O_p rfl rfl rfl ?_
      refine O_h rfl rfl rfl rfl ?_
      refine O_p rfl rfl rfl ?_
      exact WO_nil (WL_nil ⟨rfl, rfl, rfl⟩)
    case hR15 =>
      intro vs hvs
      obtain ⟨u12, u13, u14, rfl⟩ := len3 hvs
      clear hvs; dsimp only [junk]
      refine O_p rfl rfl rfl ?_
      apply O_or [_, _, _] rfl rfl (hT := ?hT20) (h := ?hR20)
      case hT20 =>
        intro hb16
        refine O_p rfl rfl rfl ?_
        refine O_h rfl rfl rfl rfl ?_
        refine O_p rfl rfl rfl ?_
        exact WO_nil (WL_nil ⟨rfl, rfl, rfl⟩)
      case hR20 =>
        intro vs hvs
        obtain ⟨u17, u18, u19, rfl⟩ := len3 hvs
        clear hvs; dsimp only [junk]
        refine O_p rfl rfl rfl ?_
        apply O_or [_, _, _] rfl rfl (hT := ?hT25) (h := ?hR25)
        case hT25 =>
          intro hb21
          refine O_p rfl rfl rfl ?_
          refine O_h rfl rfl rfl rfl ?_
          refine O_p rfl rfl rfl ?_
          exact WO_nil (WL_nil ⟨rfl, rfl, rfl⟩)
        case hR25 =>
          intro vs hvs
          obtain ⟨u22, u23, u24, rfl⟩ := len3 hvs
          clear hvs; dsimp only [junk]
          refine O_p rfl rfl rfl ?_
          apply O_or [_, _, _] rfl rfl (hT := ?hT30) (h := ?hR30)
          case hT30 =>
            intro hb26
            refine O_p rfl rfl rfl ?_
            refine O_h rfl rfl rfl rfl ?_
            refine O_p rfl rfl rfl ?_
            exact WO_nil (WL_nil ⟨rfl, rfl, rfl⟩)
          case hR30 =>
            intro vs hvs
            obtain ⟨u27, u28, u29, rfl⟩ := len3 hvs
            clear hvs; dsimp only [junk]
            refine O_p rfl rfl rfl ?_
            apply O_or [_, _, _] rfl rfl (hT := ?hT35) (h := ?hR35)
            case hT35 =>
              intro hb31
              refine O_p rfl rfl rfl ?_
              refine O_h rfl rfl rfl rfl ?_
              refine O_p rfl rfl rfl ?_
              exact WO_nil (WL_nil ⟨rfl, rfl, rfl⟩)
            case hR35 =>
              intro vs hvs
              obtain ⟨u32, u33, u34, rfl⟩ := len3 hvs
              clear hvs; dsimp only [junk]
              refine O_p rfl rfl rfl ?_
              apply O_or [_, _, _] rfl rfl (hT := ?hT40) (h := ?hR40)
              case hT40 =>
                intro hb36
                refine O_p rfl rfl rfl ?_
                refine O_h rfl rfl rfl rfl ?_
                refine O_p rfl rfl rfl ?_
                exact WO_nil (WL_nil ⟨rfl, rfl, rfl⟩)
              case hR40 =>
                intro vs hvs
                obtain ⟨u37, u38, u39, rfl⟩ := len3 hvs
                clear hvs; dsimp only [junk]
                refine O_p rfl rfl rfl ?_
                apply O_or [_, _, _] rfl rfl (hT := ?hT45) (h := ?hR45)
                case hT45 =>
                  intro hb41
                  refine O_p rfl rfl rfl ?_
                  refine O_h rfl rfl rfl rfl ?_
                  refine O_p rfl rfl rfl ?_
                  exact WO_nil (WL_nil ⟨rfl, rfl, rfl⟩)
                case hR45 =>
                  intro vs hvs
                  obtain ⟨u42, u43, u44, rfl⟩ := len3 hvs
                  clear hvs; dsimp only [junk]
                  refine O_p rfl rfl rfl ?_
                  apply O_or [_, _, _] rfl rfl (hT := ?hT50) (h := ?hR50)
                  case hT50 =>
                    intro hb46
                    refine O_p rfl rfl rfl ?_
                    refine O_h rfl rfl rfl rfl ?_
                    refine O_p rfl rfl rfl ?_
                    exact WO_nil (WL_nil ⟨rfl, rfl, rfl⟩)
                  case hR50 =>
                    intro vs hvs
                    obtain ⟨u47, u48, u49, rfl⟩ := len3 hvs
                    clear hvs; dsimp only [junk]
                    refine WO_nil ?_
                    refine WL_seq ?_
                    apply WLp
                    · (repeat (first | exact rzz | apply rcc rfl | apply rnn rfl))
                    try clear u12 u13 u14 u17 u18 u19 u22 u23 u24 u27 u28 u29 u32 u33 u34 u37 u38 u39 u42 u43 u44 u47 u48 u49
                    refine WL_cond rfl (fun h50 => ?_) (fun h50 => ?_)
                    · skip
                      have hr : rightC c d = false := by
                        cases d with
                        | zero => exact rightC_zero c
                        | succ d =>
                          rw [rightC_succ]
                          have : okC c = false := by
                            rw [← Bool.not_eq_true, okC_iff]
                            rintro ⟨q1, q2, q3, q4, q5, q6, q7, q8⟩
                            simp [lab] at q2 q3
                            simp at h50; omega
                          simp [this]
                      refine WL_seq ?_
                      refine WL_reg ?_
                      refine O_p rfl rfl rfl ?_
                      refine WO_nil ?_
                      refine WL_ret ?_
                      exact ⟨_, rfl, _, rfl, by rw [hr]⟩
                    · skip
                      simp at h50
                      obtain ⟨d, rfl⟩ : ∃ e, d = e + 1 := ⟨d - 1, by omega⟩
                      have hl1 : IntKind.i64.wrap (((d + 1 : Nat) : Int) - 1) = (d : Int) := by rw [kw_i64_id (by omega) (by omega)]; omega
                      refine WL_skip ?_
                      refine WL_seq ?_
                      apply WLp
                      · (repeat (first | exact rzz | apply rcc rfl | apply rnn rfl))
                      refine WL_seq ?_
                      refine WL_seq ?_
                      refine WL_reg ?_
                      refine O_p rfl rfl rfl ?_
                      refine WO_nil ?_
                      refine WL_seq ?_
                      apply WLp
                      · (repeat (first | exact rzz | apply rcc rfl | apply rnn rfl))
                      refine WL_block ?_
                      apply WL_forc (α := Nat) (fun i => [(5, .int .i64 (i : Nat))]) (fun i => i ≤ 6 ∧ ∀ j, j < i → lab (c.flat j) = true) (fun i => 6 - i) (0) (he := ?he) (hP := ?hP) (hk := ?hk) (round := ?round)
                      case he =>
                        (repeat (first | exact rzz | apply rcc rfl | apply rnn rfl))
                      case hP =>
                        exact ⟨by omega, fun j hj => by omega⟩
                      case hk =>
                        show 6 - 0 < n + 1; omega
                      case round =>
                        rintro i ⟨hi, hs⟩
                        dsimp only [List.cons_append, List.nil_append] at *
                        refine WL_seq ?_
                        refine WL_seq ?_
                        refine WL_reg ?_
                        refine O_p rfl rfl rfl ?_
                        refine O_p rfl rfl rfl ?_
                        refine WO_nil ?_
                        refine WL_seq ?_
                        apply WLp
                        · (repeat (first | exact rzz | apply rcc rfl | apply rnn rfl))
                        refine WL_cond rfl (fun h52 => ?_) (fun h52 => ?_)
                        · skip
                          replace h52 : i < 6 := by simp at h52; omega
                          refine WL_skip ?_
                          refine WL_seq ?_
                          apply WLp
                          · (repeat (first | exact rzz | apply rcc rfl | apply rnn rfl))
                          refine WL_seq ?_
                          refine WL_block ?_
                          refine WL_seq ?_
                          refine WL_reg ?_
                          refine O_p rfl rfl rfl ?_
                          refine O_p rfl rfl rfl ?_
                          refine O_iaa rfl rfl h52 ?_
                          refine O_ld (v := .int .i64 (c.flat i)) rfl rfl (by simp; exact cC_get h52) ?_
                          refine O_p rfl rfl rfl ?_
                          refine O_p rfl rfl rfl ?_
                          apply O_or [_, _, _, _, _] rfl rfl (hT := ?hT66) (h := ?hR66)
                          case hT66 =>
                            intro hb60
                            refine O_p rfl rfl rfl ?_
                            refine O_p rfl rfl rfl ?_
                            refine O_iaa rfl rfl h52 ?_
                            refine O_ld (v := .int .i64 (c.flat i)) rfl rfl (by simp; exact cC_get h52) ?_
                            refine O_p rfl rfl rfl ?_
                            exact WO_nil (WL_nil ⟨rfl, rfl, rfl⟩)
                          case hR66 =>
                            intro vs hvs
                            obtain ⟨u61, u62, u63, u64, u65, rfl⟩ := len5 hvs
                            clear hvs; dsimp only [junk]
                            refine WO_nil ?_
                            refine WL_seq ?_
                            apply WLp
                            · (repeat (first | exact rzz | apply rcc rfl | apply rnn rfl))
                            try clear u61 u62 u63 u64 u65
                            refine WL_cond rfl (fun h66 => ?_) (fun h66 => ?_)
                            · skip
                              have hr : rightC c (d + 1) = false := by
                                rw [rightC_succ]
                                have : okC c = false := by
                                  rw [← Bool.not_eq_true, okC_iff]
                                  rintro ⟨q1, q2, q3, q4, q5, q6, q7, q8, q9, q10, q11, q12, q13, q14, q15⟩
                                  have q := six_at q1 h52
                                  simp [lab] at q; simp at h66; omega
                                simp [this]
                              refine WL_seq ?_
                              refine WL_reg ?_
                              refine O_p rfl rfl rfl ?_
                              refine WO_nil ?_
                              refine WL_ret ?_
                              refine Blk_ret ?_
                              refine RndC_ret ?_
                              refine Blk_ret ?_
                              exact ⟨_, rfl, _, rfl, by rw [hr]⟩
                            · skip
                              have hl : lab (c.flat i) = true := by simp at h66; simp [lab, h66]
                              refine WL_skip ?_
                              refine WL_nil ?_
                              refine Blk_norm (?_ : WL _ _ _ _ _)
                              refine WL_seq ?_
                              apply WLp
                              · (repeat (first | exact rzz | apply rcc rfl | apply rnn rfl))
                              refine WL_reg ?_
                              refine O_p rfl rfl rfl ?_
                              refine O_p rfl rfl rfl ?_
                              refine O_p rfl rfl rfl ?_
                              refine WO_nil ?_
                              refine WL_nil ?_
                              refine RndC_norm (i + 1) (by refine ⟨by omega, fun j hj => ?_⟩; rcases Nat.lt_succ_iff_lt_or_eq.1 hj with q | q; exact hs j q; rw [q]; exact hl) (by show _ < _; omega) ?_ rfl
                              · rw [wrap_succ (by omega)]; (repeat (first | exact rzz | apply rcc rfl | apply rnn rfl))
                        · skip
                          have hq0 : six (fun i => lab (c.flat i)) = true := by
                            simp at h52
                            exact six_all fun j hj => hs j (by omega)
                          refine WL_exit ?_
                          refine RndC_exit ?_
                          refine Blk_exit (?_ : WL _ _ _ _ _)
                          refine WL_seq ?_
                          apply WLp
                          · (repeat (first | exact rzz | apply rcc rfl | apply rnn rfl))
                          refine WL_seq ?_
                          refine WL_reg ?_
                          refine O_h rfl rfl rfl rfl ?_
                          refine O_p rfl rfl rfl ?_
                          refine WO_nil ?_
                          refine WL_seq ?_
                          apply WLp
                          · (repeat (first | exact rzz | apply rcc rfl | apply rnn rfl))
                          refine WL_seq ?_
                          refine WL_seq ?_
                          refine WL_drawS (ops := [_, _, _, _, _, _, _, _, _, _, _, _, _, _, _, _, _, _, _, _, _, _, _, _, _, _, _, _, _, _, _, _, _, _]) rfl rfl ?_
                          refine O_p rfl rfl rfl ?_
                          refine O_h rfl rfl rfl rfl ?_
                          refine O_h rfl rfl rfl rfl ?_
                          refine O_p rfl rfl rfl ?_
                          refine O_p rfl rfl rfl ?_
                          refine O_h rfl rfl rfl rfl ?_
                          refine O_ia rfl rfl (by omega) (pcntC_get (by omega) (by omega)) rfl rfl ?_
                          refine O_h rfl rfl rfl rfl ?_
                          refine O_p rfl rfl rfl ?_
                          refine O_p rfl rfl rfl ?_
                          apply O_or [_, _, _, _, _, _, _, _] rfl rfl (hT := ?hT86) (h := ?hR86)
                          case hT86 =>
                            intro hb77
                            refine O_p rfl rfl rfl ?_
                            refine O_h rfl rfl rfl rfl ?_
                            refine O_p rfl rfl rfl ?_
                            refine O_p rfl rfl rfl ?_
                            apply O_and [_, _, _] rfl rfl (hT := ?hT85) (h := ?hR85)
                            case hT85 =>
                              intro hb81
                              refine O_p rfl rfl rfl ?_
                              refine O_h rfl rfl rfl rfl ?_
                              refine O_p rfl rfl rfl ?_
                              exact WO_nil (WL_nil ⟨rfl, rfl, rfl⟩)
                            case hR85 =>
                              intro vs hvs
                              obtain ⟨u82, u83, u84, rfl⟩ := len3 hvs
                              clear hvs; dsimp only [junk]
                              exact WO_nil (WL_nil ⟨rfl, rfl, rfl⟩)
                          case hR86 =>
                            intro vs hvs
                            obtain ⟨u78, u79, u80, u81, u82, u83, u84, u85, rfl⟩ := len8 hvs
                            clear hvs; dsimp only [junk]
                            refine O_p rfl rfl rfl ?_
                            apply O_or [_, _, _, _, _, _, _, _, _, _, _, _, _] rfl rfl (hT := ?hT101) (h := ?hR101)
                            case hT101 =>
                              intro hb87
                              refine O_p rfl rfl rfl ?_
                              refine O_h rfl rfl rfl rfl ?_
                              refine O_p rfl rfl rfl ?_
                              refine O_p rfl rfl rfl ?_
                              apply O_or [_, _, _] rfl rfl (hT := ?hT95) (h := ?hR95)
                              case hT95 =>
                                intro hb91
                                refine O_p rfl rfl rfl ?_
                                refine O_h rfl rfl rfl rfl ?_
                                refine O_p rfl rfl rfl ?_
                                exact WO_nil (WL_nil ⟨rfl, rfl, rfl⟩)
                              case hR95 =>
                                intro vs hvs
                                obtain ⟨u92, u93, u94, rfl⟩ := len3 hvs
                                clear hvs; dsimp only [junk]
                                refine O_p rfl rfl rfl ?_
                                apply O_and [_, _, _] rfl rfl (hT := ?hT100) (h := ?hR100)
                                case hT100 =>
                                  intro hb96
                                  refine O_p rfl rfl rfl ?_
                                  refine O_h rfl rfl rfl rfl ?_
                                  refine O_p rfl rfl rfl ?_
                                  exact WO_nil (WL_nil ⟨rfl, rfl, rfl⟩)
                                case hR100 =>
                                  intro vs hvs
                                  obtain ⟨u97, u98, u99, rfl⟩ := len3 hvs
                                  clear hvs; dsimp only [junk]
                                  exact WO_nil (WL_nil ⟨rfl, rfl, rfl⟩)
                            case hR101 =>
                              intro vs hvs
                              obtain ⟨u88, u89, u90, u91, u92, u93, u94, u95, u96, u97, u98, u99, u100, rfl⟩ := len13 hvs
                              clear hvs; dsimp only [junk]
                              refine WO_nil (WL_nil ⟨rfl, ?_⟩)
                              refine WL_seq ?_
                              apply WLp
                              · (repeat (first | exact rzz | apply rcc rfl | apply rnn rfl))
                              try clear u82 u83 u84 u78 u79 u80 u81 u82 u83 u84 u85 u92 u93 u94 u97 u98 u99 u88 u89 u90 u91 u92 u93 u94 u95 u96 u97 u98 u99 u100
                              refine WL_cond rfl (fun h101 => ?_) (fun h101 => ?_)
                              · skip
                                have hr : rightC c (d + 1) = false := by
                                  rw [rightC_succ]
                                  have : okC c = false := by
                                    rw [← Bool.not_eq_true, okC_iff]
                                    rintro ⟨q1, q2, q3, q4, q5, q6, q7, q8, q9, q10, q11, q12, q13, q14, q15⟩
                                    simp only [List.length_map] at h101
                                    generalize c.pairs.length = lp at h101 q8
                                    cases ha : anyA c.pairs <;> simp [ha, q8] at h101 q11 q12 <;> omega
                                  simp [this]
                                refine WL_seq ?_
                                refine WL_reg ?_
                                refine O_p rfl rfl rfl ?_
                                refine WO_nil ?_
                                refine WL_ret ?_
                                exact ⟨_, rfl, _, rfl, by rw [hr]⟩
                              · skip
                                refine WL_skip ?_
                                refine WL_seq ?_
                                apply WLp
                                · (repeat (first | exact rzz | apply rcc rfl | apply rnn rfl))
                                refine WL_seq ?_
                                refine WL_seq ?_
                                refine WL_reg ?_
                                refine O_p rfl rfl rfl ?_
                                refine O_h rfl rfl rfl rfl ?_
                                refine O_p rfl rfl rfl ?_
                                refine O_p rfl rfl rfl ?_
                                apply O_and [_, _, _] rfl rfl (hT := ?hT109) (h := ?hR109)
                                case hT109 =>
                                  intro hb105
                                  refine O_p rfl rfl rfl ?_
                                  refine O_h rfl rfl rfl rfl ?_
                                  refine O_c 44 rfl rfl (callA_of rfl (all_c2 n c.pairs false (by omega) (by omega))) ?_
                                  exact WO_nil (WL_nil ⟨rfl, rfl, rfl⟩)
                                case hR109 =>
                                  intro vs hvs
                                  obtain ⟨u106, u107, u108, rfl⟩ := len3 hvs
                                  clear hvs; dsimp only [junk]
                                  refine O_p rfl rfl rfl ?_
                                  apply O_and [_, _, _] rfl rfl (hT := ?hT114) (h := ?hR114)
                                  case hT114 =>
                                    intro hb110
                                    refine O_p rfl rfl rfl ?_
                                    refine O_h rfl rfl rfl rfl ?_
                                    refine O_p rfl rfl rfl ?_
                                    exact WO_nil (WL_nil ⟨rfl, rfl, rfl⟩)
                                  case hR114 =>
                                    intro vs hvs
                                    obtain ⟨u111, u112, u113, rfl⟩ := len3 hvs
                                    clear hvs; dsimp only [junk]
                                    refine WO_nil ?_
                                    refine WL_seq ?_
                                    apply WLp
                                    · (repeat (first | exact rzz | apply rcc rfl | apply rnn rfl))
                                    try clear u106 u107 u108 u111 u112 u113
                                    refine WL_cond rfl (fun h114 => ?_) (fun h114 => ?_)
                                    · skip
                                      have hr : rightC c (d + 1) = false := by
                                        rw [rightC_succ]
                                        have : okC c = false := by
                                          rw [← Bool.not_eq_true, okC_iff]
                                          rintro ⟨q1, q2, q3, q4, q5, q6, q7, q8, q9, q10, q11, q12, q13, q14, q15⟩
                                          cases ha : anyA c.pairs <;> simp [ha] at h114 q11 q12 <;> omega
                                        simp [this]
                                      refine WL_seq ?_
                                      refine WL_reg ?_
                                      refine O_p rfl rfl rfl ?_
                                      refine WO_nil ?_
                                      refine WL_ret ?_
                                      exact ⟨_, rfl, _, rfl, by rw [hr]⟩
                                    · skip
                                      refine WL_skip ?_
                                      refine WL_seq ?_
                                      apply WLp
                                      · (repeat (first | exact rzz | apply rcc rfl | apply rnn rfl))
                                      refine WL_seq ?_
                                      refine WL_seq ?_
                                      refine WL_reg ?_
                                      refine O_p rfl rfl rfl ?_
                                      refine O_h rfl rfl rfl rfl ?_
                                      refine O_p rfl rfl rfl ?_
                                      refine O_p rfl rfl rfl ?_
                                      apply O_and [_, _, _, _] rfl rfl (hT := ?hT123) (h := ?hR123)
                                      case hT123 =>
                                        intro hb118
                                        refine O_p rfl rfl rfl ?_
                                        refine O_h rfl rfl rfl rfl ?_
                                        refine O_h rfl rfl rfl rfl ?_
                                        refine O_p rfl rfl rfl ?_
                                        exact WO_nil (WL_nil ⟨rfl, rfl, rfl⟩)
                                      case hR123 =>
                                        intro vs hvs
                                        obtain ⟨u119, u120, u121, u122, rfl⟩ := len4 hvs
                                        clear hvs; dsimp only [junk]
                                        refine O_p rfl rfl rfl ?_
                                        apply O_or [_, _, _, _, _, _, _, _, _, _, _, _, _, _, _, _, _, _, _, _] rfl rfl (hT := ?hT145) (h := ?hR145)
                                        case hT145 =>
                                          intro hb124
                                          refine O_p rfl rfl rfl ?_
                                          refine O_h rfl rfl rfl rfl ?_
                                          refine O_p rfl rfl rfl ?_
                                          refine O_p rfl rfl rfl ?_
                                          apply O_and [_, _, _, _, _, _, _, _, _, _, _, _, _, _, _] rfl rfl (hT := ?hT144) (h := ?hR144)
                                          case hT144 =>
                                            intro hb128
                                            refine O_p rfl rfl rfl ?_
                                            refine O_h rfl rfl rfl rfl ?_
                                            refine O_h rfl rfl rfl rfl ?_
                                            refine O_p rfl rfl rfl ?_
                                            refine O_p rfl rfl rfl ?_
                                            apply O_or [_, _, _, _] rfl rfl (hT := ?hT138) (h := ?hR138)
                                            case hT138 =>
                                              intro hb133
                                              refine O_p rfl rfl rfl ?_
                                              refine O_h rfl rfl rfl rfl ?_
                                              refine O_h rfl rfl rfl rfl ?_
                                              refine O_p rfl rfl rfl ?_
                                              exact WO_nil (WL_nil ⟨rfl, rfl, rfl⟩)
                                            case hR138 =>
                                              intro vs hvs
                                              obtain ⟨u134, u135, u136, u137, rfl⟩ := len4 hvs
                                              clear hvs; dsimp only [junk]
                                              refine O_p rfl rfl rfl ?_
                                              apply O_or [_, _, _] rfl rfl (hT := ?hT143) (h := ?hR143)
                                              case hT143 =>
                                                intro hb139
                                                refine O_p rfl rfl rfl ?_
                                                refine O_h rfl rfl rfl rfl ?_
                                                refine O_c 44 rfl rfl (callA_of rfl (all_c2 n c.funs false (by omega) (by omega))) ?_
                                                exact WO_nil (WL_nil ⟨rfl, rfl, rfl⟩)
                                              case hR143 =>
                                                intro vs hvs
                                                obtain ⟨u140, u141, u142, rfl⟩ := len3 hvs
                                                clear hvs; dsimp only [junk]
                                                exact WO_nil (WL_nil ⟨rfl, rfl, rfl⟩)
                                          case hR144 =>
                                            intro vs hvs
                                            obtain ⟨u129, u130, u131, u132, u133, u134, u135, u136, u137, u138, u139, u140, u141, u142, u143, rfl⟩ := len15 hvs
                                            clear hvs; dsimp only [junk]
                                            exact WO_nil (WL_nil ⟨rfl, rfl, rfl⟩)
                                        case hR145 =>
                                          intro vs hvs
                                          obtain ⟨u125, u126, u127, u128, u129, u130, u131, u132, u133, u134, u135, u136, u137, u138, u139, u140, u141, u142, u143, u144, rfl⟩ := len20 hvs
                                          clear hvs; dsimp only [junk]
                                          refine O_p rfl rfl rfl ?_
                                          apply O_or [_, _, _, _, _, _, _] rfl rfl (hT := ?hT154) (h := ?hR154)
                                          case hT154 =>
                                            intro hb146
                                            refine O_p rfl rfl rfl ?_
                                            refine O_h rfl rfl rfl rfl ?_
                                            refine O_p rfl rfl rfl ?_
                                            refine O_p rfl rfl rfl ?_
                                            refine O_h rfl rfl rfl rfl ?_
                                            refine O_p rfl rfl rfl ?_
                                            refine O_p rfl rfl rfl ?_
                                            exact WO_nil (WL_nil ⟨rfl, rfl, rfl⟩)
                                          case hR154 =>
                                            intro vs hvs
                                            obtain ⟨u147, u148, u149, u150, u151, u152, u153, rfl⟩ := len7 hvs
                                            clear hvs; dsimp only [junk]
                                            refine WO_nil ?_
                                            refine WL_seq ?_
                                            apply WLp
                                            · (repeat (first | exact rzz | apply rcc rfl | apply rnn rfl))
                                            try clear u119 u120 u121 u122 u134 u135 u136 u137 u140 u141 u142 u129 u130 u131 u132 u133 u134 u135 u136 u137 u138 u139 u140 u141 u142 u143 u125 u126 u127 u128 u129 u130 u131 u132 u133 u134 u135 u136 u137 u138 u139 u140 u141 u142 u143 u144 u147 u148 u149 u150 u151 u152 u153
                                            refine WL_cond rfl (fun h154 => ?_) (fun h154 => ?_)
                                            · skip
                                              have hr : rightC c (d + 1) = false := by
                                                rw [rightC_succ]
                                                have : okC c = false := by
                                                  rw [← Bool.not_eq_true, okC_iff]
                                                  rintro ⟨q1, q2, q3, q4, q5, q6, q7, q8, q9, q10, q11, q12, q13, q14, q15⟩
                                                  have hal : anyA c.funs = true → 1 ≤ c.funs.length := anyA_len
                                                  simp only [List.length_map] at h154
                                                  generalize c.funs.length = lf at h154 q13 q14 hal
                                                  cases ha : anyA c.funs <;> by_cases a1 : c.fn = 1 <;> by_cases a2 : c.flab = 0 <;> simp [a1, a2, ha] at h154 q15 q14 q13 hal <;> omega
                                                simp [this]
                                              refine WL_seq ?_
                                              refine WL_reg ?_
                                              refine O_p rfl rfl rfl ?_
                                              refine WO_nil ?_
                                              refine WL_ret ?_
                                              exact ⟨_, rfl, _, rfl, by rw [hr]⟩
                                            · skip
                                              have hok : okC c = true := by
                                                rw [okC_iff]
                                                refine ⟨hq0, by simp [lab]; omega, by simp [lab]; omega, ?_⟩
                                                simp only [List.length_map] at h101 h154
                                                generalize c.pairs.length = lp at h101 ⊢
                                                generalize c.funs.length = lf at h154 ⊢
                                                by_cases a1 : c.fn = 1 <;> by_cases a2 : c.flab = 0 <;> cases ha : anyA c.pairs <;> cases hb : anyA c.funs <;> simp [a1, a2, ha, hb] at h101 h114 h154 ⊢ <;> omega
                                              refine WL_skip ?_
                                              refine WL_seq ?_
                                              apply WLp
                                              · (repeat (first | exact rzz | apply rcc rfl | apply rnn rfl))
                                              refine WL_seq ?_
                                              refine WL_seq ?_
                                              refine WL_reg ?_
                                              refine O_p rfl rfl rfl ?_
                                              refine WO_nil ?_
                                              refine WL_seq ?_
                                              apply WLp
                                              · (repeat (first | exact rzz | apply rcc rfl | apply rnn rfl))
                                              refine WL_block ?_
                                              apply WL_forc (α := Nat) (fun i => [(7, .int .i64 (i : Nat))]) (fun i => i ≤ c.pairs.length ∧ rightCs c.pairs d = rightCs (c.pairs.drop i) d) (fun i => c.pairs.length - i) (0) (he := ?he) (hP := ?hP) (hk := ?hk) (round := ?round)
                                              case he =>
                                                (repeat (first | exact rzz | apply rcc rfl | apply rnn rfl))
                                              case hP =>
                                                exact ⟨by omega, rfl⟩
                                              case hk =>
                                                show c.pairs.length - 0 < n + 1; omega
                                              case round =>
                                                rintro i ⟨hi, hs⟩
                                                dsimp only [List.cons_append, List.nil_append] at *
                                                refine WL_seq ?_
                                                refine WL_seq ?_
                                                refine WL_reg ?_
                                                refine O_p rfl rfl rfl ?_
                                                refine O_p rfl rfl rfl ?_
                                                refine O_h rfl rfl rfl rfl ?_
                                                refine O_h rfl rfl rfl rfl ?_
                                                refine O_p rfl rfl rfl ?_
                                                refine WO_nil ?_
                                                refine WL_seq ?_
                                                apply WLp
                                                · (repeat (first | exact rzz | apply rcc rfl | apply rnn rfl))
                                                refine WL_cond rfl (fun h159 => ?_) (fun h159 => ?_)
                                                · skip
                                                  simp at h159
                                                  obtain ⟨x, hx⟩ : ∃ x, (c.pairs)[i]? = some x := ⟨_, List.getElem?_eq_getElem (by omega)⟩
                                                  have hmx := List.mem_of_getElem? hx
                                                  have hsx := szC_pairs hmx
                                                  have hg := drop_of hx
                                                  refine WL_skip ?_
                                                  refine WL_seq ?_
                                                  apply WLp
                                                  · (repeat (first | exact rzz | apply rcc rfl | apply rnn rfl))
                                                  refine WL_seq ?_
                                                  refine WL_block ?_
                                                  refine WL_seq ?_
                                                  refine WL_reg ?_
                                                  refine O_p rfl rfl rfl ?_
                                                  refine O_h rfl rfl rfl rfl ?_
                                                  refine O_p rfl rfl rfl ?_
                                                  refine O_ia rfl rfl (Int.natCast_nonneg _) (encC_get (i := (i : Nat)) hx) (encC_flat _) rfl ?_
                                                  refine O_h rfl rfl rfl rfl ?_
                                                  refine O_p rfl rfl rfl ?_
                                                  refine O_p rfl rfl rfl ?_
                                                  refine O_c 46 rfl rfl (callA_of rfl (by rw [hl1]; exact ih x d (by omega) (by omega) (by omega))) ?_
                                                  refine O_p rfl rfl rfl ?_
                                                  refine WO_nil ?_
                                                  refine WL_seq ?_
                                                  apply WLp
                                                  · (repeat (first | exact rzz | apply rcc rfl | apply rnn rfl))
                                                  refine WL_cond rfl (fun h170 => ?_) (fun h170 => ?_)
                                                  · skip
                                                    have hr : rightC c (d + 1) = false := by
                                                      simp at h170
                                                      rw [rightC_succ, hs, hg]; simp [rightCs, h170]
                                                    refine WL_seq ?_
                                                    refine WL_reg ?_
                                                    refine O_p rfl rfl rfl ?_
                                                    refine WO_nil ?_
                                                    refine WL_ret ?_
                                                    refine Blk_ret ?_
                                                    refine RndC_ret ?_
                                                    refine Blk_ret ?_
                                                    exact ⟨_, rfl, _, rfl, by rw [hr]⟩
                                                  · skip
                                                    refine WL_skip ?_
                                                    refine WL_nil ?_
                                                    refine Blk_norm (?_ : WL _ _ _ _ _)
                                                    refine WL_seq ?_
                                                    apply WLp
                                                    · (repeat (first | exact rzz | apply rcc rfl | apply rnn rfl))
                                                    refine WL_reg ?_
                                                    refine O_p rfl rfl rfl ?_
                                                    refine O_p rfl rfl rfl ?_
                                                    refine O_p rfl rfl rfl ?_
                                                    refine WO_nil ?_
                                                    refine WL_nil ?_
                                                    simp at h170
                                                    refine RndC_norm (i + 1) (by refine ⟨by omega, ?_⟩; rw [hs, hg, rightCs, h170]; rfl) (by show _ < _; omega) ?_ rfl
                                                    · rw [wrap_succ (by omega)]; (repeat (first | exact rzz | apply rcc rfl | apply rnn rfl))
                                                · skip
                                                  have hq : rightCs c.pairs d = true := by
                                                    simp at h159
                                                    rw [hs, List.drop_eq_nil_of_le (by omega)]; rfl
                                                  refine WL_exit ?_
                                                  refine RndC_exit ?_
                                                  refine Blk_exit (?_ : WL _ _ _ _ _)
                                                  refine WL_seq ?_
                                                  apply WLp
                                                  · (repeat (first | exact rzz | apply rcc rfl | apply rnn rfl))
                                                  refine WL_seq ?_
                                                  refine WL_seq ?_
                                                  refine WL_reg ?_
                                                  refine O_p rfl rfl rfl ?_
                                                  refine WO_nil ?_
                                                  refine WL_seq ?_
                                                  apply WLp
                                                  · (repeat (first | exact rzz | apply rcc rfl | apply rnn rfl))
                                                  refine WL_block ?_
                                                  apply WL_forc (α := Nat) (fun i => [(8, .int .i64 (i : Nat))]) (fun i => i ≤ c.funs.length ∧ rightCs c.funs d = rightCs (c.funs.drop i) d) (fun i => c.funs.length - i) (0) (he := ?he) (hP := ?hP) (hk := ?hk) (round := ?round)
                                                  case he =>
                                                    (repeat (first | exact rzz | apply rcc rfl | apply rnn rfl))
                                                  case hP =>
                                                    exact ⟨by omega, rfl⟩
                                                  case hk =>
                                                    show c.funs.length - 0 < n + 1; omega
                                                  case round =>
                                                    rintro i ⟨hi, hs⟩
                                                    dsimp only [List.cons_append, List.nil_append] at *
                                                    refine WL_seq ?_
                                                    refine WL_seq ?_
                                                    refine WL_reg ?_
                                                    refine O_p rfl rfl rfl ?_
                                                    refine O_p rfl rfl rfl ?_
                                                    refine O_h rfl rfl rfl rfl ?_
                                                    refine O_h rfl rfl rfl rfl ?_
                                                    refine O_p rfl rfl rfl ?_
                                                    refine WO_nil ?_
                                                    refine WL_seq ?_
                                                    apply WLp
                                                    · (repeat (first | exact rzz | apply rcc rfl | apply rnn rfl))
                                                    refine WL_cond rfl (fun h175 => ?_) (fun h175 => ?_)
                                                    · skip
                                                      simp at h175
                                                      obtain ⟨x, hx⟩ : ∃ x, (c.funs)[i]? = some x := ⟨_, List.getElem?_eq_getElem (by omega)⟩
                                                      have hmx := List.mem_of_getElem? hx
                                                      have hsx := szC_funs hmx
                                                      have hg := drop_of hx
                                                      refine WL_skip ?_
                                                      refine WL_seq ?_
                                                      apply WLp
                                                      · (repeat (first | exact rzz | apply rcc rfl | apply rnn rfl))
                                                      refine WL_seq ?_
                                                      refine WL_block ?_
                                                      refine WL_seq ?_
                                                      refine WL_reg ?_
                                                      refine O_p rfl rfl rfl ?_
                                                      refine O_h rfl rfl rfl rfl ?_
                                                      refine O_p rfl rfl rfl ?_
                                                      refine O_ia rfl rfl (Int.natCast_nonneg _) (encC_get (i := (i : Nat)) hx) (encC_flat _) rfl ?_
                                                      refine O_h rfl rfl rfl rfl ?_
                                                      refine O_p rfl rfl rfl ?_
                                                      refine O_p rfl rfl rfl ?_
                                                      refine O_c 46 rfl rfl (callA_of rfl (by rw [hl1]; exact ih x d (by omega) (by omega) (by omega))) ?_
                                                      refine O_p rfl rfl rfl ?_
                                                      refine WO_nil ?_
                                                      refine WL_seq ?_
                                                      apply WLp
                                                      · (repeat (first | exact rzz | apply rcc rfl | apply rnn rfl))
                                                      refine WL_cond rfl (fun h186 => ?_) (fun h186 => ?_)
                                                      · skip
                                                        have hr : rightC c (d + 1) = false := by
                                                          simp at h186
                                                          rw [rightC_succ, hs, hg]; simp [rightCs, h186]
                                                        refine WL_seq ?_
                                                        refine WL_reg ?_
                                                        refine O_p rfl rfl rfl ?_
                                                        refine WO_nil ?_
                                                        refine WL_ret ?_
                                                        refine Blk_ret ?_
                                                        refine RndC_ret ?_
                                                        refine Blk_ret ?_
                                                        exact ⟨_, rfl, _, rfl, by rw [hr]⟩
                                                      · skip
                                                        refine WL_skip ?_
                                                        refine WL_nil ?_
                                                        refine Blk_norm (?_ : WL _ _ _ _ _)
                                                        refine WL_seq ?_
                                                        apply WLp
                                                        · (repeat (first | exact rzz | apply rcc rfl | apply rnn rfl))
                                                        refine WL_reg ?_
                                                        refine O_p rfl rfl rfl ?_
                                                        refine O_p rfl rfl rfl ?_
                                                        refine O_p rfl rfl rfl ?_
                                                        refine WO_nil ?_
                                                        refine WL_nil ?_
                                                        simp at h186
                                                        refine RndC_norm (i + 1) (by refine ⟨by omega, ?_⟩; rw [hs, hg, rightCs, h186]; rfl) (by show _ < _; omega) ?_ rfl
                                                        · rw [wrap_succ (by omega)]; (repeat (first | exact rzz | apply rcc rfl | apply rnn rfl))
                                                    · skip
                                                      have hr : rightC c (d + 1) = true := by
                                                        simp at h175
                                                        rw [rightC_succ, hok, hq, hs, List.drop_eq_nil_of_le (by omega)]; rfl
                                                      refine WL_exit ?_
                                                      refine RndC_exit ?_
                                                      refine Blk_exit (?_ : WL _ _ _ _ _)
                                                      refine WL_seq ?_
                                                      apply WLp
                                                      · (repeat (first | exact rzz | apply rcc rfl | apply rnn rfl))
                                                      refine WL_seq ?_
                                                      refine WL_reg ?_
                                                      refine O_p rfl rfl rfl ?_
                                                      refine WO_nil ?_
                                                      refine WL_ret ?_
                                                      exact ⟨_, rfl, _, rfl, by rw [hr]⟩
theorem right_ref (n : Nat) (c : Co) (h : szC c + 20 < n) (hs : szC c ≤ 1000000) : pcall (tabOf tabL) (n + 1) 17 [vC c] = some (.ok (.bool (rightC c 25))) := by
  refine pcall_fin t17 ?_
  refine WL_seq ?_
  refine WL_reg ?_
  refine O_n rfl rfl rfl ?_
  refine O_p rfl rfl rfl ?_
  refine WO_nil ?_
  refine WL_seq ?_
  apply WLp
  · (repeat (first | exact rzz | apply rcc rfl | apply rnn rfl))
  refine WL_seq ?_
  refine WL_reg ?_
  refine O_h rfl rfl rfl rfl ?_
  refine O_c 46 rfl rfl (callA_of rfl (deep_c n c 25 h hs (by omega))) ?_
  refine O_p rfl rfl rfl ?_
  refine WO_nil ?_
  refine WL_ret ?_
  exact ⟨_, rfl, _, rfl, rfl⟩
end Go.Ev.Seat
namespace Go.Ev.Seat
set_option linter.unusedVariables false
set_option linter.unusedSimpArgs false
open Go Go.Ev
set_option maxRecDepth 20000
attribute [local irreducible] pcall callF
theorem car_c (n : Nat) (c : Co) (hok : okC c = true) : pcall (tabOf tabL) (n + 1) 31 [vC c] = some (.ok (vC (carC c))) := by
  have hfc := okC_facts hok
  refine pcall_fin t31 ?_
  refine WL_seq ?_
  refine WL_reg ?_
  refine O_n rfl rfl rfl ?_
  refine O_n rfl rfl rfl ?_
  refine WO_nil ?_
  refine WL_seq ?_
  apply WLp
  · (repeat (first | exact rzz | apply rcc rfl | apply rnn rfl))
  refine WL_seq ?_
  refine WL_seq ?_
  refine WL_reg ?_
  refine O_p rfl rfl rfl ?_
  refine O_h rfl rfl rfl rfl ?_
  refine O_p rfl rfl rfl ?_
  refine WO_nil ?_
  refine WL_seq ?_
  apply WLp
  · (repeat (first | exact rzz | apply rcc rfl | apply rnn rfl))
  refine WL_cond rfl (fun h5 => ?_) (fun h5 => ?_)
  · skip
    have hr : carC c = zeroC := by
      simp at h5; unfold carC; rw [if_pos h5]
    refine WL_seq ?_
    refine WL_reg ?_
    refine O_p rfl rfl rfl ?_
    refine O_hn rfl rfl rfl rfl ?_
    refine WO_nil ?_
    refine WL_ret ?_
    exact ⟨_, rfl, _, rfl, by rw [hr]; rfl⟩
  · skip
    simp at h5
    obtain ⟨x, hx, hr⟩ : ∃ x, c.pairs[0]? = some x ∧ carC c = x := by
      unfold carC; rw [if_neg (by omega)]
      rcases (show c.pair = 2 ∨ c.pair = 3 by omega) with q | q
      · obtain ⟨x, y, hp⟩ := pairs2 hok q; exact ⟨x, by rw [hp]; rfl, by rw [hp]; rfl⟩
      · obtain ⟨x, hp⟩ := pairs3 hok q; exact ⟨x, by rw [hp]; rfl, by rw [hp]; rfl⟩
    refine WL_skip ?_
    refine WL_seq ?_
    apply WLp
    · (repeat (first | exact rzz | apply rcc rfl | apply rnn rfl))
    refine WL_seq ?_
    refine WL_reg ?_
    refine O_p rfl rfl rfl ?_
    refine O_h rfl rfl rfl rfl ?_
    refine O_ia rfl rfl (Int.natCast_nonneg _) (encC_get (i := (0 : Nat)) hx) (encC_flat _) rfl ?_
    refine O_h rfl rfl rfl rfl ?_
    refine O_hn rfl rfl rfl rfl ?_
    refine WO_nil ?_
    refine WL_ret ?_
    exact ⟨_, rfl, _, rfl, by rw [hr]; rfl⟩
theorem cdr_c (n : Nat) (c : Co) (hok : okC c = true) : pcall (tabOf tabL) (n + 1) 33 [vC c] = some (.ok (vC (cdrC c))) := by
  have hfc := okC_facts hok
  refine pcall_fin t33 ?_
  refine WL_seq ?_
  refine WL_reg ?_
  refine O_n rfl rfl rfl ?_
  refine O_n rfl rfl rfl ?_
  refine WO_nil ?_
  refine WL_seq ?_
  apply WLp
  · (repeat (first | exact rzz | apply rcc rfl | apply rnn rfl))
  conv => arg 4; (try simp only [nrm, Nat.reduceAdd, pCT, tCT, putCells, AVal.flat])
  conv => arg 3; (try simp only [nrm, Nat.reduceAdd, pCT, tCT, putCells, AVal.flat])
  refine WL_seq ?_
  refine WL_seq ?_
  refine WL_reg ?_
  refine O_p rfl rfl rfl ?_
  refine O_h rfl rfl rfl rfl ?_
  refine WO_nil ?_
  refine WL_seq ?_
  apply WLp
  · (repeat (first | exact rzz | apply rcc rfl | apply rnn rfl))
  conv => arg 4; (try simp only [nrm, Nat.reduceAdd, pCT, tCT, putCells, AVal.flat])
  conv => arg 3; (try simp only [nrm, Nat.reduceAdd, pCT, tCT, putCells, AVal.flat])
  refine WL_block ?_
  refine WL_seq ?_
  refine WL_reg ?_
  refine O_p rfl rfl rfl ?_
  refine O_p rfl rfl rfl ?_
  refine WO_nil ?_
  refine WL_seq ?_
  apply WLp
  · (repeat (first | exact rzz | apply rcc rfl | apply rnn rfl))
  conv => arg 4; (try simp only [nrm, Nat.reduceAdd, pCT, tCT, putCells, AVal.flat])
  conv => arg 3; (try simp only [nrm, Nat.reduceAdd, pCT, tCT, putCells, AVal.flat])
  refine WL_cond rfl (fun h7 => ?_) (fun h7 => ?_)
  · skip
    simp at h7
    obtain ⟨x, y, hp⟩ := pairs2 hok h7
    have hy : c.pairs[1]? = some y := by rw [hp]; rfl
    have hr : cC (cdrC c) = cC y := by unfold cdrC; rw [if_pos h7, hp]; rfl
    refine WL_seq ?_
    refine WL_reg ?_
    refine O_p rfl rfl rfl ?_
    refine O_h rfl rfl rfl rfl ?_
    refine O_ia rfl rfl (Int.natCast_nonneg _) (encC_get (i := (1 : Nat)) hy) (encC_flat _) rfl ?_
    refine O_h rfl rfl rfl rfl ?_
    refine O_hn rfl rfl rfl rfl ?_
    refine WO_nil ?_
    refine WL_ret ?_
    refine Blk_ret ?_
    exact ⟨_, rfl, _, rfl, by show _ = Ex.ok _; rw [show vC (cdrC c) = .agg (cC (cdrC c)) from rfl, hr]; try rfl⟩
  · skip
    simp at h7
    refine WL_seq ?_
    refine WL_reg ?_
    refine O_p rfl rfl rfl ?_
    refine O_p rfl rfl rfl ?_
    refine WO_nil ?_
    refine WL_seq ?_
    apply WLp
    · (repeat (first | exact rzz | apply rcc rfl | apply rnn rfl))
    conv => arg 4; (try simp only [nrm, Nat.reduceAdd, pCT, tCT, putCells, AVal.flat])
    conv => arg 3; (try simp only [nrm, Nat.reduceAdd, pCT, tCT, putCells, AVal.flat])
    refine WL_cond rfl (fun h13 => ?_) (fun h13 => ?_)
    · skip
      simp at h13
      obtain ⟨x, hp⟩ := pairs3 hok h13
      have hr0 : cdrC c = listsC x c.plab := by unfold cdrC; rw [if_neg h7, if_pos h13, hp]; rfl
      refine WL_seq ?_
      refine WL_reg ?_
      refine O_p rfl rfl rfl ?_
      refine O_h rfl rfl rfl rfl ?_
      refine O_p rfl rfl rfl ?_
      refine WO_nil ?_
      refine WL_seq ?_
      apply WLp
      · (repeat (first | exact rzz | apply rcc rfl | apply rnn rfl))
      conv => arg 4; (try simp only [nrm, Nat.reduceAdd, pCT, tCT, putCells, AVal.flat])
      conv => arg 3; (try simp only [nrm, Nat.reduceAdd, pCT, tCT, putCells, AVal.flat])
      refine WL_seq ?_
      refine WL_reg ?_
      refine O_p rfl rfl rfl ?_
      refine O_p rfl rfl rfl ?_
      refine O_p rfl rfl rfl ?_
      refine O_p rfl rfl rfl ?_
      refine O_p rfl rfl rfl ?_
      refine O_v (.agg ([.int .i64 (c.plab), .int .i64 (c.plab), .int .i64 (c.plab), .int .i64 (c.plab), .int .i64 0, .int .i64 (c.plab)])) rfl rfl rfl rfl ?_
      refine O_p rfl rfl rfl ?_
      refine O_p rfl rfl rfl ?_
      refine O_h rfl rfl rfl rfl ?_
      refine O_v (.agg ([.int .i64 (c.plab), .int .i64 (c.plab), .int .i64 (c.plab), .int .i64 (c.plab), .int .i64 0, .int .i64 (c.plab), .int .i64 3, .int .i64 (c.plab), .lst (c.pairs.map encC) false, .int .i64 0, .int .i64 0, .lst [] true])) rfl rfl rfl rfl ?_
      refine O_n rfl rfl rfl ?_
      refine O_hn rfl rfl rfl rfl ?_
      refine WO_nil ?_
      refine WL_seq ?_
      apply WLp
      · (repeat (first | exact rzz | apply rcc rfl | apply rnn rfl))
      conv => arg 4; (try simp only [nrm, Nat.reduceAdd, pCT, tCT, putCells, AVal.flat])
      conv => arg 3; (try simp only [nrm, Nat.reduceAdd, pCT, tCT, putCells, AVal.flat])
      refine WL_seq ?_
      refine WL_seq ?_
      refine WL_reg ?_
      refine O_p rfl rfl rfl ?_
      refine O_p rfl rfl rfl ?_
      refine WO_nil ?_
      refine WL_seq ?_
      apply WLp
      · (repeat (first | exact rzz | apply rcc rfl | apply rnn rfl))
      conv => arg 4; (try simp only [nrm, Nat.reduceAdd, pCT, tCT, putCells, AVal.flat])
      conv => arg 3; (try simp only [nrm, Nat.reduceAdd, pCT, tCT, putCells, AVal.flat])
      refine WL_cond rfl (fun h28 => ?_) (fun h28 => ?_)
      · skip
        simp at h28
        have hr : cC (cdrC c) = _ := (congrArg cC hr0).trans (listsC_1 x _ h28)
        simp only [hp, List.map_cons, List.map_nil, encC_eq]
        refine WL_reg ?_
        refine O_p rfl rfl rfl ?_
        refine O_p rfl rfl rfl ?_
        refine O_hn rfl rfl rfl rfl ?_
        refine O_p rfl rfl rfl ?_
        refine O_hn rfl rfl rfl rfl ?_
        refine WO_nil ?_
        refine WL_seq ?_
        apply WLp
        · (repeat (first | exact rzz | apply rcc rfl | apply rnn rfl))
        conv => arg 4; (try simp only [nrm, Nat.reduceAdd, pCT, tCT, putCells, AVal.flat])
        conv => arg 3; (try simp only [nrm, Nat.reduceAdd, pCT, tCT, putCells, AVal.flat])
        refine WL_seq ?_
        refine WL_reg ?_
        refine O_h rfl rfl rfl rfl ?_
        refine O_hn rfl rfl rfl rfl ?_
        refine WO_nil ?_
        refine WL_ret ?_
        refine Blk_ret ?_
        exact ⟨_, rfl, _, rfl, by show _ = Ex.ok _; rw [show vC (cdrC c) = .agg (cC (cdrC c)) from rfl, hr]; try rfl⟩
      · skip
        simp at h28
        have hr : cC (cdrC c) = _ := (congrArg cC hr0).trans (listsC_0 x _ h28)
        simp only [hp, List.map_cons, List.map_nil, encC_eq]
        refine WL_skip ?_
        refine WL_seq ?_
        apply WLp
        · (repeat (first | exact rzz | apply rcc rfl | apply rnn rfl))
        conv => arg 4; (try simp only [nrm, Nat.reduceAdd, pCT, tCT, putCells, AVal.flat])
        conv => arg 3; (try simp only [nrm, Nat.reduceAdd, pCT, tCT, putCells, AVal.flat])
        refine WL_seq ?_
        refine WL_reg ?_
        refine O_h rfl rfl rfl rfl ?_
        refine O_hn rfl rfl rfl rfl ?_
        refine WO_nil ?_
        refine WL_ret ?_
        refine Blk_ret ?_
        exact ⟨_, rfl, _, rfl, by show _ = Ex.ok _; rw [show vC (cdrC c) = .agg (cC (cdrC c)) from rfl, hr]; try rfl⟩
    · skip
      simp at h13
      have hr : cC (cdrC c) = cC zeroC := by unfold cdrC; rw [if_neg h7, if_neg h13]
      refine WL_skip ?_
      refine WL_nil ?_
      refine Blk_norm (?_ : WL _ _ _ _ _)
      refine WL_seq ?_
      apply WLp
      · (repeat (first | exact rzz | apply rcc rfl | apply rnn rfl))
      conv => arg 4; (try simp only [nrm, Nat.reduceAdd, pCT, tCT, putCells, AVal.flat])
      conv => arg 3; (try simp only [nrm, Nat.reduceAdd, pCT, tCT, putCells, AVal.flat])
      refine WL_seq ?_
      refine WL_reg ?_
      refine O_p rfl rfl rfl ?_
      refine O_hn rfl rfl rfl rfl ?_
      refine WO_nil ?_
      refine WL_ret ?_
      exact ⟨_, rfl, _, rfl, by show _ = Ex.ok _; rw [show vC (cdrC c) = .agg (cC (cdrC c)) from rfl, hr]; try rfl⟩
end Go.Ev.Seat
namespace Go.Ev.Seat
set_option linter.unusedVariables false
set_option linter.unusedSimpArgs false
open Go Go.Ev
set_option maxRecDepth 20000
attribute [local irreducible] pcall callF
theorem orL_c (n : Nat) (l : List Int) (b : Bool) (hl : l.length < n) (hm : l.length < 1000000) : pcall (tabOf tabL) (n + 1) 47 [.lst (l.map encI) b] = some (.ok (.int .i64 (orL l))) := by
  refine pcall_fin t47 ?_
  refine WL_seq ?_
  refine WL_reg ?_
  refine O_p rfl rfl rfl ?_
  refine WO_nil ?_
  refine WL_seq ?_
  apply WLp
  · (repeat (first | exact rzz | apply rcc rfl | apply rnn rfl))
  refine WL_seq ?_
  refine WL_reg ?_
  refine O_p rfl rfl rfl ?_
  refine WO_nil ?_
  refine WL_seq ?_
  apply WLp
  · (repeat (first | exact rzz | apply rcc rfl | apply rnn rfl))
  refine WL_seq ?_
  refine WL_seq ?_
  refine WL_reg ?_
  refine O_p rfl rfl rfl ?_
  refine O_h rfl rfl rfl rfl ?_
  refine O_p rfl rfl rfl ?_
  refine WO_nil ?_
  refine WL_seq ?_
  apply WLp
  · (repeat (first | exact rzz | apply rcc rfl | apply rnn rfl))
  refine WL_block ?_
  apply WL_forc (α := Nat) (fun i => [(8, .int .i64 (i : Nat))]) (fun i => i ≤ l.length ∧ orL l = orL (l.drop i)) (fun i => l.length - i) (0) (he := ?he) (hP := ?hP) (hk := ?hk) (round := ?round)
  case he =>
    (repeat (first | exact rzz | apply rcc rfl | apply rnn rfl))
  case hP =>
    exact ⟨by omega, rfl⟩
  case hk =>
    show l.length - 0 < n; omega
  case round =>
    rintro i ⟨hi, hs⟩
    dsimp only [List.cons_append, List.nil_append] at *
    refine WL_seq ?_
    refine WL_reg ?_
    refine O_p rfl rfl rfl ?_
    refine WO_nil ?_
    refine WL_seq ?_
    apply WLp
    · (repeat (first | exact rzz | apply rcc rfl | apply rnn rfl))
    refine WL_seq ?_
    refine WL_cond rfl (fun h9 => ?_) (fun h9 => ?_)
    · skip
      simp at h9
      obtain ⟨x, hx⟩ : ∃ x, (l)[i]? = some x := ⟨_, List.getElem?_eq_getElem (by omega)⟩
      have hmx := List.mem_of_getElem? hx
      have hg := drop_of hx
      refine WL_skip ?_
      refine WL_seq ?_
      apply WLp
      · (repeat (first | exact rzz | apply rcc rfl | apply rnn rfl))
      refine WL_seq ?_
      refine WL_block ?_
      refine WL_seq ?_
      refine WL_reg ?_
      refine O_ia rfl rfl (Int.natCast_nonneg _) (encI_get hx) rfl rfl ?_
      refine O_h rfl rfl rfl rfl ?_
      refine O_p rfl rfl rfl ?_
      refine WO_nil ?_
      refine WL_seq ?_
      apply WLp
      · (repeat (first | exact rzz | apply rcc rfl | apply rnn rfl))
      refine WL_seq ?_
      refine WL_reg ?_
      refine O_p rfl rfl rfl ?_
      refine O_p rfl rfl rfl ?_
      refine O_p rfl rfl rfl ?_
      refine WO_nil ?_
      refine WL_seq ?_
      apply WLp
      · (repeat (first | exact rzz | apply rcc rfl | apply rnn rfl))
      refine WL_cond rfl (fun h14 => ?_) (fun h14 => ?_)
      · skip
        have hr : orL l = x := by
          simp at h14
          rw [hs, hg, orL, if_neg h14]
        refine WL_seq ?_
        refine WL_reg ?_
        refine O_p rfl rfl rfl ?_
        refine O_p rfl rfl rfl ?_
        refine WO_nil ?_
        refine WL_ret ?_
        refine Blk_ret ?_
        refine RndC_ret ?_
        refine Blk_ret ?_
        exact ⟨_, rfl, _, rfl, by rw [hr]⟩
      · skip
        simp at h14
        refine WL_skip ?_
        refine WL_nil ?_
        refine Blk_norm (?_ : WL _ _ _ _ _)
        refine WL_seq ?_
        apply WLp
        · (repeat (first | exact rzz | apply rcc rfl | apply rnn rfl))
        refine WL_reg ?_
        refine O_p rfl rfl rfl ?_
        refine O_p rfl rfl rfl ?_
        refine WO_nil ?_
        refine WL_nil ?_
        refine RndC_norm (i + 1) (by refine ⟨by omega, ?_⟩; rw [hs, hg, orL, if_pos h14]) (by show _ < _; omega) ?_ rfl
        · rw [wrap_succ (by omega)]; (repeat (first | exact rzz | apply rcc rfl | apply rnn rfl))
    · skip
      have hr : orL l = 0 := by
        simp at h9
        rw [hs, List.drop_eq_nil_of_le (by omega)]; rfl
      refine WL_exit ?_
      refine RndC_exit ?_
      refine Blk_exit (?_ : WL _ _ _ _ _)
      refine WL_seq ?_
      apply WLp
      · (repeat (first | exact rzz | apply rcc rfl | apply rnn rfl))
      refine WL_seq ?_
      refine WL_reg ?_
      refine O_p rfl rfl rfl ?_
      refine O_p rfl rfl rfl ?_
      refine WO_nil ?_
      refine WL_ret ?_
      exact ⟨_, rfl, _, rfl, by rw [hr]⟩
theorem or_c (n : Nat) (x y : Int) (b : Bool) (hn : 3 < n) : pcall (tabOf tabL) n 47 [.lst [.int .i64 x, .int .i64 y] b] = some (.ok (.int .i64 (orI x y))) := by
  obtain ⟨n, rfl⟩ : ∃ m, n = m + 1 := ⟨n - 1, by omega⟩
  have := orL_c n [x, y] b (by simp; omega) (by simp)
  rw [← orL_two]; exact this
theorem fst_c (n : Nat) (x y : Int) : pcall (tabOf tabL) (n + 1) 48 [.int .i64 x, .int .i64 y] = some (.ok (.bool (decide (x = 1) || decide (y = 0)))) := by
  refine pcall_fin t48 ?_
  refine WL_seq ?_
  refine WL_reg ?_
  refine O_p rfl rfl rfl ?_
  refine WO_nil ?_
  refine WL_seq ?_
  apply WLp
  · (repeat (first | exact rzz | apply rcc rfl | apply rnn rfl))
  refine WL_seq ?_
  refine WL_reg ?_
  refine O_p rfl rfl rfl ?_
  refine O_p rfl rfl rfl ?_
  refine O_p rfl rfl rfl ?_
  apply O_or [_, _] rfl rfl (hT := ?hT10) (h := ?hR10)
  case hT10 =>
    intro hb7
    refine O_p rfl rfl rfl ?_
    refine O_p rfl rfl rfl ?_
    exact WO_nil (WL_nil ⟨rfl, rfl, rfl⟩)
  case hR10 =>
    intro vs hvs
    obtain ⟨u8, u9, rfl⟩ := len2 hvs
    clear hvs; dsimp only [junk]
    refine O_p rfl rfl rfl ?_
    refine WO_nil ?_
    refine WL_ret ?_
    exact ⟨_, rfl, _, rfl, rfl⟩
def gI (a b : Co) (i j : Nat) : Int := if j < i then orI (a.flat j) (b.flat j) else a.flat j
def fC (g : Nat → Int) (p l : Int) (ps : AVal) (f m : Int) (gs : AVal) : List AVal := [.int .i64 (g 0), .int .i64 (g 1), .int .i64 (g 2), .int .i64 (g 3), .int .i64 (g 4), .int .i64 (g 5), .int .i64 p, .int .i64 l, ps, .int .i64 f, .int .i64 m, gs]
theorem fC_step {a b : Co} {i : Nat} (h : i < 6) {p l : Int} {ps : AVal} {f m : Int} {gs : AVal} : (fC (gI a b i) p l ps f m gs).set (0 + i * 1) (.int .i64 (orI (a.flat i) (b.flat i))) = fC (gI a b (i + 1)) p l ps f m gs := by
  obtain rfl | rfl | rfl | rfl | rfl | rfl : i = 0 ∨ i = 1 ∨ i = 2 ∨ i = 3 ∨ i = 4 ∨ i = 5 := by omega
  all_goals rfl
theorem gI_six (a b : Co) : fC (gI a b 6) = fC (fun j => orI (a.flat j) (b.flat j)) := by
  funext p l ps f m gs; rfl
set_option maxHeartbeats 1000000 in
theorem comp_c (k n : Nat) (a b : Co) (ra : RtC a) (rb : RtC b) (hk : szC a + szC b ≤ k + 1) (hn : 20 * (k + 1) + 40 < n + 1)
    (ih : ∀ (a b : Co), RtC a → RtC b → szC a + szC b ≤ k → pcall (tabOf tabL) n 18 [vC a, vC b] = some (.ok (vC (compC k a b)))) : pcall (tabOf tabL) (n + 1) 18 [vC a, vC b] = some (.ok (vC (compC (k + 1) a b))) := by
  obtain ⟨n, rfl⟩ : ∃ m, n = m + 10 := ⟨n - 10, by omega⟩
  have fa := okC_facts ra.ok
  have fb := okC_facts rb.ok
  refine pcall_fin t18 ?_
  refine WL_seq ?_
  refine WL_reg ?_
  refine O_n rfl rfl rfl ?_
  refine O_n rfl rfl rfl ?_
  refine O_n rfl rfl rfl ?_
  refine WO_nil ?_
  refine WL_seq ?_
  apply WLp
  · (repeat (first | exact rzz | apply rcc rfl | apply rnn rfl))
  conv => arg 4; (try simp only [nrm, Nat.reduceAdd, pCT, tCT, putCells, AVal.flat])
  conv => arg 3; (try simp only [nrm, Nat.reduceAdd, pCT, tCT, putCells, AVal.flat])
  refine WL_seq ?_
  refine WL_reg ?_
  refine O_h rfl rfl rfl rfl ?_
  refine O_n rfl rfl rfl ?_
  refine O_hn rfl rfl rfl rfl ?_
  refine WO_nil ?_
  refine WL_seq ?_
  apply WLp
  · (repeat (first | exact rzz | apply rcc rfl | apply rnn rfl))
  conv => arg 4; (try simp only [nrm, Nat.reduceAdd, pCT, tCT, putCells, AVal.flat])
  conv => arg 3; (try simp only [nrm, Nat.reduceAdd, pCT, tCT, putCells, AVal.flat])
  refine WL_seq ?_
  refine WL_seq ?_
  refine WL_reg ?_
  refine O_p rfl rfl rfl ?_
  refine WO_nil ?_
  refine WL_seq ?_
  apply WLp
  · (repeat (first | exact rzz | apply rcc rfl | apply rnn rfl))
  conv => arg 4; (try simp only [nrm, Nat.reduceAdd, pCT, tCT, putCells, AVal.flat])
  conv => arg 3; (try simp only [nrm, Nat.reduceAdd, pCT, tCT, putCells, AVal.flat])
  refine WL_block ?_
  apply WL_forv (hc := [.cells (cC a), .cells (cC b), .cells [.int .i64 0, .int .i64 0, .int .i64 0, .int .i64 0, .int .i64 0, .int .i64 0, .int .i64 0, .int .i64 0, .lst [] true, .int .i64 0, .int .i64 0, .lst [] true]]) (α := Nat) (fun i => [(11, .int .i64 (i : Nat))]) (fun i => [.cells (fC (gI a b i) a.pair a.plab (.lst (a.pairs.map encC) false) a.fn a.flab (.lst (a.funs.map encC) false))]) (fun i => i ≤ 6) (fun i => 6 - i) (0) (he := ?he) (hh := ?hh) (hP := ?hP) (hk := ?hk) (round := ?round)
  case he =>
    (repeat (first | exact rzz | apply rcc rfl | apply rnn rfl))
  case hh =>
    rfl
  case hP =>
    omega
  case hk =>
    show 6 - 0 < n + 10; omega
  case round =>
    rintro i hi
    dsimp only [List.cons_append, List.nil_append] at *
    refine WL_seq ?_
    refine WL_reg ?_
    refine O_p rfl rfl rfl ?_
    refine WO_nil ?_
    refine WL_seq ?_
    apply WLp
    · (repeat (first | exact rzz | apply rcc rfl | apply rnn rfl))
    conv => arg 4; (try simp only [nrm, Nat.reduceAdd, pCT, tCT, putCells, AVal.flat])
    conv => arg 3; (try simp only [nrm, Nat.reduceAdd, pCT, tCT, putCells, AVal.flat])
    refine WL_seq ?_
    refine WL_cond rfl (fun h12 => ?_) (fun h12 => ?_)
    · skip
      replace h12 : i < 6 := by simp at h12; omega
      refine WL_skip ?_
      refine WL_seq ?_
      apply WLp
      · (repeat (first | exact rzz | apply rcc rfl | apply rnn rfl))
      conv => arg 4; (try simp only [nrm, Nat.reduceAdd, pCT, tCT, putCells, AVal.flat])
      conv => arg 3; (try simp only [nrm, Nat.reduceAdd, pCT, tCT, putCells, AVal.flat])
      refine WL_seq ?_
      refine WL_block ?_
      refine WL_seq ?_
      refine WL_reg ?_
      refine O_p rfl rfl rfl ?_
      refine O_p rfl rfl rfl ?_
      refine WO_nil ?_
      refine WL_seq ?_
      apply WLp
      · (repeat (first | exact rzz | apply rcc rfl | apply rnn rfl))
      conv => arg 4; (try simp only [nrm, Nat.reduceAdd, pCT, tCT, putCells, AVal.flat])
      conv => arg 3; (try simp only [nrm, Nat.reduceAdd, pCT, tCT, putCells, AVal.flat])
      refine WL_draw0 ?_
      refine D_p rfl rfl rfl ?_
      refine D_p rfl rfl rfl ?_
      refine D_p rfl rfl rfl ?_
      refine D_iaa rfl rfl h12 ?_
      refine D_ld (v := .int .i64 (a.flat i)) rfl rfl (by simp; exact cC_get h12) ?_
      refine D_p rfl rfl rfl ?_
      refine D_p rfl rfl rfl ?_
      refine D_iaa rfl rfl h12 ?_
      refine D_ld (v := .int .i64 (b.flat i)) rfl rfl (by simp; exact cC_get h12) ?_
      refine D_h (d := some 23) rfl rfl rfl rfl rfl ?_
      refine D_c 47 rfl rfl rfl (callA_of rfl (or_c _ _ _ _ (by omega))) ?_
      refine D_p rfl rfl rfl ?_
      refine D_iaa rfl rfl h12 ?_
      refine D_st rfl rfl rfl rfl rfl (by simp [fC]; omega) rfl (fC_step h12) rfl ?_
      refine WD_nil ⟨by first | rfl | (simp [okFs, okEarlier, disj, notIn, noneIn, sameOn, sameB_self, glsL, glsV, partsGls, AOpd.ev, zeroB, outB] <;> (repeat' apply And.intro) <;> rfl), ?_⟩
      refine WL_nil ?_
      refine Blk_norm (?_ : WL _ _ _ _ _)
      refine WL_seq ?_
      apply WLp
      · (repeat (first | exact rzz | apply rcc rfl | apply rnn rfl))
      conv => arg 4; (try simp only [nrm, Nat.reduceAdd, pCT, tCT, putCells, AVal.flat])
      conv => arg 3; (try simp only [nrm, Nat.reduceAdd, pCT, tCT, putCells, AVal.flat])
      refine WL_reg ?_
      refine O_p rfl rfl rfl ?_
      refine O_p rfl rfl rfl ?_
      refine WO_nil ?_
      refine WL_nil ?_
      refine RndV_norm (i + 1) (by omega) (by show _ < _; omega) ?_ rfl
      · rw [wrap_succ (by omega)]; (repeat (first | exact rzz | apply rcc rfl | apply rnn rfl))
    · skip
      simp at h12
      obtain rfl : i = 6 := by omega
      rw [gI_six]
      refine WL_exit ?_
      refine RndV_exit ?_
      refine Blk_exit (?_ : WL _ _ _ _ _)
      refine WL_seq ?_
      apply WLp
      · (repeat (first | exact rzz | apply rcc rfl | apply rnn rfl))
      conv => arg 4; (try simp only [nrm, Nat.reduceAdd, pCT, tCT, putCells, AVal.flat])
      conv => arg 3; (try simp only [nrm, Nat.reduceAdd, pCT, tCT, putCells, AVal.flat])
      refine WL_seq ?_
      refine WL_cut (fun e H => restr e [2, 3, 4, 5] = [(2, .ptr 0 0), (3, .ptr 1 0), (4, .ptr 2 0), (5, .ptr 3 0)] ∧ ∃ f, H = [.cells (cC a), .cells (cC b), .cells [.int .i64 0, .int .i64 0, .int .i64 0, .int .i64 0, .int .i64 0, .int .i64 0, .int .i64 0, .int .i64 0, .lst [] true, .int .i64 0, .int .i64 0, .lst [] true], .cells (fC (fun j => orI (a.flat j) (b.flat j)) (pairP (compC k) a b).1 (pairP (compC k) a b).2.1 (.lst ((pairP (compC k) a b).2.2.map encC) f) a.fn a.flab (.lst (a.funs.map encC) false))]) ?_ ?_
      · skip
        refine WL_block ?_
        refine WL_seq ?_
        refine WL_reg ?_
        refine O_p rfl rfl rfl ?_
        refine O_h rfl rfl rfl rfl ?_
        refine O_p rfl rfl rfl ?_
        refine O_h rfl rfl rfl rfl ?_
        refine O_c 48 rfl rfl (callA_of rfl (fst_c _ _ _)) ?_
        refine O_p rfl rfl rfl ?_
        refine WO_nil ?_
        refine WL_seq ?_
        apply WLp
        · (repeat (first | exact rzz | apply rcc rfl | apply rnn rfl))
        conv => arg 4; (try simp only [nrm, Nat.reduceAdd, pCT, tCT, putCells, AVal.flat])
        conv => arg 3; (try simp only [nrm, Nat.reduceAdd, pCT, tCT, putCells, AVal.flat])
        refine WL_cond rfl (fun h42 => ?_) (fun h42 => ?_)
        · skip
          have hP : pairP (compC k) a b = (a.pair, a.plab, a.pairs) := by simp at h42; unfold pairP; rw [if_pos h42]
          refine WL_skip ?_
          refine WL_nil ?_
          refine Blk_norm (?_ : WL _ _ _ _ _)
          refine WL_nil ?_
          first | exact ⟨by (repeat (first | exact rzz | apply rcc rfl | apply rnn rfl)), false, by rw [hP]; (try simp only [List.map_cons, List.map_nil, encC_eq]); first | done | rfl⟩ | exact ⟨by (repeat (first | exact rzz | apply rcc rfl | apply rnn rfl)), true, by rw [hP]; (try simp only [List.map_cons, List.map_nil, encC_eq]); first | done | rfl⟩
        · skip
          replace h42 : ¬(a.pair = 1 ∨ b.pair = 0) := by simpa using h42
          refine WL_seq ?_
          refine WL_reg ?_
          refine O_p rfl rfl rfl ?_
          refine O_h rfl rfl rfl rfl ?_
          refine O_p rfl rfl rfl ?_
          refine O_p rfl rfl rfl ?_
          apply O_or [_, _, _] rfl rfl (hT := ?hT56) (h := ?hR56)
          case hT56 =>
            intro hb52
            refine O_p rfl rfl rfl ?_
            refine O_h rfl rfl rfl rfl ?_
            refine O_p rfl rfl rfl ?_
            exact WO_nil (WL_nil ⟨rfl, rfl, rfl⟩)
          case hR56 =>
            intro vs hvs
            obtain ⟨u53, u54, u55, rfl⟩ := len3 hvs
            clear hvs; dsimp only [junk]
            refine O_p rfl rfl rfl ?_
            refine WO_nil ?_
            refine WL_seq ?_
            apply WLp
            · (repeat (first | exact rzz | apply rcc rfl | apply rnn rfl))
            conv => arg 4; (try simp only [nrm, Nat.reduceAdd, pCT, tCT, putCells, AVal.flat])
            conv => arg 3; (try simp only [nrm, Nat.reduceAdd, pCT, tCT, putCells, AVal.flat])
            try clear u53 u54 u55
            refine WL_cond rfl (fun h48 => ?_) (fun h48 => ?_)
            · skip
              have hP : pairP (compC k) a b = (b.pair, b.plab, b.pairs) := by simp at h48; unfold pairP; rw [if_neg h42, if_pos h48]
              refine WL_draw0 ?_
              refine D_p rfl rfl rfl ?_
              refine D_h (d := some 58) rfl rfl rfl rfl rfl ?_
              refine D_p rfl rfl rfl ?_
              refine D_h (d := some 60) rfl rfl rfl rfl rfl ?_
              refine D_p rfl rfl rfl ?_
              refine D_h (d := some 62) rfl rfl rfl rfl rfl ?_
              refine D_p rfl rfl rfl ?_
              refine D_h (d := none) rfl rfl rfl rfl rfl ?_
              refine D_p rfl rfl rfl ?_
              refine D_h (d := none) rfl rfl rfl rfl rfl ?_
              refine D_p rfl rfl rfl ?_
              refine D_h (d := none) rfl rfl rfl rfl rfl ?_
              refine WD_nil ⟨by first | rfl | (simp [okFs, okEarlier, disj, notIn, noneIn, sameOn, sameB_self, glsL, glsV, partsGls, AOpd.ev, zeroB, outB] <;> (repeat' apply And.intro) <;> rfl), ?_⟩
              refine WL_nil ?_
              refine Blk_norm (?_ : WL _ _ _ _ _)
              refine WL_nil ?_
              first | exact ⟨by (repeat (first | exact rzz | apply rcc rfl | apply rnn rfl)), false, by rw [hP]; (try simp only [List.map_cons, List.map_nil, encC_eq]); first | done | rfl⟩ | exact ⟨by (repeat (first | exact rzz | apply rcc rfl | apply rnn rfl)), true, by rw [hP]; (try simp only [List.map_cons, List.map_nil, encC_eq]); first | done | rfl⟩
            · skip
              replace h48 : ¬(b.pair = 1 ∨ a.pair = 0) := by simpa using h48
              have ca := ra.car (by omega)
              have cb := rb.car (by omega)
              have da := ra.cdr (by omega)
              have db := rb.cdr (by omega)
              refine WL_seq ?_
              refine WL_reg ?_
              refine O_p rfl rfl rfl ?_
              refine O_h rfl rfl rfl rfl ?_
              refine O_p rfl rfl rfl ?_
              refine O_p rfl rfl rfl ?_
              apply O_and [_, _, _] rfl rfl (hT := ?hT74) (h := ?hR74)
              case hT74 =>
                intro hb70
                refine O_p rfl rfl rfl ?_
                refine O_h rfl rfl rfl rfl ?_
                refine O_p rfl rfl rfl ?_
                exact WO_nil (WL_nil ⟨rfl, rfl, rfl⟩)
              case hR74 =>
                intro vs hvs
                obtain ⟨u71, u72, u73, rfl⟩ := len3 hvs
                clear hvs; dsimp only [junk]
                refine O_p rfl rfl rfl ?_
                refine WO_nil ?_
                refine WL_seq ?_
                apply WLp
                · (repeat (first | exact rzz | apply rcc rfl | apply rnn rfl))
                conv => arg 4; (try simp only [nrm, Nat.reduceAdd, pCT, tCT, putCells, AVal.flat])
                conv => arg 3; (try simp only [nrm, Nat.reduceAdd, pCT, tCT, putCells, AVal.flat])
                try clear u71 u72 u73
                refine WL_cond rfl (fun h66 => ?_) (fun h66 => ?_)
                · skip
                  replace h66 : a.pair = 3 ∧ b.pair = 3 := by simpa using h66
                  have hP : pairP (compC k) a b = (a.pair, orI a.plab b.plab, [compC k (carC a) (carC b)]) := by unfold pairP; rw [if_neg h42, if_neg h48, if_pos h66, h66.1]
                  refine WL_seq ?_
                  refine WL_reg ?_
                  refine O_p rfl rfl rfl ?_
                  refine O_h rfl rfl rfl rfl ?_
                  refine O_p rfl rfl rfl ?_
                  refine O_h rfl rfl rfl rfl ?_
                  refine O_h rfl rfl rfl rfl ?_
                  refine O_c 47 rfl rfl (callA_of rfl (or_c _ _ _ _ (by omega))) ?_
                  refine O_p rfl rfl rfl ?_
                  refine O_hn rfl rfl rfl rfl ?_
                  refine WO_nil ?_
                  refine WL_seq ?_
                  apply WLp
                  · (repeat (first | exact rzz | apply rcc rfl | apply rnn rfl))
                  conv => arg 4; (try simp only [nrm, Nat.reduceAdd, pCT, tCT, putCells, AVal.flat])
                  conv => arg 3; (try simp only [nrm, Nat.reduceAdd, pCT, tCT, putCells, AVal.flat])
                  refine WL_drawT [] rfl ?_
                  refine S_h (d := some 82) rfl rfl rfl rfl rfl ?_
                  refine S_c 31 rfl rfl rfl (callA_of rfl (car_c _ a ra.ok)) ?_
                  refine S_h (d := some 84) rfl rfl rfl rfl rfl ?_
                  refine S_c 31 rfl rfl rfl (callA_of rfl (car_c _ b rb.ok)) ?_
                  refine S_c 18 rfl rfl rfl (callA_of rfl (ih _ _ ca.1 cb.1 (by omega))) ?_
                  refine S_h (d := some 87) rfl rfl rfl rfl rfl ?_
                  refine S_p rfl rfl rfl ?_
                  refine S_h (d := none) rfl rfl rfl rfl rfl ?_
                  refine WS_nil ?_
                  refine WL_nil ?_
                  refine Blk_norm (?_ : WL _ _ _ _ _)
                  refine WL_nil ?_
                  first | exact ⟨by (repeat (first | exact rzz | apply rcc rfl | apply rnn rfl)), false, by rw [hP]; (try simp only [List.map_cons, List.map_nil, encC_eq]); first | done | rfl⟩ | exact ⟨by (repeat (first | exact rzz | apply rcc rfl | apply rnn rfl)), true, by rw [hP]; (try simp only [List.map_cons, List.map_nil, encC_eq]); first | done | rfl⟩
                · skip
                  replace h66 : ¬(a.pair = 3 ∧ b.pair = 3) := by simpa using h66
                  have hP : pairP (compC k) a b = (2, 0, [compC k (carC a) (carC b), compC k (cdrC a) (cdrC b)]) := by unfold pairP; rw [if_neg h42, if_neg h48, if_neg h66]
                  have hlt : szC (cdrC a) + szC (cdrC b) < szC a + szC b := by
                    rcases (show a.pair = 2 ∨ b.pair = 2 by omega) with q | q
                    · have := da.2.2 q; omega
                    · have := db.2.2 q; omega
                  refine WL_seq ?_
                  refine WL_reg ?_
                  refine O_p rfl rfl rfl ?_
                  refine O_hn rfl rfl rfl rfl ?_
                  refine O_p rfl rfl rfl ?_
                  refine O_hn rfl rfl rfl rfl ?_
                  refine WO_nil ?_
                  refine WL_seq ?_
                  apply WLp
                  · (repeat (first | exact rzz | apply rcc rfl | apply rnn rfl))
                  conv => arg 4; (try simp only [nrm, Nat.reduceAdd, pCT, tCT, putCells, AVal.flat])
                  conv => arg 3; (try simp only [nrm, Nat.reduceAdd, pCT, tCT, putCells, AVal.flat])
                  refine WL_drawT [] rfl ?_
                  refine S_h (d := some 30) rfl rfl rfl rfl rfl ?_
                  refine S_c 31 rfl rfl rfl (callA_of rfl (car_c _ a ra.ok)) ?_
                  refine S_h (d := some 32) rfl rfl rfl rfl rfl ?_
                  refine S_c 31 rfl rfl rfl (callA_of rfl (car_c _ b rb.ok)) ?_
                  refine S_c 18 rfl rfl rfl (callA_of rfl (ih _ _ ca.1 cb.1 (by omega))) ?_
                  refine S_h (d := some 35) rfl rfl rfl rfl rfl ?_
                  refine S_c 33 rfl rfl rfl (callA_of rfl (cdr_c _ a ra.ok)) ?_
                  refine S_h (d := some 37) rfl rfl rfl rfl rfl ?_
                  refine S_c 33 rfl rfl rfl (callA_of rfl (cdr_c _ b rb.ok)) ?_
                  refine S_c 18 rfl rfl rfl (callA_of rfl (ih _ _ da.1 db.1 (by omega))) ?_
                  refine S_h (d := some 40) rfl rfl rfl rfl rfl ?_
                  refine S_p rfl rfl rfl ?_
                  refine S_h (d := none) rfl rfl rfl rfl rfl ?_
                  refine WS_nil ?_
                  refine WL_nil ?_
                  refine Blk_norm (?_ : WL _ _ _ _ _)
                  refine WL_nil ?_
                  first | exact ⟨by (repeat (first | exact rzz | apply rcc rfl | apply rnn rfl)), false, by rw [hP]; (try simp only [List.map_cons, List.map_nil, encC_eq]); first | done | rfl⟩ | exact ⟨by (repeat (first | exact rzz | apply rcc rfl | apply rnn rfl)), true, by rw [hP]; (try simp only [List.map_cons, List.map_nil, encC_eq]); first | done | rfl⟩
      · skip
        rintro e H ⟨he, f, rfl⟩
        refine WL_seq ?_
        apply WLp
        · exact he
        refine WL_seq ?_
        refine WL_block ?_
        refine WL_seq ?_
        refine WL_reg ?_
        refine O_p rfl rfl rfl ?_
        refine O_h rfl rfl rfl rfl ?_
        refine O_p rfl rfl rfl ?_
        refine O_h rfl rfl rfl rfl ?_
        refine O_c 48 rfl rfl (callA_of rfl (fst_c _ _ _)) ?_
        refine O_p rfl rfl rfl ?_
        refine WO_nil ?_
        refine WL_seq ?_
        apply WLp
        · (repeat (first | exact rzz | apply rcc rfl | apply rnn rfl))
        conv => arg 4; (try simp only [nrm, Nat.reduceAdd, pCT, tCT, putCells, AVal.flat])
        conv => arg 3; (try simp only [nrm, Nat.reduceAdd, pCT, tCT, putCells, AVal.flat])
        refine WL_cond rfl (fun h123 => ?_) (fun h123 => ?_)
        · skip
          have hG : funP (compC k) a b = (a.fn, a.flab, a.funs) := by simp at h123; unfold funP; rw [if_pos h123]
          refine WL_skip ?_
          refine WL_nil ?_
          refine Blk_norm (?_ : WL _ _ _ _ _)
          refine WL_seq ?_
          apply WLp
          · (repeat (first | exact rzz | apply rcc rfl | apply rnn rfl))
          conv => arg 4; (try simp only [nrm, Nat.reduceAdd, pCT, tCT, putCells, AVal.flat])
          conv => arg 3; (try simp only [nrm, Nat.reduceAdd, pCT, tCT, putCells, AVal.flat])
          refine WL_seq ?_
          refine WL_reg ?_
          refine O_h rfl rfl rfl rfl ?_
          refine O_hn rfl rfl rfl rfl ?_
          refine WO_nil ?_
          refine WL_ret ?_
          refine ⟨_, rfl, vC (compC (k + 1) a b), ?_, rfl⟩
          first | (rw [compC, hG]; rfl) | (rw [compC, hG]; show shutR _ (.agg (fC (fun j => orI (a.flat j) (b.flat j)) (pairP (compC k) a b).1 (pairP (compC k) a b).2.1 (.lst ((pairP (compC k) a b).2.2.map encC) f) a.fn a.flab (.gl 4 (mixF (compC k) a.funs b.funs).length))) = _; simp [shutR, shutRL, growAt, fC, cC, Co.flat, Co.pair, Co.plab, Co.pairs, Co.fn, Co.flab, Co.funs]; done)
        · skip
          replace h123 : ¬(a.fn = 1 ∨ b.fn = 0) := by simpa using h123
          refine WL_seq ?_
          refine WL_reg ?_
          refine O_p rfl rfl rfl ?_
          refine O_h rfl rfl rfl rfl ?_
          refine O_p rfl rfl rfl ?_
          refine O_p rfl rfl rfl ?_
          apply O_or [_, _, _] rfl rfl (hT := ?hT137) (h := ?hR137)
          case hT137 =>
            intro hb133
            refine O_p rfl rfl rfl ?_
            refine O_h rfl rfl rfl rfl ?_
            refine O_p rfl rfl rfl ?_
            exact WO_nil (WL_nil ⟨rfl, rfl, rfl⟩)
          case hR137 =>
            intro vs hvs
            obtain ⟨u134, u135, u136, rfl⟩ := len3 hvs
            clear hvs; dsimp only [junk]
            refine O_p rfl rfl rfl ?_
            refine WO_nil ?_
            refine WL_seq ?_
            apply WLp
            · (repeat (first | exact rzz | apply rcc rfl | apply rnn rfl))
            conv => arg 4; (try simp only [nrm, Nat.reduceAdd, pCT, tCT, putCells, AVal.flat])
            conv => arg 3; (try simp only [nrm, Nat.reduceAdd, pCT, tCT, putCells, AVal.flat])
            try clear u134 u135 u136
            refine WL_cond rfl (fun h129 => ?_) (fun h129 => ?_)
            · skip
              have hG : funP (compC k) a b = (b.fn, b.flab, b.funs) := by simp at h129; unfold funP; rw [if_neg h123, if_pos h129]
              refine WL_draw0 ?_
              refine D_p rfl rfl rfl ?_
              refine D_h (d := some 139) rfl rfl rfl rfl rfl ?_
              refine D_p rfl rfl rfl ?_
              refine D_h (d := some 141) rfl rfl rfl rfl rfl ?_
              refine D_p rfl rfl rfl ?_
              refine D_h (d := some 143) rfl rfl rfl rfl rfl ?_
              refine D_p rfl rfl rfl ?_
              refine D_h (d := none) rfl rfl rfl rfl rfl ?_
              refine D_p rfl rfl rfl ?_
              refine D_h (d := none) rfl rfl rfl rfl rfl ?_
              refine D_p rfl rfl rfl ?_
              refine D_h (d := none) rfl rfl rfl rfl rfl ?_
              refine WD_nil ⟨by first | rfl | (simp [okFs, okEarlier, disj, notIn, noneIn, sameOn, sameB_self, glsL, glsV, partsGls, AOpd.ev, zeroB, outB] <;> (repeat' apply And.intro) <;> rfl), ?_⟩
              refine WL_nil ?_
              refine Blk_norm (?_ : WL _ _ _ _ _)
              refine WL_seq ?_
              apply WLp
              · (repeat (first | exact rzz | apply rcc rfl | apply rnn rfl))
              conv => arg 4; (try simp only [nrm, Nat.reduceAdd, pCT, tCT, putCells, AVal.flat])
              conv => arg 3; (try simp only [nrm, Nat.reduceAdd, pCT, tCT, putCells, AVal.flat])
              refine WL_seq ?_
              refine WL_reg ?_
              refine O_h rfl rfl rfl rfl ?_
              refine O_hn rfl rfl rfl rfl ?_
              refine WO_nil ?_
              refine WL_ret ?_
              refine ⟨_, rfl, vC (compC (k + 1) a b), ?_, rfl⟩
              first | (rw [compC, hG]; rfl) | (rw [compC, hG]; show shutR _ (.agg (fC (fun j => orI (a.flat j) (b.flat j)) (pairP (compC k) a b).1 (pairP (compC k) a b).2.1 (.lst ((pairP (compC k) a b).2.2.map encC) f) a.fn a.flab (.gl 4 (mixF (compC k) a.funs b.funs).length))) = _; simp [shutR, shutRL, growAt, fC, cC, Co.flat, Co.pair, Co.plab, Co.pairs, Co.fn, Co.flab, Co.funs]; done)
            · skip
              replace h129 : ¬(b.fn = 1 ∨ a.fn = 0) := by simpa using h129
              refine WL_seq ?_
              refine WL_reg ?_
              refine O_p rfl rfl rfl ?_
              refine O_h rfl rfl rfl rfl ?_
              refine O_p rfl rfl rfl ?_
              refine O_p rfl rfl rfl ?_
              apply O_or [_, _, _] rfl rfl (hT := ?hT155) (h := ?hR155)
              case hT155 =>
                intro hb151
                refine O_p rfl rfl rfl ?_
                refine O_h rfl rfl rfl rfl ?_
                refine O_p rfl rfl rfl ?_
                exact WO_nil (WL_nil ⟨rfl, rfl, rfl⟩)
              case hR155 =>
                intro vs hvs
                obtain ⟨u152, u153, u154, rfl⟩ := len3 hvs
                clear hvs; dsimp only [junk]
                refine O_p rfl rfl rfl ?_
                apply O_or [_, _, _, _, _, _, _] rfl rfl (hT := ?hT164) (h := ?hR164)
                case hT164 =>
                  intro hb156
                  refine O_p rfl rfl rfl ?_
                  refine O_h rfl rfl rfl rfl ?_
                  refine O_h rfl rfl rfl rfl ?_
                  refine O_p rfl rfl rfl ?_
                  refine O_h rfl rfl rfl rfl ?_
                  refine O_h rfl rfl rfl rfl ?_
                  refine O_p rfl rfl rfl ?_
                  exact WO_nil (WL_nil ⟨rfl, rfl, rfl⟩)
                case hR164 =>
                  intro vs hvs
                  obtain ⟨u157, u158, u159, u160, u161, u162, u163, rfl⟩ := len7 hvs
                  clear hvs; dsimp only [junk]
                  refine O_p rfl rfl rfl ?_
                  refine WO_nil ?_
                  refine WL_seq ?_
                  apply WLp
                  · (repeat (first | exact rzz | apply rcc rfl | apply rnn rfl))
                  conv => arg 4; (try simp only [nrm, Nat.reduceAdd, pCT, tCT, putCells, AVal.flat])
                  conv => arg 3; (try simp only [nrm, Nat.reduceAdd, pCT, tCT, putCells, AVal.flat])
                  try clear u152 u153 u154 u157 u158 u159 u160 u161 u162 u163
                  refine WL_cond rfl (fun h147 => ?_) (fun h147 => ?_)
                  · skip
                    have hG : funP (compC k) a b = (3, a.flab, []) := by
                      unfold funP; rw [if_neg h123, if_neg h129, if_pos]
                      simp at h147; omega
                    refine WL_reg ?_
                    refine O_p rfl rfl rfl ?_
                    refine O_hn rfl rfl rfl rfl ?_
                    refine O_p rfl rfl rfl ?_
                    refine O_hn rfl rfl rfl rfl ?_
                    refine WO_nil ?_
                    refine WL_nil ?_
                    refine Blk_norm (?_ : WL _ _ _ _ _)
                    refine WL_seq ?_
                    apply WLp
                    · (repeat (first | exact rzz | apply rcc rfl | apply rnn rfl))
                    conv => arg 4; (try simp only [nrm, Nat.reduceAdd, pCT, tCT, putCells, AVal.flat])
                    conv => arg 3; (try simp only [nrm, Nat.reduceAdd, pCT, tCT, putCells, AVal.flat])
                    refine WL_seq ?_
                    refine WL_reg ?_
                    refine O_h rfl rfl rfl rfl ?_
                    refine O_hn rfl rfl rfl rfl ?_
                    refine WO_nil ?_
                    refine WL_ret ?_
                    refine ⟨_, rfl, vC (compC (k + 1) a b), ?_, rfl⟩
                    first | (rw [compC, hG]; rfl) | (rw [compC, hG]; show shutR _ (.agg (fC (fun j => orI (a.flat j) (b.flat j)) (pairP (compC k) a b).1 (pairP (compC k) a b).2.1 (.lst ((pairP (compC k) a b).2.2.map encC) f) a.fn a.flab (.gl 4 (mixF (compC k) a.funs b.funs).length))) = _; simp [shutR, shutRL, growAt, fC, cC, Co.flat, Co.pair, Co.plab, Co.pairs, Co.fn, Co.flab, Co.funs]; done)
                  · skip
                    replace h147 : ¬(a.fn = 3 ∨ b.fn = 3 ∨ a.funs.length ≠ b.funs.length) := by simp at h147; omega
                    have hG : funP (compC k) a b = (a.fn, a.flab, mixF (compC k) a.funs b.funs) := by unfold funP; rw [if_neg h123, if_neg h129, if_neg h147]
                    have hL : a.funs.length = b.funs.length := by omega
                    have hML := mixF_len (compC k) a.funs b.funs hL
                    have h9 : a.funs.length ≤ 9 := (((okC_iff a).1 ra.ok).2.2.2.2.2.2.2.2.2.2.2.2.1 (by omega)).1
                    refine WL_seq ?_
                    refine WL_reg ?_
                    refine O_p rfl rfl rfl ?_
                    refine O_hn rfl rfl rfl rfl ?_
                    refine WO_nil ?_
                    refine WL_seq ?_
                    apply WLp
                    · (repeat (first | exact rzz | apply rcc rfl | apply rnn rfl))
                    conv => arg 4; (try simp only [nrm, Nat.reduceAdd, pCT, tCT, putCells, AVal.flat])
                    conv => arg 3; (try simp only [nrm, Nat.reduceAdd, pCT, tCT, putCells, AVal.flat])
                    refine WL_seq ?_
                    refine WL_reg ?_
                    refine O_p rfl rfl rfl ?_
                    refine O_h rfl rfl rfl rfl ?_
                    refine O_h rfl rfl rfl rfl ?_
                    refine O_p rfl rfl rfl ?_
                    refine WO_nil ?_
                    refine WL_seq ?_
                    apply WLp
                    · (repeat (first | exact rzz | apply rcc rfl | apply rnn rfl))
                    conv => arg 4; (try simp only [nrm, Nat.reduceAdd, pCT, tCT, putCells, AVal.flat])
                    conv => arg 3; (try simp only [nrm, Nat.reduceAdd, pCT, tCT, putCells, AVal.flat])
                    refine WL_block ?_
                    refine WL_seq ?_
                    refine WL_own rfl ?_
                    apply WL_forv (hc := [.cells (cC a), .cells (cC b), .cells [.int .i64 0, .int .i64 0, .int .i64 0, .int .i64 0, .int .i64 0, .int .i64 0, .int .i64 0, .int .i64 0, .lst [] true, .int .i64 0, .int .i64 0, .lst [] true]]) (α := Nat) (fun i => [(93, .int .i64 (i : Nat))]) (fun i => [.cells (fC (fun j => orI (a.flat j) (b.flat j)) (pairP (compC k) a b).1 (pairP (compC k) a b).2.1 (.lst ((pairP (compC k) a b).2.2.map encC) f) a.fn a.flab (.gl 4 i)), .grow (es0 12 i) (((mixF (compC k) a.funs b.funs).take i).map encC) none]) (fun i => i ≤ a.funs.length) (fun i => a.funs.length - i) (0) (he := ?he) (hh := ?hh) (hP := ?hP) (hk := ?hk) (round := ?round)
                    case he =>
                      (repeat (first | exact rzz | apply rcc rfl | apply rnn rfl))
                    case hh =>
                      rfl
                    case hP =>
                      omega
                    case hk =>
                      show a.funs.length - 0 < n + 10; omega
                    case round =>
                      rintro i hi
                      dsimp only [List.cons_append, List.nil_append] at *
                      refine WL_seq ?_
                      refine WL_reg ?_
                      refine O_p rfl rfl rfl ?_
                      refine WO_nil ?_
                      refine WL_seq ?_
                      apply WLp
                      · (repeat (first | exact rzz | apply rcc rfl | apply rnn rfl))
                      conv => arg 4; (try simp only [nrm, Nat.reduceAdd, pCT, tCT, putCells, AVal.flat])
                      conv => arg 3; (try simp only [nrm, Nat.reduceAdd, pCT, tCT, putCells, AVal.flat])
                      refine WL_seq ?_
                      refine WL_cond rfl (fun h94 => ?_) (fun h94 => ?_)
                      · skip
                        simp at h94
                        obtain ⟨x, hx⟩ : ∃ x, (a.funs)[i]? = some x := ⟨_, List.getElem?_eq_getElem (by omega)⟩
                        have hmx := List.mem_of_getElem? hx
                        have hsx := szC_funs hmx
                        obtain ⟨y, hy⟩ : ∃ y, (b.funs)[i]? = some y := ⟨_, List.getElem?_eq_getElem (by omega)⟩
                        have hmy := List.mem_of_getElem? hy
                        have hsy := szC_funs hmy
                        refine WL_skip ?_
                        refine WL_seq ?_
                        apply WLp
                        · (repeat (first | exact rzz | apply rcc rfl | apply rnn rfl))
                        conv => arg 4; (try simp only [nrm, Nat.reduceAdd, pCT, tCT, putCells, AVal.flat])
                        conv => arg 3; (try simp only [nrm, Nat.reduceAdd, pCT, tCT, putCells, AVal.flat])
                        refine WL_seq ?_
                        refine WL_block ?_
                        refine WL_seq ?_
                        refine WL_reg ?_
                        refine O_p rfl rfl rfl ?_
                        refine O_p rfl rfl rfl ?_
                        refine WO_nil ?_
                        refine WL_seq ?_
                        apply WLp
                        · (repeat (first | exact rzz | apply rcc rfl | apply rnn rfl))
                        conv => arg 4; (try simp only [nrm, Nat.reduceAdd, pCT, tCT, putCells, AVal.flat])
                        conv => arg 3; (try simp only [nrm, Nat.reduceAdd, pCT, tCT, putCells, AVal.flat])
                        refine WL_seq ?_
                        refine WL_draw ?_
                        refine D_p rfl rfl rfl ?_
                        refine D_h (d := some 97) rfl rfl rfl rfl rfl ?_
                        refine D_p rfl rfl rfl ?_
                        refine D_ia rfl rfl (Int.natCast_nonneg _) (encC_get (i := (i : Nat)) hy) (encC_flat _) rfl ?_
                        refine D_h (d := some 100) rfl rfl rfl rfl rfl ?_
                        refine D_p rfl rfl rfl ?_
                        refine D_h (d := some 102) rfl rfl rfl rfl rfl ?_
                        refine D_p rfl rfl rfl ?_
                        refine D_ia rfl rfl (Int.natCast_nonneg _) (encC_get (i := (i : Nat)) hx) (encC_flat _) rfl ?_
                        refine D_h (d := some 105) rfl rfl rfl rfl rfl ?_
                        refine D_n rfl rfl rfl rfl rfl ?_
                        refine D_n rfl rfl rfl rfl rfl ?_
                        refine D_h (d := none) rfl rfl rfl rfl rfl ?_
                        refine D_h (d := none) rfl rfl rfl rfl rfl ?_
                        refine WD_nil ⟨by first | rfl | (simp [okFs, okEarlier, disj, notIn, noneIn, sameOn, sameB_self, glsL, glsV, partsGls, AOpd.ev, zeroB, outB] <;> (repeat' apply And.intro) <;> rfl), ?_⟩
                        refine WL_seq ?_
                        apply WLp
                        · (repeat (first | exact rzz | apply rcc rfl | apply rnn rfl))
                        conv => arg 4; (try simp only [nrm, Nat.reduceAdd, pCT, tCT, putCells, AVal.flat])
                        conv => arg 3; (try simp only [nrm, Nat.reduceAdd, pCT, tCT, putCells, AVal.flat])
                        refine WL_seq ?_
                        refine WL_seq ?_
                        refine WL_reg ?_
                        refine O_p rfl rfl rfl ?_
                        refine O_p rfl rfl rfl ?_
                        refine O_h rfl rfl rfl rfl ?_
                        refine O_h rfl rfl rfl rfl ?_
                        refine O_p rfl rfl rfl ?_
                        refine O_p rfl rfl rfl ?_
                        refine WO_nil ?_
                        refine WL_seq ?_
                        apply WLp
                        · (repeat (first | exact rzz | apply rcc rfl | apply rnn rfl))
                        conv => arg 4; (try simp only [nrm, Nat.reduceAdd, pCT, tCT, putCells, AVal.flat])
                        conv => arg 3; (try simp only [nrm, Nat.reduceAdd, pCT, tCT, putCells, AVal.flat])
                        refine WL_cond rfl (fun h111 => ?_) (fun h111 => ?_)
                        · skip
                          have hl : i + 1 = a.funs.length := by
                            simp at h111; rw [kw_i64_id (by omega) (by omega)] at h111; omega
                          obtain ⟨z, hzd⟩ : ∃ z, z = compC k x y := ⟨_, rfl⟩
                          have hz : (mixF (compC k) a.funs b.funs)[i]? = some z := by rw [mixF_get _ _ _ i x y hx hy, if_pos hl, hzd]
                          have hcall := ih x y (ra.funs hmx) (rb.funs hmy) (by omega)
                          rw [← hzd] at hcall
                          refine WL_reg ?_
                          refine O_h rfl rfl rfl rfl ?_
                          refine O_h rfl rfl rfl rfl ?_
                          refine O_hn rfl rfl rfl rfl ?_
                          refine O_hn rfl rfl rfl rfl ?_
                          refine WO_nil ?_
                          refine WL_seq ?_
                          apply WLp
                          · (repeat (first | exact rzz | apply rcc rfl | apply rnn rfl))
                          conv => arg 4; (try simp only [nrm, Nat.reduceAdd, pCT, tCT, putCells, AVal.flat])
                          conv => arg 3; (try simp only [nrm, Nat.reduceAdd, pCT, tCT, putCells, AVal.flat])
                          refine WL_draw ?_
                          refine D_p rfl rfl rfl ?_
                          refine D_h (d := some 115) rfl rfl rfl rfl rfl ?_
                          refine D_h (d := some 116) rfl rfl rfl rfl rfl ?_
                          refine D_h (d := some 117) rfl rfl rfl rfl rfl ?_
                          refine D_c 18 rfl rfl rfl (callA_of rfl hcall) ?_
                          refine D_h (d := some 119) rfl rfl rfl rfl rfl ?_
                          refine D_push (y := vC z) rfl rfl rfl (by simp; omega) (es0_or 12 i) (encC_w _) rfl (by omega) rfl (take_succ_map hz).symm rfl ?_
                          refine D_p rfl rfl rfl ?_
                          refine D_h (d := none) rfl rfl rfl rfl rfl ?_
                          refine WD_nil2 rfl ?_
                          refine WL_nil ?_
                          refine Blk_norm (?_ : WL _ _ _ _ _)
                          refine WL_seq ?_
                          apply WLp
                          · (repeat (first | exact rzz | apply rcc rfl | apply rnn rfl))
                          conv => arg 4; (try simp only [nrm, Nat.reduceAdd, pCT, tCT, putCells, AVal.flat])
                          conv => arg 3; (try simp only [nrm, Nat.reduceAdd, pCT, tCT, putCells, AVal.flat])
                          refine WL_reg ?_
                          refine O_p rfl rfl rfl ?_
                          refine O_p rfl rfl rfl ?_
                          refine WO_nil ?_
                          refine WL_nil ?_
                          refine RndV_norm (i + 1) (by omega) (by show _ < _; omega) ?_ rfl
                          · rw [wrap_succ (by omega)]; (repeat (first | exact rzz | apply rcc rfl | apply rnn rfl))
                        · skip
                          have hl : ¬ i + 1 = a.funs.length := by
                            simp at h111; rw [kw_i64_id (by omega) (by omega)] at h111; omega
                          obtain ⟨z, hzd⟩ : ∃ z, z = compC k y x := ⟨_, rfl⟩
                          have hz : (mixF (compC k) a.funs b.funs)[i]? = some z := by rw [mixF_get _ _ _ i x y hx hy, if_neg hl, hzd]
                          have hcall := ih y x (rb.funs hmy) (ra.funs hmx) (by omega)
                          rw [← hzd] at hcall
                          refine WL_skip ?_
                          refine WL_seq ?_
                          apply WLp
                          · (repeat (first | exact rzz | apply rcc rfl | apply rnn rfl))
                          conv => arg 4; (try simp only [nrm, Nat.reduceAdd, pCT, tCT, putCells, AVal.flat])
                          conv => arg 3; (try simp only [nrm, Nat.reduceAdd, pCT, tCT, putCells, AVal.flat])
                          refine WL_draw ?_
                          refine D_p rfl rfl rfl ?_
                          refine D_h (d := some 115) rfl rfl rfl rfl rfl ?_
                          refine D_h (d := some 116) rfl rfl rfl rfl rfl ?_
                          refine D_h (d := some 117) rfl rfl rfl rfl rfl ?_
                          refine D_c 18 rfl rfl rfl (callA_of rfl hcall) ?_
                          refine D_h (d := some 119) rfl rfl rfl rfl rfl ?_
                          refine D_push (y := vC z) rfl rfl rfl (by simp; omega) (es0_or 12 i) (encC_w _) rfl (by omega) rfl (take_succ_map hz).symm rfl ?_
                          refine D_p rfl rfl rfl ?_
                          refine D_h (d := none) rfl rfl rfl rfl rfl ?_
                          refine WD_nil2 rfl ?_
                          refine WL_nil ?_
                          refine Blk_norm (?_ : WL _ _ _ _ _)
                          refine WL_seq ?_
                          apply WLp
                          · (repeat (first | exact rzz | apply rcc rfl | apply rnn rfl))
                          conv => arg 4; (try simp only [nrm, Nat.reduceAdd, pCT, tCT, putCells, AVal.flat])
                          conv => arg 3; (try simp only [nrm, Nat.reduceAdd, pCT, tCT, putCells, AVal.flat])
                          refine WL_reg ?_
                          refine O_p rfl rfl rfl ?_
                          refine O_p rfl rfl rfl ?_
                          refine WO_nil ?_
                          refine WL_nil ?_
                          refine RndV_norm (i + 1) (by omega) (by show _ < _; omega) ?_ rfl
                          · rw [wrap_succ (by omega)]; (repeat (first | exact rzz | apply rcc rfl | apply rnn rfl))
                      · skip
                        simp at h94
                        obtain rfl : i = a.funs.length := by omega
                        rw [← hML, List.take_length]
                        refine WL_exit ?_
                        refine RndV_exit ?_
                        refine Blk_exit (?_ : WL _ _ _ _ _)
                        refine WL_nil ?_
                        refine Blk_norm (?_ : WL _ _ _ _ _)
                        refine WL_seq ?_
                        apply WLp
                        · (repeat (first | exact rzz | apply rcc rfl | apply rnn rfl))
                        conv => arg 4; (try simp only [nrm, Nat.reduceAdd, pCT, tCT, putCells, AVal.flat])
                        conv => arg 3; (try simp only [nrm, Nat.reduceAdd, pCT, tCT, putCells, AVal.flat])
                        refine WL_seq ?_
                        refine WL_reg ?_
                        refine O_h rfl rfl rfl rfl ?_
                        refine O_hn rfl rfl rfl rfl ?_
                        refine WO_nil ?_
                        refine WL_ret ?_
                        refine ⟨_, rfl, vC (compC (k + 1) a b), ?_, rfl⟩
                        first | (rw [compC, hG]; rfl) | (rw [compC, hG]; show shutR _ (.agg (fC (fun j => orI (a.flat j) (b.flat j)) (pairP (compC k) a b).1 (pairP (compC k) a b).2.1 (.lst ((pairP (compC k) a b).2.2.map encC) f) a.fn a.flab (.gl 4 (mixF (compC k) a.funs b.funs).length))) = _; simp [shutR, shutRL, growAt, fC, cC, Co.flat, Co.pair, Co.plab, Co.pairs, Co.fn, Co.flab, Co.funs]; done)
theorem compose_c : ∀ (k n : Nat) (a b : Co), RtC a → RtC b → szC a + szC b ≤ k → 20 * k + 40 < n → pcall (tabOf tabL) n 18 [vC a, vC b] = some (.ok (vC (compC k a b)))
  | 0, n, a, b, _, _, h, _ => by have := szC_pos a; omega
  | k + 1, n, a, b, ra, rb, h, hn => by
    obtain ⟨n, rfl⟩ : ∃ m, n = m + 1 := ⟨n - 1, by omega⟩
    exact comp_c k n a b ra rb h (by omega) (fun a b ra rb h => compose_c k n a b ra rb h (by omega))
end Go.Ev.Seat
namespace Go.Ev.Seat.TyS
set_option linter.unusedVariables false
set_option linter.unusedSimpArgs false
open Go Go.Ev
set_option maxRecDepth 20000
attribute [local irreducible] pcall callF
theorem size_zero (n : Nat) (t : Ty) : pcall (tabOf tabL) (n + 1) 38 [vT t, .int .i64 (0 : Nat)] = some (.ok (.int .i64 (rsz t 0 : Nat))) := by
  refine pcall_fin t38 ?_
  refine WL_seq ?_
  refine WL_reg ?_
  refine O_n rfl rfl rfl ?_
  refine O_p rfl rfl rfl ?_
  refine WO_nil ?_
  refine WL_seq ?_
  apply WLp
  · (repeat (first | exact rzz | apply rcc rfl | apply rnn rfl))
  refine WL_seq ?_
  refine WL_seq ?_
  refine WL_reg ?_
  refine O_p rfl rfl rfl ?_
  refine O_p rfl rfl rfl ?_
  refine WO_nil ?_
  refine WL_seq ?_
  apply WLp
  · (repeat (first | exact rzz | apply rcc rfl | apply rnn rfl))
  refine WL_cond rfl (fun h9 => ?_) (fun h9 => ?_)
  · skip
    refine WL_seq ?_
    refine WL_reg ?_
    refine O_p rfl rfl rfl ?_
    refine WO_nil ?_
    refine WL_ret ?_
    exact ⟨_, rfl, _, rfl, by rw [rsz_zero]; rfl⟩
  · skip
    simp at h9
theorem size_c : ∀ (n : Nat) (t : Ty) (l : Nat), szT t < n → WfT t → l < 1000 → pcall (tabOf tabL) n 38 [vT t, .int .i64 (l : Nat)] = some (.ok (.int .i64 (rsz t l : Nat)))
  | 0, t, l, h, _, _ => by omega
  | n + 1, t, 0, h, _, _ => size_zero n t
  | n + 1, t, l + 1, h, hw, hl => by
    have ih := size_c n
    have hp := len_pairs t
    have hf := len_funs t
    have hl1 : IntKind.i64.wrap (((l + 1 : Nat) : Int) - 1) = (l : Int) := by rw [kw_i64_id (by omega) (by omega)]; omega
    cases hw with | mk w1 w2 w3 w4 w5 w6 w7 =>
    refine pcall_fin t38 ?_
    refine WL_seq ?_
    refine WL_reg ?_
    refine O_n rfl rfl rfl ?_
    refine O_p rfl rfl rfl ?_
    refine WO_nil ?_
    refine WL_seq ?_
    apply WLp
    · (repeat (first | exact rzz | apply rcc rfl | apply rnn rfl))
    refine WL_seq ?_
    refine WL_seq ?_
    refine WL_reg ?_
    refine O_p rfl rfl rfl ?_
    refine O_p rfl rfl rfl ?_
    refine WO_nil ?_
    refine WL_seq ?_
    apply WLp
    · (repeat (first | exact rzz | apply rcc rfl | apply rnn rfl))
    refine WL_cond rfl (fun h9 => ?_) (fun h9 => ?_)
    · skip
      simp at h9; omega
    · skip
      refine WL_skip ?_
      refine WL_seq ?_
      apply WLp
      · (repeat (first | exact rzz | apply rcc rfl | apply rnn rfl))
      refine WL_seq ?_
      refine WL_reg ?_
      refine O_p rfl rfl rfl ?_
      refine WO_nil ?_
      refine WL_seq ?_
      apply WLp
      · (repeat (first | exact rzz | apply rcc rfl | apply rnn rfl))
      refine WL_seq ?_
      refine WL_seq ?_
      refine WL_reg ?_
      refine O_p rfl rfl rfl ?_
      refine WO_nil ?_
      refine WL_seq ?_
      apply WLp
      · (repeat (first | exact rzz | apply rcc rfl | apply rnn rfl))
      refine WL_block ?_
      apply WL_forc (α := Nat × Nat) (fun s => [(5, .int .i64 (s.1 : Nat)), (6, .int .i64 (s.2 : Nat))]) (fun s => s.2 ≤ t.pairs.length ∧ s.1 ≤ 2000 ∧ min 1000 (1 + rszs t.pairs l) = min 1000 (s.1 + rszs (t.pairs.drop s.2) l)) (fun s => t.pairs.length - s.2) ((1, 0)) (he := ?he) (hP := ?hP) (hk := ?hk) (round := ?round)
      case he =>
        (repeat (first | exact rzz | apply rcc rfl | apply rnn rfl))
      case hP =>
        exact ⟨by omega, by omega, rfl⟩
      case hk =>
        show t.pairs.length - 0 < n; omega
      case round =>
        rintro ⟨c, i⟩ ⟨hi, hc, hs⟩
        simp only at hi hc hs
        dsimp only [List.cons_append, List.nil_append] at *
        refine WL_seq ?_
        refine WL_seq ?_
        refine WL_reg ?_
        refine O_p rfl rfl rfl ?_
        refine O_p rfl rfl rfl ?_
        refine O_h rfl rfl rfl rfl ?_
        refine O_h rfl rfl rfl rfl ?_
        refine O_p rfl rfl rfl ?_
        refine O_p rfl rfl rfl ?_
        apply O_and [_, _] rfl rfl (hT := ?hT18) (h := ?hR18)
        case hT18 =>
          intro hb15
          refine O_p rfl rfl rfl ?_
          refine O_p rfl rfl rfl ?_
          exact WO_nil (WL_nil ⟨rfl, rfl, rfl⟩)
        case hR18 =>
          intro vs hvs
          obtain ⟨u16, u17, rfl⟩ := len2 hvs
          clear hvs; dsimp only [junk]
          refine WO_nil ?_
          refine WL_seq ?_
          apply WLp
          · (repeat (first | exact rzz | apply rcc rfl | apply rnn rfl))
          try clear u16 u17
          refine WL_cond rfl (fun h18 => ?_) (fun h18 => ?_)
          · skip
            simp at h18
            obtain ⟨x, hx⟩ : ∃ x, (t.pairs)[i]? = some x := ⟨_, List.getElem?_eq_getElem (by omega)⟩
            have hmx := List.mem_of_getElem? hx
            have hsx := szT_pairs hmx
            have hle := rsz_le x l
            have hg := drop_of hx
            refine WL_skip ?_
            refine WL_seq ?_
            apply WLp
            · (repeat (first | exact rzz | apply rcc rfl | apply rnn rfl))
            refine WL_seq ?_
            refine WL_block ?_
            refine WL_reg ?_
            refine O_p rfl rfl rfl ?_
            refine O_p rfl rfl rfl ?_
            refine O_h rfl rfl rfl rfl ?_
            refine O_p rfl rfl rfl ?_
            refine O_ia rfl rfl (Int.natCast_nonneg _) (encT_get (i := (i : Nat)) hx) (encT_flat _) rfl ?_
            refine O_h rfl rfl rfl rfl ?_
            refine O_p rfl rfl rfl ?_
            refine O_p rfl rfl rfl ?_
            refine O_c 38 rfl rfl (callA_of rfl (by rw [hl1]; exact ih x l (by omega) (w6 x hmx) (by omega))) ?_
            refine O_p rfl rfl rfl ?_
            refine O_p rfl rfl rfl ?_
            refine WO_nil ?_
            refine WL_nil ?_
            refine Blk_norm (?_ : WL _ _ _ _ _)
            refine WL_seq ?_
            apply WLp
            · (repeat (first | exact rzz | apply rcc rfl | apply rnn rfl))
            refine WL_reg ?_
            refine O_p rfl rfl rfl ?_
            refine O_p rfl rfl rfl ?_
            refine O_p rfl rfl rfl ?_
            refine WO_nil ?_
            refine WL_nil ?_
            refine RndC_norm ((c + rsz x l, i + 1)) (by refine ⟨?_, ?_, ?_⟩ <;> simp only <;> first | omega | (rw [hs, hg, rszs]; omega)) (by show _ < _; omega) ?_ rfl
            · rw [wrap_add (by omega), wrap_succ (by omega)]; (repeat (first | exact rzz | apply rcc rfl | apply rnn rfl))
          · skip
            have hq : min 1000 (1 + rszs t.pairs l) = min 1000 c := by
              rw [hs]; simp at h18
              by_cases hc : i < t.pairs.length
              · have := h18 hc; omega
              · rw [List.drop_eq_nil_of_le (by omega)]; simp [rszs]
            refine WL_exit ?_
            refine RndC_exit ?_
            refine Blk_exit (?_ : WL _ _ _ _ _)
            refine WL_seq ?_
            apply WLp
            · (repeat (first | exact rzz | apply rcc rfl | apply rnn rfl))
            refine WL_seq ?_
            refine WL_seq ?_
            refine WL_reg ?_
            refine O_p rfl rfl rfl ?_
            refine WO_nil ?_
            refine WL_seq ?_
            apply WLp
            · (repeat (first | exact rzz | apply rcc rfl | apply rnn rfl))
            refine WL_block ?_
            apply WL_forc (α := Nat × Nat) (fun s => [(5, .int .i64 (s.1 : Nat)), (7, .int .i64 (s.2 : Nat))]) (fun s => s.2 ≤ t.funs.length ∧ s.1 ≤ 2000 ∧ min 1000 (1 + rszs t.pairs l + rszs t.funs l) = min 1000 (s.1 + rszs (t.funs.drop s.2) l)) (fun s => t.funs.length - s.2) ((c, 0)) (he := ?he) (hP := ?hP) (hk := ?hk) (round := ?round)
            case he =>
              (repeat (first | exact rzz | apply rcc rfl | apply rnn rfl))
            case hP =>
              refine ⟨by simp, by simp only; omega, ?_⟩; simp only [List.drop_zero]; omega
            case hk =>
              show t.funs.length - 0 < n; omega
            case round =>
              rintro ⟨c, i⟩ ⟨hi, hc, hs2⟩
              simp only at hi hc hs2
              dsimp only [List.cons_append, List.nil_append] at *
              refine WL_seq ?_
              refine WL_seq ?_
              refine WL_reg ?_
              refine O_p rfl rfl rfl ?_
              refine O_p rfl rfl rfl ?_
              refine O_h rfl rfl rfl rfl ?_
              refine O_h rfl rfl rfl rfl ?_
              refine O_p rfl rfl rfl ?_
              refine O_p rfl rfl rfl ?_
              apply O_and [_, _] rfl rfl (hT := ?hT39) (h := ?hR39)
              case hT39 =>
                intro hb36
                refine O_p rfl rfl rfl ?_
                refine O_p rfl rfl rfl ?_
                exact WO_nil (WL_nil ⟨rfl, rfl, rfl⟩)
              case hR39 =>
                intro vs hvs
                obtain ⟨u37, u38, rfl⟩ := len2 hvs
                clear hvs; dsimp only [junk]
                refine WO_nil ?_
                refine WL_seq ?_
                apply WLp
                · (repeat (first | exact rzz | apply rcc rfl | apply rnn rfl))
                try clear u37 u38
                refine WL_cond rfl (fun h39 => ?_) (fun h39 => ?_)
                · skip
                  simp at h39
                  obtain ⟨x, hx⟩ : ∃ x, (t.funs)[i]? = some x := ⟨_, List.getElem?_eq_getElem (by omega)⟩
                  have hmx := List.mem_of_getElem? hx
                  have hsx := szT_funs hmx
                  have hle := rsz_le x l
                  have hg := drop_of hx
                  refine WL_skip ?_
                  refine WL_seq ?_
                  apply WLp
                  · (repeat (first | exact rzz | apply rcc rfl | apply rnn rfl))
                  refine WL_seq ?_
                  refine WL_block ?_
                  refine WL_reg ?_
                  refine O_p rfl rfl rfl ?_
                  refine O_p rfl rfl rfl ?_
                  refine O_h rfl rfl rfl rfl ?_
                  refine O_p rfl rfl rfl ?_
                  refine O_ia rfl rfl (Int.natCast_nonneg _) (encT_get (i := (i : Nat)) hx) (encT_flat _) rfl ?_
                  refine O_h rfl rfl rfl rfl ?_
                  refine O_p rfl rfl rfl ?_
                  refine O_p rfl rfl rfl ?_
                  refine O_c 38 rfl rfl (callA_of rfl (by rw [hl1]; exact ih x l (by omega) (w7 x hmx) (by omega))) ?_
                  refine O_p rfl rfl rfl ?_
                  refine O_p rfl rfl rfl ?_
                  refine WO_nil ?_
                  refine WL_nil ?_
                  refine Blk_norm (?_ : WL _ _ _ _ _)
                  refine WL_seq ?_
                  apply WLp
                  · (repeat (first | exact rzz | apply rcc rfl | apply rnn rfl))
                  refine WL_reg ?_
                  refine O_p rfl rfl rfl ?_
                  refine O_p rfl rfl rfl ?_
                  refine O_p rfl rfl rfl ?_
                  refine WO_nil ?_
                  refine WL_nil ?_
                  refine RndC_norm ((c + rsz x l, i + 1)) (by refine ⟨?_, ?_, ?_⟩ <;> simp only <;> first | omega | (rw [hs2, hg, rszs]; omega)) (by show _ < _; omega) ?_ rfl
                  · rw [wrap_add (by omega), wrap_succ (by omega)]; (repeat (first | exact rzz | apply rcc rfl | apply rnn rfl))
                · skip
                  have hr : AVal.int IntKind.i64 (rsz t (l + 1) : Nat) = AVal.int IntKind.i64 (if false = true then if (1000 : Int) > (c : Int) then 1000 else (c : Int) else if (1000 : Int) < (c : Int) then 1000 else (c : Int)) := by
                    have hq2 : rsz t (l + 1) = min 1000 c := by
                      rw [rsz_succ, hs2]; simp at h39
                      by_cases hc : i < t.funs.length
                      · have := h39 hc; omega
                      · rw [List.drop_eq_nil_of_le (by omega)]; simp [rszs]
                    rw [hq2]; congr 1; simp; split <;> omega
                  refine WL_exit ?_
                  refine RndC_exit ?_
                  refine Blk_exit (?_ : WL _ _ _ _ _)
                  refine WL_seq ?_
                  apply WLp
                  · (repeat (first | exact rzz | apply rcc rfl | apply rnn rfl))
                  refine WL_seq ?_
                  refine WL_reg ?_
                  refine O_p rfl rfl rfl ?_
                  refine O_p rfl rfl rfl ?_
                  refine O_p rfl rfl rfl ?_
                  refine WO_nil ?_
                  refine WL_ret ?_
                  refine ⟨_, rfl, _, rfl, ?_⟩
                  rw [hr]
theorem light_c (n : Nat) (t : Ty) (h : szT t < n) (hw : WfT t) : pcall (tabOf tabL) (n + 1) 8 [vT t] = some (.ok (.bool (decide (rsz t 60 < 120)))) := by
  refine pcall_fin t8 ?_
  refine WL_seq ?_
  refine WL_reg ?_
  refine O_n rfl rfl rfl ?_
  refine O_p rfl rfl rfl ?_
  refine WO_nil ?_
  refine WL_seq ?_
  apply WLp
  · (repeat (first | exact rzz | apply rcc rfl | apply rnn rfl))
  refine WL_seq ?_
  refine WL_reg ?_
  refine O_h rfl rfl rfl rfl ?_
  refine O_c 38 rfl rfl (callA_of rfl (size_c n t 60 h hw (by omega))) ?_
  refine O_p rfl rfl rfl ?_
  refine O_p rfl rfl rfl ?_
  refine WO_nil ?_
  refine WL_ret ?_
  exact ⟨_, rfl, _, rfl, by congr 2; apply decide_eq_decide.2; omega⟩
theorem pcnt_get {p : Int} (h0 : 0 ≤ p) (h2 : p ≤ 2) : [AVal.int .i64 0, AVal.int .i64 2, AVal.int .i64 1][p.toNat]? = some (.int .i64 (pcnt p)) := by
  obtain rfl | rfl | rfl : p = 0 ∨ p = 1 ∨ p = 2 := by omega
  all_goals rfl
theorem deep_c : ∀ (n : Nat) (t : Ty) (d : Nat), szT t < n → WfT t → d < 1000 → pcall (tabOf tabL) n 41 [vT t, .int .i64 (d : Nat)] = some (.ok (.bool (rightT t d)))
  | 0, t, d, h, _, _ => by omega
  | n + 1, t, d, h, hw, hd => by
    have ih := deep_c n
    have hp := len_pairs t
    have hf := len_funs t
    cases hw with | mk w1 w2 w3 w4 w5 w6 w7 =>
    refine pcall_fin t41 ?_
    refine WL_seq ?_
    refine WL_reg ?_
    refine O_n rfl rfl rfl ?_
    refine O_p rfl rfl rfl ?_
    refine WO_nil ?_
    refine WL_seq ?_
    apply WLp
    · (repeat (first | exact rzz | apply rcc rfl | apply rnn rfl))
    refine WL_seq ?_
    refine WL_seq ?_
    refine WL_reg ?_
    refine O_p rfl rfl rfl ?_
    refine O_p rfl rfl rfl ?_
    refine O_p rfl rfl rfl ?_
    apply O_or [_, _, _] rfl rfl (hT := ?hT14) (h := ?hR14)
    case hT14 =>
      intro hb10
      refine O_p rfl rfl rfl ?_
      refine O_h rfl rfl rfl rfl ?_
      refine O_p rfl rfl rfl ?_
      exact WO_nil (WL_nil ⟨rfl, rfl, rfl⟩)
    case hR14 =>
      intro vs hvs
      obtain ⟨u11, u12, u13, rfl⟩ := len3 hvs
      clear hvs; dsimp only [junk]
      refine O_p rfl rfl rfl ?_
      apply O_or [_, _, _] rfl rfl (hT := ?hT19) (h := ?hR19)
      case hT19 =>
        intro hb15
        refine O_p rfl rfl rfl ?_
        refine O_h rfl rfl rfl rfl ?_
        refine O_p rfl rfl rfl ?_
        exact WO_nil (WL_nil ⟨rfl, rfl, rfl⟩)
      case hR19 =>
        intro vs hvs
        obtain ⟨u16, u17, u18, rfl⟩ := len3 hvs
        clear hvs; dsimp only [junk]
        refine O_p rfl rfl rfl ?_
        apply O_or [_, _, _] rfl rfl (hT := ?hT24) (h := ?hR24)
        case hT24 =>
          intro hb20
          refine O_p rfl rfl rfl ?_
          refine O_h rfl rfl rfl rfl ?_
          refine O_p rfl rfl rfl ?_
          exact WO_nil (WL_nil ⟨rfl, rfl, rfl⟩)
        case hR24 =>
          intro vs hvs
          obtain ⟨u21, u22, u23, rfl⟩ := len3 hvs
          clear hvs; dsimp only [junk]
          refine O_p rfl rfl rfl ?_
          apply O_or [_, _, _] rfl rfl (hT := ?hT29) (h := ?hR29)
          case hT29 =>
            intro hb25
            refine O_p rfl rfl rfl ?_
            refine O_h rfl rfl rfl rfl ?_
            refine O_p rfl rfl rfl ?_
            exact WO_nil (WL_nil ⟨rfl, rfl, rfl⟩)
          case hR29 =>
            intro vs hvs
            obtain ⟨u26, u27, u28, rfl⟩ := len3 hvs
            clear hvs; dsimp only [junk]
            refine O_p rfl rfl rfl ?_
            apply O_or [_, _, _] rfl rfl (hT := ?hT34) (h := ?hR34)
            case hT34 =>
              intro hb30
              refine O_p rfl rfl rfl ?_
              refine O_h rfl rfl rfl rfl ?_
              refine O_p rfl rfl rfl ?_
              exact WO_nil (WL_nil ⟨rfl, rfl, rfl⟩)
            case hR34 =>
              intro vs hvs
              obtain ⟨u31, u32, u33, rfl⟩ := len3 hvs
              clear hvs; dsimp only [junk]
              refine O_p rfl rfl rfl ?_
              apply O_or [_, _, _] rfl rfl (hT := ?hT39) (h := ?hR39)
              case hT39 =>
                intro hb35
                refine O_p rfl rfl rfl ?_
                refine O_h rfl rfl rfl rfl ?_
                refine O_p rfl rfl rfl ?_
                exact WO_nil (WL_nil ⟨rfl, rfl, rfl⟩)
              case hR39 =>
                intro vs hvs
                obtain ⟨u36, u37, u38, rfl⟩ := len3 hvs
                clear hvs; dsimp only [junk]
                refine WO_nil ?_
                refine WL_seq ?_
                apply WLp
                · (repeat (first | exact rzz | apply rcc rfl | apply rnn rfl))
                try clear u11 u12 u13 u16 u17 u18 u21 u22 u23 u26 u27 u28 u31 u32 u33 u36 u37 u38
                refine WL_cond rfl (fun h39 => ?_) (fun h39 => ?_)
                · skip
                  have hr : rightT t d = false := by
                    cases d with
                    | zero => exact rightT_zero t
                    | succ d =>
                      rw [rightT_succ]
                      have : okT t = false := by
                        unfold okT; simp at h39 ⊢; omega
                      simp [this]
                  refine WL_seq ?_
                  refine WL_reg ?_
                  refine O_p rfl rfl rfl ?_
                  refine WO_nil ?_
                  refine WL_ret ?_
                  exact ⟨_, rfl, _, rfl, by rw [hr]⟩
                · skip
                  simp at h39
                  obtain ⟨d, rfl⟩ : ∃ e, d = e + 1 := ⟨d - 1, by omega⟩
                  have hl1 : IntKind.i64.wrap (((d + 1 : Nat) : Int) - 1) = (d : Int) := by rw [kw_i64_id (by omega) (by omega)]; omega
                  refine WL_skip ?_
                  refine WL_seq ?_
                  apply WLp
                  · (repeat (first | exact rzz | apply rcc rfl | apply rnn rfl))
                  refine WL_seq ?_
                  refine WL_seq ?_
                  refine WL_reg ?_
                  refine O_p rfl rfl rfl ?_
                  refine O_h rfl rfl rfl rfl ?_
                  refine O_p rfl rfl rfl ?_
                  apply O_and [_, _, _, _, _, _, _, _, _, _, _, _, _] rfl rfl (hT := ?hT56) (h := ?hR56)
                  case hT56 =>
                    intro hb42
                    refine O_p rfl rfl rfl ?_
                    refine O_h rfl rfl rfl rfl ?_
                    refine O_p rfl rfl rfl ?_
                    refine O_p rfl rfl rfl ?_
                    apply O_or [_, _, _] rfl rfl (hT := ?hT50) (h := ?hR50)
                    case hT50 =>
                      intro hb46
                      refine O_p rfl rfl rfl ?_
                      refine O_h rfl rfl rfl rfl ?_
                      refine O_p rfl rfl rfl ?_
                      exact WO_nil (WL_nil ⟨rfl, rfl, rfl⟩)
                    case hR50 =>
                      intro vs hvs
                      obtain ⟨u47, u48, u49, rfl⟩ := len3 hvs
                      clear hvs; dsimp only [junk]
                      refine O_p rfl rfl rfl ?_
                      apply O_or [_, _, _] rfl rfl (hT := ?hT55) (h := ?hR55)
                      case hT55 =>
                        intro hb51
                        refine O_p rfl rfl rfl ?_
                        refine O_h rfl rfl rfl rfl ?_
                        refine O_p rfl rfl rfl ?_
                        exact WO_nil (WL_nil ⟨rfl, rfl, rfl⟩)
                      case hR55 =>
                        intro vs hvs
                        obtain ⟨u52, u53, u54, rfl⟩ := len3 hvs
                        clear hvs; dsimp only [junk]
                        exact WO_nil (WL_nil ⟨rfl, rfl, rfl⟩)
                  case hR56 =>
                    intro vs hvs
                    obtain ⟨u43, u44, u45, u46, u47, u48, u49, u50, u51, u52, u53, u54, u55, rfl⟩ := len13 hvs
                    clear hvs; dsimp only [junk]
                    refine WO_nil ?_
                    refine WL_seq ?_
                    apply WLp
                    · (repeat (first | exact rzz | apply rcc rfl | apply rnn rfl))
                    try clear u47 u48 u49 u52 u53 u54 u43 u44 u45 u46 u47 u48 u49 u50 u51 u52 u53 u54 u55
                    refine WL_cond rfl (fun h56 => ?_) (fun h56 => ?_)
                    · skip
                      have hr : rightT t (d + 1) = false := by
                        rw [rightT_succ]
                        have : okT t = false := by
                          unfold okT; simp at h56 ⊢; intros; simp_all
                        simp [this]
                      refine WL_seq ?_
                      refine WL_reg ?_
                      refine O_p rfl rfl rfl ?_
                      refine WO_nil ?_
                      refine WL_ret ?_
                      exact ⟨_, rfl, _, rfl, by rw [hr]⟩
                    · skip
                      refine WL_skip ?_
                      refine WL_seq ?_
                      apply WLp
                      · (repeat (first | exact rzz | apply rcc rfl | apply rnn rfl))
                      refine WL_seq ?_
                      refine WL_reg ?_
                      refine O_h rfl rfl rfl rfl ?_
                      refine O_p rfl rfl rfl ?_
                      refine WO_nil ?_
                      refine WL_seq ?_
                      apply WLp
                      · (repeat (first | exact rzz | apply rcc rfl | apply rnn rfl))
                      refine WL_seq ?_
                      refine WL_seq ?_
                      refine WL_drawS (ops := [_, _, _, _, _, _, _, _, _, _, _, _, _, _, _, _, _, _, _, _, _, _, _, _, _, _, _, _, _, _, _, _, _, _, _, _, _]) rfl rfl ?_
                      refine O_p rfl rfl rfl ?_
                      refine O_h rfl rfl rfl rfl ?_
                      refine O_h rfl rfl rfl rfl ?_
                      refine O_p rfl rfl rfl ?_
                      refine O_p rfl rfl rfl ?_
                      refine O_h rfl rfl rfl rfl ?_
                      refine O_ia rfl rfl (by omega) (pcnt_get (by omega) (by omega)) rfl rfl ?_
                      refine O_h rfl rfl rfl rfl ?_
                      refine O_p rfl rfl rfl ?_
                      refine O_p rfl rfl rfl ?_
                      apply O_or [_, _, _, _, _, _, _, _, _] rfl rfl (hT := ?hT77) (h := ?hR77)
                      case hT77 =>
                        intro hb67
                        refine O_p rfl rfl rfl ?_
                        refine O_h rfl rfl rfl rfl ?_
                        refine O_p rfl rfl rfl ?_
                        refine O_p rfl rfl rfl ?_
                        apply O_and [_, _, _, _] rfl rfl (hT := ?hT76) (h := ?hR76)
                        case hT76 =>
                          intro hb71
                          refine O_p rfl rfl rfl ?_
                          refine O_h rfl rfl rfl rfl ?_
                          refine O_h rfl rfl rfl rfl ?_
                          refine O_p rfl rfl rfl ?_
                          exact WO_nil (WL_nil ⟨rfl, rfl, rfl⟩)
                        case hR76 =>
                          intro vs hvs
                          obtain ⟨u72, u73, u74, u75, rfl⟩ := len4 hvs
                          clear hvs; dsimp only [junk]
                          exact WO_nil (WL_nil ⟨rfl, rfl, rfl⟩)
                      case hR77 =>
                        intro vs hvs
                        obtain ⟨u68, u69, u70, u71, u72, u73, u74, u75, u76, rfl⟩ := len9 hvs
                        clear hvs; dsimp only [junk]
                        refine O_p rfl rfl rfl ?_
                        apply O_or [_, _, _, _, _, _, _, _, _, _, _, _, _, _, _] rfl rfl (hT := ?hT94) (h := ?hR94)
                        case hT94 =>
                          intro hb78
                          refine O_p rfl rfl rfl ?_
                          refine O_h rfl rfl rfl rfl ?_
                          refine O_p rfl rfl rfl ?_
                          refine O_p rfl rfl rfl ?_
                          apply O_and [_, _, _, _, _, _, _, _, _, _] rfl rfl (hT := ?hT93) (h := ?hR93)
                          case hT93 =>
                            intro hb82
                            refine O_p rfl rfl rfl ?_
                            refine O_h rfl rfl rfl rfl ?_
                            refine O_h rfl rfl rfl rfl ?_
                            refine O_p rfl rfl rfl ?_
                            refine O_p rfl rfl rfl ?_
                            apply O_or [_, _, _, _] rfl rfl (hT := ?hT92) (h := ?hR92)
                            case hT92 =>
                              intro hb87
                              refine O_p rfl rfl rfl ?_
                              refine O_h rfl rfl rfl rfl ?_
                              refine O_h rfl rfl rfl rfl ?_
                              refine O_p rfl rfl rfl ?_
                              exact WO_nil (WL_nil ⟨rfl, rfl, rfl⟩)
                            case hR92 =>
                              intro vs hvs
                              obtain ⟨u88, u89, u90, u91, rfl⟩ := len4 hvs
                              clear hvs; dsimp only [junk]
                              exact WO_nil (WL_nil ⟨rfl, rfl, rfl⟩)
                          case hR93 =>
                            intro vs hvs
                            obtain ⟨u83, u84, u85, u86, u87, u88, u89, u90, u91, u92, rfl⟩ := len10 hvs
                            clear hvs; dsimp only [junk]
                            exact WO_nil (WL_nil ⟨rfl, rfl, rfl⟩)
                        case hR94 =>
                          intro vs hvs
                          obtain ⟨u79, u80, u81, u82, u83, u84, u85, u86, u87, u88, u89, u90, u91, u92, u93, rfl⟩ := len15 hvs
                          clear hvs; dsimp only [junk]
                          refine WO_nil (WL_nil ⟨rfl, ?_⟩)
                          refine WL_seq ?_
                          apply WLp
                          · (repeat (first | exact rzz | apply rcc rfl | apply rnn rfl))
                          try clear u72 u73 u74 u75 u68 u69 u70 u71 u72 u73 u74 u75 u76 u88 u89 u90 u91 u83 u84 u85 u86 u87 u88 u89 u90 u91 u92 u79 u80 u81 u82 u83 u84 u85 u86 u87 u88 u89 u90 u91 u92 u93
                          refine WL_cond rfl (fun h94 => ?_) (fun h94 => ?_)
                          · skip
                            have hr : rightT t (d + 1) = false := by
                              rw [rightT_succ]
                              have : okT t = false := by
                                cases q : okT t with
                                | false => rfl
                                | true =>
                                  unfold okT at q; simp at q h94
                                  obtain ⟨⟨q1, q2⟩, q3⟩ := q
                                  by_cases hf1 : t.fn = 1 <;> simp [hf1, q2] at q3 h94 <;> first | omega | simp_all
                              simp [this]
                            refine WL_seq ?_
                            refine WL_reg ?_
                            refine O_p rfl rfl rfl ?_
                            refine WO_nil ?_
                            refine WL_ret ?_
                            exact ⟨_, rfl, _, rfl, by rw [hr]⟩
                          · skip
                            have hok : okT t = true := by
                              unfold okT; simp at h94 h56 ⊢
                              obtain ⟨⟨q1, q2⟩, q3⟩ := h94
                              refine ⟨⟨⟨⟨⟨⟨⟨⟨by omega, by omega⟩, by omega⟩, by omega⟩, by omega⟩, by omega⟩, ?_⟩, q1⟩, ?_⟩
                              · cases ha : t.all <;> simp [ha] at h56 ⊢; exact h56
                              · by_cases hf1 : t.fn = 1 <;> simp [hf1] at q2 q3 ⊢ <;> first | omega | exact q2
                            refine WL_skip ?_
                            refine WL_seq ?_
                            apply WLp
                            · (repeat (first | exact rzz | apply rcc rfl | apply rnn rfl))
                            refine WL_seq ?_
                            refine WL_seq ?_
                            refine WL_reg ?_
                            refine O_p rfl rfl rfl ?_
                            refine WO_nil ?_
                            refine WL_seq ?_
                            apply WLp
                            · (repeat (first | exact rzz | apply rcc rfl | apply rnn rfl))
                            refine WL_block ?_
                            apply WL_forc (α := Nat) (fun i => [(6, .int .i64 (i : Nat))]) (fun i => i ≤ t.pairs.length ∧ rightTs t.pairs d = rightTs (t.pairs.drop i) d) (fun i => t.pairs.length - i) (0) (he := ?he) (hP := ?hP) (hk := ?hk) (round := ?round)
                            case he =>
                              (repeat (first | exact rzz | apply rcc rfl | apply rnn rfl))
                            case hP =>
                              exact ⟨by omega, rfl⟩
                            case hk =>
                              show t.pairs.length - 0 < n; omega
                            case round =>
                              rintro i ⟨hi, hs⟩
                              dsimp only [List.cons_append, List.nil_append] at *
                              refine WL_seq ?_
                              refine WL_seq ?_
                              refine WL_reg ?_
                              refine O_p rfl rfl rfl ?_
                              refine O_p rfl rfl rfl ?_
                              refine O_h rfl rfl rfl rfl ?_
                              refine O_h rfl rfl rfl rfl ?_
                              refine O_p rfl rfl rfl ?_
                              refine WO_nil ?_
                              refine WL_seq ?_
                              apply WLp
                              · (repeat (first | exact rzz | apply rcc rfl | apply rnn rfl))
                              refine WL_cond rfl (fun h99 => ?_) (fun h99 => ?_)
                              · skip
                                simp at h99
                                obtain ⟨x, hx⟩ : ∃ x, (t.pairs)[i]? = some x := ⟨_, List.getElem?_eq_getElem (by omega)⟩
                                have hmx := List.mem_of_getElem? hx
                                have hsx := szT_pairs hmx
                                have hg := drop_of hx
                                refine WL_skip ?_
                                refine WL_seq ?_
                                apply WLp
                                · (repeat (first | exact rzz | apply rcc rfl | apply rnn rfl))
                                refine WL_seq ?_
                                refine WL_block ?_
                                refine WL_seq ?_
                                refine WL_reg ?_
                                refine O_p rfl rfl rfl ?_
                                refine O_h rfl rfl rfl rfl ?_
                                refine O_p rfl rfl rfl ?_
                                refine O_ia rfl rfl (Int.natCast_nonneg _) (encT_get (i := (i : Nat)) hx) (encT_flat _) rfl ?_
                                refine O_h rfl rfl rfl rfl ?_
                                refine O_p rfl rfl rfl ?_
                                refine O_p rfl rfl rfl ?_
                                refine O_c 41 rfl rfl (callA_of rfl (by rw [hl1]; exact ih x d (by omega) (w6 x hmx) (by omega))) ?_
                                refine O_p rfl rfl rfl ?_
                                refine WO_nil ?_
                                refine WL_seq ?_
                                apply WLp
                                · (repeat (first | exact rzz | apply rcc rfl | apply rnn rfl))
                                refine WL_cond rfl (fun h110 => ?_) (fun h110 => ?_)
                                · skip
                                  have hr : rightT t (d + 1) = false := by
                                    simp at h110
                                    rw [rightT_succ, hs, hg]; simp [rightTs, h110]
                                  refine WL_seq ?_
                                  refine WL_reg ?_
                                  refine O_p rfl rfl rfl ?_
                                  refine WO_nil ?_
                                  refine WL_ret ?_
                                  refine Blk_ret ?_
                                  refine RndC_ret ?_
                                  refine Blk_ret ?_
                                  exact ⟨_, rfl, _, rfl, by rw [hr]⟩
                                · skip
                                  refine WL_skip ?_
                                  refine WL_nil ?_
                                  refine Blk_norm (?_ : WL _ _ _ _ _)
                                  refine WL_seq ?_
                                  apply WLp
                                  · (repeat (first | exact rzz | apply rcc rfl | apply rnn rfl))
                                  refine WL_reg ?_
                                  refine O_p rfl rfl rfl ?_
                                  refine O_p rfl rfl rfl ?_
                                  refine O_p rfl rfl rfl ?_
                                  refine WO_nil ?_
                                  refine WL_nil ?_
                                  simp at h110
                                  refine RndC_norm (i + 1) (by refine ⟨by omega, ?_⟩; rw [hs, hg, rightTs, h110]; rfl) (by show _ < _; omega) ?_ rfl
                                  · rw [wrap_succ (by omega)]; (repeat (first | exact rzz | apply rcc rfl | apply rnn rfl))
                              · skip
                                have hq : rightTs t.pairs d = true := by
                                  simp at h99
                                  rw [hs, List.drop_eq_nil_of_le (by omega)]; rfl
                                refine WL_exit ?_
                                refine RndC_exit ?_
                                refine Blk_exit (?_ : WL _ _ _ _ _)
                                refine WL_seq ?_
                                apply WLp
                                · (repeat (first | exact rzz | apply rcc rfl | apply rnn rfl))
                                refine WL_seq ?_
                                refine WL_seq ?_
                                refine WL_reg ?_
                                refine O_p rfl rfl rfl ?_
                                refine WO_nil ?_
                                refine WL_seq ?_
                                apply WLp
                                · (repeat (first | exact rzz | apply rcc rfl | apply rnn rfl))
                                refine WL_block ?_
                                apply WL_forc (α := Nat) (fun i => [(7, .int .i64 (i : Nat))]) (fun i => i ≤ t.funs.length ∧ rightTs t.funs d = rightTs (t.funs.drop i) d) (fun i => t.funs.length - i) (0) (he := ?he) (hP := ?hP) (hk := ?hk) (round := ?round)
                                case he =>
                                  (repeat (first | exact rzz | apply rcc rfl | apply rnn rfl))
                                case hP =>
                                  exact ⟨by omega, rfl⟩
                                case hk =>
                                  show t.funs.length - 0 < n; omega
                                case round =>
                                  rintro i ⟨hi, hs⟩
                                  dsimp only [List.cons_append, List.nil_append] at *
                                  refine WL_seq ?_
                                  refine WL_seq ?_
                                  refine WL_reg ?_
                                  refine O_p rfl rfl rfl ?_
                                  refine O_p rfl rfl rfl ?_
                                  refine O_h rfl rfl rfl rfl ?_
                                  refine O_h rfl rfl rfl rfl ?_
                                  refine O_p rfl rfl rfl ?_
                                  refine WO_nil ?_
                                  refine WL_seq ?_
                                  apply WLp
                                  · (repeat (first | exact rzz | apply rcc rfl | apply rnn rfl))
                                  refine WL_cond rfl (fun h115 => ?_) (fun h115 => ?_)
                                  · skip
                                    simp at h115
                                    obtain ⟨x, hx⟩ : ∃ x, (t.funs)[i]? = some x := ⟨_, List.getElem?_eq_getElem (by omega)⟩
                                    have hmx := List.mem_of_getElem? hx
                                    have hsx := szT_funs hmx
                                    have hg := drop_of hx
                                    refine WL_skip ?_
                                    refine WL_seq ?_
                                    apply WLp
                                    · (repeat (first | exact rzz | apply rcc rfl | apply rnn rfl))
                                    refine WL_seq ?_
                                    refine WL_block ?_
                                    refine WL_seq ?_
                                    refine WL_reg ?_
                                    refine O_p rfl rfl rfl ?_
                                    refine O_h rfl rfl rfl rfl ?_
                                    refine O_p rfl rfl rfl ?_
                                    refine O_ia rfl rfl (Int.natCast_nonneg _) (encT_get (i := (i : Nat)) hx) (encT_flat _) rfl ?_
                                    refine O_h rfl rfl rfl rfl ?_
                                    refine O_p rfl rfl rfl ?_
                                    refine O_p rfl rfl rfl ?_
                                    refine O_c 41 rfl rfl (callA_of rfl (by rw [hl1]; exact ih x d (by omega) (w7 x hmx) (by omega))) ?_
                                    refine O_p rfl rfl rfl ?_
                                    refine WO_nil ?_
                                    refine WL_seq ?_
                                    apply WLp
                                    · (repeat (first | exact rzz | apply rcc rfl | apply rnn rfl))
                                    refine WL_cond rfl (fun h126 => ?_) (fun h126 => ?_)
                                    · skip
                                      have hr : rightT t (d + 1) = false := by
                                        simp at h126
                                        rw [rightT_succ, hs, hg]; simp [rightTs, h126]
                                      refine WL_seq ?_
                                      refine WL_reg ?_
                                      refine O_p rfl rfl rfl ?_
                                      refine WO_nil ?_
                                      refine WL_ret ?_
                                      refine Blk_ret ?_
                                      refine RndC_ret ?_
                                      refine Blk_ret ?_
                                      exact ⟨_, rfl, _, rfl, by rw [hr]⟩
                                    · skip
                                      refine WL_skip ?_
                                      refine WL_nil ?_
                                      refine Blk_norm (?_ : WL _ _ _ _ _)
                                      refine WL_seq ?_
                                      apply WLp
                                      · (repeat (first | exact rzz | apply rcc rfl | apply rnn rfl))
                                      refine WL_reg ?_
                                      refine O_p rfl rfl rfl ?_
                                      refine O_p rfl rfl rfl ?_
                                      refine O_p rfl rfl rfl ?_
                                      refine WO_nil ?_
                                      refine WL_nil ?_
                                      simp at h126
                                      refine RndC_norm (i + 1) (by refine ⟨by omega, ?_⟩; rw [hs, hg, rightTs, h126]; rfl) (by show _ < _; omega) ?_ rfl
                                      · rw [wrap_succ (by omega)]; (repeat (first | exact rzz | apply rcc rfl | apply rnn rfl))
                                  · skip
                                    have hr : rightT t (d + 1) = true := by
                                      simp at h115
                                      rw [rightT_succ, hok, hq, hs, List.drop_eq_nil_of_le (by omega)]; rfl
                                    refine WL_exit ?_
                                    refine RndC_exit ?_
                                    refine Blk_exit (?_ : WL _ _ _ _ _)
                                    refine WL_seq ?_
                                    apply WLp
                                    · (repeat (first | exact rzz | apply rcc rfl | apply rnn rfl))
                                    refine WL_seq ?_
                                    refine WL_reg ?_
                                    refine O_p rfl rfl rfl ?_
                                    refine WO_nil ?_
                                    refine WL_ret ?_
                                    exact ⟨_, rfl, _, rfl, by rw [hr]⟩
theorem right_ref (n : Nat) (t : Ty) (h : szT t < n) (hw : WfT t) : pcall (tabOf tabL) (n + 1) 10 [vT t] = some (.ok (.bool (decide (rsz t 60 ≤ 300) && rightT t 20))) := by
  refine pcall_fin t10 ?_
  refine WL_seq ?_
  refine WL_reg ?_
  refine O_n rfl rfl rfl ?_
  refine O_p rfl rfl rfl ?_
  refine WO_nil ?_
  refine WL_seq ?_
  apply WLp
  · (repeat (first | exact rzz | apply rcc rfl | apply rnn rfl))
  refine WL_seq ?_
  refine WL_reg ?_
  refine O_h rfl rfl rfl rfl ?_
  refine O_c 38 rfl rfl (callA_of rfl (size_c n t 60 h hw (by omega))) ?_
  refine O_p rfl rfl rfl ?_
  refine O_p rfl rfl rfl ?_
  apply O_and [_, _] rfl rfl (hT := ?hT9) (h := ?hR9)
  case hT9 =>
    intro hb6
    refine O_h rfl rfl rfl rfl ?_
    refine O_c 41 rfl rfl (callA_of rfl (deep_c n t 20 h hw (by omega))) ?_
    exact WO_nil (WL_nil ⟨rfl, rfl, rfl⟩)
  case hR9 =>
    intro vs hvs
    obtain ⟨u7, u8, rfl⟩ := len2 hvs
    clear hvs; dsimp only [junk]
    refine O_p rfl rfl rfl ?_
    refine WO_nil ?_
    refine WL_ret ?_
    exact ⟨_, rfl, _, rfl, by congr 3; apply decide_eq_decide.2; omega⟩
end Go.Ev.Seat.TyS
namespace Go.Ev.Seat
set_option linter.unusedVariables false
set_option linter.unusedSimpArgs false
open Go Go.Ev
set_option maxRecDepth 20000
attribute [local irreducible] pcall callF
theorem pairsM_c (n : Nat) (up : Bool) (lb : Int) (qs : List Co) (c0 c1 : List AVal) (g : Nat → Int) (f m : Int) (gs : AVal) (hl : qs.length < n) (hm : qs.length < 1000000) :
    callF (tabOf tabL) (n + 5) 42 [.ptr 2 0, .lst (qs.map encC) true] [.cells c0, .cells c1, .cells (fC g 0 0 (.lst [] true) f m gs)] =
      some (.ok (.tup []), [.cells c0, .cells c1, .cells (fC g (pairG up lb 1 qs).1 (pairG up lb 1 qs).2.1 (.lst ((pairG up lb 1 qs).2.2.map encC) true) f m gs)]) := by
  refine callF_fin t42 ?_
  refine WL_seq ?_
  refine WL_reg ?_
  refine O_p rfl rfl rfl ?_
  refine O_c 56 rfl rfl (callA_of rfl (some_c n qs hl hm)) ?_
  refine WO_nil ?_
  refine WL_seq ?_
  apply WLp
  · (repeat (first | exact rzz | apply rcc rfl | apply rnn rfl))
  refine WL_cond rfl (fun h5 => ?_) (fun h5 => ?_)
  · skip
    have hP : pairG up lb 1 qs = (2, 0, qs) := by
      have ha : anyA qs = true := h5
      simp [pairG, ha]
    refine WL_reg ?_
    refine O_p rfl rfl rfl ?_
    refine O_p rfl rfl rfl ?_
    refine O_p rfl rfl rfl ?_
    refine O_p rfl rfl rfl ?_
    refine O_p rfl rfl rfl ?_
    refine O_hn rfl rfl rfl rfl ?_
    refine O_p rfl rfl rfl ?_
    refine O_p rfl rfl rfl ?_
    refine O_hn rfl rfl rfl rfl ?_
    refine WO_nil ?_
    refine WL_nil ?_
    refine ⟨_, rfl, rfl, ?_⟩
    rw [hP]; rfl
  · skip
    have hP : pairG up lb 1 qs = (0, 0, []) := by
      have ha : anyA qs = false := h5
      simp [pairG, ha]
    refine WL_skip ?_
    refine WL_nil ?_
    refine ⟨_, rfl, rfl, ?_⟩
    rw [hP]; rfl
abbrev Zc : List AVal := [.int .i64 0, .int .i64 0, .int .i64 0, .int .i64 0, .int .i64 0, .int .i64 0, .int .i64 0, .int .i64 0, .lst [] true, .int .i64 0, .int .i64 0, .lst [] true]
theorem funsM_c (n : Nat) (up : Bool) (lb : Int) (ts : List Ty) (t : Ty) (A R : FuncId) (g : Nat → Int) (p q : Int) (ps : List AVal) (b : Bool) (hl : ts.length < n) (h9 : ts.length ≤ 9)
    (hA : ∀ x, x ∈ ts → pcall (tabOf tabL) (n + 5) A [vT x, .int .i64 lb] = some (.ok (vC (goC (!up) lb x)))) (hR : ∀ x, x ∈ ts → pcall (tabOf tabL) (n + 5) R [vT x, .int .i64 lb] = some (.ok (vC (goC up lb x)))) :
    callF (tabOf tabL) (n + 6) 43 [.ptr 2 0, .lst (ts.map encT) false, .fn A [], .fn R [], .int .i64 lb] [.cells (cT t), .cells Zc, .cells (fC g p q (.lst ps b) 0 0 (.lst [] true))] =
      some (.ok (.tup []), [.cells (cT t), .cells Zc, .cells (if anyA (goFs up lb ts) then fC g p q (.lst ps b) 2 0 (.gl 3 ts.length) else fC g p q (.lst ps b) 0 0 (.lst [] true)), .grow (es0 12 ts.length) ((goFs up lb ts).map encC) none]) := by
  have hL := goFs_len up lb ts
  refine callF_fin t43 ?_
  refine WL_seq ?_
  refine WL_reg ?_
  refine O_p rfl rfl rfl ?_
  refine WO_nil ?_
  refine WL_seq ?_
  apply WLp
  · (repeat (first | exact rzz | apply rcc rfl | apply rnn rfl))
  conv => arg 4; (try simp only [nrm, Nat.reduceAdd, pCT, tCT, putCells, AVal.flat])
  conv => arg 3; (try simp only [nrm, Nat.reduceAdd, pCT, tCT, putCells, AVal.flat])
  refine WL_seq ?_
  refine WL_seq ?_
  refine WL_reg ?_
  refine O_p rfl rfl rfl ?_
  refine O_h rfl rfl rfl rfl ?_
  refine O_p rfl rfl rfl ?_
  refine WO_nil ?_
  refine WL_seq ?_
  apply WLp
  · (repeat (first | exact rzz | apply rcc rfl | apply rnn rfl))
  conv => arg 4; (try simp only [nrm, Nat.reduceAdd, pCT, tCT, putCells, AVal.flat])
  conv => arg 3; (try simp only [nrm, Nat.reduceAdd, pCT, tCT, putCells, AVal.flat])
  refine WL_block ?_
  refine WL_seq ?_
  refine WL_own rfl ?_
  apply WL_forv (hc := [.cells (cT t), .cells Zc, .cells (fC g p q (.lst ps b) 0 0 (.lst [] true))]) (α := Nat) (fun i => [(10, .gl 3 i), (16, .int .i64 (i : Nat))]) (fun i => [.grow (es0 12 i) (((goFs up lb ts).take i).map encC) none]) (fun i => i ≤ ts.length) (fun i => ts.length - i) (0) (he := ?he) (hh := ?hh) (hP := ?hP) (hk := ?hk) (round := ?round)
  case he =>
    (repeat (first | exact rzz | apply rcc rfl | apply rnn rfl))
  case hh =>
    rfl
  case hP =>
    omega
  case hk =>
    show ts.length - 0 < n + 5; omega
  case round =>
    rintro i hi
    dsimp only [List.cons_append, List.nil_append] at *
    refine WL_seq ?_
    refine WL_reg ?_
    refine O_p rfl rfl rfl ?_
    refine WO_nil ?_
    refine WL_seq ?_
    apply WLp
    · (repeat (first | exact rzz | apply rcc rfl | apply rnn rfl))
    conv => arg 4; (try simp only [nrm, Nat.reduceAdd, pCT, tCT, putCells, AVal.flat])
    conv => arg 3; (try simp only [nrm, Nat.reduceAdd, pCT, tCT, putCells, AVal.flat])
    refine WL_seq ?_
    refine WL_cond rfl (fun h17 => ?_) (fun h17 => ?_)
    · skip
      simp at h17
      obtain ⟨x, hx⟩ : ∃ x, (ts)[i]? = some x := ⟨_, List.getElem?_eq_getElem (by omega)⟩
      have hmx := List.mem_of_getElem? hx
      refine WL_skip ?_
      refine WL_seq ?_
      apply WLp
      · (repeat (first | exact rzz | apply rcc rfl | apply rnn rfl))
      conv => arg 4; (try simp only [nrm, Nat.reduceAdd, pCT, tCT, putCells, AVal.flat])
      conv => arg 3; (try simp only [nrm, Nat.reduceAdd, pCT, tCT, putCells, AVal.flat])
      refine WL_seq ?_
      refine WL_block ?_
      refine WL_seq ?_
      refine WL_reg ?_
      refine O_p rfl rfl rfl ?_
      refine O_ia rfl rfl (Int.natCast_nonneg _) (encT_get (i := (i : Nat)) hx) (encT_flat _) rfl ?_
      refine O_h rfl rfl rfl rfl ?_
      refine O_n rfl rfl rfl ?_
      refine O_p rfl rfl rfl ?_
      refine O_hn rfl rfl rfl rfl ?_
      refine WO_nil ?_
      refine WL_seq ?_
      apply WLp
      · (repeat (first | exact rzz | apply rcc rfl | apply rnn rfl))
      conv => arg 4; (try simp only [nrm, Nat.reduceAdd, pCT, tCT, putCells, AVal.flat])
      conv => arg 3; (try simp only [nrm, Nat.reduceAdd, pCT, tCT, putCells, AVal.flat])
      refine WL_seq ?_
      refine WL_reg ?_
      refine O_p rfl rfl rfl ?_
      refine O_p rfl rfl rfl ?_
      refine WO_nil ?_
      refine WL_seq ?_
      apply WLp
      · (repeat (first | exact rzz | apply rcc rfl | apply rnn rfl))
      conv => arg 4; (try simp only [nrm, Nat.reduceAdd, pCT, tCT, putCells, AVal.flat])
      conv => arg 3; (try simp only [nrm, Nat.reduceAdd, pCT, tCT, putCells, AVal.flat])
      refine WL_seq ?_
      refine WL_seq ?_
      refine WL_reg ?_
      refine O_p rfl rfl rfl ?_
      refine O_p rfl rfl rfl ?_
      refine O_h rfl rfl rfl rfl ?_
      refine O_p rfl rfl rfl ?_
      refine O_p rfl rfl rfl ?_
      refine WO_nil ?_
      refine WL_seq ?_
      apply WLp
      · (repeat (first | exact rzz | apply rcc rfl | apply rnn rfl))
      conv => arg 4; (try simp only [nrm, Nat.reduceAdd, pCT, tCT, putCells, AVal.flat])
      conv => arg 3; (try simp only [nrm, Nat.reduceAdd, pCT, tCT, putCells, AVal.flat])
      refine WL_cond rfl (fun h26 => ?_) (fun h26 => ?_)
      · skip
        have hlst : i + 1 = ts.length := by
          simp at h26; rw [kw_i64_id (by omega) (by omega)] at h26; omega
        obtain ⟨z, hzd⟩ : ∃ z, z = goC up lb x := ⟨_, rfl⟩
        have hz : (goFs up lb ts)[i]? = some z := by rw [goFs_get _ _ _ i x hx, if_pos hlst, hzd]
        have hcall := hR x hmx
        rw [← hzd] at hcall
        refine WL_reg ?_
        refine O_p rfl rfl rfl ?_
        refine O_p rfl rfl rfl ?_
        refine WO_nil ?_
        refine WL_seq ?_
        apply WLp
        · (repeat (first | exact rzz | apply rcc rfl | apply rnn rfl))
        conv => arg 4; (try simp only [nrm, Nat.reduceAdd, pCT, tCT, putCells, AVal.flat])
        conv => arg 3; (try simp only [nrm, Nat.reduceAdd, pCT, tCT, putCells, AVal.flat])
        refine WL_reg ?_
        refine O_p rfl rfl rfl ?_
        refine O_p rfl rfl rfl ?_
        refine O_h rfl rfl rfl rfl ?_
        refine O_p rfl rfl rfl ?_
        refine O_cv rfl rfl (callA_of rfl hcall) ?_
        refine O_h rfl rfl rfl rfl ?_
        refine O_push (y := vC z) rfl rfl rfl (by simp; omega) (es0_or 12 i) (encC_w _) rfl (by omega)  (take_succ_map hz).symm rfl ?_
        refine O_p rfl rfl rfl ?_
        refine WO_nil ?_
        refine WL_nil ?_
        refine Blk_norm (?_ : WL _ _ _ _ _)
        refine WL_seq ?_
        apply WLp
        · (repeat (first | exact rzz | apply rcc rfl | apply rnn rfl))
        conv => arg 4; (try simp only [nrm, Nat.reduceAdd, pCT, tCT, putCells, AVal.flat])
        conv => arg 3; (try simp only [nrm, Nat.reduceAdd, pCT, tCT, putCells, AVal.flat])
        refine WL_reg ?_
        refine O_p rfl rfl rfl ?_
        refine O_p rfl rfl rfl ?_
        refine WO_nil ?_
        refine WL_nil ?_
        refine RndV_norm (i + 1) (by omega) (by show _ < _; omega) ?_ rfl
        · rw [wrap_succ (by omega)]; (repeat (first | exact rzz | apply rcc rfl | apply rnn rfl))
      · skip
        have hlst : ¬ i + 1 = ts.length := by
          simp at h26; rw [kw_i64_id (by omega) (by omega)] at h26; omega
        obtain ⟨z, hzd⟩ : ∃ z, z = goC (!up) lb x := ⟨_, rfl⟩
        have hz : (goFs up lb ts)[i]? = some z := by rw [goFs_get _ _ _ i x hx, if_neg hlst, hzd]
        have hcall := hA x hmx
        rw [← hzd] at hcall
        refine WL_skip ?_
        refine WL_seq ?_
        apply WLp
        · (repeat (first | exact rzz | apply rcc rfl | apply rnn rfl))
        conv => arg 4; (try simp only [nrm, Nat.reduceAdd, pCT, tCT, putCells, AVal.flat])
        conv => arg 3; (try simp only [nrm, Nat.reduceAdd, pCT, tCT, putCells, AVal.flat])
        refine WL_reg ?_
        refine O_p rfl rfl rfl ?_
        refine O_p rfl rfl rfl ?_
        refine O_h rfl rfl rfl rfl ?_
        refine O_p rfl rfl rfl ?_
        refine O_cv rfl rfl (callA_of rfl hcall) ?_
        refine O_h rfl rfl rfl rfl ?_
        refine O_push (y := vC z) rfl rfl rfl (by simp; omega) (es0_or 12 i) (encC_w _) rfl (by omega)  (take_succ_map hz).symm rfl ?_
        refine O_p rfl rfl rfl ?_
        refine WO_nil ?_
        refine WL_nil ?_
        refine Blk_norm (?_ : WL _ _ _ _ _)
        refine WL_seq ?_
        apply WLp
        · (repeat (first | exact rzz | apply rcc rfl | apply rnn rfl))
        conv => arg 4; (try simp only [nrm, Nat.reduceAdd, pCT, tCT, putCells, AVal.flat])
        conv => arg 3; (try simp only [nrm, Nat.reduceAdd, pCT, tCT, putCells, AVal.flat])
        refine WL_reg ?_
        refine O_p rfl rfl rfl ?_
        refine O_p rfl rfl rfl ?_
        refine WO_nil ?_
        refine WL_nil ?_
        refine RndV_norm (i + 1) (by omega) (by show _ < _; omega) ?_ rfl
        · rw [wrap_succ (by omega)]; (repeat (first | exact rzz | apply rcc rfl | apply rnn rfl))
    · skip
      simp at h17
      obtain rfl : i = ts.length := by omega
      rw [← hL, List.take_length, hL]
      refine WL_exit ?_
      refine RndV_exit ?_
      refine Blk_exit (?_ : WL _ _ _ _ _)
      refine WL_seq ?_
      apply WLp
      · (repeat (first | exact rzz | apply rcc rfl | apply rnn rfl))
      conv => arg 4; (try simp only [nrm, Nat.reduceAdd, pCT, tCT, putCells, AVal.flat])
      conv => arg 3; (try simp only [nrm, Nat.reduceAdd, pCT, tCT, putCells, AVal.flat])
      refine WL_seq ?_
      refine WL_reg ?_
      refine O_p rfl rfl rfl ?_
      refine O_c 56 rfl rfl (callA_of (as := [.lst ((goFs up lb ts).map encC) false, .fn 45 []]) (by simp [shutL, shutV, growAt, hL]) (some_c (n + 1) (goFs up lb ts) (by omega) (by omega))) ?_
      refine WO_nil ?_
      refine WL_seq ?_
      apply WLp
      · (repeat (first | exact rzz | apply rcc rfl | apply rnn rfl))
      conv => arg 4; (try simp only [nrm, Nat.reduceAdd, pCT, tCT, putCells, AVal.flat])
      conv => arg 3; (try simp only [nrm, Nat.reduceAdd, pCT, tCT, putCells, AVal.flat])
      refine WL_cond rfl (fun h37 => ?_) (fun h37 => ?_)
      · skip
        replace h37 : anyA (goFs up lb ts) = true := h37
        refine WL_reg ?_
        refine O_p rfl rfl rfl ?_
        refine O_p rfl rfl rfl ?_
        refine O_p rfl rfl rfl ?_
        refine O_p rfl rfl rfl ?_
        refine O_p rfl rfl rfl ?_
        refine O_hn rfl rfl rfl rfl ?_
        refine O_p rfl rfl rfl ?_
        refine O_p rfl rfl rfl ?_
        refine O_hn rfl rfl rfl rfl ?_
        refine WO_nil ?_
        refine WL_nil ?_
        refine ⟨_, rfl, rfl, ?_⟩
        simp only [h37, if_true, Bool.false_eq_true, if_false]; first | done | rfl
      · skip
        replace h37 : anyA (goFs up lb ts) = false := h37
        refine WL_skip ?_
        refine WL_nil ?_
        refine ⟨_, rfl, rfl, ?_⟩
        simp only [h37, if_true, Bool.false_eq_true, if_false]; first | done | rfl
theorem funsA (n m : Nat) (up : Bool) (lb : Int) (ts : List Ty) (t : Ty) (A R : FuncId) (g : Nat → Int) (p q : Int) (ps : List AVal) (b : Bool) (hl : ts.length < n) (h9 : ts.length ≤ 9)
    (hA : ∀ x, x ∈ ts → pcall (tabOf tabL) (n + 5) A [vT x, .int .i64 lb] = some (.ok (vC (goC (!up) lb x)))) (hR : ∀ x, x ∈ ts → pcall (tabOf tabL) (n + 5) R [vT x, .int .i64 lb] = some (.ok (vC (goC up lb x)))) :
    (anyA (goFs up lb ts) = true ∧ callA ⟨callF (tabOf tabL) (n + 6), m⟩ false 43 [.ptr 2 0, .lst (ts.map encT) false, .fn A [], .fn R [], .int .i64 lb] [.cells (cT t), .cells Zc, .cells (fC g p q (.lst ps b) 0 0 (.lst [] true))] =
      some (.ok (.tup []), [.cells (cT t), .cells Zc, .cells (fC g p q (.lst ps b) 2 0 (.gl 3 ts.length)), .grow (es0 12 ts.length) ((goFs up lb ts).map encC) none])) ∨
    (anyA (goFs up lb ts) = false ∧ callA ⟨callF (tabOf tabL) (n + 6), m⟩ false 43 [.ptr 2 0, .lst (ts.map encT) false, .fn A [], .fn R [], .int .i64 lb] [.cells (cT t), .cells Zc, .cells (fC g p q (.lst ps b) 0 0 (.lst [] true))] =
      some (.ok (.tup []), [.cells (cT t), .cells Zc, .cells (fC g p q (.lst ps b) 0 0 (.lst [] true))])) := by
  have h := funsM_c n up lb ts t A R g p q ps b hl h9 hA hR
  cases ha : anyA (goFs up lb ts) with
  | true => rw [ha] at h; exact .inl ⟨rfl, callA_nr rfl h rfl⟩
  | false => rw [ha] at h; exact .inr ⟨rfl, callA_hc rfl h (by simp) rfl rfl rfl⟩
theorem funsM1_c (n : Nat) (up : Bool) (lb : Int) (ts : List Ty) (t : Ty) (A R : FuncId) (g : Nat → Int) (p q : Int) (ps : List AVal) (b : Bool) (x6 : Co) (hl : ts.length < n) (h9 : ts.length ≤ 9)
    (hA : ∀ x, x ∈ ts → pcall (tabOf tabL) (n + 5) A [vT x, .int .i64 lb] = some (.ok (vC (goC (!up) lb x)))) (hR : ∀ x, x ∈ ts → pcall (tabOf tabL) (n + 5) R [vT x, .int .i64 lb] = some (.ok (vC (goC up lb x)))) :
    callF (tabOf tabL) (n + 6) 43 [.ptr 2 0, .lst (ts.map encT) false, .fn A [], .fn R [], .int .i64 lb] [.cells (cT t), .cells Zc, .cells (fC g p q (.lst ps b) 0 0 (.lst [] true)), .cells (cC x6)] =
      some (.ok (.tup []), [.cells (cT t), .cells Zc, .cells (if anyA (goFs up lb ts) then fC g p q (.lst ps b) 2 0 (.gl 4 ts.length) else fC g p q (.lst ps b) 0 0 (.lst [] true)), .cells (cC x6), .grow (es0 12 ts.length) ((goFs up lb ts).map encC) none]) := by
  have hL := goFs_len up lb ts
  refine callF_fin t43 ?_
  refine WL_seq ?_
  refine WL_reg ?_
  refine O_p rfl rfl rfl ?_
  refine WO_nil ?_
  refine WL_seq ?_
  apply WLp
  · (repeat (first | exact rzz | apply rcc rfl | apply rnn rfl))
  conv => arg 4; (try simp only [nrm, Nat.reduceAdd, pCT, tCT, putCells, AVal.flat])
  conv => arg 3; (try simp only [nrm, Nat.reduceAdd, pCT, tCT, putCells, AVal.flat])
  refine WL_seq ?_
  refine WL_seq ?_
  refine WL_reg ?_
  refine O_p rfl rfl rfl ?_
  refine O_h rfl rfl rfl rfl ?_
  refine O_p rfl rfl rfl ?_
  refine WO_nil ?_
  refine WL_seq ?_
  apply WLp
  · (repeat (first | exact rzz | apply rcc rfl | apply rnn rfl))
  conv => arg 4; (try simp only [nrm, Nat.reduceAdd, pCT, tCT, putCells, AVal.flat])
  conv => arg 3; (try simp only [nrm, Nat.reduceAdd, pCT, tCT, putCells, AVal.flat])
  refine WL_block ?_
  refine WL_seq ?_
  refine WL_own rfl ?_
  apply WL_forv (hc := [.cells (cT t), .cells Zc, .cells (fC g p q (.lst ps b) 0 0 (.lst [] true)), .cells (cC x6)]) (α := Nat) (fun i => [(10, .gl 4 i), (16, .int .i64 (i : Nat))]) (fun i => [.grow (es0 12 i) (((goFs up lb ts).take i).map encC) none]) (fun i => i ≤ ts.length) (fun i => ts.length - i) (0) (he := ?he) (hh := ?hh) (hP := ?hP) (hk := ?hk) (round := ?round)
  case he =>
    (repeat (first | exact rzz | apply rcc rfl | apply rnn rfl))
  case hh =>
    rfl
  case hP =>
    omega
  case hk =>
    show ts.length - 0 < n + 5; omega
  case round =>
    rintro i hi
    dsimp only [List.cons_append, List.nil_append] at *
    refine WL_seq ?_
    refine WL_reg ?_
    refine O_p rfl rfl rfl ?_
    refine WO_nil ?_
    refine WL_seq ?_
    apply WLp
    · (repeat (first | exact rzz | apply rcc rfl | apply rnn rfl))
    conv => arg 4; (try simp only [nrm, Nat.reduceAdd, pCT, tCT, putCells, AVal.flat])
    conv => arg 3; (try simp only [nrm, Nat.reduceAdd, pCT, tCT, putCells, AVal.flat])
    refine WL_seq ?_
    refine WL_cond rfl (fun h17 => ?_) (fun h17 => ?_)
    · skip
      simp at h17
      obtain ⟨x, hx⟩ : ∃ x, (ts)[i]? = some x := ⟨_, List.getElem?_eq_getElem (by omega)⟩
      have hmx := List.mem_of_getElem? hx
      refine WL_skip ?_
      refine WL_seq ?_
      apply WLp
      · (repeat (first | exact rzz | apply rcc rfl | apply rnn rfl))
      conv => arg 4; (try simp only [nrm, Nat.reduceAdd, pCT, tCT, putCells, AVal.flat])
      conv => arg 3; (try simp only [nrm, Nat.reduceAdd, pCT, tCT, putCells, AVal.flat])
      refine WL_seq ?_
      refine WL_block ?_
      refine WL_seq ?_
      refine WL_reg ?_
      refine O_p rfl rfl rfl ?_
      refine O_ia rfl rfl (Int.natCast_nonneg _) (encT_get (i := (i : Nat)) hx) (encT_flat _) rfl ?_
      refine O_h rfl rfl rfl rfl ?_
      refine O_n rfl rfl rfl ?_
      refine O_p rfl rfl rfl ?_
      refine O_hn rfl rfl rfl rfl ?_
      refine WO_nil ?_
      refine WL_seq ?_
      apply WLp
      · (repeat (first | exact rzz | apply rcc rfl | apply rnn rfl))
      conv => arg 4; (try simp only [nrm, Nat.reduceAdd, pCT, tCT, putCells, AVal.flat])
      conv => arg 3; (try simp only [nrm, Nat.reduceAdd, pCT, tCT, putCells, AVal.flat])
      refine WL_seq ?_
      refine WL_reg ?_
      refine O_p rfl rfl rfl ?_
      refine O_p rfl rfl rfl ?_
      refine WO_nil ?_
      refine WL_seq ?_
      apply WLp
      · (repeat (first | exact rzz | apply rcc rfl | apply rnn rfl))
      conv => arg 4; (try simp only [nrm, Nat.reduceAdd, pCT, tCT, putCells, AVal.flat])
      conv => arg 3; (try simp only [nrm, Nat.reduceAdd, pCT, tCT, putCells, AVal.flat])
      refine WL_seq ?_
      refine WL_seq ?_
      refine WL_reg ?_
      refine O_p rfl rfl rfl ?_
      refine O_p rfl rfl rfl ?_
      refine O_h rfl rfl rfl rfl ?_
      refine O_p rfl rfl rfl ?_
      refine O_p rfl rfl rfl ?_
      refine WO_nil ?_
      refine WL_seq ?_
      apply WLp
      · (repeat (first | exact rzz | apply rcc rfl | apply rnn rfl))
      conv => arg 4; (try simp only [nrm, Nat.reduceAdd, pCT, tCT, putCells, AVal.flat])
      conv => arg 3; (try simp only [nrm, Nat.reduceAdd, pCT, tCT, putCells, AVal.flat])
      refine WL_cond rfl (fun h26 => ?_) (fun h26 => ?_)
      · skip
        have hlst : i + 1 = ts.length := by
          simp at h26; rw [kw_i64_id (by omega) (by omega)] at h26; omega
        obtain ⟨z, hzd⟩ : ∃ z, z = goC up lb x := ⟨_, rfl⟩
        have hz : (goFs up lb ts)[i]? = some z := by rw [goFs_get _ _ _ i x hx, if_pos hlst, hzd]
        have hcall := hR x hmx
        rw [← hzd] at hcall
        refine WL_reg ?_
        refine O_p rfl rfl rfl ?_
        refine O_p rfl rfl rfl ?_
        refine WO_nil ?_
        refine WL_seq ?_
        apply WLp
        · (repeat (first | exact rzz | apply rcc rfl | apply rnn rfl))
        conv => arg 4; (try simp only [nrm, Nat.reduceAdd, pCT, tCT, putCells, AVal.flat])
        conv => arg 3; (try simp only [nrm, Nat.reduceAdd, pCT, tCT, putCells, AVal.flat])
        refine WL_reg ?_
        refine O_p rfl rfl rfl ?_
        refine O_p rfl rfl rfl ?_
        refine O_h rfl rfl rfl rfl ?_
        refine O_p rfl rfl rfl ?_
        refine O_cv rfl rfl (callA_of rfl hcall) ?_
        refine O_h rfl rfl rfl rfl ?_
        refine O_push (y := vC z) rfl rfl rfl (by simp; omega) (es0_or 12 i) (encC_w _) rfl (by omega)  (take_succ_map hz).symm rfl ?_
        refine O_p rfl rfl rfl ?_
        refine WO_nil ?_
        refine WL_nil ?_
        refine Blk_norm (?_ : WL _ _ _ _ _)
        refine WL_seq ?_
        apply WLp
        · (repeat (first | exact rzz | apply rcc rfl | apply rnn rfl))
        conv => arg 4; (try simp only [nrm, Nat.reduceAdd, pCT, tCT, putCells, AVal.flat])
        conv => arg 3; (try simp only [nrm, Nat.reduceAdd, pCT, tCT, putCells, AVal.flat])
        refine WL_reg ?_
        refine O_p rfl rfl rfl ?_
        refine O_p rfl rfl rfl ?_
        refine WO_nil ?_
        refine WL_nil ?_
        refine RndV_norm (i + 1) (by omega) (by show _ < _; omega) ?_ rfl
        · rw [wrap_succ (by omega)]; (repeat (first | exact rzz | apply rcc rfl | apply rnn rfl))
      · skip
        have hlst : ¬ i + 1 = ts.length := by
          simp at h26; rw [kw_i64_id (by omega) (by omega)] at h26; omega
        obtain ⟨z, hzd⟩ : ∃ z, z = goC (!up) lb x := ⟨_, rfl⟩
        have hz : (goFs up lb ts)[i]? = some z := by rw [goFs_get _ _ _ i x hx, if_neg hlst, hzd]
        have hcall := hA x hmx
        rw [← hzd] at hcall
        refine WL_skip ?_
        refine WL_seq ?_
        apply WLp
        · (repeat (first | exact rzz | apply rcc rfl | apply rnn rfl))
        conv => arg 4; (try simp only [nrm, Nat.reduceAdd, pCT, tCT, putCells, AVal.flat])
        conv => arg 3; (try simp only [nrm, Nat.reduceAdd, pCT, tCT, putCells, AVal.flat])
        refine WL_reg ?_
        refine O_p rfl rfl rfl ?_
        refine O_p rfl rfl rfl ?_
        refine O_h rfl rfl rfl rfl ?_
        refine O_p rfl rfl rfl ?_
        refine O_cv rfl rfl (callA_of rfl hcall) ?_
        refine O_h rfl rfl rfl rfl ?_
        refine O_push (y := vC z) rfl rfl rfl (by simp; omega) (es0_or 12 i) (encC_w _) rfl (by omega)  (take_succ_map hz).symm rfl ?_
        refine O_p rfl rfl rfl ?_
        refine WO_nil ?_
        refine WL_nil ?_
        refine Blk_norm (?_ : WL _ _ _ _ _)
        refine WL_seq ?_
        apply WLp
        · (repeat (first | exact rzz | apply rcc rfl | apply rnn rfl))
        conv => arg 4; (try simp only [nrm, Nat.reduceAdd, pCT, tCT, putCells, AVal.flat])
        conv => arg 3; (try simp only [nrm, Nat.reduceAdd, pCT, tCT, putCells, AVal.flat])
        refine WL_reg ?_
        refine O_p rfl rfl rfl ?_
        refine O_p rfl rfl rfl ?_
        refine WO_nil ?_
        refine WL_nil ?_
        refine RndV_norm (i + 1) (by omega) (by show _ < _; omega) ?_ rfl
        · rw [wrap_succ (by omega)]; (repeat (first | exact rzz | apply rcc rfl | apply rnn rfl))
    · skip
      simp at h17
      obtain rfl : i = ts.length := by omega
      rw [← hL, List.take_length, hL]
      refine WL_exit ?_
      refine RndV_exit ?_
      refine Blk_exit (?_ : WL _ _ _ _ _)
      refine WL_seq ?_
      apply WLp
      · (repeat (first | exact rzz | apply rcc rfl | apply rnn rfl))
      conv => arg 4; (try simp only [nrm, Nat.reduceAdd, pCT, tCT, putCells, AVal.flat])
      conv => arg 3; (try simp only [nrm, Nat.reduceAdd, pCT, tCT, putCells, AVal.flat])
      refine WL_seq ?_
      refine WL_reg ?_
      refine O_p rfl rfl rfl ?_
      refine O_c 56 rfl rfl (callA_of (as := [.lst ((goFs up lb ts).map encC) false, .fn 45 []]) (by simp [shutL, shutV, growAt, hL]) (some_c (n + 1) (goFs up lb ts) (by omega) (by omega))) ?_
      refine WO_nil ?_
      refine WL_seq ?_
      apply WLp
      · (repeat (first | exact rzz | apply rcc rfl | apply rnn rfl))
      conv => arg 4; (try simp only [nrm, Nat.reduceAdd, pCT, tCT, putCells, AVal.flat])
      conv => arg 3; (try simp only [nrm, Nat.reduceAdd, pCT, tCT, putCells, AVal.flat])
      refine WL_cond rfl (fun h37 => ?_) (fun h37 => ?_)
      · skip
        replace h37 : anyA (goFs up lb ts) = true := h37
        refine WL_reg ?_
        refine O_p rfl rfl rfl ?_
        refine O_p rfl rfl rfl ?_
        refine O_p rfl rfl rfl ?_
        refine O_p rfl rfl rfl ?_
        refine O_p rfl rfl rfl ?_
        refine O_hn rfl rfl rfl rfl ?_
        refine O_p rfl rfl rfl ?_
        refine O_p rfl rfl rfl ?_
        refine O_hn rfl rfl rfl rfl ?_
        refine WO_nil ?_
        refine WL_nil ?_
        refine ⟨_, rfl, rfl, ?_⟩
        simp only [h37, if_true, Bool.false_eq_true, if_false]; first | done | rfl
      · skip
        replace h37 : anyA (goFs up lb ts) = false := h37
        refine WL_skip ?_
        refine WL_nil ?_
        refine ⟨_, rfl, rfl, ?_⟩
        simp only [h37, if_true, Bool.false_eq_true, if_false]; first | done | rfl
theorem funsA1 (n m : Nat) (up : Bool) (lb : Int) (ts : List Ty) (t : Ty) (A R : FuncId) (g : Nat → Int) (p q : Int) (ps : List AVal) (b : Bool) (x6 : Co) (hl : ts.length < n) (h9 : ts.length ≤ 9)
    (hA : ∀ x, x ∈ ts → pcall (tabOf tabL) (n + 5) A [vT x, .int .i64 lb] = some (.ok (vC (goC (!up) lb x)))) (hR : ∀ x, x ∈ ts → pcall (tabOf tabL) (n + 5) R [vT x, .int .i64 lb] = some (.ok (vC (goC up lb x)))) :
    (anyA (goFs up lb ts) = true ∧ callA ⟨callF (tabOf tabL) (n + 6), m⟩ false 43 [.ptr 2 0, .lst (ts.map encT) false, .fn A [], .fn R [], .int .i64 lb] [.cells (cT t), .cells Zc, .cells (fC g p q (.lst ps b) 0 0 (.lst [] true)), .cells (cC x6)] =
      some (.ok (.tup []), [.cells (cT t), .cells Zc, .cells (fC g p q (.lst ps b) 2 0 (.gl 4 ts.length)), .cells (cC x6), .grow (es0 12 ts.length) ((goFs up lb ts).map encC) none])) ∨
    (anyA (goFs up lb ts) = false ∧ callA ⟨callF (tabOf tabL) (n + 6), m⟩ false 43 [.ptr 2 0, .lst (ts.map encT) false, .fn A [], .fn R [], .int .i64 lb] [.cells (cT t), .cells Zc, .cells (fC g p q (.lst ps b) 0 0 (.lst [] true)), .cells (cC x6)] =
      some (.ok (.tup []), [.cells (cT t), .cells Zc, .cells (fC g p q (.lst ps b) 0 0 (.lst [] true)), .cells (cC x6)])) := by
  have h := funsM1_c n up lb ts t A R g p q ps b x6 hl h9 hA hR
  cases ha : anyA (goFs up lb ts) with
  | true => rw [ha] at h; exact .inl ⟨rfl, callA_nr rfl h rfl⟩
  | false => rw [ha] at h; exact .inr ⟨rfl, callA_hc rfl h (by simp) rfl rfl rfl⟩
theorem funsB (n m : Nat) (up : Bool) (lb : Int) (ts : List Ty) (t : Ty) (A R : FuncId) (g : Nat → Int) (p q : Int) (ps : List AVal) (b : Bool) (hl : ts.length < n) (h9 : ts.length ≤ 9)
    (hA : ∀ x, x ∈ ts → pcall (tabOf tabL) (n + 5) A [vT x, .int .i64 lb] = some (.ok (vC (goC (!up) lb x)))) (hR : ∀ x, x ∈ ts → pcall (tabOf tabL) (n + 5) R [vT x, .int .i64 lb] = some (.ok (vC (goC up lb x)))) (rest : Heap) (hrest : rest = [] ∨ ∃ x, rest = [.cells (cC x)]) :
    (rest = [] ∧ anyA (goFs up lb ts) = true ∧ callA ⟨callF (tabOf tabL) (n + 6), m⟩ false 43 [.ptr 2 0, .lst (ts.map encT) false, .fn A [], .fn R [], .int .i64 lb] [.cells (cT t), .cells Zc, .cells (fC g p q (.lst ps b) 0 0 (.lst [] true))] =
      some (.ok (.tup []), [.cells (cT t), .cells Zc, .cells (fC g p q (.lst ps b) 2 0 (.gl 3 ts.length)), .grow (es0 12 ts.length) ((goFs up lb ts).map encC) none])) ∨
    (rest = [] ∧ anyA (goFs up lb ts) = false ∧ callA ⟨callF (tabOf tabL) (n + 6), m⟩ false 43 [.ptr 2 0, .lst (ts.map encT) false, .fn A [], .fn R [], .int .i64 lb] [.cells (cT t), .cells Zc, .cells (fC g p q (.lst ps b) 0 0 (.lst [] true))] =
      some (.ok (.tup []), [.cells (cT t), .cells Zc, .cells (fC g p q (.lst ps b) 0 0 (.lst [] true))])) ∨
    (∃ x6, rest = [.cells (cC x6)] ∧ anyA (goFs up lb ts) = true ∧ callA ⟨callF (tabOf tabL) (n + 6), m⟩ false 43 [.ptr 2 0, .lst (ts.map encT) false, .fn A [], .fn R [], .int .i64 lb] [.cells (cT t), .cells Zc, .cells (fC g p q (.lst ps b) 0 0 (.lst [] true)), .cells (cC x6)] =
      some (.ok (.tup []), [.cells (cT t), .cells Zc, .cells (fC g p q (.lst ps b) 2 0 (.gl 4 ts.length)), .cells (cC x6), .grow (es0 12 ts.length) ((goFs up lb ts).map encC) none])) ∨
    (∃ x6, rest = [.cells (cC x6)] ∧ anyA (goFs up lb ts) = false ∧ callA ⟨callF (tabOf tabL) (n + 6), m⟩ false 43 [.ptr 2 0, .lst (ts.map encT) false, .fn A [], .fn R [], .int .i64 lb] [.cells (cT t), .cells Zc, .cells (fC g p q (.lst ps b) 0 0 (.lst [] true)), .cells (cC x6)] =
      some (.ok (.tup []), [.cells (cT t), .cells Zc, .cells (fC g p q (.lst ps b) 0 0 (.lst [] true)), .cells (cC x6)])) := by
  rcases hrest with rfl | ⟨x6, rfl⟩
  · rcases funsA n m up lb ts t A R g p q ps b hl h9 hA hR with ⟨ha, h⟩ | ⟨ha, h⟩
    · exact .inl ⟨rfl, ha, h⟩
    · exact .inr (.inl ⟨rfl, ha, h⟩)
  · rcases funsA1 n m up lb ts t A R g p q ps b x6 hl h9 hA hR with ⟨ha, h⟩ | ⟨ha, h⟩
    · exact .inr (.inr (.inl ⟨x6, rfl, ha, h⟩))
    · exact .inr (.inr (.inr ⟨x6, rfl, ha, h⟩))
def gT (lb f : Int) (i j : Nat) : Int := if j < i then flatG true lb f j else 0
theorem gT_set {lb f : Int} {i : Nat} (h : i < 6) (hb : bit0 f i = true) {p l : Int} {ps : AVal} {g m : Int} {gs : AVal} : (fC (gT lb f i) p l ps g m gs).set (0 + i * 1) (.int .i64 lb) = fC (gT lb f (i + 1)) p l ps g m gs := by
  have e : flatG true lb f i = lb := by simp [flatG, hb]
  have h2 : (fC (gT lb f i) p l ps g m gs).set (0 + i * 1) (.int .i64 (flatG true lb f i)) = fC (gT lb f (i + 1)) p l ps g m gs := by
    clear e
    obtain rfl | rfl | rfl | rfl | rfl | rfl : i = 0 ∨ i = 1 ∨ i = 2 ∨ i = 3 ∨ i = 4 ∨ i = 5 := by omega
    all_goals rfl
  rw [e] at h2
  exact h2
theorem gT_skip {lb f : Int} {i : Nat} (hb : bit0 f i = false) : gT lb f (i + 1) = gT lb f i := by
  have e : flatG true lb f i = 0 := by simp [flatG, hb]
  funext j
  unfold gT
  by_cases h1 : j < i
  · rw [if_pos h1, if_pos (by omega)]
  · rw [if_neg h1]
    by_cases h2 : j = i
    · rw [h2, if_pos (by omega), e]
    · rw [if_neg (by omega)]
theorem gT_six (lb f : Int) : fC (gT lb f 6) = fC (flatG true lb f) := by funext p l ps g m gs; rfl
set_option maxHeartbeats 1000000 in
theorem toS_c (n : Nat) (t : Ty) (lb : Int) (rt : Rt t) (hn : szT t + 30 < n)
    (ihT : ∀ x, Rt x → szT x < szT t → ∀ k, n ≤ k + 3 → pcall (tabOf tabL) k 12 [vT x, .int .i64 lb] = some (.ok (vC (goC true lb x))))
    (ihF : ∀ x, Rt x → szT x < szT t → ∀ k, n ≤ k + 3 → pcall (tabOf tabL) k 14 [vT x, .int .i64 lb] = some (.ok (vC (goC false lb x)))) :
    pcall (tabOf tabL) (n + 1) 12 [vT t, .int .i64 lb] = some (.ok (vC (goC true lb t))) := by
  have hf := okT_facts rt.ok
  have hlp := len_pairs t
  have hlf := len_funs t
  obtain ⟨n, rfl⟩ : ∃ m, n = m + 10 := ⟨n - 10, by omega⟩
  have ev : t.all = false → vC (goC true lb t) = .agg (fC (flatG true lb t.flat) (pairG true lb t.pair (goCs true lb t.pairs)).1 (pairG true lb t.pair (goCs true lb t.pairs)).2.1 (.lst ((pairG true lb t.pair (goCs true lb t.pairs)).2.2.map encC) false) (funG true lb t.fn (goFs true lb t.funs)).1 (funG true lb t.fn (goFs true lb t.funs)).2.1 (.lst ((funG true lb t.fn (goFs true lb t.funs)).2.2.map encC) false)) := by
    intro h; rw [goC_eq]; simp only [goK, h, Bool.and_false, Bool.false_eq_true, if_false]; rfl
  have ef := goC_eq true lb t
  refine pcall_fin t12 ?_
  refine WL_seq ?_
  refine WL_reg ?_
  refine O_n rfl rfl rfl ?_
  refine O_n rfl rfl rfl ?_
  refine WO_nil ?_
  refine WL_seq ?_
  apply WLp
  · (repeat (first | exact rzz | apply rcc rfl | apply rnn rfl))
  conv => arg 4; (try simp only [nrm, Nat.reduceAdd, pCT, tCT, putCells, AVal.flat])
  conv => arg 3; (try simp only [nrm, Nat.reduceAdd, pCT, tCT, putCells, AVal.flat])
  refine WL_seq ?_
  refine WL_reg ?_
  refine O_n rfl rfl rfl ?_
  refine WO_nil ?_
  refine WL_seq ?_
  apply WLp
  · (repeat (first | exact rzz | apply rcc rfl | apply rnn rfl))
  conv => arg 4; (try simp only [nrm, Nat.reduceAdd, pCT, tCT, putCells, AVal.flat])
  conv => arg 3; (try simp only [nrm, Nat.reduceAdd, pCT, tCT, putCells, AVal.flat])
  refine WL_seq ?_
  refine WL_seq ?_
  refine WL_reg ?_
  refine O_p rfl rfl rfl ?_
  refine O_h rfl rfl rfl rfl ?_
  refine WO_nil ?_
  refine WL_seq ?_
  apply WLp
  · (repeat (first | exact rzz | apply rcc rfl | apply rnn rfl))
  conv => arg 4; (try simp only [nrm, Nat.reduceAdd, pCT, tCT, putCells, AVal.flat])
  conv => arg 3; (try simp only [nrm, Nat.reduceAdd, pCT, tCT, putCells, AVal.flat])
  refine WL_cond rfl (fun h8 => ?_) (fun h8 => ?_)
  · skip
    replace h8 : t.all = true := h8
    have ha0 : goC true lb t = zeroC := by rw [ef]; simp [goK, h8]
    refine WL_seq ?_
    refine WL_reg ?_
    refine O_h rfl rfl rfl rfl ?_
    refine O_hn rfl rfl rfl rfl ?_
    refine WO_nil ?_
    refine WL_ret ?_
    first | exact ⟨_, rfl, vC zeroC, rfl, by rw [ha0]⟩ | (refine ⟨_, rfl, vC (goC true lb t), ?_, rfl⟩; rw [ev h8, hG]; rfl) | (refine ⟨_, rfl, vC (goC true lb t), ?_, rfl⟩; rw [ev h8, show funG true lb t.fn (goFs true lb t.funs) = (0, 0, []) by rw [h65]; simp [funG, ha]]; rfl) | (refine ⟨_, rfl, vC (goC true lb t), ?_, rfl⟩; rw [ev h8, show funG true lb t.fn (goFs true lb t.funs) = (2, 0, goFs true lb t.funs) by rw [h65]; simp [funG, ha]]; show shutR _ (.agg (fC (flatG true lb t.flat) (pairG true lb t.pair (goCs true lb t.pairs)).1 (pairG true lb t.pair (goCs true lb t.pairs)).2.1 (.lst ((pairG true lb t.pair (goCs true lb t.pairs)).2.2.map encC) f) 2 0 (.gl 3 t.funs.length))) = _; simp [shutR, shutRL, growAt, fC, goFs_len]; done)
  · skip
    replace h8 : t.all = false := h8
    refine WL_skip ?_
    refine WL_seq ?_
    apply WLp
    · (repeat (first | exact rzz | apply rcc rfl | apply rnn rfl))
    conv => arg 4; (try simp only [nrm, Nat.reduceAdd, pCT, tCT, putCells, AVal.flat])
    conv => arg 3; (try simp only [nrm, Nat.reduceAdd, pCT, tCT, putCells, AVal.flat])
    refine WL_seq ?_
    refine WL_seq ?_
    refine WL_reg ?_
    refine O_p rfl rfl rfl ?_
    refine WO_nil ?_
    refine WL_seq ?_
    apply WLp
    · (repeat (first | exact rzz | apply rcc rfl | apply rnn rfl))
    conv => arg 4; (try simp only [nrm, Nat.reduceAdd, pCT, tCT, putCells, AVal.flat])
    conv => arg 3; (try simp only [nrm, Nat.reduceAdd, pCT, tCT, putCells, AVal.flat])
    refine WL_block ?_
    apply WL_forv (hc := [.cells (cT t), .cells Zc]) (α := Nat) (fun i => [(10, .int .i64 (i : Nat))]) (fun i => [.cells (fC (gT lb t.flat i) 0 0 (.lst [] true) 0 0 (.lst [] true))]) (fun i => i ≤ 6) (fun i => 6 - i) (0) (he := ?he) (hh := ?hh) (hP := ?hP) (hk := ?hk) (round := ?round)
    case he =>
      (repeat (first | exact rzz | apply rcc rfl | apply rnn rfl))
    case hh =>
      rfl
    case hP =>
      omega
    case hk =>
      show 6 - 0 < n + 10; omega
    case round =>
      rintro i hi
      dsimp only [List.cons_append, List.nil_append] at *
      refine WL_seq ?_
      refine WL_reg ?_
      refine O_p rfl rfl rfl ?_
      refine WO_nil ?_
      refine WL_seq ?_
      apply WLp
      · (repeat (first | exact rzz | apply rcc rfl | apply rnn rfl))
      conv => arg 4; (try simp only [nrm, Nat.reduceAdd, pCT, tCT, putCells, AVal.flat])
      conv => arg 3; (try simp only [nrm, Nat.reduceAdd, pCT, tCT, putCells, AVal.flat])
      refine WL_seq ?_
      refine WL_cond rfl (fun h11 => ?_) (fun h11 => ?_)
      · skip
        replace h11 : i < 6 := by simp at h11; omega
        refine WL_skip ?_
        refine WL_seq ?_
        apply WLp
        · (repeat (first | exact rzz | apply rcc rfl | apply rnn rfl))
        conv => arg 4; (try simp only [nrm, Nat.reduceAdd, pCT, tCT, putCells, AVal.flat])
        conv => arg 3; (try simp only [nrm, Nat.reduceAdd, pCT, tCT, putCells, AVal.flat])
        refine WL_seq ?_
        refine WL_block ?_
        refine WL_seq ?_
        refine WL_reg ?_
        refine O_p rfl rfl rfl ?_
        refine O_p rfl rfl rfl ?_
        refine WO_nil ?_
        refine WL_seq ?_
        apply WLp
        · (repeat (first | exact rzz | apply rcc rfl | apply rnn rfl))
        conv => arg 4; (try simp only [nrm, Nat.reduceAdd, pCT, tCT, putCells, AVal.flat])
        conv => arg 3; (try simp only [nrm, Nat.reduceAdd, pCT, tCT, putCells, AVal.flat])
        refine WL_seq ?_
        refine WL_drawS (ops := [_, _, _, _, _, _]) rfl rfl ?_
        refine O_p rfl rfl rfl ?_
        refine O_h rfl rfl rfl rfl ?_
        refine O_p rfl rfl rfl ?_
        refine O_v (v := .int .i64 (IntKind.i64.wrap (1 * 2 ^ (min ((i : Int).toNat) IntKind.i64.bits)))) (.int .i64 (2 ^ i)) rfl rfl rfl (by rw [shl_pow h11]) ?_
        refine O_p rfl rfl rfl ?_
        refine O_v (.bool (bit0 t.flat i)) rfl rfl rfl (by rw [← and_bit0 hf.1.1 hf.1.2 h11]) ?_
        refine WO_nil (WL_nil ⟨rfl, ?_⟩)
        refine WL_seq ?_
        apply WLp
        · (repeat (first | exact rzz | apply rcc rfl | apply rnn rfl))
        conv => arg 4; (try simp only [nrm, Nat.reduceAdd, pCT, tCT, putCells, AVal.flat])
        conv => arg 3; (try simp only [nrm, Nat.reduceAdd, pCT, tCT, putCells, AVal.flat])
        refine WL_cond rfl (fun h18 => ?_) (fun h18 => ?_)
        · skip
          replace h18 : bit0 t.flat i = true := h18
          refine WL_reg ?_
          refine O_p rfl rfl rfl ?_
          refine O_p rfl rfl rfl ?_
          refine O_p rfl rfl rfl ?_
          refine O_iaa rfl rfl h11 ?_
          refine O_st rfl rfl rfl rfl rfl (by simp [fC]; omega) (gT_set h11 h18) rfl ?_
          refine WO_nil ?_
          refine WL_nil ?_
          refine Blk_norm (?_ : WL _ _ _ _ _)
          refine WL_seq ?_
          apply WLp
          · (repeat (first | exact rzz | apply rcc rfl | apply rnn rfl))
          conv => arg 4; (try simp only [nrm, Nat.reduceAdd, pCT, tCT, putCells, AVal.flat])
          conv => arg 3; (try simp only [nrm, Nat.reduceAdd, pCT, tCT, putCells, AVal.flat])
          refine WL_reg ?_
          refine O_p rfl rfl rfl ?_
          refine O_p rfl rfl rfl ?_
          refine WO_nil ?_
          refine WL_nil ?_
          first | (rw [← gT_skip h18]; refine RndV_norm (i + 1) (by omega) (by show _ < _; omega) ?_ rfl; rw [wrap_succ (by omega)]; (repeat (first | exact rzz | apply rcc rfl | apply rnn rfl))) | (refine RndV_norm (i + 1) (by omega) (by show _ < _; omega) ?_ rfl; rw [wrap_succ (by omega)]; (repeat (first | exact rzz | apply rcc rfl | apply rnn rfl)))
        · skip
          replace h18 : bit0 t.flat i = false := h18
          refine WL_skip ?_
          refine WL_nil ?_
          refine Blk_norm (?_ : WL _ _ _ _ _)
          refine WL_seq ?_
          apply WLp
          · (repeat (first | exact rzz | apply rcc rfl | apply rnn rfl))
          conv => arg 4; (try simp only [nrm, Nat.reduceAdd, pCT, tCT, putCells, AVal.flat])
          conv => arg 3; (try simp only [nrm, Nat.reduceAdd, pCT, tCT, putCells, AVal.flat])
          refine WL_reg ?_
          refine O_p rfl rfl rfl ?_
          refine O_p rfl rfl rfl ?_
          refine WO_nil ?_
          refine WL_nil ?_
          first | (rw [← gT_skip h18]; refine RndV_norm (i + 1) (by omega) (by show _ < _; omega) ?_ rfl; rw [wrap_succ (by omega)]; (repeat (first | exact rzz | apply rcc rfl | apply rnn rfl))) | (refine RndV_norm (i + 1) (by omega) (by show _ < _; omega) ?_ rfl; rw [wrap_succ (by omega)]; (repeat (first | exact rzz | apply rcc rfl | apply rnn rfl)))
      · skip
        simp at h11
        obtain rfl : i = 6 := by omega
        rw [gT_six]
        refine WL_exit ?_
        refine RndV_exit ?_
        refine Blk_exit (?_ : WL _ _ _ _ _)
        refine WL_seq ?_
        apply WLp
        · (repeat (first | exact rzz | apply rcc rfl | apply rnn rfl))
        conv => arg 4; (try simp only [nrm, Nat.reduceAdd, pCT, tCT, putCells, AVal.flat])
        conv => arg 3; (try simp only [nrm, Nat.reduceAdd, pCT, tCT, putCells, AVal.flat])
        refine WL_seq ?_
        refine WL_seq ?_
        refine WL_reg ?_
        refine O_p rfl rfl rfl ?_
        refine O_h rfl rfl rfl rfl ?_
        refine WO_nil ?_
        refine WL_seq ?_
        apply WLp
        · (repeat (first | exact rzz | apply rcc rfl | apply rnn rfl))
        conv => arg 4; (try simp only [nrm, Nat.reduceAdd, pCT, tCT, putCells, AVal.flat])
        conv => arg 3; (try simp only [nrm, Nat.reduceAdd, pCT, tCT, putCells, AVal.flat])
        refine WL_cut (fun e H => restr e [1, 2, 4, 5] = [(1, .int .i64 lb), (2, .ptr 0 0), (4, .ptr 1 0), (5, .ptr 2 0)] ∧ ∃ f, H = [.cells (cT t), .cells Zc, .cells (fC (flatG true lb t.flat) (pairG true lb t.pair (goCs true lb t.pairs)).1 (pairG true lb t.pair (goCs true lb t.pairs)).2.1 (.lst ((pairG true lb t.pair (goCs true lb t.pairs)).2.2.map encC) f) 0 0 (.lst [] true))]) ?_ ?_
        · skip
          refine WL_block ?_
          refine WL_seq ?_
          refine WL_reg ?_
          refine O_p rfl rfl rfl ?_
          refine O_p rfl rfl rfl ?_
          refine WO_nil ?_
          refine WL_seq ?_
          apply WLp
          · (repeat (first | exact rzz | apply rcc rfl | apply rnn rfl))
          conv => arg 4; (try simp only [nrm, Nat.reduceAdd, pCT, tCT, putCells, AVal.flat])
          conv => arg 3; (try simp only [nrm, Nat.reduceAdd, pCT, tCT, putCells, AVal.flat])
          refine WL_cond rfl (fun h37 => ?_) (fun h37 => ?_)
          · skip
            replace h37 : t.pair = 0 := by simpa using h37
            have hP : pairG true lb t.pair (goCs true lb t.pairs) = (1, lb, []) := by rw [h37]; simp [pairG]
            refine WL_reg ?_
            refine O_p rfl rfl rfl ?_
            refine O_p rfl rfl rfl ?_
            refine O_hn rfl rfl rfl rfl ?_
            refine O_p rfl rfl rfl ?_
            refine O_hn rfl rfl rfl rfl ?_
            refine WO_nil ?_
            refine WL_nil ?_
            refine Blk_norm (?_ : WL _ _ _ _ _)
            refine WL_nil ?_
            first | exact ⟨by (repeat (first | exact rzz | apply rcc rfl | apply rnn rfl)), true, by rw [hP]; (try simp only [List.map_cons, List.map_nil, encC_eq]); first | done | rfl⟩
          · skip
            replace h37 : ¬ t.pair = 0 := by simpa using h37
            refine WL_seq ?_
            refine WL_reg ?_
            refine O_p rfl rfl rfl ?_
            refine O_p rfl rfl rfl ?_
            refine WO_nil ?_
            refine WL_seq ?_
            apply WLp
            · (repeat (first | exact rzz | apply rcc rfl | apply rnn rfl))
            conv => arg 4; (try simp only [nrm, Nat.reduceAdd, pCT, tCT, putCells, AVal.flat])
            conv => arg 3; (try simp only [nrm, Nat.reduceAdd, pCT, tCT, putCells, AVal.flat])
            refine WL_cond rfl (fun h42 => ?_) (fun h42 => ?_)
            · skip
              replace h42 : t.pair = 1 := by simpa using h42
              obtain ⟨x, y, hp⟩ := hf.2.2.2.2.2.1 h42
              have hx : t.pairs[0]? = some x := by rw [hp]; rfl
              have hy : t.pairs[1]? = some y := by rw [hp]; rfl
              have hmx := List.mem_of_getElem? hx
              have hmy := List.mem_of_getElem? hy
              have hcx := ihT x (rt.pairs hmx) (szT_pairs hmx) (n + 10) (by omega)
              have hcy := ihT y (rt.pairs hmy) (szT_pairs hmy) (n + 10) (by omega)
              have hP : pairG true lb t.pair (goCs true lb t.pairs) = pairG true lb 1 [goC true lb x, goC true lb y] := by rw [h42, hp]; rfl
              have hpm := pairsM_c (n + 5) true lb [goC true lb x, goC true lb y] (cT t) Zc (flatG true lb t.flat) 0 0 (.lst [] true) (by simp) (by simp)
              simp only [List.map_cons, List.map_nil, encC_eq] at hpm
              refine WL_drawT [57] rfl ?_
              refine S_p rfl rfl rfl ?_
              refine S_h (d := some 45) rfl rfl rfl rfl rfl ?_
              refine S_ia rfl rfl (Int.natCast_nonneg _) (encT_get (i := (0 : Nat)) hx) (encT_flat _) rfl ?_
              refine S_h (d := some 47) rfl rfl rfl rfl rfl ?_
              refine S_p rfl rfl rfl ?_
              refine S_c 12 rfl rfl rfl (callA_of rfl hcx) ?_
              refine S_p rfl rfl rfl ?_
              refine S_h (d := some 51) rfl rfl rfl rfl rfl ?_
              refine S_ia rfl rfl (Int.natCast_nonneg _) (encT_get (i := (1 : Nat)) hy) (encT_flat _) rfl ?_
              refine S_h (d := some 53) rfl rfl rfl rfl rfl ?_
              refine S_p rfl rfl rfl ?_
              refine S_c 12 rfl rfl rfl (callA_of rfl hcy) ?_
              refine S_h (d := some 56) rfl rfl rfl rfl rfl ?_
              refine S_ci 42 rfl rfl rfl (callA_nr rfl hpm rfl) ?_
              refine WS_nil ?_
              refine WL_nil ?_
              refine Blk_norm (?_ : WL _ _ _ _ _)
              refine WL_nil ?_
              first | exact ⟨by (repeat (first | exact rzz | apply rcc rfl | apply rnn rfl)), true, by rw [hP]; (try simp only [List.map_cons, List.map_nil, encC_eq]); first | done | rfl⟩
            · skip
              replace h42 : ¬ t.pair = 1 := by simpa using h42
              have h2 : t.pair = 2 := by omega
              obtain ⟨x, hp⟩ := hf.2.2.2.2.2.2.1 h2
              have hx : t.pairs[0]? = some x := by rw [hp]; rfl
              have hmx := List.mem_of_getElem? hx
              have hcx := ihT x (rt.pairs hmx) (szT_pairs hmx) (n + 10) (by omega)
              have hP : pairG true lb t.pair (goCs true lb t.pairs) = (3, lb, [goC true lb x]) := by rw [h2, hp]; rfl
              refine WL_reg ?_
              refine O_p rfl rfl rfl ?_
              refine O_p rfl rfl rfl ?_
              refine O_h rfl rfl rfl rfl ?_
              refine O_ia rfl rfl (Int.natCast_nonneg _) (encT_get (i := (0 : Nat)) hx) (encT_flat _) rfl ?_
              refine O_h rfl rfl rfl rfl ?_
              refine O_p rfl rfl rfl ?_
              refine O_c 12 rfl rfl (callA_of rfl hcx) ?_
              refine O_h rfl rfl rfl rfl ?_
              refine O_p rfl rfl rfl ?_
              refine O_hn rfl rfl rfl rfl ?_
              refine O_p rfl rfl rfl ?_
              refine O_hn rfl rfl rfl rfl ?_
              refine O_p rfl rfl rfl ?_
              refine O_hn rfl rfl rfl rfl ?_
              refine WO_nil ?_
              refine WL_nil ?_
              refine Blk_norm (?_ : WL _ _ _ _ _)
              refine WL_nil ?_
              first | exact ⟨by (repeat (first | exact rzz | apply rcc rfl | apply rnn rfl)), true, by rw [hP]; (try simp only [List.map_cons, List.map_nil, encC_eq]); first | done | rfl⟩
        · skip
          rintro e H ⟨he, f, rfl⟩
          refine WL_seq ?_
          apply WLp
          · exact he
          refine WL_seq ?_
          refine WL_seq ?_
          refine WL_reg ?_
          refine O_p rfl rfl rfl ?_
          refine O_h rfl rfl rfl rfl ?_
          refine WO_nil ?_
          refine WL_seq ?_
          apply WLp
          · (repeat (first | exact rzz | apply rcc rfl | apply rnn rfl))
          conv => arg 4; (try simp only [nrm, Nat.reduceAdd, pCT, tCT, putCells, AVal.flat])
          conv => arg 3; (try simp only [nrm, Nat.reduceAdd, pCT, tCT, putCells, AVal.flat])
          refine WL_block ?_
          refine WL_seq ?_
          refine WL_reg ?_
          refine O_p rfl rfl rfl ?_
          refine O_p rfl rfl rfl ?_
          refine WO_nil ?_
          refine WL_seq ?_
          apply WLp
          · (repeat (first | exact rzz | apply rcc rfl | apply rnn rfl))
          conv => arg 4; (try simp only [nrm, Nat.reduceAdd, pCT, tCT, putCells, AVal.flat])
          conv => arg 3; (try simp only [nrm, Nat.reduceAdd, pCT, tCT, putCells, AVal.flat])
          refine WL_cond rfl (fun h60 => ?_) (fun h60 => ?_)
          · skip
            replace h60 : t.fn = 0 := by simpa using h60
            have hG : funG true lb t.fn (goFs true lb t.funs) = (1, lb, []) := by rw [h60]; simp [funG]
            refine WL_reg ?_
            refine O_p rfl rfl rfl ?_
            refine O_p rfl rfl rfl ?_
            refine O_hn rfl rfl rfl rfl ?_
            refine O_p rfl rfl rfl ?_
            refine O_hn rfl rfl rfl rfl ?_
            refine WO_nil ?_
            refine WL_nil ?_
            refine Blk_norm (?_ : WL _ _ _ _ _)
            refine WL_seq ?_
            apply WLp
            · (repeat (first | exact rzz | apply rcc rfl | apply rnn rfl))
            conv => arg 4; (try simp only [nrm, Nat.reduceAdd, pCT, tCT, putCells, AVal.flat])
            conv => arg 3; (try simp only [nrm, Nat.reduceAdd, pCT, tCT, putCells, AVal.flat])
            refine WL_seq ?_
            refine WL_reg ?_
            refine O_h rfl rfl rfl rfl ?_
            refine O_hn rfl rfl rfl rfl ?_
            refine WO_nil ?_
            refine WL_ret ?_
            first | exact ⟨_, rfl, vC zeroC, rfl, by rw [ha0]⟩ | (refine ⟨_, rfl, vC (goC true lb t), ?_, rfl⟩; rw [ev h8, hG]; rfl) | (refine ⟨_, rfl, vC (goC true lb t), ?_, rfl⟩; rw [ev h8, show funG true lb t.fn (goFs true lb t.funs) = (0, 0, []) by rw [h65]; simp [funG, ha]]; rfl) | (refine ⟨_, rfl, vC (goC true lb t), ?_, rfl⟩; rw [ev h8, show funG true lb t.fn (goFs true lb t.funs) = (2, 0, goFs true lb t.funs) by rw [h65]; simp [funG, ha]]; show shutR _ (.agg (fC (flatG true lb t.flat) (pairG true lb t.pair (goCs true lb t.pairs)).1 (pairG true lb t.pair (goCs true lb t.pairs)).2.1 (.lst ((pairG true lb t.pair (goCs true lb t.pairs)).2.2.map encC) f) 2 0 (.gl 3 t.funs.length))) = _; simp [shutR, shutRL, growAt, fC, goFs_len]; done)
          · skip
            replace h60 : ¬ t.fn = 0 := by simpa using h60
            refine WL_seq ?_
            refine WL_reg ?_
            refine O_p rfl rfl rfl ?_
            refine O_p rfl rfl rfl ?_
            refine WO_nil ?_
            refine WL_seq ?_
            apply WLp
            · (repeat (first | exact rzz | apply rcc rfl | apply rnn rfl))
            conv => arg 4; (try simp only [nrm, Nat.reduceAdd, pCT, tCT, putCells, AVal.flat])
            conv => arg 3; (try simp only [nrm, Nat.reduceAdd, pCT, tCT, putCells, AVal.flat])
            refine WL_cond rfl (fun h65 => ?_) (fun h65 => ?_)
            · skip
              replace h65 : t.fn = 1 := by simpa using h65
              rcases funsA (n + 4) (n + 10) true lb t.funs t 14 12 (flatG true lb t.flat) (pairG true lb t.pair (goCs true lb t.pairs)).1 (pairG true lb t.pair (goCs true lb t.pairs)).2.1 ((pairG true lb t.pair (goCs true lb t.pairs)).2.2.map encC) f (by omega) (hf.2.2.2.2.2.2.2.1 h65).2 (fun x hx => ihF x (rt.funs hx) (szT_funs hx) (n + 9) (by omega)) (fun x hx => ihT x (rt.funs hx) (szT_funs hx) (n + 9) (by omega)) with ⟨ha, hcall⟩ | ⟨ha, hcall⟩
              · skip
                refine WL_reg ?_
                refine O_p rfl rfl rfl ?_
                refine O_h rfl rfl rfl rfl ?_
                refine O_p rfl rfl rfl ?_
                refine O_c 43 rfl rfl (hcall) ?_
                refine WO_nil ?_
                refine WL_nil ?_
                refine Blk_norm (?_ : WL _ _ _ _ _)
                refine WL_seq ?_
                apply WLp
                · (repeat (first | exact rzz | apply rcc rfl | apply rnn rfl))
                conv => arg 4; (try simp only [nrm, Nat.reduceAdd, pCT, tCT, putCells, AVal.flat])
                conv => arg 3; (try simp only [nrm, Nat.reduceAdd, pCT, tCT, putCells, AVal.flat])
                refine WL_seq ?_
                refine WL_reg ?_
                refine O_h rfl rfl rfl rfl ?_
                refine O_hn rfl rfl rfl rfl ?_
                refine WO_nil ?_
                refine WL_ret ?_
                first | exact ⟨_, rfl, vC zeroC, rfl, by rw [ha0]⟩ | (refine ⟨_, rfl, vC (goC true lb t), ?_, rfl⟩; rw [ev h8, hG]; rfl) | (refine ⟨_, rfl, vC (goC true lb t), ?_, rfl⟩; rw [ev h8, show funG true lb t.fn (goFs true lb t.funs) = (0, 0, []) by rw [h65]; simp [funG, ha]]; rfl) | (refine ⟨_, rfl, vC (goC true lb t), ?_, rfl⟩; rw [ev h8, show funG true lb t.fn (goFs true lb t.funs) = (2, 0, goFs true lb t.funs) by rw [h65]; simp [funG, ha]]; show shutR _ (.agg (fC (flatG true lb t.flat) (pairG true lb t.pair (goCs true lb t.pairs)).1 (pairG true lb t.pair (goCs true lb t.pairs)).2.1 (.lst ((pairG true lb t.pair (goCs true lb t.pairs)).2.2.map encC) f) 2 0 (.gl 3 t.funs.length))) = _; simp [shutR, shutRL, growAt, fC, goFs_len]; done)
              · skip
                refine WL_reg ?_
                refine O_p rfl rfl rfl ?_
                refine O_h rfl rfl rfl rfl ?_
                refine O_p rfl rfl rfl ?_
                refine O_c 43 rfl rfl (hcall) ?_
                refine WO_nil ?_
                refine WL_nil ?_
                refine Blk_norm (?_ : WL _ _ _ _ _)
                refine WL_seq ?_
                apply WLp
                · (repeat (first | exact rzz | apply rcc rfl | apply rnn rfl))
                conv => arg 4; (try simp only [nrm, Nat.reduceAdd, pCT, tCT, putCells, AVal.flat])
                conv => arg 3; (try simp only [nrm, Nat.reduceAdd, pCT, tCT, putCells, AVal.flat])
                refine WL_seq ?_
                refine WL_reg ?_
                refine O_h rfl rfl rfl rfl ?_
                refine O_hn rfl rfl rfl rfl ?_
                refine WO_nil ?_
                refine WL_ret ?_
                first | exact ⟨_, rfl, vC zeroC, rfl, by rw [ha0]⟩ | (refine ⟨_, rfl, vC (goC true lb t), ?_, rfl⟩; rw [ev h8, hG]; rfl) | (refine ⟨_, rfl, vC (goC true lb t), ?_, rfl⟩; rw [ev h8, show funG true lb t.fn (goFs true lb t.funs) = (0, 0, []) by rw [h65]; simp [funG, ha]]; rfl) | (refine ⟨_, rfl, vC (goC true lb t), ?_, rfl⟩; rw [ev h8, show funG true lb t.fn (goFs true lb t.funs) = (2, 0, goFs true lb t.funs) by rw [h65]; simp [funG, ha]]; show shutR _ (.agg (fC (flatG true lb t.flat) (pairG true lb t.pair (goCs true lb t.pairs)).1 (pairG true lb t.pair (goCs true lb t.pairs)).2.1 (.lst ((pairG true lb t.pair (goCs true lb t.pairs)).2.2.map encC) f) 2 0 (.gl 3 t.funs.length))) = _; simp [shutR, shutRL, growAt, fC, goFs_len]; done)
            · skip
              replace h65 : ¬ t.fn = 1 := by simpa using h65
              have hG : funG true lb t.fn (goFs true lb t.funs) = (0, 0, []) := by simp [funG, h60, h65]
              refine WL_skip ?_
              refine WL_nil ?_
              refine Blk_norm (?_ : WL _ _ _ _ _)
              refine WL_seq ?_
              apply WLp
              · (repeat (first | exact rzz | apply rcc rfl | apply rnn rfl))
              conv => arg 4; (try simp only [nrm, Nat.reduceAdd, pCT, tCT, putCells, AVal.flat])
              conv => arg 3; (try simp only [nrm, Nat.reduceAdd, pCT, tCT, putCells, AVal.flat])
              refine WL_seq ?_
              refine WL_reg ?_
              refine O_h rfl rfl rfl rfl ?_
              refine O_hn rfl rfl rfl rfl ?_
              refine WO_nil ?_
              refine WL_ret ?_
              first | exact ⟨_, rfl, vC zeroC, rfl, by rw [ha0]⟩ | (refine ⟨_, rfl, vC (goC true lb t), ?_, rfl⟩; rw [ev h8, hG]; rfl) | (refine ⟨_, rfl, vC (goC true lb t), ?_, rfl⟩; rw [ev h8, show funG true lb t.fn (goFs true lb t.funs) = (0, 0, []) by rw [h65]; simp [funG, ha]]; rfl) | (refine ⟨_, rfl, vC (goC true lb t), ?_, rfl⟩; rw [ev h8, show funG true lb t.fn (goFs true lb t.funs) = (2, 0, goFs true lb t.funs) by rw [h65]; simp [funG, ha]]; show shutR _ (.agg (fC (flatG true lb t.flat) (pairG true lb t.pair (goCs true lb t.pairs)).1 (pairG true lb t.pair (goCs true lb t.pairs)).2.1 (.lst ((pairG true lb t.pair (goCs true lb t.pairs)).2.2.map encC) f) 2 0 (.gl 3 t.funs.length))) = _; simp [shutR, shutRL, growAt, fC, goFs_len]; done)
set_option maxHeartbeats 1000000 in
theorem fromS_c (n : Nat) (t : Ty) (lb : Int) (rt : Rt t) (hn : szT t + 30 < n)
    (ihT : ∀ x, Rt x → szT x < szT t → ∀ k, n ≤ k + 3 → pcall (tabOf tabL) k 12 [vT x, .int .i64 lb] = some (.ok (vC (goC true lb x))))
    (ihF : ∀ x, Rt x → szT x < szT t → ∀ k, n ≤ k + 3 → pcall (tabOf tabL) k 14 [vT x, .int .i64 lb] = some (.ok (vC (goC false lb x)))) :
    pcall (tabOf tabL) (n + 1) 14 [vT t, .int .i64 lb] = some (.ok (vC (goC false lb t))) := by
  have hf := okT_facts rt.ok
  have hlp := len_pairs t
  have hlf := len_funs t
  obtain ⟨n, rfl⟩ : ∃ m, n = m + 10 := ⟨n - 10, by omega⟩
  have ev : vC (goC false lb t) = .agg (fC (fun _ => 0) (pairG false lb t.pair (goCs false lb t.pairs)).1 (pairG false lb t.pair (goCs false lb t.pairs)).2.1 (.lst ((pairG false lb t.pair (goCs false lb t.pairs)).2.2.map encC) false) (funG false lb t.fn (goFs false lb t.funs)).1 (funG false lb t.fn (goFs false lb t.funs)).2.1 (.lst ((funG false lb t.fn (goFs false lb t.funs)).2.2.map encC) false)) := by
    rw [goC_eq]; simp only [goK, Bool.false_and, Bool.false_eq_true, if_false]; rfl
  refine pcall_fin t14 ?_
  refine WL_seq ?_
  refine WL_reg ?_
  refine O_n rfl rfl rfl ?_
  refine O_n rfl rfl rfl ?_
  refine WO_nil ?_
  refine WL_seq ?_
  apply WLp
  · (repeat (first | exact rzz | apply rcc rfl | apply rnn rfl))
  conv => arg 4; (try simp only [nrm, Nat.reduceAdd, pCT, tCT, putCells, AVal.flat])
  conv => arg 3; (try simp only [nrm, Nat.reduceAdd, pCT, tCT, putCells, AVal.flat])
  refine WL_seq ?_
  refine WL_reg ?_
  refine O_n rfl rfl rfl ?_
  refine WO_nil ?_
  refine WL_seq ?_
  apply WLp
  · (repeat (first | exact rzz | apply rcc rfl | apply rnn rfl))
  conv => arg 4; (try simp only [nrm, Nat.reduceAdd, pCT, tCT, putCells, AVal.flat])
  conv => arg 3; (try simp only [nrm, Nat.reduceAdd, pCT, tCT, putCells, AVal.flat])
  refine WL_seq ?_
  refine WL_seq ?_
  refine WL_reg ?_
  refine O_p rfl rfl rfl ?_
  refine O_h rfl rfl rfl rfl ?_
  refine WO_nil ?_
  refine WL_seq ?_
  apply WLp
  · (repeat (first | exact rzz | apply rcc rfl | apply rnn rfl))
  conv => arg 4; (try simp only [nrm, Nat.reduceAdd, pCT, tCT, putCells, AVal.flat])
  conv => arg 3; (try simp only [nrm, Nat.reduceAdd, pCT, tCT, putCells, AVal.flat])
  refine WL_cut (fun e H => restr e [1, 2, 4, 5] = [(1, .int .i64 lb), (2, .ptr 0 0), (4, .ptr 1 0), (5, .ptr 2 0)] ∧ ∃ f rest, (rest = [] ∨ ∃ x, rest = [.cells (cC x)]) ∧ H = .cells (cT t) :: .cells Zc :: .cells (fC (fun _ => 0) (pairG false lb t.pair (goCs false lb t.pairs)).1 (pairG false lb t.pair (goCs false lb t.pairs)).2.1 (.lst ((pairG false lb t.pair (goCs false lb t.pairs)).2.2.map encC) f) 0 0 (.lst [] true)) :: rest) ?_ ?_
  · skip
    refine WL_block ?_
    refine WL_seq ?_
    refine WL_reg ?_
    refine O_p rfl rfl rfl ?_
    refine O_p rfl rfl rfl ?_
    refine WO_nil ?_
    refine WL_seq ?_
    apply WLp
    · (repeat (first | exact rzz | apply rcc rfl | apply rnn rfl))
    conv => arg 4; (try simp only [nrm, Nat.reduceAdd, pCT, tCT, putCells, AVal.flat])
    conv => arg 3; (try simp only [nrm, Nat.reduceAdd, pCT, tCT, putCells, AVal.flat])
    refine WL_cond rfl (fun h9 => ?_) (fun h9 => ?_)
    · skip
      replace h9 : t.pair = 1 := by simpa using h9
      obtain ⟨x, y, hp⟩ := hf.2.2.2.2.2.1 h9
      have hx : t.pairs[0]? = some x := by rw [hp]; rfl
      have hy : t.pairs[1]? = some y := by rw [hp]; rfl
      have hmx := List.mem_of_getElem? hx
      have hmy := List.mem_of_getElem? hy
      have hcx := ihF x (rt.pairs hmx) (szT_pairs hmx) (n + 10) (by omega)
      have hcy := ihF y (rt.pairs hmy) (szT_pairs hmy) (n + 10) (by omega)
      have hP : (pairG false lb t.pair (goCs false lb t.pairs)) = pairG false lb 1 [goC false lb x, goC false lb y] := by rw [h9, hp]; rfl
      have hpm := pairsM_c (n + 5) false lb [goC false lb x, goC false lb y] (cT t) Zc (fun _ => 0) 0 0 (.lst [] true) (by simp) (by simp)
      simp only [List.map_cons, List.map_nil, encC_eq] at hpm
      refine WL_drawT [24] rfl ?_
      refine S_p rfl rfl rfl ?_
      refine S_h (d := some 12) rfl rfl rfl rfl rfl ?_
      refine S_ia rfl rfl (Int.natCast_nonneg _) (encT_get (i := (0 : Nat)) hx) (encT_flat _) rfl ?_
      refine S_h (d := some 14) rfl rfl rfl rfl rfl ?_
      refine S_p rfl rfl rfl ?_
      refine S_c 14 rfl rfl rfl (callA_of rfl hcx) ?_
      refine S_p rfl rfl rfl ?_
      refine S_h (d := some 18) rfl rfl rfl rfl rfl ?_
      refine S_ia rfl rfl (Int.natCast_nonneg _) (encT_get (i := (1 : Nat)) hy) (encT_flat _) rfl ?_
      refine S_h (d := some 20) rfl rfl rfl rfl rfl ?_
      refine S_p rfl rfl rfl ?_
      refine S_c 14 rfl rfl rfl (callA_of rfl hcy) ?_
      refine S_h (d := some 23) rfl rfl rfl rfl rfl ?_
      refine S_ci 42 rfl rfl rfl (callA_nr rfl hpm rfl) ?_
      refine WS_nil ?_
      refine WL_nil ?_
      refine Blk_norm (?_ : WL _ _ _ _ _)
      refine WL_nil ?_
      first | exact ⟨by (repeat (first | exact rzz | apply rcc rfl | apply rnn rfl)), true, [], .inl rfl, by rw [hP]; (try simp only [List.map_cons, List.map_nil, encC_eq]); first | done | rfl⟩ | exact ⟨by (repeat (first | exact rzz | apply rcc rfl | apply rnn rfl)), true, [.cells (cC (goC false lb x))], .inr ⟨_, rfl⟩, by rw [hP]; (try simp only [List.map_cons, List.map_nil, encC_eq]); first | done | rfl⟩
    · skip
      replace h9 : ¬ t.pair = 1 := by simpa using h9
      refine WL_seq ?_
      refine WL_reg ?_
      refine O_p rfl rfl rfl ?_
      refine O_p rfl rfl rfl ?_
      refine WO_nil ?_
      refine WL_seq ?_
      apply WLp
      · (repeat (first | exact rzz | apply rcc rfl | apply rnn rfl))
      conv => arg 4; (try simp only [nrm, Nat.reduceAdd, pCT, tCT, putCells, AVal.flat])
      conv => arg 3; (try simp only [nrm, Nat.reduceAdd, pCT, tCT, putCells, AVal.flat])
      refine WL_cond rfl (fun h25 => ?_) (fun h25 => ?_)
      · skip
        replace h25 : t.pair = 2 := by simpa using h25
        obtain ⟨x, hp⟩ := hf.2.2.2.2.2.2.1 h25
        have hx : t.pairs[0]? = some x := by rw [hp]; rfl
        have hmx := List.mem_of_getElem? hx
        have hcx := ihF x (rt.pairs hmx) (szT_pairs hmx) (n + 10) (by omega)
        refine WL_seq ?_
        refine WL_reg ?_
        refine O_p rfl rfl rfl ?_
        refine O_h rfl rfl rfl rfl ?_
        refine O_ia rfl rfl (Int.natCast_nonneg _) (encT_get (i := (0 : Nat)) hx) (encT_flat _) rfl ?_
        refine O_h rfl rfl rfl rfl ?_
        refine O_p rfl rfl rfl ?_
        refine O_c 14 rfl rfl (callA_of rfl hcx) ?_
        refine O_n rfl rfl rfl ?_
        refine O_hn rfl rfl rfl rfl ?_
        refine WO_nil ?_
        refine WL_seq ?_
        apply WLp
        · (repeat (first | exact rzz | apply rcc rfl | apply rnn rfl))
        conv => arg 4; (try simp only [nrm, Nat.reduceAdd, pCT, tCT, putCells, AVal.flat])
        conv => arg 3; (try simp only [nrm, Nat.reduceAdd, pCT, tCT, putCells, AVal.flat])
        refine WL_seq ?_
        refine WL_reg ?_
        refine O_h rfl rfl rfl rfl ?_
        refine O_c 45 rfl rfl (callA_of rfl (acts_c (n + 8) _)) ?_
        refine WO_nil ?_
        refine WL_seq ?_
        apply WLp
        · (repeat (first | exact rzz | apply rcc rfl | apply rnn rfl))
        conv => arg 4; (try simp only [nrm, Nat.reduceAdd, pCT, tCT, putCells, AVal.flat])
        conv => arg 3; (try simp only [nrm, Nat.reduceAdd, pCT, tCT, putCells, AVal.flat])
        refine WL_cond rfl (fun h34 => ?_) (fun h34 => ?_)
        · skip
          have hP : (pairG false lb t.pair (goCs false lb t.pairs)) = (3, 0, [goC false lb x]) := by
            have ha : passC (goC false lb x) = false := by simpa using h34
            rw [h25, hp]; simp [pairG, goCs, anyA, ha]
          refine WL_draw0 ?_
          refine D_h (d := some 35) rfl rfl rfl rfl rfl ?_
          refine D_h (d := some 36) rfl rfl rfl rfl rfl ?_
          refine D_p rfl rfl rfl ?_
          refine D_h (d := none) rfl rfl rfl rfl rfl ?_
          refine D_p rfl rfl rfl ?_
          refine D_h (d := none) rfl rfl rfl rfl rfl ?_
          refine WD_nil ⟨by first | rfl | (simp [okFs, okEarlier, disj, notIn, noneIn, sameOn, sameB_self, glsL, glsV, partsGls, AOpd.ev, zeroB, outB] <;> (repeat' apply And.intro) <;> rfl), ?_⟩
          refine WL_nil ?_
          refine Blk_norm (?_ : WL _ _ _ _ _)
          refine WL_nil ?_
          first | exact ⟨by (repeat (first | exact rzz | apply rcc rfl | apply rnn rfl)), true, [], .inl rfl, by rw [hP]; (try simp only [List.map_cons, List.map_nil, encC_eq]); first | done | rfl⟩ | exact ⟨by (repeat (first | exact rzz | apply rcc rfl | apply rnn rfl)), true, [.cells (cC (goC false lb x))], .inr ⟨_, rfl⟩, by rw [hP]; (try simp only [List.map_cons, List.map_nil, encC_eq]); first | done | rfl⟩
        · skip
          have hP : (pairG false lb t.pair (goCs false lb t.pairs)) = (0, 0, []) := by
            have ha : passC (goC false lb x) = true := by simpa using h34
            rw [h25, hp]; simp [pairG, goCs, anyA, ha]
          refine WL_skip ?_
          refine WL_nil ?_
          refine Blk_norm (?_ : WL _ _ _ _ _)
          refine WL_nil ?_
          first | exact ⟨by (repeat (first | exact rzz | apply rcc rfl | apply rnn rfl)), true, [], .inl rfl, by rw [hP]; (try simp only [List.map_cons, List.map_nil, encC_eq]); first | done | rfl⟩ | exact ⟨by (repeat (first | exact rzz | apply rcc rfl | apply rnn rfl)), true, [.cells (cC (goC false lb x))], .inr ⟨_, rfl⟩, by rw [hP]; (try simp only [List.map_cons, List.map_nil, encC_eq]); first | done | rfl⟩
      · skip
        replace h25 : ¬ t.pair = 2 := by simpa using h25
        have hP : (pairG false lb t.pair (goCs false lb t.pairs)) = (0, 0, []) := by
          have h0 : t.pair = 0 := by omega
          rw [h0]; rfl
        refine WL_skip ?_
        refine WL_nil ?_
        refine Blk_norm (?_ : WL _ _ _ _ _)
        refine WL_nil ?_
        first | exact ⟨by (repeat (first | exact rzz | apply rcc rfl | apply rnn rfl)), true, [], .inl rfl, by rw [hP]; (try simp only [List.map_cons, List.map_nil, encC_eq]); first | done | rfl⟩ | exact ⟨by (repeat (first | exact rzz | apply rcc rfl | apply rnn rfl)), true, [.cells (cC (goC false lb x))], .inr ⟨_, rfl⟩, by rw [hP]; (try simp only [List.map_cons, List.map_nil, encC_eq]); first | done | rfl⟩
  · skip
    rintro e H ⟨he, f, rest, hrest, rfl⟩
    refine WL_seq ?_
    apply WLp
    · exact he
    refine WL_seq ?_
    refine WL_seq ?_
    refine WL_reg ?_
    refine O_p rfl rfl rfl ?_
    refine O_h rfl rfl rfl rfl ?_
    refine O_p rfl rfl rfl ?_
    refine WO_nil ?_
    refine WL_seq ?_
    apply WLp
    · (repeat (first | exact rzz | apply rcc rfl | apply rnn rfl))
    conv => arg 4; (try simp only [nrm, Nat.reduceAdd, pCT, tCT, putCells, AVal.flat])
    conv => arg 3; (try simp only [nrm, Nat.reduceAdd, pCT, tCT, putCells, AVal.flat])
    refine WL_cond rfl (fun h41 => ?_) (fun h41 => ?_)
    · skip
      replace h41 : t.fn = 1 := by simpa using h41
      rcases funsB (n + 4) (n + 10) false lb t.funs t 12 14 (fun _ => 0) (pairG false lb t.pair (goCs false lb t.pairs)).1 (pairG false lb t.pair (goCs false lb t.pairs)).2.1 ((pairG false lb t.pair (goCs false lb t.pairs)).2.2.map encC) f (by omega) (hf.2.2.2.2.2.2.2.1 h41).2 (fun x hx => ihT x (rt.funs hx) (szT_funs hx) (n + 9) (by omega)) (fun x hx => ihF x (rt.funs hx) (szT_funs hx) (n + 9) (by omega)) rest hrest with ⟨rfl, ha, hcall⟩ | ⟨rfl, ha, hcall⟩ | ⟨x6, rfl, ha, hcall⟩ | ⟨x6, rfl, ha, hcall⟩
      · skip
        refine WL_reg ?_
        refine O_p rfl rfl rfl ?_
        refine O_h rfl rfl rfl rfl ?_
        refine O_p rfl rfl rfl ?_
        refine O_c 43 rfl rfl (hcall) ?_
        refine WO_nil ?_
        refine WL_seq ?_
        apply WLp
        · (repeat (first | exact rzz | apply rcc rfl | apply rnn rfl))
        conv => arg 4; (try simp only [nrm, Nat.reduceAdd, pCT, tCT, putCells, AVal.flat])
        conv => arg 3; (try simp only [nrm, Nat.reduceAdd, pCT, tCT, putCells, AVal.flat])
        refine WL_seq ?_
        refine WL_reg ?_
        refine O_h rfl rfl rfl rfl ?_
        refine O_hn rfl rfl rfl rfl ?_
        refine WO_nil ?_
        refine WL_ret ?_
        refine ⟨_, rfl, vC (goC false lb t), ?_, rfl⟩
        have hG : funG false lb t.fn (goFs false lb t.funs) = (2, 0, goFs false lb t.funs) := by rw [h41]; simp [funG, ha]
        rw [ev, hG]
        show shutR _ (.agg (fC (fun _ => 0) (pairG false lb t.pair (goCs false lb t.pairs)).1 (pairG false lb t.pair (goCs false lb t.pairs)).2.1 (.lst ((pairG false lb t.pair (goCs false lb t.pairs)).2.2.map encC) f) 2 0 (.gl 3 t.funs.length))) = _
        simp [shutR, shutRL, growAt, fC, goFs_len]
      · skip
        refine WL_reg ?_
        refine O_p rfl rfl rfl ?_
        refine O_h rfl rfl rfl rfl ?_
        refine O_p rfl rfl rfl ?_
        refine O_c 43 rfl rfl (hcall) ?_
        refine WO_nil ?_
        refine WL_seq ?_
        apply WLp
        · (repeat (first | exact rzz | apply rcc rfl | apply rnn rfl))
        conv => arg 4; (try simp only [nrm, Nat.reduceAdd, pCT, tCT, putCells, AVal.flat])
        conv => arg 3; (try simp only [nrm, Nat.reduceAdd, pCT, tCT, putCells, AVal.flat])
        refine WL_seq ?_
        refine WL_reg ?_
        refine O_h rfl rfl rfl rfl ?_
        refine O_hn rfl rfl rfl rfl ?_
        refine WO_nil ?_
        refine WL_ret ?_
        refine ⟨_, rfl, vC (goC false lb t), ?_, rfl⟩
        have hG : funG false lb t.fn (goFs false lb t.funs) = (0, 0, []) := by rw [h41]; simp [funG, ha]
        rw [ev, hG]; rfl
      · skip
        refine WL_reg ?_
        refine O_p rfl rfl rfl ?_
        refine O_h rfl rfl rfl rfl ?_
        refine O_p rfl rfl rfl ?_
        refine O_c 43 rfl rfl (hcall) ?_
        refine WO_nil ?_
        refine WL_seq ?_
        apply WLp
        · (repeat (first | exact rzz | apply rcc rfl | apply rnn rfl))
        conv => arg 4; (try simp only [nrm, Nat.reduceAdd, pCT, tCT, putCells, AVal.flat])
        conv => arg 3; (try simp only [nrm, Nat.reduceAdd, pCT, tCT, putCells, AVal.flat])
        refine WL_seq ?_
        refine WL_reg ?_
        refine O_h rfl rfl rfl rfl ?_
        refine O_hn rfl rfl rfl rfl ?_
        refine WO_nil ?_
        refine WL_ret ?_
        refine ⟨_, rfl, vC (goC false lb t), ?_, rfl⟩
        have hG : funG false lb t.fn (goFs false lb t.funs) = (2, 0, goFs false lb t.funs) := by rw [h41]; simp [funG, ha]
        rw [ev, hG]
        show shutR _ (.agg (fC (fun _ => 0) (pairG false lb t.pair (goCs false lb t.pairs)).1 (pairG false lb t.pair (goCs false lb t.pairs)).2.1 (.lst ((pairG false lb t.pair (goCs false lb t.pairs)).2.2.map encC) f) 2 0 (.gl 4 t.funs.length))) = _
        simp [shutR, shutRL, growAt, fC, goFs_len]
      · skip
        refine WL_reg ?_
        refine O_p rfl rfl rfl ?_
        refine O_h rfl rfl rfl rfl ?_
        refine O_p rfl rfl rfl ?_
        refine O_c 43 rfl rfl (hcall) ?_
        refine WO_nil ?_
        refine WL_seq ?_
        apply WLp
        · (repeat (first | exact rzz | apply rcc rfl | apply rnn rfl))
        conv => arg 4; (try simp only [nrm, Nat.reduceAdd, pCT, tCT, putCells, AVal.flat])
        conv => arg 3; (try simp only [nrm, Nat.reduceAdd, pCT, tCT, putCells, AVal.flat])
        refine WL_seq ?_
        refine WL_reg ?_
        refine O_h rfl rfl rfl rfl ?_
        refine O_hn rfl rfl rfl rfl ?_
        refine WO_nil ?_
        refine WL_ret ?_
        refine ⟨_, rfl, vC (goC false lb t), ?_, rfl⟩
        have hG : funG false lb t.fn (goFs false lb t.funs) = (0, 0, []) := by rw [h41]; simp [funG, ha]
        rw [ev, hG]; rfl
    · skip
      replace h41 : ¬ t.fn = 1 := by simpa using h41
      have hG : funG false lb t.fn (goFs false lb t.funs) = (0, 0, []) := by simp [funG, h41]
      refine WL_skip ?_
      refine WL_seq ?_
      apply WLp
      · (repeat (first | exact rzz | apply rcc rfl | apply rnn rfl))
      conv => arg 4; (try simp only [nrm, Nat.reduceAdd, pCT, tCT, putCells, AVal.flat])
      conv => arg 3; (try simp only [nrm, Nat.reduceAdd, pCT, tCT, putCells, AVal.flat])
      refine WL_seq ?_
      refine WL_reg ?_
      refine O_h rfl rfl rfl rfl ?_
      refine O_hn rfl rfl rfl rfl ?_
      refine WO_nil ?_
      refine WL_ret ?_
      refine ⟨_, rfl, vC (goC false lb t), ?_, rfl⟩
      rw [ev, hG]; rfl
theorem tof_c (lb : Int) : ∀ (s : Nat) (t : Ty), szT t ≤ s → Rt t → ∀ k, 4 * szT t + 40 < k → pcall (tabOf tabL) k 12 [vT t, .int .i64 lb] = some (.ok (vC (goC true lb t))) ∧ pcall (tabOf tabL) k 14 [vT t, .int .i64 lb] = some (.ok (vC (goC false lb t)))
  | 0, t, h, _, _, _ => by have := szT_pos t; omega
  | s + 1, t, h, rt, k, hk => by
    obtain ⟨k, rfl⟩ : ∃ m, k = m + 1 := ⟨k - 1, by omega⟩
    have h0 := szT_pos t
    exact ⟨toS_c k t lb rt (by omega) (fun x rx hx k2 hk2 => (tof_c lb s x (by omega) rx k2 (by omega)).1) (fun x rx hx k2 hk2 => (tof_c lb s x (by omega) rx k2 (by omega)).2),
      fromS_c k t lb rt (by omega) (fun x rx hx k2 hk2 => (tof_c lb s x (by omega) rx k2 (by omega)).1) (fun x rx hx k2 hk2 => (tof_c lb s x (by omega) rx k2 (by omega)).2)⟩
end Go.Ev.Seat
namespace Go.Ev.Seat
set_option linter.unusedVariables false
set_option linter.unusedSimpArgs false
open Go Go.Ev
set_option maxRecDepth 20000
attribute [local irreducible] pcall callF
theorem awakeM_c (n : Nat) : pcall (tabOf tabL) (n + 60) 7 [] = some (.ok (.bool true)) := by kernel_rfl
noncomputable section
open Classical
def oAwake : Option Bool := some true
theorem oAwake_ok {r : Bool} (h : oAwake = some r) : PRes (tabOf tabL) 7 [] (.bool r) := by
  cases h; exact .of_le 60 awakeM_c
def oLightT (t : Ty) : Option Bool := if WfT t then some (decide (rsz t 60 < 120)) else none
theorem oLightT_ok {t : Ty} {r : Bool} (h : oLightT t = some r) : PRes (tabOf tabL) 8 [vT t] (.bool r) := by
  unfold oLightT at h
  split at h <;> cases h
  rename_i hw
  exact .of_lt (szT t + 1) fun n hn => by obtain ⟨m, rfl⟩ : ∃ m, n = m + 1 := ⟨n - 1, by omega⟩; exact TyS.light_c m t (by omega) hw
def oRightT (t : Ty) : Option Bool := if WfT t then some (decide (rsz t 60 ≤ 300) && rightT t 20) else none
theorem oRightT_ok {t : Ty} {r : Bool} (h : oRightT t = some r) : PRes (tabOf tabL) 10 [vT t] (.bool r) := by
  unfold oRightT at h
  split at h <;> cases h
  rename_i hw
  exact .of_lt (szT t + 1) fun n hn => by obtain ⟨m, rfl⟩ : ∃ m, n = m + 1 := ⟨n - 1, by omega⟩; exact TyS.right_ref m t (by omega) hw
def oLight (c : Co) : Option Bool := if WfC c then some (shalC c 30 && decide (rszC c 60 < 150)) else none
theorem oLight_ok {c : Co} {r : Bool} (h : oLight c = some r) : PRes (tabOf tabL) 9 [vC c] (.bool r) := by
  unfold oLight at h
  split at h <;> cases h
  rename_i hw
  exact .of_lt (szC c + 3) fun n hn => by obtain ⟨m, rfl⟩ : ∃ m, n = m + 3 := ⟨n - 3, by omega⟩; exact light_law m c (by omega) hw
def oSame (a b : Co) : Option Bool := if SmC a then some (sameC a b) else none
theorem oSame_ok {a b : Co} {r : Bool} (h : oSame a b = some r) : PRes (tabOf tabL) 11 [vC a, vC b] (.bool r) := by
  unfold oSame at h
  split at h <;> cases h
  rename_i hw
  exact .of_lt (szC a + 1) fun n hn => by obtain ⟨m, rfl⟩ : ∃ m, n = m + 1 := ⟨n - 1, by omega⟩; exact same_law m a b (by omega) hw
def oTo (t : Ty) (l : Int) : Option Co := if Rt t then some (goC true l t) else none
theorem oTo_ok {t : Ty} {l : Int} {r : Co} (h : oTo t l = some r) : PRes (tabOf tabL) 12 [vT t, .int .i64 l] (vC r) := by
  unfold oTo at h
  split at h <;> cases h
  rename_i hw
  exact .of_lt (4 * szT t + 40) fun n hn => (tof_c l (szT t) t (Nat.le_refl _) hw n hn).1
def oFrom (t : Ty) (l : Int) : Option Co := if Rt t then some (goC false l t) else none
theorem oFrom_ok {t : Ty} {l : Int} {r : Co} (h : oFrom t l = some r) : PRes (tabOf tabL) 14 [vT t, .int .i64 l] (vC r) := by
  unfold oFrom at h
  split at h <;> cases h
  rename_i hw
  exact .of_lt (4 * szT t + 40) fun n hn => (tof_c l (szT t) t (Nat.le_refl _) hw n hn).2
def oCto (c : Co) : Option Co := if SmC c then some c else none
theorem oCto_ok {c : Co} {r : Co} (h : oCto c = some r) : PRes (tabOf tabL) 16 [vC c] (vC r) := by
  unfold oCto at h
  split at h <;> cases h
  rename_i hw
  exact .of_lt (szC c) fun n hn => to_c n c hn hw
def oRight (c : Co) : Option Bool := if szC c ≤ 1000000 then some (rightC c 25) else none
theorem oRight_ok {c : Co} {r : Bool} (h : oRight c = some r) : PRes (tabOf tabL) 17 [vC c] (.bool r) := by
  unfold oRight at h
  split at h <;> cases h
  rename_i hw
  exact .of_lt (szC c + 22) fun n hn => by obtain ⟨m, rfl⟩ : ∃ m, n = m + 1 := ⟨n - 1, by omega⟩; exact right_ref m c (by omega) hw
def oCompose (a b : Co) : Option Co := if RtC a ∧ RtC b ∧ szC a + szC b ≤ 1000 then some (compC 1000 a b) else none
theorem oCompose_ok {a b : Co} {r : Co} (h : oCompose a b = some r) : PRes (tabOf tabL) 18 [vC a, vC b] (vC r) := by
  unfold oCompose at h
  split at h <;> cases h
  rename_i hw
  exact .of_lt (20 * 1000 + 40) fun n hn => compose_c 1000 n a b hw.1 hw.2.1 hw.2.2 hn
end
theorem simSame : ∀ (k : Nat) (a b : Co), szC a ≤ k → Sim a b → sameC a b = true
  | 0, a, b, h, _ => by have := szC_pos a; omega
  | k + 1, a, b, h, hs => by
    obtain ⟨⟨h0, h1, h2, h3, h4, h5⟩, h6, h7, h8, h9, h10, h11⟩ := Sim.iff.1 hs
    have key : ∀ (l m : List Co), (∀ x, x ∈ l → szC x ≤ k) → l.map encC = m.map encC → sameCs l m = true := by
      intro l
      induction l with
      | nil => intro m _ hm; cases m with
        | nil => rfl
        | cons => simp at hm
      | cons x l ih => intro m hz hm; cases m with
        | nil => simp at hm
        | cons y m =>
          simp only [List.map_cons, List.cons.injEq] at hm
          simp only [sameCs, Bool.and_eq_true]
          exact ⟨simSame k x y (hz x (by simp)) hm.1, ih m (fun z hz2 => hz z (by simp [hz2])) hm.2⟩
    rw [sameC_eq, key _ _ (fun x hx => by have := szC_pairs hx; omega) h8, key _ _ (fun x hx => by have := szC_funs hx; omega) h11]
    simp [six, h0, h1, h2, h3, h4, h5, h6, h7, h9, h10]
end Go.Ev.Seat
