/-
  The functions about types: how great one is, whether one may be, whether two are the same.
-/
import Derived.Test.YtpidcekngfnfjaaCode
import Derived.Test.YtpidcekngfnfjaaTyA
import Derived.Test.YtpidcekngfnfjaaEvU
import Derived.KernelRfl
set_option linter.unusedVariables false
set_option linter.unusedSimpArgs false
namespace Go.Ev.Seat
open Go Go.Ev
set_option maxRecDepth 20000
attribute [local irreducible] pcall callF
theorem t3 : tabOf tabL 3 = some a3 := rfl
theorem t4 : tabOf tabL 4 = some a4 := rfl
theorem t5 : tabOf tabL 5 = some a5 := rfl
theorem t6 : tabOf tabL 6 = some a6 := rfl
theorem t7 : tabOf tabL 7 = some a7 := rfl
theorem t8 : tabOf tabL 8 = some a8 := rfl
theorem t9 : tabOf tabL 9 = some a9 := rfl
theorem t10 : tabOf tabL 10 = some a10 := rfl
theorem t11 : tabOf tabL 11 = some a11 := rfl
theorem t12 : tabOf tabL 12 = some a12 := rfl
theorem t13 : tabOf tabL 13 = some a13 := rfl
theorem t14 : tabOf tabL 14 = some a14 := rfl
theorem t15 : tabOf tabL 15 = some a15 := rfl
theorem t16 : tabOf tabL 16 = some a16 := rfl
theorem t17 : tabOf tabL 17 = some a17 := rfl
theorem t18 : tabOf tabL 18 = some a18 := rfl
theorem t19 : tabOf tabL 19 = some a19 := rfl
theorem t20 : tabOf tabL 20 = some a20 := rfl
theorem t21 : tabOf tabL 21 = some a21 := rfl
theorem t22 : tabOf tabL 22 = some a22 := rfl
theorem t23 : tabOf tabL 23 = some a23 := rfl
theorem t24 : tabOf tabL 24 = some a24 := rfl
theorem t25 : tabOf tabL 25 = some a25 := rfl
theorem t26 : tabOf tabL 26 = some a26 := rfl
theorem t27 : tabOf tabL 27 = some a27 := rfl
theorem t28 : tabOf tabL 28 = some a28 := rfl
theorem t29 : tabOf tabL 29 = some a29 := rfl
theorem t30 : tabOf tabL 30 = some a30 := rfl
theorem t31 : tabOf tabL 31 = some a31 := rfl
theorem t32 : tabOf tabL 32 = some a32 := rfl
theorem t33 : tabOf tabL 33 = some a33 := rfl
theorem t34 : tabOf tabL 34 = some a34 := rfl
theorem t35 : tabOf tabL 35 = some a35 := rfl
theorem t36 : tabOf tabL 36 = some a36 := rfl
theorem t37 : tabOf tabL 37 = some a37 := rfl
theorem t38 : tabOf tabL 38 = some a38 := rfl
theorem t39 : tabOf tabL 39 = some a39 := rfl
theorem t40 : tabOf tabL 40 = some a40 := rfl
theorem t41 : tabOf tabL 41 = some a41 := rfl
theorem t42 : tabOf tabL 42 = some a42 := rfl
theorem t43 : tabOf tabL 43 = some a43 := rfl
theorem t44 : tabOf tabL 44 = some a44 := rfl
theorem t45 : tabOf tabL 45 = some a45 := rfl
theorem t46 : tabOf tabL 46 = some a46 := rfl
theorem t47 : tabOf tabL 47 = some a47 := rfl
theorem t48 : tabOf tabL 48 = some a48 := rfl
theorem t49 : tabOf tabL 49 = some a49 := rfl
theorem t50 : tabOf tabL 50 = some a50 := rfl
theorem t51 : tabOf tabL 51 = some a51 := rfl
theorem t52 : tabOf tabL 52 = some a52 := rfl
theorem size_zero (n : Nat) (t : Ty) : pcall (tabOf tabL) (n + 1) 30 [vT t, .int .i64 (0 : Nat)] = some (.ok (.int .i64 (rsz t 0 : Nat))) := by
  refine pcall_fin t30 ?_
  refine WL_seq ?_
  refine WL_reg ?_
  refine O_n rfl rfl rfl ?_
  refine O_p rfl rfl rfl ?_
  refine WO_nil ?_
  refine WL_seq ?_
  apply WL_prune
  · (repeat (first | exact restr_nil | apply restr_cons rfl | apply restr_none rfl))
  refine WL_seq ?_
  refine WL_seq ?_
  refine WL_reg ?_
  refine O_p rfl rfl rfl ?_
  refine O_p rfl rfl rfl ?_
  refine WO_nil ?_
  refine WL_seq ?_
  apply WL_prune
  · (repeat (first | exact restr_nil | apply restr_cons rfl | apply restr_none rfl))
  refine WL_cond rfl (fun h9 => ?_) (fun h9 => ?_)
  · skip
    refine WL_seq ?_
    refine WL_reg ?_
    refine O_p rfl rfl rfl ?_
    refine WO_nil ?_
    refine WL_ret ?_
    exact ⟨_, rfl, _, rfl, by rw [rsz_zero]; rfl⟩
  · skip
    simp at h9
theorem size_c : ∀ (n : Nat) (t : Ty) (l : Nat), szT t < n → WfT t → l < 1000 → pcall (tabOf tabL) n 30 [vT t, .int .i64 (l : Nat)] = some (.ok (.int .i64 (rsz t l : Nat)))
  | 0, t, l, h, _, _ => by omega
  | n + 1, t, 0, h, _, _ => size_zero n t
  | n + 1, t, l + 1, h, hw, hl => by
    have ih := size_c n
    have hp := len_pairs t
    have hf := len_funs t
    have hl1 : IntKind.i64.wrap (((l + 1 : Nat) : Int) - 1) = (l : Int) := by rw [kw_i64_id (by omega) (by omega)]; omega
    cases hw with | mk w1 w2 w3 w4 w5 w6 w7 =>
    refine pcall_fin t30 ?_
    refine WL_seq ?_
    refine WL_reg ?_
    refine O_n rfl rfl rfl ?_
    refine O_p rfl rfl rfl ?_
    refine WO_nil ?_
    refine WL_seq ?_
    apply WL_prune
    · (repeat (first | exact restr_nil | apply restr_cons rfl | apply restr_none rfl))
    refine WL_seq ?_
    refine WL_seq ?_
    refine WL_reg ?_
    refine O_p rfl rfl rfl ?_
    refine O_p rfl rfl rfl ?_
    refine WO_nil ?_
    refine WL_seq ?_
    apply WL_prune
    · (repeat (first | exact restr_nil | apply restr_cons rfl | apply restr_none rfl))
    refine WL_cond rfl (fun h9 => ?_) (fun h9 => ?_)
    · skip
      simp at h9; omega
    · skip
      refine WL_skip ?_
      refine WL_seq ?_
      apply WL_prune
      · (repeat (first | exact restr_nil | apply restr_cons rfl | apply restr_none rfl))
      refine WL_seq ?_
      refine WL_reg ?_
      refine O_p rfl rfl rfl ?_
      refine WO_nil ?_
      refine WL_seq ?_
      apply WL_prune
      · (repeat (first | exact restr_nil | apply restr_cons rfl | apply restr_none rfl))
      refine WL_seq ?_
      refine WL_seq ?_
      refine WL_reg ?_
      refine O_p rfl rfl rfl ?_
      refine WO_nil ?_
      refine WL_seq ?_
      apply WL_prune
      · (repeat (first | exact restr_nil | apply restr_cons rfl | apply restr_none rfl))
      refine WL_block ?_
      apply WL_forc (α := Nat × Nat) (fun s => [(5, .int .i64 (s.1 : Nat)), (6, .int .i64 (s.2 : Nat))]) (fun s => s.2 ≤ t.pairs.length ∧ s.1 ≤ 2000 ∧ min 1000 (1 + rszs t.pairs l) = min 1000 (s.1 + rszs (t.pairs.drop s.2) l)) (fun s => t.pairs.length - s.2) ((1, 0)) (he := ?he) (hP := ?hP) (hk := ?hk) (round := ?round)
      case he =>
        (repeat (first | exact restr_nil | apply restr_cons rfl | apply restr_none rfl))
      case hP =>
        exact ⟨by omega, by omega, rfl⟩
      case hk =>
        show t.pairs.length - 0 < n; omega
      case round =>
        rintro ⟨c, i⟩ ⟨hi, hc, hs⟩
        simp only at hi hc hs
        dsimp only [List.cons_append, List.nil_append] at *
        refine WL_seq ?_
        refine WL_seq ?_
        refine WL_reg ?_
        refine O_p rfl rfl rfl ?_
        refine O_p rfl rfl rfl ?_
        refine O_h rfl rfl rfl rfl ?_
        refine O_h rfl rfl rfl rfl ?_
        refine O_p rfl rfl rfl ?_
        refine O_p rfl rfl rfl ?_
        apply O_and [_, _] rfl rfl (hT := ?hT18) (h := ?hR18)
        case hT18 =>
          intro hb15
          refine O_p rfl rfl rfl ?_
          refine O_p rfl rfl rfl ?_
          exact WO_nil (WL_nil ⟨rfl, rfl, rfl⟩)
        case hR18 =>
          intro vs hvs
          obtain ⟨u16, u17, rfl⟩ := len2 hvs
          clear hvs; dsimp only [junk]
          refine WO_nil ?_
          refine WL_seq ?_
          apply WL_prune
          · (repeat (first | exact restr_nil | apply restr_cons rfl | apply restr_none rfl))
          try clear u16 u17
          refine WL_cond rfl (fun h18 => ?_) (fun h18 => ?_)
          · skip
            simp at h18
            obtain ⟨x, hx⟩ : ∃ x, (t.pairs)[i]? = some x := ⟨_, List.getElem?_eq_getElem (by omega)⟩
            have hmx := List.mem_of_getElem? hx
            have hsx := szT_pairs hmx
            have hle := rsz_le x l
            have hg := drop_of hx
            refine WL_skip ?_
            refine WL_seq ?_
            apply WL_prune
            · (repeat (first | exact restr_nil | apply restr_cons rfl | apply restr_none rfl))
            refine WL_seq ?_
            refine WL_block ?_
            refine WL_reg ?_
            refine O_p rfl rfl rfl ?_
            refine O_p rfl rfl rfl ?_
            refine O_h rfl rfl rfl rfl ?_
            refine O_p rfl rfl rfl ?_
            refine O_ia rfl rfl (Int.natCast_nonneg _) (encT_get (i := (i : Nat)) hx) (encT_flat _) rfl ?_
            refine O_h rfl rfl rfl rfl ?_
            refine O_p rfl rfl rfl ?_
            refine O_p rfl rfl rfl ?_
            refine O_c 30 rfl rfl (callA_of rfl (by rw [hl1]; exact ih x l (by omega) (w6 x hmx) (by omega))) ?_
            refine O_p rfl rfl rfl ?_
            refine O_p rfl rfl rfl ?_
            refine WO_nil ?_
            refine WL_nil ?_
            refine Blk_norm (?_ : WL _ _ _ _ _)
            refine WL_seq ?_
            apply WL_prune
            · (repeat (first | exact restr_nil | apply restr_cons rfl | apply restr_none rfl))
            refine WL_reg ?_
            refine O_p rfl rfl rfl ?_
            refine O_p rfl rfl rfl ?_
            refine O_p rfl rfl rfl ?_
            refine WO_nil ?_
            refine WL_nil ?_
            refine RndC_norm ((c + rsz x l, i + 1)) (by refine ⟨?_, ?_, ?_⟩ <;> simp only <;> first | omega | (rw [hs, hg, rszs]; omega)) (by show _ < _; omega) ?_ rfl
            · rw [wrap_add (by omega), wrap_succ (by omega)]; (repeat (first | exact restr_nil | apply restr_cons rfl | apply restr_none rfl))
          · skip
            have hq : min 1000 (1 + rszs t.pairs l) = min 1000 c := by
              rw [hs]; simp at h18
              by_cases hc : i < t.pairs.length
              · have := h18 hc; omega
              · rw [List.drop_eq_nil_of_le (by omega)]; simp [rszs]
            refine WL_exit ?_
            refine RndC_exit ?_
            refine Blk_exit (?_ : WL _ _ _ _ _)
            refine WL_seq ?_
            apply WL_prune
            · (repeat (first | exact restr_nil | apply restr_cons rfl | apply restr_none rfl))
            refine WL_seq ?_
            refine WL_seq ?_
            refine WL_reg ?_
            refine O_p rfl rfl rfl ?_
            refine WO_nil ?_
            refine WL_seq ?_
            apply WL_prune
            · (repeat (first | exact restr_nil | apply restr_cons rfl | apply restr_none rfl))
            refine WL_block ?_
            apply WL_forc (α := Nat × Nat) (fun s => [(5, .int .i64 (s.1 : Nat)), (7, .int .i64 (s.2 : Nat))]) (fun s => s.2 ≤ t.funs.length ∧ s.1 ≤ 2000 ∧ min 1000 (1 + rszs t.pairs l + rszs t.funs l) = min 1000 (s.1 + rszs (t.funs.drop s.2) l)) (fun s => t.funs.length - s.2) ((c, 0)) (he := ?he) (hP := ?hP) (hk := ?hk) (round := ?round)
            case he =>
              (repeat (first | exact restr_nil | apply restr_cons rfl | apply restr_none rfl))
            case hP =>
              refine ⟨by simp, by simp only; omega, ?_⟩; simp only [List.drop_zero]; omega
            case hk =>
              show t.funs.length - 0 < n; omega
            case round =>
              rintro ⟨c, i⟩ ⟨hi, hc, hs2⟩
              simp only at hi hc hs2
              dsimp only [List.cons_append, List.nil_append] at *
              refine WL_seq ?_
              refine WL_seq ?_
              refine WL_reg ?_
              refine O_p rfl rfl rfl ?_
              refine O_p rfl rfl rfl ?_
              refine O_h rfl rfl rfl rfl ?_
              refine O_h rfl rfl rfl rfl ?_
              refine O_p rfl rfl rfl ?_
              refine O_p rfl rfl rfl ?_
              apply O_and [_, _] rfl rfl (hT := ?hT39) (h := ?hR39)
              case hT39 =>
                intro hb36
                refine O_p rfl rfl rfl ?_
                refine O_p rfl rfl rfl ?_
                exact WO_nil (WL_nil ⟨rfl, rfl, rfl⟩)
              case hR39 =>
                intro vs hvs
                obtain ⟨u37, u38, rfl⟩ := len2 hvs
                clear hvs; dsimp only [junk]
                refine WO_nil ?_
                refine WL_seq ?_
                apply WL_prune
                · (repeat (first | exact restr_nil | apply restr_cons rfl | apply restr_none rfl))
                try clear u37 u38
                refine WL_cond rfl (fun h39 => ?_) (fun h39 => ?_)
                · skip
                  simp at h39
                  obtain ⟨x, hx⟩ : ∃ x, (t.funs)[i]? = some x := ⟨_, List.getElem?_eq_getElem (by omega)⟩
                  have hmx := List.mem_of_getElem? hx
                  have hsx := szT_funs hmx
                  have hle := rsz_le x l
                  have hg := drop_of hx
                  refine WL_skip ?_
                  refine WL_seq ?_
                  apply WL_prune
                  · (repeat (first | exact restr_nil | apply restr_cons rfl | apply restr_none rfl))
                  refine WL_seq ?_
                  refine WL_block ?_
                  refine WL_reg ?_
                  refine O_p rfl rfl rfl ?_
                  refine O_p rfl rfl rfl ?_
                  refine O_h rfl rfl rfl rfl ?_
                  refine O_p rfl rfl rfl ?_
                  refine O_ia rfl rfl (Int.natCast_nonneg _) (encT_get (i := (i : Nat)) hx) (encT_flat _) rfl ?_
                  refine O_h rfl rfl rfl rfl ?_
                  refine O_p rfl rfl rfl ?_
                  refine O_p rfl rfl rfl ?_
                  refine O_c 30 rfl rfl (callA_of rfl (by rw [hl1]; exact ih x l (by omega) (w7 x hmx) (by omega))) ?_
                  refine O_p rfl rfl rfl ?_
                  refine O_p rfl rfl rfl ?_
                  refine WO_nil ?_
                  refine WL_nil ?_
                  refine Blk_norm (?_ : WL _ _ _ _ _)
                  refine WL_seq ?_
                  apply WL_prune
                  · (repeat (first | exact restr_nil | apply restr_cons rfl | apply restr_none rfl))
                  refine WL_reg ?_
                  refine O_p rfl rfl rfl ?_
                  refine O_p rfl rfl rfl ?_
                  refine O_p rfl rfl rfl ?_
                  refine WO_nil ?_
                  refine WL_nil ?_
                  refine RndC_norm ((c + rsz x l, i + 1)) (by refine ⟨?_, ?_, ?_⟩ <;> simp only <;> first | omega | (rw [hs2, hg, rszs]; omega)) (by show _ < _; omega) ?_ rfl
                  · rw [wrap_add (by omega), wrap_succ (by omega)]; (repeat (first | exact restr_nil | apply restr_cons rfl | apply restr_none rfl))
                · skip
                  have hr : AVal.int IntKind.i64 (rsz t (l + 1) : Nat) = AVal.int IntKind.i64 (if false = true then if (1000 : Int) > (c : Int) then 1000 else (c : Int) else if (1000 : Int) < (c : Int) then 1000 else (c : Int)) := by
                    have hq2 : rsz t (l + 1) = min 1000 c := by
                      rw [rsz_succ, hs2]; simp at h39
                      by_cases hc : i < t.funs.length
                      · have := h39 hc; omega
                      · rw [List.drop_eq_nil_of_le (by omega)]; simp [rszs]
                    rw [hq2]; congr 1; simp; split <;> omega
                  refine WL_exit ?_
                  refine RndC_exit ?_
                  refine Blk_exit (?_ : WL _ _ _ _ _)
                  refine WL_seq ?_
                  apply WL_prune
                  · (repeat (first | exact restr_nil | apply restr_cons rfl | apply restr_none rfl))
                  refine WL_seq ?_
                  refine WL_reg ?_
                  refine O_p rfl rfl rfl ?_
                  refine O_p rfl rfl rfl ?_
                  refine O_p rfl rfl rfl ?_
                  refine WO_nil ?_
                  refine WL_ret ?_
                  refine ⟨_, rfl, _, rfl, ?_⟩
                  rw [hr]

theorem light_c (n : Nat) (t : Ty) (h : szT t < n) (hw : WfT t) : pcall (tabOf tabL) (n + 1) 9 [vT t] = some (.ok (.bool (decide (rsz t 60 < 120)))) := by
  refine pcall_fin t9 ?_
  refine WL_seq ?_
  refine WL_reg ?_
  refine O_n rfl rfl rfl ?_
  refine O_p rfl rfl rfl ?_
  refine WO_nil ?_
  refine WL_seq ?_
  apply WL_prune
  · (repeat (first | exact restr_nil | apply restr_cons rfl | apply restr_none rfl))
  refine WL_seq ?_
  refine WL_reg ?_
  refine O_h rfl rfl rfl rfl ?_
  refine O_c 30 rfl rfl (callA_of rfl (size_c n t 60 h hw (by omega))) ?_
  refine O_p rfl rfl rfl ?_
  refine O_p rfl rfl rfl ?_
  refine WO_nil ?_
  refine WL_ret ?_
  exact ⟨_, rfl, _, rfl, by congr 2; apply decide_eq_decide.2; omega⟩
theorem pcnt_get {p : Int} (h0 : 0 ≤ p) (h2 : p ≤ 2) : [AVal.int .i64 0, AVal.int .i64 2, AVal.int .i64 1][p.toNat]? = some (.int .i64 (pcnt p)) := by
  obtain rfl | rfl | rfl : p = 0 ∨ p = 1 ∨ p = 2 := by omega
  all_goals rfl
theorem deep_c : ∀ (n : Nat) (t : Ty) (d : Nat), szT t < n → WfT t → d < 1000 → pcall (tabOf tabL) n 33 [vT t, .int .i64 (d : Nat)] = some (.ok (.bool (rightT t d)))
  | 0, t, d, h, _, _ => by omega
  | n + 1, t, d, h, hw, hd => by
    have ih := deep_c n
    have hp := len_pairs t
    have hf := len_funs t
    cases hw with | mk w1 w2 w3 w4 w5 w6 w7 =>
    refine pcall_fin t33 ?_
    refine WL_seq ?_
    refine WL_reg ?_
    refine O_n rfl rfl rfl ?_
    refine O_p rfl rfl rfl ?_
    refine WO_nil ?_
    refine WL_seq ?_
    apply WL_prune
    · (repeat (first | exact restr_nil | apply restr_cons rfl | apply restr_none rfl))
    refine WL_seq ?_
    refine WL_seq ?_
    refine WL_reg ?_
    refine O_p rfl rfl rfl ?_
    refine O_p rfl rfl rfl ?_
    refine O_p rfl rfl rfl ?_
    apply O_or [_, _, _] rfl rfl (hT := ?hT14) (h := ?hR14)
    case hT14 =>
      intro hb10
      refine O_p rfl rfl rfl ?_
      refine O_h rfl rfl rfl rfl ?_
      refine O_p rfl rfl rfl ?_
      exact WO_nil (WL_nil ⟨rfl, rfl, rfl⟩)
    case hR14 =>
      intro vs hvs
      obtain ⟨u11, u12, u13, rfl⟩ := len3 hvs
      clear hvs; dsimp only [junk]
      refine O_p rfl rfl rfl ?_
      apply O_or [_, _, _] rfl rfl (hT := ?hT19) (h := ?hR19)
      case hT19 =>
        intro hb15
        refine O_p rfl rfl rfl ?_
        refine O_h rfl rfl rfl rfl ?_
        refine O_p rfl rfl rfl ?_
        exact WO_nil (WL_nil ⟨rfl, rfl, rfl⟩)
      case hR19 =>
        intro vs hvs
        obtain ⟨u16, u17, u18, rfl⟩ := len3 hvs
        clear hvs; dsimp only [junk]
        refine O_p rfl rfl rfl ?_
        apply O_or [_, _, _] rfl rfl (hT := ?hT24) (h := ?hR24)
        case hT24 =>
          intro hb20
          refine O_p rfl rfl rfl ?_
          refine O_h rfl rfl rfl rfl ?_
          refine O_p rfl rfl rfl ?_
          exact WO_nil (WL_nil ⟨rfl, rfl, rfl⟩)
        case hR24 =>
          intro vs hvs
          obtain ⟨u21, u22, u23, rfl⟩ := len3 hvs
          clear hvs; dsimp only [junk]
          refine O_p rfl rfl rfl ?_
          apply O_or [_, _, _] rfl rfl (hT := ?hT29) (h := ?hR29)
          case hT29 =>
            intro hb25
            refine O_p rfl rfl rfl ?_
            refine O_h rfl rfl rfl rfl ?_
            refine O_p rfl rfl rfl ?_
            exact WO_nil (WL_nil ⟨rfl, rfl, rfl⟩)
          case hR29 =>
            intro vs hvs
            obtain ⟨u26, u27, u28, rfl⟩ := len3 hvs
            clear hvs; dsimp only [junk]
            refine O_p rfl rfl rfl ?_
            apply O_or [_, _, _] rfl rfl (hT := ?hT34) (h := ?hR34)
            case hT34 =>
              intro hb30
              refine O_p rfl rfl rfl ?_
              refine O_h rfl rfl rfl rfl ?_
              refine O_p rfl rfl rfl ?_
              exact WO_nil (WL_nil ⟨rfl, rfl, rfl⟩)
            case hR34 =>
              intro vs hvs
              obtain ⟨u31, u32, u33, rfl⟩ := len3 hvs
              clear hvs; dsimp only [junk]
              refine O_p rfl rfl rfl ?_
              apply O_or [_, _, _] rfl rfl (hT := ?hT39) (h := ?hR39)
              case hT39 =>
                intro hb35
                refine O_p rfl rfl rfl ?_
                refine O_h rfl rfl rfl rfl ?_
                refine O_p rfl rfl rfl ?_
                exact WO_nil (WL_nil ⟨rfl, rfl, rfl⟩)
              case hR39 =>
                intro vs hvs
                obtain ⟨u36, u37, u38, rfl⟩ := len3 hvs
                clear hvs; dsimp only [junk]
                refine WO_nil ?_
                refine WL_seq ?_
                apply WL_prune
                · (repeat (first | exact restr_nil | apply restr_cons rfl | apply restr_none rfl))
                try clear u11 u12 u13 u16 u17 u18 u21 u22 u23 u26 u27 u28 u31 u32 u33 u36 u37 u38
                refine WL_cond rfl (fun h39 => ?_) (fun h39 => ?_)
                · skip
                  have hr : rightT t d = false := by
                    cases d with
                    | zero => exact rightT_zero t
                    | succ d =>
                      rw [rightT_succ]
                      have : okT t = false := by
                        unfold okT; simp at h39 ⊢; omega
                      simp [this]
                  refine WL_seq ?_
                  refine WL_reg ?_
                  refine O_p rfl rfl rfl ?_
                  refine WO_nil ?_
                  refine WL_ret ?_
                  exact ⟨_, rfl, _, rfl, by rw [hr]⟩
                · skip
                  simp at h39
                  obtain ⟨d, rfl⟩ : ∃ e, d = e + 1 := ⟨d - 1, by omega⟩
                  have hl1 : IntKind.i64.wrap (((d + 1 : Nat) : Int) - 1) = (d : Int) := by rw [kw_i64_id (by omega) (by omega)]; omega
                  refine WL_skip ?_
                  refine WL_seq ?_
                  apply WL_prune
                  · (repeat (first | exact restr_nil | apply restr_cons rfl | apply restr_none rfl))
                  refine WL_seq ?_
                  refine WL_seq ?_
                  refine WL_reg ?_
                  refine O_p rfl rfl rfl ?_
                  refine O_h rfl rfl rfl rfl ?_
                  refine O_p rfl rfl rfl ?_
                  apply O_and [_, _, _, _, _, _, _, _, _, _, _, _, _] rfl rfl (hT := ?hT56) (h := ?hR56)
                  case hT56 =>
                    intro hb42
                    refine O_p rfl rfl rfl ?_
                    refine O_h rfl rfl rfl rfl ?_
                    refine O_p rfl rfl rfl ?_
                    refine O_p rfl rfl rfl ?_
                    apply O_or [_, _, _] rfl rfl (hT := ?hT50) (h := ?hR50)
                    case hT50 =>
                      intro hb46
                      refine O_p rfl rfl rfl ?_
                      refine O_h rfl rfl rfl rfl ?_
                      refine O_p rfl rfl rfl ?_
                      exact WO_nil (WL_nil ⟨rfl, rfl, rfl⟩)
                    case hR50 =>
                      intro vs hvs
                      obtain ⟨u47, u48, u49, rfl⟩ := len3 hvs
                      clear hvs; dsimp only [junk]
                      refine O_p rfl rfl rfl ?_
                      apply O_or [_, _, _] rfl rfl (hT := ?hT55) (h := ?hR55)
                      case hT55 =>
                        intro hb51
                        refine O_p rfl rfl rfl ?_
                        refine O_h rfl rfl rfl rfl ?_
                        refine O_p rfl rfl rfl ?_
                        exact WO_nil (WL_nil ⟨rfl, rfl, rfl⟩)
                      case hR55 =>
                        intro vs hvs
                        obtain ⟨u52, u53, u54, rfl⟩ := len3 hvs
                        clear hvs; dsimp only [junk]
                        exact WO_nil (WL_nil ⟨rfl, rfl, rfl⟩)
                  case hR56 =>
                    intro vs hvs
                    obtain ⟨u43, u44, u45, u46, u47, u48, u49, u50, u51, u52, u53, u54, u55, rfl⟩ := len13 hvs
                    clear hvs; dsimp only [junk]
                    refine WO_nil ?_
                    refine WL_seq ?_
                    apply WL_prune
                    · (repeat (first | exact restr_nil | apply restr_cons rfl | apply restr_none rfl))
                    try clear u47 u48 u49 u52 u53 u54 u43 u44 u45 u46 u47 u48 u49 u50 u51 u52 u53 u54 u55
                    refine WL_cond rfl (fun h56 => ?_) (fun h56 => ?_)
                    · skip
                      have hr : rightT t (d + 1) = false := by
                        rw [rightT_succ]
                        have : okT t = false := by
                          unfold okT; simp at h56 ⊢; intros; simp_all
                        simp [this]
                      refine WL_seq ?_
                      refine WL_reg ?_
                      refine O_p rfl rfl rfl ?_
                      refine WO_nil ?_
                      refine WL_ret ?_
                      exact ⟨_, rfl, _, rfl, by rw [hr]⟩
                    · skip
                      refine WL_skip ?_
                      refine WL_seq ?_
                      apply WL_prune
                      · (repeat (first | exact restr_nil | apply restr_cons rfl | apply restr_none rfl))
                      refine WL_seq ?_
                      refine WL_reg ?_
                      refine O_h rfl rfl rfl rfl ?_
                      refine O_p rfl rfl rfl ?_
                      refine WO_nil ?_
                      refine WL_seq ?_
                      apply WL_prune
                      · (repeat (first | exact restr_nil | apply restr_cons rfl | apply restr_none rfl))
                      refine WL_seq ?_
                      refine WL_seq ?_
                      refine WL_drawS (ops := [_, _, _, _, _, _, _, _, _, _, _, _, _, _, _, _, _, _, _, _, _, _, _, _, _, _, _, _, _, _, _, _, _, _, _, _, _]) rfl rfl ?_
                      refine O_p rfl rfl rfl ?_
                      refine O_h rfl rfl rfl rfl ?_
                      refine O_h rfl rfl rfl rfl ?_
                      refine O_p rfl rfl rfl ?_
                      refine O_p rfl rfl rfl ?_
                      refine O_h rfl rfl rfl rfl ?_
                      refine O_ia rfl rfl (by omega) (pcnt_get (by omega) (by omega)) rfl rfl ?_
                      refine O_h rfl rfl rfl rfl ?_
                      refine O_p rfl rfl rfl ?_
                      refine O_p rfl rfl rfl ?_
                      apply O_or [_, _, _, _, _, _, _, _, _] rfl rfl (hT := ?hT77) (h := ?hR77)
                      case hT77 =>
                        intro hb67
                        refine O_p rfl rfl rfl ?_
                        refine O_h rfl rfl rfl rfl ?_
                        refine O_p rfl rfl rfl ?_
                        refine O_p rfl rfl rfl ?_
                        apply O_and [_, _, _, _] rfl rfl (hT := ?hT76) (h := ?hR76)
                        case hT76 =>
                          intro hb71
                          refine O_p rfl rfl rfl ?_
                          refine O_h rfl rfl rfl rfl ?_
                          refine O_h rfl rfl rfl rfl ?_
                          refine O_p rfl rfl rfl ?_
                          exact WO_nil (WL_nil ⟨rfl, rfl, rfl⟩)
                        case hR76 =>
                          intro vs hvs
                          obtain ⟨u72, u73, u74, u75, rfl⟩ := len4 hvs
                          clear hvs; dsimp only [junk]
                          exact WO_nil (WL_nil ⟨rfl, rfl, rfl⟩)
                      case hR77 =>
                        intro vs hvs
                        obtain ⟨u68, u69, u70, u71, u72, u73, u74, u75, u76, rfl⟩ := len9 hvs
                        clear hvs; dsimp only [junk]
                        refine O_p rfl rfl rfl ?_
                        apply O_or [_, _, _, _, _, _, _, _, _, _, _, _, _, _, _] rfl rfl (hT := ?hT94) (h := ?hR94)
                        case hT94 =>
                          intro hb78
                          refine O_p rfl rfl rfl ?_
                          refine O_h rfl rfl rfl rfl ?_
                          refine O_p rfl rfl rfl ?_
                          refine O_p rfl rfl rfl ?_
                          apply O_and [_, _, _, _, _, _, _, _, _, _] rfl rfl (hT := ?hT93) (h := ?hR93)
                          case hT93 =>
                            intro hb82
                            refine O_p rfl rfl rfl ?_
                            refine O_h rfl rfl rfl rfl ?_
                            refine O_h rfl rfl rfl rfl ?_
                            refine O_p rfl rfl rfl ?_
                            refine O_p rfl rfl rfl ?_
                            apply O_or [_, _, _, _] rfl rfl (hT := ?hT92) (h := ?hR92)
                            case hT92 =>
                              intro hb87
                              refine O_p rfl rfl rfl ?_
                              refine O_h rfl rfl rfl rfl ?_
                              refine O_h rfl rfl rfl rfl ?_
                              refine O_p rfl rfl rfl ?_
                              exact WO_nil (WL_nil ⟨rfl, rfl, rfl⟩)
                            case hR92 =>
                              intro vs hvs
                              obtain ⟨u88, u89, u90, u91, rfl⟩ := len4 hvs
                              clear hvs; dsimp only [junk]
                              exact WO_nil (WL_nil ⟨rfl, rfl, rfl⟩)
                          case hR93 =>
                            intro vs hvs
                            obtain ⟨u83, u84, u85, u86, u87, u88, u89, u90, u91, u92, rfl⟩ := len10 hvs
                            clear hvs; dsimp only [junk]
                            exact WO_nil (WL_nil ⟨rfl, rfl, rfl⟩)
                        case hR94 =>
                          intro vs hvs
                          obtain ⟨u79, u80, u81, u82, u83, u84, u85, u86, u87, u88, u89, u90, u91, u92, u93, rfl⟩ := len15 hvs
                          clear hvs; dsimp only [junk]
                          refine WO_nil (WL_nil ⟨rfl, ?_⟩)
                          refine WL_seq ?_
                          apply WL_prune
                          · (repeat (first | exact restr_nil | apply restr_cons rfl | apply restr_none rfl))
                          try clear u72 u73 u74 u75 u68 u69 u70 u71 u72 u73 u74 u75 u76 u88 u89 u90 u91 u83 u84 u85 u86 u87 u88 u89 u90 u91 u92 u79 u80 u81 u82 u83 u84 u85 u86 u87 u88 u89 u90 u91 u92 u93
                          refine WL_cond rfl (fun h94 => ?_) (fun h94 => ?_)
                          · skip
                            have hr : rightT t (d + 1) = false := by
                              rw [rightT_succ]
                              have : okT t = false := by
                                cases q : okT t with
                                | false => rfl
                                | true =>
                                  unfold okT at q; simp at q h94
                                  obtain ⟨⟨q1, q2⟩, q3⟩ := q
                                  by_cases hf1 : t.fn = 1 <;> simp [hf1, q2] at q3 h94 <;> first | omega | simp_all
                              simp [this]
                            refine WL_seq ?_
                            refine WL_reg ?_
                            refine O_p rfl rfl rfl ?_
                            refine WO_nil ?_
                            refine WL_ret ?_
                            exact ⟨_, rfl, _, rfl, by rw [hr]⟩
                          · skip
                            have hok : okT t = true := by
                              unfold okT; simp at h94 h56 ⊢
                              obtain ⟨⟨q1, q2⟩, q3⟩ := h94
                              refine ⟨⟨⟨⟨⟨⟨⟨⟨by omega, by omega⟩, by omega⟩, by omega⟩, by omega⟩, by omega⟩, ?_⟩, q1⟩, ?_⟩
                              · cases ha : t.all <;> simp [ha] at h56 ⊢; exact h56
                              · by_cases hf1 : t.fn = 1 <;> simp [hf1] at q2 q3 ⊢ <;> first | omega | exact q2
                            refine WL_skip ?_
                            refine WL_seq ?_
                            apply WL_prune
                            · (repeat (first | exact restr_nil | apply restr_cons rfl | apply restr_none rfl))
                            refine WL_seq ?_
                            refine WL_seq ?_
                            refine WL_reg ?_
                            refine O_p rfl rfl rfl ?_
                            refine WO_nil ?_
                            refine WL_seq ?_
                            apply WL_prune
                            · (repeat (first | exact restr_nil | apply restr_cons rfl | apply restr_none rfl))
                            refine WL_block ?_
                            apply WL_forc (α := Nat) (fun i => [(6, .int .i64 (i : Nat))]) (fun i => i ≤ t.pairs.length ∧ rightTs t.pairs d = rightTs (t.pairs.drop i) d) (fun i => t.pairs.length - i) (0) (he := ?he) (hP := ?hP) (hk := ?hk) (round := ?round)
                            case he =>
                              (repeat (first | exact restr_nil | apply restr_cons rfl | apply restr_none rfl))
                            case hP =>
                              exact ⟨by omega, rfl⟩
                            case hk =>
                              show t.pairs.length - 0 < n; omega
                            case round =>
                              rintro i ⟨hi, hs⟩
                              dsimp only [List.cons_append, List.nil_append] at *
                              refine WL_seq ?_
                              refine WL_seq ?_
                              refine WL_reg ?_
                              refine O_p rfl rfl rfl ?_
                              refine O_p rfl rfl rfl ?_
                              refine O_h rfl rfl rfl rfl ?_
                              refine O_h rfl rfl rfl rfl ?_
                              refine O_p rfl rfl rfl ?_
                              refine WO_nil ?_
                              refine WL_seq ?_
                              apply WL_prune
                              · (repeat (first | exact restr_nil | apply restr_cons rfl | apply restr_none rfl))
                              refine WL_cond rfl (fun h99 => ?_) (fun h99 => ?_)
                              · skip
                                simp at h99
                                obtain ⟨x, hx⟩ : ∃ x, (t.pairs)[i]? = some x := ⟨_, List.getElem?_eq_getElem (by omega)⟩
                                have hmx := List.mem_of_getElem? hx
                                have hsx := szT_pairs hmx
                                have hg := drop_of hx
                                refine WL_skip ?_
                                refine WL_seq ?_
                                apply WL_prune
                                · (repeat (first | exact restr_nil | apply restr_cons rfl | apply restr_none rfl))
                                refine WL_seq ?_
                                refine WL_block ?_
                                refine WL_seq ?_
                                refine WL_reg ?_
                                refine O_p rfl rfl rfl ?_
                                refine O_h rfl rfl rfl rfl ?_
                                refine O_p rfl rfl rfl ?_
                                refine O_ia rfl rfl (Int.natCast_nonneg _) (encT_get (i := (i : Nat)) hx) (encT_flat _) rfl ?_
                                refine O_h rfl rfl rfl rfl ?_
                                refine O_p rfl rfl rfl ?_
                                refine O_p rfl rfl rfl ?_
                                refine O_c 33 rfl rfl (callA_of rfl (by rw [hl1]; exact ih x d (by omega) (w6 x hmx) (by omega))) ?_
                                refine O_p rfl rfl rfl ?_
                                refine WO_nil ?_
                                refine WL_seq ?_
                                apply WL_prune
                                · (repeat (first | exact restr_nil | apply restr_cons rfl | apply restr_none rfl))
                                refine WL_cond rfl (fun h110 => ?_) (fun h110 => ?_)
                                · skip
                                  have hr : rightT t (d + 1) = false := by
                                    simp at h110
                                    rw [rightT_succ, hs, hg]; simp [rightTs, h110]
                                  refine WL_seq ?_
                                  refine WL_reg ?_
                                  refine O_p rfl rfl rfl ?_
                                  refine WO_nil ?_
                                  refine WL_ret ?_
                                  refine Blk_ret ?_
                                  refine RndC_ret ?_
                                  refine Blk_ret ?_
                                  exact ⟨_, rfl, _, rfl, by rw [hr]⟩
                                · skip
                                  refine WL_skip ?_
                                  refine WL_nil ?_
                                  refine Blk_norm (?_ : WL _ _ _ _ _)
                                  refine WL_seq ?_
                                  apply WL_prune
                                  · (repeat (first | exact restr_nil | apply restr_cons rfl | apply restr_none rfl))
                                  refine WL_reg ?_
                                  refine O_p rfl rfl rfl ?_
                                  refine O_p rfl rfl rfl ?_
                                  refine O_p rfl rfl rfl ?_
                                  refine WO_nil ?_
                                  refine WL_nil ?_
                                  simp at h110
                                  refine RndC_norm (i + 1) (by refine ⟨by omega, ?_⟩; rw [hs, hg, rightTs, h110]; rfl) (by show _ < _; omega) ?_ rfl
                                  · rw [wrap_succ (by omega)]; (repeat (first | exact restr_nil | apply restr_cons rfl | apply restr_none rfl))
                              · skip
                                have hq : rightTs t.pairs d = true := by
                                  simp at h99
                                  rw [hs, List.drop_eq_nil_of_le (by omega)]; rfl
                                refine WL_exit ?_
                                refine RndC_exit ?_
                                refine Blk_exit (?_ : WL _ _ _ _ _)
                                refine WL_seq ?_
                                apply WL_prune
                                · (repeat (first | exact restr_nil | apply restr_cons rfl | apply restr_none rfl))
                                refine WL_seq ?_
                                refine WL_seq ?_
                                refine WL_reg ?_
                                refine O_p rfl rfl rfl ?_
                                refine WO_nil ?_
                                refine WL_seq ?_
                                apply WL_prune
                                · (repeat (first | exact restr_nil | apply restr_cons rfl | apply restr_none rfl))
                                refine WL_block ?_
                                apply WL_forc (α := Nat) (fun i => [(7, .int .i64 (i : Nat))]) (fun i => i ≤ t.funs.length ∧ rightTs t.funs d = rightTs (t.funs.drop i) d) (fun i => t.funs.length - i) (0) (he := ?he) (hP := ?hP) (hk := ?hk) (round := ?round)
                                case he =>
                                  (repeat (first | exact restr_nil | apply restr_cons rfl | apply restr_none rfl))
                                case hP =>
                                  exact ⟨by omega, rfl⟩
                                case hk =>
                                  show t.funs.length - 0 < n; omega
                                case round =>
                                  rintro i ⟨hi, hs⟩
                                  dsimp only [List.cons_append, List.nil_append] at *
                                  refine WL_seq ?_
                                  refine WL_seq ?_
                                  refine WL_reg ?_
                                  refine O_p rfl rfl rfl ?_
                                  refine O_p rfl rfl rfl ?_
                                  refine O_h rfl rfl rfl rfl ?_
                                  refine O_h rfl rfl rfl rfl ?_
                                  refine O_p rfl rfl rfl ?_
                                  refine WO_nil ?_
                                  refine WL_seq ?_
                                  apply WL_prune
                                  · (repeat (first | exact restr_nil | apply restr_cons rfl | apply restr_none rfl))
                                  refine WL_cond rfl (fun h115 => ?_) (fun h115 => ?_)
                                  · skip
                                    simp at h115
                                    obtain ⟨x, hx⟩ : ∃ x, (t.funs)[i]? = some x := ⟨_, List.getElem?_eq_getElem (by omega)⟩
                                    have hmx := List.mem_of_getElem? hx
                                    have hsx := szT_funs hmx
                                    have hg := drop_of hx
                                    refine WL_skip ?_
                                    refine WL_seq ?_
                                    apply WL_prune
                                    · (repeat (first | exact restr_nil | apply restr_cons rfl | apply restr_none rfl))
                                    refine WL_seq ?_
                                    refine WL_block ?_
                                    refine WL_seq ?_
                                    refine WL_reg ?_
                                    refine O_p rfl rfl rfl ?_
                                    refine O_h rfl rfl rfl rfl ?_
                                    refine O_p rfl rfl rfl ?_
                                    refine O_ia rfl rfl (Int.natCast_nonneg _) (encT_get (i := (i : Nat)) hx) (encT_flat _) rfl ?_
                                    refine O_h rfl rfl rfl rfl ?_
                                    refine O_p rfl rfl rfl ?_
                                    refine O_p rfl rfl rfl ?_
                                    refine O_c 33 rfl rfl (callA_of rfl (by rw [hl1]; exact ih x d (by omega) (w7 x hmx) (by omega))) ?_
                                    refine O_p rfl rfl rfl ?_
                                    refine WO_nil ?_
                                    refine WL_seq ?_
                                    apply WL_prune
                                    · (repeat (first | exact restr_nil | apply restr_cons rfl | apply restr_none rfl))
                                    refine WL_cond rfl (fun h126 => ?_) (fun h126 => ?_)
                                    · skip
                                      have hr : rightT t (d + 1) = false := by
                                        simp at h126
                                        rw [rightT_succ, hs, hg]; simp [rightTs, h126]
                                      refine WL_seq ?_
                                      refine WL_reg ?_
                                      refine O_p rfl rfl rfl ?_
                                      refine WO_nil ?_
                                      refine WL_ret ?_
                                      refine Blk_ret ?_
                                      refine RndC_ret ?_
                                      refine Blk_ret ?_
                                      exact ⟨_, rfl, _, rfl, by rw [hr]⟩
                                    · skip
                                      refine WL_skip ?_
                                      refine WL_nil ?_
                                      refine Blk_norm (?_ : WL _ _ _ _ _)
                                      refine WL_seq ?_
                                      apply WL_prune
                                      · (repeat (first | exact restr_nil | apply restr_cons rfl | apply restr_none rfl))
                                      refine WL_reg ?_
                                      refine O_p rfl rfl rfl ?_
                                      refine O_p rfl rfl rfl ?_
                                      refine O_p rfl rfl rfl ?_
                                      refine WO_nil ?_
                                      refine WL_nil ?_
                                      simp at h126
                                      refine RndC_norm (i + 1) (by refine ⟨by omega, ?_⟩; rw [hs, hg, rightTs, h126]; rfl) (by show _ < _; omega) ?_ rfl
                                      · rw [wrap_succ (by omega)]; (repeat (first | exact restr_nil | apply restr_cons rfl | apply restr_none rfl))
                                  · skip
                                    have hr : rightT t (d + 1) = true := by
                                      simp at h115
                                      rw [rightT_succ, hok, hq, hs, List.drop_eq_nil_of_le (by omega)]; rfl
                                    refine WL_exit ?_
                                    refine RndC_exit ?_
                                    refine Blk_exit (?_ : WL _ _ _ _ _)
                                    refine WL_seq ?_
                                    apply WL_prune
                                    · (repeat (first | exact restr_nil | apply restr_cons rfl | apply restr_none rfl))
                                    refine WL_seq ?_
                                    refine WL_reg ?_
                                    refine O_p rfl rfl rfl ?_
                                    refine WO_nil ?_
                                    refine WL_ret ?_
                                    exact ⟨_, rfl, _, rfl, by rw [hr]⟩

theorem index_c (n : Nat) (l : List Ty) (b : Bool) (f : FuncId) (caps : List AVal) (p : Ty → Bool) (H : Heap) (hl : l.length < n) (hm : l.length < 9223372036854775808)
    (hf : ∀ x, x ∈ l → callA ⟨callF (tabOf tabL) n, n⟩ false f (vT x :: caps) H = some (.ok (.bool (p x)), H)) :
    callF (tabOf tabL) (n + 1) 50 [.lst (l.map encT) b, .fn f caps] H = some (.ok (.int .i64 (fidx p l 0)), H) := by
  refine callF_fin t50 ?_
  refine WL_seq ?_
  refine WL_reg ?_
  refine O_p rfl rfl rfl ?_
  refine WO_nil ?_
  refine WL_seq ?_
  apply WL_prune
  · (repeat (first | exact restr_nil | apply restr_cons rfl | apply restr_none rfl))
  refine WL_seq ?_
  refine WL_seq ?_
  refine WL_reg ?_
  refine O_p rfl rfl rfl ?_
  refine O_h rfl rfl rfl rfl ?_
  refine O_p rfl rfl rfl ?_
  refine WO_nil ?_
  refine WL_seq ?_
  apply WL_prune
  · (repeat (first | exact restr_nil | apply restr_cons rfl | apply restr_none rfl))
  refine WL_block ?_
  apply WL_forc (α := Nat) (fun i => [(8, .int .i64 (i : Nat))]) (fun i => i ≤ l.length ∧ fidx p l 0 = fidx p (l.drop i) i) (fun i => l.length - i) (0) (he := ?he) (hP := ?hP) (hk := ?hk) (round := ?round)
  case he =>
    (repeat (first | exact restr_nil | apply restr_cons rfl | apply restr_none rfl))
  case hP =>
    exact ⟨by omega, rfl⟩
  case hk =>
    show l.length - 0 < n; omega
  case round =>
    rintro i ⟨hi, hs⟩
    dsimp only [List.cons_append, List.nil_append] at *
    refine WL_seq ?_
    refine WL_reg ?_
    refine O_p rfl rfl rfl ?_
    refine WO_nil ?_
    refine WL_seq ?_
    apply WL_prune
    · (repeat (first | exact restr_nil | apply restr_cons rfl | apply restr_none rfl))
    refine WL_seq ?_
    refine WL_cond rfl (fun h9 => ?_) (fun h9 => ?_)
    · skip
      simp at h9
      obtain ⟨x, hx⟩ : ∃ x, (l)[i]? = some x := ⟨_, List.getElem?_eq_getElem (by omega)⟩
      have hmx := List.mem_of_getElem? hx
      have hg := drop_of hx
      refine WL_skip ?_
      refine WL_seq ?_
      apply WL_prune
      · (repeat (first | exact restr_nil | apply restr_cons rfl | apply restr_none rfl))
      refine WL_seq ?_
      refine WL_block ?_
      refine WL_seq ?_
      refine WL_reg ?_
      refine O_p rfl rfl rfl ?_
      refine O_p rfl rfl rfl ?_
      refine WO_nil ?_
      refine WL_seq ?_
      apply WL_prune
      · (repeat (first | exact restr_nil | apply restr_cons rfl | apply restr_none rfl))
      refine WL_seq ?_
      refine WL_reg ?_
      refine O_p rfl rfl rfl ?_
      refine O_p rfl rfl rfl ?_
      refine O_p rfl rfl rfl ?_
      refine O_ia rfl rfl (Int.natCast_nonneg _) (encT_get (i := (i : Nat)) hx) (encT_flat _) rfl ?_
      refine O_h rfl rfl rfl rfl ?_
      refine O_cv rfl rfl (hf x hmx) ?_
      refine WO_nil ?_
      refine WL_seq ?_
      apply WL_prune
      · (repeat (first | exact restr_nil | apply restr_cons rfl | apply restr_none rfl))
      refine WL_cond rfl (fun h16 => ?_) (fun h16 => ?_)
      · skip
        have hr : fidx p l 0 = i := by
          rw [hs, hg]; simp [fidx, h16]
        refine WL_seq ?_
        refine WL_reg ?_
        refine O_p rfl rfl rfl ?_
        refine O_p rfl rfl rfl ?_
        refine WO_nil ?_
        refine WL_ret ?_
        refine Blk_ret ?_
        refine RndC_ret ?_
        refine Blk_ret ?_
        exact ⟨_, rfl, by rw [hr]; rfl, rfl⟩
      · skip
        refine WL_skip ?_
        refine WL_nil ?_
        refine Blk_norm (?_ : WL _ _ _ _ _)
        refine WL_seq ?_
        apply WL_prune
        · (repeat (first | exact restr_nil | apply restr_cons rfl | apply restr_none rfl))
        refine WL_reg ?_
        refine O_p rfl rfl rfl ?_
        refine O_p rfl rfl rfl ?_
        refine WO_nil ?_
        refine WL_nil ?_
        refine RndC_norm (i + 1) (by refine ⟨by omega, ?_⟩; rw [hs, hg]; simp [fidx, h16]) (by show _ < _; omega) ?_ ?_
        · rw [wrap_succ (by omega)]; (repeat (first | exact restr_nil | apply restr_cons rfl | apply restr_none rfl))
        · exact trunc_id (Nat.le_refl _)
    · skip
      have hr : fidx p l 0 = -1 := by
        simp at h9
        rw [hs, List.drop_eq_nil_of_le (by omega)]; rfl
      refine WL_exit ?_
      refine RndC_exit ?_
      refine Blk_exit (?_ : WL _ _ _ _ _)
      refine WL_seq ?_
      apply WL_prune
      · (repeat (first | exact restr_nil | apply restr_cons rfl | apply restr_none rfl))
      refine WL_seq ?_
      refine WL_reg ?_
      refine O_p rfl rfl rfl ?_
      refine WO_nil ?_
      refine WL_ret ?_
      exact ⟨_, rfl, by rw [hr]; rfl, rfl⟩
theorem contains_c (n : Nat) (l : List Ty) (b : Bool) (f : FuncId) (caps : List AVal) (p : Ty → Bool) (H : Heap) (hl : l.length < n) (hm : l.length < 9223372036854775808) (hn : shutL H [.lst (l.map encT) b, .fn f caps] = none)
    (hf : ∀ x, x ∈ l → callA ⟨callF (tabOf tabL) n, n⟩ false f (vT x :: caps) H = some (.ok (.bool (p x)), H)) :
    callF (tabOf tabL) (n + 2) 43 [.lst (l.map encT) b, .fn f caps] H = some (.ok (.bool (l.any p)), H) := by
  refine callF_fin t43 ?_
  refine WL_seq ?_
  refine WL_reg ?_
  refine O_p rfl rfl rfl ?_
  refine WO_nil ?_
  refine WL_seq ?_
  apply WL_prune
  · (repeat (first | exact restr_nil | apply restr_cons rfl | apply restr_none rfl))
  refine WL_seq ?_
  refine WL_reg ?_
  refine O_p rfl rfl rfl ?_
  refine O_p rfl rfl rfl ?_
  refine O_c 50 rfl rfl (callA_h hn (index_c n l b f caps p H hl hm hf)) ?_
  refine O_p rfl rfl rfl ?_
  refine O_p rfl rfl rfl ?_
  refine WO_nil ?_
  refine WL_ret ?_
  exact ⟨_, rfl, by rw [← fidx_any p l 0]; rfl, rfl⟩
theorem right_c : ∀ (n : Nat) (t : Ty) (d : Nat), 10 * szT t < n → WfT t → d < 1000 → pcall (tabOf tabL) n 32 [vT t, .int .i64 (d : Nat)] = some (.ok (.bool (rightT t d)))
  | 0, t, d, h, _, _ => by omega
  | n + 1, t, d, h, hw, hd => by
    have hz := szT_pos t
    obtain ⟨n, rfl⟩ : ∃ m, n = m + 3 := ⟨n - 3, by omega⟩
    have ih := right_c n
    have hp := len_pairs t
    have hf := len_funs t
    cases hw with | mk w1 w2 w3 w4 w5 w6 w7 =>
    have hz1 := bv_ofInt0 w1.1 w1.2
    have hz2 := bv_ofInt0 w2.1 w2.2
    have hz3 := bv_ofInt0 w3.1 w3.2
    have inner : ∀ (e : Nat) (H : Heap) (x : Ty), d = e + 1 → (x ∈ t.pairs ∨ x ∈ t.funs) → H = [.cells (cT t), .cells [.int .i64 (d : Nat)]] → callA ⟨callF (tabOf tabL) (n + 1), n + 1⟩ false 42 [vT x, .ptr 1 0] H = some (.ok (.bool (!rightT x e)), H) := by
      rintro e H x rfl hx rfl
      have hxs : szT x < szT t := by rcases hx with hx | hx; exact szT_pairs hx; exact szT_funs hx
      have hxw : WfT x := by rcases hx with hx | hx; exact w6 x hx; exact w7 x hx
      have hl1 : IntKind.i64.wrap (((e + 1 : Nat) : Int) - 1) = (e : Int) := by rw [kw_i64_id (by omega) (by omega)]; omega
      refine callA_hc (H1 := [.cells (cT t), .cells [.int .i64 ((e + 1 : Nat) : Int)], .cells (cT x)]) rfl ?_ (by simp) rfl rfl rfl
      refine callF_fin t42 ?_
      refine WL_seq ?_
      refine WL_reg ?_
      refine O_n rfl rfl rfl ?_
      refine O_p rfl rfl rfl ?_
      refine WO_nil ?_
      refine WL_seq ?_
      apply WL_prune
      · (repeat (first | exact restr_nil | apply restr_cons rfl | apply restr_none rfl))
      refine WL_seq ?_
      refine WL_reg ?_
      refine O_h rfl rfl rfl rfl ?_
      refine O_h rfl rfl rfl rfl ?_
      refine O_p rfl rfl rfl ?_
      refine O_c 32 rfl rfl (callA_of rfl (by rw [hl1]; exact ih x e (by omega) hxw (by omega))) ?_
      refine O_p rfl rfl rfl ?_
      refine O_p rfl rfl rfl ?_
      refine WO_nil ?_
      refine WL_ret ?_
      exact ⟨_, rfl, rfl, rfl⟩
    refine pcall_fin t32 ?_
    refine WL_seq ?_
    refine WL_reg ?_
    refine O_n rfl rfl rfl ?_
    refine O_n rfl rfl rfl ?_
    refine O_p rfl rfl rfl ?_
    refine WO_nil ?_
    refine WL_seq ?_
    apply WL_prune
    · (repeat (first | exact restr_nil | apply restr_cons rfl | apply restr_none rfl))
    refine WL_seq ?_
    refine WL_reg ?_
    refine O_p rfl rfl rfl ?_
    refine O_p rfl rfl rfl ?_
    refine WO_nil ?_
    refine WL_seq ?_
    apply WL_prune
    · (repeat (first | exact restr_nil | apply restr_cons rfl | apply restr_none rfl))
    refine WL_seq ?_
    refine WL_block ?_
    refine WL_seq ?_
    refine WL_reg ?_
    refine O_h rfl rfl rfl rfl ?_
    refine O_p rfl rfl rfl ?_
    refine O_p rfl rfl rfl ?_
    apply O_or [_, _, _, _] rfl rfl (hT := ?hT15) (h := ?hR15)
    case hT15 =>
      intro hb10
      refine O_p rfl rfl rfl ?_
      refine O_h rfl rfl rfl rfl ?_
      refine O_p rfl rfl rfl ?_
      refine O_p rfl rfl rfl ?_
      exact WO_nil (WL_nil ⟨rfl, rfl, rfl⟩)
    case hR15 =>
      intro vs hvs
      obtain ⟨u11, u12, u13, u14, rfl⟩ := len4 hvs
      clear hvs; dsimp only [junk]
      refine O_p rfl rfl rfl ?_
      apply O_or [_, _, _] rfl rfl (hT := ?hT20) (h := ?hR20)
      case hT20 =>
        intro hb16
        refine O_p rfl rfl rfl ?_
        refine O_h rfl rfl rfl rfl ?_
        refine O_p rfl rfl rfl ?_
        exact WO_nil (WL_nil ⟨rfl, rfl, rfl⟩)
      case hR20 =>
        intro vs hvs
        obtain ⟨u17, u18, u19, rfl⟩ := len3 hvs
        clear hvs; dsimp only [junk]
        refine O_p rfl rfl rfl ?_
        apply O_or [_, _, _] rfl rfl (hT := ?hT25) (h := ?hR25)
        case hT25 =>
          intro hb21
          refine O_p rfl rfl rfl ?_
          refine O_h rfl rfl rfl rfl ?_
          refine O_p rfl rfl rfl ?_
          exact WO_nil (WL_nil ⟨rfl, rfl, rfl⟩)
        case hR25 =>
          intro vs hvs
          obtain ⟨u22, u23, u24, rfl⟩ := len3 hvs
          clear hvs; dsimp only [junk]
          refine O_p rfl rfl rfl ?_
          apply O_or [_, _, _] rfl rfl (hT := ?hT30) (h := ?hR30)
          case hT30 =>
            intro hb26
            refine O_p rfl rfl rfl ?_
            refine O_h rfl rfl rfl rfl ?_
            refine O_p rfl rfl rfl ?_
            exact WO_nil (WL_nil ⟨rfl, rfl, rfl⟩)
          case hR30 =>
            intro vs hvs
            obtain ⟨u27, u28, u29, rfl⟩ := len3 hvs
            clear hvs; dsimp only [junk]
            refine O_p rfl rfl rfl ?_
            apply O_or [_, _, _] rfl rfl (hT := ?hT35) (h := ?hR35)
            case hT35 =>
              intro hb31
              refine O_p rfl rfl rfl ?_
              refine O_h rfl rfl rfl rfl ?_
              refine O_p rfl rfl rfl ?_
              exact WO_nil (WL_nil ⟨rfl, rfl, rfl⟩)
            case hR35 =>
              intro vs hvs
              obtain ⟨u32, u33, u34, rfl⟩ := len3 hvs
              clear hvs; dsimp only [junk]
              refine O_p rfl rfl rfl ?_
              refine WO_nil ?_
              refine WL_seq ?_
              apply WL_prune
              · (repeat (first | exact restr_nil | apply restr_cons rfl | apply restr_none rfl))
              try clear u11 u12 u13 u14 u17 u18 u19 u22 u23 u24 u27 u28 u29 u32 u33 u34
              refine WL_cond rfl (fun h7 => ?_) (fun h7 => ?_)
              · skip
                have hr : rightT t d = false := by
                  cases d with
                  | zero => exact rightT_zero t
                  | succ d =>
                    rw [rightT_succ]
                    have : okT t = false := by
                      simp only [flat63 w1.1 w1.2] at h7
                      unfold okT; simp at h7 ⊢; omega
                    simp [this]
                refine WL_seq ?_
                refine WL_reg ?_
                refine O_p rfl rfl rfl ?_
                refine WO_nil ?_
                refine WL_ret ?_
                refine Blk_ret ?_
                exact ⟨_, rfl, _, rfl, by rw [hr]⟩
              · skip
                simp only [flat63 w1.1 w1.2] at h7
                simp at h7
                obtain ⟨d, rfl⟩ : ∃ e, d = e + 1 := ⟨d - 1, by omega⟩
                refine WL_seq ?_
                refine WL_reg ?_
                refine O_p rfl rfl rfl ?_
                refine O_h rfl rfl rfl rfl ?_
                refine O_p rfl rfl rfl ?_
                apply O_and [_, _, _, _, _, _, _, _, _] rfl rfl (hT := ?hT49) (h := ?hR49)
                case hT49 =>
                  intro hb39
                  refine O_p rfl rfl rfl ?_
                  refine O_h rfl rfl rfl rfl ?_
                  refine O_p rfl rfl rfl ?_
                  refine O_h rfl rfl rfl rfl ?_
                  refine O_p rfl rfl rfl ?_
                  refine O_p rfl rfl rfl ?_
                  refine O_h rfl rfl rfl rfl ?_
                  refine O_p rfl rfl rfl ?_
                  refine O_p rfl rfl rfl ?_
                  exact WO_nil (WL_nil ⟨rfl, rfl, rfl⟩)
                case hR49 =>
                  intro vs hvs
                  obtain ⟨u40, u41, u42, u43, u44, u45, u46, u47, u48, rfl⟩ := len9 hvs
                  clear hvs; dsimp only [junk]
                  refine O_p rfl rfl rfl ?_
                  refine WO_nil ?_
                  refine WL_seq ?_
                  apply WL_prune
                  · (repeat (first | exact restr_nil | apply restr_cons rfl | apply restr_none rfl))
                  try clear u40 u41 u42 u43 u44 u45 u46 u47 u48
                  refine WL_cond rfl (fun h36 => ?_) (fun h36 => ?_)
                  · skip
                    have hr : rightT t (d + 1) = false := by
                      rw [rightT_succ]
                      have : okT t = false := by
                        simp only [or3_zero w1 w2 w3] at h36
                        unfold okT; simp at h36 ⊢; intros; simp_all
                      simp [this]
                    refine WL_seq ?_
                    refine WL_reg ?_
                    refine O_p rfl rfl rfl ?_
                    refine WO_nil ?_
                    refine WL_ret ?_
                    refine Blk_ret ?_
                    exact ⟨_, rfl, _, rfl, by rw [hr]⟩
                  · skip
                    simp only [or3_zero w1 w2 w3] at h36
                    simp at h36
                    refine WL_seq ?_
                    refine WL_drawS (ops := [_, _, _, _, _, _, _, _, _]) rfl rfl ?_
                    refine O_p rfl rfl rfl ?_
                    refine O_h rfl rfl rfl rfl ?_
                    refine O_h rfl rfl rfl rfl ?_
                    refine O_p rfl rfl rfl ?_
                    refine O_p rfl rfl rfl ?_
                    refine O_h rfl rfl rfl rfl ?_
                    refine O_p (v := .int .i64 (pcnt t.pair)) rfl rfl (ixa_pcnt (by omega) (by omega)) ?_
                    refine O_p rfl rfl rfl ?_
                    refine O_p rfl rfl rfl ?_
                    refine WO_nil (WL_nil ⟨rfl, ?_⟩)
                    refine WL_seq ?_
                    apply WL_prune
                    · (repeat (first | exact restr_nil | apply restr_cons rfl | apply restr_none rfl))
                    refine WL_cond rfl (fun h50 => ?_) (fun h50 => ?_)
                    · skip
                      have hr : rightT t (d + 1) = false := by
                        rw [rightT_succ]
                        have : okT t = false := by
                          unfold okT; simp at h50 ⊢; intros; omega
                        simp [this]
                      refine WL_seq ?_
                      refine WL_reg ?_
                      refine O_p rfl rfl rfl ?_
                      refine WO_nil ?_
                      refine WL_ret ?_
                      refine Blk_ret ?_
                      exact ⟨_, rfl, _, rfl, by rw [hr]⟩
                    · skip
                      refine WL_seq ?_
                      refine WL_reg ?_
                      refine O_p rfl rfl rfl ?_
                      refine O_h rfl rfl rfl rfl ?_
                      refine O_p rfl rfl rfl ?_
                      refine O_p rfl rfl rfl ?_
                      apply O_and [_, _, _, _, _, _, _, _, _, _] rfl rfl (hT := ?hT74) (h := ?hR74)
                      case hT74 =>
                        intro hb63
                        refine O_p rfl rfl rfl ?_
                        refine O_h rfl rfl rfl rfl ?_
                        refine O_h rfl rfl rfl rfl ?_
                        refine O_p rfl rfl rfl ?_
                        refine O_p rfl rfl rfl ?_
                        apply O_or [_, _, _, _] rfl rfl (hT := ?hT73) (h := ?hR73)
                        case hT73 =>
                          intro hb68
                          refine O_p rfl rfl rfl ?_
                          refine O_h rfl rfl rfl rfl ?_
                          refine O_h rfl rfl rfl rfl ?_
                          refine O_p rfl rfl rfl ?_
                          exact WO_nil (WL_nil ⟨rfl, rfl, rfl⟩)
                        case hR73 =>
                          intro vs hvs
                          obtain ⟨u69, u70, u71, u72, rfl⟩ := len4 hvs
                          clear hvs; dsimp only [junk]
                          exact WO_nil (WL_nil ⟨rfl, rfl, rfl⟩)
                      case hR74 =>
                        intro vs hvs
                        obtain ⟨u64, u65, u66, u67, u68, u69, u70, u71, u72, u73, rfl⟩ := len10 hvs
                        clear hvs; dsimp only [junk]
                        refine O_p rfl rfl rfl ?_
                        apply O_or [_, _, _, _, _, _, _, _, _] rfl rfl (hT := ?hT85) (h := ?hR85)
                        case hT85 =>
                          intro hb75
                          refine O_p rfl rfl rfl ?_
                          refine O_h rfl rfl rfl rfl ?_
                          refine O_p rfl rfl rfl ?_
                          refine O_p rfl rfl rfl ?_
                          apply O_and [_, _, _, _] rfl rfl (hT := ?hT84) (h := ?hR84)
                          case hT84 =>
                            intro hb79
                            refine O_p rfl rfl rfl ?_
                            refine O_h rfl rfl rfl rfl ?_
                            refine O_h rfl rfl rfl rfl ?_
                            refine O_p rfl rfl rfl ?_
                            exact WO_nil (WL_nil ⟨rfl, rfl, rfl⟩)
                          case hR84 =>
                            intro vs hvs
                            obtain ⟨u80, u81, u82, u83, rfl⟩ := len4 hvs
                            clear hvs; dsimp only [junk]
                            exact WO_nil (WL_nil ⟨rfl, rfl, rfl⟩)
                        case hR85 =>
                          intro vs hvs
                          obtain ⟨u76, u77, u78, u79, u80, u81, u82, u83, u84, rfl⟩ := len9 hvs
                          clear hvs; dsimp only [junk]
                          refine O_p rfl rfl rfl ?_
                          refine WO_nil ?_
                          refine WL_seq ?_
                          apply WL_prune
                          · (repeat (first | exact restr_nil | apply restr_cons rfl | apply restr_none rfl))
                          try clear u69 u70 u71 u72 u64 u65 u66 u67 u68 u69 u70 u71 u72 u73 u80 u81 u82 u83 u76 u77 u78 u79 u80 u81 u82 u83 u84
                          refine WL_cond rfl (fun h59 => ?_) (fun h59 => ?_)
                          · skip
                            have hr : rightT t (d + 1) = false := by
                              rw [rightT_succ]
                              have : okT t = false := by
                                cases q : okT t with
                                | false => rfl
                                | true =>
                                  unfold okT at q; simp at q h59
                                  obtain ⟨⟨q1, q2⟩, q3⟩ := q
                                  by_cases hf1 : t.fn = 1 <;> simp [hf1, q2] at q3 h59 <;> first | omega | simp_all
                              simp [this]
                            refine WL_seq ?_
                            refine WL_reg ?_
                            refine O_p rfl rfl rfl ?_
                            refine WO_nil ?_
                            refine WL_ret ?_
                            refine Blk_ret ?_
                            exact ⟨_, rfl, _, rfl, by rw [hr]⟩
                          · skip
                            have hok : okT t = true := by
                              unfold okT; simp at h59 h50 ⊢
                              refine ⟨⟨⟨⟨⟨⟨⟨⟨by omega, by omega⟩, by omega⟩, by omega⟩, by omega⟩, by omega⟩, ?_⟩, by omega⟩, ?_⟩
                              · cases ha : t.all <;> simp [ha] at h36 ⊢; exact h36
                              · obtain ⟨q1, q2⟩ := h59
                                by_cases hf1 : t.fn = 1 <;> simp [hf1] at q1 q2 ⊢ <;> first | omega | exact q2
                            have hr : rightT t (d + 1) = (!(t.pairs.any fun x => !rightT x d) && !(t.funs.any fun x => !rightT x d)) := by rw [rightT_succ, hok, rightTs_any, rightTs_any]; rfl
                            have hH : [ABlock.cells (cT t), ABlock.cells [AVal.int .i64 ((d + 1 : Nat) : Int)]] = [ABlock.cells (cT t), ABlock.cells [AVal.int .i64 ((d + 1 : Nat) : Int)]] := rfl
                            refine WL_skip ?_
                            refine WL_nil ?_
                            refine Blk_norm (?_ : WL _ _ _ _ _)
                            refine WL_seq ?_
                            apply WL_prune
                            · (repeat (first | exact restr_nil | apply restr_cons rfl | apply restr_none rfl))
                            refine WL_seq ?_
                            refine WL_reg ?_
                            refine O_p rfl rfl rfl ?_
                            refine O_h rfl rfl rfl rfl ?_
                            refine O_p rfl rfl rfl ?_
                            refine O_c 43 rfl rfl (callA_h rfl (contains_c (n + 1) t.pairs false _ _ (fun x => !rightT x d) _ (by omega) w4 rfl (fun x hx => inner d _ x rfl (.inl hx) rfl))) ?_
                            refine O_p rfl rfl rfl ?_
                            refine O_p rfl rfl rfl ?_
                            apply O_and [_, _, _, _, _] rfl rfl (hT := ?hT97) (h := ?hR97)
                            case hT97 =>
                              intro hb91
                              refine O_p rfl rfl rfl ?_
                              refine O_h rfl rfl rfl rfl ?_
                              refine O_p rfl rfl rfl ?_
                              refine O_c 43 rfl rfl (callA_h rfl (contains_c (n + 1) t.funs false _ _ (fun x => !rightT x d) _ (by omega) w5 rfl (fun x hx => inner d _ x rfl (.inr hx) rfl))) ?_
                              refine O_p rfl rfl rfl ?_
                              exact WO_nil (WL_nil ⟨rfl, rfl, rfl⟩)
                            case hR97 =>
                              intro vs hvs
                              obtain ⟨u92, u93, u94, u95, u96, rfl⟩ := len5 hvs
                              clear hvs; dsimp only [junk]
                              refine O_p rfl rfl rfl ?_
                              refine WO_nil ?_
                              refine WL_ret ?_
                              exact ⟨_, rfl, _, rfl, by rw [hr]⟩

theorem same_ref : ∀ (n : Nat) (a b : Ty), szT a < n → WfT a → pcall (tabOf tabL) n 13 [vT a, vT b] = some (.ok (.bool (sameT a b)))
  | 0, a, b, h, _ => by omega
  | n + 1, a, b, h, hw => by
    have ih := same_ref n
    have hp := len_pairs a
    have hf := len_funs a
    cases hw with | mk w1 w2 w3 w4 w5 w6 w7 =>
    refine pcall_fin t13 ?_
    refine WL_seq ?_
    refine WL_reg ?_
    refine O_n rfl rfl rfl ?_
    refine O_n rfl rfl rfl ?_
    refine O_p rfl rfl rfl ?_
    refine WO_nil ?_
    refine WL_seq ?_
    apply WL_prune
    · (repeat (first | exact restr_nil | apply restr_cons rfl | apply restr_none rfl))
    refine WL_seq ?_
    refine WL_seq ?_
    refine WL_reg ?_
    refine O_p rfl rfl rfl ?_
    refine O_h rfl rfl rfl rfl ?_
    refine O_p rfl rfl rfl ?_
    refine O_h rfl rfl rfl rfl ?_
    refine O_p rfl rfl rfl ?_
    refine O_p rfl rfl rfl ?_
    apply O_or [_, _, _, _, _] rfl rfl (hT := ?hT18) (h := ?hR18)
    case hT18 =>
      intro hb12
      refine O_p rfl rfl rfl ?_
      refine O_h rfl rfl rfl rfl ?_
      refine O_p rfl rfl rfl ?_
      refine O_h rfl rfl rfl rfl ?_
      refine O_p rfl rfl rfl ?_
      exact WO_nil (WL_nil ⟨rfl, rfl, rfl⟩)
    case hR18 =>
      intro vs hvs
      obtain ⟨u13, u14, u15, u16, u17, rfl⟩ := len5 hvs
      clear hvs; dsimp only [junk]
      refine O_p rfl rfl rfl ?_
      apply O_or [_, _, _, _, _] rfl rfl (hT := ?hT25) (h := ?hR25)
      case hT25 =>
        intro hb19
        refine O_p rfl rfl rfl ?_
        refine O_h rfl rfl rfl rfl ?_
        refine O_p rfl rfl rfl ?_
        refine O_h rfl rfl rfl rfl ?_
        refine O_p rfl rfl rfl ?_
        exact WO_nil (WL_nil ⟨rfl, rfl, rfl⟩)
      case hR25 =>
        intro vs hvs
        obtain ⟨u20, u21, u22, u23, u24, rfl⟩ := len5 hvs
        clear hvs; dsimp only [junk]
        refine O_p rfl rfl rfl ?_
        apply O_or [_, _, _, _, _] rfl rfl (hT := ?hT32) (h := ?hR32)
        case hT32 =>
          intro hb26
          refine O_p rfl rfl rfl ?_
          refine O_h rfl rfl rfl rfl ?_
          refine O_p rfl rfl rfl ?_
          refine O_h rfl rfl rfl rfl ?_
          refine O_p rfl rfl rfl ?_
          exact WO_nil (WL_nil ⟨rfl, rfl, rfl⟩)
        case hR32 =>
          intro vs hvs
          obtain ⟨u27, u28, u29, u30, u31, rfl⟩ := len5 hvs
          clear hvs; dsimp only [junk]
          refine O_p rfl rfl rfl ?_
          apply O_or [_, _, _, _, _, _, _] rfl rfl (hT := ?hT41) (h := ?hR41)
          case hT41 =>
            intro hb33
            refine O_p rfl rfl rfl ?_
            refine O_h rfl rfl rfl rfl ?_
            refine O_h rfl rfl rfl rfl ?_
            refine O_p rfl rfl rfl ?_
            refine O_h rfl rfl rfl rfl ?_
            refine O_h rfl rfl rfl rfl ?_
            refine O_p rfl rfl rfl ?_
            exact WO_nil (WL_nil ⟨rfl, rfl, rfl⟩)
          case hR41 =>
            intro vs hvs
            obtain ⟨u34, u35, u36, u37, u38, u39, u40, rfl⟩ := len7 hvs
            clear hvs; dsimp only [junk]
            refine O_p rfl rfl rfl ?_
            apply O_or [_, _, _, _, _, _, _] rfl rfl (hT := ?hT50) (h := ?hR50)
            case hT50 =>
              intro hb42
              refine O_p rfl rfl rfl ?_
              refine O_h rfl rfl rfl rfl ?_
              refine O_h rfl rfl rfl rfl ?_
              refine O_p rfl rfl rfl ?_
              refine O_h rfl rfl rfl rfl ?_
              refine O_h rfl rfl rfl rfl ?_
              refine O_p rfl rfl rfl ?_
              exact WO_nil (WL_nil ⟨rfl, rfl, rfl⟩)
            case hR50 =>
              intro vs hvs
              obtain ⟨u43, u44, u45, u46, u47, u48, u49, rfl⟩ := len7 hvs
              clear hvs; dsimp only [junk]
              refine WO_nil ?_
              refine WL_seq ?_
              apply WL_prune
              · (repeat (first | exact restr_nil | apply restr_cons rfl | apply restr_none rfl))
              try clear u13 u14 u15 u16 u17 u20 u21 u22 u23 u24 u27 u28 u29 u30 u31 u34 u35 u36 u37 u38 u39 u40 u43 u44 u45 u46 u47 u48 u49
              refine WL_cond rfl (fun h50 => ?_) (fun h50 => ?_)
              · skip
                have hr : sameT a b = false := by
                  cases q : sameT a b with
                  | false => rfl
                  | true =>
                    obtain ⟨q1, q2, q3, q4, q5, q6⟩ := sameT_true q
                    simp [q1, q2, q3, q4, sameTs_len q5, sameTs_len q6] at h50
                refine WL_seq ?_
                refine WL_reg ?_
                refine O_p rfl rfl rfl ?_
                refine WO_nil ?_
                refine WL_ret ?_
                exact ⟨_, rfl, _, rfl, by rw [hr]⟩
              · skip
                simp at h50
                obtain ⟨⟨⟨⟨⟨k1, k2⟩, k3⟩, k4⟩, k5⟩, k6⟩ := h50
                refine WL_skip ?_
                refine WL_seq ?_
                apply WL_prune
                · (repeat (first | exact restr_nil | apply restr_cons rfl | apply restr_none rfl))
                refine WL_seq ?_
                refine WL_seq ?_
                refine WL_reg ?_
                refine O_p rfl rfl rfl ?_
                refine WO_nil ?_
                refine WL_seq ?_
                apply WL_prune
                · (repeat (first | exact restr_nil | apply restr_cons rfl | apply restr_none rfl))
                refine WL_block ?_
                apply WL_forc (α := Nat) (fun i => [(5, .int .i64 (i : Int))]) (fun i => i ≤ a.pairs.length ∧ sameTs a.pairs b.pairs = sameTs (a.pairs.drop i) (b.pairs.drop i)) (fun i => a.pairs.length - i) (0) (he := ?he) (hP := ?hP) (hk := ?hk) (round := ?round)
                case he =>
                  (repeat (first | exact restr_nil | apply restr_cons rfl | apply restr_none rfl))
                case hP =>
                  exact ⟨by omega, rfl⟩
                case hk =>
                  show a.pairs.length - 0 < n; omega
                case round =>
                  rintro i ⟨hi, hs⟩
                  dsimp only [List.cons_append, List.nil_append] at *
                  refine WL_seq ?_
                  refine WL_seq ?_
                  refine WL_reg ?_
                  refine O_p rfl rfl rfl ?_
                  refine O_p rfl rfl rfl ?_
                  refine O_h rfl rfl rfl rfl ?_
                  refine O_h rfl rfl rfl rfl ?_
                  refine O_p rfl rfl rfl ?_
                  refine WO_nil ?_
                  refine WL_seq ?_
                  apply WL_prune
                  · (repeat (first | exact restr_nil | apply restr_cons rfl | apply restr_none rfl))
                  refine WL_cond rfl (fun h55 => ?_) (fun h55 => ?_)
                  · skip
                    simp at h55
                    obtain ⟨x, hx⟩ : ∃ x, (a.pairs)[i]? = some x := ⟨_, List.getElem?_eq_getElem (by omega)⟩
                    have hmx := List.mem_of_getElem? hx
                    have hsx := szT_pairs hmx
                    obtain ⟨y, hy⟩ : ∃ y, (b.pairs)[i]? = some y := ⟨_, List.getElem?_eq_getElem (by omega)⟩
                    have hmy := List.mem_of_getElem? hy
                    refine WL_skip ?_
                    refine WL_seq ?_
                    apply WL_prune
                    · (repeat (first | exact restr_nil | apply restr_cons rfl | apply restr_none rfl))
                    refine WL_seq ?_
                    refine WL_block ?_
                    refine WL_seq ?_
                    refine WL_drawS (ops := [_, _, _, _, _, _, _, _, _, _, _, _]) rfl rfl ?_
                    refine O_p rfl rfl rfl ?_
                    refine O_h rfl rfl rfl rfl ?_
                    refine O_p rfl rfl rfl ?_
                    refine O_ia rfl rfl (Int.natCast_nonneg _) (encT_get (i := (i : Nat)) hx) (encT_flat _) rfl ?_
                    refine O_h rfl rfl rfl rfl ?_
                    refine O_p rfl rfl rfl ?_
                    refine O_h rfl rfl rfl rfl ?_
                    refine O_p rfl rfl rfl ?_
                    refine O_ia rfl rfl (Int.natCast_nonneg _) (encT_get (i := (i : Nat)) hy) (encT_flat _) rfl ?_
                    refine O_h rfl rfl rfl rfl ?_
                    refine O_c 13 rfl rfl (callA_of rfl (ih x y (by omega) (w6 x hmx))) ?_
                    refine O_p rfl rfl rfl ?_
                    refine WO_nil (WL_nil ⟨rfl, ?_⟩)
                    refine WL_seq ?_
                    apply WL_prune
                    · (repeat (first | exact restr_nil | apply restr_cons rfl | apply restr_none rfl))
                    refine WL_cond rfl (fun h69 => ?_) (fun h69 => ?_)
                    · skip
                      have hr : sameT a b = false := by
                        simp at h69
                        rw [sameT_eq, hs, drop_of hx, drop_of hy]; simp [sameTs, h69]
                      refine WL_seq ?_
                      refine WL_reg ?_
                      refine O_p rfl rfl rfl ?_
                      refine WO_nil ?_
                      refine WL_ret ?_
                      refine Blk_ret ?_
                      refine RndC_ret ?_
                      refine Blk_ret ?_
                      exact ⟨_, rfl, _, rfl, by rw [hr]⟩
                    · skip
                      refine WL_skip ?_
                      refine WL_nil ?_
                      refine Blk_norm (?_ : WL _ _ _ _ _)
                      refine WL_seq ?_
                      apply WL_prune
                      · (repeat (first | exact restr_nil | apply restr_cons rfl | apply restr_none rfl))
                      refine WL_reg ?_
                      refine O_p rfl rfl rfl ?_
                      refine O_p rfl rfl rfl ?_
                      refine O_p rfl rfl rfl ?_
                      refine WO_nil ?_
                      refine WL_nil ?_
                      simp at h69
                      refine RndC_norm (i + 1) (by refine ⟨by omega, ?_⟩; rw [hs, drop_of hx, drop_of hy, sameTs, h69]; rfl) (by show _ < _; omega) ?_ rfl
                      · rw [wrap_succ (by omega)]; (repeat (first | exact restr_nil | apply restr_cons rfl | apply restr_none rfl))
                  · skip
                    have hq : sameTs a.pairs b.pairs = true := by
                      simp at h55
                      rw [hs, List.drop_eq_nil_of_le (by omega), List.drop_eq_nil_of_le (by omega)]; rfl
                    refine WL_exit ?_
                    refine RndC_exit ?_
                    refine Blk_exit (?_ : WL _ _ _ _ _)
                    refine WL_seq ?_
                    apply WL_prune
                    · (repeat (first | exact restr_nil | apply restr_cons rfl | apply restr_none rfl))
                    refine WL_seq ?_
                    refine WL_seq ?_
                    refine WL_reg ?_
                    refine O_p rfl rfl rfl ?_
                    refine WO_nil ?_
                    refine WL_seq ?_
                    apply WL_prune
                    · (repeat (first | exact restr_nil | apply restr_cons rfl | apply restr_none rfl))
                    refine WL_block ?_
                    apply WL_forc (α := Nat) (fun i => [(6, .int .i64 (i : Int))]) (fun i => i ≤ a.funs.length ∧ sameTs a.funs b.funs = sameTs (a.funs.drop i) (b.funs.drop i)) (fun i => a.funs.length - i) (0) (he := ?he) (hP := ?hP) (hk := ?hk) (round := ?round)
                    case he =>
                      (repeat (first | exact restr_nil | apply restr_cons rfl | apply restr_none rfl))
                    case hP =>
                      exact ⟨by omega, rfl⟩
                    case hk =>
                      show a.funs.length - 0 < n; omega
                    case round =>
                      rintro i ⟨hi, hs⟩
                      dsimp only [List.cons_append, List.nil_append] at *
                      refine WL_seq ?_
                      refine WL_seq ?_
                      refine WL_reg ?_
                      refine O_p rfl rfl rfl ?_
                      refine O_p rfl rfl rfl ?_
                      refine O_h rfl rfl rfl rfl ?_
                      refine O_h rfl rfl rfl rfl ?_
                      refine O_p rfl rfl rfl ?_
                      refine WO_nil ?_
                      refine WL_seq ?_
                      apply WL_prune
                      · (repeat (first | exact restr_nil | apply restr_cons rfl | apply restr_none rfl))
                      refine WL_cond rfl (fun h74 => ?_) (fun h74 => ?_)
                      · skip
                        simp at h74
                        obtain ⟨x, hx⟩ : ∃ x, (a.funs)[i]? = some x := ⟨_, List.getElem?_eq_getElem (by omega)⟩
                        have hmx := List.mem_of_getElem? hx
                        have hsx := szT_funs hmx
                        obtain ⟨y, hy⟩ : ∃ y, (b.funs)[i]? = some y := ⟨_, List.getElem?_eq_getElem (by omega)⟩
                        have hmy := List.mem_of_getElem? hy
                        refine WL_skip ?_
                        refine WL_seq ?_
                        apply WL_prune
                        · (repeat (first | exact restr_nil | apply restr_cons rfl | apply restr_none rfl))
                        refine WL_seq ?_
                        refine WL_block ?_
                        refine WL_seq ?_
                        refine WL_drawS (ops := [_, _, _, _, _, _, _, _, _, _, _, _]) rfl rfl ?_
                        refine O_p rfl rfl rfl ?_
                        refine O_h rfl rfl rfl rfl ?_
                        refine O_p rfl rfl rfl ?_
                        refine O_ia rfl rfl (Int.natCast_nonneg _) (encT_get (i := (i : Nat)) hx) (encT_flat _) rfl ?_
                        refine O_h rfl rfl rfl rfl ?_
                        refine O_p rfl rfl rfl ?_
                        refine O_h rfl rfl rfl rfl ?_
                        refine O_p rfl rfl rfl ?_
                        refine O_ia rfl rfl (Int.natCast_nonneg _) (encT_get (i := (i : Nat)) hy) (encT_flat _) rfl ?_
                        refine O_h rfl rfl rfl rfl ?_
                        refine O_c 13 rfl rfl (callA_of rfl (ih x y (by omega) (w7 x hmx))) ?_
                        refine O_p rfl rfl rfl ?_
                        refine WO_nil (WL_nil ⟨rfl, ?_⟩)
                        refine WL_seq ?_
                        apply WL_prune
                        · (repeat (first | exact restr_nil | apply restr_cons rfl | apply restr_none rfl))
                        refine WL_cond rfl (fun h88 => ?_) (fun h88 => ?_)
                        · skip
                          have hr : sameT a b = false := by
                            simp at h88
                            rw [sameT_eq, hs, drop_of hx, drop_of hy]; simp [sameTs, h88]
                          refine WL_seq ?_
                          refine WL_reg ?_
                          refine O_p rfl rfl rfl ?_
                          refine WO_nil ?_
                          refine WL_ret ?_
                          refine Blk_ret ?_
                          refine RndC_ret ?_
                          refine Blk_ret ?_
                          exact ⟨_, rfl, _, rfl, by rw [hr]⟩
                        · skip
                          refine WL_skip ?_
                          refine WL_nil ?_
                          refine Blk_norm (?_ : WL _ _ _ _ _)
                          refine WL_seq ?_
                          apply WL_prune
                          · (repeat (first | exact restr_nil | apply restr_cons rfl | apply restr_none rfl))
                          refine WL_reg ?_
                          refine O_p rfl rfl rfl ?_
                          refine O_p rfl rfl rfl ?_
                          refine O_p rfl rfl rfl ?_
                          refine WO_nil ?_
                          refine WL_nil ?_
                          simp at h88
                          refine RndC_norm (i + 1) (by refine ⟨by omega, ?_⟩; rw [hs, drop_of hx, drop_of hy, sameTs, h88]; rfl) (by show _ < _; omega) ?_ rfl
                          · rw [wrap_succ (by omega)]; (repeat (first | exact restr_nil | apply restr_cons rfl | apply restr_none rfl))
                      · skip
                        have hr : sameT a b = true := by
                          simp at h74
                          rw [sameT_eq, hq, hs, List.drop_eq_nil_of_le (by omega), List.drop_eq_nil_of_le (by omega)]; simp [k1, k2, k3, k4, sameTs]
                        refine WL_exit ?_
                        refine RndC_exit ?_
                        refine Blk_exit (?_ : WL _ _ _ _ _)
                        refine WL_seq ?_
                        apply WL_prune
                        · (repeat (first | exact restr_nil | apply restr_cons rfl | apply restr_none rfl))
                        refine WL_seq ?_
                        refine WL_reg ?_
                        refine O_p rfl rfl rfl ?_
                        refine WO_nil ?_
                        refine WL_ret ?_
                        exact ⟨_, rfl, _, rfl, by rw [hr]⟩
theorem equal_c (n : Nat) (l m : List Ty) (f : FuncId) (hl : l.length < n) (hm : l.length < 9223372036854775808)
    (hf : ∀ x, x ∈ l → ∀ y, pcall (tabOf tabL) n f [vT x, vT y] = some (.ok (.bool (sameT x y)))) :
    pcall (tabOf tabL) (n + 1) 34 [.lst (l.map encT) false, .lst (m.map encT) false, .fn f []] = some (.ok (.bool (sameTs l m))) := by
  refine pcall_fin t34 ?_
  refine WL_seq ?_
  refine WL_reg ?_
  refine O_p rfl rfl rfl ?_
  refine WO_nil ?_
  refine WL_seq ?_
  apply WL_prune
  · (repeat (first | exact restr_nil | apply restr_cons rfl | apply restr_none rfl))
  refine WL_seq ?_
  refine WL_seq ?_
  refine WL_reg ?_
  refine O_p rfl rfl rfl ?_
  refine O_h rfl rfl rfl rfl ?_
  refine O_p rfl rfl rfl ?_
  refine O_h rfl rfl rfl rfl ?_
  refine O_p rfl rfl rfl ?_
  refine WO_nil ?_
  refine WL_seq ?_
  apply WL_prune
  · (repeat (first | exact restr_nil | apply restr_cons rfl | apply restr_none rfl))
  refine WL_cond rfl (fun h14 => ?_) (fun h14 => ?_)
  · skip
    have hr : sameTs l m = false := by
      cases q : sameTs l m with
      | false => rfl
      | true => simp [sameTs_len q] at h14
    refine WL_seq ?_
    refine WL_reg ?_
    refine O_p rfl rfl rfl ?_
    refine WO_nil ?_
    refine WL_ret ?_
    exact ⟨_, rfl, _, rfl, by rw [hr]⟩
  · skip
    simp at h14
    refine WL_skip ?_
    refine WL_seq ?_
    apply WL_prune
    · (repeat (first | exact restr_nil | apply restr_cons rfl | apply restr_none rfl))
    refine WL_seq ?_
    refine WL_seq ?_
    refine WL_reg ?_
    refine O_p rfl rfl rfl ?_
    refine O_h rfl rfl rfl rfl ?_
    refine O_p rfl rfl rfl ?_
    refine WO_nil ?_
    refine WL_seq ?_
    apply WL_prune
    · (repeat (first | exact restr_nil | apply restr_cons rfl | apply restr_none rfl))
    refine WL_block ?_
    apply WL_forc (α := Nat) (fun i => [(17, .int .i64 (i : Nat))]) (fun i => i ≤ l.length ∧ sameTs l m = sameTs (l.drop i) (m.drop i)) (fun i => l.length - i) (0) (he := ?he) (hP := ?hP) (hk := ?hk) (round := ?round)
    case he =>
      (repeat (first | exact restr_nil | apply restr_cons rfl | apply restr_none rfl))
    case hP =>
      exact ⟨by omega, rfl⟩
    case hk =>
      show l.length - 0 < n; omega
    case round =>
      rintro i ⟨hi, hs⟩
      dsimp only [List.cons_append, List.nil_append] at *
      refine WL_seq ?_
      refine WL_reg ?_
      refine O_p rfl rfl rfl ?_
      refine WO_nil ?_
      refine WL_seq ?_
      apply WL_prune
      · (repeat (first | exact restr_nil | apply restr_cons rfl | apply restr_none rfl))
      refine WL_seq ?_
      refine WL_cond rfl (fun h18 => ?_) (fun h18 => ?_)
      · skip
        simp at h18
        obtain ⟨x, hx⟩ : ∃ x, (l)[i]? = some x := ⟨_, List.getElem?_eq_getElem (by omega)⟩
        have hmx := List.mem_of_getElem? hx
        obtain ⟨y, hy⟩ : ∃ y, (m)[i]? = some y := ⟨_, List.getElem?_eq_getElem (by omega)⟩
        have hmy := List.mem_of_getElem? hy
        refine WL_skip ?_
        refine WL_seq ?_
        apply WL_prune
        · (repeat (first | exact restr_nil | apply restr_cons rfl | apply restr_none rfl))
        refine WL_seq ?_
        refine WL_block ?_
        refine WL_seq ?_
        refine WL_reg ?_
        refine O_p rfl rfl rfl ?_
        refine O_ia rfl rfl (Int.natCast_nonneg _) (encT_get (i := (i : Nat)) hx) (encT_flat _) rfl ?_
        refine O_h rfl rfl rfl rfl ?_
        refine O_n rfl rfl rfl ?_
        refine O_p rfl rfl rfl ?_
        refine O_hn rfl rfl rfl rfl ?_
        refine WO_nil ?_
        refine WL_seq ?_
        apply WL_prune
        · (repeat (first | exact restr_nil | apply restr_cons rfl | apply restr_none rfl))
        refine WL_seq ?_
        refine WL_reg ?_
        refine O_p rfl rfl rfl ?_
        refine O_p rfl rfl rfl ?_
        refine O_ia rfl rfl (Int.natCast_nonneg _) (encT_get (i := (i : Nat)) hy) (encT_flat _) rfl ?_
        refine O_h rfl rfl rfl rfl ?_
        refine O_n rfl rfl rfl ?_
        refine O_hn rfl rfl rfl rfl ?_
        refine WO_nil ?_
        refine WL_seq ?_
        apply WL_prune
        · (repeat (first | exact restr_nil | apply restr_cons rfl | apply restr_none rfl))
        refine WL_seq ?_
        refine WL_reg ?_
        refine O_p rfl rfl rfl ?_
        refine O_h rfl rfl rfl rfl ?_
        refine O_h rfl rfl rfl rfl ?_
        refine O_cv rfl rfl (callA_of rfl (hf x hmx y)) ?_
        refine O_p rfl rfl rfl ?_
        refine WO_nil ?_
        refine WL_seq ?_
        apply WL_prune
        · (repeat (first | exact restr_nil | apply restr_cons rfl | apply restr_none rfl))
        refine WL_cond rfl (fun h30 => ?_) (fun h30 => ?_)
        · skip
          have hr : sameTs l m = false := by
            simp at h30
            rw [hs, drop_of hx, drop_of hy]; simp [sameTs, h30]
          refine WL_seq ?_
          refine WL_reg ?_
          refine O_p rfl rfl rfl ?_
          refine WO_nil ?_
          refine WL_ret ?_
          refine Blk_ret ?_
          refine RndC_ret ?_
          refine Blk_ret ?_
          exact ⟨_, rfl, _, rfl, by rw [hr]⟩
        · skip
          refine WL_skip ?_
          refine WL_nil ?_
          refine Blk_norm (?_ : WL _ _ _ _ _)
          refine WL_seq ?_
          apply WL_prune
          · (repeat (first | exact restr_nil | apply restr_cons rfl | apply restr_none rfl))
          refine WL_reg ?_
          refine O_p rfl rfl rfl ?_
          refine O_p rfl rfl rfl ?_
          refine WO_nil ?_
          refine WL_nil ?_
          simp at h30
          refine RndC_norm (i + 1) (by refine ⟨by omega, ?_⟩; rw [hs, drop_of hx, drop_of hy, sameTs, h30]; rfl) (by show _ < _; omega) ?_ rfl
          · rw [wrap_succ (by omega)]; (repeat (first | exact restr_nil | apply restr_cons rfl | apply restr_none rfl))
      · skip
        have hr : sameTs l m = true := by
          simp at h18
          rw [hs, List.drop_eq_nil_of_le (by omega), List.drop_eq_nil_of_le (by omega)]; rfl
        refine WL_exit ?_
        refine RndC_exit ?_
        refine Blk_exit (?_ : WL _ _ _ _ _)
        refine WL_seq ?_
        apply WL_prune
        · (repeat (first | exact restr_nil | apply restr_cons rfl | apply restr_none rfl))
        refine WL_seq ?_
        refine WL_reg ?_
        refine O_p rfl rfl rfl ?_
        refine WO_nil ?_
        refine WL_ret ?_
        exact ⟨_, rfl, _, rfl, by rw [hr]⟩
theorem same_c : ∀ (n : Nat) (a b : Ty), 10 * szT a < n → WfT a → pcall (tabOf tabL) n 12 [vT a, vT b] = some (.ok (.bool (sameT a b)))
  | 0, a, b, h, _ => by omega
  | n + 1, a, b, h, hw => by
    have hz := szT_pos a
    obtain ⟨n, rfl⟩ : ∃ m, n = m + 3 := ⟨n - 3, by omega⟩
    have ih := same_c (n + 2)
    have hp := len_pairs a
    have hf := len_funs a
    cases hw with | mk w1 w2 w3 w4 w5 w6 w7 =>
    have e1 := equal_c (n + 2) a.pairs b.pairs 12 (by omega) w4 (fun x hx y => ih x y (by have := szT_pairs hx; omega) (w6 x hx))
    have e2 := equal_c (n + 2) a.funs b.funs 12 (by omega) w5 (fun x hx y => ih x y (by have := szT_funs hx; omega) (w7 x hx))
    refine pcall_fin t12 ?_
    refine WL_seq ?_
    refine WL_reg ?_
    refine O_n rfl rfl rfl ?_
    refine O_n rfl rfl rfl ?_
    refine O_p rfl rfl rfl ?_
    refine WO_nil ?_
    refine WL_seq ?_
    apply WL_prune
    · (repeat (first | exact restr_nil | apply restr_cons rfl | apply restr_none rfl))
    refine WL_seq ?_
    refine WL_reg ?_
    refine O_p rfl rfl rfl ?_
    refine O_h rfl rfl rfl rfl ?_
    refine O_p rfl rfl rfl ?_
    refine O_h rfl rfl rfl rfl ?_
    refine O_p rfl rfl rfl ?_
    refine O_p rfl rfl rfl ?_
    apply O_and [_, _, _, _, _] rfl rfl (hT := ?hT16) (h := ?hR16)
    case hT16 =>
      intro hb10
      refine O_p rfl rfl rfl ?_
      refine O_h rfl rfl rfl rfl ?_
      refine O_p rfl rfl rfl ?_
      refine O_h rfl rfl rfl rfl ?_
      refine O_p rfl rfl rfl ?_
      exact WO_nil (WL_nil ⟨rfl, rfl, rfl⟩)
    case hR16 =>
      intro vs hvs
      obtain ⟨u11, u12, u13, u14, u15, rfl⟩ := len5 hvs
      clear hvs; dsimp only [junk]
      refine O_p rfl rfl rfl ?_
      apply O_and [_, _, _, _, _] rfl rfl (hT := ?hT23) (h := ?hR23)
      case hT23 =>
        intro hb17
        refine O_p rfl rfl rfl ?_
        refine O_h rfl rfl rfl rfl ?_
        refine O_p rfl rfl rfl ?_
        refine O_h rfl rfl rfl rfl ?_
        refine O_p rfl rfl rfl ?_
        exact WO_nil (WL_nil ⟨rfl, rfl, rfl⟩)
      case hR23 =>
        intro vs hvs
        obtain ⟨u18, u19, u20, u21, u22, rfl⟩ := len5 hvs
        clear hvs; dsimp only [junk]
        refine O_p rfl rfl rfl ?_
        apply O_and [_, _, _, _, _] rfl rfl (hT := ?hT30) (h := ?hR30)
        case hT30 =>
          intro hb24
          refine O_p rfl rfl rfl ?_
          refine O_h rfl rfl rfl rfl ?_
          refine O_p rfl rfl rfl ?_
          refine O_h rfl rfl rfl rfl ?_
          refine O_p rfl rfl rfl ?_
          exact WO_nil (WL_nil ⟨rfl, rfl, rfl⟩)
        case hR30 =>
          intro vs hvs
          obtain ⟨u25, u26, u27, u28, u29, rfl⟩ := len5 hvs
          clear hvs; dsimp only [junk]
          refine O_p rfl rfl rfl ?_
          apply O_and [_, _, _, _, _] rfl rfl (hT := ?hT37) (h := ?hR37)
          case hT37 =>
            intro hb31
            refine O_p rfl rfl rfl ?_
            refine O_h rfl rfl rfl rfl ?_
            refine O_p rfl rfl rfl ?_
            refine O_h rfl rfl rfl rfl ?_
            refine O_c 34 rfl rfl (callA_of rfl e1) ?_
            exact WO_nil (WL_nil ⟨rfl, rfl, rfl⟩)
          case hR37 =>
            intro vs hvs
            obtain ⟨u32, u33, u34, u35, u36, rfl⟩ := len5 hvs
            clear hvs; dsimp only [junk]
            refine O_p rfl rfl rfl ?_
            apply O_and [_, _, _, _, _] rfl rfl (hT := ?hT44) (h := ?hR44)
            case hT44 =>
              intro hb38
              refine O_p rfl rfl rfl ?_
              refine O_h rfl rfl rfl rfl ?_
              refine O_p rfl rfl rfl ?_
              refine O_h rfl rfl rfl rfl ?_
              refine O_c 34 rfl rfl (callA_of rfl e2) ?_
              exact WO_nil (WL_nil ⟨rfl, rfl, rfl⟩)
            case hR44 =>
              intro vs hvs
              obtain ⟨u39, u40, u41, u42, u43, rfl⟩ := len5 hvs
              clear hvs; dsimp only [junk]
              refine O_p rfl rfl rfl ?_
              refine WO_nil ?_
              refine WL_ret ?_
              exact ⟨_, rfl, _, rfl, by rw [sameT_eq]; rfl⟩
theorem right_ref (n : Nat) (t : Ty) (h : szT t < n) (hw : WfT t) : pcall (tabOf tabL) (n + 1) 11 [vT t] = some (.ok (.bool (decide (rsz t 60 ≤ 300) && rightT t 20))) := by
  refine pcall_fin t11 ?_
  refine WL_seq ?_
  refine WL_reg ?_
  refine O_n rfl rfl rfl ?_
  refine O_p rfl rfl rfl ?_
  refine WO_nil ?_
  refine WL_seq ?_
  apply WL_prune
  · (repeat (first | exact restr_nil | apply restr_cons rfl | apply restr_none rfl))
  refine WL_seq ?_
  refine WL_reg ?_
  refine O_h rfl rfl rfl rfl ?_
  refine O_c 30 rfl rfl (callA_of rfl (size_c n t 60 h hw (by omega))) ?_
  refine O_p rfl rfl rfl ?_
  refine O_p rfl rfl rfl ?_
  apply O_and [_, _] rfl rfl (hT := ?hT9) (h := ?hR9)
  case hT9 =>
    intro hb6
    refine O_h rfl rfl rfl rfl ?_
    refine O_c 33 rfl rfl (callA_of rfl (deep_c n t 20 h hw (by omega))) ?_
    exact WO_nil (WL_nil ⟨rfl, rfl, rfl⟩)
  case hR9 =>
    intro vs hvs
    obtain ⟨u7, u8, rfl⟩ := len2 hvs
    clear hvs; dsimp only [junk]
    refine O_p rfl rfl rfl ?_
    refine WO_nil ?_
    refine WL_ret ?_
    exact ⟨_, rfl, _, rfl, by congr 3; apply decide_eq_decide.2; omega⟩
theorem grow_c (n : Nat) (k : Nat) (H : Heap) (h0 : 0 < k) (hk : k ≤ 1000000) : callF (tabOf tabL) (n + 1) 49 [.lst [] true, .int .i64 (k : Nat)] H = some (.ok (.gl (H.length + 1) 0), H ++ [.dead, .grow 6 [] none]) := by
  have e1 : IntKind.i64.wrap (0 - 0) = 0 := by decide
  have e2 : IntKind.i64.wrap ((k : Int) - 0) = k := by rw [kw_i64_id (by omega) (by omega)]; omega
  refine callF_fin t49 ?_
  refine WL_seq ?_
  refine WL_reg ?_
  refine O_p rfl rfl rfl ?_
  refine WO_nil ?_
  refine WL_seq ?_
  apply WL_prune
  · (repeat (first | exact restr_nil | apply restr_cons rfl | apply restr_none rfl))
  refine WL_seq ?_
  refine WL_seq ?_
  refine WL_reg ?_
  refine O_p rfl rfl rfl ?_
  refine O_p rfl rfl rfl ?_
  refine WO_nil ?_
  refine WL_seq ?_
  apply WL_prune
  · (repeat (first | exact restr_nil | apply restr_cons rfl | apply restr_none rfl))
  refine WL_cond rfl (fun h6 => ?_) (fun h6 => ?_)
  · skip
    simp at h6; omega
  · skip
    refine WL_skip ?_
    refine WL_seq ?_
    apply WL_prune
    · (repeat (first | exact restr_nil | apply restr_cons rfl | apply restr_none rfl))
    refine WL_seq ?_
    refine WL_seq ?_
    refine WL_reg ?_
    refine O_p rfl rfl rfl ?_
    refine O_p rfl rfl rfl ?_
    refine O_h rfl rfl rfl rfl ?_
    refine O_p rfl rfl rfl ?_
    refine O_h rfl rfl rfl rfl ?_
    refine O_p rfl rfl rfl ?_
    refine O_v (.int .i64 (k : Nat)) rfl rfl rfl (by show AVal.int _ (IntKind.i64.wrap (_ - IntKind.i64.wrap (0 - 0))) = _; rw [e1, e2]) ?_
    refine O_p rfl rfl rfl ?_
    refine WO_nil ?_
    refine WL_seq ?_
    apply WL_prune
    · (repeat (first | exact restr_nil | apply restr_cons rfl | apply restr_none rfl))
    refine WL_seq ?_
    refine WL_reg ?_
    refine O_p rfl rfl rfl ?_
    refine O_p rfl rfl rfl ?_
    refine WO_nil ?_
    refine WL_seq ?_
    apply WL_prune
    · (repeat (first | exact restr_nil | apply restr_cons rfl | apply restr_none rfl))
    refine WL_cond rfl (fun h16 => ?_) (fun h16 => ?_)
    · skip
      refine WL_reg ?_
      refine O_p rfl rfl rfl ?_
      refine O_p rfl rfl rfl ?_
      refine O_h rfl rfl rfl rfl ?_
      refine O_h (v := .lst [] true) rfl rfl rfl rfl ?_
      refine O_p rfl rfl rfl ?_
      refine O_h rfl rfl rfl (appz_ev rfl rfl h0 (by omega) rfl (by omega)) ?_
      refine O_p rfl rfl rfl ?_
      refine O_h rfl rfl rfl rfl ?_
      refine O_h rfl rfl rfl (cut_ev rfl rfl (by simp)) ?_
      refine O_p rfl rfl rfl ?_
      refine WO_nil ?_
      refine WL_seq ?_
      apply WL_prune
      · (repeat (first | exact restr_nil | apply restr_cons rfl | apply restr_none rfl))
      refine WL_seq ?_
      refine WL_reg ?_
      refine O_p rfl rfl rfl ?_
      refine O_p rfl rfl rfl ?_
      refine WO_nil ?_
      refine WL_ret ?_
      exact ⟨_, rfl, rfl, rfl⟩
    · skip
      simp at h16; omega
theorem concat_c (n : Nat) (ls : List (List Ty)) (h0 : 0 < ls.flatten.length) (hk : ls.flatten.length ≤ 1000000) (hn : ls.length < n) (hm : ls.length ≤ 1000000) :
    pcall (tabOf tabL) (n + 2) 41 [.lst (ls.map encL) false] = some (.ok (.lst (ls.flatten.map encT) false)) := by
  refine pcall_fin t41 ?_
  refine WL_seq ?_
  refine WL_reg ?_
  refine O_p rfl rfl rfl ?_
  refine WO_nil ?_
  refine WL_seq ?_
  apply WL_prune
  · (repeat (first | exact restr_nil | apply restr_cons rfl | apply restr_none rfl))
  refine WL_seq ?_
  refine WL_reg ?_
  refine O_p rfl rfl rfl ?_
  refine WO_nil ?_
  refine WL_seq ?_
  apply WL_prune
  · (repeat (first | exact restr_nil | apply restr_cons rfl | apply restr_none rfl))
  refine WL_seq ?_
  refine WL_seq ?_
  refine WL_reg ?_
  refine O_p rfl rfl rfl ?_
  refine O_h rfl rfl rfl rfl ?_
  refine O_p rfl rfl rfl ?_
  refine WO_nil ?_
  refine WL_seq ?_
  apply WL_prune
  · (repeat (first | exact restr_nil | apply restr_cons rfl | apply restr_none rfl))
  refine WL_block ?_
  apply WL_forc (α := Nat × Nat) (fun s => [(3, .int .i64 (s.1 : Nat)), (11, .int .i64 (s.2 : Nat))]) (fun s => s.2 ≤ ls.length ∧ s.1 + (ls.drop s.2).flatten.length = ls.flatten.length) (fun s => ls.length - s.2) ((0, 0)) (he := ?he) (hP := ?hP) (hk := ?hk) (round := ?round)
  case he =>
    (repeat (first | exact restr_nil | apply restr_cons rfl | apply restr_none rfl))
  case hP =>
    exact ⟨by simp, by simp⟩
  case hk =>
    show ls.length - 0 < n + 1; omega
  case round =>
    rintro ⟨c, i⟩ ⟨hi, hs⟩
    simp only at hi hs
    dsimp only [List.cons_append, List.nil_append] at *
    refine WL_seq ?_
    refine WL_reg ?_
    refine O_p rfl rfl rfl ?_
    refine WO_nil ?_
    refine WL_seq ?_
    apply WL_prune
    · (repeat (first | exact restr_nil | apply restr_cons rfl | apply restr_none rfl))
    refine WL_seq ?_
    refine WL_cond rfl (fun h12 => ?_) (fun h12 => ?_)
    · skip
      simp at h12
      obtain ⟨x, hx⟩ : ∃ x, (ls)[i]? = some x := ⟨_, List.getElem?_eq_getElem (by omega)⟩
      have hmx := List.mem_of_getElem? hx
      have hg := drop_of hx
      refine WL_skip ?_
      refine WL_seq ?_
      apply WL_prune
      · (repeat (first | exact restr_nil | apply restr_cons rfl | apply restr_none rfl))
      refine WL_seq ?_
      refine WL_block ?_
      refine WL_seq ?_
      refine WL_reg ?_
      refine O_ia rfl rfl (Int.natCast_nonneg _) (encL_get hx) rfl rfl ?_
      refine O_h rfl rfl rfl rfl ?_
      refine O_p rfl rfl rfl ?_
      refine WO_nil ?_
      refine WL_seq ?_
      apply WL_prune
      · (repeat (first | exact restr_nil | apply restr_cons rfl | apply restr_none rfl))
      refine WL_seq ?_
      refine WL_reg ?_
      refine O_p rfl rfl rfl ?_
      refine O_p rfl rfl rfl ?_
      refine O_h rfl rfl rfl rfl ?_
      refine O_p rfl rfl rfl ?_
      refine O_p rfl rfl rfl ?_
      refine WO_nil ?_
      refine WL_seq ?_
      apply WL_prune
      · (repeat (first | exact restr_nil | apply restr_cons rfl | apply restr_none rfl))
      refine WL_seq ?_
      refine WL_reg ?_
      refine O_p rfl rfl rfl ?_
      refine O_p rfl rfl rfl ?_
      refine WO_nil ?_
      refine WL_seq ?_
      apply WL_prune
      · (repeat (first | exact restr_nil | apply restr_cons rfl | apply restr_none rfl))
      refine WL_cond rfl (fun h20 => ?_) (fun h20 => ?_)
      · skip
        rw [hg] at hs
        simp only [List.flatten_cons, List.length_append] at hs
        have := wrap_add (i := c) (j := x.length) (by omega)
        simp at h20; omega
      · skip
        refine WL_skip ?_
        refine WL_nil ?_
        refine Blk_norm (?_ : WL _ _ _ _ _)
        refine WL_seq ?_
        apply WL_prune
        · (repeat (first | exact restr_nil | apply restr_cons rfl | apply restr_none rfl))
        refine WL_reg ?_
        refine O_p rfl rfl rfl ?_
        refine O_p rfl rfl rfl ?_
        refine WO_nil ?_
        refine WL_nil ?_
        rw [hg] at hs
        simp only [List.flatten_cons, List.length_append] at hs
        refine RndC_norm ((c + x.length, i + 1)) (by refine ⟨?_, ?_⟩ <;> simp only <;> omega) (by show _ < _; omega) ?_ rfl
        · rw [show IntKind.i64.wrap ((c : Int) + (((x.map encT).length : Nat) : Int)) = ((c + x.length : Nat) : Int) by rw [List.length_map]; exact wrap_add (by omega), wrap_succ (by omega)]; (repeat (first | exact restr_nil | apply restr_cons rfl | apply restr_none rfl))
    · skip
      have hq : c = ls.flatten.length := by
        simp at h12
        rw [List.drop_eq_nil_of_le (by omega)] at hs; simpa using hs
      refine WL_exit ?_
      refine RndC_exit ?_
      refine Blk_exit (?_ : WL _ _ _ _ _)
      refine WL_seq ?_
      apply WL_prune
      · (repeat (first | exact restr_nil | apply restr_cons rfl | apply restr_none rfl))
      refine WL_seq ?_
      refine WL_reg ?_
      refine O_p rfl rfl rfl ?_
      refine O_c 49 rfl rfl (callA_raw (by rw [hq]; exact grow_c n _ _ h0 hk) rfl) ?_
      refine O_p rfl rfl rfl ?_
      refine WO_nil ?_
      refine WL_seq ?_
      apply WL_prune
      · (repeat (first | exact restr_nil | apply restr_cons rfl | apply restr_none rfl))
      refine WL_seq ?_
      refine WL_seq ?_
      refine WL_reg ?_
      refine O_p rfl rfl rfl ?_
      refine O_h rfl rfl rfl rfl ?_
      refine O_p rfl rfl rfl ?_
      refine WO_nil ?_
      refine WL_seq ?_
      apply WL_prune
      · (repeat (first | exact restr_nil | apply restr_cons rfl | apply restr_none rfl))
      refine WL_block ?_
      refine WL_seq ?_
      refine WL_own rfl ?_
      apply WL_forv (hc := [.dead]) (α := Nat × List Ty) (fun s => [(6, .gl 1 s.2.length), (27, .int .i64 (s.1 : Nat))]) (fun s => [.grow 6 (s.2.map encT) none]) (fun s => s.1 ≤ ls.length ∧ s.2 ++ (ls.drop s.1).flatten = ls.flatten) (fun s => ls.length - s.1) ((0, [])) (he := ?he) (hh := ?hh) (hP := ?hP) (hk := ?hk) (round := ?round)
      case he =>
        (repeat (first | exact restr_nil | apply restr_cons rfl | apply restr_none rfl))
      case hh =>
        rfl
      case hP =>
        exact ⟨by simp, by simp⟩
      case hk =>
        show ls.length - 0 < n + 1; omega
      case round =>
        rintro ⟨i, xs⟩ ⟨hi, hs⟩
        simp only at hi hs
        dsimp only [List.cons_append, List.nil_append] at *
        refine WL_seq ?_
        refine WL_reg ?_
        refine O_p rfl rfl rfl ?_
        refine WO_nil ?_
        refine WL_seq ?_
        apply WL_prune
        · (repeat (first | exact restr_nil | apply restr_cons rfl | apply restr_none rfl))
        refine WL_seq ?_
        refine WL_cond rfl (fun h28 => ?_) (fun h28 => ?_)
        · skip
          simp at h28
          obtain ⟨x, hx⟩ : ∃ x, (ls)[i]? = some x := ⟨_, List.getElem?_eq_getElem (by omega)⟩
          have hmx := List.mem_of_getElem? hx
          have hg := drop_of hx
          refine WL_skip ?_
          refine WL_seq ?_
          apply WL_prune
          · (repeat (first | exact restr_nil | apply restr_cons rfl | apply restr_none rfl))
          refine WL_seq ?_
          refine WL_block ?_
          refine WL_seq ?_
          refine WL_reg ?_
          refine O_ia rfl rfl (Int.natCast_nonneg _) (encL_get hx) rfl rfl ?_
          refine O_h rfl rfl rfl rfl ?_
          refine O_p rfl rfl rfl ?_
          refine WO_nil ?_
          refine WL_seq ?_
          apply WL_prune
          · (repeat (first | exact restr_nil | apply restr_cons rfl | apply restr_none rfl))
          refine WL_reg ?_
          refine O_p rfl rfl rfl ?_
          refine O_p rfl rfl rfl ?_
          rw [hg] at hs
          have hlen : xs.length + x.length ≤ 1000000 := by have := congrArg List.length hs; simp at this hk; omega
          refine O_appL rfl rfl rfl (by simp) (encT_w _) (encT_w _) (by simp; omega) rfl ?_
          refine O_p rfl rfl rfl ?_
          refine WO_nil ?_
          refine WL_nil ?_
          refine Blk_norm (?_ : WL _ _ _ _ _)
          refine WL_seq ?_
          apply WL_prune
          · (repeat (first | exact restr_nil | apply restr_cons rfl | apply restr_none rfl))
          refine WL_reg ?_
          refine O_p rfl rfl rfl ?_
          refine O_p rfl rfl rfl ?_
          refine WO_nil ?_
          refine WL_nil ?_
          refine RndV_norm ((i + 1, xs ++ x)) (by refine ⟨by simp only; omega, ?_⟩; simp only; rw [← hs]; simp) (by show _ < _; omega) ?_ ?_
          · rw [wrap_succ (by omega), show (xs.map encT).length + (x.map encT).length = (xs ++ x).length by simp]; (repeat (first | exact restr_nil | apply restr_cons rfl | apply restr_none rfl))
          · show trunc _ _ [ABlock.dead, ABlock.grow 6 (xs.map encT ++ x.map encT) none] = _; rw [← List.map_append]; rfl
        · skip
          have hr : ls.flatten = xs := by
            simp at h28
            rw [List.drop_eq_nil_of_le (by omega)] at hs; simpa using hs.symm
          refine WL_exit ?_
          refine RndV_exit ?_
          refine Blk_exit (?_ : WL _ _ _ _ _)
          refine WL_seq ?_
          apply WL_prune
          · (repeat (first | exact restr_nil | apply restr_cons rfl | apply restr_none rfl))
          refine WL_seq ?_
          refine WL_reg ?_
          refine O_p rfl rfl rfl ?_
          refine O_p rfl rfl rfl ?_
          refine WO_nil ?_
          refine WL_ret ?_
          exact ⟨_, rfl, .lst (xs.map encT) false, by simp [oneOr, shutR, growAt], by rw [hr]⟩
theorem concat_nil (n : Nat) : pcall (tabOf tabL) (n + 20) 41 [.lst [.lst [] false, .lst [] false] false] = some (.ok (.lst [] false)) := by kernel_rfl
theorem concat2_c (n : Nat) (a b : List Ty) (h : a.length + b.length ≤ 1000000) : pcall (tabOf tabL) (n + 20) 41 [.lst [.lst (a.map encT) false, .lst (b.map encT) false] false] = some (.ok (.lst ((a ++ b).map encT) false)) := by
  rcases Nat.eq_zero_or_pos (a.length + b.length) with h0 | h0
  · obtain rfl : a = [] := List.length_eq_zero_iff.1 (by omega)
    obtain rfl : b = [] := List.length_eq_zero_iff.1 (by omega)
    exact concat_nil n
  · have := concat_c (n + 18) [a, b] (by simpa using h0) (by simpa using h) (by simp) (by simp)
    simpa [encL] using this
theorem count_c : ∀ (n : Nat) (t : Ty) (l : Int), 10 * szT t + 30 < n → WfT t → szT t ≤ 1000000 → 0 ≤ l → l ≤ 1000 → pcall (tabOf tabL) n 31 [vT t, .int .i64 l] = some (.ok (.int .i64 (cntT t l)))
  | 0, t, l, h, _, _, _, _ => by omega
  | n + 1, t, l, h, hw, hs1, hl0, hl => by
    have hz := szT_pos t
    obtain ⟨n, rfl⟩ : ∃ m, n = m + 20 := ⟨n - 20, by omega⟩
    have ih := count_c (n + 20)
    have hp := len_pairs t
    have hf := len_funs t
    have hpf : t.pairs.length + t.funs.length < szT t := by rw [szT_eq t]; have := szTs_len t.pairs; have := szTs_len t.funs; omega
    have hl1 : IntKind.i64.wrap (l - 1) = l - 1 := kw_i64_id (by omega) (by omega)
    cases hw with | mk w1 w2 w3 w4 w5 w6 w7 =>
    have e0 : cntT t l = cntTs (t.pairs ++ t.funs) (l - 1) := by rw [cntT_eq, cntTs_append]
    refine pcall_fin t31 ?_
    refine WL_seq ?_
    refine WL_reg ?_
    refine O_n rfl rfl rfl ?_
    refine O_p rfl rfl rfl ?_
    refine WO_nil ?_
    refine WL_seq ?_
    apply WL_prune
    · (repeat (first | exact restr_nil | apply restr_cons rfl | apply restr_none rfl))
    refine WL_seq ?_
    refine WL_reg ?_
    refine O_p rfl rfl rfl ?_
    refine O_v (.int .i64 (l - 1)) rfl rfl rfl (by rw [hl1]) ?_
    refine O_p rfl rfl rfl ?_
    refine WO_nil ?_
    refine WL_seq ?_
    apply WL_prune
    · (repeat (first | exact restr_nil | apply restr_cons rfl | apply restr_none rfl))
    refine WL_seq ?_
    refine WL_seq ?_
    refine WL_reg ?_
    refine O_p rfl rfl rfl ?_
    refine O_h rfl rfl rfl rfl ?_
    refine O_p rfl rfl rfl ?_
    refine O_h rfl rfl rfl rfl ?_
    refine O_h rfl rfl rfl rfl ?_
    refine O_c 41 rfl rfl (callA_of rfl (concat2_c n t.pairs t.funs (by omega))) ?_
    refine O_h rfl rfl rfl rfl ?_
    refine O_p rfl rfl rfl ?_
    refine WO_nil ?_
    refine WL_seq ?_
    apply WL_prune
    · (repeat (first | exact restr_nil | apply restr_cons rfl | apply restr_none rfl))
    refine WL_block ?_
    apply WL_forc (α := Int × Nat) (fun s => [(1, .int .i64 s.1), (16, .int .i64 (s.2 : Nat))]) (fun s => s.2 ≤ (t.pairs ++ t.funs).length ∧ -1 ≤ s.1 ∧ s.1 ≤ 1000 ∧ cntT t l = cntTs ((t.pairs ++ t.funs).drop s.2) s.1) (fun s => (t.pairs ++ t.funs).length - s.2) ((l - 1, 0)) (he := ?he) (hP := ?hP) (hk := ?hk) (round := ?round)
    case he =>
      (repeat (first | exact restr_nil | apply restr_cons rfl | apply restr_none rfl))
    case hP =>
      exact ⟨by simp, by simp only; omega, by simp only; omega, e0⟩
    case hk =>
      show (t.pairs ++ t.funs).length - 0 < n + 20; simp; omega
    case round =>
      rintro ⟨c, i⟩ ⟨hi, hc1, hc2, hs⟩
      simp only at hi hc1 hc2 hs
      dsimp only [List.cons_append, List.nil_append] at *
      refine WL_seq ?_
      refine WL_reg ?_
      refine O_p rfl rfl rfl ?_
      refine WO_nil ?_
      refine WL_seq ?_
      apply WL_prune
      · (repeat (first | exact restr_nil | apply restr_cons rfl | apply restr_none rfl))
      refine WL_seq ?_
      refine WL_cond rfl (fun h17 => ?_) (fun h17 => ?_)
      · skip
        simp at h17
        obtain ⟨x, hx⟩ : ∃ x, (t.pairs ++ t.funs)[i]? = some x := ⟨_, List.getElem?_eq_getElem (by simp; omega)⟩
        have hmx := List.mem_of_getElem? hx
        have hg := drop_of hx
        have hsx : 10 * szT x + 30 < n + 20 := by rcases List.mem_append.1 hmx with q | q; have := szT_pairs q; omega; have := szT_funs q; omega
        have hwx : WfT x := by rcases List.mem_append.1 hmx with q | q; exact w6 x q; exact w7 x q
        have hsz : szT x < szT t := by rcases List.mem_append.1 hmx with q | q; exact szT_pairs q; exact szT_funs q
        refine WL_skip ?_
        refine WL_seq ?_
        apply WL_prune
        · (repeat (first | exact restr_nil | apply restr_cons rfl | apply restr_none rfl))
        refine WL_seq ?_
        refine WL_block ?_
        refine WL_seq ?_
        refine WL_reg ?_
        refine O_ia rfl rfl (Int.natCast_nonneg _) (encT_get (i := (i : Nat)) hx) (encT_flat _) rfl ?_
        refine O_h rfl rfl rfl rfl ?_
        refine O_n rfl rfl rfl ?_
        refine O_hn rfl rfl rfl rfl ?_
        refine WO_nil ?_
        refine WL_seq ?_
        apply WL_prune
        · (repeat (first | exact restr_nil | apply restr_cons rfl | apply restr_none rfl))
        refine WL_seq ?_
        refine WL_seq ?_
        refine WL_reg ?_
        refine O_p rfl rfl rfl ?_
        refine O_p rfl rfl rfl ?_
        refine WO_nil ?_
        refine WL_seq ?_
        apply WL_prune
        · (repeat (first | exact restr_nil | apply restr_cons rfl | apply restr_none rfl))
        refine WL_cond rfl (fun h21 => ?_) (fun h21 => ?_)
        · skip
          have hr : cntT t l = c := by
            simp at h21
            rw [hs, hg, cntTs, if_pos h21]
          refine WL_exit ?_
          refine Blk_other (by decide) ?_
          refine RndC_exit ?_
          refine Blk_exit (?_ : WL _ _ _ _ _)
          refine WL_seq ?_
          apply WL_prune
          · (repeat (first | exact restr_nil | apply restr_cons rfl | apply restr_none rfl))
          refine WL_seq ?_
          refine WL_reg ?_
          refine O_p rfl rfl rfl ?_
          refine O_p rfl rfl rfl ?_
          refine WO_nil ?_
          refine WL_ret ?_
          exact ⟨_, rfl, _, rfl, by rw [hr]⟩
        · skip
          simp at h21
          refine WL_skip ?_
          refine WL_seq ?_
          apply WL_prune
          · (repeat (first | exact restr_nil | apply restr_cons rfl | apply restr_none rfl))
          refine WL_reg ?_
          refine O_h rfl rfl rfl rfl ?_
          refine O_p rfl rfl rfl ?_
          refine O_c 31 rfl rfl (callA_of rfl (ih x c hsx hwx (by omega) h21 (by omega))) ?_
          refine O_p rfl rfl rfl ?_
          refine WO_nil ?_
          refine WL_nil ?_
          refine Blk_norm (?_ : WL _ _ _ _ _)
          refine WL_seq ?_
          apply WL_prune
          · (repeat (first | exact restr_nil | apply restr_cons rfl | apply restr_none rfl))
          refine WL_reg ?_
          refine O_p rfl rfl rfl ?_
          refine O_p rfl rfl rfl ?_
          refine WO_nil ?_
          refine WL_nil ?_
          have hq := cntT_sz x c h21
          refine RndC_norm ((cntT x c, i + 1)) (by refine ⟨?_, ?_, ?_, ?_⟩ <;> simp only <;> first | (simp; omega) | omega | (rw [hs, hg, cntTs, if_neg (by omega)])) (by show _ < _; simp; omega) ?_ rfl
          · rw [wrap_succ (by simp at hi; omega)]; (repeat (first | exact restr_nil | apply restr_cons rfl | apply restr_none rfl))
      · skip
        have hr : cntT t l = c := by
          simp at h17
          rw [hs, List.drop_eq_nil_of_le (by simp; omega)]; rfl
        refine WL_exit ?_
        refine RndC_exit ?_
        refine Blk_exit (?_ : WL _ _ _ _ _)
        refine WL_seq ?_
        apply WL_prune
        · (repeat (first | exact restr_nil | apply restr_cons rfl | apply restr_none rfl))
        refine WL_seq ?_
        refine WL_reg ?_
        refine O_p rfl rfl rfl ?_
        refine O_p rfl rfl rfl ?_
        refine WO_nil ?_
        refine WL_ret ?_
        exact ⟨_, rfl, _, rfl, by rw [hr]⟩
theorem tright_c (n : Nat) (t : Ty) (h : 10 * szT t + 30 < n) (hw : WfT t) (hs : szT t ≤ 1000000) : pcall (tabOf tabL) (n + 1) 10 [vT t] = some (.ok (.bool (decide (szT t ≤ 300) && rightT t 20))) := by
  have hq := cntT_sz t 300 (by omega)
  refine pcall_fin t10 ?_
  refine WL_seq ?_
  refine WL_reg ?_
  refine O_n rfl rfl rfl ?_
  refine O_p rfl rfl rfl ?_
  refine WO_nil ?_
  refine WL_seq ?_
  apply WL_prune
  · (repeat (first | exact restr_nil | apply restr_cons rfl | apply restr_none rfl))
  refine WL_seq ?_
  refine WL_reg ?_
  refine O_h rfl rfl rfl rfl ?_
  refine O_c 31 rfl rfl (callA_of rfl (count_c n t 300 h hw hs (by omega) (by omega))) ?_
  refine O_p rfl rfl rfl ?_
  refine O_p rfl rfl rfl ?_
  apply O_and [_, _] rfl rfl (hT := ?hT9) (h := ?hR9)
  case hT9 =>
    intro hb6
    refine O_h rfl rfl rfl rfl ?_
    refine O_c 32 rfl rfl (callA_of rfl (right_c n t 20 (by omega) hw (by omega))) ?_
    exact WO_nil (WL_nil ⟨rfl, rfl, rfl⟩)
  case hR9 =>
    intro vs hvs
    obtain ⟨u7, u8, rfl⟩ := len2 hvs
    clear hvs; dsimp only [junk]
    refine O_p rfl rfl rfl ?_
    refine WO_nil ?_
    refine WL_ret ?_
    exact ⟨_, rfl, _, rfl, by congr 3; apply decide_eq_decide.2; omega⟩
end Go.Ev.Seat
