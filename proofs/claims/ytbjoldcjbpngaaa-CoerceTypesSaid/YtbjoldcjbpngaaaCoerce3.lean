/-
  The functions about coercions: how deep and how great one is, whether one may be.
-/
import Derived.Test.YtbjoldcjbpngaaaCoerce2
set_option linter.unusedVariables false
set_option linter.unusedSimpArgs false
namespace Go.Ev.Seat
open Go Go.Ev
set_option maxRecDepth 20000
attribute [local irreducible] pcall callF
theorem passR_c (n : Nat) (c : Co) (h : 6 < n) : pcall (tabOf tabL) (n + 2) 28 [vC c] = some (.ok (.bool (passC c))) := by
  refine pcall_fin t28 ?_
  refine WL_seq ?_
  refine WL_reg ?_
  refine O_n rfl rfl rfl ?_
  refine O_p rfl rfl rfl ?_
  refine WO_nil ?_
  refine WL_seq ?_
  apply WL_prune
  · (repeat (first | exact restr_nil | apply restr_cons rfl | apply restr_none rfl))
  refine WL_seq ?_
  refine WL_reg ?_
  refine O_h rfl rfl rfl rfl ?_
  refine O_c 53 rfl rfl (callA_of rfl (flats_c n c h)) ?_
  refine O_p rfl rfl rfl ?_
  apply O_and [_, _, _] rfl rfl (hT := ?hT9) (h := ?hR9)
  case hT9 =>
    intro hb5
    refine O_p rfl rfl rfl ?_
    refine O_h rfl rfl rfl rfl ?_
    refine O_p rfl rfl rfl ?_
    exact WO_nil (WL_nil ⟨rfl, rfl, rfl⟩)
  case hR9 =>
    intro vs hvs
    obtain ⟨u6, u7, u8, rfl⟩ := len3 hvs
    clear hvs; dsimp only [junk]
    refine O_p rfl rfl rfl ?_
    apply O_and [_, _, _] rfl rfl (hT := ?hT14) (h := ?hR14)
    case hT14 =>
      intro hb10
      refine O_p rfl rfl rfl ?_
      refine O_h rfl rfl rfl rfl ?_
      refine O_p rfl rfl rfl ?_
      exact WO_nil (WL_nil ⟨rfl, rfl, rfl⟩)
    case hR14 =>
      intro vs hvs
      obtain ⟨u11, u12, u13, rfl⟩ := len3 hvs
      clear hvs; dsimp only [junk]
      refine O_p rfl rfl rfl ?_
      apply O_and [_, _, _, _] rfl rfl (hT := ?hT20) (h := ?hR20)
      case hT20 =>
        intro hb15
        refine O_p rfl rfl rfl ?_
        refine O_h rfl rfl rfl rfl ?_
        refine O_h rfl rfl rfl rfl ?_
        refine O_p rfl rfl rfl ?_
        exact WO_nil (WL_nil ⟨rfl, rfl, rfl⟩)
      case hR20 =>
        intro vs hvs
        obtain ⟨u16, u17, u18, u19, rfl⟩ := len4 hvs
        clear hvs; dsimp only [junk]
        refine O_p rfl rfl rfl ?_
        apply O_and [_, _, _] rfl rfl (hT := ?hT25) (h := ?hR25)
        case hT25 =>
          intro hb21
          refine O_p rfl rfl rfl ?_
          refine O_h rfl rfl rfl rfl ?_
          refine O_p rfl rfl rfl ?_
          exact WO_nil (WL_nil ⟨rfl, rfl, rfl⟩)
        case hR25 =>
          intro vs hvs
          obtain ⟨u22, u23, u24, rfl⟩ := len3 hvs
          clear hvs; dsimp only [junk]
          refine O_p rfl rfl rfl ?_
          apply O_and [_, _, _] rfl rfl (hT := ?hT30) (h := ?hR30)
          case hT30 =>
            intro hb26
            refine O_p rfl rfl rfl ?_
            refine O_h rfl rfl rfl rfl ?_
            refine O_p rfl rfl rfl ?_
            exact WO_nil (WL_nil ⟨rfl, rfl, rfl⟩)
          case hR30 =>
            intro vs hvs
            obtain ⟨u27, u28, u29, rfl⟩ := len3 hvs
            clear hvs; dsimp only [junk]
            refine O_p rfl rfl rfl ?_
            apply O_and [_, _, _, _] rfl rfl (hT := ?hT36) (h := ?hR36)
            case hT36 =>
              intro hb31
              refine O_p rfl rfl rfl ?_
              refine O_h rfl rfl rfl rfl ?_
              refine O_h rfl rfl rfl rfl ?_
              refine O_p rfl rfl rfl ?_
              exact WO_nil (WL_nil ⟨rfl, rfl, rfl⟩)
            case hR36 =>
              intro vs hvs
              obtain ⟨u32, u33, u34, u35, rfl⟩ := len4 hvs
              clear hvs; dsimp only [junk]
              refine O_p rfl rfl rfl ?_
              refine WO_nil ?_
              refine WL_ret ?_
              refine ⟨_, rfl, _, rfl, ?_⟩
              simp [passC]
theorem all_c (n : Nat) (l : List Co) (b : Bool) (h : l.length + 10 < n) (hm : l.length < 1000000) : pcall (tabOf tabL) (n + 1) 44 [.lst (l.map encC) b] = some (.ok (.bool (l.all passC))) := by
  obtain ⟨n, rfl⟩ : ∃ m, n = m + 2 := ⟨n - 2, by omega⟩
  refine pcall_fin t44 ?_
  refine WL_seq ?_
  refine WL_reg ?_
  refine O_p rfl rfl rfl ?_
  refine WO_nil ?_
  refine WL_seq ?_
  apply WL_prune
  · (repeat (first | exact restr_nil | apply restr_cons rfl | apply restr_none rfl))
  refine WL_seq ?_
  refine WL_seq ?_
  refine WL_reg ?_
  refine O_p rfl rfl rfl ?_
  refine WO_nil ?_
  refine WL_seq ?_
  apply WL_prune
  · (repeat (first | exact restr_nil | apply restr_cons rfl | apply restr_none rfl))
  refine WL_block ?_
  apply WL_forc (α := Nat) (fun i => [(3, .int .i64 (i : Nat))]) (fun i => i ≤ l.length ∧ l.all passC = (l.drop i).all passC) (fun i => l.length - i) (0) (he := ?he) (hP := ?hP) (hk := ?hk) (round := ?round)
  case he =>
    (repeat (first | exact restr_nil | apply restr_cons rfl | apply restr_none rfl))
  case hP =>
    exact ⟨by omega, rfl⟩
  case hk =>
    show l.length - 0 < n + 2; omega
  case round =>
    rintro i ⟨hi, hs⟩
    dsimp only [List.cons_append, List.nil_append] at *
    refine WL_seq ?_
    refine WL_seq ?_
    refine WL_reg ?_
    refine O_p rfl rfl rfl ?_
    refine O_p rfl rfl rfl ?_
    refine O_h rfl rfl rfl rfl ?_
    refine O_p rfl rfl rfl ?_
    refine WO_nil ?_
    refine WL_seq ?_
    apply WL_prune
    · (repeat (first | exact restr_nil | apply restr_cons rfl | apply restr_none rfl))
    refine WL_cond rfl (fun h7 => ?_) (fun h7 => ?_)
    · skip
      simp at h7
      obtain ⟨x, hx⟩ : ∃ x, (l)[i]? = some x := ⟨_, List.getElem?_eq_getElem (by omega)⟩
      have hmx := List.mem_of_getElem? hx
      have hg := drop_of hx
      refine WL_skip ?_
      refine WL_seq ?_
      apply WL_prune
      · (repeat (first | exact restr_nil | apply restr_cons rfl | apply restr_none rfl))
      refine WL_seq ?_
      refine WL_block ?_
      refine WL_seq ?_
      refine WL_reg ?_
      refine O_p rfl rfl rfl ?_
      refine O_p rfl rfl rfl ?_
      refine O_ia rfl rfl (Int.natCast_nonneg _) (encC_get (i := (i : Nat)) hx) (encC_flat _) rfl ?_
      refine O_h rfl rfl rfl rfl ?_
      refine O_c 28 rfl rfl (callA_of rfl (passR_c n x (by omega))) ?_
      refine O_p rfl rfl rfl ?_
      refine WO_nil ?_
      refine WL_seq ?_
      apply WL_prune
      · (repeat (first | exact restr_nil | apply restr_cons rfl | apply restr_none rfl))
      refine WL_cond rfl (fun h15 => ?_) (fun h15 => ?_)
      · skip
        have hr : l.all passC = false := by
          simp at h15
          rw [hs, hg]; simp [h15]
        refine WL_seq ?_
        refine WL_reg ?_
        refine O_p rfl rfl rfl ?_
        refine WO_nil ?_
        refine WL_ret ?_
        refine Blk_ret ?_
        refine RndC_ret ?_
        refine Blk_ret ?_
        exact ⟨_, rfl, _, rfl, by rw [hr]⟩
      · skip
        simp at h15
        refine WL_skip ?_
        refine WL_nil ?_
        refine Blk_norm (?_ : WL _ _ _ _ _)
        refine WL_seq ?_
        apply WL_prune
        · (repeat (first | exact restr_nil | apply restr_cons rfl | apply restr_none rfl))
        refine WL_reg ?_
        refine O_p rfl rfl rfl ?_
        refine O_p rfl rfl rfl ?_
        refine O_p rfl rfl rfl ?_
        refine WO_nil ?_
        refine WL_nil ?_
        refine RndC_norm (i + 1) (by refine ⟨by omega, ?_⟩; rw [hs, hg]; simp [h15]) (by show _ < _; omega) ?_ rfl
        · rw [wrap_succ (by omega)]; (repeat (first | exact restr_nil | apply restr_cons rfl | apply restr_none rfl))
    · skip
      have hr : l.all passC = true := by
        simp at h7
        rw [hs, List.drop_eq_nil_of_le (by omega)]; rfl
      refine WL_exit ?_
      refine RndC_exit ?_
      refine Blk_exit (?_ : WL _ _ _ _ _)
      refine WL_seq ?_
      apply WL_prune
      · (repeat (first | exact restr_nil | apply restr_cons rfl | apply restr_none rfl))
      refine WL_seq ?_
      refine WL_reg ?_
      refine O_p rfl rfl rfl ?_
      refine WO_nil ?_
      refine WL_ret ?_
      exact ⟨_, rfl, _, rfl, by rw [hr]⟩
theorem grow_c (n : Nat) (k : Nat) (H : Heap) (h0 : 0 < k) (hk : k ≤ 1000000) : callF (tabOf tabL) (n + 1) 61 [.lst [] true, .int .i64 (k : Nat)] H = some (.ok (.gl (H.length + 1) 0), H ++ [.dead, .grow 12 [] none]) := by
  have e1 : IntKind.i64.wrap (0 - 0) = 0 := by decide
  have e2 : IntKind.i64.wrap ((k : Int) - 0) = k := by rw [kw_i64_id (by omega) (by omega)]; omega
  refine callF_fin t61 ?_
  refine WL_seq ?_
  refine WL_reg ?_
  refine O_p rfl rfl rfl ?_
  refine WO_nil ?_
  refine WL_seq ?_
  apply WL_prune
  · (repeat (first | exact restr_nil | apply restr_cons rfl | apply restr_none rfl))
  refine WL_seq ?_
  refine WL_seq ?_
  refine WL_reg ?_
  refine O_p rfl rfl rfl ?_
  refine O_p rfl rfl rfl ?_
  refine WO_nil ?_
  refine WL_seq ?_
  apply WL_prune
  · (repeat (first | exact restr_nil | apply restr_cons rfl | apply restr_none rfl))
  refine WL_cond rfl (fun h6 => ?_) (fun h6 => ?_)
  · skip
    simp at h6; omega
  · skip
    refine WL_skip ?_
    refine WL_seq ?_
    apply WL_prune
    · (repeat (first | exact restr_nil | apply restr_cons rfl | apply restr_none rfl))
    refine WL_seq ?_
    refine WL_seq ?_
    refine WL_reg ?_
    refine O_p rfl rfl rfl ?_
    refine O_p rfl rfl rfl ?_
    refine O_h rfl rfl rfl rfl ?_
    refine O_p rfl rfl rfl ?_
    refine O_h rfl rfl rfl rfl ?_
    refine O_p rfl rfl rfl ?_
    refine O_v (.int .i64 (k : Nat)) rfl rfl rfl (by show AVal.int _ (IntKind.i64.wrap (_ - IntKind.i64.wrap (0 - 0))) = _; rw [e1, e2]) ?_
    refine O_p rfl rfl rfl ?_
    refine WO_nil ?_
    refine WL_seq ?_
    apply WL_prune
    · (repeat (first | exact restr_nil | apply restr_cons rfl | apply restr_none rfl))
    refine WL_seq ?_
    refine WL_reg ?_
    refine O_p rfl rfl rfl ?_
    refine O_p rfl rfl rfl ?_
    refine WO_nil ?_
    refine WL_seq ?_
    apply WL_prune
    · (repeat (first | exact restr_nil | apply restr_cons rfl | apply restr_none rfl))
    refine WL_cond rfl (fun h16 => ?_) (fun h16 => ?_)
    · skip
      refine WL_reg ?_
      refine O_p rfl rfl rfl ?_
      refine O_p rfl rfl rfl ?_
      refine O_h rfl rfl rfl rfl ?_
      refine O_h (v := .lst [] true) rfl rfl rfl rfl ?_
      refine O_p rfl rfl rfl ?_
      refine O_h rfl rfl rfl (appz_ev rfl rfl h0 (by omega) rfl (by omega)) ?_
      refine O_p rfl rfl rfl ?_
      refine O_h rfl rfl rfl rfl ?_
      refine O_h rfl rfl rfl (cut_ev rfl rfl (by simp)) ?_
      refine O_p rfl rfl rfl ?_
      refine WO_nil ?_
      refine WL_seq ?_
      apply WL_prune
      · (repeat (first | exact restr_nil | apply restr_cons rfl | apply restr_none rfl))
      refine WL_seq ?_
      refine WL_reg ?_
      refine O_p rfl rfl rfl ?_
      refine O_p rfl rfl rfl ?_
      refine WO_nil ?_
      refine WL_ret ?_
      exact ⟨_, rfl, rfl, rfl⟩
    · skip
      simp at h16; omega
theorem concat_c (n : Nat) (ls : List (List Co)) (h0 : 0 < ls.flatten.length) (hk : ls.flatten.length ≤ 1000000) (hn : ls.length < n) (hm : ls.length ≤ 1000000) :
    pcall (tabOf tabL) (n + 2) 51 [.lst (ls.map encCL) false] = some (.ok (.lst (ls.flatten.map encC) false)) := by
  refine pcall_fin t51 ?_
  refine WL_seq ?_
  refine WL_reg ?_
  refine O_p rfl rfl rfl ?_
  refine WO_nil ?_
  refine WL_seq ?_
  apply WL_prune
  · (repeat (first | exact restr_nil | apply restr_cons rfl | apply restr_none rfl))
  refine WL_seq ?_
  refine WL_reg ?_
  refine O_p rfl rfl rfl ?_
  refine WO_nil ?_
  refine WL_seq ?_
  apply WL_prune
  · (repeat (first | exact restr_nil | apply restr_cons rfl | apply restr_none rfl))
  refine WL_seq ?_
  refine WL_seq ?_
  refine WL_reg ?_
  refine O_p rfl rfl rfl ?_
  refine O_h rfl rfl rfl rfl ?_
  refine O_p rfl rfl rfl ?_
  refine WO_nil ?_
  refine WL_seq ?_
  apply WL_prune
  · (repeat (first | exact restr_nil | apply restr_cons rfl | apply restr_none rfl))
  refine WL_block ?_
  apply WL_forc (α := Nat × Nat) (fun s => [(3, .int .i64 (s.1 : Nat)), (11, .int .i64 (s.2 : Nat))]) (fun s => s.2 ≤ ls.length ∧ s.1 + (ls.drop s.2).flatten.length = ls.flatten.length) (fun s => ls.length - s.2) ((0, 0)) (he := ?he) (hP := ?hP) (hk := ?hk) (round := ?round)
  case he =>
    (repeat (first | exact restr_nil | apply restr_cons rfl | apply restr_none rfl))
  case hP =>
    exact ⟨by simp, by simp⟩
  case hk =>
    show ls.length - 0 < n + 1; omega
  case round =>
    rintro ⟨c, i⟩ ⟨hi, hs⟩
    simp only at hi hs
    dsimp only [List.cons_append, List.nil_append] at *
    refine WL_seq ?_
    refine WL_reg ?_
    refine O_p rfl rfl rfl ?_
    refine WO_nil ?_
    refine WL_seq ?_
    apply WL_prune
    · (repeat (first | exact restr_nil | apply restr_cons rfl | apply restr_none rfl))
    refine WL_seq ?_
    refine WL_cond rfl (fun h12 => ?_) (fun h12 => ?_)
    · skip
      simp at h12
      obtain ⟨x, hx⟩ : ∃ x, (ls)[i]? = some x := ⟨_, List.getElem?_eq_getElem (by omega)⟩
      have hmx := List.mem_of_getElem? hx
      have hg := drop_of hx
      refine WL_skip ?_
      refine WL_seq ?_
      apply WL_prune
      · (repeat (first | exact restr_nil | apply restr_cons rfl | apply restr_none rfl))
      refine WL_seq ?_
      refine WL_block ?_
      refine WL_seq ?_
      refine WL_reg ?_
      refine O_ia rfl rfl (Int.natCast_nonneg _) (encCL_get hx) rfl rfl ?_
      refine O_h rfl rfl rfl rfl ?_
      refine O_p rfl rfl rfl ?_
      refine WO_nil ?_
      refine WL_seq ?_
      apply WL_prune
      · (repeat (first | exact restr_nil | apply restr_cons rfl | apply restr_none rfl))
      refine WL_seq ?_
      refine WL_reg ?_
      refine O_p rfl rfl rfl ?_
      refine O_p rfl rfl rfl ?_
      refine O_h rfl rfl rfl rfl ?_
      refine O_p rfl rfl rfl ?_
      refine O_p rfl rfl rfl ?_
      refine WO_nil ?_
      refine WL_seq ?_
      apply WL_prune
      · (repeat (first | exact restr_nil | apply restr_cons rfl | apply restr_none rfl))
      refine WL_seq ?_
      refine WL_reg ?_
      refine O_p rfl rfl rfl ?_
      refine O_p rfl rfl rfl ?_
      refine WO_nil ?_
      refine WL_seq ?_
      apply WL_prune
      · (repeat (first | exact restr_nil | apply restr_cons rfl | apply restr_none rfl))
      refine WL_cond rfl (fun h20 => ?_) (fun h20 => ?_)
      · skip
        rw [hg] at hs
        simp only [List.flatten_cons, List.length_append] at hs
        have := wrap_add (i := c) (j := x.length) (by omega)
        simp at h20; omega
      · skip
        refine WL_skip ?_
        refine WL_nil ?_
        refine Blk_norm (?_ : WL _ _ _ _ _)
        refine WL_seq ?_
        apply WL_prune
        · (repeat (first | exact restr_nil | apply restr_cons rfl | apply restr_none rfl))
        refine WL_reg ?_
        refine O_p rfl rfl rfl ?_
        refine O_p rfl rfl rfl ?_
        refine WO_nil ?_
        refine WL_nil ?_
        rw [hg] at hs
        simp only [List.flatten_cons, List.length_append] at hs
        refine RndC_norm ((c + x.length, i + 1)) (by refine ⟨?_, ?_⟩ <;> simp only <;> omega) (by show _ < _; omega) ?_ rfl
        · rw [show IntKind.i64.wrap ((c : Int) + (((x.map encC).length : Nat) : Int)) = ((c + x.length : Nat) : Int) by rw [List.length_map]; exact wrap_add (by omega), wrap_succ (by omega)]; (repeat (first | exact restr_nil | apply restr_cons rfl | apply restr_none rfl))
    · skip
      have hq : c = ls.flatten.length := by
        simp at h12
        rw [List.drop_eq_nil_of_le (by omega)] at hs; simpa using hs
      refine WL_exit ?_
      refine RndC_exit ?_
      refine Blk_exit (?_ : WL _ _ _ _ _)
      refine WL_seq ?_
      apply WL_prune
      · (repeat (first | exact restr_nil | apply restr_cons rfl | apply restr_none rfl))
      refine WL_seq ?_
      refine WL_reg ?_
      refine O_p rfl rfl rfl ?_
      refine O_c 61 rfl rfl (callA_raw (by rw [hq]; exact grow_c n _ _ h0 hk) rfl) ?_
      refine O_p rfl rfl rfl ?_
      refine WO_nil ?_
      refine WL_seq ?_
      apply WL_prune
      · (repeat (first | exact restr_nil | apply restr_cons rfl | apply restr_none rfl))
      refine WL_seq ?_
      refine WL_seq ?_
      refine WL_reg ?_
      refine O_p rfl rfl rfl ?_
      refine O_h rfl rfl rfl rfl ?_
      refine O_p rfl rfl rfl ?_
      refine WO_nil ?_
      refine WL_seq ?_
      apply WL_prune
      · (repeat (first | exact restr_nil | apply restr_cons rfl | apply restr_none rfl))
      refine WL_block ?_
      refine WL_seq ?_
      refine WL_own rfl ?_
      apply WL_forv (hc := [.dead]) (α := Nat × List Co) (fun s => [(6, .gl 1 s.2.length), (27, .int .i64 (s.1 : Nat))]) (fun s => [.grow 12 (s.2.map encC) none]) (fun s => s.1 ≤ ls.length ∧ s.2 ++ (ls.drop s.1).flatten = ls.flatten) (fun s => ls.length - s.1) ((0, [])) (he := ?he) (hh := ?hh) (hP := ?hP) (hk := ?hk) (round := ?round)
      case he =>
        (repeat (first | exact restr_nil | apply restr_cons rfl | apply restr_none rfl))
      case hh =>
        rfl
      case hP =>
        exact ⟨by simp, by simp⟩
      case hk =>
        show ls.length - 0 < n + 1; omega
      case round =>
        rintro ⟨i, xs⟩ ⟨hi, hs⟩
        simp only at hi hs
        dsimp only [List.cons_append, List.nil_append] at *
        refine WL_seq ?_
        refine WL_reg ?_
        refine O_p rfl rfl rfl ?_
        refine WO_nil ?_
        refine WL_seq ?_
        apply WL_prune
        · (repeat (first | exact restr_nil | apply restr_cons rfl | apply restr_none rfl))
        refine WL_seq ?_
        refine WL_cond rfl (fun h28 => ?_) (fun h28 => ?_)
        · skip
          simp at h28
          obtain ⟨x, hx⟩ : ∃ x, (ls)[i]? = some x := ⟨_, List.getElem?_eq_getElem (by omega)⟩
          have hmx := List.mem_of_getElem? hx
          have hg := drop_of hx
          refine WL_skip ?_
          refine WL_seq ?_
          apply WL_prune
          · (repeat (first | exact restr_nil | apply restr_cons rfl | apply restr_none rfl))
          refine WL_seq ?_
          refine WL_block ?_
          refine WL_seq ?_
          refine WL_reg ?_
          refine O_ia rfl rfl (Int.natCast_nonneg _) (encCL_get hx) rfl rfl ?_
          refine O_h rfl rfl rfl rfl ?_
          refine O_p rfl rfl rfl ?_
          refine WO_nil ?_
          refine WL_seq ?_
          apply WL_prune
          · (repeat (first | exact restr_nil | apply restr_cons rfl | apply restr_none rfl))
          refine WL_reg ?_
          refine O_p rfl rfl rfl ?_
          refine O_p rfl rfl rfl ?_
          rw [hg] at hs
          have hlen : xs.length + x.length ≤ 1000000 := by have := congrArg List.length hs; simp at this hk; omega
          refine O_appL rfl rfl rfl (by simp) (encC_w _) (encC_w _) (by simp; omega) rfl ?_
          refine O_p rfl rfl rfl ?_
          refine WO_nil ?_
          refine WL_nil ?_
          refine Blk_norm (?_ : WL _ _ _ _ _)
          refine WL_seq ?_
          apply WL_prune
          · (repeat (first | exact restr_nil | apply restr_cons rfl | apply restr_none rfl))
          refine WL_reg ?_
          refine O_p rfl rfl rfl ?_
          refine O_p rfl rfl rfl ?_
          refine WO_nil ?_
          refine WL_nil ?_
          refine RndV_norm ((i + 1, xs ++ x)) (by refine ⟨by simp only; omega, ?_⟩; simp only; rw [← hs]; simp) (by show _ < _; omega) ?_ ?_
          · rw [wrap_succ (by omega), show (xs.map encC).length + (x.map encC).length = (xs ++ x).length by simp]; (repeat (first | exact restr_nil | apply restr_cons rfl | apply restr_none rfl))
          · show trunc _ _ [ABlock.dead, ABlock.grow 12 (xs.map encC ++ x.map encC) none] = _; rw [← List.map_append]; rfl
        · skip
          have hr : ls.flatten = xs := by
            simp at h28
            rw [List.drop_eq_nil_of_le (by omega)] at hs; simpa using hs.symm
          refine WL_exit ?_
          refine RndV_exit ?_
          refine Blk_exit (?_ : WL _ _ _ _ _)
          refine WL_seq ?_
          apply WL_prune
          · (repeat (first | exact restr_nil | apply restr_cons rfl | apply restr_none rfl))
          refine WL_seq ?_
          refine WL_reg ?_
          refine O_p rfl rfl rfl ?_
          refine O_p rfl rfl rfl ?_
          refine WO_nil ?_
          refine WL_ret ?_
          exact ⟨_, rfl, .lst (xs.map encC) false, by simp [oneOr, shutR, growAt], by rw [hr]⟩
theorem concat_nil (n : Nat) : pcall (tabOf tabL) (n + 20) 51 [.lst [.lst [] false, .lst [] false] false] = some (.ok (.lst [] false)) := by kernel_rfl
theorem concat2_c (n : Nat) (a b : List Co) (h : a.length + b.length ≤ 1000000) : pcall (tabOf tabL) (n + 20) 51 [.lst [.lst (a.map encC) false, .lst (b.map encC) false] false] = some (.ok (.lst ((a ++ b).map encC) false)) := by
  rcases Nat.eq_zero_or_pos (a.length + b.length) with h0 | h0
  · obtain rfl : a = [] := List.length_eq_zero_iff.1 (by omega)
    obtain rfl : b = [] := List.length_eq_zero_iff.1 (by omega)
    exact concat_nil n
  · have := concat_c (n + 18) [a, b] (by simpa using h0) (by simpa using h) (by simp) (by simp)
    simpa [encCL] using this
theorem height_c : ∀ (n : Nat) (c : Co), 10 * szC c + 30 < n → szC c ≤ 1000000 → pcall (tabOf tabL) n 21 [vC c] = some (.ok (.int .i64 (hgC c : Nat)))
  | 0, c, h, _ => by omega
  | n + 1, c, h, hs1 => by
    have hz := szC_pos c
    obtain ⟨n, rfl⟩ : ∃ m, n = m + 20 := ⟨n - 20, by omega⟩
    have ih := height_c (n + 20)
    have hpf := lenC_both c
    refine pcall_fin t21 ?_
    refine WL_seq ?_
    refine WL_reg ?_
    refine O_n rfl rfl rfl ?_
    refine O_p rfl rfl rfl ?_
    refine WO_nil ?_
    refine WL_seq ?_
    apply WL_prune
    · (repeat (first | exact restr_nil | apply restr_cons rfl | apply restr_none rfl))
    refine WL_seq ?_
    refine WL_reg ?_
    refine O_p rfl rfl rfl ?_
    refine WO_nil ?_
    refine WL_seq ?_
    apply WL_prune
    · (repeat (first | exact restr_nil | apply restr_cons rfl | apply restr_none rfl))
    refine WL_seq ?_
    refine WL_seq ?_
    refine WL_reg ?_
    refine O_p rfl rfl rfl ?_
    refine O_h rfl rfl rfl rfl ?_
    refine O_p rfl rfl rfl ?_
    refine O_h rfl rfl rfl rfl ?_
    refine O_h rfl rfl rfl rfl ?_
    refine O_c 51 rfl rfl (callA_of rfl (concat2_c n c.pairs c.funs (by omega))) ?_
    refine O_h rfl rfl rfl rfl ?_
    refine O_p rfl rfl rfl ?_
    refine WO_nil ?_
    refine WL_seq ?_
    apply WL_prune
    · (repeat (first | exact restr_nil | apply restr_cons rfl | apply restr_none rfl))
    refine WL_block ?_
    apply WL_forc (α := Nat × Nat) (fun s => [(3, .int .i64 (s.1 : Nat)), (13, .int .i64 (s.2 : Nat))]) (fun s => s.2 ≤ (c.pairs ++ c.funs).length ∧ s.1 ≤ 1000000 ∧ hgCs (c.pairs ++ c.funs) = max s.1 (hgCs ((c.pairs ++ c.funs).drop s.2))) (fun s => (c.pairs ++ c.funs).length - s.2) ((0, 0)) (he := ?he) (hP := ?hP) (hk := ?hk) (round := ?round)
    case he =>
      (repeat (first | exact restr_nil | apply restr_cons rfl | apply restr_none rfl))
    case hP =>
      exact ⟨by simp, by simp, by simp⟩
    case hk =>
      show (c.pairs ++ c.funs).length - 0 < n + 20; simp; omega
    case round =>
      rintro ⟨m, i⟩ ⟨hi, hc1, hs⟩
      simp only at hi hc1 hs
      dsimp only [List.cons_append, List.nil_append] at *
      refine WL_seq ?_
      refine WL_reg ?_
      refine O_p rfl rfl rfl ?_
      refine WO_nil ?_
      refine WL_seq ?_
      apply WL_prune
      · (repeat (first | exact restr_nil | apply restr_cons rfl | apply restr_none rfl))
      refine WL_seq ?_
      refine WL_cond rfl (fun h14 => ?_) (fun h14 => ?_)
      · skip
        simp at h14
        obtain ⟨x, hx⟩ : ∃ x, (c.pairs ++ c.funs)[i]? = some x := ⟨_, List.getElem?_eq_getElem (by simp; omega)⟩
        have hmx := List.mem_of_getElem? hx
        have hg := drop_of hx
        have hsx : szC x < szC c := by rcases List.mem_append.1 hmx with q | q; exact szC_pairs q; exact szC_funs q
        have hgx := hg_sz x
        refine WL_skip ?_
        refine WL_seq ?_
        apply WL_prune
        · (repeat (first | exact restr_nil | apply restr_cons rfl | apply restr_none rfl))
        refine WL_seq ?_
        refine WL_block ?_
        refine WL_seq ?_
        refine WL_reg ?_
        refine O_ia rfl rfl (Int.natCast_nonneg _) (encC_get (i := (i : Nat)) hx) (encC_flat _) rfl ?_
        refine O_h rfl rfl rfl rfl ?_
        refine O_n rfl rfl rfl ?_
        refine O_hn rfl rfl rfl rfl ?_
        refine WO_nil ?_
        refine WL_seq ?_
        apply WL_prune
        · (repeat (first | exact restr_nil | apply restr_cons rfl | apply restr_none rfl))
        refine WL_reg ?_
        refine O_p rfl rfl rfl ?_
        refine O_h rfl rfl rfl rfl ?_
        refine O_c 21 rfl rfl (callA_of rfl (ih x (by omega) (by omega))) ?_
        refine O_p rfl rfl rfl ?_
        refine O_p rfl rfl rfl ?_
        refine WO_nil ?_
        refine WL_nil ?_
        refine Blk_norm (?_ : WL _ _ _ _ _)
        refine WL_seq ?_
        apply WL_prune
        · (repeat (first | exact restr_nil | apply restr_cons rfl | apply restr_none rfl))
        refine WL_reg ?_
        refine O_p rfl rfl rfl ?_
        refine O_p rfl rfl rfl ?_
        refine WO_nil ?_
        refine WL_nil ?_
        refine RndC_norm ((max m (hgC x), i + 1)) (by refine ⟨?_, ?_, ?_⟩ <;> simp only <;> first | (simp; omega) | omega | (rw [hs, hg, hgCs]; omega)) (by show _ < _; simp; omega) ?_ rfl
        · rw [mm_max, wrap_succ (by simp at hi; omega)]; (repeat (first | exact restr_nil | apply restr_cons rfl | apply restr_none rfl))
      · skip
        have hr : hgC c = m + 1 := by
          simp at h14
          rw [List.drop_eq_nil_of_le (by simp; omega)] at hs; rw [hgC_eq, ← hgCs_append, hs]; simp [hgCs]
        refine WL_exit ?_
        refine RndC_exit ?_
        refine Blk_exit (?_ : WL _ _ _ _ _)
        refine WL_seq ?_
        apply WL_prune
        · (repeat (first | exact restr_nil | apply restr_cons rfl | apply restr_none rfl))
        refine WL_seq ?_
        refine WL_reg ?_
        refine O_p rfl rfl rfl ?_
        refine O_p rfl rfl rfl ?_
        refine O_p rfl rfl rfl ?_
        refine WO_nil ?_
        refine WL_ret ?_
        refine ⟨_, rfl, _, rfl, ?_⟩
        rw [hr, wrap_succ (by omega)]
theorem size_c : ∀ (n : Nat) (c : Co), 10 * szC c + 30 < n → szC c ≤ 1000000 → pcall (tabOf tabL) n 22 [vC c] = some (.ok (.int .i64 (szC c : Nat)))
  | 0, c, h, _ => by omega
  | n + 1, c, h, hs1 => by
    have hz := szC_pos c
    obtain ⟨n, rfl⟩ : ∃ m, n = m + 20 := ⟨n - 20, by omega⟩
    have ih := size_c (n + 20)
    have hpf := lenC_both c
    have h0 : szC c = 1 + szCs (c.pairs ++ c.funs) := by rw [szC_eq, szCs_append]; omega
    refine pcall_fin t22 ?_
    refine WL_seq ?_
    refine WL_reg ?_
    refine O_n rfl rfl rfl ?_
    refine O_p rfl rfl rfl ?_
    refine WO_nil ?_
    refine WL_seq ?_
    apply WL_prune
    · (repeat (first | exact restr_nil | apply restr_cons rfl | apply restr_none rfl))
    refine WL_seq ?_
    refine WL_reg ?_
    refine O_p rfl rfl rfl ?_
    refine WO_nil ?_
    refine WL_seq ?_
    apply WL_prune
    · (repeat (first | exact restr_nil | apply restr_cons rfl | apply restr_none rfl))
    refine WL_seq ?_
    refine WL_seq ?_
    refine WL_reg ?_
    refine O_p rfl rfl rfl ?_
    refine O_h rfl rfl rfl rfl ?_
    refine O_p rfl rfl rfl ?_
    refine O_h rfl rfl rfl rfl ?_
    refine O_h rfl rfl rfl rfl ?_
    refine O_c 51 rfl rfl (callA_of rfl (concat2_c n c.pairs c.funs (by omega))) ?_
    refine O_h rfl rfl rfl rfl ?_
    refine O_p rfl rfl rfl ?_
    refine WO_nil ?_
    refine WL_seq ?_
    apply WL_prune
    · (repeat (first | exact restr_nil | apply restr_cons rfl | apply restr_none rfl))
    refine WL_block ?_
    apply WL_forc (α := Nat × Nat) (fun s => [(3, .int .i64 (s.1 : Nat)), (13, .int .i64 (s.2 : Nat))]) (fun s => s.2 ≤ (c.pairs ++ c.funs).length ∧ szC c = s.1 + szCs ((c.pairs ++ c.funs).drop s.2)) (fun s => (c.pairs ++ c.funs).length - s.2) ((1, 0)) (he := ?he) (hP := ?hP) (hk := ?hk) (round := ?round)
    case he =>
      (repeat (first | exact restr_nil | apply restr_cons rfl | apply restr_none rfl))
    case hP =>
      exact ⟨by simp, h0⟩
    case hk =>
      show (c.pairs ++ c.funs).length - 0 < n + 20; simp; omega
    case round =>
      rintro ⟨m, i⟩ ⟨hi, hs⟩
      simp only at hi hs
      dsimp only [List.cons_append, List.nil_append] at *
      refine WL_seq ?_
      refine WL_reg ?_
      refine O_p rfl rfl rfl ?_
      refine WO_nil ?_
      refine WL_seq ?_
      apply WL_prune
      · (repeat (first | exact restr_nil | apply restr_cons rfl | apply restr_none rfl))
      refine WL_seq ?_
      refine WL_cond rfl (fun h14 => ?_) (fun h14 => ?_)
      · skip
        simp at h14
        obtain ⟨x, hx⟩ : ∃ x, (c.pairs ++ c.funs)[i]? = some x := ⟨_, List.getElem?_eq_getElem (by simp; omega)⟩
        have hmx := List.mem_of_getElem? hx
        have hg := drop_of hx
        have hsx : szC x < szC c := by rcases List.mem_append.1 hmx with q | q; exact szC_pairs q; exact szC_funs q
        have hs2 := hs
        rw [hg, szCs] at hs2
        refine WL_skip ?_
        refine WL_seq ?_
        apply WL_prune
        · (repeat (first | exact restr_nil | apply restr_cons rfl | apply restr_none rfl))
        refine WL_seq ?_
        refine WL_block ?_
        refine WL_seq ?_
        refine WL_reg ?_
        refine O_ia rfl rfl (Int.natCast_nonneg _) (encC_get (i := (i : Nat)) hx) (encC_flat _) rfl ?_
        refine O_h rfl rfl rfl rfl ?_
        refine O_n rfl rfl rfl ?_
        refine O_hn rfl rfl rfl rfl ?_
        refine WO_nil ?_
        refine WL_seq ?_
        apply WL_prune
        · (repeat (first | exact restr_nil | apply restr_cons rfl | apply restr_none rfl))
        refine WL_reg ?_
        refine O_p rfl rfl rfl ?_
        refine O_h rfl rfl rfl rfl ?_
        refine O_c 22 rfl rfl (callA_of rfl (ih x (by omega) (by omega))) ?_
        refine O_p rfl rfl rfl ?_
        refine O_p rfl rfl rfl ?_
        refine WO_nil ?_
        refine WL_nil ?_
        refine Blk_norm (?_ : WL _ _ _ _ _)
        refine WL_seq ?_
        apply WL_prune
        · (repeat (first | exact restr_nil | apply restr_cons rfl | apply restr_none rfl))
        refine WL_reg ?_
        refine O_p rfl rfl rfl ?_
        refine O_p rfl rfl rfl ?_
        refine WO_nil ?_
        refine WL_nil ?_
        refine RndC_norm ((m + szC x, i + 1)) (by refine ⟨?_, ?_⟩ <;> simp only <;> first | (simp; omega) | omega) (by show _ < _; simp; omega) ?_ rfl
        · rw [wrap_add (by omega), wrap_succ (by simp at hi; omega)]; (repeat (first | exact restr_nil | apply restr_cons rfl | apply restr_none rfl))
      · skip
        have hr : szC c = m := by
          simp at h14
          rw [List.drop_eq_nil_of_le (by simp; omega)] at hs; rw [hs]; simp [szCs]
        refine WL_exit ?_
        refine RndC_exit ?_
        refine Blk_exit (?_ : WL _ _ _ _ _)
        refine WL_seq ?_
        apply WL_prune
        · (repeat (first | exact restr_nil | apply restr_cons rfl | apply restr_none rfl))
        refine WL_seq ?_
        refine WL_reg ?_
        refine O_p rfl rfl rfl ?_
        refine O_p rfl rfl rfl ?_
        refine WO_nil ?_
        refine WL_ret ?_
        refine ⟨_, rfl, _, rfl, ?_⟩
        rw [hr]
theorem heightR_c : ∀ (n : Nat) (c : Co), szC c < n → szC c ≤ 1000000 → pcall (tabOf tabL) n 29 [vC c] = some (.ok (.int .i64 (hgC c : Nat)))
  | 0, c, h, _ => by omega
  | n + 1, c, h, hs1 => by
    have ih := heightR_c n
    have hp := lenC_pairs c
    have hf := lenC_funs c
    refine pcall_fin t29 ?_
    refine WL_seq ?_
    refine WL_reg ?_
    refine O_n rfl rfl rfl ?_
    refine O_p rfl rfl rfl ?_
    refine WO_nil ?_
    refine WL_seq ?_
    apply WL_prune
    · (repeat (first | exact restr_nil | apply restr_cons rfl | apply restr_none rfl))
    refine WL_seq ?_
    refine WL_reg ?_
    refine O_p rfl rfl rfl ?_
    refine WO_nil ?_
    refine WL_seq ?_
    apply WL_prune
    · (repeat (first | exact restr_nil | apply restr_cons rfl | apply restr_none rfl))
    refine WL_seq ?_
    refine WL_seq ?_
    refine WL_reg ?_
    refine O_p rfl rfl rfl ?_
    refine WO_nil ?_
    refine WL_seq ?_
    apply WL_prune
    · (repeat (first | exact restr_nil | apply restr_cons rfl | apply restr_none rfl))
    refine WL_block ?_
    apply WL_forc (α := Nat × Nat) (fun s => [(3, .int .i64 (s.1 : Nat)), (4, .int .i64 (s.2 : Nat))]) (fun s => s.2 ≤ c.pairs.length ∧ s.1 ≤ 1000000 ∧ hgCs c.pairs = max s.1 (hgCs (c.pairs.drop s.2))) (fun s => c.pairs.length - s.2) ((0, 0)) (he := ?he) (hP := ?hP) (hk := ?hk) (round := ?round)
    case he =>
      (repeat (first | exact restr_nil | apply restr_cons rfl | apply restr_none rfl))
    case hP =>
      exact ⟨by simp, by simp, by simp⟩
    case hk =>
      show c.pairs.length - 0 < n; omega
    case round =>
      rintro ⟨m, i⟩ ⟨hi, hc1, hs⟩
      simp only at hi hc1 hs
      dsimp only [List.cons_append, List.nil_append] at *
      refine WL_seq ?_
      refine WL_seq ?_
      refine WL_reg ?_
      refine O_p rfl rfl rfl ?_
      refine O_p rfl rfl rfl ?_
      refine O_h rfl rfl rfl rfl ?_
      refine O_h rfl rfl rfl rfl ?_
      refine O_p rfl rfl rfl ?_
      refine WO_nil ?_
      refine WL_seq ?_
      apply WL_prune
      · (repeat (first | exact restr_nil | apply restr_cons rfl | apply restr_none rfl))
      refine WL_cond rfl (fun h10 => ?_) (fun h10 => ?_)
      · skip
        simp at h10
        obtain ⟨x, hx⟩ : ∃ x, (c.pairs)[i]? = some x := ⟨_, List.getElem?_eq_getElem (by omega)⟩
        have hmx := List.mem_of_getElem? hx
        have hsx := szC_pairs hmx
        have hg := drop_of hx
        have hgx := hg_sz x
        refine WL_skip ?_
        refine WL_seq ?_
        apply WL_prune
        · (repeat (first | exact restr_nil | apply restr_cons rfl | apply restr_none rfl))
        refine WL_seq ?_
        refine WL_block ?_
        refine WL_reg ?_
        refine O_p rfl rfl rfl ?_
        refine O_p rfl rfl rfl ?_
        refine O_h rfl rfl rfl rfl ?_
        refine O_p rfl rfl rfl ?_
        refine O_ia rfl rfl (Int.natCast_nonneg _) (encC_get (i := (i : Nat)) hx) (encC_flat _) rfl ?_
        refine O_h rfl rfl rfl rfl ?_
        refine O_c 29 rfl rfl (callA_of rfl (ih x (by omega) (by omega))) ?_
        refine O_p rfl rfl rfl ?_
        refine O_p rfl rfl rfl ?_
        refine WO_nil ?_
        refine WL_nil ?_
        refine Blk_norm (?_ : WL _ _ _ _ _)
        refine WL_seq ?_
        apply WL_prune
        · (repeat (first | exact restr_nil | apply restr_cons rfl | apply restr_none rfl))
        refine WL_reg ?_
        refine O_p rfl rfl rfl ?_
        refine O_p rfl rfl rfl ?_
        refine O_p rfl rfl rfl ?_
        refine WO_nil ?_
        refine WL_nil ?_
        refine RndC_norm ((max m (hgC x), i + 1)) (by refine ⟨?_, ?_, ?_⟩ <;> simp only <;> first | omega | (rw [hs, hg, hgCs]; omega)) (by show _ < _; omega) ?_ rfl
        · rw [mm_max, wrap_succ (by omega)]; (repeat (first | exact restr_nil | apply restr_cons rfl | apply restr_none rfl))
      · skip
        have hq : hgCs c.pairs = m := by
          simp at h10
          rw [hs, List.drop_eq_nil_of_le (by omega)]; simp [hgCs]
        refine WL_exit ?_
        refine RndC_exit ?_
        refine Blk_exit (?_ : WL _ _ _ _ _)
        refine WL_seq ?_
        apply WL_prune
        · (repeat (first | exact restr_nil | apply restr_cons rfl | apply restr_none rfl))
        refine WL_seq ?_
        refine WL_seq ?_
        refine WL_reg ?_
        refine O_p rfl rfl rfl ?_
        refine WO_nil ?_
        refine WL_seq ?_
        apply WL_prune
        · (repeat (first | exact restr_nil | apply restr_cons rfl | apply restr_none rfl))
        refine WL_block ?_
        apply WL_forc (α := Nat × Nat) (fun s => [(3, .int .i64 (s.1 : Nat)), (5, .int .i64 (s.2 : Nat))]) (fun s => s.2 ≤ c.funs.length ∧ s.1 ≤ 1000000 ∧ max (hgCs c.pairs) (hgCs c.funs) = max s.1 (hgCs (c.funs.drop s.2))) (fun s => c.funs.length - s.2) ((m, 0)) (he := ?he) (hP := ?hP) (hk := ?hk) (round := ?round)
        case he =>
          (repeat (first | exact restr_nil | apply restr_cons rfl | apply restr_none rfl))
        case hP =>
          exact ⟨by simp, hc1, by simp [hq]⟩
        case hk =>
          show c.funs.length - 0 < n; omega
        case round =>
          rintro ⟨m2, i⟩ ⟨hi, hc2, hs2⟩
          simp only at hi hc2 hs2
          dsimp only [List.cons_append, List.nil_append] at *
          refine WL_seq ?_
          refine WL_seq ?_
          refine WL_reg ?_
          refine O_p rfl rfl rfl ?_
          refine O_p rfl rfl rfl ?_
          refine O_h rfl rfl rfl rfl ?_
          refine O_h rfl rfl rfl rfl ?_
          refine O_p rfl rfl rfl ?_
          refine WO_nil ?_
          refine WL_seq ?_
          apply WL_prune
          · (repeat (first | exact restr_nil | apply restr_cons rfl | apply restr_none rfl))
          refine WL_cond rfl (fun h25 => ?_) (fun h25 => ?_)
          · skip
            simp at h25
            obtain ⟨x, hx⟩ : ∃ x, (c.funs)[i]? = some x := ⟨_, List.getElem?_eq_getElem (by omega)⟩
            have hmx := List.mem_of_getElem? hx
            have hsx := szC_funs hmx
            have hg := drop_of hx
            have hgx := hg_sz x
            refine WL_skip ?_
            refine WL_seq ?_
            apply WL_prune
            · (repeat (first | exact restr_nil | apply restr_cons rfl | apply restr_none rfl))
            refine WL_seq ?_
            refine WL_block ?_
            refine WL_reg ?_
            refine O_p rfl rfl rfl ?_
            refine O_p rfl rfl rfl ?_
            refine O_h rfl rfl rfl rfl ?_
            refine O_p rfl rfl rfl ?_
            refine O_ia rfl rfl (Int.natCast_nonneg _) (encC_get (i := (i : Nat)) hx) (encC_flat _) rfl ?_
            refine O_h rfl rfl rfl rfl ?_
            refine O_c 29 rfl rfl (callA_of rfl (ih x (by omega) (by omega))) ?_
            refine O_p rfl rfl rfl ?_
            refine O_p rfl rfl rfl ?_
            refine WO_nil ?_
            refine WL_nil ?_
            refine Blk_norm (?_ : WL _ _ _ _ _)
            refine WL_seq ?_
            apply WL_prune
            · (repeat (first | exact restr_nil | apply restr_cons rfl | apply restr_none rfl))
            refine WL_reg ?_
            refine O_p rfl rfl rfl ?_
            refine O_p rfl rfl rfl ?_
            refine O_p rfl rfl rfl ?_
            refine WO_nil ?_
            refine WL_nil ?_
            refine RndC_norm ((max m2 (hgC x), i + 1)) (by refine ⟨?_, ?_, ?_⟩ <;> simp only <;> first | omega | (rw [hs2, hg, hgCs]; omega)) (by show _ < _; omega) ?_ rfl
            · rw [mm_max, wrap_succ (by omega)]; (repeat (first | exact restr_nil | apply restr_cons rfl | apply restr_none rfl))
          · skip
            have hr : hgC c = m2 + 1 := by
              simp at h25
              rw [List.drop_eq_nil_of_le (by omega)] at hs2; rw [hgC_eq, hs2]; simp [hgCs]
            refine WL_exit ?_
            refine RndC_exit ?_
            refine Blk_exit (?_ : WL _ _ _ _ _)
            refine WL_seq ?_
            apply WL_prune
            · (repeat (first | exact restr_nil | apply restr_cons rfl | apply restr_none rfl))
            refine WL_seq ?_
            refine WL_reg ?_
            refine O_p rfl rfl rfl ?_
            refine O_p rfl rfl rfl ?_
            refine O_p rfl rfl rfl ?_
            refine WO_nil ?_
            refine WL_ret ?_
            refine ⟨_, rfl, _, rfl, ?_⟩
            rw [hr, wrap_succ (by omega)]
theorem sizeR_c : ∀ (n : Nat) (c : Co), szC c < n → szC c ≤ 1000000 → pcall (tabOf tabL) n 30 [vC c] = some (.ok (.int .i64 (szC c : Nat)))
  | 0, c, h, _ => by omega
  | n + 1, c, h, hs1 => by
    have ih := sizeR_c n
    have hp := lenC_pairs c
    have hf := lenC_funs c
    have h0 := szC_eq c
    refine pcall_fin t30 ?_
    refine WL_seq ?_
    refine WL_reg ?_
    refine O_n rfl rfl rfl ?_
    refine O_p rfl rfl rfl ?_
    refine WO_nil ?_
    refine WL_seq ?_
    apply WL_prune
    · (repeat (first | exact restr_nil | apply restr_cons rfl | apply restr_none rfl))
    refine WL_seq ?_
    refine WL_reg ?_
    refine O_p rfl rfl rfl ?_
    refine WO_nil ?_
    refine WL_seq ?_
    apply WL_prune
    · (repeat (first | exact restr_nil | apply restr_cons rfl | apply restr_none rfl))
    refine WL_seq ?_
    refine WL_seq ?_
    refine WL_reg ?_
    refine O_p rfl rfl rfl ?_
    refine WO_nil ?_
    refine WL_seq ?_
    apply WL_prune
    · (repeat (first | exact restr_nil | apply restr_cons rfl | apply restr_none rfl))
    refine WL_block ?_
    apply WL_forc (α := Nat × Nat) (fun s => [(3, .int .i64 (s.1 : Nat)), (4, .int .i64 (s.2 : Nat))]) (fun s => s.2 ≤ c.pairs.length ∧ szC c = s.1 + szCs (c.pairs.drop s.2) + szCs c.funs) (fun s => c.pairs.length - s.2) ((1, 0)) (he := ?he) (hP := ?hP) (hk := ?hk) (round := ?round)
    case he =>
      (repeat (first | exact restr_nil | apply restr_cons rfl | apply restr_none rfl))
    case hP =>
      exact ⟨by simp, h0⟩
    case hk =>
      show c.pairs.length - 0 < n; omega
    case round =>
      rintro ⟨m, i⟩ ⟨hi, hs⟩
      simp only at hi hs
      dsimp only [List.cons_append, List.nil_append] at *
      refine WL_seq ?_
      refine WL_seq ?_
      refine WL_reg ?_
      refine O_p rfl rfl rfl ?_
      refine O_p rfl rfl rfl ?_
      refine O_h rfl rfl rfl rfl ?_
      refine O_h rfl rfl rfl rfl ?_
      refine O_p rfl rfl rfl ?_
      refine WO_nil ?_
      refine WL_seq ?_
      apply WL_prune
      · (repeat (first | exact restr_nil | apply restr_cons rfl | apply restr_none rfl))
      refine WL_cond rfl (fun h10 => ?_) (fun h10 => ?_)
      · skip
        simp at h10
        obtain ⟨x, hx⟩ : ∃ x, (c.pairs)[i]? = some x := ⟨_, List.getElem?_eq_getElem (by omega)⟩
        have hmx := List.mem_of_getElem? hx
        have hsx := szC_pairs hmx
        have hg := drop_of hx
        have hs3 := hs
        rw [hg, szCs] at hs3
        refine WL_skip ?_
        refine WL_seq ?_
        apply WL_prune
        · (repeat (first | exact restr_nil | apply restr_cons rfl | apply restr_none rfl))
        refine WL_seq ?_
        refine WL_block ?_
        refine WL_reg ?_
        refine O_p rfl rfl rfl ?_
        refine O_p rfl rfl rfl ?_
        refine O_h rfl rfl rfl rfl ?_
        refine O_p rfl rfl rfl ?_
        refine O_ia rfl rfl (Int.natCast_nonneg _) (encC_get (i := (i : Nat)) hx) (encC_flat _) rfl ?_
        refine O_h rfl rfl rfl rfl ?_
        refine O_c 30 rfl rfl (callA_of rfl (ih x (by omega) (by omega))) ?_
        refine O_p rfl rfl rfl ?_
        refine O_p rfl rfl rfl ?_
        refine WO_nil ?_
        refine WL_nil ?_
        refine Blk_norm (?_ : WL _ _ _ _ _)
        refine WL_seq ?_
        apply WL_prune
        · (repeat (first | exact restr_nil | apply restr_cons rfl | apply restr_none rfl))
        refine WL_reg ?_
        refine O_p rfl rfl rfl ?_
        refine O_p rfl rfl rfl ?_
        refine O_p rfl rfl rfl ?_
        refine WO_nil ?_
        refine WL_nil ?_
        refine RndC_norm ((m + szC x, i + 1)) (by refine ⟨?_, ?_⟩ <;> simp only <;> omega) (by show _ < _; omega) ?_ rfl
        · rw [wrap_add (by omega), wrap_succ (by omega)]; (repeat (first | exact restr_nil | apply restr_cons rfl | apply restr_none rfl))
      · skip
        have hq : szC c = m + szCs c.funs := by
          simp at h10
          rw [List.drop_eq_nil_of_le (by omega)] at hs; simpa [szCs] using hs
        refine WL_exit ?_
        refine RndC_exit ?_
        refine Blk_exit (?_ : WL _ _ _ _ _)
        refine WL_seq ?_
        apply WL_prune
        · (repeat (first | exact restr_nil | apply restr_cons rfl | apply restr_none rfl))
        refine WL_seq ?_
        refine WL_seq ?_
        refine WL_reg ?_
        refine O_p rfl rfl rfl ?_
        refine WO_nil ?_
        refine WL_seq ?_
        apply WL_prune
        · (repeat (first | exact restr_nil | apply restr_cons rfl | apply restr_none rfl))
        refine WL_block ?_
        apply WL_forc (α := Nat × Nat) (fun s => [(3, .int .i64 (s.1 : Nat)), (5, .int .i64 (s.2 : Nat))]) (fun s => s.2 ≤ c.funs.length ∧ szC c = s.1 + szCs (c.funs.drop s.2)) (fun s => c.funs.length - s.2) ((m, 0)) (he := ?he) (hP := ?hP) (hk := ?hk) (round := ?round)
        case he =>
          (repeat (first | exact restr_nil | apply restr_cons rfl | apply restr_none rfl))
        case hP =>
          exact ⟨by simp, by simpa using hq⟩
        case hk =>
          show c.funs.length - 0 < n; omega
        case round =>
          rintro ⟨m2, i⟩ ⟨hi, hs2⟩
          simp only at hi hs2
          dsimp only [List.cons_append, List.nil_append] at *
          refine WL_seq ?_
          refine WL_seq ?_
          refine WL_reg ?_
          refine O_p rfl rfl rfl ?_
          refine O_p rfl rfl rfl ?_
          refine O_h rfl rfl rfl rfl ?_
          refine O_h rfl rfl rfl rfl ?_
          refine O_p rfl rfl rfl ?_
          refine WO_nil ?_
          refine WL_seq ?_
          apply WL_prune
          · (repeat (first | exact restr_nil | apply restr_cons rfl | apply restr_none rfl))
          refine WL_cond rfl (fun h25 => ?_) (fun h25 => ?_)
          · skip
            simp at h25
            obtain ⟨x, hx⟩ : ∃ x, (c.funs)[i]? = some x := ⟨_, List.getElem?_eq_getElem (by omega)⟩
            have hmx := List.mem_of_getElem? hx
            have hsx := szC_funs hmx
            have hg := drop_of hx
            have hs3 := hs2
            rw [hg, szCs] at hs3
            refine WL_skip ?_
            refine WL_seq ?_
            apply WL_prune
            · (repeat (first | exact restr_nil | apply restr_cons rfl | apply restr_none rfl))
            refine WL_seq ?_
            refine WL_block ?_
            refine WL_reg ?_
            refine O_p rfl rfl rfl ?_
            refine O_p rfl rfl rfl ?_
            refine O_h rfl rfl rfl rfl ?_
            refine O_p rfl rfl rfl ?_
            refine O_ia rfl rfl (Int.natCast_nonneg _) (encC_get (i := (i : Nat)) hx) (encC_flat _) rfl ?_
            refine O_h rfl rfl rfl rfl ?_
            refine O_c 30 rfl rfl (callA_of rfl (ih x (by omega) (by omega))) ?_
            refine O_p rfl rfl rfl ?_
            refine O_p rfl rfl rfl ?_
            refine WO_nil ?_
            refine WL_nil ?_
            refine Blk_norm (?_ : WL _ _ _ _ _)
            refine WL_seq ?_
            apply WL_prune
            · (repeat (first | exact restr_nil | apply restr_cons rfl | apply restr_none rfl))
            refine WL_reg ?_
            refine O_p rfl rfl rfl ?_
            refine O_p rfl rfl rfl ?_
            refine O_p rfl rfl rfl ?_
            refine WO_nil ?_
            refine WL_nil ?_
            refine RndC_norm ((m2 + szC x, i + 1)) (by refine ⟨?_, ?_⟩ <;> simp only <;> omega) (by show _ < _; omega) ?_ rfl
            · rw [wrap_add (by omega), wrap_succ (by omega)]; (repeat (first | exact restr_nil | apply restr_cons rfl | apply restr_none rfl))
          · skip
            have hr : szC c = m2 := by
              simp at h25
              rw [List.drop_eq_nil_of_le (by omega)] at hs2; simpa [szCs] using hs2
            refine WL_exit ?_
            refine RndC_exit ?_
            refine Blk_exit (?_ : WL _ _ _ _ _)
            refine WL_seq ?_
            apply WL_prune
            · (repeat (first | exact restr_nil | apply restr_cons rfl | apply restr_none rfl))
            refine WL_seq ?_
            refine WL_reg ?_
            refine O_p rfl rfl rfl ?_
            refine O_p rfl rfl rfl ?_
            refine WO_nil ?_
            refine WL_ret ?_
            refine ⟨_, rfl, _, rfl, ?_⟩
            rw [hr]
end Go.Ev.Seat
