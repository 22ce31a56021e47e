/-
  The functions about coercions: one, and then another one.
-/
import Derived.Test.YtbjoldcjbpngaaaCoerce5
import Derived.Test.YtbjoldcjbpngaaaCoB
set_option linter.unusedVariables false
set_option linter.unusedSimpArgs false
namespace Go.Ev.Seat
open Go Go.Ev
set_option maxRecDepth 20000
attribute [local irreducible] pcall callF
theorem orL_c (n : Nat) (l : List Int) (b : Bool) (hl : l.length < n) (hm : l.length < 1000000) : pcall (tabOf tabL) (n + 1) 47 [.lst (l.map encI) b] = some (.ok (.int .i64 (orL l))) := by
  refine pcall_fin t47 ?_
  refine WL_seq ?_
  refine WL_reg ?_
  refine O_p rfl rfl rfl ?_
  refine WO_nil ?_
  refine WL_seq ?_
  apply WL_prune
  · (repeat (first | exact restr_nil | apply restr_cons rfl | apply restr_none rfl))
  refine WL_seq ?_
  refine WL_reg ?_
  refine O_p rfl rfl rfl ?_
  refine WO_nil ?_
  refine WL_seq ?_
  apply WL_prune
  · (repeat (first | exact restr_nil | apply restr_cons rfl | apply restr_none rfl))
  refine WL_seq ?_
  refine WL_seq ?_
  refine WL_reg ?_
  refine O_p rfl rfl rfl ?_
  refine O_h rfl rfl rfl rfl ?_
  refine O_p rfl rfl rfl ?_
  refine WO_nil ?_
  refine WL_seq ?_
  apply WL_prune
  · (repeat (first | exact restr_nil | apply restr_cons rfl | apply restr_none rfl))
  refine WL_block ?_
  apply WL_forc (α := Nat) (fun i => [(8, .int .i64 (i : Nat))]) (fun i => i ≤ l.length ∧ orL l = orL (l.drop i)) (fun i => l.length - i) (0) (he := ?he) (hP := ?hP) (hk := ?hk) (round := ?round)
  case he =>
    (repeat (first | exact restr_nil | apply restr_cons rfl | apply restr_none rfl))
  case hP =>
    exact ⟨by omega, rfl⟩
  case hk =>
    show l.length - 0 < n; omega
  case round =>
    rintro i ⟨hi, hs⟩
    dsimp only [List.cons_append, List.nil_append] at *
    refine WL_seq ?_
    refine WL_reg ?_
    refine O_p rfl rfl rfl ?_
    refine WO_nil ?_
    refine WL_seq ?_
    apply WL_prune
    · (repeat (first | exact restr_nil | apply restr_cons rfl | apply restr_none rfl))
    refine WL_seq ?_
    refine WL_cond rfl (fun h9 => ?_) (fun h9 => ?_)
    · skip
      simp at h9
      obtain ⟨x, hx⟩ : ∃ x, (l)[i]? = some x := ⟨_, List.getElem?_eq_getElem (by omega)⟩
      have hmx := List.mem_of_getElem? hx
      have hg := drop_of hx
      refine WL_skip ?_
      refine WL_seq ?_
      apply WL_prune
      · (repeat (first | exact restr_nil | apply restr_cons rfl | apply restr_none rfl))
      refine WL_seq ?_
      refine WL_block ?_
      refine WL_seq ?_
      refine WL_reg ?_
      refine O_ia rfl rfl (Int.natCast_nonneg _) (encI_get hx) rfl rfl ?_
      refine O_h rfl rfl rfl rfl ?_
      refine O_p rfl rfl rfl ?_
      refine WO_nil ?_
      refine WL_seq ?_
      apply WL_prune
      · (repeat (first | exact restr_nil | apply restr_cons rfl | apply restr_none rfl))
      refine WL_seq ?_
      refine WL_reg ?_
      refine O_p rfl rfl rfl ?_
      refine O_p rfl rfl rfl ?_
      refine O_p rfl rfl rfl ?_
      refine WO_nil ?_
      refine WL_seq ?_
      apply WL_prune
      · (repeat (first | exact restr_nil | apply restr_cons rfl | apply restr_none rfl))
      refine WL_cond rfl (fun h14 => ?_) (fun h14 => ?_)
      · skip
        have hr : orL l = x := by
          simp at h14
          rw [hs, hg, orL, if_neg h14]
        refine WL_seq ?_
        refine WL_reg ?_
        refine O_p rfl rfl rfl ?_
        refine O_p rfl rfl rfl ?_
        refine WO_nil ?_
        refine WL_ret ?_
        refine Blk_ret ?_
        refine RndC_ret ?_
        refine Blk_ret ?_
        exact ⟨_, rfl, _, rfl, by rw [hr]⟩
      · skip
        simp at h14
        refine WL_skip ?_
        refine WL_nil ?_
        refine Blk_norm (?_ : WL _ _ _ _ _)
        refine WL_seq ?_
        apply WL_prune
        · (repeat (first | exact restr_nil | apply restr_cons rfl | apply restr_none rfl))
        refine WL_reg ?_
        refine O_p rfl rfl rfl ?_
        refine O_p rfl rfl rfl ?_
        refine WO_nil ?_
        refine WL_nil ?_
        refine RndC_norm (i + 1) (by refine ⟨by omega, ?_⟩; rw [hs, hg, orL, if_pos h14]) (by show _ < _; omega) ?_ rfl
        · rw [wrap_succ (by omega)]; (repeat (first | exact restr_nil | apply restr_cons rfl | apply restr_none rfl))
    · skip
      have hr : orL l = 0 := by
        simp at h9
        rw [hs, List.drop_eq_nil_of_le (by omega)]; rfl
      refine WL_exit ?_
      refine RndC_exit ?_
      refine Blk_exit (?_ : WL _ _ _ _ _)
      refine WL_seq ?_
      apply WL_prune
      · (repeat (first | exact restr_nil | apply restr_cons rfl | apply restr_none rfl))
      refine WL_seq ?_
      refine WL_reg ?_
      refine O_p rfl rfl rfl ?_
      refine O_p rfl rfl rfl ?_
      refine WO_nil ?_
      refine WL_ret ?_
      exact ⟨_, rfl, _, rfl, by rw [hr]⟩
theorem or_c (n : Nat) (x y : Int) (b : Bool) (hn : 3 < n) : pcall (tabOf tabL) n 47 [.lst [.int .i64 x, .int .i64 y] b] = some (.ok (.int .i64 (orI x y))) := by
  obtain ⟨n, rfl⟩ : ∃ m, n = m + 1 := ⟨n - 1, by omega⟩
  have := orL_c n [x, y] b (by simp; omega) (by simp)
  rw [← orL_two]; exact this
theorem fst_c (n : Nat) (x y : Int) : pcall (tabOf tabL) (n + 1) 48 [.int .i64 x, .int .i64 y] = some (.ok (.bool (decide (x = 1) || decide (y = 0)))) := by
  refine pcall_fin t48 ?_
  refine WL_seq ?_
  refine WL_reg ?_
  refine O_p rfl rfl rfl ?_
  refine WO_nil ?_
  refine WL_seq ?_
  apply WL_prune
  · (repeat (first | exact restr_nil | apply restr_cons rfl | apply restr_none rfl))
  refine WL_seq ?_
  refine WL_reg ?_
  refine O_p rfl rfl rfl ?_
  refine O_p rfl rfl rfl ?_
  refine O_p rfl rfl rfl ?_
  apply O_or [_, _] rfl rfl (hT := ?hT10) (h := ?hR10)
  case hT10 =>
    intro hb7
    refine O_p rfl rfl rfl ?_
    refine O_p rfl rfl rfl ?_
    exact WO_nil (WL_nil ⟨rfl, rfl, rfl⟩)
  case hR10 =>
    intro vs hvs
    obtain ⟨u8, u9, rfl⟩ := len2 hvs
    clear hvs; dsimp only [junk]
    refine O_p rfl rfl rfl ?_
    refine WO_nil ?_
    refine WL_ret ?_
    exact ⟨_, rfl, _, rfl, rfl⟩
def gI (a b : Co) (i j : Nat) : Int := if j < i then orI (a.flat j) (b.flat j) else a.flat j
def fC (g : Nat → Int) (p l : Int) (ps : AVal) (f m : Int) (gs : AVal) : List AVal := [.int .i64 (g 0), .int .i64 (g 1), .int .i64 (g 2), .int .i64 (g 3), .int .i64 (g 4), .int .i64 (g 5), .int .i64 p, .int .i64 l, ps, .int .i64 f, .int .i64 m, gs]
theorem fC_step {a b : Co} {i : Nat} (h : i < 6) {p l : Int} {ps : AVal} {f m : Int} {gs : AVal} : (fC (gI a b i) p l ps f m gs).set (0 + i * 1) (.int .i64 (orI (a.flat i) (b.flat i))) = fC (gI a b (i + 1)) p l ps f m gs := by
  obtain rfl | rfl | rfl | rfl | rfl | rfl : i = 0 ∨ i = 1 ∨ i = 2 ∨ i = 3 ∨ i = 4 ∨ i = 5 := by omega
  all_goals rfl
theorem gI_six (a b : Co) : fC (gI a b 6) = fC (fun j => orI (a.flat j) (b.flat j)) := by
  funext p l ps f m gs; rfl
theorem fC_eq (g : Nat → Int) (p l : Int) (ps : List Co) (f m : Int) (gs : List Co) : fC g p l (.lst (ps.map encC) false) f m (.lst (gs.map encC) false) = cC (.mk g p l ps f m gs) := rfl
set_option maxHeartbeats 1000000 in
theorem comp_c (k n : Nat) (a b : Co) (ra : RtC a) (rb : RtC b) (hk : szC a + szC b ≤ k + 1) (hn : 20 * (k + 1) + 40 < n + 1)
    (ih : ∀ (a b : Co), RtC a → RtC b → szC a + szC b ≤ k → pcall (tabOf tabL) n 18 [vC a, vC b] = some (.ok (vC (compC k a b)))) : pcall (tabOf tabL) (n + 1) 18 [vC a, vC b] = some (.ok (vC (compC (k + 1) a b))) := by
  obtain ⟨n, rfl⟩ : ∃ m, n = m + 10 := ⟨n - 10, by omega⟩
  have fa := okC_facts ra.ok
  have fb := okC_facts rb.ok
  refine pcall_fin t18 ?_
  refine WL_seq ?_
  refine WL_reg ?_
  refine O_n rfl rfl rfl ?_
  refine O_n rfl rfl rfl ?_
  refine O_n rfl rfl rfl ?_
  refine WO_nil ?_
  refine WL_seq ?_
  apply WL_prune
  · (repeat (first | exact restr_nil | apply restr_cons rfl | apply restr_none rfl))
  conv => arg 4; (try simp only [List.set_cons_zero, List.set_cons_succ, List.nil_append, List.cons_append, List.length_cons, List.length_nil, Nat.zero_add, Nat.add_zero, Nat.reduceAdd, putCells_cT, take_cT,  putCells, List.take_succ_cons, List.take_zero, List.take_nil, List.drop_succ_cons, List.drop_zero, List.drop_nil, AVal.flat, List.replicate_succ, List.replicate_zero])
  conv => arg 3; (try simp only [List.set_cons_zero, List.set_cons_succ, List.nil_append, List.cons_append, List.length_cons, List.length_nil, Nat.zero_add, Nat.add_zero, Nat.reduceAdd, putCells_cT, take_cT,  putCells, List.take_succ_cons, List.take_zero, List.take_nil, List.drop_succ_cons, List.drop_zero, List.drop_nil, AVal.flat, List.replicate_succ, List.replicate_zero])
  refine WL_seq ?_
  refine WL_reg ?_
  refine O_h rfl rfl rfl rfl ?_
  refine O_n rfl rfl rfl ?_
  refine O_hn rfl rfl rfl rfl ?_
  refine WO_nil ?_
  refine WL_seq ?_
  apply WL_prune
  · (repeat (first | exact restr_nil | apply restr_cons rfl | apply restr_none rfl))
  conv => arg 4; (try simp only [List.set_cons_zero, List.set_cons_succ, List.nil_append, List.cons_append, List.length_cons, List.length_nil, Nat.zero_add, Nat.add_zero, Nat.reduceAdd, putCells_cT, take_cT,  putCells, List.take_succ_cons, List.take_zero, List.take_nil, List.drop_succ_cons, List.drop_zero, List.drop_nil, AVal.flat, List.replicate_succ, List.replicate_zero])
  conv => arg 3; (try simp only [List.set_cons_zero, List.set_cons_succ, List.nil_append, List.cons_append, List.length_cons, List.length_nil, Nat.zero_add, Nat.add_zero, Nat.reduceAdd, putCells_cT, take_cT,  putCells, List.take_succ_cons, List.take_zero, List.take_nil, List.drop_succ_cons, List.drop_zero, List.drop_nil, AVal.flat, List.replicate_succ, List.replicate_zero])
  refine WL_seq ?_
  refine WL_seq ?_
  refine WL_reg ?_
  refine O_p rfl rfl rfl ?_
  refine WO_nil ?_
  refine WL_seq ?_
  apply WL_prune
  · (repeat (first | exact restr_nil | apply restr_cons rfl | apply restr_none rfl))
  conv => arg 4; (try simp only [List.set_cons_zero, List.set_cons_succ, List.nil_append, List.cons_append, List.length_cons, List.length_nil, Nat.zero_add, Nat.add_zero, Nat.reduceAdd, putCells_cT, take_cT,  putCells, List.take_succ_cons, List.take_zero, List.take_nil, List.drop_succ_cons, List.drop_zero, List.drop_nil, AVal.flat, List.replicate_succ, List.replicate_zero])
  conv => arg 3; (try simp only [List.set_cons_zero, List.set_cons_succ, List.nil_append, List.cons_append, List.length_cons, List.length_nil, Nat.zero_add, Nat.add_zero, Nat.reduceAdd, putCells_cT, take_cT,  putCells, List.take_succ_cons, List.take_zero, List.take_nil, List.drop_succ_cons, List.drop_zero, List.drop_nil, AVal.flat, List.replicate_succ, List.replicate_zero])
  refine WL_block ?_
  apply WL_forv (hc := [.cells (cC a), .cells (cC b), .cells [.int .i64 0, .int .i64 0, .int .i64 0, .int .i64 0, .int .i64 0, .int .i64 0, .int .i64 0, .int .i64 0, .lst [] true, .int .i64 0, .int .i64 0, .lst [] true]]) (α := Nat) (fun i => [(11, .int .i64 (i : Nat))]) (fun i => [.cells (fC (gI a b i) a.pair a.plab (.lst (a.pairs.map encC) false) a.fn a.flab (.lst (a.funs.map encC) false))]) (fun i => i ≤ 6) (fun i => 6 - i) (0) (he := ?he) (hh := ?hh) (hP := ?hP) (hk := ?hk) (round := ?round)
  case he =>
    (repeat (first | exact restr_nil | apply restr_cons rfl | apply restr_none rfl))
  case hh =>
    rfl
  case hP =>
    omega
  case hk =>
    show 6 - 0 < n + 10; omega
  case round =>
    rintro i hi
    dsimp only [List.cons_append, List.nil_append] at *
    refine WL_seq ?_
    refine WL_reg ?_
    refine O_p rfl rfl rfl ?_
    refine WO_nil ?_
    refine WL_seq ?_
    apply WL_prune
    · (repeat (first | exact restr_nil | apply restr_cons rfl | apply restr_none rfl))
    conv => arg 4; (try simp only [List.set_cons_zero, List.set_cons_succ, List.nil_append, List.cons_append, List.length_cons, List.length_nil, Nat.zero_add, Nat.add_zero, Nat.reduceAdd, putCells_cT, take_cT,  putCells, List.take_succ_cons, List.take_zero, List.take_nil, List.drop_succ_cons, List.drop_zero, List.drop_nil, AVal.flat, List.replicate_succ, List.replicate_zero])
    conv => arg 3; (try simp only [List.set_cons_zero, List.set_cons_succ, List.nil_append, List.cons_append, List.length_cons, List.length_nil, Nat.zero_add, Nat.add_zero, Nat.reduceAdd, putCells_cT, take_cT,  putCells, List.take_succ_cons, List.take_zero, List.take_nil, List.drop_succ_cons, List.drop_zero, List.drop_nil, AVal.flat, List.replicate_succ, List.replicate_zero])
    refine WL_seq ?_
    refine WL_cond rfl (fun h12 => ?_) (fun h12 => ?_)
    · skip
      replace h12 : i < 6 := by simp at h12; omega
      refine WL_skip ?_
      refine WL_seq ?_
      apply WL_prune
      · (repeat (first | exact restr_nil | apply restr_cons rfl | apply restr_none rfl))
      conv => arg 4; (try simp only [List.set_cons_zero, List.set_cons_succ, List.nil_append, List.cons_append, List.length_cons, List.length_nil, Nat.zero_add, Nat.add_zero, Nat.reduceAdd, putCells_cT, take_cT,  putCells, List.take_succ_cons, List.take_zero, List.take_nil, List.drop_succ_cons, List.drop_zero, List.drop_nil, AVal.flat, List.replicate_succ, List.replicate_zero])
      conv => arg 3; (try simp only [List.set_cons_zero, List.set_cons_succ, List.nil_append, List.cons_append, List.length_cons, List.length_nil, Nat.zero_add, Nat.add_zero, Nat.reduceAdd, putCells_cT, take_cT,  putCells, List.take_succ_cons, List.take_zero, List.take_nil, List.drop_succ_cons, List.drop_zero, List.drop_nil, AVal.flat, List.replicate_succ, List.replicate_zero])
      refine WL_seq ?_
      refine WL_block ?_
      refine WL_seq ?_
      refine WL_reg ?_
      refine O_p rfl rfl rfl ?_
      refine O_p rfl rfl rfl ?_
      refine WO_nil ?_
      refine WL_seq ?_
      apply WL_prune
      · (repeat (first | exact restr_nil | apply restr_cons rfl | apply restr_none rfl))
      conv => arg 4; (try simp only [List.set_cons_zero, List.set_cons_succ, List.nil_append, List.cons_append, List.length_cons, List.length_nil, Nat.zero_add, Nat.add_zero, Nat.reduceAdd, putCells_cT, take_cT,  putCells, List.take_succ_cons, List.take_zero, List.take_nil, List.drop_succ_cons, List.drop_zero, List.drop_nil, AVal.flat, List.replicate_succ, List.replicate_zero])
      conv => arg 3; (try simp only [List.set_cons_zero, List.set_cons_succ, List.nil_append, List.cons_append, List.length_cons, List.length_nil, Nat.zero_add, Nat.add_zero, Nat.reduceAdd, putCells_cT, take_cT,  putCells, List.take_succ_cons, List.take_zero, List.take_nil, List.drop_succ_cons, List.drop_zero, List.drop_nil, AVal.flat, List.replicate_succ, List.replicate_zero])
      refine WL_draw0 ?_
      refine D_p rfl rfl rfl ?_
      refine D_p rfl rfl rfl ?_
      refine D_p rfl rfl rfl ?_
      refine D_iaa rfl rfl h12 ?_
      refine D_ld (v := .int .i64 (a.flat i)) rfl rfl (by simp; exact cC_get h12) ?_
      refine D_p rfl rfl rfl ?_
      refine D_p rfl rfl rfl ?_
      refine D_iaa rfl rfl h12 ?_
      refine D_ld (v := .int .i64 (b.flat i)) rfl rfl (by simp; exact cC_get h12) ?_
      refine D_h (d := some 23) rfl rfl rfl rfl rfl ?_
      refine D_c 47 rfl rfl rfl (callA_of rfl (or_c _ _ _ _ (by omega))) ?_
      refine D_p rfl rfl rfl ?_
      refine D_iaa rfl rfl h12 ?_
      refine D_st rfl rfl rfl rfl rfl (by simp [fC]; omega) rfl (fC_step h12) rfl ?_
      refine WD_nil ⟨by first | rfl | (simp [okFs, okEarlier, disj, notIn, noneIn, sameOn, sameB_self, glsL, glsV, partsGls, AOpd.ev, zeroB, outB] <;> (repeat' apply And.intro) <;> rfl), ?_⟩
      refine WL_nil ?_
      refine Blk_norm (?_ : WL _ _ _ _ _)
      refine WL_seq ?_
      apply WL_prune
      · (repeat (first | exact restr_nil | apply restr_cons rfl | apply restr_none rfl))
      conv => arg 4; (try simp only [List.set_cons_zero, List.set_cons_succ, List.nil_append, List.cons_append, List.length_cons, List.length_nil, Nat.zero_add, Nat.add_zero, Nat.reduceAdd, putCells_cT, take_cT,  putCells, List.take_succ_cons, List.take_zero, List.take_nil, List.drop_succ_cons, List.drop_zero, List.drop_nil, AVal.flat, List.replicate_succ, List.replicate_zero])
      conv => arg 3; (try simp only [List.set_cons_zero, List.set_cons_succ, List.nil_append, List.cons_append, List.length_cons, List.length_nil, Nat.zero_add, Nat.add_zero, Nat.reduceAdd, putCells_cT, take_cT,  putCells, List.take_succ_cons, List.take_zero, List.take_nil, List.drop_succ_cons, List.drop_zero, List.drop_nil, AVal.flat, List.replicate_succ, List.replicate_zero])
      refine WL_reg ?_
      refine O_p rfl rfl rfl ?_
      refine O_p rfl rfl rfl ?_
      refine WO_nil ?_
      refine WL_nil ?_
      refine RndV_norm (i + 1) (by omega) (by show _ < _; omega) ?_ rfl
      · rw [wrap_succ (by omega)]; (repeat (first | exact restr_nil | apply restr_cons rfl | apply restr_none rfl))
    · skip
      simp at h12
      obtain rfl : i = 6 := by omega
      rw [gI_six]
      refine WL_exit ?_
      refine RndV_exit ?_
      refine Blk_exit (?_ : WL _ _ _ _ _)
      refine WL_seq ?_
      apply WL_prune
      · (repeat (first | exact restr_nil | apply restr_cons rfl | apply restr_none rfl))
      conv => arg 4; (try simp only [List.set_cons_zero, List.set_cons_succ, List.nil_append, List.cons_append, List.length_cons, List.length_nil, Nat.zero_add, Nat.add_zero, Nat.reduceAdd, putCells_cT, take_cT,  putCells, List.take_succ_cons, List.take_zero, List.take_nil, List.drop_succ_cons, List.drop_zero, List.drop_nil, AVal.flat, List.replicate_succ, List.replicate_zero])
      conv => arg 3; (try simp only [List.set_cons_zero, List.set_cons_succ, List.nil_append, List.cons_append, List.length_cons, List.length_nil, Nat.zero_add, Nat.add_zero, Nat.reduceAdd, putCells_cT, take_cT,  putCells, List.take_succ_cons, List.take_zero, List.take_nil, List.drop_succ_cons, List.drop_zero, List.drop_nil, AVal.flat, List.replicate_succ, List.replicate_zero])
      refine WL_seq ?_
      refine WL_cut (fun e H => restr e [2, 3, 4, 5] = [(2, .ptr 0 0), (3, .ptr 1 0), (4, .ptr 2 0), (5, .ptr 3 0)] ∧ ∃ f, H = [.cells (cC a), .cells (cC b), .cells [.int .i64 0, .int .i64 0, .int .i64 0, .int .i64 0, .int .i64 0, .int .i64 0, .int .i64 0, .int .i64 0, .lst [] true, .int .i64 0, .int .i64 0, .lst [] true], .cells (fC (fun j => orI (a.flat j) (b.flat j)) (pairP (compC k) a b).1 (pairP (compC k) a b).2.1 (.lst ((pairP (compC k) a b).2.2.map encC) f) a.fn a.flab (.lst (a.funs.map encC) false))]) ?_ ?_
      · skip
        refine WL_block ?_
        refine WL_seq ?_
        refine WL_reg ?_
        refine O_p rfl rfl rfl ?_
        refine O_h rfl rfl rfl rfl ?_
        refine O_p rfl rfl rfl ?_
        refine O_h rfl rfl rfl rfl ?_
        refine O_c 48 rfl rfl (callA_of rfl (fst_c _ _ _)) ?_
        refine O_p rfl rfl rfl ?_
        refine WO_nil ?_
        refine WL_seq ?_
        apply WL_prune
        · (repeat (first | exact restr_nil | apply restr_cons rfl | apply restr_none rfl))
        conv => arg 4; (try simp only [List.set_cons_zero, List.set_cons_succ, List.nil_append, List.cons_append, List.length_cons, List.length_nil, Nat.zero_add, Nat.add_zero, Nat.reduceAdd, putCells_cT, take_cT,  putCells, List.take_succ_cons, List.take_zero, List.take_nil, List.drop_succ_cons, List.drop_zero, List.drop_nil, AVal.flat, List.replicate_succ, List.replicate_zero])
        conv => arg 3; (try simp only [List.set_cons_zero, List.set_cons_succ, List.nil_append, List.cons_append, List.length_cons, List.length_nil, Nat.zero_add, Nat.add_zero, Nat.reduceAdd, putCells_cT, take_cT,  putCells, List.take_succ_cons, List.take_zero, List.take_nil, List.drop_succ_cons, List.drop_zero, List.drop_nil, AVal.flat, List.replicate_succ, List.replicate_zero])
        refine WL_cond rfl (fun h42 => ?_) (fun h42 => ?_)
        · skip
          have hP : pairP (compC k) a b = (a.pair, a.plab, a.pairs) := by simp at h42; unfold pairP; rw [if_pos h42]
          refine WL_skip ?_
          refine WL_nil ?_
          refine Blk_norm (?_ : WL _ _ _ _ _)
          refine WL_nil ?_
          first | exact ⟨by (repeat (first | exact restr_nil | apply restr_cons rfl | apply restr_none rfl)), false, by rw [hP]; (try simp only [List.map_cons, List.map_nil, encC_eq]); first | done | rfl⟩ | exact ⟨by (repeat (first | exact restr_nil | apply restr_cons rfl | apply restr_none rfl)), true, by rw [hP]; (try simp only [List.map_cons, List.map_nil, encC_eq]); first | done | rfl⟩
        · skip
          replace h42 : ¬(a.pair = 1 ∨ b.pair = 0) := by simpa using h42
          refine WL_seq ?_
          refine WL_reg ?_
          refine O_p rfl rfl rfl ?_
          refine O_h rfl rfl rfl rfl ?_
          refine O_p rfl rfl rfl ?_
          refine O_p rfl rfl rfl ?_
          apply O_or [_, _, _] rfl rfl (hT := ?hT56) (h := ?hR56)
          case hT56 =>
            intro hb52
            refine O_p rfl rfl rfl ?_
            refine O_h rfl rfl rfl rfl ?_
            refine O_p rfl rfl rfl ?_
            exact WO_nil (WL_nil ⟨rfl, rfl, rfl⟩)
          case hR56 =>
            intro vs hvs
            obtain ⟨u53, u54, u55, rfl⟩ := len3 hvs
            clear hvs; dsimp only [junk]
            refine O_p rfl rfl rfl ?_
            refine WO_nil ?_
            refine WL_seq ?_
            apply WL_prune
            · (repeat (first | exact restr_nil | apply restr_cons rfl | apply restr_none rfl))
            conv => arg 4; (try simp only [List.set_cons_zero, List.set_cons_succ, List.nil_append, List.cons_append, List.length_cons, List.length_nil, Nat.zero_add, Nat.add_zero, Nat.reduceAdd, putCells_cT, take_cT,  putCells, List.take_succ_cons, List.take_zero, List.take_nil, List.drop_succ_cons, List.drop_zero, List.drop_nil, AVal.flat, List.replicate_succ, List.replicate_zero])
            conv => arg 3; (try simp only [List.set_cons_zero, List.set_cons_succ, List.nil_append, List.cons_append, List.length_cons, List.length_nil, Nat.zero_add, Nat.add_zero, Nat.reduceAdd, putCells_cT, take_cT,  putCells, List.take_succ_cons, List.take_zero, List.take_nil, List.drop_succ_cons, List.drop_zero, List.drop_nil, AVal.flat, List.replicate_succ, List.replicate_zero])
            try clear u53 u54 u55
            refine WL_cond rfl (fun h48 => ?_) (fun h48 => ?_)
            · skip
              have hP : pairP (compC k) a b = (b.pair, b.plab, b.pairs) := by simp at h48; unfold pairP; rw [if_neg h42, if_pos h48]
              refine WL_draw0 ?_
              refine D_p rfl rfl rfl ?_
              refine D_h (d := some 58) rfl rfl rfl rfl rfl ?_
              refine D_p rfl rfl rfl ?_
              refine D_h (d := some 60) rfl rfl rfl rfl rfl ?_
              refine D_p rfl rfl rfl ?_
              refine D_h (d := some 62) rfl rfl rfl rfl rfl ?_
              refine D_p rfl rfl rfl ?_
              refine D_h (d := none) rfl rfl rfl rfl rfl ?_
              refine D_p rfl rfl rfl ?_
              refine D_h (d := none) rfl rfl rfl rfl rfl ?_
              refine D_p rfl rfl rfl ?_
              refine D_h (d := none) rfl rfl rfl rfl rfl ?_
              refine WD_nil ⟨by first | rfl | (simp [okFs, okEarlier, disj, notIn, noneIn, sameOn, sameB_self, glsL, glsV, partsGls, AOpd.ev, zeroB, outB] <;> (repeat' apply And.intro) <;> rfl), ?_⟩
              refine WL_nil ?_
              refine Blk_norm (?_ : WL _ _ _ _ _)
              refine WL_nil ?_
              first | exact ⟨by (repeat (first | exact restr_nil | apply restr_cons rfl | apply restr_none rfl)), false, by rw [hP]; (try simp only [List.map_cons, List.map_nil, encC_eq]); first | done | rfl⟩ | exact ⟨by (repeat (first | exact restr_nil | apply restr_cons rfl | apply restr_none rfl)), true, by rw [hP]; (try simp only [List.map_cons, List.map_nil, encC_eq]); first | done | rfl⟩
            · skip
              replace h48 : ¬(b.pair = 1 ∨ a.pair = 0) := by simpa using h48
              have ca := ra.car (by omega)
              have cb := rb.car (by omega)
              have da := ra.cdr (by omega)
              have db := rb.cdr (by omega)
              refine WL_seq ?_
              refine WL_reg ?_
              refine O_p rfl rfl rfl ?_
              refine O_h rfl rfl rfl rfl ?_
              refine O_p rfl rfl rfl ?_
              refine O_p rfl rfl rfl ?_
              apply O_and [_, _, _] rfl rfl (hT := ?hT74) (h := ?hR74)
              case hT74 =>
                intro hb70
                refine O_p rfl rfl rfl ?_
                refine O_h rfl rfl rfl rfl ?_
                refine O_p rfl rfl rfl ?_
                exact WO_nil (WL_nil ⟨rfl, rfl, rfl⟩)
              case hR74 =>
                intro vs hvs
                obtain ⟨u71, u72, u73, rfl⟩ := len3 hvs
                clear hvs; dsimp only [junk]
                refine O_p rfl rfl rfl ?_
                refine WO_nil ?_
                refine WL_seq ?_
                apply WL_prune
                · (repeat (first | exact restr_nil | apply restr_cons rfl | apply restr_none rfl))
                conv => arg 4; (try simp only [List.set_cons_zero, List.set_cons_succ, List.nil_append, List.cons_append, List.length_cons, List.length_nil, Nat.zero_add, Nat.add_zero, Nat.reduceAdd, putCells_cT, take_cT,  putCells, List.take_succ_cons, List.take_zero, List.take_nil, List.drop_succ_cons, List.drop_zero, List.drop_nil, AVal.flat, List.replicate_succ, List.replicate_zero])
                conv => arg 3; (try simp only [List.set_cons_zero, List.set_cons_succ, List.nil_append, List.cons_append, List.length_cons, List.length_nil, Nat.zero_add, Nat.add_zero, Nat.reduceAdd, putCells_cT, take_cT,  putCells, List.take_succ_cons, List.take_zero, List.take_nil, List.drop_succ_cons, List.drop_zero, List.drop_nil, AVal.flat, List.replicate_succ, List.replicate_zero])
                try clear u71 u72 u73
                refine WL_cond rfl (fun h66 => ?_) (fun h66 => ?_)
                · skip
                  replace h66 : a.pair = 3 ∧ b.pair = 3 := by simpa using h66
                  have hP : pairP (compC k) a b = (a.pair, orI a.plab b.plab, [compC k (carC a) (carC b)]) := by unfold pairP; rw [if_neg h42, if_neg h48, if_pos h66, h66.1]
                  refine WL_seq ?_
                  refine WL_reg ?_
                  refine O_p rfl rfl rfl ?_
                  refine O_h rfl rfl rfl rfl ?_
                  refine O_p rfl rfl rfl ?_
                  refine O_h rfl rfl rfl rfl ?_
                  refine O_h rfl rfl rfl rfl ?_
                  refine O_c 47 rfl rfl (callA_of rfl (or_c _ _ _ _ (by omega))) ?_
                  refine O_p rfl rfl rfl ?_
                  refine O_hn rfl rfl rfl rfl ?_
                  refine WO_nil ?_
                  refine WL_seq ?_
                  apply WL_prune
                  · (repeat (first | exact restr_nil | apply restr_cons rfl | apply restr_none rfl))
                  conv => arg 4; (try simp only [List.set_cons_zero, List.set_cons_succ, List.nil_append, List.cons_append, List.length_cons, List.length_nil, Nat.zero_add, Nat.add_zero, Nat.reduceAdd, putCells_cT, take_cT,  putCells, List.take_succ_cons, List.take_zero, List.take_nil, List.drop_succ_cons, List.drop_zero, List.drop_nil, AVal.flat, List.replicate_succ, List.replicate_zero])
                  conv => arg 3; (try simp only [List.set_cons_zero, List.set_cons_succ, List.nil_append, List.cons_append, List.length_cons, List.length_nil, Nat.zero_add, Nat.add_zero, Nat.reduceAdd, putCells_cT, take_cT,  putCells, List.take_succ_cons, List.take_zero, List.take_nil, List.drop_succ_cons, List.drop_zero, List.drop_nil, AVal.flat, List.replicate_succ, List.replicate_zero])
                  refine WL_drawT [] rfl ?_
                  refine S_h (d := some 82) rfl rfl rfl rfl rfl ?_
                  refine S_c 31 rfl rfl rfl (callA_of rfl (car_c _ a ra.ok)) ?_
                  refine S_h (d := some 84) rfl rfl rfl rfl rfl ?_
                  refine S_c 31 rfl rfl rfl (callA_of rfl (car_c _ b rb.ok)) ?_
                  refine S_c 18 rfl rfl rfl (callA_of rfl (ih _ _ ca.1 cb.1 (by omega))) ?_
                  refine S_h (d := some 87) rfl rfl rfl rfl rfl ?_
                  refine S_p rfl rfl rfl ?_
                  refine S_h (d := none) rfl rfl rfl rfl rfl ?_
                  refine WS_nil ?_
                  refine WL_nil ?_
                  refine Blk_norm (?_ : WL _ _ _ _ _)
                  refine WL_nil ?_
                  first | exact ⟨by (repeat (first | exact restr_nil | apply restr_cons rfl | apply restr_none rfl)), false, by rw [hP]; (try simp only [List.map_cons, List.map_nil, encC_eq]); first | done | rfl⟩ | exact ⟨by (repeat (first | exact restr_nil | apply restr_cons rfl | apply restr_none rfl)), true, by rw [hP]; (try simp only [List.map_cons, List.map_nil, encC_eq]); first | done | rfl⟩
                · skip
                  replace h66 : ¬(a.pair = 3 ∧ b.pair = 3) := by simpa using h66
                  have hP : pairP (compC k) a b = (2, 0, [compC k (carC a) (carC b), compC k (cdrC a) (cdrC b)]) := by unfold pairP; rw [if_neg h42, if_neg h48, if_neg h66]
                  have hlt : szC (cdrC a) + szC (cdrC b) < szC a + szC b := by
                    rcases (show a.pair = 2 ∨ b.pair = 2 by omega) with q | q
                    · have := da.2.2 q; omega
                    · have := db.2.2 q; omega
                  refine WL_seq ?_
                  refine WL_reg ?_
                  refine O_p rfl rfl rfl ?_
                  refine O_hn rfl rfl rfl rfl ?_
                  refine O_p rfl rfl rfl ?_
                  refine O_hn rfl rfl rfl rfl ?_
                  refine WO_nil ?_
                  refine WL_seq ?_
                  apply WL_prune
                  · (repeat (first | exact restr_nil | apply restr_cons rfl | apply restr_none rfl))
                  conv => arg 4; (try simp only [List.set_cons_zero, List.set_cons_succ, List.nil_append, List.cons_append, List.length_cons, List.length_nil, Nat.zero_add, Nat.add_zero, Nat.reduceAdd, putCells_cT, take_cT,  putCells, List.take_succ_cons, List.take_zero, List.take_nil, List.drop_succ_cons, List.drop_zero, List.drop_nil, AVal.flat, List.replicate_succ, List.replicate_zero])
                  conv => arg 3; (try simp only [List.set_cons_zero, List.set_cons_succ, List.nil_append, List.cons_append, List.length_cons, List.length_nil, Nat.zero_add, Nat.add_zero, Nat.reduceAdd, putCells_cT, take_cT,  putCells, List.take_succ_cons, List.take_zero, List.take_nil, List.drop_succ_cons, List.drop_zero, List.drop_nil, AVal.flat, List.replicate_succ, List.replicate_zero])
                  refine WL_drawT [] rfl ?_
                  refine S_h (d := some 30) rfl rfl rfl rfl rfl ?_
                  refine S_c 31 rfl rfl rfl (callA_of rfl (car_c _ a ra.ok)) ?_
                  refine S_h (d := some 32) rfl rfl rfl rfl rfl ?_
                  refine S_c 31 rfl rfl rfl (callA_of rfl (car_c _ b rb.ok)) ?_
                  refine S_c 18 rfl rfl rfl (callA_of rfl (ih _ _ ca.1 cb.1 (by omega))) ?_
                  refine S_h (d := some 35) rfl rfl rfl rfl rfl ?_
                  refine S_c 33 rfl rfl rfl (callA_of rfl (cdr_c _ a ra.ok)) ?_
                  refine S_h (d := some 37) rfl rfl rfl rfl rfl ?_
                  refine S_c 33 rfl rfl rfl (callA_of rfl (cdr_c _ b rb.ok)) ?_
                  refine S_c 18 rfl rfl rfl (callA_of rfl (ih _ _ da.1 db.1 (by omega))) ?_
                  refine S_h (d := some 40) rfl rfl rfl rfl rfl ?_
                  refine S_p rfl rfl rfl ?_
                  refine S_h (d := none) rfl rfl rfl rfl rfl ?_
                  refine WS_nil ?_
                  refine WL_nil ?_
                  refine Blk_norm (?_ : WL _ _ _ _ _)
                  refine WL_nil ?_
                  first | exact ⟨by (repeat (first | exact restr_nil | apply restr_cons rfl | apply restr_none rfl)), false, by rw [hP]; (try simp only [List.map_cons, List.map_nil, encC_eq]); first | done | rfl⟩ | exact ⟨by (repeat (first | exact restr_nil | apply restr_cons rfl | apply restr_none rfl)), true, by rw [hP]; (try simp only [List.map_cons, List.map_nil, encC_eq]); first | done | rfl⟩
      · skip
        rintro e H ⟨he, f, rfl⟩
        refine WL_seq ?_
        apply WL_prune
        · exact he
        refine WL_seq ?_
        refine WL_block ?_
        refine WL_seq ?_
        refine WL_reg ?_
        refine O_p rfl rfl rfl ?_
        refine O_h rfl rfl rfl rfl ?_
        refine O_p rfl rfl rfl ?_
        refine O_h rfl rfl rfl rfl ?_
        refine O_c 48 rfl rfl (callA_of rfl (fst_c _ _ _)) ?_
        refine O_p rfl rfl rfl ?_
        refine WO_nil ?_
        refine WL_seq ?_
        apply WL_prune
        · (repeat (first | exact restr_nil | apply restr_cons rfl | apply restr_none rfl))
        conv => arg 4; (try simp only [List.set_cons_zero, List.set_cons_succ, List.nil_append, List.cons_append, List.length_cons, List.length_nil, Nat.zero_add, Nat.add_zero, Nat.reduceAdd, putCells_cT, take_cT,  putCells, List.take_succ_cons, List.take_zero, List.take_nil, List.drop_succ_cons, List.drop_zero, List.drop_nil, AVal.flat, List.replicate_succ, List.replicate_zero])
        conv => arg 3; (try simp only [List.set_cons_zero, List.set_cons_succ, List.nil_append, List.cons_append, List.length_cons, List.length_nil, Nat.zero_add, Nat.add_zero, Nat.reduceAdd, putCells_cT, take_cT,  putCells, List.take_succ_cons, List.take_zero, List.take_nil, List.drop_succ_cons, List.drop_zero, List.drop_nil, AVal.flat, List.replicate_succ, List.replicate_zero])
        refine WL_cond rfl (fun h123 => ?_) (fun h123 => ?_)
        · skip
          have hG : funP (compC k) a b = (a.fn, a.flab, a.funs) := by simp at h123; unfold funP; rw [if_pos h123]
          refine WL_skip ?_
          refine WL_nil ?_
          refine Blk_norm (?_ : WL _ _ _ _ _)
          refine WL_seq ?_
          apply WL_prune
          · (repeat (first | exact restr_nil | apply restr_cons rfl | apply restr_none rfl))
          conv => arg 4; (try simp only [List.set_cons_zero, List.set_cons_succ, List.nil_append, List.cons_append, List.length_cons, List.length_nil, Nat.zero_add, Nat.add_zero, Nat.reduceAdd, putCells_cT, take_cT,  putCells, List.take_succ_cons, List.take_zero, List.take_nil, List.drop_succ_cons, List.drop_zero, List.drop_nil, AVal.flat, List.replicate_succ, List.replicate_zero])
          conv => arg 3; (try simp only [List.set_cons_zero, List.set_cons_succ, List.nil_append, List.cons_append, List.length_cons, List.length_nil, Nat.zero_add, Nat.add_zero, Nat.reduceAdd, putCells_cT, take_cT,  putCells, List.take_succ_cons, List.take_zero, List.take_nil, List.drop_succ_cons, List.drop_zero, List.drop_nil, AVal.flat, List.replicate_succ, List.replicate_zero])
          refine WL_seq ?_
          refine WL_reg ?_
          refine O_h rfl rfl rfl rfl ?_
          refine O_hn rfl rfl rfl rfl ?_
          refine WO_nil ?_
          refine WL_ret ?_
          refine ⟨_, rfl, vC (compC (k + 1) a b), ?_, rfl⟩
          first | (rw [compC, hG]; rfl) | (rw [compC, hG]; show shutR _ (.agg (fC (fun j => orI (a.flat j) (b.flat j)) (pairP (compC k) a b).1 (pairP (compC k) a b).2.1 (.lst ((pairP (compC k) a b).2.2.map encC) f) a.fn a.flab (.gl 4 (mixF (compC k) a.funs b.funs).length))) = _; simp [shutR, shutRL, growAt, fC, cC, Co.flat, Co.pair, Co.plab, Co.pairs, Co.fn, Co.flab, Co.funs]; done)
        · skip
          replace h123 : ¬(a.fn = 1 ∨ b.fn = 0) := by simpa using h123
          refine WL_seq ?_
          refine WL_reg ?_
          refine O_p rfl rfl rfl ?_
          refine O_h rfl rfl rfl rfl ?_
          refine O_p rfl rfl rfl ?_
          refine O_p rfl rfl rfl ?_
          apply O_or [_, _, _] rfl rfl (hT := ?hT137) (h := ?hR137)
          case hT137 =>
            intro hb133
            refine O_p rfl rfl rfl ?_
            refine O_h rfl rfl rfl rfl ?_
            refine O_p rfl rfl rfl ?_
            exact WO_nil (WL_nil ⟨rfl, rfl, rfl⟩)
          case hR137 =>
            intro vs hvs
            obtain ⟨u134, u135, u136, rfl⟩ := len3 hvs
            clear hvs; dsimp only [junk]
            refine O_p rfl rfl rfl ?_
            refine WO_nil ?_
            refine WL_seq ?_
            apply WL_prune
            · (repeat (first | exact restr_nil | apply restr_cons rfl | apply restr_none rfl))
            conv => arg 4; (try simp only [List.set_cons_zero, List.set_cons_succ, List.nil_append, List.cons_append, List.length_cons, List.length_nil, Nat.zero_add, Nat.add_zero, Nat.reduceAdd, putCells_cT, take_cT,  putCells, List.take_succ_cons, List.take_zero, List.take_nil, List.drop_succ_cons, List.drop_zero, List.drop_nil, AVal.flat, List.replicate_succ, List.replicate_zero])
            conv => arg 3; (try simp only [List.set_cons_zero, List.set_cons_succ, List.nil_append, List.cons_append, List.length_cons, List.length_nil, Nat.zero_add, Nat.add_zero, Nat.reduceAdd, putCells_cT, take_cT,  putCells, List.take_succ_cons, List.take_zero, List.take_nil, List.drop_succ_cons, List.drop_zero, List.drop_nil, AVal.flat, List.replicate_succ, List.replicate_zero])
            try clear u134 u135 u136
            refine WL_cond rfl (fun h129 => ?_) (fun h129 => ?_)
            · skip
              have hG : funP (compC k) a b = (b.fn, b.flab, b.funs) := by simp at h129; unfold funP; rw [if_neg h123, if_pos h129]
              refine WL_draw0 ?_
              refine D_p rfl rfl rfl ?_
              refine D_h (d := some 139) rfl rfl rfl rfl rfl ?_
              refine D_p rfl rfl rfl ?_
              refine D_h (d := some 141) rfl rfl rfl rfl rfl ?_
              refine D_p rfl rfl rfl ?_
              refine D_h (d := some 143) rfl rfl rfl rfl rfl ?_
              refine D_p rfl rfl rfl ?_
              refine D_h (d := none) rfl rfl rfl rfl rfl ?_
              refine D_p rfl rfl rfl ?_
              refine D_h (d := none) rfl rfl rfl rfl rfl ?_
              refine D_p rfl rfl rfl ?_
              refine D_h (d := none) rfl rfl rfl rfl rfl ?_
              refine WD_nil ⟨by first | rfl | (simp [okFs, okEarlier, disj, notIn, noneIn, sameOn, sameB_self, glsL, glsV, partsGls, AOpd.ev, zeroB, outB] <;> (repeat' apply And.intro) <;> rfl), ?_⟩
              refine WL_nil ?_
              refine Blk_norm (?_ : WL _ _ _ _ _)
              refine WL_seq ?_
              apply WL_prune
              · (repeat (first | exact restr_nil | apply restr_cons rfl | apply restr_none rfl))
              conv => arg 4; (try simp only [List.set_cons_zero, List.set_cons_succ, List.nil_append, List.cons_append, List.length_cons, List.length_nil, Nat.zero_add, Nat.add_zero, Nat.reduceAdd, putCells_cT, take_cT,  putCells, List.take_succ_cons, List.take_zero, List.take_nil, List.drop_succ_cons, List.drop_zero, List.drop_nil, AVal.flat, List.replicate_succ, List.replicate_zero])
              conv => arg 3; (try simp only [List.set_cons_zero, List.set_cons_succ, List.nil_append, List.cons_append, List.length_cons, List.length_nil, Nat.zero_add, Nat.add_zero, Nat.reduceAdd, putCells_cT, take_cT,  putCells, List.take_succ_cons, List.take_zero, List.take_nil, List.drop_succ_cons, List.drop_zero, List.drop_nil, AVal.flat, List.replicate_succ, List.replicate_zero])
              refine WL_seq ?_
              refine WL_reg ?_
              refine O_h rfl rfl rfl rfl ?_
              refine O_hn rfl rfl rfl rfl ?_
              refine WO_nil ?_
              refine WL_ret ?_
              refine ⟨_, rfl, vC (compC (k + 1) a b), ?_, rfl⟩
              first | (rw [compC, hG]; rfl) | (rw [compC, hG]; show shutR _ (.agg (fC (fun j => orI (a.flat j) (b.flat j)) (pairP (compC k) a b).1 (pairP (compC k) a b).2.1 (.lst ((pairP (compC k) a b).2.2.map encC) f) a.fn a.flab (.gl 4 (mixF (compC k) a.funs b.funs).length))) = _; simp [shutR, shutRL, growAt, fC, cC, Co.flat, Co.pair, Co.plab, Co.pairs, Co.fn, Co.flab, Co.funs]; done)
            · skip
              replace h129 : ¬(b.fn = 1 ∨ a.fn = 0) := by simpa using h129
              refine WL_seq ?_
              refine WL_reg ?_
              refine O_p rfl rfl rfl ?_
              refine O_h rfl rfl rfl rfl ?_
              refine O_p rfl rfl rfl ?_
              refine O_p rfl rfl rfl ?_
              apply O_or [_, _, _] rfl rfl (hT := ?hT155) (h := ?hR155)
              case hT155 =>
                intro hb151
                refine O_p rfl rfl rfl ?_
                refine O_h rfl rfl rfl rfl ?_
                refine O_p rfl rfl rfl ?_
                exact WO_nil (WL_nil ⟨rfl, rfl, rfl⟩)
              case hR155 =>
                intro vs hvs
                obtain ⟨u152, u153, u154, rfl⟩ := len3 hvs
                clear hvs; dsimp only [junk]
                refine O_p rfl rfl rfl ?_
                apply O_or [_, _, _, _, _, _, _] rfl rfl (hT := ?hT164) (h := ?hR164)
                case hT164 =>
                  intro hb156
                  refine O_p rfl rfl rfl ?_
                  refine O_h rfl rfl rfl rfl ?_
                  refine O_h rfl rfl rfl rfl ?_
                  refine O_p rfl rfl rfl ?_
                  refine O_h rfl rfl rfl rfl ?_
                  refine O_h rfl rfl rfl rfl ?_
                  refine O_p rfl rfl rfl ?_
                  exact WO_nil (WL_nil ⟨rfl, rfl, rfl⟩)
                case hR164 =>
                  intro vs hvs
                  obtain ⟨u157, u158, u159, u160, u161, u162, u163, rfl⟩ := len7 hvs
                  clear hvs; dsimp only [junk]
                  refine O_p rfl rfl rfl ?_
                  refine WO_nil ?_
                  refine WL_seq ?_
                  apply WL_prune
                  · (repeat (first | exact restr_nil | apply restr_cons rfl | apply restr_none rfl))
                  conv => arg 4; (try simp only [List.set_cons_zero, List.set_cons_succ, List.nil_append, List.cons_append, List.length_cons, List.length_nil, Nat.zero_add, Nat.add_zero, Nat.reduceAdd, putCells_cT, take_cT,  putCells, List.take_succ_cons, List.take_zero, List.take_nil, List.drop_succ_cons, List.drop_zero, List.drop_nil, AVal.flat, List.replicate_succ, List.replicate_zero])
                  conv => arg 3; (try simp only [List.set_cons_zero, List.set_cons_succ, List.nil_append, List.cons_append, List.length_cons, List.length_nil, Nat.zero_add, Nat.add_zero, Nat.reduceAdd, putCells_cT, take_cT,  putCells, List.take_succ_cons, List.take_zero, List.take_nil, List.drop_succ_cons, List.drop_zero, List.drop_nil, AVal.flat, List.replicate_succ, List.replicate_zero])
                  try clear u152 u153 u154 u157 u158 u159 u160 u161 u162 u163
                  refine WL_cond rfl (fun h147 => ?_) (fun h147 => ?_)
                  · skip
                    have hG : funP (compC k) a b = (3, a.flab, []) := by
                      unfold funP; rw [if_neg h123, if_neg h129, if_pos]
                      simp at h147; omega
                    refine WL_reg ?_
                    refine O_p rfl rfl rfl ?_
                    refine O_hn rfl rfl rfl rfl ?_
                    refine O_p rfl rfl rfl ?_
                    refine O_hn rfl rfl rfl rfl ?_
                    refine WO_nil ?_
                    refine WL_nil ?_
                    refine Blk_norm (?_ : WL _ _ _ _ _)
                    refine WL_seq ?_
                    apply WL_prune
                    · (repeat (first | exact restr_nil | apply restr_cons rfl | apply restr_none rfl))
                    conv => arg 4; (try simp only [List.set_cons_zero, List.set_cons_succ, List.nil_append, List.cons_append, List.length_cons, List.length_nil, Nat.zero_add, Nat.add_zero, Nat.reduceAdd, putCells_cT, take_cT,  putCells, List.take_succ_cons, List.take_zero, List.take_nil, List.drop_succ_cons, List.drop_zero, List.drop_nil, AVal.flat, List.replicate_succ, List.replicate_zero])
                    conv => arg 3; (try simp only [List.set_cons_zero, List.set_cons_succ, List.nil_append, List.cons_append, List.length_cons, List.length_nil, Nat.zero_add, Nat.add_zero, Nat.reduceAdd, putCells_cT, take_cT,  putCells, List.take_succ_cons, List.take_zero, List.take_nil, List.drop_succ_cons, List.drop_zero, List.drop_nil, AVal.flat, List.replicate_succ, List.replicate_zero])
                    refine WL_seq ?_
                    refine WL_reg ?_
                    refine O_h rfl rfl rfl rfl ?_
                    refine O_hn rfl rfl rfl rfl ?_
                    refine WO_nil ?_
                    refine WL_ret ?_
                    refine ⟨_, rfl, vC (compC (k + 1) a b), ?_, rfl⟩
                    first | (rw [compC, hG]; rfl) | (rw [compC, hG]; show shutR _ (.agg (fC (fun j => orI (a.flat j) (b.flat j)) (pairP (compC k) a b).1 (pairP (compC k) a b).2.1 (.lst ((pairP (compC k) a b).2.2.map encC) f) a.fn a.flab (.gl 4 (mixF (compC k) a.funs b.funs).length))) = _; simp [shutR, shutRL, growAt, fC, cC, Co.flat, Co.pair, Co.plab, Co.pairs, Co.fn, Co.flab, Co.funs]; done)
                  · skip
                    replace h147 : ¬(a.fn = 3 ∨ b.fn = 3 ∨ a.funs.length ≠ b.funs.length) := by simp at h147; omega
                    have hG : funP (compC k) a b = (a.fn, a.flab, mixF (compC k) a.funs b.funs) := by unfold funP; rw [if_neg h123, if_neg h129, if_neg h147]
                    have hL : a.funs.length = b.funs.length := by omega
                    have hML := mixF_len (compC k) a.funs b.funs hL
                    have h9 : a.funs.length ≤ 9 := (((okC_iff a).1 ra.ok).2.2.2.2.2.2.2.2.2.2.2.2.1 (by omega)).1
                    refine WL_seq ?_
                    refine WL_reg ?_
                    refine O_p rfl rfl rfl ?_
                    refine O_hn rfl rfl rfl rfl ?_
                    refine WO_nil ?_
                    refine WL_seq ?_
                    apply WL_prune
                    · (repeat (first | exact restr_nil | apply restr_cons rfl | apply restr_none rfl))
                    conv => arg 4; (try simp only [List.set_cons_zero, List.set_cons_succ, List.nil_append, List.cons_append, List.length_cons, List.length_nil, Nat.zero_add, Nat.add_zero, Nat.reduceAdd, putCells_cT, take_cT,  putCells, List.take_succ_cons, List.take_zero, List.take_nil, List.drop_succ_cons, List.drop_zero, List.drop_nil, AVal.flat, List.replicate_succ, List.replicate_zero])
                    conv => arg 3; (try simp only [List.set_cons_zero, List.set_cons_succ, List.nil_append, List.cons_append, List.length_cons, List.length_nil, Nat.zero_add, Nat.add_zero, Nat.reduceAdd, putCells_cT, take_cT,  putCells, List.take_succ_cons, List.take_zero, List.take_nil, List.drop_succ_cons, List.drop_zero, List.drop_nil, AVal.flat, List.replicate_succ, List.replicate_zero])
                    refine WL_seq ?_
                    refine WL_reg ?_
                    refine O_p rfl rfl rfl ?_
                    refine O_h rfl rfl rfl rfl ?_
                    refine O_h rfl rfl rfl rfl ?_
                    refine O_p rfl rfl rfl ?_
                    refine WO_nil ?_
                    refine WL_seq ?_
                    apply WL_prune
                    · (repeat (first | exact restr_nil | apply restr_cons rfl | apply restr_none rfl))
                    conv => arg 4; (try simp only [List.set_cons_zero, List.set_cons_succ, List.nil_append, List.cons_append, List.length_cons, List.length_nil, Nat.zero_add, Nat.add_zero, Nat.reduceAdd, putCells_cT, take_cT,  putCells, List.take_succ_cons, List.take_zero, List.take_nil, List.drop_succ_cons, List.drop_zero, List.drop_nil, AVal.flat, List.replicate_succ, List.replicate_zero])
                    conv => arg 3; (try simp only [List.set_cons_zero, List.set_cons_succ, List.nil_append, List.cons_append, List.length_cons, List.length_nil, Nat.zero_add, Nat.add_zero, Nat.reduceAdd, putCells_cT, take_cT,  putCells, List.take_succ_cons, List.take_zero, List.take_nil, List.drop_succ_cons, List.drop_zero, List.drop_nil, AVal.flat, List.replicate_succ, List.replicate_zero])
                    refine WL_block ?_
                    refine WL_seq ?_
                    refine WL_own rfl ?_
                    apply WL_forv (hc := [.cells (cC a), .cells (cC b), .cells [.int .i64 0, .int .i64 0, .int .i64 0, .int .i64 0, .int .i64 0, .int .i64 0, .int .i64 0, .int .i64 0, .lst [] true, .int .i64 0, .int .i64 0, .lst [] true]]) (α := Nat) (fun i => [(93, .int .i64 (i : Nat))]) (fun i => [.cells (fC (fun j => orI (a.flat j) (b.flat j)) (pairP (compC k) a b).1 (pairP (compC k) a b).2.1 (.lst ((pairP (compC k) a b).2.2.map encC) f) a.fn a.flab (.gl 4 i)), .grow (es0 12 i) (((mixF (compC k) a.funs b.funs).take i).map encC) none]) (fun i => i ≤ a.funs.length) (fun i => a.funs.length - i) (0) (he := ?he) (hh := ?hh) (hP := ?hP) (hk := ?hk) (round := ?round)
                    case he =>
                      (repeat (first | exact restr_nil | apply restr_cons rfl | apply restr_none rfl))
                    case hh =>
                      rfl
                    case hP =>
                      omega
                    case hk =>
                      show a.funs.length - 0 < n + 10; omega
                    case round =>
                      rintro i hi
                      dsimp only [List.cons_append, List.nil_append] at *
                      refine WL_seq ?_
                      refine WL_reg ?_
                      refine O_p rfl rfl rfl ?_
                      refine WO_nil ?_
                      refine WL_seq ?_
                      apply WL_prune
                      · (repeat (first | exact restr_nil | apply restr_cons rfl | apply restr_none rfl))
                      conv => arg 4; (try simp only [List.set_cons_zero, List.set_cons_succ, List.nil_append, List.cons_append, List.length_cons, List.length_nil, Nat.zero_add, Nat.add_zero, Nat.reduceAdd, putCells_cT, take_cT,  putCells, List.take_succ_cons, List.take_zero, List.take_nil, List.drop_succ_cons, List.drop_zero, List.drop_nil, AVal.flat, List.replicate_succ, List.replicate_zero])
                      conv => arg 3; (try simp only [List.set_cons_zero, List.set_cons_succ, List.nil_append, List.cons_append, List.length_cons, List.length_nil, Nat.zero_add, Nat.add_zero, Nat.reduceAdd, putCells_cT, take_cT,  putCells, List.take_succ_cons, List.take_zero, List.take_nil, List.drop_succ_cons, List.drop_zero, List.drop_nil, AVal.flat, List.replicate_succ, List.replicate_zero])
                      refine WL_seq ?_
                      refine WL_cond rfl (fun h94 => ?_) (fun h94 => ?_)
                      · skip
                        simp at h94
                        obtain ⟨x, hx⟩ : ∃ x, (a.funs)[i]? = some x := ⟨_, List.getElem?_eq_getElem (by omega)⟩
                        have hmx := List.mem_of_getElem? hx
                        have hsx := szC_funs hmx
                        obtain ⟨y, hy⟩ : ∃ y, (b.funs)[i]? = some y := ⟨_, List.getElem?_eq_getElem (by omega)⟩
                        have hmy := List.mem_of_getElem? hy
                        have hsy := szC_funs hmy
                        refine WL_skip ?_
                        refine WL_seq ?_
                        apply WL_prune
                        · (repeat (first | exact restr_nil | apply restr_cons rfl | apply restr_none rfl))
                        conv => arg 4; (try simp only [List.set_cons_zero, List.set_cons_succ, List.nil_append, List.cons_append, List.length_cons, List.length_nil, Nat.zero_add, Nat.add_zero, Nat.reduceAdd, putCells_cT, take_cT,  putCells, List.take_succ_cons, List.take_zero, List.take_nil, List.drop_succ_cons, List.drop_zero, List.drop_nil, AVal.flat, List.replicate_succ, List.replicate_zero])
                        conv => arg 3; (try simp only [List.set_cons_zero, List.set_cons_succ, List.nil_append, List.cons_append, List.length_cons, List.length_nil, Nat.zero_add, Nat.add_zero, Nat.reduceAdd, putCells_cT, take_cT,  putCells, List.take_succ_cons, List.take_zero, List.take_nil, List.drop_succ_cons, List.drop_zero, List.drop_nil, AVal.flat, List.replicate_succ, List.replicate_zero])
                        refine WL_seq ?_
                        refine WL_block ?_
                        refine WL_seq ?_
                        refine WL_reg ?_
                        refine O_p rfl rfl rfl ?_
                        refine O_p rfl rfl rfl ?_
                        refine WO_nil ?_
                        refine WL_seq ?_
                        apply WL_prune
                        · (repeat (first | exact restr_nil | apply restr_cons rfl | apply restr_none rfl))
                        conv => arg 4; (try simp only [List.set_cons_zero, List.set_cons_succ, List.nil_append, List.cons_append, List.length_cons, List.length_nil, Nat.zero_add, Nat.add_zero, Nat.reduceAdd, putCells_cT, take_cT,  putCells, List.take_succ_cons, List.take_zero, List.take_nil, List.drop_succ_cons, List.drop_zero, List.drop_nil, AVal.flat, List.replicate_succ, List.replicate_zero])
                        conv => arg 3; (try simp only [List.set_cons_zero, List.set_cons_succ, List.nil_append, List.cons_append, List.length_cons, List.length_nil, Nat.zero_add, Nat.add_zero, Nat.reduceAdd, putCells_cT, take_cT,  putCells, List.take_succ_cons, List.take_zero, List.take_nil, List.drop_succ_cons, List.drop_zero, List.drop_nil, AVal.flat, List.replicate_succ, List.replicate_zero])
                        refine WL_seq ?_
                        refine WL_draw ?_
                        refine D_p rfl rfl rfl ?_
                        refine D_h (d := some 97) rfl rfl rfl rfl rfl ?_
                        refine D_p rfl rfl rfl ?_
                        refine D_ia rfl rfl (Int.natCast_nonneg _) (encC_get (i := (i : Nat)) hy) (encC_flat _) rfl ?_
                        refine D_h (d := some 100) rfl rfl rfl rfl rfl ?_
                        refine D_p rfl rfl rfl ?_
                        refine D_h (d := some 102) rfl rfl rfl rfl rfl ?_
                        refine D_p rfl rfl rfl ?_
                        refine D_ia rfl rfl (Int.natCast_nonneg _) (encC_get (i := (i : Nat)) hx) (encC_flat _) rfl ?_
                        refine D_h (d := some 105) rfl rfl rfl rfl rfl ?_
                        refine D_n rfl rfl rfl rfl rfl ?_
                        refine D_n rfl rfl rfl rfl rfl ?_
                        refine D_h (d := none) rfl rfl rfl rfl rfl ?_
                        refine D_h (d := none) rfl rfl rfl rfl rfl ?_
                        refine WD_nil ⟨by first | rfl | (simp [okFs, okEarlier, disj, notIn, noneIn, sameOn, sameB_self, glsL, glsV, partsGls, AOpd.ev, zeroB, outB] <;> (repeat' apply And.intro) <;> rfl), ?_⟩
                        refine WL_seq ?_
                        apply WL_prune
                        · (repeat (first | exact restr_nil | apply restr_cons rfl | apply restr_none rfl))
                        conv => arg 4; (try simp only [List.set_cons_zero, List.set_cons_succ, List.nil_append, List.cons_append, List.length_cons, List.length_nil, Nat.zero_add, Nat.add_zero, Nat.reduceAdd, putCells_cT, take_cT,  putCells, List.take_succ_cons, List.take_zero, List.take_nil, List.drop_succ_cons, List.drop_zero, List.drop_nil, AVal.flat, List.replicate_succ, List.replicate_zero])
                        conv => arg 3; (try simp only [List.set_cons_zero, List.set_cons_succ, List.nil_append, List.cons_append, List.length_cons, List.length_nil, Nat.zero_add, Nat.add_zero, Nat.reduceAdd, putCells_cT, take_cT,  putCells, List.take_succ_cons, List.take_zero, List.take_nil, List.drop_succ_cons, List.drop_zero, List.drop_nil, AVal.flat, List.replicate_succ, List.replicate_zero])
                        refine WL_seq ?_
                        refine WL_seq ?_
                        refine WL_reg ?_
                        refine O_p rfl rfl rfl ?_
                        refine O_p rfl rfl rfl ?_
                        refine O_h rfl rfl rfl rfl ?_
                        refine O_h rfl rfl rfl rfl ?_
                        refine O_p rfl rfl rfl ?_
                        refine O_p rfl rfl rfl ?_
                        refine WO_nil ?_
                        refine WL_seq ?_
                        apply WL_prune
                        · (repeat (first | exact restr_nil | apply restr_cons rfl | apply restr_none rfl))
                        conv => arg 4; (try simp only [List.set_cons_zero, List.set_cons_succ, List.nil_append, List.cons_append, List.length_cons, List.length_nil, Nat.zero_add, Nat.add_zero, Nat.reduceAdd, putCells_cT, take_cT,  putCells, List.take_succ_cons, List.take_zero, List.take_nil, List.drop_succ_cons, List.drop_zero, List.drop_nil, AVal.flat, List.replicate_succ, List.replicate_zero])
                        conv => arg 3; (try simp only [List.set_cons_zero, List.set_cons_succ, List.nil_append, List.cons_append, List.length_cons, List.length_nil, Nat.zero_add, Nat.add_zero, Nat.reduceAdd, putCells_cT, take_cT,  putCells, List.take_succ_cons, List.take_zero, List.take_nil, List.drop_succ_cons, List.drop_zero, List.drop_nil, AVal.flat, List.replicate_succ, List.replicate_zero])
                        refine WL_cond rfl (fun h111 => ?_) (fun h111 => ?_)
                        · skip
                          have hl : i + 1 = a.funs.length := by
                            simp at h111; rw [kw_i64_id (by omega) (by omega)] at h111; omega
                          obtain ⟨z, hzd⟩ : ∃ z, z = compC k x y := ⟨_, rfl⟩
                          have hz : (mixF (compC k) a.funs b.funs)[i]? = some z := by rw [mixF_get _ _ _ i x y hx hy, if_pos hl, hzd]
                          have hcall := ih x y (ra.funs hmx) (rb.funs hmy) (by omega)
                          rw [← hzd] at hcall
                          refine WL_reg ?_
                          refine O_h rfl rfl rfl rfl ?_
                          refine O_h rfl rfl rfl rfl ?_
                          refine O_hn rfl rfl rfl rfl ?_
                          refine O_hn rfl rfl rfl rfl ?_
                          refine WO_nil ?_
                          refine WL_seq ?_
                          apply WL_prune
                          · (repeat (first | exact restr_nil | apply restr_cons rfl | apply restr_none rfl))
                          conv => arg 4; (try simp only [List.set_cons_zero, List.set_cons_succ, List.nil_append, List.cons_append, List.length_cons, List.length_nil, Nat.zero_add, Nat.add_zero, Nat.reduceAdd, putCells_cT, take_cT,  putCells, List.take_succ_cons, List.take_zero, List.take_nil, List.drop_succ_cons, List.drop_zero, List.drop_nil, AVal.flat, List.replicate_succ, List.replicate_zero])
                          conv => arg 3; (try simp only [List.set_cons_zero, List.set_cons_succ, List.nil_append, List.cons_append, List.length_cons, List.length_nil, Nat.zero_add, Nat.add_zero, Nat.reduceAdd, putCells_cT, take_cT,  putCells, List.take_succ_cons, List.take_zero, List.take_nil, List.drop_succ_cons, List.drop_zero, List.drop_nil, AVal.flat, List.replicate_succ, List.replicate_zero])
                          refine WL_draw ?_
                          refine D_p rfl rfl rfl ?_
                          refine D_h (d := some 115) rfl rfl rfl rfl rfl ?_
                          refine D_h (d := some 116) rfl rfl rfl rfl rfl ?_
                          refine D_h (d := some 117) rfl rfl rfl rfl rfl ?_
                          refine D_c 18 rfl rfl rfl (callA_of rfl hcall) ?_
                          refine D_h (d := some 119) rfl rfl rfl rfl rfl ?_
                          refine D_push (y := vC z) rfl rfl rfl (by simp; omega) (es0_or 12 i) (encC_w _) rfl (by omega) rfl (take_succ_map hz).symm rfl ?_
                          refine D_p rfl rfl rfl ?_
                          refine D_h (d := none) rfl rfl rfl rfl rfl ?_
                          refine WD_nil2 rfl ?_
                          refine WL_nil ?_
                          refine Blk_norm (?_ : WL _ _ _ _ _)
                          refine WL_seq ?_
                          apply WL_prune
                          · (repeat (first | exact restr_nil | apply restr_cons rfl | apply restr_none rfl))
                          conv => arg 4; (try simp only [List.set_cons_zero, List.set_cons_succ, List.nil_append, List.cons_append, List.length_cons, List.length_nil, Nat.zero_add, Nat.add_zero, Nat.reduceAdd, putCells_cT, take_cT,  putCells, List.take_succ_cons, List.take_zero, List.take_nil, List.drop_succ_cons, List.drop_zero, List.drop_nil, AVal.flat, List.replicate_succ, List.replicate_zero])
                          conv => arg 3; (try simp only [List.set_cons_zero, List.set_cons_succ, List.nil_append, List.cons_append, List.length_cons, List.length_nil, Nat.zero_add, Nat.add_zero, Nat.reduceAdd, putCells_cT, take_cT,  putCells, List.take_succ_cons, List.take_zero, List.take_nil, List.drop_succ_cons, List.drop_zero, List.drop_nil, AVal.flat, List.replicate_succ, List.replicate_zero])
                          refine WL_reg ?_
                          refine O_p rfl rfl rfl ?_
                          refine O_p rfl rfl rfl ?_
                          refine WO_nil ?_
                          refine WL_nil ?_
                          refine RndV_norm (i + 1) (by omega) (by show _ < _; omega) ?_ rfl
                          · rw [wrap_succ (by omega)]; (repeat (first | exact restr_nil | apply restr_cons rfl | apply restr_none rfl))
                        · skip
                          have hl : ¬ i + 1 = a.funs.length := by
                            simp at h111; rw [kw_i64_id (by omega) (by omega)] at h111; omega
                          obtain ⟨z, hzd⟩ : ∃ z, z = compC k y x := ⟨_, rfl⟩
                          have hz : (mixF (compC k) a.funs b.funs)[i]? = some z := by rw [mixF_get _ _ _ i x y hx hy, if_neg hl, hzd]
                          have hcall := ih y x (rb.funs hmy) (ra.funs hmx) (by omega)
                          rw [← hzd] at hcall
                          refine WL_skip ?_
                          refine WL_seq ?_
                          apply WL_prune
                          · (repeat (first | exact restr_nil | apply restr_cons rfl | apply restr_none rfl))
                          conv => arg 4; (try simp only [List.set_cons_zero, List.set_cons_succ, List.nil_append, List.cons_append, List.length_cons, List.length_nil, Nat.zero_add, Nat.add_zero, Nat.reduceAdd, putCells_cT, take_cT,  putCells, List.take_succ_cons, List.take_zero, List.take_nil, List.drop_succ_cons, List.drop_zero, List.drop_nil, AVal.flat, List.replicate_succ, List.replicate_zero])
                          conv => arg 3; (try simp only [List.set_cons_zero, List.set_cons_succ, List.nil_append, List.cons_append, List.length_cons, List.length_nil, Nat.zero_add, Nat.add_zero, Nat.reduceAdd, putCells_cT, take_cT,  putCells, List.take_succ_cons, List.take_zero, List.take_nil, List.drop_succ_cons, List.drop_zero, List.drop_nil, AVal.flat, List.replicate_succ, List.replicate_zero])
                          refine WL_draw ?_
                          refine D_p rfl rfl rfl ?_
                          refine D_h (d := some 115) rfl rfl rfl rfl rfl ?_
                          refine D_h (d := some 116) rfl rfl rfl rfl rfl ?_
                          refine D_h (d := some 117) rfl rfl rfl rfl rfl ?_
                          refine D_c 18 rfl rfl rfl (callA_of rfl hcall) ?_
                          refine D_h (d := some 119) rfl rfl rfl rfl rfl ?_
                          refine D_push (y := vC z) rfl rfl rfl (by simp; omega) (es0_or 12 i) (encC_w _) rfl (by omega) rfl (take_succ_map hz).symm rfl ?_
                          refine D_p rfl rfl rfl ?_
                          refine D_h (d := none) rfl rfl rfl rfl rfl ?_
                          refine WD_nil2 rfl ?_
                          refine WL_nil ?_
                          refine Blk_norm (?_ : WL _ _ _ _ _)
                          refine WL_seq ?_
                          apply WL_prune
                          · (repeat (first | exact restr_nil | apply restr_cons rfl | apply restr_none rfl))
                          conv => arg 4; (try simp only [List.set_cons_zero, List.set_cons_succ, List.nil_append, List.cons_append, List.length_cons, List.length_nil, Nat.zero_add, Nat.add_zero, Nat.reduceAdd, putCells_cT, take_cT,  putCells, List.take_succ_cons, List.take_zero, List.take_nil, List.drop_succ_cons, List.drop_zero, List.drop_nil, AVal.flat, List.replicate_succ, List.replicate_zero])
                          conv => arg 3; (try simp only [List.set_cons_zero, List.set_cons_succ, List.nil_append, List.cons_append, List.length_cons, List.length_nil, Nat.zero_add, Nat.add_zero, Nat.reduceAdd, putCells_cT, take_cT,  putCells, List.take_succ_cons, List.take_zero, List.take_nil, List.drop_succ_cons, List.drop_zero, List.drop_nil, AVal.flat, List.replicate_succ, List.replicate_zero])
                          refine WL_reg ?_
                          refine O_p rfl rfl rfl ?_
                          refine O_p rfl rfl rfl ?_
                          refine WO_nil ?_
                          refine WL_nil ?_
                          refine RndV_norm (i + 1) (by omega) (by show _ < _; omega) ?_ rfl
                          · rw [wrap_succ (by omega)]; (repeat (first | exact restr_nil | apply restr_cons rfl | apply restr_none rfl))
                      · skip
                        simp at h94
                        obtain rfl : i = a.funs.length := by omega
                        rw [← hML, List.take_length]
                        refine WL_exit ?_
                        refine RndV_exit ?_
                        refine Blk_exit (?_ : WL _ _ _ _ _)
                        refine WL_nil ?_
                        refine Blk_norm (?_ : WL _ _ _ _ _)
                        refine WL_seq ?_
                        apply WL_prune
                        · (repeat (first | exact restr_nil | apply restr_cons rfl | apply restr_none rfl))
                        conv => arg 4; (try simp only [List.set_cons_zero, List.set_cons_succ, List.nil_append, List.cons_append, List.length_cons, List.length_nil, Nat.zero_add, Nat.add_zero, Nat.reduceAdd, putCells_cT, take_cT,  putCells, List.take_succ_cons, List.take_zero, List.take_nil, List.drop_succ_cons, List.drop_zero, List.drop_nil, AVal.flat, List.replicate_succ, List.replicate_zero])
                        conv => arg 3; (try simp only [List.set_cons_zero, List.set_cons_succ, List.nil_append, List.cons_append, List.length_cons, List.length_nil, Nat.zero_add, Nat.add_zero, Nat.reduceAdd, putCells_cT, take_cT,  putCells, List.take_succ_cons, List.take_zero, List.take_nil, List.drop_succ_cons, List.drop_zero, List.drop_nil, AVal.flat, List.replicate_succ, List.replicate_zero])
                        refine WL_seq ?_
                        refine WL_reg ?_
                        refine O_h rfl rfl rfl rfl ?_
                        refine O_hn rfl rfl rfl rfl ?_
                        refine WO_nil ?_
                        refine WL_ret ?_
                        refine ⟨_, rfl, vC (compC (k + 1) a b), ?_, rfl⟩
                        first | (rw [compC, hG]; rfl) | (rw [compC, hG]; show shutR _ (.agg (fC (fun j => orI (a.flat j) (b.flat j)) (pairP (compC k) a b).1 (pairP (compC k) a b).2.1 (.lst ((pairP (compC k) a b).2.2.map encC) f) a.fn a.flab (.gl 4 (mixF (compC k) a.funs b.funs).length))) = _; simp [shutR, shutRL, growAt, fC, cC, Co.flat, Co.pair, Co.plab, Co.pairs, Co.fn, Co.flab, Co.funs]; done)
theorem compose_c : ∀ (k n : Nat) (a b : Co), RtC a → RtC b → szC a + szC b ≤ k → 20 * k + 40 < n → pcall (tabOf tabL) n 18 [vC a, vC b] = some (.ok (vC (compC k a b)))
  | 0, n, a, b, _, _, h, _ => by have := szC_pos a; omega
  | k + 1, n, a, b, ra, rb, h, hn => by
    obtain ⟨n, rfl⟩ : ∃ m, n = m + 1 := ⟨n - 1, by omega⟩
    exact comp_c k n a b ra rb h (by omega) (fun a b ra rb h => compose_c k n a b ra rb h (by omega))
theorem compose_self (n : Nat) (c : Co) (rc : RtC c) (hn : 40 * szC c + 40 < n) : pcall (tabOf tabL) n 18 [vC c, vC c] = some (.ok (vC c)) := by
  rw [compose_c (szC c + szC c) n c c rc rc (by omega) (by omega), comp_self _ c rc (by omega)]
end Go.Ev.Seat
