/-
  The functions about coercions: those of types.
-/
import Derived.Test.YtbjoldcjbpngaaaCoerce6
import Derived.Test.YtbjoldcjbpngaaaTypes1
import Derived.Test.YtbjoldcjbpngaaaCoT
set_option linter.unusedVariables false
set_option linter.unusedSimpArgs false
namespace Go.Ev.Seat
open Go Go.Ev
set_option maxRecDepth 20000
attribute [local irreducible] pcall callF
theorem pairsM_c (n : Nat) (up : Bool) (lb : Int) (qs : List Co) (c0 c1 : List AVal) (g : Nat → Int) (f m : Int) (gs : AVal) (hl : qs.length < n) (hm : qs.length < 1000000) :
    callF (tabOf tabL) (n + 5) 42 [.ptr 2 0, .lst (qs.map encC) true] [.cells c0, .cells c1, .cells (fC g 0 0 (.lst [] true) f m gs)] =
      some (.ok (.tup []), [.cells c0, .cells c1, .cells (fC g (pairG up lb 1 qs).1 (pairG up lb 1 qs).2.1 (.lst ((pairG up lb 1 qs).2.2.map encC) true) f m gs)]) := by
  refine callF_fin t42 ?_
  refine WL_seq ?_
  refine WL_reg ?_
  refine O_p rfl rfl rfl ?_
  refine O_c 56 rfl rfl (callA_of rfl (some_c n qs hl hm)) ?_
  refine WO_nil ?_
  refine WL_seq ?_
  apply WL_prune
  · (repeat (first | exact restr_nil | apply restr_cons rfl | apply restr_none rfl))
  refine WL_cond rfl (fun h5 => ?_) (fun h5 => ?_)
  · skip
    have hP : pairG up lb 1 qs = (2, 0, qs) := by
      have ha : anyA qs = true := h5
      simp [pairG, ha]
    refine WL_reg ?_
    refine O_p rfl rfl rfl ?_
    refine O_p rfl rfl rfl ?_
    refine O_p rfl rfl rfl ?_
    refine O_p rfl rfl rfl ?_
    refine O_p rfl rfl rfl ?_
    refine O_hn rfl rfl rfl rfl ?_
    refine O_p rfl rfl rfl ?_
    refine O_p rfl rfl rfl ?_
    refine O_hn rfl rfl rfl rfl ?_
    refine WO_nil ?_
    refine WL_nil ?_
    refine ⟨_, rfl, rfl, ?_⟩
    rw [hP]; rfl
  · skip
    have hP : pairG up lb 1 qs = (0, 0, []) := by
      have ha : anyA qs = false := h5
      simp [pairG, ha]
    refine WL_skip ?_
    refine WL_nil ?_
    refine ⟨_, rfl, rfl, ?_⟩
    rw [hP]; rfl
abbrev Zc : List AVal := [.int .i64 0, .int .i64 0, .int .i64 0, .int .i64 0, .int .i64 0, .int .i64 0, .int .i64 0, .int .i64 0, .lst [] true, .int .i64 0, .int .i64 0, .lst [] true]
theorem funsM_c (n : Nat) (up : Bool) (lb : Int) (ts : List Ty) (t : Ty) (A R : FuncId) (g : Nat → Int) (p q : Int) (ps : List AVal) (b : Bool) (hl : ts.length < n) (h9 : ts.length ≤ 9)
    (hA : ∀ x, x ∈ ts → pcall (tabOf tabL) (n + 5) A [vT x, .int .i64 lb] = some (.ok (vC (goC (!up) lb x)))) (hR : ∀ x, x ∈ ts → pcall (tabOf tabL) (n + 5) R [vT x, .int .i64 lb] = some (.ok (vC (goC up lb x)))) :
    callF (tabOf tabL) (n + 6) 43 [.ptr 2 0, .lst (ts.map encT) false, .fn A [], .fn R [], .int .i64 lb] [.cells (cT t), .cells Zc, .cells (fC g p q (.lst ps b) 0 0 (.lst [] true))] =
      some (.ok (.tup []), [.cells (cT t), .cells Zc, .cells (if anyA (goFs up lb ts) then fC g p q (.lst ps b) 2 0 (.gl 3 ts.length) else fC g p q (.lst ps b) 0 0 (.lst [] true)), .grow (es0 12 ts.length) ((goFs up lb ts).map encC) none]) := by
  have hL := goFs_len up lb ts
  refine callF_fin t43 ?_
  refine WL_seq ?_
  refine WL_reg ?_
  refine O_p rfl rfl rfl ?_
  refine WO_nil ?_
  refine WL_seq ?_
  apply WL_prune
  · (repeat (first | exact restr_nil | apply restr_cons rfl | apply restr_none rfl))
  conv => arg 4; (try simp only [List.set_cons_zero, List.set_cons_succ, List.nil_append, List.cons_append, List.length_cons, List.length_nil, Nat.zero_add, Nat.add_zero, Nat.reduceAdd, putCells_cT, take_cT,  putCells, List.take_succ_cons, List.take_zero, List.take_nil, List.drop_succ_cons, List.drop_zero, List.drop_nil, AVal.flat, List.replicate_succ, List.replicate_zero])
  conv => arg 3; (try simp only [List.set_cons_zero, List.set_cons_succ, List.nil_append, List.cons_append, List.length_cons, List.length_nil, Nat.zero_add, Nat.add_zero, Nat.reduceAdd, putCells_cT, take_cT,  putCells, List.take_succ_cons, List.take_zero, List.take_nil, List.drop_succ_cons, List.drop_zero, List.drop_nil, AVal.flat, List.replicate_succ, List.replicate_zero])
  refine WL_seq ?_
  refine WL_seq ?_
  refine WL_reg ?_
  refine O_p rfl rfl rfl ?_
  refine O_h rfl rfl rfl rfl ?_
  refine O_p rfl rfl rfl ?_
  refine WO_nil ?_
  refine WL_seq ?_
  apply WL_prune
  · (repeat (first | exact restr_nil | apply restr_cons rfl | apply restr_none rfl))
  conv => arg 4; (try simp only [List.set_cons_zero, List.set_cons_succ, List.nil_append, List.cons_append, List.length_cons, List.length_nil, Nat.zero_add, Nat.add_zero, Nat.reduceAdd, putCells_cT, take_cT,  putCells, List.take_succ_cons, List.take_zero, List.take_nil, List.drop_succ_cons, List.drop_zero, List.drop_nil, AVal.flat, List.replicate_succ, List.replicate_zero])
  conv => arg 3; (try simp only [List.set_cons_zero, List.set_cons_succ, List.nil_append, List.cons_append, List.length_cons, List.length_nil, Nat.zero_add, Nat.add_zero, Nat.reduceAdd, putCells_cT, take_cT,  putCells, List.take_succ_cons, List.take_zero, List.take_nil, List.drop_succ_cons, List.drop_zero, List.drop_nil, AVal.flat, List.replicate_succ, List.replicate_zero])
  refine WL_block ?_
  refine WL_seq ?_
  refine WL_own rfl ?_
  apply WL_forv (hc := [.cells (cT t), .cells Zc, .cells (fC g p q (.lst ps b) 0 0 (.lst [] true))]) (α := Nat) (fun i => [(10, .gl 3 i), (16, .int .i64 (i : Nat))]) (fun i => [.grow (es0 12 i) (((goFs up lb ts).take i).map encC) none]) (fun i => i ≤ ts.length) (fun i => ts.length - i) (0) (he := ?he) (hh := ?hh) (hP := ?hP) (hk := ?hk) (round := ?round)
  case he =>
    (repeat (first | exact restr_nil | apply restr_cons rfl | apply restr_none rfl))
  case hh =>
    rfl
  case hP =>
    omega
  case hk =>
    show ts.length - 0 < n + 5; omega
  case round =>
    rintro i hi
    dsimp only [List.cons_append, List.nil_append] at *
    refine WL_seq ?_
    refine WL_reg ?_
    refine O_p rfl rfl rfl ?_
    refine WO_nil ?_
    refine WL_seq ?_
    apply WL_prune
    · (repeat (first | exact restr_nil | apply restr_cons rfl | apply restr_none rfl))
    conv => arg 4; (try simp only [List.set_cons_zero, List.set_cons_succ, List.nil_append, List.cons_append, List.length_cons, List.length_nil, Nat.zero_add, Nat.add_zero, Nat.reduceAdd, putCells_cT, take_cT,  putCells, List.take_succ_cons, List.take_zero, List.take_nil, List.drop_succ_cons, List.drop_zero, List.drop_nil, AVal.flat, List.replicate_succ, List.replicate_zero])
    conv => arg 3; (try simp only [List.set_cons_zero, List.set_cons_succ, List.nil_append, List.cons_append, List.length_cons, List.length_nil, Nat.zero_add, Nat.add_zero, Nat.reduceAdd, putCells_cT, take_cT,  putCells, List.take_succ_cons, List.take_zero, List.take_nil, List.drop_succ_cons, List.drop_zero, List.drop_nil, AVal.flat, List.replicate_succ, List.replicate_zero])
    refine WL_seq ?_
    refine WL_cond rfl (fun h17 => ?_) (fun h17 => ?_)
    · skip
      simp at h17
      obtain ⟨x, hx⟩ : ∃ x, (ts)[i]? = some x := ⟨_, List.getElem?_eq_getElem (by omega)⟩
      have hmx := List.mem_of_getElem? hx
      refine WL_skip ?_
      refine WL_seq ?_
      apply WL_prune
      · (repeat (first | exact restr_nil | apply restr_cons rfl | apply restr_none rfl))
      conv => arg 4; (try simp only [List.set_cons_zero, List.set_cons_succ, List.nil_append, List.cons_append, List.length_cons, List.length_nil, Nat.zero_add, Nat.add_zero, Nat.reduceAdd, putCells_cT, take_cT,  putCells, List.take_succ_cons, List.take_zero, List.take_nil, List.drop_succ_cons, List.drop_zero, List.drop_nil, AVal.flat, List.replicate_succ, List.replicate_zero])
      conv => arg 3; (try simp only [List.set_cons_zero, List.set_cons_succ, List.nil_append, List.cons_append, List.length_cons, List.length_nil, Nat.zero_add, Nat.add_zero, Nat.reduceAdd, putCells_cT, take_cT,  putCells, List.take_succ_cons, List.take_zero, List.take_nil, List.drop_succ_cons, List.drop_zero, List.drop_nil, AVal.flat, List.replicate_succ, List.replicate_zero])
      refine WL_seq ?_
      refine WL_block ?_
      refine WL_seq ?_
      refine WL_reg ?_
      refine O_p rfl rfl rfl ?_
      refine O_ia rfl rfl (Int.natCast_nonneg _) (encT_get (i := (i : Nat)) hx) (encT_flat _) rfl ?_
      refine O_h rfl rfl rfl rfl ?_
      refine O_n rfl rfl rfl ?_
      refine O_p rfl rfl rfl ?_
      refine O_hn rfl rfl rfl rfl ?_
      refine WO_nil ?_
      refine WL_seq ?_
      apply WL_prune
      · (repeat (first | exact restr_nil | apply restr_cons rfl | apply restr_none rfl))
      conv => arg 4; (try simp only [List.set_cons_zero, List.set_cons_succ, List.nil_append, List.cons_append, List.length_cons, List.length_nil, Nat.zero_add, Nat.add_zero, Nat.reduceAdd, putCells_cT, take_cT,  putCells, List.take_succ_cons, List.take_zero, List.take_nil, List.drop_succ_cons, List.drop_zero, List.drop_nil, AVal.flat, List.replicate_succ, List.replicate_zero])
      conv => arg 3; (try simp only [List.set_cons_zero, List.set_cons_succ, List.nil_append, List.cons_append, List.length_cons, List.length_nil, Nat.zero_add, Nat.add_zero, Nat.reduceAdd, putCells_cT, take_cT,  putCells, List.take_succ_cons, List.take_zero, List.take_nil, List.drop_succ_cons, List.drop_zero, List.drop_nil, AVal.flat, List.replicate_succ, List.replicate_zero])
      refine WL_seq ?_
      refine WL_reg ?_
      refine O_p rfl rfl rfl ?_
      refine O_p rfl rfl rfl ?_
      refine WO_nil ?_
      refine WL_seq ?_
      apply WL_prune
      · (repeat (first | exact restr_nil | apply restr_cons rfl | apply restr_none rfl))
      conv => arg 4; (try simp only [List.set_cons_zero, List.set_cons_succ, List.nil_append, List.cons_append, List.length_cons, List.length_nil, Nat.zero_add, Nat.add_zero, Nat.reduceAdd, putCells_cT, take_cT,  putCells, List.take_succ_cons, List.take_zero, List.take_nil, List.drop_succ_cons, List.drop_zero, List.drop_nil, AVal.flat, List.replicate_succ, List.replicate_zero])
      conv => arg 3; (try simp only [List.set_cons_zero, List.set_cons_succ, List.nil_append, List.cons_append, List.length_cons, List.length_nil, Nat.zero_add, Nat.add_zero, Nat.reduceAdd, putCells_cT, take_cT,  putCells, List.take_succ_cons, List.take_zero, List.take_nil, List.drop_succ_cons, List.drop_zero, List.drop_nil, AVal.flat, List.replicate_succ, List.replicate_zero])
      refine WL_seq ?_
      refine WL_seq ?_
      refine WL_reg ?_
      refine O_p rfl rfl rfl ?_
      refine O_p rfl rfl rfl ?_
      refine O_h rfl rfl rfl rfl ?_
      refine O_p rfl rfl rfl ?_
      refine O_p rfl rfl rfl ?_
      refine WO_nil ?_
      refine WL_seq ?_
      apply WL_prune
      · (repeat (first | exact restr_nil | apply restr_cons rfl | apply restr_none rfl))
      conv => arg 4; (try simp only [List.set_cons_zero, List.set_cons_succ, List.nil_append, List.cons_append, List.length_cons, List.length_nil, Nat.zero_add, Nat.add_zero, Nat.reduceAdd, putCells_cT, take_cT,  putCells, List.take_succ_cons, List.take_zero, List.take_nil, List.drop_succ_cons, List.drop_zero, List.drop_nil, AVal.flat, List.replicate_succ, List.replicate_zero])
      conv => arg 3; (try simp only [List.set_cons_zero, List.set_cons_succ, List.nil_append, List.cons_append, List.length_cons, List.length_nil, Nat.zero_add, Nat.add_zero, Nat.reduceAdd, putCells_cT, take_cT,  putCells, List.take_succ_cons, List.take_zero, List.take_nil, List.drop_succ_cons, List.drop_zero, List.drop_nil, AVal.flat, List.replicate_succ, List.replicate_zero])
      refine WL_cond rfl (fun h26 => ?_) (fun h26 => ?_)
      · skip
        have hlst : i + 1 = ts.length := by
          simp at h26; rw [kw_i64_id (by omega) (by omega)] at h26; omega
        obtain ⟨z, hzd⟩ : ∃ z, z = goC up lb x := ⟨_, rfl⟩
        have hz : (goFs up lb ts)[i]? = some z := by rw [goFs_get _ _ _ i x hx, if_pos hlst, hzd]
        have hcall := hR x hmx
        rw [← hzd] at hcall
        refine WL_reg ?_
        refine O_p rfl rfl rfl ?_
        refine O_p rfl rfl rfl ?_
        refine WO_nil ?_
        refine WL_seq ?_
        apply WL_prune
        · (repeat (first | exact restr_nil | apply restr_cons rfl | apply restr_none rfl))
        conv => arg 4; (try simp only [List.set_cons_zero, List.set_cons_succ, List.nil_append, List.cons_append, List.length_cons, List.length_nil, Nat.zero_add, Nat.add_zero, Nat.reduceAdd, putCells_cT, take_cT,  putCells, List.take_succ_cons, List.take_zero, List.take_nil, List.drop_succ_cons, List.drop_zero, List.drop_nil, AVal.flat, List.replicate_succ, List.replicate_zero])
        conv => arg 3; (try simp only [List.set_cons_zero, List.set_cons_succ, List.nil_append, List.cons_append, List.length_cons, List.length_nil, Nat.zero_add, Nat.add_zero, Nat.reduceAdd, putCells_cT, take_cT,  putCells, List.take_succ_cons, List.take_zero, List.take_nil, List.drop_succ_cons, List.drop_zero, List.drop_nil, AVal.flat, List.replicate_succ, List.replicate_zero])
        refine WL_reg ?_
        refine O_p rfl rfl rfl ?_
        refine O_p rfl rfl rfl ?_
        refine O_h rfl rfl rfl rfl ?_
        refine O_p rfl rfl rfl ?_
        refine O_cv rfl rfl (callA_of rfl hcall) ?_
        refine O_h rfl rfl rfl rfl ?_
        refine O_push (y := vC z) rfl rfl rfl (by simp; omega) (es0_or 12 i) (encC_w _) rfl (by omega)  (take_succ_map hz).symm rfl ?_
        refine O_p rfl rfl rfl ?_
        refine WO_nil ?_
        refine WL_nil ?_
        refine Blk_norm (?_ : WL _ _ _ _ _)
        refine WL_seq ?_
        apply WL_prune
        · (repeat (first | exact restr_nil | apply restr_cons rfl | apply restr_none rfl))
        conv => arg 4; (try simp only [List.set_cons_zero, List.set_cons_succ, List.nil_append, List.cons_append, List.length_cons, List.length_nil, Nat.zero_add, Nat.add_zero, Nat.reduceAdd, putCells_cT, take_cT,  putCells, List.take_succ_cons, List.take_zero, List.take_nil, List.drop_succ_cons, List.drop_zero, List.drop_nil, AVal.flat, List.replicate_succ, List.replicate_zero])
        conv => arg 3; (try simp only [List.set_cons_zero, List.set_cons_succ, List.nil_append, List.cons_append, List.length_cons, List.length_nil, Nat.zero_add, Nat.add_zero, Nat.reduceAdd, putCells_cT, take_cT,  putCells, List.take_succ_cons, List.take_zero, List.take_nil, List.drop_succ_cons, List.drop_zero, List.drop_nil, AVal.flat, List.replicate_succ, List.replicate_zero])
        refine WL_reg ?_
        refine O_p rfl rfl rfl ?_
        refine O_p rfl rfl rfl ?_
        refine WO_nil ?_
        refine WL_nil ?_
        refine RndV_norm (i + 1) (by omega) (by show _ < _; omega) ?_ rfl
        · rw [wrap_succ (by omega)]; (repeat (first | exact restr_nil | apply restr_cons rfl | apply restr_none rfl))
      · skip
        have hlst : ¬ i + 1 = ts.length := by
          simp at h26; rw [kw_i64_id (by omega) (by omega)] at h26; omega
        obtain ⟨z, hzd⟩ : ∃ z, z = goC (!up) lb x := ⟨_, rfl⟩
        have hz : (goFs up lb ts)[i]? = some z := by rw [goFs_get _ _ _ i x hx, if_neg hlst, hzd]
        have hcall := hA x hmx
        rw [← hzd] at hcall
        refine WL_skip ?_
        refine WL_seq ?_
        apply WL_prune
        · (repeat (first | exact restr_nil | apply restr_cons rfl | apply restr_none rfl))
        conv => arg 4; (try simp only [List.set_cons_zero, List.set_cons_succ, List.nil_append, List.cons_append, List.length_cons, List.length_nil, Nat.zero_add, Nat.add_zero, Nat.reduceAdd, putCells_cT, take_cT,  putCells, List.take_succ_cons, List.take_zero, List.take_nil, List.drop_succ_cons, List.drop_zero, List.drop_nil, AVal.flat, List.replicate_succ, List.replicate_zero])
        conv => arg 3; (try simp only [List.set_cons_zero, List.set_cons_succ, List.nil_append, List.cons_append, List.length_cons, List.length_nil, Nat.zero_add, Nat.add_zero, Nat.reduceAdd, putCells_cT, take_cT,  putCells, List.take_succ_cons, List.take_zero, List.take_nil, List.drop_succ_cons, List.drop_zero, List.drop_nil, AVal.flat, List.replicate_succ, List.replicate_zero])
        refine WL_reg ?_
        refine O_p rfl rfl rfl ?_
        refine O_p rfl rfl rfl ?_
        refine O_h rfl rfl rfl rfl ?_
        refine O_p rfl rfl rfl ?_
        refine O_cv rfl rfl (callA_of rfl hcall) ?_
        refine O_h rfl rfl rfl rfl ?_
        refine O_push (y := vC z) rfl rfl rfl (by simp; omega) (es0_or 12 i) (encC_w _) rfl (by omega)  (take_succ_map hz).symm rfl ?_
        refine O_p rfl rfl rfl ?_
        refine WO_nil ?_
        refine WL_nil ?_
        refine Blk_norm (?_ : WL _ _ _ _ _)
        refine WL_seq ?_
        apply WL_prune
        · (repeat (first | exact restr_nil | apply restr_cons rfl | apply restr_none rfl))
        conv => arg 4; (try simp only [List.set_cons_zero, List.set_cons_succ, List.nil_append, List.cons_append, List.length_cons, List.length_nil, Nat.zero_add, Nat.add_zero, Nat.reduceAdd, putCells_cT, take_cT,  putCells, List.take_succ_cons, List.take_zero, List.take_nil, List.drop_succ_cons, List.drop_zero, List.drop_nil, AVal.flat, List.replicate_succ, List.replicate_zero])
        conv => arg 3; (try simp only [List.set_cons_zero, List.set_cons_succ, List.nil_append, List.cons_append, List.length_cons, List.length_nil, Nat.zero_add, Nat.add_zero, Nat.reduceAdd, putCells_cT, take_cT,  putCells, List.take_succ_cons, List.take_zero, List.take_nil, List.drop_succ_cons, List.drop_zero, List.drop_nil, AVal.flat, List.replicate_succ, List.replicate_zero])
        refine WL_reg ?_
        refine O_p rfl rfl rfl ?_
        refine O_p rfl rfl rfl ?_
        refine WO_nil ?_
        refine WL_nil ?_
        refine RndV_norm (i + 1) (by omega) (by show _ < _; omega) ?_ rfl
        · rw [wrap_succ (by omega)]; (repeat (first | exact restr_nil | apply restr_cons rfl | apply restr_none rfl))
    · skip
      simp at h17
      obtain rfl : i = ts.length := by omega
      rw [← hL, List.take_length, hL]
      refine WL_exit ?_
      refine RndV_exit ?_
      refine Blk_exit (?_ : WL _ _ _ _ _)
      refine WL_seq ?_
      apply WL_prune
      · (repeat (first | exact restr_nil | apply restr_cons rfl | apply restr_none rfl))
      conv => arg 4; (try simp only [List.set_cons_zero, List.set_cons_succ, List.nil_append, List.cons_append, List.length_cons, List.length_nil, Nat.zero_add, Nat.add_zero, Nat.reduceAdd, putCells_cT, take_cT,  putCells, List.take_succ_cons, List.take_zero, List.take_nil, List.drop_succ_cons, List.drop_zero, List.drop_nil, AVal.flat, List.replicate_succ, List.replicate_zero])
      conv => arg 3; (try simp only [List.set_cons_zero, List.set_cons_succ, List.nil_append, List.cons_append, List.length_cons, List.length_nil, Nat.zero_add, Nat.add_zero, Nat.reduceAdd, putCells_cT, take_cT,  putCells, List.take_succ_cons, List.take_zero, List.take_nil, List.drop_succ_cons, List.drop_zero, List.drop_nil, AVal.flat, List.replicate_succ, List.replicate_zero])
      refine WL_seq ?_
      refine WL_reg ?_
      refine O_p rfl rfl rfl ?_
      refine O_c 56 rfl rfl (callA_of (as := [.lst ((goFs up lb ts).map encC) false, .fn 45 []]) (by simp [shutL, shutV, growAt, hL]) (some_c (n + 1) (goFs up lb ts) (by omega) (by omega))) ?_
      refine WO_nil ?_
      refine WL_seq ?_
      apply WL_prune
      · (repeat (first | exact restr_nil | apply restr_cons rfl | apply restr_none rfl))
      conv => arg 4; (try simp only [List.set_cons_zero, List.set_cons_succ, List.nil_append, List.cons_append, List.length_cons, List.length_nil, Nat.zero_add, Nat.add_zero, Nat.reduceAdd, putCells_cT, take_cT,  putCells, List.take_succ_cons, List.take_zero, List.take_nil, List.drop_succ_cons, List.drop_zero, List.drop_nil, AVal.flat, List.replicate_succ, List.replicate_zero])
      conv => arg 3; (try simp only [List.set_cons_zero, List.set_cons_succ, List.nil_append, List.cons_append, List.length_cons, List.length_nil, Nat.zero_add, Nat.add_zero, Nat.reduceAdd, putCells_cT, take_cT,  putCells, List.take_succ_cons, List.take_zero, List.take_nil, List.drop_succ_cons, List.drop_zero, List.drop_nil, AVal.flat, List.replicate_succ, List.replicate_zero])
      refine WL_cond rfl (fun h37 => ?_) (fun h37 => ?_)
      · skip
        replace h37 : anyA (goFs up lb ts) = true := h37
        refine WL_reg ?_
        refine O_p rfl rfl rfl ?_
        refine O_p rfl rfl rfl ?_
        refine O_p rfl rfl rfl ?_
        refine O_p rfl rfl rfl ?_
        refine O_p rfl rfl rfl ?_
        refine O_hn rfl rfl rfl rfl ?_
        refine O_p rfl rfl rfl ?_
        refine O_p rfl rfl rfl ?_
        refine O_hn rfl rfl rfl rfl ?_
        refine WO_nil ?_
        refine WL_nil ?_
        refine ⟨_, rfl, rfl, ?_⟩
        simp only [h37, if_true, Bool.false_eq_true, if_false]; first | done | rfl
      · skip
        replace h37 : anyA (goFs up lb ts) = false := h37
        refine WL_skip ?_
        refine WL_nil ?_
        refine ⟨_, rfl, rfl, ?_⟩
        simp only [h37, if_true, Bool.false_eq_true, if_false]; first | done | rfl
theorem funsA (n m : Nat) (up : Bool) (lb : Int) (ts : List Ty) (t : Ty) (A R : FuncId) (g : Nat → Int) (p q : Int) (ps : List AVal) (b : Bool) (hl : ts.length < n) (h9 : ts.length ≤ 9)
    (hA : ∀ x, x ∈ ts → pcall (tabOf tabL) (n + 5) A [vT x, .int .i64 lb] = some (.ok (vC (goC (!up) lb x)))) (hR : ∀ x, x ∈ ts → pcall (tabOf tabL) (n + 5) R [vT x, .int .i64 lb] = some (.ok (vC (goC up lb x)))) :
    (anyA (goFs up lb ts) = true ∧ callA ⟨callF (tabOf tabL) (n + 6), m⟩ false 43 [.ptr 2 0, .lst (ts.map encT) false, .fn A [], .fn R [], .int .i64 lb] [.cells (cT t), .cells Zc, .cells (fC g p q (.lst ps b) 0 0 (.lst [] true))] =
      some (.ok (.tup []), [.cells (cT t), .cells Zc, .cells (fC g p q (.lst ps b) 2 0 (.gl 3 ts.length)), .grow (es0 12 ts.length) ((goFs up lb ts).map encC) none])) ∨
    (anyA (goFs up lb ts) = false ∧ callA ⟨callF (tabOf tabL) (n + 6), m⟩ false 43 [.ptr 2 0, .lst (ts.map encT) false, .fn A [], .fn R [], .int .i64 lb] [.cells (cT t), .cells Zc, .cells (fC g p q (.lst ps b) 0 0 (.lst [] true))] =
      some (.ok (.tup []), [.cells (cT t), .cells Zc, .cells (fC g p q (.lst ps b) 0 0 (.lst [] true))])) := by
  have h := funsM_c n up lb ts t A R g p q ps b hl h9 hA hR
  cases ha : anyA (goFs up lb ts) with
  | true => rw [ha] at h; exact .inl ⟨rfl, callA_nr rfl h rfl⟩
  | false => rw [ha] at h; exact .inr ⟨rfl, callA_hc rfl h (by simp) rfl rfl rfl⟩
theorem funsM1_c (n : Nat) (up : Bool) (lb : Int) (ts : List Ty) (t : Ty) (A R : FuncId) (g : Nat → Int) (p q : Int) (ps : List AVal) (b : Bool) (x6 : Co) (hl : ts.length < n) (h9 : ts.length ≤ 9)
    (hA : ∀ x, x ∈ ts → pcall (tabOf tabL) (n + 5) A [vT x, .int .i64 lb] = some (.ok (vC (goC (!up) lb x)))) (hR : ∀ x, x ∈ ts → pcall (tabOf tabL) (n + 5) R [vT x, .int .i64 lb] = some (.ok (vC (goC up lb x)))) :
    callF (tabOf tabL) (n + 6) 43 [.ptr 2 0, .lst (ts.map encT) false, .fn A [], .fn R [], .int .i64 lb] [.cells (cT t), .cells Zc, .cells (fC g p q (.lst ps b) 0 0 (.lst [] true)), .cells (cC x6)] =
      some (.ok (.tup []), [.cells (cT t), .cells Zc, .cells (if anyA (goFs up lb ts) then fC g p q (.lst ps b) 2 0 (.gl 4 ts.length) else fC g p q (.lst ps b) 0 0 (.lst [] true)), .cells (cC x6), .grow (es0 12 ts.length) ((goFs up lb ts).map encC) none]) := by
  have hL := goFs_len up lb ts
  refine callF_fin t43 ?_
  refine WL_seq ?_
  refine WL_reg ?_
  refine O_p rfl rfl rfl ?_
  refine WO_nil ?_
  refine WL_seq ?_
  apply WL_prune
  · (repeat (first | exact restr_nil | apply restr_cons rfl | apply restr_none rfl))
  conv => arg 4; (try simp only [List.set_cons_zero, List.set_cons_succ, List.nil_append, List.cons_append, List.length_cons, List.length_nil, Nat.zero_add, Nat.add_zero, Nat.reduceAdd, putCells_cT, take_cT,  putCells, List.take_succ_cons, List.take_zero, List.take_nil, List.drop_succ_cons, List.drop_zero, List.drop_nil, AVal.flat, List.replicate_succ, List.replicate_zero])
  conv => arg 3; (try simp only [List.set_cons_zero, List.set_cons_succ, List.nil_append, List.cons_append, List.length_cons, List.length_nil, Nat.zero_add, Nat.add_zero, Nat.reduceAdd, putCells_cT, take_cT,  putCells, List.take_succ_cons, List.take_zero, List.take_nil, List.drop_succ_cons, List.drop_zero, List.drop_nil, AVal.flat, List.replicate_succ, List.replicate_zero])
  refine WL_seq ?_
  refine WL_seq ?_
  refine WL_reg ?_
  refine O_p rfl rfl rfl ?_
  refine O_h rfl rfl rfl rfl ?_
  refine O_p rfl rfl rfl ?_
  refine WO_nil ?_
  refine WL_seq ?_
  apply WL_prune
  · (repeat (first | exact restr_nil | apply restr_cons rfl | apply restr_none rfl))
  conv => arg 4; (try simp only [List.set_cons_zero, List.set_cons_succ, List.nil_append, List.cons_append, List.length_cons, List.length_nil, Nat.zero_add, Nat.add_zero, Nat.reduceAdd, putCells_cT, take_cT,  putCells, List.take_succ_cons, List.take_zero, List.take_nil, List.drop_succ_cons, List.drop_zero, List.drop_nil, AVal.flat, List.replicate_succ, List.replicate_zero])
  conv => arg 3; (try simp only [List.set_cons_zero, List.set_cons_succ, List.nil_append, List.cons_append, List.length_cons, List.length_nil, Nat.zero_add, Nat.add_zero, Nat.reduceAdd, putCells_cT, take_cT,  putCells, List.take_succ_cons, List.take_zero, List.take_nil, List.drop_succ_cons, List.drop_zero, List.drop_nil, AVal.flat, List.replicate_succ, List.replicate_zero])
  refine WL_block ?_
  refine WL_seq ?_
  refine WL_own rfl ?_
  apply WL_forv (hc := [.cells (cT t), .cells Zc, .cells (fC g p q (.lst ps b) 0 0 (.lst [] true)), .cells (cC x6)]) (α := Nat) (fun i => [(10, .gl 4 i), (16, .int .i64 (i : Nat))]) (fun i => [.grow (es0 12 i) (((goFs up lb ts).take i).map encC) none]) (fun i => i ≤ ts.length) (fun i => ts.length - i) (0) (he := ?he) (hh := ?hh) (hP := ?hP) (hk := ?hk) (round := ?round)
  case he =>
    (repeat (first | exact restr_nil | apply restr_cons rfl | apply restr_none rfl))
  case hh =>
    rfl
  case hP =>
    omega
  case hk =>
    show ts.length - 0 < n + 5; omega
  case round =>
    rintro i hi
    dsimp only [List.cons_append, List.nil_append] at *
    refine WL_seq ?_
    refine WL_reg ?_
    refine O_p rfl rfl rfl ?_
    refine WO_nil ?_
    refine WL_seq ?_
    apply WL_prune
    · (repeat (first | exact restr_nil | apply restr_cons rfl | apply restr_none rfl))
    conv => arg 4; (try simp only [List.set_cons_zero, List.set_cons_succ, List.nil_append, List.cons_append, List.length_cons, List.length_nil, Nat.zero_add, Nat.add_zero, Nat.reduceAdd, putCells_cT, take_cT,  putCells, List.take_succ_cons, List.take_zero, List.take_nil, List.drop_succ_cons, List.drop_zero, List.drop_nil, AVal.flat, List.replicate_succ, List.replicate_zero])
    conv => arg 3; (try simp only [List.set_cons_zero, List.set_cons_succ, List.nil_append, List.cons_append, List.length_cons, List.length_nil, Nat.zero_add, Nat.add_zero, Nat.reduceAdd, putCells_cT, take_cT,  putCells, List.take_succ_cons, List.take_zero, List.take_nil, List.drop_succ_cons, List.drop_zero, List.drop_nil, AVal.flat, List.replicate_succ, List.replicate_zero])
    refine WL_seq ?_
    refine WL_cond rfl (fun h17 => ?_) (fun h17 => ?_)
    · skip
      simp at h17
      obtain ⟨x, hx⟩ : ∃ x, (ts)[i]? = some x := ⟨_, List.getElem?_eq_getElem (by omega)⟩
      have hmx := List.mem_of_getElem? hx
      refine WL_skip ?_
      refine WL_seq ?_
      apply WL_prune
      · (repeat (first | exact restr_nil | apply restr_cons rfl | apply restr_none rfl))
      conv => arg 4; (try simp only [List.set_cons_zero, List.set_cons_succ, List.nil_append, List.cons_append, List.length_cons, List.length_nil, Nat.zero_add, Nat.add_zero, Nat.reduceAdd, putCells_cT, take_cT,  putCells, List.take_succ_cons, List.take_zero, List.take_nil, List.drop_succ_cons, List.drop_zero, List.drop_nil, AVal.flat, List.replicate_succ, List.replicate_zero])
      conv => arg 3; (try simp only [List.set_cons_zero, List.set_cons_succ, List.nil_append, List.cons_append, List.length_cons, List.length_nil, Nat.zero_add, Nat.add_zero, Nat.reduceAdd, putCells_cT, take_cT,  putCells, List.take_succ_cons, List.take_zero, List.take_nil, List.drop_succ_cons, List.drop_zero, List.drop_nil, AVal.flat, List.replicate_succ, List.replicate_zero])
      refine WL_seq ?_
      refine WL_block ?_
      refine WL_seq ?_
      refine WL_reg ?_
      refine O_p rfl rfl rfl ?_
      refine O_ia rfl rfl (Int.natCast_nonneg _) (encT_get (i := (i : Nat)) hx) (encT_flat _) rfl ?_
      refine O_h rfl rfl rfl rfl ?_
      refine O_n rfl rfl rfl ?_
      refine O_p rfl rfl rfl ?_
      refine O_hn rfl rfl rfl rfl ?_
      refine WO_nil ?_
      refine WL_seq ?_
      apply WL_prune
      · (repeat (first | exact restr_nil | apply restr_cons rfl | apply restr_none rfl))
      conv => arg 4; (try simp only [List.set_cons_zero, List.set_cons_succ, List.nil_append, List.cons_append, List.length_cons, List.length_nil, Nat.zero_add, Nat.add_zero, Nat.reduceAdd, putCells_cT, take_cT,  putCells, List.take_succ_cons, List.take_zero, List.take_nil, List.drop_succ_cons, List.drop_zero, List.drop_nil, AVal.flat, List.replicate_succ, List.replicate_zero])
      conv => arg 3; (try simp only [List.set_cons_zero, List.set_cons_succ, List.nil_append, List.cons_append, List.length_cons, List.length_nil, Nat.zero_add, Nat.add_zero, Nat.reduceAdd, putCells_cT, take_cT,  putCells, List.take_succ_cons, List.take_zero, List.take_nil, List.drop_succ_cons, List.drop_zero, List.drop_nil, AVal.flat, List.replicate_succ, List.replicate_zero])
      refine WL_seq ?_
      refine WL_reg ?_
      refine O_p rfl rfl rfl ?_
      refine O_p rfl rfl rfl ?_
      refine WO_nil ?_
      refine WL_seq ?_
      apply WL_prune
      · (repeat (first | exact restr_nil | apply restr_cons rfl | apply restr_none rfl))
      conv => arg 4; (try simp only [List.set_cons_zero, List.set_cons_succ, List.nil_append, List.cons_append, List.length_cons, List.length_nil, Nat.zero_add, Nat.add_zero, Nat.reduceAdd, putCells_cT, take_cT,  putCells, List.take_succ_cons, List.take_zero, List.take_nil, List.drop_succ_cons, List.drop_zero, List.drop_nil, AVal.flat, List.replicate_succ, List.replicate_zero])
      conv => arg 3; (try simp only [List.set_cons_zero, List.set_cons_succ, List.nil_append, List.cons_append, List.length_cons, List.length_nil, Nat.zero_add, Nat.add_zero, Nat.reduceAdd, putCells_cT, take_cT,  putCells, List.take_succ_cons, List.take_zero, List.take_nil, List.drop_succ_cons, List.drop_zero, List.drop_nil, AVal.flat, List.replicate_succ, List.replicate_zero])
      refine WL_seq ?_
      refine WL_seq ?_
      refine WL_reg ?_
      refine O_p rfl rfl rfl ?_
      refine O_p rfl rfl rfl ?_
      refine O_h rfl rfl rfl rfl ?_
      refine O_p rfl rfl rfl ?_
      refine O_p rfl rfl rfl ?_
      refine WO_nil ?_
      refine WL_seq ?_
      apply WL_prune
      · (repeat (first | exact restr_nil | apply restr_cons rfl | apply restr_none rfl))
      conv => arg 4; (try simp only [List.set_cons_zero, List.set_cons_succ, List.nil_append, List.cons_append, List.length_cons, List.length_nil, Nat.zero_add, Nat.add_zero, Nat.reduceAdd, putCells_cT, take_cT,  putCells, List.take_succ_cons, List.take_zero, List.take_nil, List.drop_succ_cons, List.drop_zero, List.drop_nil, AVal.flat, List.replicate_succ, List.replicate_zero])
      conv => arg 3; (try simp only [List.set_cons_zero, List.set_cons_succ, List.nil_append, List.cons_append, List.length_cons, List.length_nil, Nat.zero_add, Nat.add_zero, Nat.reduceAdd, putCells_cT, take_cT,  putCells, List.take_succ_cons, List.take_zero, List.take_nil, List.drop_succ_cons, List.drop_zero, List.drop_nil, AVal.flat, List.replicate_succ, List.replicate_zero])
      refine WL_cond rfl (fun h26 => ?_) (fun h26 => ?_)
      · skip
        have hlst : i + 1 = ts.length := by
          simp at h26; rw [kw_i64_id (by omega) (by omega)] at h26; omega
        obtain ⟨z, hzd⟩ : ∃ z, z = goC up lb x := ⟨_, rfl⟩
        have hz : (goFs up lb ts)[i]? = some z := by rw [goFs_get _ _ _ i x hx, if_pos hlst, hzd]
        have hcall := hR x hmx
        rw [← hzd] at hcall
        refine WL_reg ?_
        refine O_p rfl rfl rfl ?_
        refine O_p rfl rfl rfl ?_
        refine WO_nil ?_
        refine WL_seq ?_
        apply WL_prune
        · (repeat (first | exact restr_nil | apply restr_cons rfl | apply restr_none rfl))
        conv => arg 4; (try simp only [List.set_cons_zero, List.set_cons_succ, List.nil_append, List.cons_append, List.length_cons, List.length_nil, Nat.zero_add, Nat.add_zero, Nat.reduceAdd, putCells_cT, take_cT,  putCells, List.take_succ_cons, List.take_zero, List.take_nil, List.drop_succ_cons, List.drop_zero, List.drop_nil, AVal.flat, List.replicate_succ, List.replicate_zero])
        conv => arg 3; (try simp only [List.set_cons_zero, List.set_cons_succ, List.nil_append, List.cons_append, List.length_cons, List.length_nil, Nat.zero_add, Nat.add_zero, Nat.reduceAdd, putCells_cT, take_cT,  putCells, List.take_succ_cons, List.take_zero, List.take_nil, List.drop_succ_cons, List.drop_zero, List.drop_nil, AVal.flat, List.replicate_succ, List.replicate_zero])
        refine WL_reg ?_
        refine O_p rfl rfl rfl ?_
        refine O_p rfl rfl rfl ?_
        refine O_h rfl rfl rfl rfl ?_
        refine O_p rfl rfl rfl ?_
        refine O_cv rfl rfl (callA_of rfl hcall) ?_
        refine O_h rfl rfl rfl rfl ?_
        refine O_push (y := vC z) rfl rfl rfl (by simp; omega) (es0_or 12 i) (encC_w _) rfl (by omega)  (take_succ_map hz).symm rfl ?_
        refine O_p rfl rfl rfl ?_
        refine WO_nil ?_
        refine WL_nil ?_
        refine Blk_norm (?_ : WL _ _ _ _ _)
        refine WL_seq ?_
        apply WL_prune
        · (repeat (first | exact restr_nil | apply restr_cons rfl | apply restr_none rfl))
        conv => arg 4; (try simp only [List.set_cons_zero, List.set_cons_succ, List.nil_append, List.cons_append, List.length_cons, List.length_nil, Nat.zero_add, Nat.add_zero, Nat.reduceAdd, putCells_cT, take_cT,  putCells, List.take_succ_cons, List.take_zero, List.take_nil, List.drop_succ_cons, List.drop_zero, List.drop_nil, AVal.flat, List.replicate_succ, List.replicate_zero])
        conv => arg 3; (try simp only [List.set_cons_zero, List.set_cons_succ, List.nil_append, List.cons_append, List.length_cons, List.length_nil, Nat.zero_add, Nat.add_zero, Nat.reduceAdd, putCells_cT, take_cT,  putCells, List.take_succ_cons, List.take_zero, List.take_nil, List.drop_succ_cons, List.drop_zero, List.drop_nil, AVal.flat, List.replicate_succ, List.replicate_zero])
        refine WL_reg ?_
        refine O_p rfl rfl rfl ?_
        refine O_p rfl rfl rfl ?_
        refine WO_nil ?_
        refine WL_nil ?_
        refine RndV_norm (i + 1) (by omega) (by show _ < _; omega) ?_ rfl
        · rw [wrap_succ (by omega)]; (repeat (first | exact restr_nil | apply restr_cons rfl | apply restr_none rfl))
      · skip
        have hlst : ¬ i + 1 = ts.length := by
          simp at h26; rw [kw_i64_id (by omega) (by omega)] at h26; omega
        obtain ⟨z, hzd⟩ : ∃ z, z = goC (!up) lb x := ⟨_, rfl⟩
        have hz : (goFs up lb ts)[i]? = some z := by rw [goFs_get _ _ _ i x hx, if_neg hlst, hzd]
        have hcall := hA x hmx
        rw [← hzd] at hcall
        refine WL_skip ?_
        refine WL_seq ?_
        apply WL_prune
        · (repeat (first | exact restr_nil | apply restr_cons rfl | apply restr_none rfl))
        conv => arg 4; (try simp only [List.set_cons_zero, List.set_cons_succ, List.nil_append, List.cons_append, List.length_cons, List.length_nil, Nat.zero_add, Nat.add_zero, Nat.reduceAdd, putCells_cT, take_cT,  putCells, List.take_succ_cons, List.take_zero, List.take_nil, List.drop_succ_cons, List.drop_zero, List.drop_nil, AVal.flat, List.replicate_succ, List.replicate_zero])
        conv => arg 3; (try simp only [List.set_cons_zero, List.set_cons_succ, List.nil_append, List.cons_append, List.length_cons, List.length_nil, Nat.zero_add, Nat.add_zero, Nat.reduceAdd, putCells_cT, take_cT,  putCells, List.take_succ_cons, List.take_zero, List.take_nil, List.drop_succ_cons, List.drop_zero, List.drop_nil, AVal.flat, List.replicate_succ, List.replicate_zero])
        refine WL_reg ?_
        refine O_p rfl rfl rfl ?_
        refine O_p rfl rfl rfl ?_
        refine O_h rfl rfl rfl rfl ?_
        refine O_p rfl rfl rfl ?_
        refine O_cv rfl rfl (callA_of rfl hcall) ?_
        refine O_h rfl rfl rfl rfl ?_
        refine O_push (y := vC z) rfl rfl rfl (by simp; omega) (es0_or 12 i) (encC_w _) rfl (by omega)  (take_succ_map hz).symm rfl ?_
        refine O_p rfl rfl rfl ?_
        refine WO_nil ?_
        refine WL_nil ?_
        refine Blk_norm (?_ : WL _ _ _ _ _)
        refine WL_seq ?_
        apply WL_prune
        · (repeat (first | exact restr_nil | apply restr_cons rfl | apply restr_none rfl))
        conv => arg 4; (try simp only [List.set_cons_zero, List.set_cons_succ, List.nil_append, List.cons_append, List.length_cons, List.length_nil, Nat.zero_add, Nat.add_zero, Nat.reduceAdd, putCells_cT, take_cT,  putCells, List.take_succ_cons, List.take_zero, List.take_nil, List.drop_succ_cons, List.drop_zero, List.drop_nil, AVal.flat, List.replicate_succ, List.replicate_zero])
        conv => arg 3; (try simp only [List.set_cons_zero, List.set_cons_succ, List.nil_append, List.cons_append, List.length_cons, List.length_nil, Nat.zero_add, Nat.add_zero, Nat.reduceAdd, putCells_cT, take_cT,  putCells, List.take_succ_cons, List.take_zero, List.take_nil, List.drop_succ_cons, List.drop_zero, List.drop_nil, AVal.flat, List.replicate_succ, List.replicate_zero])
        refine WL_reg ?_
        refine O_p rfl rfl rfl ?_
        refine O_p rfl rfl rfl ?_
        refine WO_nil ?_
        refine WL_nil ?_
        refine RndV_norm (i + 1) (by omega) (by show _ < _; omega) ?_ rfl
        · rw [wrap_succ (by omega)]; (repeat (first | exact restr_nil | apply restr_cons rfl | apply restr_none rfl))
    · skip
      simp at h17
      obtain rfl : i = ts.length := by omega
      rw [← hL, List.take_length, hL]
      refine WL_exit ?_
      refine RndV_exit ?_
      refine Blk_exit (?_ : WL _ _ _ _ _)
      refine WL_seq ?_
      apply WL_prune
      · (repeat (first | exact restr_nil | apply restr_cons rfl | apply restr_none rfl))
      conv => arg 4; (try simp only [List.set_cons_zero, List.set_cons_succ, List.nil_append, List.cons_append, List.length_cons, List.length_nil, Nat.zero_add, Nat.add_zero, Nat.reduceAdd, putCells_cT, take_cT,  putCells, List.take_succ_cons, List.take_zero, List.take_nil, List.drop_succ_cons, List.drop_zero, List.drop_nil, AVal.flat, List.replicate_succ, List.replicate_zero])
      conv => arg 3; (try simp only [List.set_cons_zero, List.set_cons_succ, List.nil_append, List.cons_append, List.length_cons, List.length_nil, Nat.zero_add, Nat.add_zero, Nat.reduceAdd, putCells_cT, take_cT,  putCells, List.take_succ_cons, List.take_zero, List.take_nil, List.drop_succ_cons, List.drop_zero, List.drop_nil, AVal.flat, List.replicate_succ, List.replicate_zero])
      refine WL_seq ?_
      refine WL_reg ?_
      refine O_p rfl rfl rfl ?_
      refine O_c 56 rfl rfl (callA_of (as := [.lst ((goFs up lb ts).map encC) false, .fn 45 []]) (by simp [shutL, shutV, growAt, hL]) (some_c (n + 1) (goFs up lb ts) (by omega) (by omega))) ?_
      refine WO_nil ?_
      refine WL_seq ?_
      apply WL_prune
      · (repeat (first | exact restr_nil | apply restr_cons rfl | apply restr_none rfl))
      conv => arg 4; (try simp only [List.set_cons_zero, List.set_cons_succ, List.nil_append, List.cons_append, List.length_cons, List.length_nil, Nat.zero_add, Nat.add_zero, Nat.reduceAdd, putCells_cT, take_cT,  putCells, List.take_succ_cons, List.take_zero, List.take_nil, List.drop_succ_cons, List.drop_zero, List.drop_nil, AVal.flat, List.replicate_succ, List.replicate_zero])
      conv => arg 3; (try simp only [List.set_cons_zero, List.set_cons_succ, List.nil_append, List.cons_append, List.length_cons, List.length_nil, Nat.zero_add, Nat.add_zero, Nat.reduceAdd, putCells_cT, take_cT,  putCells, List.take_succ_cons, List.take_zero, List.take_nil, List.drop_succ_cons, List.drop_zero, List.drop_nil, AVal.flat, List.replicate_succ, List.replicate_zero])
      refine WL_cond rfl (fun h37 => ?_) (fun h37 => ?_)
      · skip
        replace h37 : anyA (goFs up lb ts) = true := h37
        refine WL_reg ?_
        refine O_p rfl rfl rfl ?_
        refine O_p rfl rfl rfl ?_
        refine O_p rfl rfl rfl ?_
        refine O_p rfl rfl rfl ?_
        refine O_p rfl rfl rfl ?_
        refine O_hn rfl rfl rfl rfl ?_
        refine O_p rfl rfl rfl ?_
        refine O_p rfl rfl rfl ?_
        refine O_hn rfl rfl rfl rfl ?_
        refine WO_nil ?_
        refine WL_nil ?_
        refine ⟨_, rfl, rfl, ?_⟩
        simp only [h37, if_true, Bool.false_eq_true, if_false]; first | done | rfl
      · skip
        replace h37 : anyA (goFs up lb ts) = false := h37
        refine WL_skip ?_
        refine WL_nil ?_
        refine ⟨_, rfl, rfl, ?_⟩
        simp only [h37, if_true, Bool.false_eq_true, if_false]; first | done | rfl
theorem funsA1 (n m : Nat) (up : Bool) (lb : Int) (ts : List Ty) (t : Ty) (A R : FuncId) (g : Nat → Int) (p q : Int) (ps : List AVal) (b : Bool) (x6 : Co) (hl : ts.length < n) (h9 : ts.length ≤ 9)
    (hA : ∀ x, x ∈ ts → pcall (tabOf tabL) (n + 5) A [vT x, .int .i64 lb] = some (.ok (vC (goC (!up) lb x)))) (hR : ∀ x, x ∈ ts → pcall (tabOf tabL) (n + 5) R [vT x, .int .i64 lb] = some (.ok (vC (goC up lb x)))) :
    (anyA (goFs up lb ts) = true ∧ callA ⟨callF (tabOf tabL) (n + 6), m⟩ false 43 [.ptr 2 0, .lst (ts.map encT) false, .fn A [], .fn R [], .int .i64 lb] [.cells (cT t), .cells Zc, .cells (fC g p q (.lst ps b) 0 0 (.lst [] true)), .cells (cC x6)] =
      some (.ok (.tup []), [.cells (cT t), .cells Zc, .cells (fC g p q (.lst ps b) 2 0 (.gl 4 ts.length)), .cells (cC x6), .grow (es0 12 ts.length) ((goFs up lb ts).map encC) none])) ∨
    (anyA (goFs up lb ts) = false ∧ callA ⟨callF (tabOf tabL) (n + 6), m⟩ false 43 [.ptr 2 0, .lst (ts.map encT) false, .fn A [], .fn R [], .int .i64 lb] [.cells (cT t), .cells Zc, .cells (fC g p q (.lst ps b) 0 0 (.lst [] true)), .cells (cC x6)] =
      some (.ok (.tup []), [.cells (cT t), .cells Zc, .cells (fC g p q (.lst ps b) 0 0 (.lst [] true)), .cells (cC x6)])) := by
  have h := funsM1_c n up lb ts t A R g p q ps b x6 hl h9 hA hR
  cases ha : anyA (goFs up lb ts) with
  | true => rw [ha] at h; exact .inl ⟨rfl, callA_nr rfl h rfl⟩
  | false => rw [ha] at h; exact .inr ⟨rfl, callA_hc rfl h (by simp) rfl rfl rfl⟩
theorem funsB (n m : Nat) (up : Bool) (lb : Int) (ts : List Ty) (t : Ty) (A R : FuncId) (g : Nat → Int) (p q : Int) (ps : List AVal) (b : Bool) (hl : ts.length < n) (h9 : ts.length ≤ 9)
    (hA : ∀ x, x ∈ ts → pcall (tabOf tabL) (n + 5) A [vT x, .int .i64 lb] = some (.ok (vC (goC (!up) lb x)))) (hR : ∀ x, x ∈ ts → pcall (tabOf tabL) (n + 5) R [vT x, .int .i64 lb] = some (.ok (vC (goC up lb x)))) (rest : Heap) (hrest : rest = [] ∨ ∃ x, rest = [.cells (cC x)]) :
    (rest = [] ∧ anyA (goFs up lb ts) = true ∧ callA ⟨callF (tabOf tabL) (n + 6), m⟩ false 43 [.ptr 2 0, .lst (ts.map encT) false, .fn A [], .fn R [], .int .i64 lb] [.cells (cT t), .cells Zc, .cells (fC g p q (.lst ps b) 0 0 (.lst [] true))] =
      some (.ok (.tup []), [.cells (cT t), .cells Zc, .cells (fC g p q (.lst ps b) 2 0 (.gl 3 ts.length)), .grow (es0 12 ts.length) ((goFs up lb ts).map encC) none])) ∨
    (rest = [] ∧ anyA (goFs up lb ts) = false ∧ callA ⟨callF (tabOf tabL) (n + 6), m⟩ false 43 [.ptr 2 0, .lst (ts.map encT) false, .fn A [], .fn R [], .int .i64 lb] [.cells (cT t), .cells Zc, .cells (fC g p q (.lst ps b) 0 0 (.lst [] true))] =
      some (.ok (.tup []), [.cells (cT t), .cells Zc, .cells (fC g p q (.lst ps b) 0 0 (.lst [] true))])) ∨
    (∃ x6, rest = [.cells (cC x6)] ∧ anyA (goFs up lb ts) = true ∧ callA ⟨callF (tabOf tabL) (n + 6), m⟩ false 43 [.ptr 2 0, .lst (ts.map encT) false, .fn A [], .fn R [], .int .i64 lb] [.cells (cT t), .cells Zc, .cells (fC g p q (.lst ps b) 0 0 (.lst [] true)), .cells (cC x6)] =
      some (.ok (.tup []), [.cells (cT t), .cells Zc, .cells (fC g p q (.lst ps b) 2 0 (.gl 4 ts.length)), .cells (cC x6), .grow (es0 12 ts.length) ((goFs up lb ts).map encC) none])) ∨
    (∃ x6, rest = [.cells (cC x6)] ∧ anyA (goFs up lb ts) = false ∧ callA ⟨callF (tabOf tabL) (n + 6), m⟩ false 43 [.ptr 2 0, .lst (ts.map encT) false, .fn A [], .fn R [], .int .i64 lb] [.cells (cT t), .cells Zc, .cells (fC g p q (.lst ps b) 0 0 (.lst [] true)), .cells (cC x6)] =
      some (.ok (.tup []), [.cells (cT t), .cells Zc, .cells (fC g p q (.lst ps b) 0 0 (.lst [] true)), .cells (cC x6)])) := by
  rcases hrest with rfl | ⟨x6, rfl⟩
  · rcases funsA n m up lb ts t A R g p q ps b hl h9 hA hR with ⟨ha, h⟩ | ⟨ha, h⟩
    · exact .inl ⟨rfl, ha, h⟩
    · exact .inr (.inl ⟨rfl, ha, h⟩)
  · rcases funsA1 n m up lb ts t A R g p q ps b x6 hl h9 hA hR with ⟨ha, h⟩ | ⟨ha, h⟩
    · exact .inr (.inr (.inl ⟨x6, rfl, ha, h⟩))
    · exact .inr (.inr (.inr ⟨x6, rfl, ha, h⟩))
def gT (lb f : Int) (i j : Nat) : Int := if j < i then flatG true lb f j else 0
theorem gT_set {lb f : Int} {i : Nat} (h : i < 6) (hb : bit0 f i = true) {p l : Int} {ps : AVal} {g m : Int} {gs : AVal} : (fC (gT lb f i) p l ps g m gs).set (0 + i * 1) (.int .i64 lb) = fC (gT lb f (i + 1)) p l ps g m gs := by
  have e : flatG true lb f i = lb := by simp [flatG, hb]
  have h2 : (fC (gT lb f i) p l ps g m gs).set (0 + i * 1) (.int .i64 (flatG true lb f i)) = fC (gT lb f (i + 1)) p l ps g m gs := by
    clear e
    obtain rfl | rfl | rfl | rfl | rfl | rfl : i = 0 ∨ i = 1 ∨ i = 2 ∨ i = 3 ∨ i = 4 ∨ i = 5 := by omega
    all_goals rfl
  rw [e] at h2
  exact h2
theorem gT_skip {lb f : Int} {i : Nat} (hb : bit0 f i = false) : gT lb f (i + 1) = gT lb f i := by
  have e : flatG true lb f i = 0 := by simp [flatG, hb]
  funext j
  unfold gT
  by_cases h1 : j < i
  · rw [if_pos h1, if_pos (by omega)]
  · rw [if_neg h1]
    by_cases h2 : j = i
    · rw [h2, if_pos (by omega), e]
    · rw [if_neg (by omega)]
theorem gT_six (lb f : Int) : fC (gT lb f 6) = fC (flatG true lb f) := by funext p l ps g m gs; rfl
set_option maxHeartbeats 1000000 in
theorem toS_c (n : Nat) (t : Ty) (lb : Int) (rt : Rt t) (hn : szT t + 30 < n)
    (ihT : ∀ x, Rt x → szT x < szT t → ∀ k, n ≤ k + 3 → pcall (tabOf tabL) k 12 [vT x, .int .i64 lb] = some (.ok (vC (goC true lb x))))
    (ihF : ∀ x, Rt x → szT x < szT t → ∀ k, n ≤ k + 3 → pcall (tabOf tabL) k 14 [vT x, .int .i64 lb] = some (.ok (vC (goC false lb x)))) :
    pcall (tabOf tabL) (n + 1) 12 [vT t, .int .i64 lb] = some (.ok (vC (goC true lb t))) := by
  have hf := okT_facts rt.ok
  have hlp := len_pairs t
  have hlf := len_funs t
  obtain ⟨n, rfl⟩ : ∃ m, n = m + 10 := ⟨n - 10, by omega⟩
  have ev : t.all = false → vC (goC true lb t) = .agg (fC (flatG true lb t.flat) (pairG true lb t.pair (goCs true lb t.pairs)).1 (pairG true lb t.pair (goCs true lb t.pairs)).2.1 (.lst ((pairG true lb t.pair (goCs true lb t.pairs)).2.2.map encC) false) (funG true lb t.fn (goFs true lb t.funs)).1 (funG true lb t.fn (goFs true lb t.funs)).2.1 (.lst ((funG true lb t.fn (goFs true lb t.funs)).2.2.map encC) false)) := by
    intro h; rw [goC_eq]; simp only [goK, h, Bool.and_false, Bool.false_eq_true, if_false]; rfl
  have ef := goC_eq true lb t
  refine pcall_fin t12 ?_
  refine WL_seq ?_
  refine WL_reg ?_
  refine O_n rfl rfl rfl ?_
  refine O_n rfl rfl rfl ?_
  refine WO_nil ?_
  refine WL_seq ?_
  apply WL_prune
  · (repeat (first | exact restr_nil | apply restr_cons rfl | apply restr_none rfl))
  conv => arg 4; (try simp only [List.set_cons_zero, List.set_cons_succ, List.nil_append, List.cons_append, List.length_cons, List.length_nil, Nat.zero_add, Nat.add_zero, Nat.reduceAdd, putCells_cT, take_cT,  putCells, List.take_succ_cons, List.take_zero, List.take_nil, List.drop_succ_cons, List.drop_zero, List.drop_nil, AVal.flat, List.replicate_succ, List.replicate_zero])
  conv => arg 3; (try simp only [List.set_cons_zero, List.set_cons_succ, List.nil_append, List.cons_append, List.length_cons, List.length_nil, Nat.zero_add, Nat.add_zero, Nat.reduceAdd, putCells_cT, take_cT,  putCells, List.take_succ_cons, List.take_zero, List.take_nil, List.drop_succ_cons, List.drop_zero, List.drop_nil, AVal.flat, List.replicate_succ, List.replicate_zero])
  refine WL_seq ?_
  refine WL_reg ?_
  refine O_n rfl rfl rfl ?_
  refine WO_nil ?_
  refine WL_seq ?_
  apply WL_prune
  · (repeat (first | exact restr_nil | apply restr_cons rfl | apply restr_none rfl))
  conv => arg 4; (try simp only [List.set_cons_zero, List.set_cons_succ, List.nil_append, List.cons_append, List.length_cons, List.length_nil, Nat.zero_add, Nat.add_zero, Nat.reduceAdd, putCells_cT, take_cT,  putCells, List.take_succ_cons, List.take_zero, List.take_nil, List.drop_succ_cons, List.drop_zero, List.drop_nil, AVal.flat, List.replicate_succ, List.replicate_zero])
  conv => arg 3; (try simp only [List.set_cons_zero, List.set_cons_succ, List.nil_append, List.cons_append, List.length_cons, List.length_nil, Nat.zero_add, Nat.add_zero, Nat.reduceAdd, putCells_cT, take_cT,  putCells, List.take_succ_cons, List.take_zero, List.take_nil, List.drop_succ_cons, List.drop_zero, List.drop_nil, AVal.flat, List.replicate_succ, List.replicate_zero])
  refine WL_seq ?_
  refine WL_seq ?_
  refine WL_reg ?_
  refine O_p rfl rfl rfl ?_
  refine O_h rfl rfl rfl rfl ?_
  refine WO_nil ?_
  refine WL_seq ?_
  apply WL_prune
  · (repeat (first | exact restr_nil | apply restr_cons rfl | apply restr_none rfl))
  conv => arg 4; (try simp only [List.set_cons_zero, List.set_cons_succ, List.nil_append, List.cons_append, List.length_cons, List.length_nil, Nat.zero_add, Nat.add_zero, Nat.reduceAdd, putCells_cT, take_cT,  putCells, List.take_succ_cons, List.take_zero, List.take_nil, List.drop_succ_cons, List.drop_zero, List.drop_nil, AVal.flat, List.replicate_succ, List.replicate_zero])
  conv => arg 3; (try simp only [List.set_cons_zero, List.set_cons_succ, List.nil_append, List.cons_append, List.length_cons, List.length_nil, Nat.zero_add, Nat.add_zero, Nat.reduceAdd, putCells_cT, take_cT,  putCells, List.take_succ_cons, List.take_zero, List.take_nil, List.drop_succ_cons, List.drop_zero, List.drop_nil, AVal.flat, List.replicate_succ, List.replicate_zero])
  refine WL_cond rfl (fun h8 => ?_) (fun h8 => ?_)
  · skip
    replace h8 : t.all = true := h8
    have ha0 : goC true lb t = zeroC := by rw [ef]; simp [goK, h8]
    refine WL_seq ?_
    refine WL_reg ?_
    refine O_h rfl rfl rfl rfl ?_
    refine O_hn rfl rfl rfl rfl ?_
    refine WO_nil ?_
    refine WL_ret ?_
    first | exact ⟨_, rfl, vC zeroC, rfl, by rw [ha0]⟩ | (refine ⟨_, rfl, vC (goC true lb t), ?_, rfl⟩; rw [ev h8, hG]; rfl) | (refine ⟨_, rfl, vC (goC true lb t), ?_, rfl⟩; rw [ev h8, show funG true lb t.fn (goFs true lb t.funs) = (0, 0, []) by rw [h65]; simp [funG, ha]]; rfl) | (refine ⟨_, rfl, vC (goC true lb t), ?_, rfl⟩; rw [ev h8, show funG true lb t.fn (goFs true lb t.funs) = (2, 0, goFs true lb t.funs) by rw [h65]; simp [funG, ha]]; show shutR _ (.agg (fC (flatG true lb t.flat) (pairG true lb t.pair (goCs true lb t.pairs)).1 (pairG true lb t.pair (goCs true lb t.pairs)).2.1 (.lst ((pairG true lb t.pair (goCs true lb t.pairs)).2.2.map encC) f) 2 0 (.gl 3 t.funs.length))) = _; simp [shutR, shutRL, growAt, fC, goFs_len]; done)
  · skip
    replace h8 : t.all = false := h8
    refine WL_skip ?_
    refine WL_seq ?_
    apply WL_prune
    · (repeat (first | exact restr_nil | apply restr_cons rfl | apply restr_none rfl))
    conv => arg 4; (try simp only [List.set_cons_zero, List.set_cons_succ, List.nil_append, List.cons_append, List.length_cons, List.length_nil, Nat.zero_add, Nat.add_zero, Nat.reduceAdd, putCells_cT, take_cT,  putCells, List.take_succ_cons, List.take_zero, List.take_nil, List.drop_succ_cons, List.drop_zero, List.drop_nil, AVal.flat, List.replicate_succ, List.replicate_zero])
    conv => arg 3; (try simp only [List.set_cons_zero, List.set_cons_succ, List.nil_append, List.cons_append, List.length_cons, List.length_nil, Nat.zero_add, Nat.add_zero, Nat.reduceAdd, putCells_cT, take_cT,  putCells, List.take_succ_cons, List.take_zero, List.take_nil, List.drop_succ_cons, List.drop_zero, List.drop_nil, AVal.flat, List.replicate_succ, List.replicate_zero])
    refine WL_seq ?_
    refine WL_seq ?_
    refine WL_reg ?_
    refine O_p rfl rfl rfl ?_
    refine WO_nil ?_
    refine WL_seq ?_
    apply WL_prune
    · (repeat (first | exact restr_nil | apply restr_cons rfl | apply restr_none rfl))
    conv => arg 4; (try simp only [List.set_cons_zero, List.set_cons_succ, List.nil_append, List.cons_append, List.length_cons, List.length_nil, Nat.zero_add, Nat.add_zero, Nat.reduceAdd, putCells_cT, take_cT,  putCells, List.take_succ_cons, List.take_zero, List.take_nil, List.drop_succ_cons, List.drop_zero, List.drop_nil, AVal.flat, List.replicate_succ, List.replicate_zero])
    conv => arg 3; (try simp only [List.set_cons_zero, List.set_cons_succ, List.nil_append, List.cons_append, List.length_cons, List.length_nil, Nat.zero_add, Nat.add_zero, Nat.reduceAdd, putCells_cT, take_cT,  putCells, List.take_succ_cons, List.take_zero, List.take_nil, List.drop_succ_cons, List.drop_zero, List.drop_nil, AVal.flat, List.replicate_succ, List.replicate_zero])
    refine WL_block ?_
    apply WL_forv (hc := [.cells (cT t), .cells Zc]) (α := Nat) (fun i => [(10, .int .i64 (i : Nat))]) (fun i => [.cells (fC (gT lb t.flat i) 0 0 (.lst [] true) 0 0 (.lst [] true))]) (fun i => i ≤ 6) (fun i => 6 - i) (0) (he := ?he) (hh := ?hh) (hP := ?hP) (hk := ?hk) (round := ?round)
    case he =>
      (repeat (first | exact restr_nil | apply restr_cons rfl | apply restr_none rfl))
    case hh =>
      rfl
    case hP =>
      omega
    case hk =>
      show 6 - 0 < n + 10; omega
    case round =>
      rintro i hi
      dsimp only [List.cons_append, List.nil_append] at *
      refine WL_seq ?_
      refine WL_reg ?_
      refine O_p rfl rfl rfl ?_
      refine WO_nil ?_
      refine WL_seq ?_
      apply WL_prune
      · (repeat (first | exact restr_nil | apply restr_cons rfl | apply restr_none rfl))
      conv => arg 4; (try simp only [List.set_cons_zero, List.set_cons_succ, List.nil_append, List.cons_append, List.length_cons, List.length_nil, Nat.zero_add, Nat.add_zero, Nat.reduceAdd, putCells_cT, take_cT,  putCells, List.take_succ_cons, List.take_zero, List.take_nil, List.drop_succ_cons, List.drop_zero, List.drop_nil, AVal.flat, List.replicate_succ, List.replicate_zero])
      conv => arg 3; (try simp only [List.set_cons_zero, List.set_cons_succ, List.nil_append, List.cons_append, List.length_cons, List.length_nil, Nat.zero_add, Nat.add_zero, Nat.reduceAdd, putCells_cT, take_cT,  putCells, List.take_succ_cons, List.take_zero, List.take_nil, List.drop_succ_cons, List.drop_zero, List.drop_nil, AVal.flat, List.replicate_succ, List.replicate_zero])
      refine WL_seq ?_
      refine WL_cond rfl (fun h11 => ?_) (fun h11 => ?_)
      · skip
        replace h11 : i < 6 := by simp at h11; omega
        refine WL_skip ?_
        refine WL_seq ?_
        apply WL_prune
        · (repeat (first | exact restr_nil | apply restr_cons rfl | apply restr_none rfl))
        conv => arg 4; (try simp only [List.set_cons_zero, List.set_cons_succ, List.nil_append, List.cons_append, List.length_cons, List.length_nil, Nat.zero_add, Nat.add_zero, Nat.reduceAdd, putCells_cT, take_cT,  putCells, List.take_succ_cons, List.take_zero, List.take_nil, List.drop_succ_cons, List.drop_zero, List.drop_nil, AVal.flat, List.replicate_succ, List.replicate_zero])
        conv => arg 3; (try simp only [List.set_cons_zero, List.set_cons_succ, List.nil_append, List.cons_append, List.length_cons, List.length_nil, Nat.zero_add, Nat.add_zero, Nat.reduceAdd, putCells_cT, take_cT,  putCells, List.take_succ_cons, List.take_zero, List.take_nil, List.drop_succ_cons, List.drop_zero, List.drop_nil, AVal.flat, List.replicate_succ, List.replicate_zero])
        refine WL_seq ?_
        refine WL_block ?_
        refine WL_seq ?_
        refine WL_reg ?_
        refine O_p rfl rfl rfl ?_
        refine O_p rfl rfl rfl ?_
        refine WO_nil ?_
        refine WL_seq ?_
        apply WL_prune
        · (repeat (first | exact restr_nil | apply restr_cons rfl | apply restr_none rfl))
        conv => arg 4; (try simp only [List.set_cons_zero, List.set_cons_succ, List.nil_append, List.cons_append, List.length_cons, List.length_nil, Nat.zero_add, Nat.add_zero, Nat.reduceAdd, putCells_cT, take_cT,  putCells, List.take_succ_cons, List.take_zero, List.take_nil, List.drop_succ_cons, List.drop_zero, List.drop_nil, AVal.flat, List.replicate_succ, List.replicate_zero])
        conv => arg 3; (try simp only [List.set_cons_zero, List.set_cons_succ, List.nil_append, List.cons_append, List.length_cons, List.length_nil, Nat.zero_add, Nat.add_zero, Nat.reduceAdd, putCells_cT, take_cT,  putCells, List.take_succ_cons, List.take_zero, List.take_nil, List.drop_succ_cons, List.drop_zero, List.drop_nil, AVal.flat, List.replicate_succ, List.replicate_zero])
        refine WL_seq ?_
        refine WL_drawS (ops := [_, _, _, _, _, _]) rfl rfl ?_
        refine O_p rfl rfl rfl ?_
        refine O_h rfl rfl rfl rfl ?_
        refine O_p rfl rfl rfl ?_
        refine O_v (v := .int .i64 (IntKind.i64.wrap (1 * 2 ^ (min ((i : Int).toNat) IntKind.i64.bits)))) (.int .i64 (2 ^ i)) rfl rfl rfl (by rw [shl_pow h11]) ?_
        refine O_p rfl rfl rfl ?_
        refine O_v (.bool (bit0 t.flat i)) rfl rfl rfl (by rw [← and_bit0 hf.1.1 hf.1.2 h11]) ?_
        refine WO_nil (WL_nil ⟨rfl, ?_⟩)
        refine WL_seq ?_
        apply WL_prune
        · (repeat (first | exact restr_nil | apply restr_cons rfl | apply restr_none rfl))
        conv => arg 4; (try simp only [List.set_cons_zero, List.set_cons_succ, List.nil_append, List.cons_append, List.length_cons, List.length_nil, Nat.zero_add, Nat.add_zero, Nat.reduceAdd, putCells_cT, take_cT,  putCells, List.take_succ_cons, List.take_zero, List.take_nil, List.drop_succ_cons, List.drop_zero, List.drop_nil, AVal.flat, List.replicate_succ, List.replicate_zero])
        conv => arg 3; (try simp only [List.set_cons_zero, List.set_cons_succ, List.nil_append, List.cons_append, List.length_cons, List.length_nil, Nat.zero_add, Nat.add_zero, Nat.reduceAdd, putCells_cT, take_cT,  putCells, List.take_succ_cons, List.take_zero, List.take_nil, List.drop_succ_cons, List.drop_zero, List.drop_nil, AVal.flat, List.replicate_succ, List.replicate_zero])
        refine WL_cond rfl (fun h18 => ?_) (fun h18 => ?_)
        · skip
          replace h18 : bit0 t.flat i = true := h18
          refine WL_reg ?_
          refine O_p rfl rfl rfl ?_
          refine O_p rfl rfl rfl ?_
          refine O_p rfl rfl rfl ?_
          refine O_iaa rfl rfl h11 ?_
          refine O_st rfl rfl rfl rfl rfl (by simp [fC]; omega) (gT_set h11 h18) rfl ?_
          refine WO_nil ?_
          refine WL_nil ?_
          refine Blk_norm (?_ : WL _ _ _ _ _)
          refine WL_seq ?_
          apply WL_prune
          · (repeat (first | exact restr_nil | apply restr_cons rfl | apply restr_none rfl))
          conv => arg 4; (try simp only [List.set_cons_zero, List.set_cons_succ, List.nil_append, List.cons_append, List.length_cons, List.length_nil, Nat.zero_add, Nat.add_zero, Nat.reduceAdd, putCells_cT, take_cT,  putCells, List.take_succ_cons, List.take_zero, List.take_nil, List.drop_succ_cons, List.drop_zero, List.drop_nil, AVal.flat, List.replicate_succ, List.replicate_zero])
          conv => arg 3; (try simp only [List.set_cons_zero, List.set_cons_succ, List.nil_append, List.cons_append, List.length_cons, List.length_nil, Nat.zero_add, Nat.add_zero, Nat.reduceAdd, putCells_cT, take_cT,  putCells, List.take_succ_cons, List.take_zero, List.take_nil, List.drop_succ_cons, List.drop_zero, List.drop_nil, AVal.flat, List.replicate_succ, List.replicate_zero])
          refine WL_reg ?_
          refine O_p rfl rfl rfl ?_
          refine O_p rfl rfl rfl ?_
          refine WO_nil ?_
          refine WL_nil ?_
          first | (rw [← gT_skip h18]; refine RndV_norm (i + 1) (by omega) (by show _ < _; omega) ?_ rfl; rw [wrap_succ (by omega)]; (repeat (first | exact restr_nil | apply restr_cons rfl | apply restr_none rfl))) | (refine RndV_norm (i + 1) (by omega) (by show _ < _; omega) ?_ rfl; rw [wrap_succ (by omega)]; (repeat (first | exact restr_nil | apply restr_cons rfl | apply restr_none rfl)))
        · skip
          replace h18 : bit0 t.flat i = false := h18
          refine WL_skip ?_
          refine WL_nil ?_
          refine Blk_norm (?_ : WL _ _ _ _ _)
          refine WL_seq ?_
          apply WL_prune
          · (repeat (first | exact restr_nil | apply restr_cons rfl | apply restr_none rfl))
          conv => arg 4; (try simp only [List.set_cons_zero, List.set_cons_succ, List.nil_append, List.cons_append, List.length_cons, List.length_nil, Nat.zero_add, Nat.add_zero, Nat.reduceAdd, putCells_cT, take_cT,  putCells, List.take_succ_cons, List.take_zero, List.take_nil, List.drop_succ_cons, List.drop_zero, List.drop_nil, AVal.flat, List.replicate_succ, List.replicate_zero])
          conv => arg 3; (try simp only [List.set_cons_zero, List.set_cons_succ, List.nil_append, List.cons_append, List.length_cons, List.length_nil, Nat.zero_add, Nat.add_zero, Nat.reduceAdd, putCells_cT, take_cT,  putCells, List.take_succ_cons, List.take_zero, List.take_nil, List.drop_succ_cons, List.drop_zero, List.drop_nil, AVal.flat, List.replicate_succ, List.replicate_zero])
          refine WL_reg ?_
          refine O_p rfl rfl rfl ?_
          refine O_p rfl rfl rfl ?_
          refine WO_nil ?_
          refine WL_nil ?_
          first | (rw [← gT_skip h18]; refine RndV_norm (i + 1) (by omega) (by show _ < _; omega) ?_ rfl; rw [wrap_succ (by omega)]; (repeat (first | exact restr_nil | apply restr_cons rfl | apply restr_none rfl))) | (refine RndV_norm (i + 1) (by omega) (by show _ < _; omega) ?_ rfl; rw [wrap_succ (by omega)]; (repeat (first | exact restr_nil | apply restr_cons rfl | apply restr_none rfl)))
      · skip
        simp at h11
        obtain rfl : i = 6 := by omega
        rw [gT_six]
        refine WL_exit ?_
        refine RndV_exit ?_
        refine Blk_exit (?_ : WL _ _ _ _ _)
        refine WL_seq ?_
        apply WL_prune
        · (repeat (first | exact restr_nil | apply restr_cons rfl | apply restr_none rfl))
        conv => arg 4; (try simp only [List.set_cons_zero, List.set_cons_succ, List.nil_append, List.cons_append, List.length_cons, List.length_nil, Nat.zero_add, Nat.add_zero, Nat.reduceAdd, putCells_cT, take_cT,  putCells, List.take_succ_cons, List.take_zero, List.take_nil, List.drop_succ_cons, List.drop_zero, List.drop_nil, AVal.flat, List.replicate_succ, List.replicate_zero])
        conv => arg 3; (try simp only [List.set_cons_zero, List.set_cons_succ, List.nil_append, List.cons_append, List.length_cons, List.length_nil, Nat.zero_add, Nat.add_zero, Nat.reduceAdd, putCells_cT, take_cT,  putCells, List.take_succ_cons, List.take_zero, List.take_nil, List.drop_succ_cons, List.drop_zero, List.drop_nil, AVal.flat, List.replicate_succ, List.replicate_zero])
        refine WL_seq ?_
        refine WL_seq ?_
        refine WL_reg ?_
        refine O_p rfl rfl rfl ?_
        refine O_h rfl rfl rfl rfl ?_
        refine WO_nil ?_
        refine WL_seq ?_
        apply WL_prune
        · (repeat (first | exact restr_nil | apply restr_cons rfl | apply restr_none rfl))
        conv => arg 4; (try simp only [List.set_cons_zero, List.set_cons_succ, List.nil_append, List.cons_append, List.length_cons, List.length_nil, Nat.zero_add, Nat.add_zero, Nat.reduceAdd, putCells_cT, take_cT,  putCells, List.take_succ_cons, List.take_zero, List.take_nil, List.drop_succ_cons, List.drop_zero, List.drop_nil, AVal.flat, List.replicate_succ, List.replicate_zero])
        conv => arg 3; (try simp only [List.set_cons_zero, List.set_cons_succ, List.nil_append, List.cons_append, List.length_cons, List.length_nil, Nat.zero_add, Nat.add_zero, Nat.reduceAdd, putCells_cT, take_cT,  putCells, List.take_succ_cons, List.take_zero, List.take_nil, List.drop_succ_cons, List.drop_zero, List.drop_nil, AVal.flat, List.replicate_succ, List.replicate_zero])
        refine WL_cut (fun e H => restr e [1, 2, 4, 5] = [(1, .int .i64 lb), (2, .ptr 0 0), (4, .ptr 1 0), (5, .ptr 2 0)] ∧ ∃ f, H = [.cells (cT t), .cells Zc, .cells (fC (flatG true lb t.flat) (pairG true lb t.pair (goCs true lb t.pairs)).1 (pairG true lb t.pair (goCs true lb t.pairs)).2.1 (.lst ((pairG true lb t.pair (goCs true lb t.pairs)).2.2.map encC) f) 0 0 (.lst [] true))]) ?_ ?_
        · skip
          refine WL_block ?_
          refine WL_seq ?_
          refine WL_reg ?_
          refine O_p rfl rfl rfl ?_
          refine O_p rfl rfl rfl ?_
          refine WO_nil ?_
          refine WL_seq ?_
          apply WL_prune
          · (repeat (first | exact restr_nil | apply restr_cons rfl | apply restr_none rfl))
          conv => arg 4; (try simp only [List.set_cons_zero, List.set_cons_succ, List.nil_append, List.cons_append, List.length_cons, List.length_nil, Nat.zero_add, Nat.add_zero, Nat.reduceAdd, putCells_cT, take_cT,  putCells, List.take_succ_cons, List.take_zero, List.take_nil, List.drop_succ_cons, List.drop_zero, List.drop_nil, AVal.flat, List.replicate_succ, List.replicate_zero])
          conv => arg 3; (try simp only [List.set_cons_zero, List.set_cons_succ, List.nil_append, List.cons_append, List.length_cons, List.length_nil, Nat.zero_add, Nat.add_zero, Nat.reduceAdd, putCells_cT, take_cT,  putCells, List.take_succ_cons, List.take_zero, List.take_nil, List.drop_succ_cons, List.drop_zero, List.drop_nil, AVal.flat, List.replicate_succ, List.replicate_zero])
          refine WL_cond rfl (fun h37 => ?_) (fun h37 => ?_)
          · skip
            replace h37 : t.pair = 0 := by simpa using h37
            have hP : pairG true lb t.pair (goCs true lb t.pairs) = (1, lb, []) := by rw [h37]; simp [pairG]
            refine WL_reg ?_
            refine O_p rfl rfl rfl ?_
            refine O_p rfl rfl rfl ?_
            refine O_hn rfl rfl rfl rfl ?_
            refine O_p rfl rfl rfl ?_
            refine O_hn rfl rfl rfl rfl ?_
            refine WO_nil ?_
            refine WL_nil ?_
            refine Blk_norm (?_ : WL _ _ _ _ _)
            refine WL_nil ?_
            first | exact ⟨by (repeat (first | exact restr_nil | apply restr_cons rfl | apply restr_none rfl)), true, by rw [hP]; (try simp only [List.map_cons, List.map_nil, encC_eq]); first | done | rfl⟩
          · skip
            replace h37 : ¬ t.pair = 0 := by simpa using h37
            refine WL_seq ?_
            refine WL_reg ?_
            refine O_p rfl rfl rfl ?_
            refine O_p rfl rfl rfl ?_
            refine WO_nil ?_
            refine WL_seq ?_
            apply WL_prune
            · (repeat (first | exact restr_nil | apply restr_cons rfl | apply restr_none rfl))
            conv => arg 4; (try simp only [List.set_cons_zero, List.set_cons_succ, List.nil_append, List.cons_append, List.length_cons, List.length_nil, Nat.zero_add, Nat.add_zero, Nat.reduceAdd, putCells_cT, take_cT,  putCells, List.take_succ_cons, List.take_zero, List.take_nil, List.drop_succ_cons, List.drop_zero, List.drop_nil, AVal.flat, List.replicate_succ, List.replicate_zero])
            conv => arg 3; (try simp only [List.set_cons_zero, List.set_cons_succ, List.nil_append, List.cons_append, List.length_cons, List.length_nil, Nat.zero_add, Nat.add_zero, Nat.reduceAdd, putCells_cT, take_cT,  putCells, List.take_succ_cons, List.take_zero, List.take_nil, List.drop_succ_cons, List.drop_zero, List.drop_nil, AVal.flat, List.replicate_succ, List.replicate_zero])
            refine WL_cond rfl (fun h42 => ?_) (fun h42 => ?_)
            · skip
              replace h42 : t.pair = 1 := by simpa using h42
              obtain ⟨x, y, hp⟩ := hf.2.2.2.2.2.1 h42
              have hx : t.pairs[0]? = some x := by rw [hp]; rfl
              have hy : t.pairs[1]? = some y := by rw [hp]; rfl
              have hmx := List.mem_of_getElem? hx
              have hmy := List.mem_of_getElem? hy
              have hcx := ihT x (rt.pairs hmx) (szT_pairs hmx) (n + 10) (by omega)
              have hcy := ihT y (rt.pairs hmy) (szT_pairs hmy) (n + 10) (by omega)
              have hP : pairG true lb t.pair (goCs true lb t.pairs) = pairG true lb 1 [goC true lb x, goC true lb y] := by rw [h42, hp]; rfl
              have hpm := pairsM_c (n + 5) true lb [goC true lb x, goC true lb y] (cT t) Zc (flatG true lb t.flat) 0 0 (.lst [] true) (by simp) (by simp)
              simp only [List.map_cons, List.map_nil, encC_eq] at hpm
              refine WL_drawT [57] rfl ?_
              refine S_p rfl rfl rfl ?_
              refine S_h (d := some 45) rfl rfl rfl rfl rfl ?_
              refine S_ia rfl rfl (Int.natCast_nonneg _) (encT_get (i := (0 : Nat)) hx) (encT_flat _) rfl ?_
              refine S_h (d := some 47) rfl rfl rfl rfl rfl ?_
              refine S_p rfl rfl rfl ?_
              refine S_c 12 rfl rfl rfl (callA_of rfl hcx) ?_
              refine S_p rfl rfl rfl ?_
              refine S_h (d := some 51) rfl rfl rfl rfl rfl ?_
              refine S_ia rfl rfl (Int.natCast_nonneg _) (encT_get (i := (1 : Nat)) hy) (encT_flat _) rfl ?_
              refine S_h (d := some 53) rfl rfl rfl rfl rfl ?_
              refine S_p rfl rfl rfl ?_
              refine S_c 12 rfl rfl rfl (callA_of rfl hcy) ?_
              refine S_h (d := some 56) rfl rfl rfl rfl rfl ?_
              refine S_ci 42 rfl rfl rfl (callA_nr rfl hpm rfl) ?_
              refine WS_nil ?_
              refine WL_nil ?_
              refine Blk_norm (?_ : WL _ _ _ _ _)
              refine WL_nil ?_
              first | exact ⟨by (repeat (first | exact restr_nil | apply restr_cons rfl | apply restr_none rfl)), true, by rw [hP]; (try simp only [List.map_cons, List.map_nil, encC_eq]); first | done | rfl⟩
            · skip
              replace h42 : ¬ t.pair = 1 := by simpa using h42
              have h2 : t.pair = 2 := by omega
              obtain ⟨x, hp⟩ := hf.2.2.2.2.2.2.1 h2
              have hx : t.pairs[0]? = some x := by rw [hp]; rfl
              have hmx := List.mem_of_getElem? hx
              have hcx := ihT x (rt.pairs hmx) (szT_pairs hmx) (n + 10) (by omega)
              have hP : pairG true lb t.pair (goCs true lb t.pairs) = (3, lb, [goC true lb x]) := by rw [h2, hp]; rfl
              refine WL_reg ?_
              refine O_p rfl rfl rfl ?_
              refine O_p rfl rfl rfl ?_
              refine O_h rfl rfl rfl rfl ?_
              refine O_ia rfl rfl (Int.natCast_nonneg _) (encT_get (i := (0 : Nat)) hx) (encT_flat _) rfl ?_
              refine O_h rfl rfl rfl rfl ?_
              refine O_p rfl rfl rfl ?_
              refine O_c 12 rfl rfl (callA_of rfl hcx) ?_
              refine O_h rfl rfl rfl rfl ?_
              refine O_p rfl rfl rfl ?_
              refine O_hn rfl rfl rfl rfl ?_
              refine O_p rfl rfl rfl ?_
              refine O_hn rfl rfl rfl rfl ?_
              refine O_p rfl rfl rfl ?_
              refine O_hn rfl rfl rfl rfl ?_
              refine WO_nil ?_
              refine WL_nil ?_
              refine Blk_norm (?_ : WL _ _ _ _ _)
              refine WL_nil ?_
              first | exact ⟨by (repeat (first | exact restr_nil | apply restr_cons rfl | apply restr_none rfl)), true, by rw [hP]; (try simp only [List.map_cons, List.map_nil, encC_eq]); first | done | rfl⟩
        · skip
          rintro e H ⟨he, f, rfl⟩
          refine WL_seq ?_
          apply WL_prune
          · exact he
          refine WL_seq ?_
          refine WL_seq ?_
          refine WL_reg ?_
          refine O_p rfl rfl rfl ?_
          refine O_h rfl rfl rfl rfl ?_
          refine WO_nil ?_
          refine WL_seq ?_
          apply WL_prune
          · (repeat (first | exact restr_nil | apply restr_cons rfl | apply restr_none rfl))
          conv => arg 4; (try simp only [List.set_cons_zero, List.set_cons_succ, List.nil_append, List.cons_append, List.length_cons, List.length_nil, Nat.zero_add, Nat.add_zero, Nat.reduceAdd, putCells_cT, take_cT,  putCells, List.take_succ_cons, List.take_zero, List.take_nil, List.drop_succ_cons, List.drop_zero, List.drop_nil, AVal.flat, List.replicate_succ, List.replicate_zero])
          conv => arg 3; (try simp only [List.set_cons_zero, List.set_cons_succ, List.nil_append, List.cons_append, List.length_cons, List.length_nil, Nat.zero_add, Nat.add_zero, Nat.reduceAdd, putCells_cT, take_cT,  putCells, List.take_succ_cons, List.take_zero, List.take_nil, List.drop_succ_cons, List.drop_zero, List.drop_nil, AVal.flat, List.replicate_succ, List.replicate_zero])
          refine WL_block ?_
          refine WL_seq ?_
          refine WL_reg ?_
          refine O_p rfl rfl rfl ?_
          refine O_p rfl rfl rfl ?_
          refine WO_nil ?_
          refine WL_seq ?_
          apply WL_prune
          · (repeat (first | exact restr_nil | apply restr_cons rfl | apply restr_none rfl))
          conv => arg 4; (try simp only [List.set_cons_zero, List.set_cons_succ, List.nil_append, List.cons_append, List.length_cons, List.length_nil, Nat.zero_add, Nat.add_zero, Nat.reduceAdd, putCells_cT, take_cT,  putCells, List.take_succ_cons, List.take_zero, List.take_nil, List.drop_succ_cons, List.drop_zero, List.drop_nil, AVal.flat, List.replicate_succ, List.replicate_zero])
          conv => arg 3; (try simp only [List.set_cons_zero, List.set_cons_succ, List.nil_append, List.cons_append, List.length_cons, List.length_nil, Nat.zero_add, Nat.add_zero, Nat.reduceAdd, putCells_cT, take_cT,  putCells, List.take_succ_cons, List.take_zero, List.take_nil, List.drop_succ_cons, List.drop_zero, List.drop_nil, AVal.flat, List.replicate_succ, List.replicate_zero])
          refine WL_cond rfl (fun h60 => ?_) (fun h60 => ?_)
          · skip
            replace h60 : t.fn = 0 := by simpa using h60
            have hG : funG true lb t.fn (goFs true lb t.funs) = (1, lb, []) := by rw [h60]; simp [funG]
            refine WL_reg ?_
            refine O_p rfl rfl rfl ?_
            refine O_p rfl rfl rfl ?_
            refine O_hn rfl rfl rfl rfl ?_
            refine O_p rfl rfl rfl ?_
            refine O_hn rfl rfl rfl rfl ?_
            refine WO_nil ?_
            refine WL_nil ?_
            refine Blk_norm (?_ : WL _ _ _ _ _)
            refine WL_seq ?_
            apply WL_prune
            · (repeat (first | exact restr_nil | apply restr_cons rfl | apply restr_none rfl))
            conv => arg 4; (try simp only [List.set_cons_zero, List.set_cons_succ, List.nil_append, List.cons_append, List.length_cons, List.length_nil, Nat.zero_add, Nat.add_zero, Nat.reduceAdd, putCells_cT, take_cT,  putCells, List.take_succ_cons, List.take_zero, List.take_nil, List.drop_succ_cons, List.drop_zero, List.drop_nil, AVal.flat, List.replicate_succ, List.replicate_zero])
            conv => arg 3; (try simp only [List.set_cons_zero, List.set_cons_succ, List.nil_append, List.cons_append, List.length_cons, List.length_nil, Nat.zero_add, Nat.add_zero, Nat.reduceAdd, putCells_cT, take_cT,  putCells, List.take_succ_cons, List.take_zero, List.take_nil, List.drop_succ_cons, List.drop_zero, List.drop_nil, AVal.flat, List.replicate_succ, List.replicate_zero])
            refine WL_seq ?_
            refine WL_reg ?_
            refine O_h rfl rfl rfl rfl ?_
            refine O_hn rfl rfl rfl rfl ?_
            refine WO_nil ?_
            refine WL_ret ?_
            first | exact ⟨_, rfl, vC zeroC, rfl, by rw [ha0]⟩ | (refine ⟨_, rfl, vC (goC true lb t), ?_, rfl⟩; rw [ev h8, hG]; rfl) | (refine ⟨_, rfl, vC (goC true lb t), ?_, rfl⟩; rw [ev h8, show funG true lb t.fn (goFs true lb t.funs) = (0, 0, []) by rw [h65]; simp [funG, ha]]; rfl) | (refine ⟨_, rfl, vC (goC true lb t), ?_, rfl⟩; rw [ev h8, show funG true lb t.fn (goFs true lb t.funs) = (2, 0, goFs true lb t.funs) by rw [h65]; simp [funG, ha]]; show shutR _ (.agg (fC (flatG true lb t.flat) (pairG true lb t.pair (goCs true lb t.pairs)).1 (pairG true lb t.pair (goCs true lb t.pairs)).2.1 (.lst ((pairG true lb t.pair (goCs true lb t.pairs)).2.2.map encC) f) 2 0 (.gl 3 t.funs.length))) = _; simp [shutR, shutRL, growAt, fC, goFs_len]; done)
          · skip
            replace h60 : ¬ t.fn = 0 := by simpa using h60
            refine WL_seq ?_
            refine WL_reg ?_
            refine O_p rfl rfl rfl ?_
            refine O_p rfl rfl rfl ?_
            refine WO_nil ?_
            refine WL_seq ?_
            apply WL_prune
            · (repeat (first | exact restr_nil | apply restr_cons rfl | apply restr_none rfl))
            conv => arg 4; (try simp only [List.set_cons_zero, List.set_cons_succ, List.nil_append, List.cons_append, List.length_cons, List.length_nil, Nat.zero_add, Nat.add_zero, Nat.reduceAdd, putCells_cT, take_cT,  putCells, List.take_succ_cons, List.take_zero, List.take_nil, List.drop_succ_cons, List.drop_zero, List.drop_nil, AVal.flat, List.replicate_succ, List.replicate_zero])
            conv => arg 3; (try simp only [List.set_cons_zero, List.set_cons_succ, List.nil_append, List.cons_append, List.length_cons, List.length_nil, Nat.zero_add, Nat.add_zero, Nat.reduceAdd, putCells_cT, take_cT,  putCells, List.take_succ_cons, List.take_zero, List.take_nil, List.drop_succ_cons, List.drop_zero, List.drop_nil, AVal.flat, List.replicate_succ, List.replicate_zero])
            refine WL_cond rfl (fun h65 => ?_) (fun h65 => ?_)
            · skip
              replace h65 : t.fn = 1 := by simpa using h65
              rcases funsA (n + 4) (n + 10) true lb t.funs t 14 12 (flatG true lb t.flat) (pairG true lb t.pair (goCs true lb t.pairs)).1 (pairG true lb t.pair (goCs true lb t.pairs)).2.1 ((pairG true lb t.pair (goCs true lb t.pairs)).2.2.map encC) f (by omega) (hf.2.2.2.2.2.2.2.1 h65).2 (fun x hx => ihF x (rt.funs hx) (szT_funs hx) (n + 9) (by omega)) (fun x hx => ihT x (rt.funs hx) (szT_funs hx) (n + 9) (by omega)) with ⟨ha, hcall⟩ | ⟨ha, hcall⟩
              · skip
                refine WL_reg ?_
                refine O_p rfl rfl rfl ?_
                refine O_h rfl rfl rfl rfl ?_
                refine O_p rfl rfl rfl ?_
                refine O_c 43 rfl rfl (hcall) ?_
                refine WO_nil ?_
                refine WL_nil ?_
                refine Blk_norm (?_ : WL _ _ _ _ _)
                refine WL_seq ?_
                apply WL_prune
                · (repeat (first | exact restr_nil | apply restr_cons rfl | apply restr_none rfl))
                conv => arg 4; (try simp only [List.set_cons_zero, List.set_cons_succ, List.nil_append, List.cons_append, List.length_cons, List.length_nil, Nat.zero_add, Nat.add_zero, Nat.reduceAdd, putCells_cT, take_cT,  putCells, List.take_succ_cons, List.take_zero, List.take_nil, List.drop_succ_cons, List.drop_zero, List.drop_nil, AVal.flat, List.replicate_succ, List.replicate_zero])
                conv => arg 3; (try simp only [List.set_cons_zero, List.set_cons_succ, List.nil_append, List.cons_append, List.length_cons, List.length_nil, Nat.zero_add, Nat.add_zero, Nat.reduceAdd, putCells_cT, take_cT,  putCells, List.take_succ_cons, List.take_zero, List.take_nil, List.drop_succ_cons, List.drop_zero, List.drop_nil, AVal.flat, List.replicate_succ, List.replicate_zero])
                refine WL_seq ?_
                refine WL_reg ?_
                refine O_h rfl rfl rfl rfl ?_
                refine O_hn rfl rfl rfl rfl ?_
                refine WO_nil ?_
                refine WL_ret ?_
                first | exact ⟨_, rfl, vC zeroC, rfl, by rw [ha0]⟩ | (refine ⟨_, rfl, vC (goC true lb t), ?_, rfl⟩; rw [ev h8, hG]; rfl) | (refine ⟨_, rfl, vC (goC true lb t), ?_, rfl⟩; rw [ev h8, show funG true lb t.fn (goFs true lb t.funs) = (0, 0, []) by rw [h65]; simp [funG, ha]]; rfl) | (refine ⟨_, rfl, vC (goC true lb t), ?_, rfl⟩; rw [ev h8, show funG true lb t.fn (goFs true lb t.funs) = (2, 0, goFs true lb t.funs) by rw [h65]; simp [funG, ha]]; show shutR _ (.agg (fC (flatG true lb t.flat) (pairG true lb t.pair (goCs true lb t.pairs)).1 (pairG true lb t.pair (goCs true lb t.pairs)).2.1 (.lst ((pairG true lb t.pair (goCs true lb t.pairs)).2.2.map encC) f) 2 0 (.gl 3 t.funs.length))) = _; simp [shutR, shutRL, growAt, fC, goFs_len]; done)
              · skip
                refine WL_reg ?_
                refine O_p rfl rfl rfl ?_
                refine O_h rfl rfl rfl rfl ?_
                refine O_p rfl rfl rfl ?_
                refine O_c 43 rfl rfl (hcall) ?_
                refine WO_nil ?_
                refine WL_nil ?_
                refine Blk_norm (?_ : WL _ _ _ _ _)
                refine WL_seq ?_
                apply WL_prune
                · (repeat (first | exact restr_nil | apply restr_cons rfl | apply restr_none rfl))
                conv => arg 4; (try simp only [List.set_cons_zero, List.set_cons_succ, List.nil_append, List.cons_append, List.length_cons, List.length_nil, Nat.zero_add, Nat.add_zero, Nat.reduceAdd, putCells_cT, take_cT,  putCells, List.take_succ_cons, List.take_zero, List.take_nil, List.drop_succ_cons, List.drop_zero, List.drop_nil, AVal.flat, List.replicate_succ, List.replicate_zero])
                conv => arg 3; (try simp only [List.set_cons_zero, List.set_cons_succ, List.nil_append, List.cons_append, List.length_cons, List.length_nil, Nat.zero_add, Nat.add_zero, Nat.reduceAdd, putCells_cT, take_cT,  putCells, List.take_succ_cons, List.take_zero, List.take_nil, List.drop_succ_cons, List.drop_zero, List.drop_nil, AVal.flat, List.replicate_succ, List.replicate_zero])
                refine WL_seq ?_
                refine WL_reg ?_
                refine O_h rfl rfl rfl rfl ?_
                refine O_hn rfl rfl rfl rfl ?_
                refine WO_nil ?_
                refine WL_ret ?_
                first | exact ⟨_, rfl, vC zeroC, rfl, by rw [ha0]⟩ | (refine ⟨_, rfl, vC (goC true lb t), ?_, rfl⟩; rw [ev h8, hG]; rfl) | (refine ⟨_, rfl, vC (goC true lb t), ?_, rfl⟩; rw [ev h8, show funG true lb t.fn (goFs true lb t.funs) = (0, 0, []) by rw [h65]; simp [funG, ha]]; rfl) | (refine ⟨_, rfl, vC (goC true lb t), ?_, rfl⟩; rw [ev h8, show funG true lb t.fn (goFs true lb t.funs) = (2, 0, goFs true lb t.funs) by rw [h65]; simp [funG, ha]]; show shutR _ (.agg (fC (flatG true lb t.flat) (pairG true lb t.pair (goCs true lb t.pairs)).1 (pairG true lb t.pair (goCs true lb t.pairs)).2.1 (.lst ((pairG true lb t.pair (goCs true lb t.pairs)).2.2.map encC) f) 2 0 (.gl 3 t.funs.length))) = _; simp [shutR, shutRL, growAt, fC, goFs_len]; done)
            · skip
              replace h65 : ¬ t.fn = 1 := by simpa using h65
              have hG : funG true lb t.fn (goFs true lb t.funs) = (0, 0, []) := by simp [funG, h60, h65]
              refine WL_skip ?_
              refine WL_nil ?_
              refine Blk_norm (?_ : WL _ _ _ _ _)
              refine WL_seq ?_
              apply WL_prune
              · (repeat (first | exact restr_nil | apply restr_cons rfl | apply restr_none rfl))
              conv => arg 4; (try simp only [List.set_cons_zero, List.set_cons_succ, List.nil_append, List.cons_append, List.length_cons, List.length_nil, Nat.zero_add, Nat.add_zero, Nat.reduceAdd, putCells_cT, take_cT,  putCells, List.take_succ_cons, List.take_zero, List.take_nil, List.drop_succ_cons, List.drop_zero, List.drop_nil, AVal.flat, List.replicate_succ, List.replicate_zero])
              conv => arg 3; (try simp only [List.set_cons_zero, List.set_cons_succ, List.nil_append, List.cons_append, List.length_cons, List.length_nil, Nat.zero_add, Nat.add_zero, Nat.reduceAdd, putCells_cT, take_cT,  putCells, List.take_succ_cons, List.take_zero, List.take_nil, List.drop_succ_cons, List.drop_zero, List.drop_nil, AVal.flat, List.replicate_succ, List.replicate_zero])
              refine WL_seq ?_
              refine WL_reg ?_
              refine O_h rfl rfl rfl rfl ?_
              refine O_hn rfl rfl rfl rfl ?_
              refine WO_nil ?_
              refine WL_ret ?_
              first | exact ⟨_, rfl, vC zeroC, rfl, by rw [ha0]⟩ | (refine ⟨_, rfl, vC (goC true lb t), ?_, rfl⟩; rw [ev h8, hG]; rfl) | (refine ⟨_, rfl, vC (goC true lb t), ?_, rfl⟩; rw [ev h8, show funG true lb t.fn (goFs true lb t.funs) = (0, 0, []) by rw [h65]; simp [funG, ha]]; rfl) | (refine ⟨_, rfl, vC (goC true lb t), ?_, rfl⟩; rw [ev h8, show funG true lb t.fn (goFs true lb t.funs) = (2, 0, goFs true lb t.funs) by rw [h65]; simp [funG, ha]]; show shutR _ (.agg (fC (flatG true lb t.flat) (pairG true lb t.pair (goCs true lb t.pairs)).1 (pairG true lb t.pair (goCs true lb t.pairs)).2.1 (.lst ((pairG true lb t.pair (goCs true lb t.pairs)).2.2.map encC) f) 2 0 (.gl 3 t.funs.length))) = _; simp [shutR, shutRL, growAt, fC, goFs_len]; done)
set_option maxHeartbeats 1000000 in
theorem fromS_c (n : Nat) (t : Ty) (lb : Int) (rt : Rt t) (hn : szT t + 30 < n)
    (ihT : ∀ x, Rt x → szT x < szT t → ∀ k, n ≤ k + 3 → pcall (tabOf tabL) k 12 [vT x, .int .i64 lb] = some (.ok (vC (goC true lb x))))
    (ihF : ∀ x, Rt x → szT x < szT t → ∀ k, n ≤ k + 3 → pcall (tabOf tabL) k 14 [vT x, .int .i64 lb] = some (.ok (vC (goC false lb x)))) :
    pcall (tabOf tabL) (n + 1) 14 [vT t, .int .i64 lb] = some (.ok (vC (goC false lb t))) := by
  have hf := okT_facts rt.ok
  have hlp := len_pairs t
  have hlf := len_funs t
  obtain ⟨n, rfl⟩ : ∃ m, n = m + 10 := ⟨n - 10, by omega⟩
  have ev : vC (goC false lb t) = .agg (fC (fun _ => 0) (pairG false lb t.pair (goCs false lb t.pairs)).1 (pairG false lb t.pair (goCs false lb t.pairs)).2.1 (.lst ((pairG false lb t.pair (goCs false lb t.pairs)).2.2.map encC) false) (funG false lb t.fn (goFs false lb t.funs)).1 (funG false lb t.fn (goFs false lb t.funs)).2.1 (.lst ((funG false lb t.fn (goFs false lb t.funs)).2.2.map encC) false)) := by
    rw [goC_eq]; simp only [goK, Bool.false_and, Bool.false_eq_true, if_false]; rfl
  refine pcall_fin t14 ?_
  refine WL_seq ?_
  refine WL_reg ?_
  refine O_n rfl rfl rfl ?_
  refine O_n rfl rfl rfl ?_
  refine WO_nil ?_
  refine WL_seq ?_
  apply WL_prune
  · (repeat (first | exact restr_nil | apply restr_cons rfl | apply restr_none rfl))
  conv => arg 4; (try simp only [List.set_cons_zero, List.set_cons_succ, List.nil_append, List.cons_append, List.length_cons, List.length_nil, Nat.zero_add, Nat.add_zero, Nat.reduceAdd, putCells_cT, take_cT,  putCells, List.take_succ_cons, List.take_zero, List.take_nil, List.drop_succ_cons, List.drop_zero, List.drop_nil, AVal.flat, List.replicate_succ, List.replicate_zero])
  conv => arg 3; (try simp only [List.set_cons_zero, List.set_cons_succ, List.nil_append, List.cons_append, List.length_cons, List.length_nil, Nat.zero_add, Nat.add_zero, Nat.reduceAdd, putCells_cT, take_cT,  putCells, List.take_succ_cons, List.take_zero, List.take_nil, List.drop_succ_cons, List.drop_zero, List.drop_nil, AVal.flat, List.replicate_succ, List.replicate_zero])
  refine WL_seq ?_
  refine WL_reg ?_
  refine O_n rfl rfl rfl ?_
  refine WO_nil ?_
  refine WL_seq ?_
  apply WL_prune
  · (repeat (first | exact restr_nil | apply restr_cons rfl | apply restr_none rfl))
  conv => arg 4; (try simp only [List.set_cons_zero, List.set_cons_succ, List.nil_append, List.cons_append, List.length_cons, List.length_nil, Nat.zero_add, Nat.add_zero, Nat.reduceAdd, putCells_cT, take_cT,  putCells, List.take_succ_cons, List.take_zero, List.take_nil, List.drop_succ_cons, List.drop_zero, List.drop_nil, AVal.flat, List.replicate_succ, List.replicate_zero])
  conv => arg 3; (try simp only [List.set_cons_zero, List.set_cons_succ, List.nil_append, List.cons_append, List.length_cons, List.length_nil, Nat.zero_add, Nat.add_zero, Nat.reduceAdd, putCells_cT, take_cT,  putCells, List.take_succ_cons, List.take_zero, List.take_nil, List.drop_succ_cons, List.drop_zero, List.drop_nil, AVal.flat, List.replicate_succ, List.replicate_zero])
  refine WL_seq ?_
  refine WL_seq ?_
  refine WL_reg ?_
  refine O_p rfl rfl rfl ?_
  refine O_h rfl rfl rfl rfl ?_
  refine WO_nil ?_
  refine WL_seq ?_
  apply WL_prune
  · (repeat (first | exact restr_nil | apply restr_cons rfl | apply restr_none rfl))
  conv => arg 4; (try simp only [List.set_cons_zero, List.set_cons_succ, List.nil_append, List.cons_append, List.length_cons, List.length_nil, Nat.zero_add, Nat.add_zero, Nat.reduceAdd, putCells_cT, take_cT,  putCells, List.take_succ_cons, List.take_zero, List.take_nil, List.drop_succ_cons, List.drop_zero, List.drop_nil, AVal.flat, List.replicate_succ, List.replicate_zero])
  conv => arg 3; (try simp only [List.set_cons_zero, List.set_cons_succ, List.nil_append, List.cons_append, List.length_cons, List.length_nil, Nat.zero_add, Nat.add_zero, Nat.reduceAdd, putCells_cT, take_cT,  putCells, List.take_succ_cons, List.take_zero, List.take_nil, List.drop_succ_cons, List.drop_zero, List.drop_nil, AVal.flat, List.replicate_succ, List.replicate_zero])
  refine WL_cut (fun e H => restr e [1, 2, 4, 5] = [(1, .int .i64 lb), (2, .ptr 0 0), (4, .ptr 1 0), (5, .ptr 2 0)] ∧ ∃ f rest, (rest = [] ∨ ∃ x, rest = [.cells (cC x)]) ∧ H = .cells (cT t) :: .cells Zc :: .cells (fC (fun _ => 0) (pairG false lb t.pair (goCs false lb t.pairs)).1 (pairG false lb t.pair (goCs false lb t.pairs)).2.1 (.lst ((pairG false lb t.pair (goCs false lb t.pairs)).2.2.map encC) f) 0 0 (.lst [] true)) :: rest) ?_ ?_
  · skip
    refine WL_block ?_
    refine WL_seq ?_
    refine WL_reg ?_
    refine O_p rfl rfl rfl ?_
    refine O_p rfl rfl rfl ?_
    refine WO_nil ?_
    refine WL_seq ?_
    apply WL_prune
    · (repeat (first | exact restr_nil | apply restr_cons rfl | apply restr_none rfl))
    conv => arg 4; (try simp only [List.set_cons_zero, List.set_cons_succ, List.nil_append, List.cons_append, List.length_cons, List.length_nil, Nat.zero_add, Nat.add_zero, Nat.reduceAdd, putCells_cT, take_cT,  putCells, List.take_succ_cons, List.take_zero, List.take_nil, List.drop_succ_cons, List.drop_zero, List.drop_nil, AVal.flat, List.replicate_succ, List.replicate_zero])
    conv => arg 3; (try simp only [List.set_cons_zero, List.set_cons_succ, List.nil_append, List.cons_append, List.length_cons, List.length_nil, Nat.zero_add, Nat.add_zero, Nat.reduceAdd, putCells_cT, take_cT,  putCells, List.take_succ_cons, List.take_zero, List.take_nil, List.drop_succ_cons, List.drop_zero, List.drop_nil, AVal.flat, List.replicate_succ, List.replicate_zero])
    refine WL_cond rfl (fun h9 => ?_) (fun h9 => ?_)
    · skip
      replace h9 : t.pair = 1 := by simpa using h9
      obtain ⟨x, y, hp⟩ := hf.2.2.2.2.2.1 h9
      have hx : t.pairs[0]? = some x := by rw [hp]; rfl
      have hy : t.pairs[1]? = some y := by rw [hp]; rfl
      have hmx := List.mem_of_getElem? hx
      have hmy := List.mem_of_getElem? hy
      have hcx := ihF x (rt.pairs hmx) (szT_pairs hmx) (n + 10) (by omega)
      have hcy := ihF y (rt.pairs hmy) (szT_pairs hmy) (n + 10) (by omega)
      have hP : (pairG false lb t.pair (goCs false lb t.pairs)) = pairG false lb 1 [goC false lb x, goC false lb y] := by rw [h9, hp]; rfl
      have hpm := pairsM_c (n + 5) false lb [goC false lb x, goC false lb y] (cT t) Zc (fun _ => 0) 0 0 (.lst [] true) (by simp) (by simp)
      simp only [List.map_cons, List.map_nil, encC_eq] at hpm
      refine WL_drawT [24] rfl ?_
      refine S_p rfl rfl rfl ?_
      refine S_h (d := some 12) rfl rfl rfl rfl rfl ?_
      refine S_ia rfl rfl (Int.natCast_nonneg _) (encT_get (i := (0 : Nat)) hx) (encT_flat _) rfl ?_
      refine S_h (d := some 14) rfl rfl rfl rfl rfl ?_
      refine S_p rfl rfl rfl ?_
      refine S_c 14 rfl rfl rfl (callA_of rfl hcx) ?_
      refine S_p rfl rfl rfl ?_
      refine S_h (d := some 18) rfl rfl rfl rfl rfl ?_
      refine S_ia rfl rfl (Int.natCast_nonneg _) (encT_get (i := (1 : Nat)) hy) (encT_flat _) rfl ?_
      refine S_h (d := some 20) rfl rfl rfl rfl rfl ?_
      refine S_p rfl rfl rfl ?_
      refine S_c 14 rfl rfl rfl (callA_of rfl hcy) ?_
      refine S_h (d := some 23) rfl rfl rfl rfl rfl ?_
      refine S_ci 42 rfl rfl rfl (callA_nr rfl hpm rfl) ?_
      refine WS_nil ?_
      refine WL_nil ?_
      refine Blk_norm (?_ : WL _ _ _ _ _)
      refine WL_nil ?_
      first | exact ⟨by (repeat (first | exact restr_nil | apply restr_cons rfl | apply restr_none rfl)), true, [], .inl rfl, by rw [hP]; (try simp only [List.map_cons, List.map_nil, encC_eq]); first | done | rfl⟩ | exact ⟨by (repeat (first | exact restr_nil | apply restr_cons rfl | apply restr_none rfl)), true, [.cells (cC (goC false lb x))], .inr ⟨_, rfl⟩, by rw [hP]; (try simp only [List.map_cons, List.map_nil, encC_eq]); first | done | rfl⟩
    · skip
      replace h9 : ¬ t.pair = 1 := by simpa using h9
      refine WL_seq ?_
      refine WL_reg ?_
      refine O_p rfl rfl rfl ?_
      refine O_p rfl rfl rfl ?_
      refine WO_nil ?_
      refine WL_seq ?_
      apply WL_prune
      · (repeat (first | exact restr_nil | apply restr_cons rfl | apply restr_none rfl))
      conv => arg 4; (try simp only [List.set_cons_zero, List.set_cons_succ, List.nil_append, List.cons_append, List.length_cons, List.length_nil, Nat.zero_add, Nat.add_zero, Nat.reduceAdd, putCells_cT, take_cT,  putCells, List.take_succ_cons, List.take_zero, List.take_nil, List.drop_succ_cons, List.drop_zero, List.drop_nil, AVal.flat, List.replicate_succ, List.replicate_zero])
      conv => arg 3; (try simp only [List.set_cons_zero, List.set_cons_succ, List.nil_append, List.cons_append, List.length_cons, List.length_nil, Nat.zero_add, Nat.add_zero, Nat.reduceAdd, putCells_cT, take_cT,  putCells, List.take_succ_cons, List.take_zero, List.take_nil, List.drop_succ_cons, List.drop_zero, List.drop_nil, AVal.flat, List.replicate_succ, List.replicate_zero])
      refine WL_cond rfl (fun h25 => ?_) (fun h25 => ?_)
      · skip
        replace h25 : t.pair = 2 := by simpa using h25
        obtain ⟨x, hp⟩ := hf.2.2.2.2.2.2.1 h25
        have hx : t.pairs[0]? = some x := by rw [hp]; rfl
        have hmx := List.mem_of_getElem? hx
        have hcx := ihF x (rt.pairs hmx) (szT_pairs hmx) (n + 10) (by omega)
        refine WL_seq ?_
        refine WL_reg ?_
        refine O_p rfl rfl rfl ?_
        refine O_h rfl rfl rfl rfl ?_
        refine O_ia rfl rfl (Int.natCast_nonneg _) (encT_get (i := (0 : Nat)) hx) (encT_flat _) rfl ?_
        refine O_h rfl rfl rfl rfl ?_
        refine O_p rfl rfl rfl ?_
        refine O_c 14 rfl rfl (callA_of rfl hcx) ?_
        refine O_n rfl rfl rfl ?_
        refine O_hn rfl rfl rfl rfl ?_
        refine WO_nil ?_
        refine WL_seq ?_
        apply WL_prune
        · (repeat (first | exact restr_nil | apply restr_cons rfl | apply restr_none rfl))
        conv => arg 4; (try simp only [List.set_cons_zero, List.set_cons_succ, List.nil_append, List.cons_append, List.length_cons, List.length_nil, Nat.zero_add, Nat.add_zero, Nat.reduceAdd, putCells_cT, take_cT,  putCells, List.take_succ_cons, List.take_zero, List.take_nil, List.drop_succ_cons, List.drop_zero, List.drop_nil, AVal.flat, List.replicate_succ, List.replicate_zero])
        conv => arg 3; (try simp only [List.set_cons_zero, List.set_cons_succ, List.nil_append, List.cons_append, List.length_cons, List.length_nil, Nat.zero_add, Nat.add_zero, Nat.reduceAdd, putCells_cT, take_cT,  putCells, List.take_succ_cons, List.take_zero, List.take_nil, List.drop_succ_cons, List.drop_zero, List.drop_nil, AVal.flat, List.replicate_succ, List.replicate_zero])
        refine WL_seq ?_
        refine WL_reg ?_
        refine O_h rfl rfl rfl rfl ?_
        refine O_c 45 rfl rfl (callA_of rfl (acts_c (n + 8) _)) ?_
        refine WO_nil ?_
        refine WL_seq ?_
        apply WL_prune
        · (repeat (first | exact restr_nil | apply restr_cons rfl | apply restr_none rfl))
        conv => arg 4; (try simp only [List.set_cons_zero, List.set_cons_succ, List.nil_append, List.cons_append, List.length_cons, List.length_nil, Nat.zero_add, Nat.add_zero, Nat.reduceAdd, putCells_cT, take_cT,  putCells, List.take_succ_cons, List.take_zero, List.take_nil, List.drop_succ_cons, List.drop_zero, List.drop_nil, AVal.flat, List.replicate_succ, List.replicate_zero])
        conv => arg 3; (try simp only [List.set_cons_zero, List.set_cons_succ, List.nil_append, List.cons_append, List.length_cons, List.length_nil, Nat.zero_add, Nat.add_zero, Nat.reduceAdd, putCells_cT, take_cT,  putCells, List.take_succ_cons, List.take_zero, List.take_nil, List.drop_succ_cons, List.drop_zero, List.drop_nil, AVal.flat, List.replicate_succ, List.replicate_zero])
        refine WL_cond rfl (fun h34 => ?_) (fun h34 => ?_)
        · skip
          have hP : (pairG false lb t.pair (goCs false lb t.pairs)) = (3, 0, [goC false lb x]) := by
            have ha : passC (goC false lb x) = false := by simpa using h34
            rw [h25, hp]; simp [pairG, goCs, anyA, ha]
          refine WL_draw0 ?_
          refine D_h (d := some 35) rfl rfl rfl rfl rfl ?_
          refine D_h (d := some 36) rfl rfl rfl rfl rfl ?_
          refine D_p rfl rfl rfl ?_
          refine D_h (d := none) rfl rfl rfl rfl rfl ?_
          refine D_p rfl rfl rfl ?_
          refine D_h (d := none) rfl rfl rfl rfl rfl ?_
          refine WD_nil ⟨by first | rfl | (simp [okFs, okEarlier, disj, notIn, noneIn, sameOn, sameB_self, glsL, glsV, partsGls, AOpd.ev, zeroB, outB] <;> (repeat' apply And.intro) <;> rfl), ?_⟩
          refine WL_nil ?_
          refine Blk_norm (?_ : WL _ _ _ _ _)
          refine WL_nil ?_
          first | exact ⟨by (repeat (first | exact restr_nil | apply restr_cons rfl | apply restr_none rfl)), true, [], .inl rfl, by rw [hP]; (try simp only [List.map_cons, List.map_nil, encC_eq]); first | done | rfl⟩ | exact ⟨by (repeat (first | exact restr_nil | apply restr_cons rfl | apply restr_none rfl)), true, [.cells (cC (goC false lb x))], .inr ⟨_, rfl⟩, by rw [hP]; (try simp only [List.map_cons, List.map_nil, encC_eq]); first | done | rfl⟩
        · skip
          have hP : (pairG false lb t.pair (goCs false lb t.pairs)) = (0, 0, []) := by
            have ha : passC (goC false lb x) = true := by simpa using h34
            rw [h25, hp]; simp [pairG, goCs, anyA, ha]
          refine WL_skip ?_
          refine WL_nil ?_
          refine Blk_norm (?_ : WL _ _ _ _ _)
          refine WL_nil ?_
          first | exact ⟨by (repeat (first | exact restr_nil | apply restr_cons rfl | apply restr_none rfl)), true, [], .inl rfl, by rw [hP]; (try simp only [List.map_cons, List.map_nil, encC_eq]); first | done | rfl⟩ | exact ⟨by (repeat (first | exact restr_nil | apply restr_cons rfl | apply restr_none rfl)), true, [.cells (cC (goC false lb x))], .inr ⟨_, rfl⟩, by rw [hP]; (try simp only [List.map_cons, List.map_nil, encC_eq]); first | done | rfl⟩
      · skip
        replace h25 : ¬ t.pair = 2 := by simpa using h25
        have hP : (pairG false lb t.pair (goCs false lb t.pairs)) = (0, 0, []) := by
          have h0 : t.pair = 0 := by omega
          rw [h0]; rfl
        refine WL_skip ?_
        refine WL_nil ?_
        refine Blk_norm (?_ : WL _ _ _ _ _)
        refine WL_nil ?_
        first | exact ⟨by (repeat (first | exact restr_nil | apply restr_cons rfl | apply restr_none rfl)), true, [], .inl rfl, by rw [hP]; (try simp only [List.map_cons, List.map_nil, encC_eq]); first | done | rfl⟩ | exact ⟨by (repeat (first | exact restr_nil | apply restr_cons rfl | apply restr_none rfl)), true, [.cells (cC (goC false lb x))], .inr ⟨_, rfl⟩, by rw [hP]; (try simp only [List.map_cons, List.map_nil, encC_eq]); first | done | rfl⟩
  · skip
    rintro e H ⟨he, f, rest, hrest, rfl⟩
    refine WL_seq ?_
    apply WL_prune
    · exact he
    refine WL_seq ?_
    refine WL_seq ?_
    refine WL_reg ?_
    refine O_p rfl rfl rfl ?_
    refine O_h rfl rfl rfl rfl ?_
    refine O_p rfl rfl rfl ?_
    refine WO_nil ?_
    refine WL_seq ?_
    apply WL_prune
    · (repeat (first | exact restr_nil | apply restr_cons rfl | apply restr_none rfl))
    conv => arg 4; (try simp only [List.set_cons_zero, List.set_cons_succ, List.nil_append, List.cons_append, List.length_cons, List.length_nil, Nat.zero_add, Nat.add_zero, Nat.reduceAdd, putCells_cT, take_cT,  putCells, List.take_succ_cons, List.take_zero, List.take_nil, List.drop_succ_cons, List.drop_zero, List.drop_nil, AVal.flat, List.replicate_succ, List.replicate_zero])
    conv => arg 3; (try simp only [List.set_cons_zero, List.set_cons_succ, List.nil_append, List.cons_append, List.length_cons, List.length_nil, Nat.zero_add, Nat.add_zero, Nat.reduceAdd, putCells_cT, take_cT,  putCells, List.take_succ_cons, List.take_zero, List.take_nil, List.drop_succ_cons, List.drop_zero, List.drop_nil, AVal.flat, List.replicate_succ, List.replicate_zero])
    refine WL_cond rfl (fun h41 => ?_) (fun h41 => ?_)
    · skip
      replace h41 : t.fn = 1 := by simpa using h41
      rcases funsB (n + 4) (n + 10) false lb t.funs t 12 14 (fun _ => 0) (pairG false lb t.pair (goCs false lb t.pairs)).1 (pairG false lb t.pair (goCs false lb t.pairs)).2.1 ((pairG false lb t.pair (goCs false lb t.pairs)).2.2.map encC) f (by omega) (hf.2.2.2.2.2.2.2.1 h41).2 (fun x hx => ihT x (rt.funs hx) (szT_funs hx) (n + 9) (by omega)) (fun x hx => ihF x (rt.funs hx) (szT_funs hx) (n + 9) (by omega)) rest hrest with ⟨rfl, ha, hcall⟩ | ⟨rfl, ha, hcall⟩ | ⟨x6, rfl, ha, hcall⟩ | ⟨x6, rfl, ha, hcall⟩
      · skip
        refine WL_reg ?_
        refine O_p rfl rfl rfl ?_
        refine O_h rfl rfl rfl rfl ?_
        refine O_p rfl rfl rfl ?_
        refine O_c 43 rfl rfl (hcall) ?_
        refine WO_nil ?_
        refine WL_seq ?_
        apply WL_prune
        · (repeat (first | exact restr_nil | apply restr_cons rfl | apply restr_none rfl))
        conv => arg 4; (try simp only [List.set_cons_zero, List.set_cons_succ, List.nil_append, List.cons_append, List.length_cons, List.length_nil, Nat.zero_add, Nat.add_zero, Nat.reduceAdd, putCells_cT, take_cT,  putCells, List.take_succ_cons, List.take_zero, List.take_nil, List.drop_succ_cons, List.drop_zero, List.drop_nil, AVal.flat, List.replicate_succ, List.replicate_zero])
        conv => arg 3; (try simp only [List.set_cons_zero, List.set_cons_succ, List.nil_append, List.cons_append, List.length_cons, List.length_nil, Nat.zero_add, Nat.add_zero, Nat.reduceAdd, putCells_cT, take_cT,  putCells, List.take_succ_cons, List.take_zero, List.take_nil, List.drop_succ_cons, List.drop_zero, List.drop_nil, AVal.flat, List.replicate_succ, List.replicate_zero])
        refine WL_seq ?_
        refine WL_reg ?_
        refine O_h rfl rfl rfl rfl ?_
        refine O_hn rfl rfl rfl rfl ?_
        refine WO_nil ?_
        refine WL_ret ?_
        refine ⟨_, rfl, vC (goC false lb t), ?_, rfl⟩
        have hG : funG false lb t.fn (goFs false lb t.funs) = (2, 0, goFs false lb t.funs) := by rw [h41]; simp [funG, ha]
        rw [ev, hG]
        show shutR _ (.agg (fC (fun _ => 0) (pairG false lb t.pair (goCs false lb t.pairs)).1 (pairG false lb t.pair (goCs false lb t.pairs)).2.1 (.lst ((pairG false lb t.pair (goCs false lb t.pairs)).2.2.map encC) f) 2 0 (.gl 3 t.funs.length))) = _
        simp [shutR, shutRL, growAt, fC, goFs_len]
      · skip
        refine WL_reg ?_
        refine O_p rfl rfl rfl ?_
        refine O_h rfl rfl rfl rfl ?_
        refine O_p rfl rfl rfl ?_
        refine O_c 43 rfl rfl (hcall) ?_
        refine WO_nil ?_
        refine WL_seq ?_
        apply WL_prune
        · (repeat (first | exact restr_nil | apply restr_cons rfl | apply restr_none rfl))
        conv => arg 4; (try simp only [List.set_cons_zero, List.set_cons_succ, List.nil_append, List.cons_append, List.length_cons, List.length_nil, Nat.zero_add, Nat.add_zero, Nat.reduceAdd, putCells_cT, take_cT,  putCells, List.take_succ_cons, List.take_zero, List.take_nil, List.drop_succ_cons, List.drop_zero, List.drop_nil, AVal.flat, List.replicate_succ, List.replicate_zero])
        conv => arg 3; (try simp only [List.set_cons_zero, List.set_cons_succ, List.nil_append, List.cons_append, List.length_cons, List.length_nil, Nat.zero_add, Nat.add_zero, Nat.reduceAdd, putCells_cT, take_cT,  putCells, List.take_succ_cons, List.take_zero, List.take_nil, List.drop_succ_cons, List.drop_zero, List.drop_nil, AVal.flat, List.replicate_succ, List.replicate_zero])
        refine WL_seq ?_
        refine WL_reg ?_
        refine O_h rfl rfl rfl rfl ?_
        refine O_hn rfl rfl rfl rfl ?_
        refine WO_nil ?_
        refine WL_ret ?_
        refine ⟨_, rfl, vC (goC false lb t), ?_, rfl⟩
        have hG : funG false lb t.fn (goFs false lb t.funs) = (0, 0, []) := by rw [h41]; simp [funG, ha]
        rw [ev, hG]; rfl
      · skip
        refine WL_reg ?_
        refine O_p rfl rfl rfl ?_
        refine O_h rfl rfl rfl rfl ?_
        refine O_p rfl rfl rfl ?_
        refine O_c 43 rfl rfl (hcall) ?_
        refine WO_nil ?_
        refine WL_seq ?_
        apply WL_prune
        · (repeat (first | exact restr_nil | apply restr_cons rfl | apply restr_none rfl))
        conv => arg 4; (try simp only [List.set_cons_zero, List.set_cons_succ, List.nil_append, List.cons_append, List.length_cons, List.length_nil, Nat.zero_add, Nat.add_zero, Nat.reduceAdd, putCells_cT, take_cT,  putCells, List.take_succ_cons, List.take_zero, List.take_nil, List.drop_succ_cons, List.drop_zero, List.drop_nil, AVal.flat, List.replicate_succ, List.replicate_zero])
        conv => arg 3; (try simp only [List.set_cons_zero, List.set_cons_succ, List.nil_append, List.cons_append, List.length_cons, List.length_nil, Nat.zero_add, Nat.add_zero, Nat.reduceAdd, putCells_cT, take_cT,  putCells, List.take_succ_cons, List.take_zero, List.take_nil, List.drop_succ_cons, List.drop_zero, List.drop_nil, AVal.flat, List.replicate_succ, List.replicate_zero])
        refine WL_seq ?_
        refine WL_reg ?_
        refine O_h rfl rfl rfl rfl ?_
        refine O_hn rfl rfl rfl rfl ?_
        refine WO_nil ?_
        refine WL_ret ?_
        refine ⟨_, rfl, vC (goC false lb t), ?_, rfl⟩
        have hG : funG false lb t.fn (goFs false lb t.funs) = (2, 0, goFs false lb t.funs) := by rw [h41]; simp [funG, ha]
        rw [ev, hG]
        show shutR _ (.agg (fC (fun _ => 0) (pairG false lb t.pair (goCs false lb t.pairs)).1 (pairG false lb t.pair (goCs false lb t.pairs)).2.1 (.lst ((pairG false lb t.pair (goCs false lb t.pairs)).2.2.map encC) f) 2 0 (.gl 4 t.funs.length))) = _
        simp [shutR, shutRL, growAt, fC, goFs_len]
      · skip
        refine WL_reg ?_
        refine O_p rfl rfl rfl ?_
        refine O_h rfl rfl rfl rfl ?_
        refine O_p rfl rfl rfl ?_
        refine O_c 43 rfl rfl (hcall) ?_
        refine WO_nil ?_
        refine WL_seq ?_
        apply WL_prune
        · (repeat (first | exact restr_nil | apply restr_cons rfl | apply restr_none rfl))
        conv => arg 4; (try simp only [List.set_cons_zero, List.set_cons_succ, List.nil_append, List.cons_append, List.length_cons, List.length_nil, Nat.zero_add, Nat.add_zero, Nat.reduceAdd, putCells_cT, take_cT,  putCells, List.take_succ_cons, List.take_zero, List.take_nil, List.drop_succ_cons, List.drop_zero, List.drop_nil, AVal.flat, List.replicate_succ, List.replicate_zero])
        conv => arg 3; (try simp only [List.set_cons_zero, List.set_cons_succ, List.nil_append, List.cons_append, List.length_cons, List.length_nil, Nat.zero_add, Nat.add_zero, Nat.reduceAdd, putCells_cT, take_cT,  putCells, List.take_succ_cons, List.take_zero, List.take_nil, List.drop_succ_cons, List.drop_zero, List.drop_nil, AVal.flat, List.replicate_succ, List.replicate_zero])
        refine WL_seq ?_
        refine WL_reg ?_
        refine O_h rfl rfl rfl rfl ?_
        refine O_hn rfl rfl rfl rfl ?_
        refine WO_nil ?_
        refine WL_ret ?_
        refine ⟨_, rfl, vC (goC false lb t), ?_, rfl⟩
        have hG : funG false lb t.fn (goFs false lb t.funs) = (0, 0, []) := by rw [h41]; simp [funG, ha]
        rw [ev, hG]; rfl
    · skip
      replace h41 : ¬ t.fn = 1 := by simpa using h41
      have hG : funG false lb t.fn (goFs false lb t.funs) = (0, 0, []) := by simp [funG, h41]
      refine WL_skip ?_
      refine WL_seq ?_
      apply WL_prune
      · (repeat (first | exact restr_nil | apply restr_cons rfl | apply restr_none rfl))
      conv => arg 4; (try simp only [List.set_cons_zero, List.set_cons_succ, List.nil_append, List.cons_append, List.length_cons, List.length_nil, Nat.zero_add, Nat.add_zero, Nat.reduceAdd, putCells_cT, take_cT,  putCells, List.take_succ_cons, List.take_zero, List.take_nil, List.drop_succ_cons, List.drop_zero, List.drop_nil, AVal.flat, List.replicate_succ, List.replicate_zero])
      conv => arg 3; (try simp only [List.set_cons_zero, List.set_cons_succ, List.nil_append, List.cons_append, List.length_cons, List.length_nil, Nat.zero_add, Nat.add_zero, Nat.reduceAdd, putCells_cT, take_cT,  putCells, List.take_succ_cons, List.take_zero, List.take_nil, List.drop_succ_cons, List.drop_zero, List.drop_nil, AVal.flat, List.replicate_succ, List.replicate_zero])
      refine WL_seq ?_
      refine WL_reg ?_
      refine O_h rfl rfl rfl rfl ?_
      refine O_hn rfl rfl rfl rfl ?_
      refine WO_nil ?_
      refine WL_ret ?_
      refine ⟨_, rfl, vC (goC false lb t), ?_, rfl⟩
      rw [ev, hG]; rfl
theorem tof_c (lb : Int) : ∀ (s : Nat) (t : Ty), szT t ≤ s → Rt t → ∀ k, 4 * szT t + 40 < k → pcall (tabOf tabL) k 12 [vT t, .int .i64 lb] = some (.ok (vC (goC true lb t))) ∧ pcall (tabOf tabL) k 14 [vT t, .int .i64 lb] = some (.ok (vC (goC false lb t)))
  | 0, t, h, _, _, _ => by have := szT_pos t; omega
  | s + 1, t, h, rt, k, hk => by
    obtain ⟨k, rfl⟩ : ∃ m, k = m + 1 := ⟨k - 1, by omega⟩
    have h0 := szT_pos t
    exact ⟨toS_c k t lb rt (by omega) (fun x rx hx k2 hk2 => (tof_c lb s x (by omega) rx k2 (by omega)).1) (fun x rx hx k2 hk2 => (tof_c lb s x (by omega) rx k2 (by omega)).2),
      fromS_c k t lb rt (by omega) (fun x rx hx k2 hk2 => (tof_c lb s x (by omega) rx k2 (by omega)).1) (fun x rx hx k2 hk2 => (tof_c lb s x (by omega) rx k2 (by omega)).2)⟩
end Go.Ev.Seat
