/-
  The functions about coercions: whether one may be.
-/
import Derived.Test.YtbjoldcjbpngaaaCoerce3
set_option linter.unusedVariables false
set_option linter.unusedSimpArgs false
namespace Go.Ev.Seat
open Go Go.Ev
set_option maxRecDepth 20000
attribute [local irreducible] pcall callF
theorem labelled_c (n : Nat) (i : Int) : pcall (tabOf tabL) (n + 1) 59 [.int .i64 i] = some (.ok (.bool (lab i))) := by
  refine pcall_fin t59 ?_
  refine WL_seq ?_
  refine WL_reg ?_
  refine O_p rfl rfl rfl ?_
  refine WO_nil ?_
  refine WL_seq ?_
  apply WL_prune
  · (repeat (first | exact restr_nil | apply restr_cons rfl | apply restr_none rfl))
  refine WL_seq ?_
  refine WL_reg ?_
  refine O_p rfl rfl rfl ?_
  refine O_p rfl rfl rfl ?_
  refine O_p rfl rfl rfl ?_
  apply O_and [_, _] rfl rfl (hT := ?hT8) (h := ?hR8)
  case hT8 =>
    intro hb5
    refine O_p rfl rfl rfl ?_
    refine O_p rfl rfl rfl ?_
    exact WO_nil (WL_nil ⟨rfl, rfl, rfl⟩)
  case hR8 =>
    intro vs hvs
    obtain ⟨u6, u7, rfl⟩ := len2 hvs
    clear hvs; dsimp only [junk]
    refine O_p rfl rfl rfl ?_
    refine WO_nil ?_
    refine WL_ret ?_
    exact ⟨_, rfl, _, rfl, rfl⟩
theorem odd_c (n : Nat) (i : Int) : pcall (tabOf tabL) (n + 2) 58 [.int .i64 i] = some (.ok (.bool (!lab i))) := by
  refine pcall_fin t58 ?_
  refine WL_seq ?_
  refine WL_reg ?_
  refine O_p rfl rfl rfl ?_
  refine WO_nil ?_
  refine WL_seq ?_
  apply WL_prune
  · (repeat (first | exact restr_nil | apply restr_cons rfl | apply restr_none rfl))
  refine WL_seq ?_
  refine WL_reg ?_
  refine O_p rfl rfl rfl ?_
  refine O_c 59 rfl rfl (callA_of rfl (labelled_c n i)) ?_
  refine O_p rfl rfl rfl ?_
  refine O_p rfl rfl rfl ?_
  refine WO_nil ?_
  refine WL_ret ?_
  exact ⟨_, rfl, _, rfl, rfl⟩
theorem indexI_c (n : Nat) (c : Co) (r : Heap) (hn : 10 < n) :
    callF (tabOf tabL) (n + 1) 63 [.sl 0 0 6 6 none, .fn 58 []] (.cells (cC c) :: r) = some (.ok (.int .i64 (fidx (fun i => !lab (c.flat i)) [0, 1, 2, 3, 4, 5] 0)), .cells (cC c) :: r) := by
  obtain ⟨n, rfl⟩ : ∃ m, n = m + 2 := ⟨n - 2, by omega⟩
  refine callF_fin t63 ?_
  refine WL_seq ?_
  refine WL_reg ?_
  refine O_p rfl rfl rfl ?_
  refine WO_nil ?_
  refine WL_seq ?_
  apply WL_prune
  · (repeat (first | exact restr_nil | apply restr_cons rfl | apply restr_none rfl))
  refine WL_seq ?_
  refine WL_seq ?_
  refine WL_reg ?_
  refine O_p rfl rfl rfl ?_
  refine O_h rfl rfl rfl rfl ?_
  refine O_p rfl rfl rfl ?_
  refine WO_nil ?_
  refine WL_seq ?_
  apply WL_prune
  · (repeat (first | exact restr_nil | apply restr_cons rfl | apply restr_none rfl))
  refine WL_block ?_
  apply WL_forc (α := Nat) (fun i => [(8, .int .i64 (i : Nat))]) (fun i => i ≤ 6 ∧ fidx (fun i => !lab (c.flat i)) [0, 1, 2, 3, 4, 5] 0 = fidx (fun i => !lab (c.flat i)) (List.drop i [0, 1, 2, 3, 4, 5]) i) (fun i => 6 - i) (0) (he := ?he) (hP := ?hP) (hk := ?hk) (round := ?round)
  case he =>
    (repeat (first | exact restr_nil | apply restr_cons rfl | apply restr_none rfl))
  case hP =>
    exact ⟨by omega, rfl⟩
  case hk =>
    show 6 - 0 < n + 2; omega
  case round =>
    rintro i ⟨hi, hs⟩
    dsimp only [List.cons_append, List.nil_append] at *
    refine WL_seq ?_
    refine WL_reg ?_
    refine O_p rfl rfl rfl ?_
    refine WO_nil ?_
    refine WL_seq ?_
    apply WL_prune
    · (repeat (first | exact restr_nil | apply restr_cons rfl | apply restr_none rfl))
    refine WL_seq ?_
    refine WL_cond rfl (fun h9 => ?_) (fun h9 => ?_)
    · skip
      replace h9 : i < 6 := by simp at h9; omega
      have hg : List.drop i [0, 1, 2, 3, 4, 5] = i :: List.drop (i + 1) [0, 1, 2, 3, 4, 5] := by
        obtain rfl | rfl | rfl | rfl | rfl | rfl : i = 0 ∨ i = 1 ∨ i = 2 ∨ i = 3 ∨ i = 4 ∨ i = 5 := by omega
        all_goals rfl
      refine WL_skip ?_
      refine WL_seq ?_
      apply WL_prune
      · (repeat (first | exact restr_nil | apply restr_cons rfl | apply restr_none rfl))
      refine WL_seq ?_
      refine WL_block ?_
      refine WL_seq ?_
      refine WL_reg ?_
      refine O_p rfl rfl rfl ?_
      refine O_p rfl rfl rfl ?_
      refine WO_nil ?_
      refine WL_seq ?_
      apply WL_prune
      · (repeat (first | exact restr_nil | apply restr_cons rfl | apply restr_none rfl))
      refine WL_seq ?_
      refine WL_reg ?_
      refine O_p rfl rfl rfl ?_
      refine O_p rfl rfl rfl ?_
      refine O_p rfl rfl rfl ?_
      refine O_ias rfl rfl h9 rfl ?_
      refine O_ld (v := .int .i64 (c.flat i)) rfl rfl (by simp; exact cC_get h9) ?_
      refine O_cv rfl rfl (callA_of rfl (odd_c n (c.flat i))) ?_
      refine WO_nil ?_
      refine WL_seq ?_
      apply WL_prune
      · (repeat (first | exact restr_nil | apply restr_cons rfl | apply restr_none rfl))
      refine WL_cond rfl (fun h16 => ?_) (fun h16 => ?_)
      · skip
        have hr : fidx (fun i => !lab (c.flat i)) [0, 1, 2, 3, 4, 5] 0 = i := by
            rw [hs, hg]; simp [fidx, h16]
        refine WL_seq ?_
        refine WL_reg ?_
        refine O_p rfl rfl rfl ?_
        refine O_p rfl rfl rfl ?_
        refine WO_nil ?_
        refine WL_ret ?_
        refine Blk_ret ?_
        refine RndC_ret ?_
        refine Blk_ret ?_
        exact ⟨_, rfl, by rw [hr]; rfl, rfl⟩
      · skip
        refine WL_skip ?_
        refine WL_nil ?_
        refine Blk_norm (?_ : WL _ _ _ _ _)
        refine WL_seq ?_
        apply WL_prune
        · (repeat (first | exact restr_nil | apply restr_cons rfl | apply restr_none rfl))
        refine WL_reg ?_
        refine O_p rfl rfl rfl ?_
        refine O_p rfl rfl rfl ?_
        refine WO_nil ?_
        refine WL_nil ?_
        refine RndC_norm (i + 1) (by refine ⟨by omega, ?_⟩; rw [hs, hg]; simp [fidx, h16]) (by show _ < _; omega) ?_ ?_
        · rw [wrap_succ (by omega)]; (repeat (first | exact restr_nil | apply restr_cons rfl | apply restr_none rfl))
        · exact trunc_id (Nat.le_refl _)
    · skip
      have hr : fidx (fun i => !lab (c.flat i)) [0, 1, 2, 3, 4, 5] 0 = -1 := by
        simp at h9
        rw [hs, List.drop_eq_nil_of_le (by simp; omega)]; rfl
      refine WL_exit ?_
      refine RndC_exit ?_
      refine Blk_exit (?_ : WL _ _ _ _ _)
      refine WL_seq ?_
      apply WL_prune
      · (repeat (first | exact restr_nil | apply restr_cons rfl | apply restr_none rfl))
      refine WL_seq ?_
      refine WL_reg ?_
      refine O_p rfl rfl rfl ?_
      refine WO_nil ?_
      refine WL_ret ?_
      exact ⟨_, rfl, by rw [hr]; rfl, rfl⟩
theorem containsI_c (n : Nat) (c : Co) (r : Heap) (hn : 10 < n) :
    callF (tabOf tabL) (n + 2) 60 [.sl 0 0 6 6 none, .fn 58 []] (.cells (cC c) :: r) = some (.ok (.bool (!six (fun i => lab (c.flat i)))), .cells (cC c) :: r) := by
  have hq : (!six (fun i => lab (c.flat i))) = decide (0 ≤ fidx (fun i => !lab (c.flat i)) [0, 1, 2, 3, 4, 5] 0) := by
    rw [fidx_any]; simp [six]
  refine callF_fin t60 ?_
  refine WL_seq ?_
  refine WL_reg ?_
  refine O_p rfl rfl rfl ?_
  refine WO_nil ?_
  refine WL_seq ?_
  apply WL_prune
  · (repeat (first | exact restr_nil | apply restr_cons rfl | apply restr_none rfl))
  refine WL_seq ?_
  refine WL_reg ?_
  refine O_p rfl rfl rfl ?_
  refine O_p rfl rfl rfl ?_
  refine O_c 63 rfl rfl (callA_h rfl (indexI_c n c r hn)) ?_
  refine O_p rfl rfl rfl ?_
  refine O_p rfl rfl rfl ?_
  refine WO_nil ?_
  refine WL_ret ?_
  exact ⟨_, rfl, by rw [hq]; rfl, rfl⟩
theorem index_c (n : Nat) (l : List Co) (b : Bool) (f : FuncId) (caps : List AVal) (p : Co → Bool) (H : Heap) (hl : l.length < n) (hm : l.length < 9223372036854775808)
    (hf : ∀ x, x ∈ l → callA ⟨callF (tabOf tabL) n, n⟩ false f (vC x :: caps) H = some (.ok (.bool (p x)), H)) :
    callF (tabOf tabL) (n + 1) 62 [.lst (l.map encC) b, .fn f caps] H = some (.ok (.int .i64 (fidx p l 0)), H) := by
  refine callF_fin t62 ?_
  refine WL_seq ?_
  refine WL_reg ?_
  refine O_p rfl rfl rfl ?_
  refine WO_nil ?_
  refine WL_seq ?_
  apply WL_prune
  · (repeat (first | exact restr_nil | apply restr_cons rfl | apply restr_none rfl))
  refine WL_seq ?_
  refine WL_seq ?_
  refine WL_reg ?_
  refine O_p rfl rfl rfl ?_
  refine O_h rfl rfl rfl rfl ?_
  refine O_p rfl rfl rfl ?_
  refine WO_nil ?_
  refine WL_seq ?_
  apply WL_prune
  · (repeat (first | exact restr_nil | apply restr_cons rfl | apply restr_none rfl))
  refine WL_block ?_
  apply WL_forc (α := Nat) (fun i => [(8, .int .i64 (i : Nat))]) (fun i => i ≤ l.length ∧ fidx p l 0 = fidx p (l.drop i) i) (fun i => l.length - i) (0) (he := ?he) (hP := ?hP) (hk := ?hk) (round := ?round)
  case he =>
    (repeat (first | exact restr_nil | apply restr_cons rfl | apply restr_none rfl))
  case hP =>
    exact ⟨by omega, rfl⟩
  case hk =>
    show l.length - 0 < n; omega
  case round =>
    rintro i ⟨hi, hs⟩
    dsimp only [List.cons_append, List.nil_append] at *
    refine WL_seq ?_
    refine WL_reg ?_
    refine O_p rfl rfl rfl ?_
    refine WO_nil ?_
    refine WL_seq ?_
    apply WL_prune
    · (repeat (first | exact restr_nil | apply restr_cons rfl | apply restr_none rfl))
    refine WL_seq ?_
    refine WL_cond rfl (fun h9 => ?_) (fun h9 => ?_)
    · skip
      simp at h9
      obtain ⟨x, hx⟩ : ∃ x, (l)[i]? = some x := ⟨_, List.getElem?_eq_getElem (by omega)⟩
      have hmx := List.mem_of_getElem? hx
      have hg := drop_of hx
      refine WL_skip ?_
      refine WL_seq ?_
      apply WL_prune
      · (repeat (first | exact restr_nil | apply restr_cons rfl | apply restr_none rfl))
      refine WL_seq ?_
      refine WL_block ?_
      refine WL_seq ?_
      refine WL_reg ?_
      refine O_p rfl rfl rfl ?_
      refine O_p rfl rfl rfl ?_
      refine WO_nil ?_
      refine WL_seq ?_
      apply WL_prune
      · (repeat (first | exact restr_nil | apply restr_cons rfl | apply restr_none rfl))
      refine WL_seq ?_
      refine WL_reg ?_
      refine O_p rfl rfl rfl ?_
      refine O_p rfl rfl rfl ?_
      refine O_p rfl rfl rfl ?_
      refine O_ia rfl rfl (Int.natCast_nonneg _) (encC_get (i := (i : Nat)) hx) (encC_flat _) rfl ?_
      refine O_h rfl rfl rfl rfl ?_
      refine O_cv rfl rfl (hf x hmx) ?_
      refine WO_nil ?_
      refine WL_seq ?_
      apply WL_prune
      · (repeat (first | exact restr_nil | apply restr_cons rfl | apply restr_none rfl))
      refine WL_cond rfl (fun h16 => ?_) (fun h16 => ?_)
      · skip
        have hr : fidx p l 0 = i := by
          rw [hs, hg]; simp [fidx, h16]
        refine WL_seq ?_
        refine WL_reg ?_
        refine O_p rfl rfl rfl ?_
        refine O_p rfl rfl rfl ?_
        refine WO_nil ?_
        refine WL_ret ?_
        refine Blk_ret ?_
        refine RndC_ret ?_
        refine Blk_ret ?_
        exact ⟨_, rfl, by rw [hr]; rfl, rfl⟩
      · skip
        refine WL_skip ?_
        refine WL_nil ?_
        refine Blk_norm (?_ : WL _ _ _ _ _)
        refine WL_seq ?_
        apply WL_prune
        · (repeat (first | exact restr_nil | apply restr_cons rfl | apply restr_none rfl))
        refine WL_reg ?_
        refine O_p rfl rfl rfl ?_
        refine O_p rfl rfl rfl ?_
        refine WO_nil ?_
        refine WL_nil ?_
        refine RndC_norm (i + 1) (by refine ⟨by omega, ?_⟩; rw [hs, hg]; simp [fidx, h16]) (by show _ < _; omega) ?_ ?_
        · rw [wrap_succ (by omega)]; (repeat (first | exact restr_nil | apply restr_cons rfl | apply restr_none rfl))
        · exact trunc_id (Nat.le_refl _)
    · skip
      have hr : fidx p l 0 = -1 := by
        simp at h9
        rw [hs, List.drop_eq_nil_of_le (by omega)]; rfl
      refine WL_exit ?_
      refine RndC_exit ?_
      refine Blk_exit (?_ : WL _ _ _ _ _)
      refine WL_seq ?_
      apply WL_prune
      · (repeat (first | exact restr_nil | apply restr_cons rfl | apply restr_none rfl))
      refine WL_seq ?_
      refine WL_reg ?_
      refine O_p rfl rfl rfl ?_
      refine WO_nil ?_
      refine WL_ret ?_
      exact ⟨_, rfl, by rw [hr]; rfl, rfl⟩
theorem contains_c (n : Nat) (l : List Co) (b : Bool) (f : FuncId) (caps : List AVal) (p : Co → Bool) (H : Heap) (hl : l.length < n) (hm : l.length < 9223372036854775808) (hn : shutL H [.lst (l.map encC) b, .fn f caps] = none)
    (hf : ∀ x, x ∈ l → callA ⟨callF (tabOf tabL) n, n⟩ false f (vC x :: caps) H = some (.ok (.bool (p x)), H)) :
    callF (tabOf tabL) (n + 2) 56 [.lst (l.map encC) b, .fn f caps] H = some (.ok (.bool (l.any p)), H) := by
  refine callF_fin t56 ?_
  refine WL_seq ?_
  refine WL_reg ?_
  refine O_p rfl rfl rfl ?_
  refine WO_nil ?_
  refine WL_seq ?_
  apply WL_prune
  · (repeat (first | exact restr_nil | apply restr_cons rfl | apply restr_none rfl))
  refine WL_seq ?_
  refine WL_reg ?_
  refine O_p rfl rfl rfl ?_
  refine O_p rfl rfl rfl ?_
  refine O_c 62 rfl rfl (callA_h hn (index_c n l b f caps p H hl hm hf)) ?_
  refine O_p rfl rfl rfl ?_
  refine O_p rfl rfl rfl ?_
  refine WO_nil ?_
  refine WL_ret ?_
  exact ⟨_, rfl, by rw [← fidx_any p l 0]; rfl, rfl⟩
theorem some_idx (n : Nat) (l : List Co) (hl : l.length < n) (hm : l.length < 1000000) : pcall (tabOf tabL) (n + 3) 62 [.lst (l.map encC) false, .fn 45 []] = some (.ok (.int .i64 (fidx (fun x => !passC x) l 0))) := by
  have := index_c (n + 2) l false 45 [] (fun x => !passC x) [] (by omega) (by omega) (fun x hx => callA_of rfl (acts_c n x))
  unfold pcall
  rw [this]; rfl
theorem some_c (n : Nat) (l : List Co) (hl : l.length < n) (hm : l.length < 1000000) : pcall (tabOf tabL) (n + 4) 56 [.lst (l.map encC) false, .fn 45 []] = some (.ok (.bool (l.any (fun x => !passC x)))) := by
  refine pcall_fin t56 ?_
  refine WL_seq ?_
  refine WL_reg ?_
  refine O_p rfl rfl rfl ?_
  refine WO_nil ?_
  refine WL_seq ?_
  apply WL_prune
  · (repeat (first | exact restr_nil | apply restr_cons rfl | apply restr_none rfl))
  refine WL_seq ?_
  refine WL_reg ?_
  refine O_p rfl rfl rfl ?_
  refine O_p rfl rfl rfl ?_
  refine O_c 62 rfl rfl (callA_of rfl (some_idx n l hl hm)) ?_
  refine O_p rfl rfl rfl ?_
  refine O_p rfl rfl rfl ?_
  refine WO_nil ?_
  refine WL_ret ?_
  exact ⟨_, rfl, _, rfl, by rw [← fidx_any (fun x => !passC x) l 0]; try rfl⟩
theorem pcntC_ix {p : Int} (h0 : 0 ≤ p) (h2 : p ≤ 3) : (if 0 ≤ p ∧ p < ((4 : Nat) : Int) then part (p.toNat * 1) none [AVal.int .i64 0, AVal.int .i64 0, AVal.int .i64 2, AVal.int .i64 1] else none) = some (.int .i64 (pcntC p)) := by
  rw [if_pos ⟨h0, by omega⟩]
  obtain rfl | rfl | rfl | rfl : p = 0 ∨ p = 1 ∨ p = 2 ∨ p = 3 := by omega
  all_goals rfl
theorem right_c : ∀ (n : Nat) (c : Co) (d : Nat), 10 * szC c + 30 < n → szC c ≤ 1000000 → d < 1000 → pcall (tabOf tabL) n 50 [vC c, .int .i64 (d : Nat)] = some (.ok (.bool (rightC c d)))
  | 0, c, d, h, _, _ => by omega
  | n + 1, c, d, h, hs1, hd => by
    have hz := szC_pos c
    obtain ⟨n, rfl⟩ : ∃ m, n = m + 10 := ⟨n - 10, by omega⟩
    have ih := right_c (n + 8)
    have hp := lenC_pairs c
    have hf := lenC_funs c
    have inner : ∀ (e : Nat) (H : Heap) (x : Co), d = e + 1 → (x ∈ c.pairs ∨ x ∈ c.funs) → H = [.cells (cC c), .cells [.int .i64 (d : Nat)]] → callA ⟨callF (tabOf tabL) (n + 8), n + 8⟩ false 57 [vC x, .ptr 1 0] H = some (.ok (.bool (!rightC x e)), H) := by
      rintro e H x rfl hx rfl
      have hxs : szC x < szC c := by rcases hx with hx | hx; exact szC_pairs hx; exact szC_funs hx
      have hl1 : IntKind.i64.wrap (((e + 1 : Nat) : Int) - 1) = (e : Int) := by rw [kw_i64_id (by omega) (by omega)]; omega
      have ih2 := right_c (n + 7)
      refine callA_hc (H1 := [.cells (cC c), .cells [.int .i64 ((e + 1 : Nat) : Int)], .cells (cC x)]) rfl ?_ (by simp) rfl rfl rfl
      refine callF_fin t57 ?_
      refine WL_seq ?_
      refine WL_reg ?_
      refine O_n rfl rfl rfl ?_
      refine O_p rfl rfl rfl ?_
      refine WO_nil ?_
      refine WL_seq ?_
      apply WL_prune
      · (repeat (first | exact restr_nil | apply restr_cons rfl | apply restr_none rfl))
      refine WL_seq ?_
      refine WL_reg ?_
      refine O_h rfl rfl rfl rfl ?_
      refine O_h rfl rfl rfl rfl ?_
      refine O_p rfl rfl rfl ?_
      refine O_c 50 rfl rfl (callA_of rfl (by rw [hl1]; exact ih2 x e (by omega) (by omega) (by omega))) ?_
      refine O_p rfl rfl rfl ?_
      refine O_p rfl rfl rfl ?_
      refine WO_nil ?_
      refine WL_ret ?_
      exact ⟨_, rfl, rfl, rfl⟩
    have hcont : ∀ (e : Nat) (H : Heap) (l : List Co), d = e + 1 → (∀ x, x ∈ l → x ∈ c.pairs ∨ x ∈ c.funs) → l.length < szC c → H = [.cells (cC c), .cells [.int .i64 (d : Nat)]] → callF (tabOf tabL) (n + 10) 56 [.lst (l.map encC) false, .fn 57 [.ptr 1 0]] H = some (.ok (.bool (l.any (fun x => !rightC x e))), H) := by
      intro e H l he hl hll hH
      exact contains_c (n + 8) l false _ _ (fun x => !rightC x e) H (by omega) (by omega) (by subst hH; rfl) (fun x hx => inner e H x he (hl x hx) hH)
    refine pcall_fin t50 ?_
    refine WL_seq ?_
    refine WL_reg ?_
    refine O_n rfl rfl rfl ?_
    refine O_n rfl rfl rfl ?_
    refine O_p rfl rfl rfl ?_
    refine WO_nil ?_
    refine WL_seq ?_
    apply WL_prune
    · (repeat (first | exact restr_nil | apply restr_cons rfl | apply restr_none rfl))
    refine WL_seq ?_
    refine WL_reg ?_
    refine O_p rfl rfl rfl ?_
    refine O_p rfl rfl rfl ?_
    refine WO_nil ?_
    refine WL_seq ?_
    apply WL_prune
    · (repeat (first | exact restr_nil | apply restr_cons rfl | apply restr_none rfl))
    refine WL_seq ?_
    refine WL_reg ?_
    refine O_p rfl rfl rfl ?_
    refine WO_nil ?_
    refine WL_seq ?_
    apply WL_prune
    · (repeat (first | exact restr_nil | apply restr_cons rfl | apply restr_none rfl))
    refine WL_seq ?_
    refine WL_reg ?_
    refine O_p rfl rfl rfl ?_
    refine O_h rfl rfl rfl rfl ?_
    refine O_c 56 rfl rfl (callA_of rfl (some_c (n + 6) c.pairs (by omega) (by omega))) ?_
    refine O_p rfl rfl rfl ?_
    refine WO_nil ?_
    refine WL_seq ?_
    apply WL_prune
    · (repeat (first | exact restr_nil | apply restr_cons rfl | apply restr_none rfl))
    refine WL_seq ?_
    refine WL_block ?_
    refine WL_seq ?_
    refine WL_reg ?_
    refine O_h rfl rfl rfl rfl ?_
    refine O_p rfl rfl rfl ?_
    refine O_p rfl rfl rfl ?_
    apply O_or [_, _, _, _] rfl rfl (hT := ?hT20) (h := ?hR20)
    case hT20 =>
      intro hb15
      refine O_p rfl rfl rfl ?_
      refine O_h rfl rfl rfl rfl ?_
      refine O_p rfl rfl rfl ?_
      refine O_c 60 rfl rfl (callA_h rfl (containsI_c (n + 8) c _ (by omega))) ?_
      exact WO_nil (WL_nil ⟨rfl, rfl, rfl⟩)
    case hR20 =>
      intro vs hvs
      obtain ⟨u16, u17, u18, u19, rfl⟩ := len4 hvs
      clear hvs; dsimp only [junk]
      refine O_p rfl rfl rfl ?_
      apply O_or [_, _, _, _] rfl rfl (hT := ?hT26) (h := ?hR26)
      case hT26 =>
        intro hb21
        refine O_p rfl rfl rfl ?_
        refine O_p rfl rfl rfl ?_
        refine O_h rfl rfl rfl rfl ?_
        refine O_cv rfl rfl (callA_of rfl (odd_c (n + 8) c.plab)) ?_
        exact WO_nil (WL_nil ⟨rfl, rfl, rfl⟩)
      case hR26 =>
        intro vs hvs
        obtain ⟨u22, u23, u24, u25, rfl⟩ := len4 hvs
        clear hvs; dsimp only [junk]
        refine O_p rfl rfl rfl ?_
        apply O_or [_, _, _, _] rfl rfl (hT := ?hT32) (h := ?hR32)
        case hT32 =>
          intro hb27
          refine O_p rfl rfl rfl ?_
          refine O_p rfl rfl rfl ?_
          refine O_h rfl rfl rfl rfl ?_
          refine O_cv rfl rfl (callA_of rfl (odd_c (n + 8) c.flab)) ?_
          exact WO_nil (WL_nil ⟨rfl, rfl, rfl⟩)
        case hR32 =>
          intro vs hvs
          obtain ⟨u28, u29, u30, u31, rfl⟩ := len4 hvs
          clear hvs; dsimp only [junk]
          refine O_p rfl rfl rfl ?_
          refine WO_nil ?_
          refine WL_seq ?_
          apply WL_prune
          · (repeat (first | exact restr_nil | apply restr_cons rfl | apply restr_none rfl))
          try clear u16 u17 u18 u19 u22 u23 u24 u25 u28 u29 u30 u31
          refine WL_cond rfl (fun h12 => ?_) (fun h12 => ?_)
          · skip
            have hr : rightC c d = false := by
              cases d with
              | zero => exact rightC_zero c
              | succ d =>
                rw [rightC_succ]
                have : okC c = false := by
                  rw [← Bool.not_eq_true, okC_iff]
                  rintro ⟨q1, q2, q3, q4⟩
                  simp [q1, q2, q3] at h12
                  omega
                simp [this]
            refine WL_seq ?_
            refine WL_reg ?_
            refine O_p rfl rfl rfl ?_
            refine WO_nil ?_
            refine WL_ret ?_
            refine Blk_ret ?_
            exact ⟨_, rfl, _, rfl, by rw [hr]⟩
          · skip
            simp at h12
            obtain ⟨d, rfl⟩ : ∃ e, d = e + 1 := ⟨d - 1, by omega⟩
            refine WL_seq ?_
            refine WL_reg ?_
            refine O_p rfl rfl rfl ?_
            refine O_h rfl rfl rfl rfl ?_
            refine O_p rfl rfl rfl ?_
            refine O_p rfl rfl rfl ?_
            apply O_or [_, _, _] rfl rfl (hT := ?hT41) (h := ?hR41)
            case hT41 =>
              intro hb37
              refine O_p rfl rfl rfl ?_
              refine O_h rfl rfl rfl rfl ?_
              refine O_p rfl rfl rfl ?_
              exact WO_nil (WL_nil ⟨rfl, rfl, rfl⟩)
            case hR41 =>
              intro vs hvs
              obtain ⟨u38, u39, u40, rfl⟩ := len3 hvs
              clear hvs; dsimp only [junk]
              refine O_p rfl rfl rfl ?_
              apply O_or [_, _, _] rfl rfl (hT := ?hT46) (h := ?hR46)
              case hT46 =>
                intro hb42
                refine O_p rfl rfl rfl ?_
                refine O_h rfl rfl rfl rfl ?_
                refine O_p rfl rfl rfl ?_
                exact WO_nil (WL_nil ⟨rfl, rfl, rfl⟩)
              case hR46 =>
                intro vs hvs
                obtain ⟨u43, u44, u45, rfl⟩ := len3 hvs
                clear hvs; dsimp only [junk]
                refine O_p rfl rfl rfl ?_
                apply O_or [_, _, _] rfl rfl (hT := ?hT51) (h := ?hR51)
                case hT51 =>
                  intro hb47
                  refine O_p rfl rfl rfl ?_
                  refine O_h rfl rfl rfl rfl ?_
                  refine O_p rfl rfl rfl ?_
                  exact WO_nil (WL_nil ⟨rfl, rfl, rfl⟩)
                case hR51 =>
                  intro vs hvs
                  obtain ⟨u48, u49, u50, rfl⟩ := len3 hvs
                  clear hvs; dsimp only [junk]
                  refine O_p rfl rfl rfl ?_
                  refine WO_nil ?_
                  refine WL_seq ?_
                  apply WL_prune
                  · (repeat (first | exact restr_nil | apply restr_cons rfl | apply restr_none rfl))
                  try clear u38 u39 u40 u43 u44 u45 u48 u49 u50
                  refine WL_cond rfl (fun h33 => ?_) (fun h33 => ?_)
                  · skip
                    have hr : rightC c (d + 1) = false := by
                      rw [rightC_succ]
                      have : okC c = false := by
                        rw [← Bool.not_eq_true, okC_iff]
                        rintro ⟨q1, q2, q3, q4, q5, q6, q7, q8, q9, q10, q11, q12, q13, q14, q15⟩
                        simp at h33
                        omega
                      simp [this]
                    refine WL_seq ?_
                    refine WL_reg ?_
                    refine O_p rfl rfl rfl ?_
                    refine WO_nil ?_
                    refine WL_ret ?_
                    refine Blk_ret ?_
                    exact ⟨_, rfl, _, rfl, by rw [hr]⟩
                  · skip
                    simp at h33
                    refine WL_seq ?_
                    refine WL_drawS (ops := [_, _, _, _, _, _, _, _, _]) rfl rfl ?_
                    refine O_p rfl rfl rfl ?_
                    refine O_h rfl rfl rfl rfl ?_
                    refine O_h rfl rfl rfl rfl ?_
                    refine O_p rfl rfl rfl ?_
                    refine O_p rfl rfl rfl ?_
                    refine O_h rfl rfl rfl rfl ?_
                    refine O_p (v := .int .i64 (pcntC c.pair)) rfl rfl (pcntC_ix (by omega) (by omega)) ?_
                    refine O_p rfl rfl rfl ?_
                    refine O_p rfl rfl rfl ?_
                    refine WO_nil (WL_nil ⟨rfl, ?_⟩)
                    refine WL_seq ?_
                    apply WL_prune
                    · (repeat (first | exact restr_nil | apply restr_cons rfl | apply restr_none rfl))
                    refine WL_cond rfl (fun h52 => ?_) (fun h52 => ?_)
                    · skip
                      have hr : rightC c (d + 1) = false := by
                        rw [rightC_succ]
                        have : okC c = false := by
                          rw [← Bool.not_eq_true, okC_iff]
                          rintro ⟨q1, q2, q3, q4, q5, q6, q7, q8, q9, q10, q11, q12, q13, q14, q15⟩
                          simp [q8] at h52
                        simp [this]
                      refine WL_seq ?_
                      refine WL_reg ?_
                      refine O_p rfl rfl rfl ?_
                      refine WO_nil ?_
                      refine WL_ret ?_
                      refine Blk_ret ?_
                      exact ⟨_, rfl, _, rfl, by rw [hr]⟩
                    · skip
                      simp at h52
                      refine WL_seq ?_
                      refine WL_reg ?_
                      refine O_p rfl rfl rfl ?_
                      refine O_h rfl rfl rfl rfl ?_
                      refine O_p rfl rfl rfl ?_
                      refine O_p rfl rfl rfl ?_
                      apply O_and [_, _, _] rfl rfl (hT := ?hT69) (h := ?hR69)
                      case hT69 =>
                        intro hb65
                        refine O_p rfl rfl rfl ?_
                        refine O_h rfl rfl rfl rfl ?_
                        refine O_p rfl rfl rfl ?_
                        exact WO_nil (WL_nil ⟨rfl, rfl, rfl⟩)
                      case hR69 =>
                        intro vs hvs
                        obtain ⟨u66, u67, u68, rfl⟩ := len3 hvs
                        clear hvs; dsimp only [junk]
                        refine O_p rfl rfl rfl ?_
                        apply O_or [_, _, _, _, _, _, _, _, _, _, _, _] rfl rfl (hT := ?hT83) (h := ?hR83)
                        case hT83 =>
                          intro hb70
                          refine O_p rfl rfl rfl ?_
                          refine O_h rfl rfl rfl rfl ?_
                          refine O_p rfl rfl rfl ?_
                          refine O_p rfl rfl rfl ?_
                          apply O_and [_, _, _] rfl rfl (hT := ?hT78) (h := ?hR78)
                          case hT78 =>
                            intro hb74
                            refine O_p rfl rfl rfl ?_
                            refine O_h rfl rfl rfl rfl ?_
                            refine O_p rfl rfl rfl ?_
                            exact WO_nil (WL_nil ⟨rfl, rfl, rfl⟩)
                          case hR78 =>
                            intro vs hvs
                            obtain ⟨u75, u76, u77, rfl⟩ := len3 hvs
                            clear hvs; dsimp only [junk]
                            refine O_p rfl rfl rfl ?_
                            apply O_and [_, _] rfl rfl (hT := ?hT82) (h := ?hR82)
                            case hT82 =>
                              intro hb79
                              refine O_p rfl rfl rfl ?_
                              refine O_p rfl rfl rfl ?_
                              exact WO_nil (WL_nil ⟨rfl, rfl, rfl⟩)
                            case hR82 =>
                              intro vs hvs
                              obtain ⟨u80, u81, rfl⟩ := len2 hvs
                              clear hvs; dsimp only [junk]
                              exact WO_nil (WL_nil ⟨rfl, rfl, rfl⟩)
                        case hR83 =>
                          intro vs hvs
                          obtain ⟨u71, u72, u73, u74, u75, u76, u77, u78, u79, u80, u81, u82, rfl⟩ := len12 hvs
                          clear hvs; dsimp only [junk]
                          refine O_p rfl rfl rfl ?_
                          refine WO_nil ?_
                          refine WL_seq ?_
                          apply WL_prune
                          · (repeat (first | exact restr_nil | apply restr_cons rfl | apply restr_none rfl))
                          try clear u66 u67 u68 u75 u76 u77 u80 u81 u71 u72 u73 u74 u75 u76 u77 u78 u79 u80 u81 u82
                          refine WL_cond rfl (fun h61 => ?_) (fun h61 => ?_)
                          · skip
                            have hr : rightC c (d + 1) = false := by
                              rw [rightC_succ]
                              have : okC c = false := by
                                rw [← Bool.not_eq_true, okC_iff]
                                rintro ⟨q1, q2, q3, q4, q5, q6, q7, q8, q9, q10, q11, q12, q13, q14, q15⟩
                                change (decide (c.pair = 1) && decide (c.plab = 0) || decide (c.pair = 3) && decide (c.plab = 0) && !anyA c.pairs) = true at h61
                                cases ha : anyA c.pairs <;> simp [ha] at h61 q12 q11 <;> omega
                              simp [this]
                            refine WL_seq ?_
                            refine WL_reg ?_
                            refine O_p rfl rfl rfl ?_
                            refine WO_nil ?_
                            refine WL_ret ?_
                            refine Blk_ret ?_
                            exact ⟨_, rfl, _, rfl, by rw [hr]⟩
                          · skip
                            change (decide (c.pair = 1) && decide (c.plab = 0) || decide (c.pair = 3) && decide (c.plab = 0) && !anyA c.pairs) = false at h61
                            refine WL_seq ?_
                            refine WL_reg ?_
                            refine O_p rfl rfl rfl ?_
                            refine O_h rfl rfl rfl rfl ?_
                            refine O_p rfl rfl rfl ?_
                            refine O_p rfl rfl rfl ?_
                            apply O_and [_, _] rfl rfl (hT := ?hT91) (h := ?hR91)
                            case hT91 =>
                              intro hb88
                              refine O_p rfl rfl rfl ?_
                              refine O_p rfl rfl rfl ?_
                              exact WO_nil (WL_nil ⟨rfl, rfl, rfl⟩)
                            case hR91 =>
                              intro vs hvs
                              obtain ⟨u89, u90, rfl⟩ := len2 hvs
                              clear hvs; dsimp only [junk]
                              refine O_p rfl rfl rfl ?_
                              apply O_or [_, _, _, _, _, _, _, _, _, _, _, _, _] rfl rfl (hT := ?hT106) (h := ?hR106)
                              case hT106 =>
                                intro hb92
                                refine O_p rfl rfl rfl ?_
                                refine O_h rfl rfl rfl rfl ?_
                                refine O_p rfl rfl rfl ?_
                                refine O_p rfl rfl rfl ?_
                                apply O_or [_, _, _] rfl rfl (hT := ?hT100) (h := ?hR100)
                                case hT100 =>
                                  intro hb96
                                  refine O_p rfl rfl rfl ?_
                                  refine O_h rfl rfl rfl rfl ?_
                                  refine O_p rfl rfl rfl ?_
                                  exact WO_nil (WL_nil ⟨rfl, rfl, rfl⟩)
                                case hR100 =>
                                  intro vs hvs
                                  obtain ⟨u97, u98, u99, rfl⟩ := len3 hvs
                                  clear hvs; dsimp only [junk]
                                  refine O_p rfl rfl rfl ?_
                                  apply O_and [_, _, _] rfl rfl (hT := ?hT105) (h := ?hR105)
                                  case hT105 =>
                                    intro hb101
                                    refine O_p rfl rfl rfl ?_
                                    refine O_h rfl rfl rfl rfl ?_
                                    refine O_p rfl rfl rfl ?_
                                    exact WO_nil (WL_nil ⟨rfl, rfl, rfl⟩)
                                  case hR105 =>
                                    intro vs hvs
                                    obtain ⟨u102, u103, u104, rfl⟩ := len3 hvs
                                    clear hvs; dsimp only [junk]
                                    exact WO_nil (WL_nil ⟨rfl, rfl, rfl⟩)
                              case hR106 =>
                                intro vs hvs
                                obtain ⟨u93, u94, u95, u96, u97, u98, u99, u100, u101, u102, u103, u104, u105, rfl⟩ := len13 hvs
                                clear hvs; dsimp only [junk]
                                refine O_p rfl rfl rfl ?_
                                refine WO_nil ?_
                                refine WL_seq ?_
                                apply WL_prune
                                · (repeat (first | exact restr_nil | apply restr_cons rfl | apply restr_none rfl))
                                try clear u89 u90 u97 u98 u99 u102 u103 u104 u93 u94 u95 u96 u97 u98 u99 u100 u101 u102 u103 u104 u105
                                refine WL_cond rfl (fun h84 => ?_) (fun h84 => ?_)
                                · skip
                                  have hr : rightC c (d + 1) = false := by
                                    rw [rightC_succ]
                                    have : okC c = false := by
                                      rw [← Bool.not_eq_true, okC_iff]
                                      rintro ⟨q1, q2, q3, q4, q5, q6, q7, q8, q9, q10, q11, q12, q13, q14, q15⟩
                                      change ((decide (c.pair = 2) && !anyA c.pairs) || (decide (c.pair = 0) || decide (c.pair = 2)) && !decide (c.plab = 0)) = true at h84
                                      cases ha : anyA c.pairs <;> simp [ha] at h84 q11 q12 <;> omega
                                    simp [this]
                                  refine WL_seq ?_
                                  refine WL_reg ?_
                                  refine O_p rfl rfl rfl ?_
                                  refine WO_nil ?_
                                  refine WL_ret ?_
                                  refine Blk_ret ?_
                                  exact ⟨_, rfl, _, rfl, by rw [hr]⟩
                                · skip
                                  refine WL_seq ?_
                                  refine WL_reg ?_
                                  refine O_p rfl rfl rfl ?_
                                  refine O_h rfl rfl rfl rfl ?_
                                  refine O_p rfl rfl rfl ?_
                                  refine O_p rfl rfl rfl ?_
                                  apply O_and [_, _, _, _, _, _, _, _, _, _] rfl rfl (hT := ?hT122) (h := ?hR122)
                                  case hT122 =>
                                    intro hb111
                                    refine O_p rfl rfl rfl ?_
                                    refine O_h rfl rfl rfl rfl ?_
                                    refine O_h rfl rfl rfl rfl ?_
                                    refine O_p rfl rfl rfl ?_
                                    refine O_p rfl rfl rfl ?_
                                    apply O_or [_, _, _, _] rfl rfl (hT := ?hT121) (h := ?hR121)
                                    case hT121 =>
                                      intro hb116
                                      refine O_p rfl rfl rfl ?_
                                      refine O_h rfl rfl rfl rfl ?_
                                      refine O_c 56 rfl rfl (callA_of rfl (some_c (n + 6) c.funs (by omega) (by omega))) ?_
                                      refine O_p rfl rfl rfl ?_
                                      exact WO_nil (WL_nil ⟨rfl, rfl, rfl⟩)
                                    case hR121 =>
                                      intro vs hvs
                                      obtain ⟨u117, u118, u119, u120, rfl⟩ := len4 hvs
                                      clear hvs; dsimp only [junk]
                                      exact WO_nil (WL_nil ⟨rfl, rfl, rfl⟩)
                                  case hR122 =>
                                    intro vs hvs
                                    obtain ⟨u112, u113, u114, u115, u116, u117, u118, u119, u120, u121, rfl⟩ := len10 hvs
                                    clear hvs; dsimp only [junk]
                                    refine O_p rfl rfl rfl ?_
                                    refine WO_nil ?_
                                    refine WL_seq ?_
                                    apply WL_prune
                                    · (repeat (first | exact restr_nil | apply restr_cons rfl | apply restr_none rfl))
                                    try clear u117 u118 u119 u120 u112 u113 u114 u115 u116 u117 u118 u119 u120 u121
                                    refine WL_cond rfl (fun h107 => ?_) (fun h107 => ?_)
                                    · skip
                                      have hr : rightC c (d + 1) = false := by
                                        rw [rightC_succ]
                                        have : okC c = false := by
                                          rw [← Bool.not_eq_true, okC_iff]
                                          rintro ⟨q1, q2, q3, q4, q5, q6, q7, q8, q9, q10, q11, q12, q13, q14, q15⟩
                                          change (decide (c.fn = 2) && (decide (9 < ((c.funs.map encC).length : Int)) || !anyA c.funs)) = true at h107
                                          cases ha : anyA c.funs <;> simp [ha] at h107 q13 <;> omega
                                        simp [this]
                                      refine WL_seq ?_
                                      refine WL_reg ?_
                                      refine O_p rfl rfl rfl ?_
                                      refine WO_nil ?_
                                      refine WL_ret ?_
                                      refine Blk_ret ?_
                                      exact ⟨_, rfl, _, rfl, by rw [hr]⟩
                                    · skip
                                      refine WL_seq ?_
                                      refine WL_reg ?_
                                      refine O_p rfl rfl rfl ?_
                                      refine O_h rfl rfl rfl rfl ?_
                                      refine O_p rfl rfl rfl ?_
                                      refine O_p rfl rfl rfl ?_
                                      apply O_and [_, _, _, _] rfl rfl (hT := ?hT132) (h := ?hR132)
                                      case hT132 =>
                                        intro hb127
                                        refine O_p rfl rfl rfl ?_
                                        refine O_h rfl rfl rfl rfl ?_
                                        refine O_h rfl rfl rfl rfl ?_
                                        refine O_p rfl rfl rfl ?_
                                        exact WO_nil (WL_nil ⟨rfl, rfl, rfl⟩)
                                      case hR132 =>
                                        intro vs hvs
                                        obtain ⟨u128, u129, u130, u131, rfl⟩ := len4 hvs
                                        clear hvs; dsimp only [junk]
                                        refine O_p rfl rfl rfl ?_
                                        apply O_or [_, _, _, _, _, _, _] rfl rfl (hT := ?hT141) (h := ?hR141)
                                        case hT141 =>
                                          intro hb133
                                          refine O_p rfl rfl rfl ?_
                                          refine O_h rfl rfl rfl rfl ?_
                                          refine O_p rfl rfl rfl ?_
                                          refine O_p rfl rfl rfl ?_
                                          refine O_h rfl rfl rfl rfl ?_
                                          refine O_p rfl rfl rfl ?_
                                          refine O_p rfl rfl rfl ?_
                                          exact WO_nil (WL_nil ⟨rfl, rfl, rfl⟩)
                                        case hR141 =>
                                          intro vs hvs
                                          obtain ⟨u134, u135, u136, u137, u138, u139, u140, rfl⟩ := len7 hvs
                                          clear hvs; dsimp only [junk]
                                          refine O_p rfl rfl rfl ?_
                                          refine WO_nil ?_
                                          refine WL_seq ?_
                                          apply WL_prune
                                          · (repeat (first | exact restr_nil | apply restr_cons rfl | apply restr_none rfl))
                                          try clear u128 u129 u130 u131 u134 u135 u136 u137 u138 u139 u140
                                          refine WL_cond rfl (fun h123 => ?_) (fun h123 => ?_)
                                          · skip
                                            have hr : rightC c (d + 1) = false := by
                                              rw [rightC_succ]
                                              have : okC c = false := by
                                                rw [← Bool.not_eq_true, okC_iff]
                                                rintro ⟨q1, q2, q3, q4, q5, q6, q7, q8, q9, q10, q11, q12, q13, q14, q15⟩
                                                simp only [List.length_map] at h123
                                                generalize c.funs.length = lf at h123 q14
                                                by_cases a1 : c.fn = 1 <;> by_cases a2 : c.flab = 0 <;> simp [a1, a2] at h123 q15 q14 <;> omega
                                              simp [this]
                                            refine WL_seq ?_
                                            refine WL_reg ?_
                                            refine O_p rfl rfl rfl ?_
                                            refine WO_nil ?_
                                            refine WL_ret ?_
                                            refine Blk_ret ?_
                                            exact ⟨_, rfl, _, rfl, by rw [hr]⟩
                                          · skip
                                            have hok : okC c = true := by
                                              rw [okC_iff]
                                              refine ⟨h12.1.1.2, h12.1.2, h12.2, ?_⟩
                                              change ((decide (c.pair = 2) && !anyA c.pairs) || (decide (c.pair = 0) || decide (c.pair = 2)) && !decide (c.plab = 0)) = false at h84
                                              change (decide (c.fn = 2) && (decide (9 < ((c.funs.map encC).length : Int)) || !anyA c.funs)) = false at h107
                                              simp only [List.length_map] at h107 h123
                                              generalize c.funs.length = lf at h107 h123 ⊢
                                              by_cases a1 : c.fn = 1 <;> by_cases a2 : c.flab = 0 <;> simp [a1, a2] at h123 <;> cases ha : anyA c.pairs <;> cases hb : anyA c.funs <;> simp [ha, hb, a1, a2] at h61 h84 h107 ⊢ <;> omega
                                            have hr : rightC c (d + 1) = (!(c.pairs.any fun x => !rightC x d) && !(c.funs.any fun x => !rightC x d)) := by rw [rightC_succ, hok, rightCs_any, rightCs_any]; rfl
                                            refine WL_skip ?_
                                            refine WL_nil ?_
                                            refine Blk_norm (?_ : WL _ _ _ _ _)
                                            refine WL_seq ?_
                                            apply WL_prune
                                            · (repeat (first | exact restr_nil | apply restr_cons rfl | apply restr_none rfl))
                                            refine WL_seq ?_
                                            refine WL_reg ?_
                                            refine O_p rfl rfl rfl ?_
                                            refine O_h rfl rfl rfl rfl ?_
                                            refine O_p rfl rfl rfl ?_
                                            refine O_c 56 rfl rfl (callA_h rfl (hcont d _ c.pairs rfl (fun x hx => .inl hx) (by omega) rfl)) ?_
                                            refine O_p rfl rfl rfl ?_
                                            refine O_p rfl rfl rfl ?_
                                            apply O_and [_, _, _, _, _] rfl rfl (hT := ?hT153) (h := ?hR153)
                                            case hT153 =>
                                              intro hb147
                                              refine O_p rfl rfl rfl ?_
                                              refine O_h rfl rfl rfl rfl ?_
                                              refine O_p rfl rfl rfl ?_
                                              refine O_c 56 rfl rfl (callA_h rfl (hcont d _ c.funs rfl (fun x hx => .inr hx) (by omega) rfl)) ?_
                                              refine O_p rfl rfl rfl ?_
                                              exact WO_nil (WL_nil ⟨rfl, rfl, rfl⟩)
                                            case hR153 =>
                                              intro vs hvs
                                              obtain ⟨u148, u149, u150, u151, u152, rfl⟩ := len5 hvs
                                              clear hvs; dsimp only [junk]
                                              refine O_p rfl rfl rfl ?_
                                              refine WO_nil ?_
                                              refine WL_ret ?_
                                              exact ⟨_, rfl, _, rfl, by rw [hr]⟩
theorem all_c2 (n : Nat) (l : List Co) (b : Bool) (h : l.length + 10 < n) (hm : l.length < 1000000) : pcall (tabOf tabL) (n + 1) 44 [.lst (l.map encC) b] = some (.ok (.bool (!anyA l))) := by
  rw [← all_anyA]; exact all_c n l b h hm
theorem deep_c : ∀ (n : Nat) (c : Co) (d : Nat), szC c + 20 < n → szC c ≤ 1000000 → d < 1000 → pcall (tabOf tabL) n 46 [vC c, .int .i64 (d : Nat)] = some (.ok (.bool (rightC c d)))
  | 0, c, d, h, _, _ => by omega
  | n + 1, c, d, h, hs1, hd => by
    have hz := szC_pos c
    obtain ⟨n, rfl⟩ : ∃ m, n = m + 1 := ⟨n - 1, by omega⟩
    have ih := deep_c (n + 1)
    have hp := lenC_pairs c
    have hf := lenC_funs c
    refine pcall_fin t46 ?_
    refine WL_seq ?_
    refine WL_reg ?_
    refine O_n rfl rfl rfl ?_
    refine O_p rfl rfl rfl ?_
    refine WO_nil ?_
    refine WL_seq ?_
    apply WL_prune
    · (repeat (first | exact restr_nil | apply restr_cons rfl | apply restr_none rfl))
    refine WL_seq ?_
    refine WL_seq ?_
    refine WL_reg ?_
    refine O_p rfl rfl rfl ?_
    refine O_p rfl rfl rfl ?_
    refine O_p rfl rfl rfl ?_
    apply O_or [_, _, _] rfl rfl (hT := ?hT15) (h := ?hR15)
    case hT15 =>
      intro hb11
      refine O_p rfl rfl rfl ?_
      refine O_h rfl rfl rfl rfl ?_
      refine O_p rfl rfl rfl ?_
      exact WO_nil (WL_nil ⟨rfl, rfl, rfl⟩)
    case hR15 =>
      intro vs hvs
      obtain ⟨u12, u13, u14, rfl⟩ := len3 hvs
      clear hvs; dsimp only [junk]
      refine O_p rfl rfl rfl ?_
      apply O_or [_, _, _] rfl rfl (hT := ?hT20) (h := ?hR20)
      case hT20 =>
        intro hb16
        refine O_p rfl rfl rfl ?_
        refine O_h rfl rfl rfl rfl ?_
        refine O_p rfl rfl rfl ?_
        exact WO_nil (WL_nil ⟨rfl, rfl, rfl⟩)
      case hR20 =>
        intro vs hvs
        obtain ⟨u17, u18, u19, rfl⟩ := len3 hvs
        clear hvs; dsimp only [junk]
        refine O_p rfl rfl rfl ?_
        apply O_or [_, _, _] rfl rfl (hT := ?hT25) (h := ?hR25)
        case hT25 =>
          intro hb21
          refine O_p rfl rfl rfl ?_
          refine O_h rfl rfl rfl rfl ?_
          refine O_p rfl rfl rfl ?_
          exact WO_nil (WL_nil ⟨rfl, rfl, rfl⟩)
        case hR25 =>
          intro vs hvs
          obtain ⟨u22, u23, u24, rfl⟩ := len3 hvs
          clear hvs; dsimp only [junk]
          refine O_p rfl rfl rfl ?_
          apply O_or [_, _, _] rfl rfl (hT := ?hT30) (h := ?hR30)
          case hT30 =>
            intro hb26
            refine O_p rfl rfl rfl ?_
            refine O_h rfl rfl rfl rfl ?_
            refine O_p rfl rfl rfl ?_
            exact WO_nil (WL_nil ⟨rfl, rfl, rfl⟩)
          case hR30 =>
            intro vs hvs
            obtain ⟨u27, u28, u29, rfl⟩ := len3 hvs
            clear hvs; dsimp only [junk]
            refine O_p rfl rfl rfl ?_
            apply O_or [_, _, _] rfl rfl (hT := ?hT35) (h := ?hR35)
            case hT35 =>
              intro hb31
              refine O_p rfl rfl rfl ?_
              refine O_h rfl rfl rfl rfl ?_
              refine O_p rfl rfl rfl ?_
              exact WO_nil (WL_nil ⟨rfl, rfl, rfl⟩)
            case hR35 =>
              intro vs hvs
              obtain ⟨u32, u33, u34, rfl⟩ := len3 hvs
              clear hvs; dsimp only [junk]
              refine O_p rfl rfl rfl ?_
              apply O_or [_, _, _] rfl rfl (hT := ?hT40) (h := ?hR40)
              case hT40 =>
                intro hb36
                refine O_p rfl rfl rfl ?_
                refine O_h rfl rfl rfl rfl ?_
                refine O_p rfl rfl rfl ?_
                exact WO_nil (WL_nil ⟨rfl, rfl, rfl⟩)
              case hR40 =>
                intro vs hvs
                obtain ⟨u37, u38, u39, rfl⟩ := len3 hvs
                clear hvs; dsimp only [junk]
                refine O_p rfl rfl rfl ?_
                apply O_or [_, _, _] rfl rfl (hT := ?hT45) (h := ?hR45)
                case hT45 =>
                  intro hb41
                  refine O_p rfl rfl rfl ?_
                  refine O_h rfl rfl rfl rfl ?_
                  refine O_p rfl rfl rfl ?_
                  exact WO_nil (WL_nil ⟨rfl, rfl, rfl⟩)
                case hR45 =>
                  intro vs hvs
                  obtain ⟨u42, u43, u44, rfl⟩ := len3 hvs
                  clear hvs; dsimp only [junk]
                  refine O_p rfl rfl rfl ?_
                  apply O_or [_, _, _] rfl rfl (hT := ?hT50) (h := ?hR50)
                  case hT50 =>
                    intro hb46
                    refine O_p rfl rfl rfl ?_
                    refine O_h rfl rfl rfl rfl ?_
                    refine O_p rfl rfl rfl ?_
                    exact WO_nil (WL_nil ⟨rfl, rfl, rfl⟩)
                  case hR50 =>
                    intro vs hvs
                    obtain ⟨u47, u48, u49, rfl⟩ := len3 hvs
                    clear hvs; dsimp only [junk]
                    refine WO_nil ?_
                    refine WL_seq ?_
                    apply WL_prune
                    · (repeat (first | exact restr_nil | apply restr_cons rfl | apply restr_none rfl))
                    try clear u12 u13 u14 u17 u18 u19 u22 u23 u24 u27 u28 u29 u32 u33 u34 u37 u38 u39 u42 u43 u44 u47 u48 u49
                    refine WL_cond rfl (fun h50 => ?_) (fun h50 => ?_)
                    · skip
                      have hr : rightC c d = false := by
                        cases d with
                        | zero => exact rightC_zero c
                        | succ d =>
                          rw [rightC_succ]
                          have : okC c = false := by
                            rw [← Bool.not_eq_true, okC_iff]
                            rintro ⟨q1, q2, q3, q4, q5, q6, q7, q8⟩
                            simp [lab] at q2 q3
                            simp at h50; omega
                          simp [this]
                      refine WL_seq ?_
                      refine WL_reg ?_
                      refine O_p rfl rfl rfl ?_
                      refine WO_nil ?_
                      refine WL_ret ?_
                      exact ⟨_, rfl, _, rfl, by rw [hr]⟩
                    · skip
                      simp at h50
                      obtain ⟨d, rfl⟩ : ∃ e, d = e + 1 := ⟨d - 1, by omega⟩
                      have hl1 : IntKind.i64.wrap (((d + 1 : Nat) : Int) - 1) = (d : Int) := by rw [kw_i64_id (by omega) (by omega)]; omega
                      refine WL_skip ?_
                      refine WL_seq ?_
                      apply WL_prune
                      · (repeat (first | exact restr_nil | apply restr_cons rfl | apply restr_none rfl))
                      refine WL_seq ?_
                      refine WL_seq ?_
                      refine WL_reg ?_
                      refine O_p rfl rfl rfl ?_
                      refine WO_nil ?_
                      refine WL_seq ?_
                      apply WL_prune
                      · (repeat (first | exact restr_nil | apply restr_cons rfl | apply restr_none rfl))
                      refine WL_block ?_
                      apply WL_forc (α := Nat) (fun i => [(5, .int .i64 (i : Nat))]) (fun i => i ≤ 6 ∧ ∀ j, j < i → lab (c.flat j) = true) (fun i => 6 - i) (0) (he := ?he) (hP := ?hP) (hk := ?hk) (round := ?round)
                      case he =>
                        (repeat (first | exact restr_nil | apply restr_cons rfl | apply restr_none rfl))
                      case hP =>
                        exact ⟨by omega, fun j hj => by omega⟩
                      case hk =>
                        show 6 - 0 < n + 1; omega
                      case round =>
                        rintro i ⟨hi, hs⟩
                        dsimp only [List.cons_append, List.nil_append] at *
                        refine WL_seq ?_
                        refine WL_seq ?_
                        refine WL_reg ?_
                        refine O_p rfl rfl rfl ?_
                        refine O_p rfl rfl rfl ?_
                        refine WO_nil ?_
                        refine WL_seq ?_
                        apply WL_prune
                        · (repeat (first | exact restr_nil | apply restr_cons rfl | apply restr_none rfl))
                        refine WL_cond rfl (fun h52 => ?_) (fun h52 => ?_)
                        · skip
                          replace h52 : i < 6 := by simp at h52; omega
                          refine WL_skip ?_
                          refine WL_seq ?_
                          apply WL_prune
                          · (repeat (first | exact restr_nil | apply restr_cons rfl | apply restr_none rfl))
                          refine WL_seq ?_
                          refine WL_block ?_
                          refine WL_seq ?_
                          refine WL_reg ?_
                          refine O_p rfl rfl rfl ?_
                          refine O_p rfl rfl rfl ?_
                          refine O_iaa rfl rfl h52 ?_
                          refine O_ld (v := .int .i64 (c.flat i)) rfl rfl (by simp; exact cC_get h52) ?_
                          refine O_p rfl rfl rfl ?_
                          refine O_p rfl rfl rfl ?_
                          apply O_or [_, _, _, _, _] rfl rfl (hT := ?hT66) (h := ?hR66)
                          case hT66 =>
                            intro hb60
                            refine O_p rfl rfl rfl ?_
                            refine O_p rfl rfl rfl ?_
                            refine O_iaa rfl rfl h52 ?_
                            refine O_ld (v := .int .i64 (c.flat i)) rfl rfl (by simp; exact cC_get h52) ?_
                            refine O_p rfl rfl rfl ?_
                            exact WO_nil (WL_nil ⟨rfl, rfl, rfl⟩)
                          case hR66 =>
                            intro vs hvs
                            obtain ⟨u61, u62, u63, u64, u65, rfl⟩ := len5 hvs
                            clear hvs; dsimp only [junk]
                            refine WO_nil ?_
                            refine WL_seq ?_
                            apply WL_prune
                            · (repeat (first | exact restr_nil | apply restr_cons rfl | apply restr_none rfl))
                            try clear u61 u62 u63 u64 u65
                            refine WL_cond rfl (fun h66 => ?_) (fun h66 => ?_)
                            · skip
                              have hr : rightC c (d + 1) = false := by
                                rw [rightC_succ]
                                have : okC c = false := by
                                  rw [← Bool.not_eq_true, okC_iff]
                                  rintro ⟨q1, q2, q3, q4, q5, q6, q7, q8, q9, q10, q11, q12, q13, q14, q15⟩
                                  have q := six_at q1 h52
                                  simp [lab] at q; simp at h66; omega
                                simp [this]
                              refine WL_seq ?_
                              refine WL_reg ?_
                              refine O_p rfl rfl rfl ?_
                              refine WO_nil ?_
                              refine WL_ret ?_
                              refine Blk_ret ?_
                              refine RndC_ret ?_
                              refine Blk_ret ?_
                              exact ⟨_, rfl, _, rfl, by rw [hr]⟩
                            · skip
                              have hl : lab (c.flat i) = true := by simp at h66; simp [lab, h66]
                              refine WL_skip ?_
                              refine WL_nil ?_
                              refine Blk_norm (?_ : WL _ _ _ _ _)
                              refine WL_seq ?_
                              apply WL_prune
                              · (repeat (first | exact restr_nil | apply restr_cons rfl | apply restr_none rfl))
                              refine WL_reg ?_
                              refine O_p rfl rfl rfl ?_
                              refine O_p rfl rfl rfl ?_
                              refine O_p rfl rfl rfl ?_
                              refine WO_nil ?_
                              refine WL_nil ?_
                              refine RndC_norm (i + 1) (by refine ⟨by omega, fun j hj => ?_⟩; rcases Nat.lt_succ_iff_lt_or_eq.1 hj with q | q; exact hs j q; rw [q]; exact hl) (by show _ < _; omega) ?_ rfl
                              · rw [wrap_succ (by omega)]; (repeat (first | exact restr_nil | apply restr_cons rfl | apply restr_none rfl))
                        · skip
                          have hq0 : six (fun i => lab (c.flat i)) = true := by
                            simp at h52
                            exact six_all fun j hj => hs j (by omega)
                          refine WL_exit ?_
                          refine RndC_exit ?_
                          refine Blk_exit (?_ : WL _ _ _ _ _)
                          refine WL_seq ?_
                          apply WL_prune
                          · (repeat (first | exact restr_nil | apply restr_cons rfl | apply restr_none rfl))
                          refine WL_seq ?_
                          refine WL_reg ?_
                          refine O_h rfl rfl rfl rfl ?_
                          refine O_p rfl rfl rfl ?_
                          refine WO_nil ?_
                          refine WL_seq ?_
                          apply WL_prune
                          · (repeat (first | exact restr_nil | apply restr_cons rfl | apply restr_none rfl))
                          refine WL_seq ?_
                          refine WL_seq ?_
                          refine WL_drawS (ops := [_, _, _, _, _, _, _, _, _, _, _, _, _, _, _, _, _, _, _, _, _, _, _, _, _, _, _, _, _, _, _, _, _, _]) rfl rfl ?_
                          refine O_p rfl rfl rfl ?_
                          refine O_h rfl rfl rfl rfl ?_
                          refine O_h rfl rfl rfl rfl ?_
                          refine O_p rfl rfl rfl ?_
                          refine O_p rfl rfl rfl ?_
                          refine O_h rfl rfl rfl rfl ?_
                          refine O_ia rfl rfl (by omega) (pcntC_get (by omega) (by omega)) rfl rfl ?_
                          refine O_h rfl rfl rfl rfl ?_
                          refine O_p rfl rfl rfl ?_
                          refine O_p rfl rfl rfl ?_
                          apply O_or [_, _, _, _, _, _, _, _] rfl rfl (hT := ?hT86) (h := ?hR86)
                          case hT86 =>
                            intro hb77
                            refine O_p rfl rfl rfl ?_
                            refine O_h rfl rfl rfl rfl ?_
                            refine O_p rfl rfl rfl ?_
                            refine O_p rfl rfl rfl ?_
                            apply O_and [_, _, _] rfl rfl (hT := ?hT85) (h := ?hR85)
                            case hT85 =>
                              intro hb81
                              refine O_p rfl rfl rfl ?_
                              refine O_h rfl rfl rfl rfl ?_
                              refine O_p rfl rfl rfl ?_
                              exact WO_nil (WL_nil ⟨rfl, rfl, rfl⟩)
                            case hR85 =>
                              intro vs hvs
                              obtain ⟨u82, u83, u84, rfl⟩ := len3 hvs
                              clear hvs; dsimp only [junk]
                              exact WO_nil (WL_nil ⟨rfl, rfl, rfl⟩)
                          case hR86 =>
                            intro vs hvs
                            obtain ⟨u78, u79, u80, u81, u82, u83, u84, u85, rfl⟩ := len8 hvs
                            clear hvs; dsimp only [junk]
                            refine O_p rfl rfl rfl ?_
                            apply O_or [_, _, _, _, _, _, _, _, _, _, _, _, _] rfl rfl (hT := ?hT101) (h := ?hR101)
                            case hT101 =>
                              intro hb87
                              refine O_p rfl rfl rfl ?_
                              refine O_h rfl rfl rfl rfl ?_
                              refine O_p rfl rfl rfl ?_
                              refine O_p rfl rfl rfl ?_
                              apply O_or [_, _, _] rfl rfl (hT := ?hT95) (h := ?hR95)
                              case hT95 =>
                                intro hb91
                                refine O_p rfl rfl rfl ?_
                                refine O_h rfl rfl rfl rfl ?_
                                refine O_p rfl rfl rfl ?_
                                exact WO_nil (WL_nil ⟨rfl, rfl, rfl⟩)
                              case hR95 =>
                                intro vs hvs
                                obtain ⟨u92, u93, u94, rfl⟩ := len3 hvs
                                clear hvs; dsimp only [junk]
                                refine O_p rfl rfl rfl ?_
                                apply O_and [_, _, _] rfl rfl (hT := ?hT100) (h := ?hR100)
                                case hT100 =>
                                  intro hb96
                                  refine O_p rfl rfl rfl ?_
                                  refine O_h rfl rfl rfl rfl ?_
                                  refine O_p rfl rfl rfl ?_
                                  exact WO_nil (WL_nil ⟨rfl, rfl, rfl⟩)
                                case hR100 =>
                                  intro vs hvs
                                  obtain ⟨u97, u98, u99, rfl⟩ := len3 hvs
                                  clear hvs; dsimp only [junk]
                                  exact WO_nil (WL_nil ⟨rfl, rfl, rfl⟩)
                            case hR101 =>
                              intro vs hvs
                              obtain ⟨u88, u89, u90, u91, u92, u93, u94, u95, u96, u97, u98, u99, u100, rfl⟩ := len13 hvs
                              clear hvs; dsimp only [junk]
                              refine WO_nil (WL_nil ⟨rfl, ?_⟩)
                              refine WL_seq ?_
                              apply WL_prune
                              · (repeat (first | exact restr_nil | apply restr_cons rfl | apply restr_none rfl))
                              try clear u82 u83 u84 u78 u79 u80 u81 u82 u83 u84 u85 u92 u93 u94 u97 u98 u99 u88 u89 u90 u91 u92 u93 u94 u95 u96 u97 u98 u99 u100
                              refine WL_cond rfl (fun h101 => ?_) (fun h101 => ?_)
                              · skip
                                have hr : rightC c (d + 1) = false := by
                                  rw [rightC_succ]
                                  have : okC c = false := by
                                    rw [← Bool.not_eq_true, okC_iff]
                                    rintro ⟨q1, q2, q3, q4, q5, q6, q7, q8, q9, q10, q11, q12, q13, q14, q15⟩
                                    simp only [List.length_map] at h101
                                    generalize c.pairs.length = lp at h101 q8
                                    cases ha : anyA c.pairs <;> simp [ha, q8] at h101 q11 q12 <;> omega
                                  simp [this]
                                refine WL_seq ?_
                                refine WL_reg ?_
                                refine O_p rfl rfl rfl ?_
                                refine WO_nil ?_
                                refine WL_ret ?_
                                exact ⟨_, rfl, _, rfl, by rw [hr]⟩
                              · skip
                                refine WL_skip ?_
                                refine WL_seq ?_
                                apply WL_prune
                                · (repeat (first | exact restr_nil | apply restr_cons rfl | apply restr_none rfl))
                                refine WL_seq ?_
                                refine WL_seq ?_
                                refine WL_reg ?_
                                refine O_p rfl rfl rfl ?_
                                refine O_h rfl rfl rfl rfl ?_
                                refine O_p rfl rfl rfl ?_
                                refine O_p rfl rfl rfl ?_
                                apply O_and [_, _, _] rfl rfl (hT := ?hT109) (h := ?hR109)
                                case hT109 =>
                                  intro hb105
                                  refine O_p rfl rfl rfl ?_
                                  refine O_h rfl rfl rfl rfl ?_
                                  refine O_c 44 rfl rfl (callA_of rfl (all_c2 n c.pairs false (by omega) (by omega))) ?_
                                  exact WO_nil (WL_nil ⟨rfl, rfl, rfl⟩)
                                case hR109 =>
                                  intro vs hvs
                                  obtain ⟨u106, u107, u108, rfl⟩ := len3 hvs
                                  clear hvs; dsimp only [junk]
                                  refine O_p rfl rfl rfl ?_
                                  apply O_and [_, _, _] rfl rfl (hT := ?hT114) (h := ?hR114)
                                  case hT114 =>
                                    intro hb110
                                    refine O_p rfl rfl rfl ?_
                                    refine O_h rfl rfl rfl rfl ?_
                                    refine O_p rfl rfl rfl ?_
                                    exact WO_nil (WL_nil ⟨rfl, rfl, rfl⟩)
                                  case hR114 =>
                                    intro vs hvs
                                    obtain ⟨u111, u112, u113, rfl⟩ := len3 hvs
                                    clear hvs; dsimp only [junk]
                                    refine WO_nil ?_
                                    refine WL_seq ?_
                                    apply WL_prune
                                    · (repeat (first | exact restr_nil | apply restr_cons rfl | apply restr_none rfl))
                                    try clear u106 u107 u108 u111 u112 u113
                                    refine WL_cond rfl (fun h114 => ?_) (fun h114 => ?_)
                                    · skip
                                      have hr : rightC c (d + 1) = false := by
                                        rw [rightC_succ]
                                        have : okC c = false := by
                                          rw [← Bool.not_eq_true, okC_iff]
                                          rintro ⟨q1, q2, q3, q4, q5, q6, q7, q8, q9, q10, q11, q12, q13, q14, q15⟩
                                          cases ha : anyA c.pairs <;> simp [ha] at h114 q11 q12 <;> omega
                                        simp [this]
                                      refine WL_seq ?_
                                      refine WL_reg ?_
                                      refine O_p rfl rfl rfl ?_
                                      refine WO_nil ?_
                                      refine WL_ret ?_
                                      exact ⟨_, rfl, _, rfl, by rw [hr]⟩
                                    · skip
                                      refine WL_skip ?_
                                      refine WL_seq ?_
                                      apply WL_prune
                                      · (repeat (first | exact restr_nil | apply restr_cons rfl | apply restr_none rfl))
                                      refine WL_seq ?_
                                      refine WL_seq ?_
                                      refine WL_reg ?_
                                      refine O_p rfl rfl rfl ?_
                                      refine O_h rfl rfl rfl rfl ?_
                                      refine O_p rfl rfl rfl ?_
                                      refine O_p rfl rfl rfl ?_
                                      apply O_and [_, _, _, _] rfl rfl (hT := ?hT123) (h := ?hR123)
                                      case hT123 =>
                                        intro hb118
                                        refine O_p rfl rfl rfl ?_
                                        refine O_h rfl rfl rfl rfl ?_
                                        refine O_h rfl rfl rfl rfl ?_
                                        refine O_p rfl rfl rfl ?_
                                        exact WO_nil (WL_nil ⟨rfl, rfl, rfl⟩)
                                      case hR123 =>
                                        intro vs hvs
                                        obtain ⟨u119, u120, u121, u122, rfl⟩ := len4 hvs
                                        clear hvs; dsimp only [junk]
                                        refine O_p rfl rfl rfl ?_
                                        apply O_or [_, _, _, _, _, _, _, _, _, _, _, _, _, _, _, _, _, _, _, _] rfl rfl (hT := ?hT145) (h := ?hR145)
                                        case hT145 =>
                                          intro hb124
                                          refine O_p rfl rfl rfl ?_
                                          refine O_h rfl rfl rfl rfl ?_
                                          refine O_p rfl rfl rfl ?_
                                          refine O_p rfl rfl rfl ?_
                                          apply O_and [_, _, _, _, _, _, _, _, _, _, _, _, _, _, _] rfl rfl (hT := ?hT144) (h := ?hR144)
                                          case hT144 =>
                                            intro hb128
                                            refine O_p rfl rfl rfl ?_
                                            refine O_h rfl rfl rfl rfl ?_
                                            refine O_h rfl rfl rfl rfl ?_
                                            refine O_p rfl rfl rfl ?_
                                            refine O_p rfl rfl rfl ?_
                                            apply O_or [_, _, _, _] rfl rfl (hT := ?hT138) (h := ?hR138)
                                            case hT138 =>
                                              intro hb133
                                              refine O_p rfl rfl rfl ?_
                                              refine O_h rfl rfl rfl rfl ?_
                                              refine O_h rfl rfl rfl rfl ?_
                                              refine O_p rfl rfl rfl ?_
                                              exact WO_nil (WL_nil ⟨rfl, rfl, rfl⟩)
                                            case hR138 =>
                                              intro vs hvs
                                              obtain ⟨u134, u135, u136, u137, rfl⟩ := len4 hvs
                                              clear hvs; dsimp only [junk]
                                              refine O_p rfl rfl rfl ?_
                                              apply O_or [_, _, _] rfl rfl (hT := ?hT143) (h := ?hR143)
                                              case hT143 =>
                                                intro hb139
                                                refine O_p rfl rfl rfl ?_
                                                refine O_h rfl rfl rfl rfl ?_
                                                refine O_c 44 rfl rfl (callA_of rfl (all_c2 n c.funs false (by omega) (by omega))) ?_
                                                exact WO_nil (WL_nil ⟨rfl, rfl, rfl⟩)
                                              case hR143 =>
                                                intro vs hvs
                                                obtain ⟨u140, u141, u142, rfl⟩ := len3 hvs
                                                clear hvs; dsimp only [junk]
                                                exact WO_nil (WL_nil ⟨rfl, rfl, rfl⟩)
                                          case hR144 =>
                                            intro vs hvs
                                            obtain ⟨u129, u130, u131, u132, u133, u134, u135, u136, u137, u138, u139, u140, u141, u142, u143, rfl⟩ := len15 hvs
                                            clear hvs; dsimp only [junk]
                                            exact WO_nil (WL_nil ⟨rfl, rfl, rfl⟩)
                                        case hR145 =>
                                          intro vs hvs
                                          obtain ⟨u125, u126, u127, u128, u129, u130, u131, u132, u133, u134, u135, u136, u137, u138, u139, u140, u141, u142, u143, u144, rfl⟩ := len20 hvs
                                          clear hvs; dsimp only [junk]
                                          refine O_p rfl rfl rfl ?_
                                          apply O_or [_, _, _, _, _, _, _] rfl rfl (hT := ?hT154) (h := ?hR154)
                                          case hT154 =>
                                            intro hb146
                                            refine O_p rfl rfl rfl ?_
                                            refine O_h rfl rfl rfl rfl ?_
                                            refine O_p rfl rfl rfl ?_
                                            refine O_p rfl rfl rfl ?_
                                            refine O_h rfl rfl rfl rfl ?_
                                            refine O_p rfl rfl rfl ?_
                                            refine O_p rfl rfl rfl ?_
                                            exact WO_nil (WL_nil ⟨rfl, rfl, rfl⟩)
                                          case hR154 =>
                                            intro vs hvs
                                            obtain ⟨u147, u148, u149, u150, u151, u152, u153, rfl⟩ := len7 hvs
                                            clear hvs; dsimp only [junk]
                                            refine WO_nil ?_
                                            refine WL_seq ?_
                                            apply WL_prune
                                            · (repeat (first | exact restr_nil | apply restr_cons rfl | apply restr_none rfl))
                                            try clear u119 u120 u121 u122 u134 u135 u136 u137 u140 u141 u142 u129 u130 u131 u132 u133 u134 u135 u136 u137 u138 u139 u140 u141 u142 u143 u125 u126 u127 u128 u129 u130 u131 u132 u133 u134 u135 u136 u137 u138 u139 u140 u141 u142 u143 u144 u147 u148 u149 u150 u151 u152 u153
                                            refine WL_cond rfl (fun h154 => ?_) (fun h154 => ?_)
                                            · skip
                                              have hr : rightC c (d + 1) = false := by
                                                rw [rightC_succ]
                                                have : okC c = false := by
                                                  rw [← Bool.not_eq_true, okC_iff]
                                                  rintro ⟨q1, q2, q3, q4, q5, q6, q7, q8, q9, q10, q11, q12, q13, q14, q15⟩
                                                  have hal : anyA c.funs = true → 1 ≤ c.funs.length := anyA_len
                                                  simp only [List.length_map] at h154
                                                  generalize c.funs.length = lf at h154 q13 q14 hal
                                                  cases ha : anyA c.funs <;> by_cases a1 : c.fn = 1 <;> by_cases a2 : c.flab = 0 <;> simp [a1, a2, ha] at h154 q15 q14 q13 hal <;> omega
                                                simp [this]
                                              refine WL_seq ?_
                                              refine WL_reg ?_
                                              refine O_p rfl rfl rfl ?_
                                              refine WO_nil ?_
                                              refine WL_ret ?_
                                              exact ⟨_, rfl, _, rfl, by rw [hr]⟩
                                            · skip
                                              have hok : okC c = true := by
                                                rw [okC_iff]
                                                refine ⟨hq0, by simp [lab]; omega, by simp [lab]; omega, ?_⟩
                                                simp only [List.length_map] at h101 h154
                                                generalize c.pairs.length = lp at h101 ⊢
                                                generalize c.funs.length = lf at h154 ⊢
                                                by_cases a1 : c.fn = 1 <;> by_cases a2 : c.flab = 0 <;> cases ha : anyA c.pairs <;> cases hb : anyA c.funs <;> simp [a1, a2, ha, hb] at h101 h114 h154 ⊢ <;> omega
                                              refine WL_skip ?_
                                              refine WL_seq ?_
                                              apply WL_prune
                                              · (repeat (first | exact restr_nil | apply restr_cons rfl | apply restr_none rfl))
                                              refine WL_seq ?_
                                              refine WL_seq ?_
                                              refine WL_reg ?_
                                              refine O_p rfl rfl rfl ?_
                                              refine WO_nil ?_
                                              refine WL_seq ?_
                                              apply WL_prune
                                              · (repeat (first | exact restr_nil | apply restr_cons rfl | apply restr_none rfl))
                                              refine WL_block ?_
                                              apply WL_forc (α := Nat) (fun i => [(7, .int .i64 (i : Nat))]) (fun i => i ≤ c.pairs.length ∧ rightCs c.pairs d = rightCs (c.pairs.drop i) d) (fun i => c.pairs.length - i) (0) (he := ?he) (hP := ?hP) (hk := ?hk) (round := ?round)
                                              case he =>
                                                (repeat (first | exact restr_nil | apply restr_cons rfl | apply restr_none rfl))
                                              case hP =>
                                                exact ⟨by omega, rfl⟩
                                              case hk =>
                                                show c.pairs.length - 0 < n + 1; omega
                                              case round =>
                                                rintro i ⟨hi, hs⟩
                                                dsimp only [List.cons_append, List.nil_append] at *
                                                refine WL_seq ?_
                                                refine WL_seq ?_
                                                refine WL_reg ?_
                                                refine O_p rfl rfl rfl ?_
                                                refine O_p rfl rfl rfl ?_
                                                refine O_h rfl rfl rfl rfl ?_
                                                refine O_h rfl rfl rfl rfl ?_
                                                refine O_p rfl rfl rfl ?_
                                                refine WO_nil ?_
                                                refine WL_seq ?_
                                                apply WL_prune
                                                · (repeat (first | exact restr_nil | apply restr_cons rfl | apply restr_none rfl))
                                                refine WL_cond rfl (fun h159 => ?_) (fun h159 => ?_)
                                                · skip
                                                  simp at h159
                                                  obtain ⟨x, hx⟩ : ∃ x, (c.pairs)[i]? = some x := ⟨_, List.getElem?_eq_getElem (by omega)⟩
                                                  have hmx := List.mem_of_getElem? hx
                                                  have hsx := szC_pairs hmx
                                                  have hg := drop_of hx
                                                  refine WL_skip ?_
                                                  refine WL_seq ?_
                                                  apply WL_prune
                                                  · (repeat (first | exact restr_nil | apply restr_cons rfl | apply restr_none rfl))
                                                  refine WL_seq ?_
                                                  refine WL_block ?_
                                                  refine WL_seq ?_
                                                  refine WL_reg ?_
                                                  refine O_p rfl rfl rfl ?_
                                                  refine O_h rfl rfl rfl rfl ?_
                                                  refine O_p rfl rfl rfl ?_
                                                  refine O_ia rfl rfl (Int.natCast_nonneg _) (encC_get (i := (i : Nat)) hx) (encC_flat _) rfl ?_
                                                  refine O_h rfl rfl rfl rfl ?_
                                                  refine O_p rfl rfl rfl ?_
                                                  refine O_p rfl rfl rfl ?_
                                                  refine O_c 46 rfl rfl (callA_of rfl (by rw [hl1]; exact ih x d (by omega) (by omega) (by omega))) ?_
                                                  refine O_p rfl rfl rfl ?_
                                                  refine WO_nil ?_
                                                  refine WL_seq ?_
                                                  apply WL_prune
                                                  · (repeat (first | exact restr_nil | apply restr_cons rfl | apply restr_none rfl))
                                                  refine WL_cond rfl (fun h170 => ?_) (fun h170 => ?_)
                                                  · skip
                                                    have hr : rightC c (d + 1) = false := by
                                                      simp at h170
                                                      rw [rightC_succ, hs, hg]; simp [rightCs, h170]
                                                    refine WL_seq ?_
                                                    refine WL_reg ?_
                                                    refine O_p rfl rfl rfl ?_
                                                    refine WO_nil ?_
                                                    refine WL_ret ?_
                                                    refine Blk_ret ?_
                                                    refine RndC_ret ?_
                                                    refine Blk_ret ?_
                                                    exact ⟨_, rfl, _, rfl, by rw [hr]⟩
                                                  · skip
                                                    refine WL_skip ?_
                                                    refine WL_nil ?_
                                                    refine Blk_norm (?_ : WL _ _ _ _ _)
                                                    refine WL_seq ?_
                                                    apply WL_prune
                                                    · (repeat (first | exact restr_nil | apply restr_cons rfl | apply restr_none rfl))
                                                    refine WL_reg ?_
                                                    refine O_p rfl rfl rfl ?_
                                                    refine O_p rfl rfl rfl ?_
                                                    refine O_p rfl rfl rfl ?_
                                                    refine WO_nil ?_
                                                    refine WL_nil ?_
                                                    simp at h170
                                                    refine RndC_norm (i + 1) (by refine ⟨by omega, ?_⟩; rw [hs, hg, rightCs, h170]; rfl) (by show _ < _; omega) ?_ rfl
                                                    · rw [wrap_succ (by omega)]; (repeat (first | exact restr_nil | apply restr_cons rfl | apply restr_none rfl))
                                                · skip
                                                  have hq : rightCs c.pairs d = true := by
                                                    simp at h159
                                                    rw [hs, List.drop_eq_nil_of_le (by omega)]; rfl
                                                  refine WL_exit ?_
                                                  refine RndC_exit ?_
                                                  refine Blk_exit (?_ : WL _ _ _ _ _)
                                                  refine WL_seq ?_
                                                  apply WL_prune
                                                  · (repeat (first | exact restr_nil | apply restr_cons rfl | apply restr_none rfl))
                                                  refine WL_seq ?_
                                                  refine WL_seq ?_
                                                  refine WL_reg ?_
                                                  refine O_p rfl rfl rfl ?_
                                                  refine WO_nil ?_
                                                  refine WL_seq ?_
                                                  apply WL_prune
                                                  · (repeat (first | exact restr_nil | apply restr_cons rfl | apply restr_none rfl))
                                                  refine WL_block ?_
                                                  apply WL_forc (α := Nat) (fun i => [(8, .int .i64 (i : Nat))]) (fun i => i ≤ c.funs.length ∧ rightCs c.funs d = rightCs (c.funs.drop i) d) (fun i => c.funs.length - i) (0) (he := ?he) (hP := ?hP) (hk := ?hk) (round := ?round)
                                                  case he =>
                                                    (repeat (first | exact restr_nil | apply restr_cons rfl | apply restr_none rfl))
                                                  case hP =>
                                                    exact ⟨by omega, rfl⟩
                                                  case hk =>
                                                    show c.funs.length - 0 < n + 1; omega
                                                  case round =>
                                                    rintro i ⟨hi, hs⟩
                                                    dsimp only [List.cons_append, List.nil_append] at *
                                                    refine WL_seq ?_
                                                    refine WL_seq ?_
                                                    refine WL_reg ?_
                                                    refine O_p rfl rfl rfl ?_
                                                    refine O_p rfl rfl rfl ?_
                                                    refine O_h rfl rfl rfl rfl ?_
                                                    refine O_h rfl rfl rfl rfl ?_
                                                    refine O_p rfl rfl rfl ?_
                                                    refine WO_nil ?_
                                                    refine WL_seq ?_
                                                    apply WL_prune
                                                    · (repeat (first | exact restr_nil | apply restr_cons rfl | apply restr_none rfl))
                                                    refine WL_cond rfl (fun h175 => ?_) (fun h175 => ?_)
                                                    · skip
                                                      simp at h175
                                                      obtain ⟨x, hx⟩ : ∃ x, (c.funs)[i]? = some x := ⟨_, List.getElem?_eq_getElem (by omega)⟩
                                                      have hmx := List.mem_of_getElem? hx
                                                      have hsx := szC_funs hmx
                                                      have hg := drop_of hx
                                                      refine WL_skip ?_
                                                      refine WL_seq ?_
                                                      apply WL_prune
                                                      · (repeat (first | exact restr_nil | apply restr_cons rfl | apply restr_none rfl))
                                                      refine WL_seq ?_
                                                      refine WL_block ?_
                                                      refine WL_seq ?_
                                                      refine WL_reg ?_
                                                      refine O_p rfl rfl rfl ?_
                                                      refine O_h rfl rfl rfl rfl ?_
                                                      refine O_p rfl rfl rfl ?_
                                                      refine O_ia rfl rfl (Int.natCast_nonneg _) (encC_get (i := (i : Nat)) hx) (encC_flat _) rfl ?_
                                                      refine O_h rfl rfl rfl rfl ?_
                                                      refine O_p rfl rfl rfl ?_
                                                      refine O_p rfl rfl rfl ?_
                                                      refine O_c 46 rfl rfl (callA_of rfl (by rw [hl1]; exact ih x d (by omega) (by omega) (by omega))) ?_
                                                      refine O_p rfl rfl rfl ?_
                                                      refine WO_nil ?_
                                                      refine WL_seq ?_
                                                      apply WL_prune
                                                      · (repeat (first | exact restr_nil | apply restr_cons rfl | apply restr_none rfl))
                                                      refine WL_cond rfl (fun h186 => ?_) (fun h186 => ?_)
                                                      · skip
                                                        have hr : rightC c (d + 1) = false := by
                                                          simp at h186
                                                          rw [rightC_succ, hs, hg]; simp [rightCs, h186]
                                                        refine WL_seq ?_
                                                        refine WL_reg ?_
                                                        refine O_p rfl rfl rfl ?_
                                                        refine WO_nil ?_
                                                        refine WL_ret ?_
                                                        refine Blk_ret ?_
                                                        refine RndC_ret ?_
                                                        refine Blk_ret ?_
                                                        exact ⟨_, rfl, _, rfl, by rw [hr]⟩
                                                      · skip
                                                        refine WL_skip ?_
                                                        refine WL_nil ?_
                                                        refine Blk_norm (?_ : WL _ _ _ _ _)
                                                        refine WL_seq ?_
                                                        apply WL_prune
                                                        · (repeat (first | exact restr_nil | apply restr_cons rfl | apply restr_none rfl))
                                                        refine WL_reg ?_
                                                        refine O_p rfl rfl rfl ?_
                                                        refine O_p rfl rfl rfl ?_
                                                        refine O_p rfl rfl rfl ?_
                                                        refine WO_nil ?_
                                                        refine WL_nil ?_
                                                        simp at h186
                                                        refine RndC_norm (i + 1) (by refine ⟨by omega, ?_⟩; rw [hs, hg, rightCs, h186]; rfl) (by show _ < _; omega) ?_ rfl
                                                        · rw [wrap_succ (by omega)]; (repeat (first | exact restr_nil | apply restr_cons rfl | apply restr_none rfl))
                                                    · skip
                                                      have hr : rightC c (d + 1) = true := by
                                                        simp at h175
                                                        rw [rightC_succ, hok, hq, hs, List.drop_eq_nil_of_le (by omega)]; rfl
                                                      refine WL_exit ?_
                                                      refine RndC_exit ?_
                                                      refine Blk_exit (?_ : WL _ _ _ _ _)
                                                      refine WL_seq ?_
                                                      apply WL_prune
                                                      · (repeat (first | exact restr_nil | apply restr_cons rfl | apply restr_none rfl))
                                                      refine WL_seq ?_
                                                      refine WL_reg ?_
                                                      refine O_p rfl rfl rfl ?_
                                                      refine WO_nil ?_
                                                      refine WL_ret ?_
                                                      exact ⟨_, rfl, _, rfl, by rw [hr]⟩
theorem right_prog (n : Nat) (c : Co) (h : 10 * szC c + 30 < n) (hs : szC c ≤ 1000000) : pcall (tabOf tabL) (n + 1) 20 [vC c] = some (.ok (.bool (rightC c 25))) := by
  refine pcall_fin t20 ?_
  refine WL_seq ?_
  refine WL_reg ?_
  refine O_n rfl rfl rfl ?_
  refine O_p rfl rfl rfl ?_
  refine WO_nil ?_
  refine WL_seq ?_
  apply WL_prune
  · (repeat (first | exact restr_nil | apply restr_cons rfl | apply restr_none rfl))
  refine WL_seq ?_
  refine WL_reg ?_
  refine O_h rfl rfl rfl rfl ?_
  refine O_c 50 rfl rfl (callA_of rfl (right_c n c 25 h hs (by omega))) ?_
  refine O_p rfl rfl rfl ?_
  refine WO_nil ?_
  refine WL_ret ?_
  exact ⟨_, rfl, _, rfl, rfl⟩
theorem right_ref (n : Nat) (c : Co) (h : szC c + 20 < n) (hs : szC c ≤ 1000000) : pcall (tabOf tabL) (n + 1) 17 [vC c] = some (.ok (.bool (rightC c 25))) := by
  refine pcall_fin t17 ?_
  refine WL_seq ?_
  refine WL_reg ?_
  refine O_n rfl rfl rfl ?_
  refine O_p rfl rfl rfl ?_
  refine WO_nil ?_
  refine WL_seq ?_
  apply WL_prune
  · (repeat (first | exact restr_nil | apply restr_cons rfl | apply restr_none rfl))
  refine WL_seq ?_
  refine WL_reg ?_
  refine O_h rfl rfl rfl rfl ?_
  refine O_c 46 rfl rfl (callA_of rfl (deep_c n c 25 h hs (by omega))) ?_
  refine O_p rfl rfl rfl ?_
  refine WO_nil ?_
  refine WL_ret ?_
  exact ⟨_, rfl, _, rfl, rfl⟩
end Go.Ev.Seat
