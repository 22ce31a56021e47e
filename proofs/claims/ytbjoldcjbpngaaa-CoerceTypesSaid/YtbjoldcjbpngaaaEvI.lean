/-
  Loads, stores, addresses of elements, lengths: in the model as the evaluator says.
-/
import Derived.Test.YtbjoldcjbpngaaaEvH
set_option linter.unusedVariables false
set_option linter.unusedSimpArgs false
namespace Go.Ev
open Go

theorem range_map_get {α : Type} {n j : Nat} {f : Nat → α} {v : α} (h : ((List.range n).map f)[j]? = some v) : j < n ∧ v = f j := by
  have hj : j < n := by have := (List.getElem?_eq_some_iff.1 h).1; simpa using this
  rw [List.getElem?_eq_getElem (by simpa using hj)] at h
  simp at h
  exact ⟨hj, h.symm⟩

theorem putCells_get {α : Type} {off : Nat} {new cs : List α} (h : off + new.length ≤ cs.length) (j : Nat) :
    (putCells off new cs)[j]? = if j < off then cs[j]? else if j < off + new.length then new[j - off]? else cs[j]? := by
  unfold putCells
  rw [List.append_assoc]
  by_cases h1 : j < off
  · rw [if_pos h1, List.getElem?_append_left (by simp; omega), List.getElem?_take, if_pos h1]
  · rw [if_neg h1, List.getElem?_append_right (by simp; omega)]
    have e1 : (cs.take off).length = off := by simp; omega
    rw [e1]
    by_cases h2 : j < off + new.length
    · rw [if_pos h2, List.getElem?_append_left (by omega)]
    · rw [if_neg h2, List.getElem?_append_right (by omega), List.getElem?_drop]
      congr 1; omega

theorem putCells_take {α : Type} {off n : Nat} {new cs : List α} (h : off + new.length ≤ n) (hn : n ≤ cs.length) : (putCells off new cs).take n = putCells off new (cs.take n) := by
  apply List.ext_getElem?
  intro j
  rw [List.getElem?_take, putCells_get (by omega), putCells_get (by simp; omega)]
  by_cases hj : j < n
  · simp only [hj, if_true, List.getElem?_take]
  · simp only [hj, if_false, List.getElem?_take]
    rw [if_neg (by omega), if_neg (by omega)]

theorem _root_.Nat.div_mul_comm_add (b es : Nat) : b / es * es + b % es = b := by rw [Nat.mul_comm]; exact Nat.div_add_mod b es

section
variable {P : Program} {Γ : Gh} {e : Env} {a : Act}

/-- The cells of a list that is open. -/
theorem open_cells {H : Heap} {w : World} {o l b es f : Nat} {xs : List AVal} {c : Value} (hR : Rel Γ H w) (hb : H[o]? = some (.grow es xs (some f))) (hl : l = xs.length) (hr : Rep Γ (.lptr o l b) c) :
    ∃ g cs ty, c = .pointer (some ⟨g, b, none⟩) ∧ w.heap[g]? = some (.cells cs ty (0, 0)) ∧ (∀ x, x ∈ xs → x.width = es) ∧ Reps Γ (flatL xs) (cs.toList.take (flatL xs).length) ∧ ∀ c, c ∈ cs.toList → c.oneCell' = true := by
  obtain ⟨c', k1, k0, k2, k3⟩ := hR.blk _ _ hb
  rcases k3 with ⟨hbad, _⟩ | ⟨g, cap, cs, ty, rfl, e2, e3, e4, e5, e6, e7, e8, e9, _⟩
  · cases hbad
  · obtain ⟨g', cap', rfl, hT⟩ := hr.lptr_inv
    rw [hl, k1] at hT
    cases hT
    exact ⟨g, cs, ty, rfl, e3, e7, e8, e9⟩

theorem open_get {es b : Nat} {xs : List AVal} {y v : AVal} (h : ∀ x, x ∈ xs → x.width = es) (hy : xs[b / es]? = some y) (hv : y.flat[b % es]? = some v) : (flatL xs)[b]? = some v := by
  have := flatL_get h hy hv
  rwa [Nat.div_mul_comm_add b es] at this

theorem loadS_sound {H : Heap} {w : World} {p v : AVal} {c : Value} {t : TypeId} (hR : Rel Γ H w) (ht : aggB P t = some false) (hv : loadS H p = some v) (hr : Rep Γ p c) :
    ∃ d, (Instr.loadAt t c).run P w = .ok d w ∧ Rep Γ v d := by
  unfold loadS at hv
  split at hv
  · rename_i b off
    split at hv
    · rename_i vs hb
      obtain ⟨g, cs, ty, h1, h2, h3, h4, h5, h6⟩ := hR.cells hb
      obtain ⟨g', rfl, hmu⟩ := hr.ptr_inv
      rw [h1] at hmu; cases hmu
      obtain ⟨d, hd, hrep⟩ := h5.get hv
      refine ⟨d, ?_, hrep⟩
      simp only [Instr.loadAt, Instr.sureAddr, Sem.run_bind, Sem.run_pure, Result.andThen_ok]
      exact run_loadVar_scalar ht (by rw [cell_at h3]; simpa using hd)
    · cases hv
  · rename_i x xs
    cases hv
    obtain ⟨g, off, f, rfl, h1, h2, h3, h4⟩ := hr.ro_inv
    refine ⟨f 0, ?_, h4 0 _ rfl⟩
    simp only [Instr.loadAt, Instr.sureAddr, Sem.run_bind, Sem.run_pure, Result.andThen_ok]
    exact run_loadVar_scalar ht (by have := hR.mem _ _ _ (h2 0 _ rfl); simpa using this)
  · rename_i o l b
    split at hv <;> first | (cases hv; done) | skip
    rename_i es xs f hb
    split at hv <;> first | (cases hv; done) | skip
    rename_i hl
    split at hv <;> first | (cases hv; done) | skip
    rename_i y hy
    obtain ⟨g, cs, ty, rfl, e3, e7, e8, _⟩ := open_cells hR hb hl hr
    obtain ⟨d, hd, hrep⟩ := e8.get (open_get e7 hy hv)
    refine ⟨d, ?_, hrep⟩
    simp only [Instr.loadAt, Instr.sureAddr, Sem.run_bind, Sem.run_pure, Result.andThen_ok]
    refine run_loadVar_scalar ht ?_
    rw [cell_at e3]
    rw [List.getElem?_take] at hd
    split at hd
    · simpa using hd
    · cases hd
  · cases hv

theorem loadA_sound {H : Heap} {w : World} {p v : AVal} {c : Value} {t : TypeId} {n : Nat} (hR : Rel Γ H w) (ht : aggB P t = some true) (hs : sizeB P t n = true) (hv : loadA H n p = some v) (hr : Rep Γ p c) :
    ∃ d, (Instr.loadAt t c).run P w = .ok d w ∧ Rep Γ v d := by
  unfold loadA at hv
  split at hv
  · rename_i b off
    split at hv
    · rename_i vs hb
      split at hv
      · rename_i hle
        cases hv
        obtain ⟨g, cs, ty, h1, h2, h3, h4, h5, h6⟩ := hR.cells hb
        obtain ⟨g', rfl, hmu⟩ := hr.ptr_inv
        rw [h1] at hmu; cases hmu
        have hrr := (h5.drop off).take n
        refine ⟨.agg ((cs.toList.drop off).take n).toArray, ?_, .agg hrr.1 hrr.2 (fun d hd => h6 d (List.mem_of_mem_drop (List.mem_of_mem_take hd)))⟩
        simp only [Instr.loadAt, Instr.sureAddr, Sem.run_bind, Sem.run_pure, Result.andThen_ok]
        refine run_loadVar_agg ht hs (by rw [hrr.1]; simp; omega) ?_
        intro j v hj
        rw [List.getElem?_take] at hj
        split at hj
        · rw [List.getElem?_drop] at hj
          rw [cell_at h3]; simpa using hj
        · cases hj
      · cases hv
    · cases hv
  · rename_i xs
    split at hv
    · rename_i hle
      cases hv
      obtain ⟨g, off, f, rfl, h1, h2, h3, h4⟩ := hr.ro_inv
      refine ⟨.agg ((List.range n).map f).toArray, ?_, ?_⟩
      · simp only [Instr.loadAt, Instr.sureAddr, Sem.run_bind, Sem.run_pure, Result.andThen_ok]
        refine run_loadVar_agg ht hs (by simp) ?_
        intro j v hj
        obtain ⟨hjn, rfl⟩ := range_map_get hj
        exact hR.mem _ _ _ (h2 j _ (List.getElem?_eq_getElem (by omega)))
      · refine .agg (by simp; omega) ?_ ?_
        · intro i x d hx hd
          rw [List.getElem?_take] at hx
          split at hx
          · obtain ⟨_, rfl⟩ := range_map_get hd
            exact h4 i x hx
          · cases hx
        · intro d hd
          simp only [List.mem_map, List.mem_range] at hd
          obtain ⟨i, hi, rfl⟩ := hd
          exact h3 i _ (List.getElem?_eq_getElem (by omega))
    · cases hv
  · rename_i o l b
    split at hv <;> first | (cases hv; done) | skip
    rename_i es xs f hb
    split at hv <;> first | (cases hv; done) | skip
    rename_i hl
    split at hv <;> first | (cases hv; done) | skip
    rename_i y hy
    cases hv
    obtain ⟨g, cs, ty, rfl, e3, e7, e8, e9⟩ := open_cells hR hb hl.1 hr
    have hyw : y.flat.length = es := e7 y (List.mem_of_getElem? hy)
    have hdt : (y.flat.drop (b % es)).take n = ((flatL xs).drop b).take n := by
      apply List.ext_getElem?
      intro j
      rw [List.getElem?_take, List.getElem?_take]
      split
      · rename_i hj
        rw [List.getElem?_drop, List.getElem?_drop]
        have hlt : b % es + j < y.flat.length := by omega
        have h1 := flatL_get e7 hy (List.getElem?_eq_getElem hlt)
        rw [List.getElem?_eq_getElem hlt, ← h1, ← Nat.add_assoc, Nat.div_mul_comm_add b es]
      · rfl
    rw [hdt]
    have hrr := (e8.drop b).take n
    have hlen : b + n ≤ (flatL xs).length := by
      rw [flatL_length e7]
      have h1 : b / es < xs.length := (List.getElem?_eq_some_iff.1 hy).1
      have h2 : (b / es + 1) * es ≤ xs.length * es := Nat.mul_le_mul_right _ h1
      rw [Nat.add_mul] at h2
      have h3 := Nat.div_mul_comm_add b es
      omega
    refine ⟨.agg (((cs.toList.take (flatL xs).length).drop b).take n).toArray, ?_, .agg hrr.1 hrr.2 (fun d hd => e9 d (List.mem_of_mem_take (List.mem_of_mem_drop (List.mem_of_mem_take hd))))⟩
    simp only [Instr.loadAt, Instr.sureAddr, Sem.run_bind, Sem.run_pure, Result.andThen_ok]
    refine run_loadVar_agg ht hs (by rw [hrr.1]; simp; omega) ?_
    intro j v hj
    rw [List.getElem?_take] at hj
    split at hj
    · rw [List.getElem?_drop, List.getElem?_take] at hj
      split at hj
      · rw [cell_at e3]; simpa using hj
      · cases hj
    · cases hj
  · cases hv

theorem lds_sound {o : Oper} {C : Ctx} {id : Nat} {x : AOpd} {v : AVal} {H H' : Heap} {w : World} (he : EnvRel Γ e a.tmps) (hR : Rel Γ H w) (hk : chkH P (.lds x) o.op = true)
    (hv : evH C e id H (.lds x) = some (.ok v, H')) : Done P o a w Γ v H' := by
  obtain ⟨dst, op, ty, pos, after, guard⟩ := o
  simp only at hk
  cases op <;> simp only [chkH, Bool.false_eq_true, Bool.and_eq_true, decide_eq_true_eq] at hk
  rename_i t y
  simp only [evH] at hv
  split at hv
  · rename_i p hp
    unfold okv at hv
    split at hv
    · rename_i u hu
      simp only [Option.some.injEq, Prod.mk.injEq, Ex.ok.injEq] at hv
      obtain ⟨rfl, rfl⟩ := hv
      obtain ⟨d, hd, hrep⟩ := loadS_sound hR hk.2 hu (ev_rep he hk.1 hp)
      exact Done.same hR (exec_v rfl hd) hrep
    · cases hv
  · cases hv

theorem lda_sound {o : Oper} {C : Ctx} {id n : Nat} {x : AOpd} {v : AVal} {H H' : Heap} {w : World} (he : EnvRel Γ e a.tmps) (hR : Rel Γ H w) (hk : chkH P (.lda n x) o.op = true)
    (hv : evH C e id H (.lda n x) = some (.ok v, H')) : Done P o a w Γ v H' := by
  obtain ⟨dst, op, ty, pos, after, guard⟩ := o
  simp only at hk
  cases op <;> simp only [chkH, Bool.false_eq_true, Bool.and_eq_true, decide_eq_true_eq] at hk
  rename_i t y
  simp only [evH] at hv
  split at hv
  · rename_i p hp
    unfold okv at hv
    split at hv
    · rename_i u hu
      simp only [Option.some.injEq, Prod.mk.injEq, Ex.ok.injEq] at hv
      obtain ⟨rfl, rfl⟩ := hv
      obtain ⟨d, hd, hrep⟩ := loadA_sound hR hk.1.2 hk.2 hu (ev_rep he hk.1.1 hp)
      exact Done.same hR (exec_v rfl hd) hrep
    · cases hv
  · cases hv

/-- The ghost where a list's cells become memory for good. -/
def Gh.shutM (Γ : Gh) (g n : Nat) (cs : Array Value) : Gh := { Γ with M := fun k j => if k = g then (if j < n then cs[j]? else none) else Γ.M k j }

theorem storeA_sound {H H' : Heap} {w : World} {p v : AVal} {c d : Value} {t : TypeId} {n : Nat} (hR : Rel Γ H w) (hs : sizeB P t n = true) (hv : storeA H n p v = some H') (hr : Rep Γ p c) (hd : Rep Γ v d) :
    ∃ w' Γ', (Instr.storeAt t c d).run P w = .ok () w' ∧ Rel Γ' H' w' ∧ Stp Γ w Γ' w' := by
  unfold storeA at hv
  split at hv
  · rename_i hw
    have ht : ∀ vs, v ≠ .tup vs := by intro vs hvs; subst hvs; simp [AVal.solid] at hw
    have hone := hd.cells_one ht
    have hcells := hd.cells
    have hlen : d.cells.size = n := by
      have := hcells.1
      simp at this
      rw [this]; exact hw.2
    split at hv
    · rename_i b off
      split at hv
      · rename_i vs hb
        split at hv
        · rename_i hle
          cases hv
          obtain ⟨g, cs, ty, h1, h2, h3, h4, h5, h6⟩ := hR.cells hb
          obtain ⟨g', rfl, hmu⟩ := hr.ptr_inv
          rw [h1] at hmu; cases hmu
          have hcl : cs.size = vs.length := by have := h5.1; simpa using this
          obtain ⟨r1, r2⟩ := hR.writeCells (vs' := putCells off v.flat vs) (cs' := (putCells off d.cells.toList cs.toList).toArray) hb h1 h2 h3 h4 (by simpa using h5.put off hcells) (by
            intro c hc
            simp only [putCells, List.mem_append] at hc
            rcases hc with (hc | hc) | hc
            · exact h6 c (List.mem_of_mem_take hc)
            · exact hone c hc
            · exact h6 c (List.mem_of_mem_drop hc))
          refine ⟨_, Γ, ?_, r1, r2⟩
          simp only [Instr.storeAt, Instr.sureAddr, Sem.run_bind, Sem.run_pure, Result.andThen_ok]
          exact run_storeVar hs hlen hone h3 (by omega)
        · cases hv
      · cases hv
    · rename_i o l b
      split at hv
      · rename_i es xs f hb
        split at hv
        · rename_i v' hsv
          split at hv
          · rename_i hc
            cases hv
            obtain ⟨hfi, hil, hbb, hn, hvw⟩ := hc
            have hes : es = n := hn.symm
            subst hes
            subst hbb
            obtain ⟨c', k1, k0, k2, k3⟩ := hR.blk _ _ hb
            obtain ⟨i, rfl⟩ : ∃ i, l = i + 1 := ⟨l - 1, by omega⟩
            simp only [Nat.add_sub_cancel] at hr ⊢
            have hfi : f ≤ i := by omega
            have hin : i < xs.length := by omega
            rcases k3 with ⟨hbad, _⟩ | ⟨g, cap, cs, ty, rfl, e2, e3, e4, e5, e6, e7, e8, e9, e10, e11, e12⟩
            · cases hbad
            · have hp : c = .pointer (some ⟨g, i * es, none⟩) := by
                obtain ⟨g', cap', rfl, hT⟩ := hr.lptr_inv
                rw [hil, k1] at hT
                cases hT; rfl
              subst hp
              obtain ⟨hrv', hfree, _⟩ := shut_both hR v v' d hsv hd
              have hcv := hrv'.cells
              simp only [Option.getD_some] at e10 e11 e12
              have hfl := flatL_length e7
              have hcap : i * es + es ≤ cs.size := by
                rw [e5]
                have : (i + 1) * es ≤ cap * es := Nat.mul_le_mul_right _ (by omega)
                rw [Nat.add_mul] at this; omega
              have hw' : ∀ x, x ∈ xs.set i v' → x.width = es := by
                intro z hz
                rcases List.mem_or_eq_of_mem_set hz with hz | hz
                · exact e7 z hz
                · subst hz; exact hvw
              have hf' : ∀ x, x ∈ xs.set i v' → rfree x := by
                intro z hz
                rcases List.mem_or_eq_of_mem_set hz with hz | hz
                · exact k2 z hz
                · subst hz; exact hfree
              let cs' : Array Value := (putCells (i * es) d.cells.toList cs.toList).toArray
              have hcs' : cs'.toList = putCells (i * es) d.cells.toList cs.toList := by simp [cs']
              have hsz' : cs'.size = cs.size := by
                have := putCells_length (i * es) d.cells.toList cs.toList (by simp [hlen]; omega)
                simpa [cs'] using this
              have hold : ∀ j, j < i * es → cs'[j]? = cs[j]? := by
                intro j hj
                have : cs'.toList[j]? = cs.toList[j]? := by
                  rw [hcs', putCells, List.append_assoc, List.getElem?_append_left (by simp; omega), List.getElem?_take, if_pos hj]
                simpa using this
              have hle : Γ.le (Γ.shutM g (xs.length * es) cs') := by
                refine ⟨?_, fun _ _ h => h, fun _ _ _ h => h⟩
                intro k j c hm
                simp only [Gh.shutM]
                split
                · rename_i ek; subst ek
                  by_cases hj : j < f * es
                  · have hfi' : f * es ≤ i * es := Nat.mul_le_mul_right _ hfi
                    have hli : i * es ≤ xs.length * es := Nat.mul_le_mul_right _ (by omega)
                    rw [if_pos (by omega), hold j (by omega), ← e11 j hj]
                    exact hm
                  · rw [e12 j (by omega)] at hm; cases hm
                · exact hm
              have hflen : (flatL (xs.set i v')).length = xs.length * es := by
                rw [flatL_length hw']; simp
              have hreps : Reps Γ (flatL (xs.set i v')) (cs'.toList.take (flatL (xs.set i v')).length) := by
                rw [hflen, flatL_set e7 hvw hin]
                have hh := (e8.put (i * es) hcv)
                have : (putCells (i * es) d.cells.toList cs.toList).take (xs.length * es) = putCells (i * es) d.cells.toList (cs.toList.take (flatL xs).length) := by
                  rw [hfl]
                  have l1 : (i + 1) * es ≤ xs.length * es := Nat.mul_le_mul_right _ (by omega)
                  rw [Nat.add_mul] at l1
                  have l2 : d.cells.toList.length = es := by simpa using hlen
                  have l3 : xs.length * es ≤ cap * es := Nat.mul_le_mul_right _ e4
                  exact putCells_take (by omega) (by simp; omega)
                rw [hcs', this]
                exact hh
              obtain ⟨r1, r2⟩ := hR.write (Γ' := Γ.shutM g (xs.length * es) cs') (B := .grow es (xs.set i v') none) (o := .cells cs' ty) (w' := w.setRow g cs') hb e2 hle (fun _ => rfl) (fun _ _ => ⟨rfl, fun _ => rfl⟩)
                (fun k j hk => by simp [Gh.shutM, hk]) (setRow_get_same w g cs cs' ty (0, 0) e3) (fun k hk => setRow_get_other w g k cs' hk) (setRow_size w g cs') rfl rfl rfl
                (fun j c hm => by
                  simp only [Gh.shutM, if_true] at hm
                  rw [cell_at (setRow_get_same w g cs cs' ty (0, 0) e3)]
                  split at hm
                  · exact hm
                  · cases hm)
                ⟨_, by rw [List.length_set]; exact k1, by rw [List.length_set]; exact k0, hf', .inr ⟨g, cap, cs', ty, by simp, e2, setRow_get_same w g cs cs' ty (0, 0) e3, by simpa using e4, hsz'.trans e5, e6, hw', hreps.mono hle, by
                    intro c hc
                    rw [hcs'] at hc
                    simp only [putCells, List.mem_append] at hc
                    rcases hc with (hc | hc) | hc
                    · exact e9 c (List.mem_of_mem_take hc)
                    · exact hone c hc
                    · exact e9 c (List.mem_of_mem_drop hc), by simp, fun j hj => by simp at hj; simp [Gh.shutM, hj], fun j hj => by simp at hj; simp [Gh.shutM]; omega⟩⟩
              refine ⟨_, _, ?_, r1, r2⟩
              simp only [Instr.storeAt, Instr.sureAddr, Sem.run_bind, Sem.run_pure, Result.andThen_ok]
              exact run_storeVar hs hlen hone e3 hcap
          · cases hv
        · cases hv
      · cases hv
    · cases hv
  · cases hv

theorem putEl_flat {off : Nat} {v y : AVal} (h0 : 0 < v.flat.length) (h : off + v.flat.length ≤ y.flat.length) : (putEl off v y).flat = putCells off v.flat y.flat := by
  cases y with
  | agg cs => rfl
  | _ =>
    have h' : off + v.flat.length ≤ 1 := h
    have e1 : off = 0 := by omega
    have e2 : v.flat.length = 1 := by omega
    subst e1
    simp only [putEl, putCells, List.take_zero, List.nil_append, Nat.zero_add, e2]
    simp [AVal.flat]

theorem putEl_width {off es : Nat} {v y : AVal} (hy : y.width = es) (h : (putEl off v y).flat = putCells off v.flat y.flat) (hle : off + v.flat.length ≤ es) : (putEl off v y).width = es := by
  show (putEl off v y).flat.length = es
  rw [h, putCells_length _ _ _ (by show off + v.flat.length ≤ y.width; omega)]
  exact hy

theorem putEl_rfree {off : Nat} {v y : AVal} (hv : rfree v) (hy : rfree y) : rfree (putEl off v y) := by
  unfold putEl
  split
  · refine lowL_iff.2 ?_
    intro c hc
    simp only [putCells, List.mem_append] at hc
    rcases hc with (hc | hc) | hc
    · exact rfree_flat hy c (List.mem_of_mem_take hc)
    · exact rfree_flat hv c hc
    · exact rfree_flat hy c (List.mem_of_mem_drop hc)
  · exact hv

theorem storeK_sound {H H' : Heap} {w : World} {p v : AVal} {c d : Value} {t : TypeId} {n : Nat} (hR : Rel Γ H w) (hs : sizeB P t n = true) (hv : storeK H n p v = some H') (hr : Rep Γ p c) (hd : Rep Γ v d) :
    ∃ w' Γ', (Instr.storeAt t c d).run P w = .ok () w' ∧ Rel Γ' H' w' ∧ Stp Γ w Γ' w' := by
  unfold storeK at hv
  split at hv <;> first | (cases hv; done) | skip
  rename_i hw
  have ht : ∀ vs, v ≠ .tup vs := by intro vs hvs; subst hvs; simp [AVal.solid] at hw
  have hone := hd.cells_one ht
  have hcells := hd.cells
  have hlen : d.cells.size = n := by
    have := hcells.1
    simp at this
    rw [this]; exact hw.2
  split at hv <;> first | (cases hv; done) | skip
  rename_i o l b
  split at hv <;> first | (cases hv; done) | skip
  rename_i es xs f hb
  split at hv <;> first | (cases hv; done) | skip
  rename_i v' hsv
  split at hv <;> first | (cases hv; done) | skip
  rename_i y hy
  split at hv <;> first | (cases hv; done) | skip
  rename_i hc
  cases hv
  obtain ⟨hfi, hil, hoff, hn0⟩ := hc
  obtain ⟨c', k1, k0, k2, k3⟩ := hR.blk _ _ hb
  have hin : b / es < xs.length := (List.getElem?_eq_some_iff.1 hy).1
  have hym := List.mem_of_getElem? hy
  have hbe := Nat.div_mul_comm_add b es
  generalize hi : b / es = i at *
  generalize ho : b % es = off at *
  rcases k3 with ⟨hbad, _⟩ | ⟨g, cap, cs, ty, rfl, e2, e3, e4, e5, e6, e7, e8, e9, e10, e11, e12⟩
  · cases hbad
  · have hp : c = .pointer (some ⟨g, b, none⟩) := by
      obtain ⟨g', cap', rfl, hT⟩ := hr.lptr_inv
      rw [hil, k1] at hT
      cases hT; rfl
    subst hp
    obtain ⟨hrv', hfree, _⟩ := shut_both hR v v' d hsv hd
    have hcv := hrv'.cells
    have hvl : v'.flat.length = n := by have := hcv.1; simp at this; omega
    simp only [Option.getD_some] at e10 e11 e12
    have hfl := flatL_length e7
    have hyw := e7 y hym
    have hput := putEl_flat (off := off) (v := v') (y := y) (by omega) (by have : y.flat.length = es := hyw; omega)
    have hpw : (putEl off v' y).width = es := putEl_width hyw hput (by omega)
    have hw' : ∀ x, x ∈ xs.set i (putEl off v' y) → x.width = es := by
      intro z hz
      rcases List.mem_or_eq_of_mem_set hz with hz | hz
      · exact e7 z hz
      · subst hz; exact hpw
    have hf' : ∀ x, x ∈ xs.set i (putEl off v' y) → rfree x := by
      intro z hz
      rcases List.mem_or_eq_of_mem_set hz with hz | hz
      · exact k2 z hz
      · subst hz; exact putEl_rfree hfree (k2 y hym)
    have hli : (i + 1) * es ≤ xs.length * es := Nat.mul_le_mul_right _ hin
    rw [Nat.add_mul] at hli
    have hlc : xs.length * es ≤ cap * es := Nat.mul_le_mul_right _ e4
    have hcap : b + n ≤ cs.size := by omega
    let cs' : Array Value := (putCells b d.cells.toList cs.toList).toArray
    have hcs' : cs'.toList = putCells b d.cells.toList cs.toList := by simp [cs']
    have hsz' : cs'.size = cs.size := by
      have := putCells_length b d.cells.toList cs.toList (by simp [hlen]; omega)
      simpa [cs'] using this
    have hfi' : f * es ≤ i * es := Nat.mul_le_mul_right _ hfi
    have hold : ∀ j, j < f * es → cs'[j]? = cs[j]? := by
      intro j hj
      have : cs'.toList[j]? = cs.toList[j]? := by
        rw [hcs', putCells, List.append_assoc, List.getElem?_append_left (by simp; omega), List.getElem?_take, if_pos (by omega)]
      simpa using this
    have hflat : flatL (xs.set i (putEl off v' y)) = putCells b v'.flat (flatL xs) := by
      rw [flatL_set e7 hpw hin, hput]
      apply List.ext_getElem?
      intro j
      have hyl : y.flat.length = es := hyw
      rw [putCells_get (off := i * es) (by rw [putCells_length _ _ _ (by omega), hyl, hfl]; omega), putCells_get (off := b) (cs := flatL xs) (by rw [hfl]; omega), putCells_length _ _ _ (by omega), hyl]
      by_cases h1 : j < i * es
      · rw [if_pos h1, if_pos (by omega)]
      · rw [if_neg h1]
        by_cases h2 : j < i * es + es
        · rw [if_pos h2, putCells_get (by omega)]
          by_cases h3 : j - i * es < off
          · rw [if_pos h3, if_pos (by omega)]
            have := flatL_get e7 hy (List.getElem?_eq_getElem (show j - i * es < y.flat.length by omega))
            rw [List.getElem?_eq_getElem (show j - i * es < y.flat.length by omega), ← this]
            congr 1; omega
          · rw [if_neg h3]
            by_cases h4 : j - i * es < off + v'.flat.length
            · rw [if_pos h4, if_neg (by omega), if_pos (by omega)]
              congr 1; omega
            · rw [if_neg h4, if_neg (by omega), if_neg (by omega)]
              have := flatL_get e7 hy (List.getElem?_eq_getElem (show j - i * es < y.flat.length by omega))
              rw [List.getElem?_eq_getElem (show j - i * es < y.flat.length by omega), ← this]
              congr 1; omega
        · rw [if_neg h2, if_neg (by omega), if_neg (by omega)]
    have hflen : (flatL (xs.set i (putEl off v' y))).length = xs.length * es := by
      rw [flatL_length hw']; simp
    have hreps : Reps Γ (flatL (xs.set i (putEl off v' y))) (cs'.toList.take (flatL (xs.set i (putEl off v' y))).length) := by
      rw [hflen, hflat]
      have hh := (e8.put b hcv)
      have : (putCells b d.cells.toList cs.toList).take (xs.length * es) = putCells b d.cells.toList (cs.toList.take (flatL xs).length) := by
        rw [hfl]
        have l2 : d.cells.toList.length = n := by simpa using hlen
        exact putCells_take (by omega) (by simp; omega)
      rw [hcs', this]
      exact hh
    obtain ⟨r1, r2⟩ := hR.write (Γ' := Γ) (B := .grow es (xs.set i (putEl off v' y)) (some f)) (o := .cells cs' ty) (w' := w.setRow g cs') hb e2 (.refl Γ) (fun _ => rfl) (fun _ _ => ⟨rfl, fun _ => rfl⟩)
      (fun k j hk => rfl) (setRow_get_same w g cs cs' ty (0, 0) e3) (fun k hk => setRow_get_other w g k cs' hk) (setRow_size w g cs') rfl rfl rfl
      (fun j c hm => by
        rw [cell_at (setRow_get_same w g cs cs' ty (0, 0) e3)]
        by_cases hj : j < f * es
        · rw [hold j hj, ← e11 j hj]; exact hm
        · rw [e12 j (by omega)] at hm; cases hm)
      ⟨_, by rw [List.length_set]; exact k1, by rw [List.length_set]; exact k0, hf', .inr ⟨g, cap, cs', ty, by simp, e2, setRow_get_same w g cs cs' ty (0, 0) e3, by simpa using e4, hsz'.trans e5, e6, hw', hreps, by
          intro c hc
          rw [hcs'] at hc
          simp only [putCells, List.mem_append] at hc
          rcases hc with (hc | hc) | hc
          · exact e9 c (List.mem_of_mem_take hc)
          · exact hone c hc
          · exact e9 c (List.mem_of_mem_drop hc), by simpa using e10, fun j hj => by simp only [Option.getD_some] at hj; rw [hold j hj]; exact e11 j hj, fun j hj => e12 j (by simpa using hj)⟩⟩
    refine ⟨_, _, ?_, r1, r2⟩
    simp only [Instr.storeAt, Instr.sureAddr, Sem.run_bind, Sem.run_pure, Result.andThen_ok]
    exact run_storeVar hs hlen hone e3 hcap
end

end Go.Ev
