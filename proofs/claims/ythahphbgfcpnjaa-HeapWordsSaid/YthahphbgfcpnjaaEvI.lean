/-
  Loads, stores, addresses of elements, lengths: in the model as the evaluator says.
-/
import Derived.Test.YthahphbgfcpnjaaEvH
set_option linter.unusedVariables false
set_option linter.unusedSimpArgs false
namespace Go.Ev
open Go

theorem range_map_get {α : Type} {n j : Nat} {f : Nat → α} {v : α} (h : ((List.range n).map f)[j]? = some v) : j < n ∧ v = f j := by
  have hj : j < n := by have := (List.getElem?_eq_some_iff.1 h).1; simpa using this
  rw [List.getElem?_eq_getElem (by simpa using hj)] at h
  simp at h
  exact ⟨hj, h.symm⟩

theorem putCells_get {α : Type} {off : Nat} {new cs : List α} (h : off + new.length ≤ cs.length) (j : Nat) :
    (putCells off new cs)[j]? = if j < off then cs[j]? else if j < off + new.length then new[j - off]? else cs[j]? := by
  unfold putCells
  rw [List.append_assoc]
  by_cases h1 : j < off
  · rw [if_pos h1, List.getElem?_append_left (by simp; omega), List.getElem?_take, if_pos h1]
  · rw [if_neg h1, List.getElem?_append_right (by simp; omega)]
    have e1 : (cs.take off).length = off := by simp; omega
    rw [e1]
    by_cases h2 : j < off + new.length
    · rw [if_pos h2, List.getElem?_append_left (by omega)]
    · rw [if_neg h2, List.getElem?_append_right (by omega), List.getElem?_drop]
      congr 1; omega

theorem putCells_take {α : Type} {off n : Nat} {new cs : List α} (h : off + new.length ≤ n) (hn : n ≤ cs.length) : (putCells off new cs).take n = putCells off new (cs.take n) := by
  apply List.ext_getElem?
  intro j
  rw [List.getElem?_take, putCells_get (by omega), putCells_get (by simp; omega)]
  by_cases hj : j < n
  · simp only [hj, if_true, List.getElem?_take]
  · simp only [hj, if_false, List.getElem?_take]
    rw [if_neg (by omega), if_neg (by omega)]

section
variable {P : Program} {Γ : Gh} {e : Env} {a : Act}

theorem loadS_sound {H : Heap} {w : World} {p v : AVal} {c : Value} {t : TypeId} (hR : Rel Γ H w) (ht : aggB P t = some false) (hv : loadS H p = some v) (hr : Rep Γ p c) :
    ∃ d, (Instr.loadAt t c).run P w = .ok d w ∧ Rep Γ v d := by
  unfold loadS at hv
  split at hv
  · rename_i b off
    split at hv
    · rename_i vs hb
      obtain ⟨g, cs, ty, h1, h2, h3, h4, h5, h6⟩ := hR.cells hb
      obtain ⟨g', rfl, hmu⟩ := hr.ptr_inv
      rw [h1] at hmu; cases hmu
      obtain ⟨d, hd, hrep⟩ := h5.get hv
      refine ⟨d, ?_, hrep⟩
      simp only [Instr.loadAt, Instr.sureAddr, Sem.run_bind, Sem.run_pure, Result.andThen_ok]
      exact run_loadVar_scalar ht (by rw [cell_at h3]; simpa using hd)
    · cases hv
  · rename_i x xs
    cases hv
    obtain ⟨g, off, f, rfl, h1, h2, h3, h4⟩ := hr.ro_inv
    refine ⟨f 0, ?_, h4 0 _ rfl⟩
    simp only [Instr.loadAt, Instr.sureAddr, Sem.run_bind, Sem.run_pure, Result.andThen_ok]
    exact run_loadVar_scalar ht (by have := hR.mem _ _ _ (h2 0 _ rfl); simpa using this)
  · cases hv

theorem loadA_sound {H : Heap} {w : World} {p v : AVal} {c : Value} {t : TypeId} {n : Nat} (hR : Rel Γ H w) (ht : aggB P t = some true) (hs : sizeB P t n = true) (hv : loadA H n p = some v) (hr : Rep Γ p c) :
    ∃ d, (Instr.loadAt t c).run P w = .ok d w ∧ Rep Γ v d := by
  unfold loadA at hv
  split at hv
  · rename_i b off
    split at hv
    · rename_i vs hb
      split at hv
      · rename_i hle
        cases hv
        obtain ⟨g, cs, ty, h1, h2, h3, h4, h5, h6⟩ := hR.cells hb
        obtain ⟨g', rfl, hmu⟩ := hr.ptr_inv
        rw [h1] at hmu; cases hmu
        have hrr := (h5.drop off).take n
        refine ⟨.agg ((cs.toList.drop off).take n).toArray, ?_, .agg hrr.1 hrr.2 (fun d hd => h6 d (List.mem_of_mem_drop (List.mem_of_mem_take hd)))⟩
        simp only [Instr.loadAt, Instr.sureAddr, Sem.run_bind, Sem.run_pure, Result.andThen_ok]
        refine run_loadVar_agg ht hs (by rw [hrr.1]; simp; omega) ?_
        intro j v hj
        rw [List.getElem?_take] at hj
        split at hj
        · rw [List.getElem?_drop] at hj
          rw [cell_at h3]; simpa using hj
        · cases hj
      · cases hv
    · cases hv
  · rename_i xs
    split at hv
    · rename_i hle
      cases hv
      obtain ⟨g, off, f, rfl, h1, h2, h3, h4⟩ := hr.ro_inv
      refine ⟨.agg ((List.range n).map f).toArray, ?_, ?_⟩
      · simp only [Instr.loadAt, Instr.sureAddr, Sem.run_bind, Sem.run_pure, Result.andThen_ok]
        refine run_loadVar_agg ht hs (by simp) ?_
        intro j v hj
        obtain ⟨hjn, rfl⟩ := range_map_get hj
        exact hR.mem _ _ _ (h2 j _ (List.getElem?_eq_getElem (by omega)))
      · refine .agg (by simp; omega) ?_ ?_
        · intro i x d hx hd
          rw [List.getElem?_take] at hx
          split at hx
          · obtain ⟨_, rfl⟩ := range_map_get hd
            exact h4 i x hx
          · cases hx
        · intro d hd
          simp only [List.mem_map, List.mem_range] at hd
          obtain ⟨i, hi, rfl⟩ := hd
          exact h3 i _ (List.getElem?_eq_getElem (by omega))
    · cases hv
  · cases hv

theorem lds_sound {o : Oper} {C : Ctx} {id : Nat} {x : AOpd} {v : AVal} {H H' : Heap} {w : World} (he : EnvRel Γ e a.tmps) (hR : Rel Γ H w) (hk : chkH P (.lds x) o.op = true)
    (hv : evH C e id H (.lds x) = some (.ok v, H')) : Done P o a w Γ v H' := by
  obtain ⟨dst, op, ty, pos, after, guard⟩ := o
  simp only at hk
  cases op <;> simp only [chkH, Bool.false_eq_true, Bool.and_eq_true, decide_eq_true_eq] at hk
  rename_i t y
  simp only [evH] at hv
  split at hv
  · rename_i p hp
    unfold okv at hv
    split at hv
    · rename_i u hu
      simp only [Option.some.injEq, Prod.mk.injEq, Ex.ok.injEq] at hv
      obtain ⟨rfl, rfl⟩ := hv
      obtain ⟨d, hd, hrep⟩ := loadS_sound hR hk.2 hu (ev_rep he hk.1 hp)
      exact Done.same hR (exec_v rfl hd) hrep
    · cases hv
  · cases hv

theorem lda_sound {o : Oper} {C : Ctx} {id n : Nat} {x : AOpd} {v : AVal} {H H' : Heap} {w : World} (he : EnvRel Γ e a.tmps) (hR : Rel Γ H w) (hk : chkH P (.lda n x) o.op = true)
    (hv : evH C e id H (.lda n x) = some (.ok v, H')) : Done P o a w Γ v H' := by
  obtain ⟨dst, op, ty, pos, after, guard⟩ := o
  simp only at hk
  cases op <;> simp only [chkH, Bool.false_eq_true, Bool.and_eq_true, decide_eq_true_eq] at hk
  rename_i t y
  simp only [evH] at hv
  split at hv
  · rename_i p hp
    unfold okv at hv
    split at hv
    · rename_i u hu
      simp only [Option.some.injEq, Prod.mk.injEq, Ex.ok.injEq] at hv
      obtain ⟨rfl, rfl⟩ := hv
      obtain ⟨d, hd, hrep⟩ := loadA_sound hR hk.1.2 hk.2 hu (ev_rep he hk.1.1 hp)
      exact Done.same hR (exec_v rfl hd) hrep
    · cases hv
  · cases hv

/-- The ghost where a list's cells become memory for good. -/
def Gh.shutM (Γ : Gh) (g n : Nat) (cs : Array Value) : Gh := { Γ with M := fun k j => if k = g then (if j < n then cs[j]? else none) else Γ.M k j }

theorem storeA_sound {H H' : Heap} {w : World} {p v : AVal} {c d : Value} {t : TypeId} {n : Nat} (hR : Rel Γ H w) (hs : sizeB P t n = true) (hv : storeA H n p v = some H') (hr : Rep Γ p c) (hd : Rep Γ v d) :
    ∃ w' Γ', (Instr.storeAt t c d).run P w = .ok () w' ∧ Rel Γ' H' w' ∧ Stp Γ w Γ' w' := by
  unfold storeA at hv
  split at hv
  · rename_i hw
    have ht : ∀ vs, v ≠ .tup vs := by intro vs hvs; subst hvs; simp [AVal.solid] at hw
    have hone := hd.cells_one ht
    have hcells := hd.cells
    have hlen : d.cells.size = n := by
      have := hcells.1
      simp at this
      rw [this]; exact hw.2
    split at hv
    · rename_i b off
      split at hv
      · rename_i vs hb
        split at hv
        · rename_i hle
          cases hv
          obtain ⟨g, cs, ty, h1, h2, h3, h4, h5, h6⟩ := hR.cells hb
          obtain ⟨g', rfl, hmu⟩ := hr.ptr_inv
          rw [h1] at hmu; cases hmu
          have hcl : cs.size = vs.length := by have := h5.1; simpa using this
          obtain ⟨r1, r2⟩ := hR.writeCells (vs' := putCells off v.flat vs) (cs' := (putCells off d.cells.toList cs.toList).toArray) hb h1 h2 h3 h4 (by simpa using h5.put off hcells) (by
            intro c hc
            simp only [putCells, List.mem_append] at hc
            rcases hc with (hc | hc) | hc
            · exact h6 c (List.mem_of_mem_take hc)
            · exact hone c hc
            · exact h6 c (List.mem_of_mem_drop hc))
          refine ⟨_, Γ, ?_, r1, r2⟩
          simp only [Instr.storeAt, Instr.sureAddr, Sem.run_bind, Sem.run_pure, Result.andThen_ok]
          exact run_storeVar hs hlen hone h3 (by omega)
        · cases hv
      · cases hv
    · rename_i o i wd
      split at hv
      · rename_i es xs f hb
        split at hv
        · rename_i v' hsv
          split at hv
          · rename_i hc
            cases hv
            obtain ⟨hfi, hil, rfl, hvw, hxw⟩ := hc
            obtain ⟨c', k1, k0, k2, k3⟩ := hR.blk _ _ hb
            have hin : i < xs.length := by omega
            rcases k3 with ⟨hbad, _⟩ | ⟨g, cap, cs, ty, rfl, e2, e3, e4, e5, e6, e7, e8, e9, e10, e11, e12⟩
            · cases hbad
            · have hp : c = .pointer (some ⟨g, i * n, none⟩) := by
                cases hr with | lptr hT =>
                rw [hil, k1] at hT
                cases hT; rfl
              subst hp
              have hes : es = n := by
                rw [List.getElem?_eq_getElem hin] at hxw
                simp at hxw
                rw [← hxw]; exact (e7 _ (List.getElem_mem hin)).symm
              subst hes
              obtain ⟨hrv', hfree, _⟩ := shut_both hR v v' d hsv hd
              have hcv := hrv'.cells
              simp only [Option.getD_some] at e10 e11 e12
              have hfl := flatL_length e7
              have hcap : i * es + es ≤ cs.size := by
                rw [e5]
                have : (i + 1) * es ≤ cap * es := Nat.mul_le_mul_right _ (by omega)
                rw [Nat.add_mul] at this; omega
              have hw' : ∀ x, x ∈ xs.set i v' → x.width = es := by
                intro z hz
                rcases List.mem_or_eq_of_mem_set hz with hz | hz
                · exact e7 z hz
                · subst hz; exact hvw
              have hf' : ∀ x, x ∈ xs.set i v' → rfree x := by
                intro z hz
                rcases List.mem_or_eq_of_mem_set hz with hz | hz
                · exact k2 z hz
                · subst hz; exact hfree
              let cs' : Array Value := (putCells (i * es) d.cells.toList cs.toList).toArray
              have hcs' : cs'.toList = putCells (i * es) d.cells.toList cs.toList := by simp [cs']
              have hsz' : cs'.size = cs.size := by
                have := putCells_length (i * es) d.cells.toList cs.toList (by simp [hlen]; omega)
                simpa [cs'] using this
              have hold : ∀ j, j < i * es → cs'[j]? = cs[j]? := by
                intro j hj
                have : cs'.toList[j]? = cs.toList[j]? := by
                  rw [hcs', putCells, List.append_assoc, List.getElem?_append_left (by simp; omega), List.getElem?_take, if_pos hj]
                simpa using this
              have hle : Γ.le (Γ.shutM g (xs.length * es) cs') := by
                refine ⟨?_, fun _ _ h => h, fun _ _ _ h => h⟩
                intro k j c hm
                simp only [Gh.shutM]
                split
                · rename_i ek; subst ek
                  by_cases hj : j < f * es
                  · have hfi' : f * es ≤ i * es := Nat.mul_le_mul_right _ hfi
                    have hli : i * es ≤ xs.length * es := Nat.mul_le_mul_right _ (by omega)
                    rw [if_pos (by omega), hold j (by omega), ← e11 j hj]
                    exact hm
                  · rw [e12 j (by omega)] at hm; cases hm
                · exact hm
              have hflen : (flatL (xs.set i v')).length = xs.length * es := by
                rw [flatL_length hw']; simp
              have hreps : Reps Γ (flatL (xs.set i v')) (cs'.toList.take (flatL (xs.set i v')).length) := by
                rw [hflen, flatL_set e7 hvw hin]
                have hh := (e8.put (i * es) hcv)
                have : (putCells (i * es) d.cells.toList cs.toList).take (xs.length * es) = putCells (i * es) d.cells.toList (cs.toList.take (flatL xs).length) := by
                  rw [hfl]
                  have l1 : (i + 1) * es ≤ xs.length * es := Nat.mul_le_mul_right _ (by omega)
                  rw [Nat.add_mul] at l1
                  have l2 : d.cells.toList.length = es := by simpa using hlen
                  have l3 : xs.length * es ≤ cap * es := Nat.mul_le_mul_right _ e4
                  exact putCells_take (by omega) (by simp; omega)
                rw [hcs', this]
                exact hh
              obtain ⟨r1, r2⟩ := hR.write (Γ' := Γ.shutM g (xs.length * es) cs') (B := .grow es (xs.set i v') none) (o := .cells cs' ty) (w' := w.setRow g cs') hb e2 hle (fun _ => rfl) (fun _ _ => ⟨rfl, fun _ => rfl⟩)
                (fun k j hk => by simp [Gh.shutM, hk]) (setRow_get_same w g cs cs' ty (0, 0) e3) (fun k hk => setRow_get_other w g k cs' hk) (setRow_size w g cs') rfl rfl rfl
                (fun j c hm => by
                  simp only [Gh.shutM, if_true] at hm
                  rw [cell_at (setRow_get_same w g cs cs' ty (0, 0) e3)]
                  split at hm
                  · exact hm
                  · cases hm)
                ⟨_, by rw [List.length_set]; exact k1, by rw [List.length_set]; exact k0, hf', .inr ⟨g, cap, cs', ty, by simp, e2, setRow_get_same w g cs cs' ty (0, 0) e3, by simpa using e4, hsz'.trans e5, e6, hw', hreps.mono hle, by
                    intro c hc
                    rw [hcs'] at hc
                    simp only [putCells, List.mem_append] at hc
                    rcases hc with (hc | hc) | hc
                    · exact e9 c (List.mem_of_mem_take hc)
                    · exact hone c hc
                    · exact e9 c (List.mem_of_mem_drop hc), by simp, fun j hj => by simp at hj; simp [Gh.shutM, hj], fun j hj => by simp at hj; simp [Gh.shutM]; omega⟩⟩
              refine ⟨_, _, ?_, r1, r2⟩
              simp only [Instr.storeAt, Instr.sureAddr, Sem.run_bind, Sem.run_pure, Result.andThen_ok]
              exact run_storeVar hs hlen hone e3 hcap
          · cases hv
        · cases hv
      · cases hv
    · cases hv
  · cases hv
end

end Go.Ev
