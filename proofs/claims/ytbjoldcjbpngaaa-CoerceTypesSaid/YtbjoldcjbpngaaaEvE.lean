/-
  How the abstract heap and the memory change together.
-/
import Derived.Test.YtbjoldcjbpngaaaEvD
import Derived.Laws.CopyRow
import Derived.Laws.Rows
set_option linter.unusedVariables false
set_option linter.unusedSimpArgs false
namespace Go.Ev
open Go

theorem addr_add (g o n : Nat) : (⟨g, o, none⟩ : Addr).add n = ⟨g, o + n, none⟩ := by
  unfold Addr.add; split <;> simp_all

/-- A block stays what it is where its own memory, and what is said of it, stay. -/
theorem OkB.step {Γ Γ' : Gh} {w w' : World} {b : Nat} {B : ABlock} (h : OkB Γ w b B) (hl : Γ.le Γ')
    (hown : ∀ g, Γ.own g = some b → Γ'.own g = some b ∧ w'.heap[g]? = w.heap[g]? ∧ ∀ o, Γ'.M g o = Γ.M g o)
    (hk : Γ'.mu b = Γ.mu b ∧ ∀ l, Γ'.T b l = Γ.T b l) : OkB Γ' w' b B := by
  cases B with
  | hole => exact ⟨hk.1.trans h.1, fun l => (hk.2 l).trans (h.2 l)⟩
  | dead => trivial
  | cells vs =>
    obtain ⟨g, cs, ty, h1, h2, h3, h4, h5, h6⟩ := h
    obtain ⟨o1, o2, o3⟩ := hown g h2
    exact ⟨g, cs, ty, hl.mu _ _ h1, o1, o2.trans h3, fun o => (o3 o).trans (h4 o), h5.mono hl, h6⟩
  | grow es xs op =>
    obtain ⟨c, h1, h0, h2, h3⟩ := h
    refine ⟨c, hl.T _ _ _ h1, fun l hlt => (hk.2 l).trans (h0 l hlt), h2, ?_⟩
    rcases h3 with ⟨h3, h4⟩ | ⟨g, cap, cs, ty, e1, e2, e3, e4, e5, e6, e7, e8, e9, e10, e11, e12⟩
    · exact .inl ⟨h3, h4.mono hl⟩
    · obtain ⟨o1, o2, o3⟩ := hown g e2
      exact .inr ⟨g, cap, cs, ty, e1, o1, o2.trans e3, e4, e5, e6, e7, e8.mono hl, e9, e10, fun j hj => (o3 j).trans (e11 j hj), fun j hj => (o3 j).trans (e12 j hj)⟩
  | mp es =>
    obtain ⟨g, ents, clock, h1, h2, h3, h4, h5⟩ := h
    obtain ⟨o1, o2, _⟩ := hown g h2
    exact ⟨g, ents, clock, hl.mu _ _ h1, o1, o2.trans h3, h4, fun i k v e hk he => ⟨(h5 i k v e hk he).1.mono hl, (h5 i k v e hk he).2.mono hl⟩⟩

theorem newAt_spec {H H' : Heap} {id : Nat} {B : ABlock} (h : newAt H id B = some H') :
    H'[id]? = some B ∧ (∀ b, b ≠ id → H'[b]? = H[b]?) ∧ H.length ≤ H'.length ∧ id < H'.length ∧ (∀ b, H'.length ≤ b → H.length ≤ b ∧ b ≠ id) ∧ (id = H.length ∨ H[id]? = some .hole) := by
  unfold newAt at h
  split at h
  · rename_i he
    cases h
    subst he
    refine ⟨by simp, ?_, by simp, by simp, fun b hb => by simp at hb; omega, .inl rfl⟩
    intro b hb
    by_cases hlt : b < H.length
    · rw [List.getElem?_append_left hlt]
    · rw [List.getElem?_append_right (by omega), List.getElem?_eq_none (l := H) (by omega)]
      rw [List.getElem?_eq_none]; simp; omega
  · split at h
    · rename_i hh
      cases h
      have hlt := (List.getElem?_eq_some_iff.1 hh).1
      refine ⟨by simp [hlt], ?_, by simp, by simpa using hlt, fun b hb => by simp at hb; omega, .inr hh⟩
      intro b hb
      rw [List.getElem?_set_ne (Ne.symm hb)]
    · cases h

theorem newAt_fresh {Γ : Gh} {H H' : Heap} {w : World} {id : Nat} {B : ABlock} (hR : Rel Γ H w) (h : newAt H id B = some H') : Γ.mu id = none ∧ ∀ l, Γ.T id l = none := by
  rcases (newAt_spec h).2.2.2.2.2 with rfl | hh
  · exact hR.dom _ (Nat.le_refl _)
  · exact hR.blk _ _ hh

/-- The ghost with a new block's place. -/
def Gh.place (Γ : Gh) (id g : Nat) : Gh := { Γ with mu := fun b => if b = id then some g else Γ.mu b, own := fun k => if k = g then some id else Γ.own k }

theorem Gh.le_place {Γ : Gh} {id g : Nat} (h : Γ.mu id = none) : Γ.le (Γ.place id g) := by
  refine ⟨fun _ _ _ h => h, ?_, fun _ _ _ h => h⟩
  intro b k hb
  simp only [Gh.place]
  split
  · rename_i e; subst e; rw [h] at hb; cases hb
  · exact hb

theorem heap_push_lt (w : World) (o : Obj) {g : Nat} (h : g < w.heap.size) : (w.alloc o).heap[g]? = w.heap[g]? := by
  exact heap_alloc_old w o g h

theorem heap_push_new (w : World) (o : Obj) : (w.alloc o).heap[w.heap.size]? = some o := heap_alloc_new w o

theorem Rel.memLt {Γ : Gh} {H : Heap} {w : World} (hR : Rel Γ H w) {g o : Nat} {c : Value} (h : Γ.M g o = some c) : g < w.heap.size :=
  World.block_lt_of_cell? w _ (hR.mem g o c h)

theorem Rel.noM {Γ : Gh} {H : Heap} {w : World} (hR : Rel Γ H w) {g : Nat} (h : w.heap.size ≤ g) (o : Nat) : Γ.M g o = none := by
  cases hm : Γ.M g o with
  | none => rfl
  | some c => have := hR.memLt hm; omega

theorem cell_alloc_lt (w : World) (o : Obj) {a : Addr} (h : a.block < w.heap.size) : (w.alloc o).cell? a = w.cell? a := by
  simp only [World.cell?, heap_push_lt w o h]

/-- A new block, known by its place: of cells, or a map. -/
theorem Rel.place {Γ : Gh} {H H' : Heap} {w : World} {id : Nat} {B : ABlock} {o : Obj} (hR : Rel Γ H w) (hn : newAt H id B = some H')
    (hB : ∀ Γ' w', Γ.le Γ' → Γ'.mu id = some w.heap.size → Γ'.own w.heap.size = some id → w'.heap[w.heap.size]? = some o → (∀ j, Γ'.M w.heap.size j = none) → OkB Γ' w' id B) :
    Rel (Γ.place id w.heap.size) H' (w.alloc o) ∧ Stp Γ w (Γ.place id w.heap.size) (w.alloc o) ∧ (Γ.place id w.heap.size).mu id = some w.heap.size := by
  have hf := newAt_fresh hR hn
  have hs := newAt_spec hn
  have hle := Gh.le_place (g := w.heap.size) hf.1
  have hmu : (Γ.place id w.heap.size).mu id = some w.heap.size := by simp [Gh.place]
  have hown : (Γ.place id w.heap.size).own w.heap.size = some id := by simp [Gh.place]
  have hownlt : ∀ g b, Γ.own g = some b → g < w.heap.size := hR.owned
  refine ⟨⟨?_, ?_, ?_, ?_⟩, ?_, hmu⟩
  · intro g k c hm
    have hlt := hR.memLt hm
    rw [cell_alloc_lt w o hlt]
    exact hR.mem g k c hm
  · intro b B' hb
    by_cases e : b = id
    · subst e
      rw [hs.1] at hb
      cases hb
      exact hB _ _ hle hmu hown (heap_push_new w o) (fun j => hR.noM (Nat.le_refl _) j)
    · rw [hs.2.1 b e] at hb
      refine (hR.blk b B' hb).step hle ?_ ?_
      · intro g hg
        have hlt := hownlt g b hg
        refine ⟨?_, heap_push_lt w o hlt, fun _ => rfl⟩
        simp only [Gh.place]
        rw [if_neg (by omega)]; exact hg
      · simp only [Gh.place]
        exact ⟨by rw [if_neg e], fun _ => trivial⟩
  · intro b hb
    obtain ⟨h1, h2⟩ := hs.2.2.2.2.1 b hb
    simp only [Gh.place]
    rw [if_neg h2]
    exact hR.dom b h1
  · intro g b hg
    simp only [Gh.place] at hg
    split at hg
    · rename_i e; subst e; simp
    · have := hownlt g b hg; simp; omega
  · refine ⟨hle, ?_, fun _ _ _ _ => rfl, by simp, fun g hg _ => heap_push_lt w o hg, rfl, rfl, rfl⟩
    intro g hg ho
    simp only [Gh.place]
    rw [if_neg (by omega)]; exact ho

/-- A new block of cells. -/
theorem Rel.newCells {Γ : Gh} {H H' : Heap} {w : World} {id : Nat} {vs : List AVal} {cs : Array Value} {ty : TypeId} (hR : Rel Γ H w) (hn : newAt H id (.cells vs) = some H')
    (hr : Reps Γ vs cs.toList) (h1 : ∀ c, c ∈ cs.toList → c.oneCell' = true) :
    Rel (Γ.place id w.heap.size) H' (w.alloc (.cells cs ty)) ∧ Stp Γ w (Γ.place id w.heap.size) (w.alloc (.cells cs ty)) ∧ (Γ.place id w.heap.size).mu id = some w.heap.size :=
  hR.place hn fun Γ' w' hle hmu hown hh hM => ⟨_, cs, ty, hmu, hown, hh, hM, hr.mono hle, h1⟩

theorem Rel.newMap {Γ : Gh} {H H' : Heap} {w : World} {id : Nat} (hR : Rel Γ H w) (hn : newAt H id (.mp []) = some H') :
    Rel (Γ.place id w.heap.size) H' (w.alloc (.map #[] 0)) ∧ Stp Γ w (Γ.place id w.heap.size) (w.alloc (.map #[] 0)) ∧ (Γ.place id w.heap.size).mu id = some w.heap.size :=
  hR.place hn fun Γ' w' hle hmu hown hh hM => ⟨_, #[], 0, hmu, hown, hh, rfl, by simp⟩

theorem setRow_get_same (w : World) (g : Nat) (cur c : Array Value) (t : TypeId) (fr : Nat × Nat) (hg : w.heap[g]? = some (.cells cur t fr)) : (w.setRow g c).heap[g]? = some (.cells c t fr) :=
  setRow_heap w g cur c t fr hg

theorem setRow_get_other (w : World) (g k : Nat) (c : Array Value) (h : k ≠ g) : (w.setRow g c).heap[k]? = w.heap[k]? := setRow_other w g k c h

theorem setRow_size (w : World) (g : Nat) (c : Array Value) : (w.setRow g c).heap.size = w.heap.size := by simp [World.setRow]

/-- A block that is somebody's is written: another block of the same id stands for what it holds now. -/
theorem Rel.write {Γ Γ' : Gh} {H : Heap} {w : World} {b g : Nat} {B B0 : ABlock} {o : Obj} {w' : World} (hR : Rel Γ H w) (hb : H[b]? = some B0) (hown : Γ.own g = some b)
    (hle : Γ.le Γ') (hOwn : ∀ k, Γ'.own k = Γ.own k) (hmu : ∀ k, k ≠ b → Γ'.mu k = Γ.mu k ∧ ∀ l, Γ'.T k l = Γ.T k l) (hM : ∀ k j, k ≠ g → Γ'.M k j = Γ.M k j)
    (hw1 : w'.heap[g]? = some o) (hw2 : ∀ k, k ≠ g → w'.heap[k]? = w.heap[k]?) (hsz : w'.heap.size = w.heap.size) (hos : w'.os = w.os) (htp : w'.tape = w.tape) (hout : w'.output = w.output)
    (hmem : ∀ j c, Γ'.M g j = some c → w'.cell? ⟨g, j, none⟩ = some c) (hB : OkB Γ' w' b B) :
    Rel Γ' (H.set b B) w' ∧ Stp Γ w Γ' w' := by
  have hlt : b < H.length := (List.getElem?_eq_some_iff.1 hb).1
  refine ⟨⟨?_, ?_, ?_, ?_⟩, ?_⟩
  · intro k j c hm
    by_cases e : k = g
    · subst e; exact hmem j c hm
    · rw [hM k j e] at hm
      have := hR.mem k j c hm
      simpa [World.cell?, hw2 k e] using this
  · intro k B' hk
    by_cases e : k = b
    · subst e
      rw [List.getElem?_set_self hlt] at hk
      cases hk
      exact hB
    · rw [List.getElem?_set_ne (Ne.symm e)] at hk
      refine (hR.blk k B' hk).step hle ?_ ?_
      · intro g' hg'
        have hne : g' ≠ g := by intro e2; subst e2; rw [hown] at hg'; cases hg'; exact e rfl
        exact ⟨(hOwn g').trans hg', hw2 g' hne, fun o => hM g' o hne⟩
      · exact hmu k e
  · intro k hk
    simp only [List.length_set] at hk
    have hne : k ≠ b := by omega
    exact ⟨(hmu k hne).1.trans (hR.dom k hk).1, fun l => ((hmu k hne).2 l).trans ((hR.dom k hk).2 l)⟩
  · intro k x hk
    rw [hsz]
    exact hR.owned k x ((hOwn k).symm.trans hk)
  · refine ⟨hle, fun k _ h => (hOwn k).trans h, ?_, Nat.le_of_eq hsz.symm, ?_, hos, htp, hout⟩
    · intro k o hk ho
      have hne : k ≠ g := by intro e; subst e; rw [hown] at ho; cases ho
      exact hM k o hne
    · intro k hk ho
      have hne : k ≠ g := by intro e; subst e; rw [hown] at ho; cases ho
      exact hw2 k hne

theorem Rel.cells {Γ : Gh} {H : Heap} {w : World} {b : Nat} {vs : List AVal} (hR : Rel Γ H w) (hb : H[b]? = some (.cells vs)) :
    ∃ g cs ty, Γ.mu b = some g ∧ Γ.own g = some b ∧ w.heap[g]? = some (.cells cs ty (0, 0)) ∧ (∀ o, Γ.M g o = none) ∧ Reps Γ vs cs.toList ∧ ∀ c, c ∈ cs.toList → c.oneCell' = true := hR.blk b _ hb

/-- Cells of a block are written. -/
theorem Rel.writeCells {Γ : Gh} {H : Heap} {w : World} {b g : Nat} {vs vs' : List AVal} {cs cs' : Array Value} {ty : TypeId} (hR : Rel Γ H w) (hb : H[b]? = some (.cells vs)) (hmu : Γ.mu b = some g) (hown : Γ.own g = some b)
    (hg : w.heap[g]? = some (.cells cs ty (0, 0))) (hM : ∀ o, Γ.M g o = none) (hr : Reps Γ vs' cs'.toList) (h1 : ∀ c, c ∈ cs'.toList → c.oneCell' = true) :
    Rel Γ (H.set b (.cells vs')) (w.setRow g cs') ∧ Stp Γ w Γ (w.setRow g cs') := by
  refine hR.write hb hown (.refl Γ) (fun _ => rfl) (fun _ _ => ⟨rfl, fun _ => rfl⟩) (fun _ _ _ => rfl) (setRow_get_same w g cs cs' ty (0, 0) hg) (fun k hk => setRow_get_other w g k cs' hk) (setRow_size w g cs') rfl rfl rfl ?_ ?_
  · intro j c hm; rw [hM j] at hm; cases hm
  · exact ⟨g, cs', ty, hmu, hown, setRow_get_same w g cs cs' ty (0, 0) hg, hM, hr, h1⟩

/-- Reading cells. -/
theorem cell_at {w : World} {g o : Nat} {cs : Array Value} {ty : TypeId} {fr : Nat × Nat} (hg : w.heap[g]? = some (.cells cs ty fr)) : w.cell? ⟨g, o, none⟩ = cs[o]? := cell_of_row w g o cs ty fr hg

section
variable {P : Program}

theorem run_loadVar_scalar {t : TypeId} {w : World} {g o : Nat} {c : Value} (ha : aggB P t = some false) (hc : w.cell? ⟨g, o, none⟩ = some c) : (loadVar t ⟨g, o, none⟩).run P w = .ok c w := by
  simp [loadVar, run_isAggB ha, hc]

theorem run_loadVar_agg {t : TypeId} {w : World} {g o n : Nat} {cs : List Value} (ha : aggB P t = some true) (hs : sizeB P t n = true) (hl : cs.length = n)
    (hc : ∀ j v, cs[j]? = some v → w.cell? ⟨g, o + j, none⟩ = some v) : (loadVar t ⟨g, o, none⟩).run P w = .ok (.agg cs.toArray) w := by
  have := run_loadCells_list (P := P) w ⟨g, o, none⟩ cs (fun j v hv => by rw [addr_add]; exact hc j v hv)
  rw [hl] at this
  simp [loadVar, run_isAggB ha, run_sizeB hs, this]

theorem run_storeVar {t : TypeId} {w : World} {g o n : Nat} {c : Value} {cs : Array Value} {ty : TypeId} (hs : sizeB P t n = true) (hl : c.cells.size = n) (h1 : ∀ d, d ∈ c.cells.toList → d.oneCell' = true)
    (hg : w.heap[g]? = some (.cells cs ty (0, 0))) (hle : o + n ≤ cs.size) :
    (storeVar t ⟨g, o, none⟩ c).run P w = .ok () (w.setRow g (putCells o c.cells.toList cs.toList).toArray) := by
  have hst := run_storeCells_at P g o ty c.cells.toList 0 cs w hg (by simp [hl]; omega) h1
  simp only [Nat.add_zero] at hst
  simp only [storeVar, Sem.run_bind, run_sizeB hs, Result.andThen_ok, hl]
  simp [hst, putCells]
end

end Go.Ev
