/-
  Part 2 of a proof: NarrowHolds: for every input the law returns true, and what it was given reads behind the call as before. No conditions.
-/
import Derived.Test.YtoacjncdnnkbaaaP1
import Derived.Laws.CopyRow
import Derived.Laws.Rows
import Derived.Laws.Append
import Derived.MapKept
import Derived.Orders
namespace Go.Ev
set_option linter.unusedVariables false
set_option linter.unusedSimpArgs false
open Go
theorem addr_add (g o n : Nat) : (⟨g, o, none⟩ : Addr).add n = ⟨g, o + n, none⟩ := by
  unfold Addr.add; split <;> simp_all
theorem OkB.step {Γ Γ' : Gh} {w w' : World} {b : Nat} {B : ABlock} (h : OkB Γ w b B) (hl : Γ.le Γ')
    (hown : ∀ g, Γ.own g = some b → Γ'.own g = some b ∧ w'.heap[g]? = w.heap[g]? ∧ ∀ o, Γ'.M g o = Γ.M g o)
    (hk : Γ'.mu b = Γ.mu b ∧ ∀ l, Γ'.T b l = Γ.T b l) : OkB Γ' w' b B := by
  cases B with
  | hole => exact ⟨hk.1.trans h.1, fun l => (hk.2 l).trans (h.2 l)⟩
  | dead => trivial
  | cells vs =>
    obtain ⟨g, cs, ty, h1, h2, h3, h4, h5, h6⟩ := h
    obtain ⟨o1, o2, o3⟩ := hown g h2
    exact ⟨g, cs, ty, hl.mu _ _ h1, o1, o2.trans h3, fun o => (o3 o).trans (h4 o), h5.mono hl, h6⟩
  | grow es xs op =>
    obtain ⟨c, h1, h0, h2, h3⟩ := h
    refine ⟨c, hl.T _ _ _ h1, fun l hlt => (hk.2 l).trans (h0 l hlt), h2, ?_⟩
    rcases h3 with ⟨h3, h4⟩ | ⟨g, cap, cs, ty, e1, e2, e3, e4, e5, e6, e7, e8, e9, e10, e11, e12⟩
    · exact .inl ⟨h3, h4.mono hl⟩
    · obtain ⟨o1, o2, o3⟩ := hown g e2
      exact .inr ⟨g, cap, cs, ty, e1, o1, o2.trans e3, e4, e5, e6, e7, e8.mono hl, e9, e10, fun j hj => (o3 j).trans (e11 j hj), fun j hj => (o3 j).trans (e12 j hj)⟩
  | mp es =>
    obtain ⟨g, ents, clock, h1, h2, h3, h4, h5⟩ := h
    obtain ⟨o1, o2, _⟩ := hown g h2
    exact ⟨g, ents, clock, hl.mu _ _ h1, o1, o2.trans h3, h4, fun i k v e hk he => ⟨(h5 i k v e hk he).1.mono hl, (h5 i k v e hk he).2.mono hl⟩⟩
theorem y5d {H H' : Heap} {id : Nat} {B : ABlock} (h : newAt H id B = some H') :
    H'[id]? = some B ∧ (∀ b, b ≠ id → H'[b]? = H[b]?) ∧ H.length ≤ H'.length ∧ id < H'.length ∧ (∀ b, H'.length ≤ b → H.length ≤ b ∧ b ≠ id) ∧ (id = H.length ∨ H[id]? = some .hole) := by
  unfold newAt at h
  split at h
  · rename_i he
    cases h
    subst he
    refine ⟨by simp, ?_, by simp, by simp, fun b hb => by simp at hb; omega, .inl rfl⟩
    intro b hb
    by_cases hlt : b < H.length
    · rw [List.getElem?_append_left hlt]
    · rw [List.getElem?_append_right (by omega), List.getElem?_eq_none (l := H) (by omega)]
      rw [List.getElem?_eq_none]; simp; omega
  · split at h
    · rename_i hh
      cases h
      have hlt := (List.getElem?_eq_some_iff.1 hh).1
      refine ⟨by simp [hlt], ?_, by simp, by simpa using hlt, fun b hb => by simp at hb; omega, .inr hh⟩
      intro b hb
      rw [List.getElem?_set_ne (Ne.symm hb)]
    · cases h
theorem y53 {Γ : Gh} {H H' : Heap} {w : World} {id : Nat} {B : ABlock} (hR : Rel Γ H w) (h : newAt H id B = some H') : Γ.mu id = none ∧ ∀ l, Γ.T id l = none := by
  rcases (y5d h).2.2.2.2.2 with rfl | hh
  · exact hR.dom _ (Nat.le_refl _)
  · exact hR.blk _ _ hh
def Gh.place (Γ : Gh) (id g : Nat) : Gh := { Γ with mu := fun b => if b = id then some g else Γ.mu b, own := fun k => if k = g then some id else Γ.own k }
theorem Gh.le_place {Γ : Gh} {id g : Nat} (h : Γ.mu id = none) : Γ.le (Γ.place id g) := by
  refine ⟨fun _ _ _ h => h, ?_, fun _ _ _ h => h⟩
  intro b k hb
  simp only [Gh.place]
  split
  · rename_i e; subst e; rw [h] at hb; cases hb
  · exact hb
theorem y29 (w : World) (o : Obj) {g : Nat} (h : g < w.heap.size) : (w.alloc o).heap[g]? = w.heap[g]? := by
  exact heap_alloc_old w o g h
theorem y3u (w : World) (o : Obj) : (w.alloc o).heap[w.heap.size]? = some o := heap_alloc_new w o
theorem Rel.memLt {Γ : Gh} {H : Heap} {w : World} (hR : Rel Γ H w) {g o : Nat} {c : Value} (h : Γ.M g o = some c) : g < w.heap.size :=
  World.block_lt_of_cell? w _ (hR.mem g o c h)
theorem Rel.noM {Γ : Gh} {H : Heap} {w : World} (hR : Rel Γ H w) {g : Nat} (h : w.heap.size ≤ g) (o : Nat) : Γ.M g o = none := by
  cases hm : Γ.M g o with
  | none => rfl
  | some c => have := hR.memLt hm; omega
theorem y4m (w : World) (o : Obj) {a : Addr} (h : a.block < w.heap.size) : (w.alloc o).cell? a = w.cell? a := by
  simp only [World.cell?, y29 w o h]
theorem Rel.place {Γ : Gh} {H H' : Heap} {w : World} {id : Nat} {B : ABlock} {o : Obj} (hR : Rel Γ H w) (hn : newAt H id B = some H')
    (hB : ∀ Γ' w', Γ.le Γ' → Γ'.mu id = some w.heap.size → Γ'.own w.heap.size = some id → w'.heap[w.heap.size]? = some o → (∀ j, Γ'.M w.heap.size j = none) → OkB Γ' w' id B) :
    Rel (Γ.place id w.heap.size) H' (w.alloc o) ∧ Stp Γ w (Γ.place id w.heap.size) (w.alloc o) ∧ (Γ.place id w.heap.size).mu id = some w.heap.size := by
  have hf := y53 hR hn
  have hs := y5d hn
  have hle := Gh.le_place (g := w.heap.size) hf.1
  have hmu : (Γ.place id w.heap.size).mu id = some w.heap.size := by simp [Gh.place]
  have hown : (Γ.place id w.heap.size).own w.heap.size = some id := by simp [Gh.place]
  have hownlt : ∀ g b, Γ.own g = some b → g < w.heap.size := hR.owned
  refine ⟨⟨?_, ?_, ?_, ?_⟩, ?_, hmu⟩
  · intro g k c hm
    have hlt := hR.memLt hm
    rw [y4m w o hlt]
    exact hR.mem g k c hm
  · intro b B' hb
    by_cases e : b = id
    · subst e
      rw [hs.1] at hb
      cases hb
      exact hB _ _ hle hmu hown (y3u w o) (fun j => hR.noM (Nat.le_refl _) j)
    · rw [hs.2.1 b e] at hb
      refine (hR.blk b B' hb).step hle ?_ ?_
      · intro g hg
        have hlt := hownlt g b hg
        refine ⟨?_, y29 w o hlt, fun _ => rfl⟩
        simp only [Gh.place]
        rw [if_neg (by omega)]; exact hg
      · simp only [Gh.place]
        exact ⟨by rw [if_neg e], fun _ => trivial⟩
  · intro b hb
    obtain ⟨h1, h2⟩ := hs.2.2.2.2.1 b hb
    simp only [Gh.place]
    rw [if_neg h2]
    exact hR.dom b h1
  · intro g b hg
    simp only [Gh.place] at hg
    split at hg
    · rename_i e; subst e; simp
    · have := hownlt g b hg; simp; omega
  · refine ⟨hle, ?_, fun _ _ _ _ => rfl, by simp, fun g hg _ => y29 w o hg, rfl, rfl, rfl⟩
    intro g hg ho
    simp only [Gh.place]
    rw [if_neg (by omega)]; exact ho
theorem Rel.newCells {Γ : Gh} {H H' : Heap} {w : World} {id : Nat} {vs : List AVal} {cs : Array Value} {ty : TypeId} (hR : Rel Γ H w) (hn : newAt H id (.cells vs) = some H')
    (hr : Reps Γ vs cs.toList) (h1 : ∀ c, c ∈ cs.toList → c.oneCell' = true) :
    Rel (Γ.place id w.heap.size) H' (w.alloc (.cells cs ty)) ∧ Stp Γ w (Γ.place id w.heap.size) (w.alloc (.cells cs ty)) ∧ (Γ.place id w.heap.size).mu id = some w.heap.size :=
  hR.place hn fun Γ' w' hle hmu hown hh hM => ⟨_, cs, ty, hmu, hown, hh, hM, hr.mono hle, h1⟩
theorem Rel.newMap {Γ : Gh} {H H' : Heap} {w : World} {id : Nat} (hR : Rel Γ H w) (hn : newAt H id (.mp []) = some H') :
    Rel (Γ.place id w.heap.size) H' (w.alloc (.map #[] 0)) ∧ Stp Γ w (Γ.place id w.heap.size) (w.alloc (.map #[] 0)) ∧ (Γ.place id w.heap.size).mu id = some w.heap.size :=
  hR.place hn fun Γ' w' hle hmu hown hh hM => ⟨_, #[], 0, hmu, hown, hh, rfl, by simp⟩
theorem y0y (w : World) (g : Nat) (cur c : Array Value) (t : TypeId) (fr : Nat × Nat) (hg : w.heap[g]? = some (.cells cur t fr)) : (w.setRow g c).heap[g]? = some (.cells c t fr) :=
  setRow_heap w g cur c t fr hg
theorem y2a (w : World) (g k : Nat) (c : Array Value) (h : k ≠ g) : (w.setRow g c).heap[k]? = w.heap[k]? := setRow_other w g k c h
theorem y3s (w : World) (g : Nat) (c : Array Value) : (w.setRow g c).heap.size = w.heap.size := by simp [World.setRow]
theorem Rel.write {Γ Γ' : Gh} {H : Heap} {w : World} {b g : Nat} {B B0 : ABlock} {o : Obj} {w' : World} (hR : Rel Γ H w) (hb : H[b]? = some B0) (hown : Γ.own g = some b)
    (hle : Γ.le Γ') (hOwn : ∀ k, Γ'.own k = Γ.own k) (hmu : ∀ k, k ≠ b → Γ'.mu k = Γ.mu k ∧ ∀ l, Γ'.T k l = Γ.T k l) (hM : ∀ k j, k ≠ g → Γ'.M k j = Γ.M k j)
    (hw1 : w'.heap[g]? = some o) (hw2 : ∀ k, k ≠ g → w'.heap[k]? = w.heap[k]?) (hsz : w'.heap.size = w.heap.size) (hos : w'.os = w.os) (htp : w'.tape = w.tape) (hout : w'.output = w.output)
    (hmem : ∀ j c, Γ'.M g j = some c → w'.cell? ⟨g, j, none⟩ = some c) (hB : OkB Γ' w' b B) :
    Rel Γ' (H.set b B) w' ∧ Stp Γ w Γ' w' := by
  have hlt : b < H.length := (List.getElem?_eq_some_iff.1 hb).1
  refine ⟨⟨?_, ?_, ?_, ?_⟩, ?_⟩
  · intro k j c hm
    by_cases e : k = g
    · subst e; exact hmem j c hm
    · rw [hM k j e] at hm
      have := hR.mem k j c hm
      simpa [World.cell?, hw2 k e] using this
  · intro k B' hk
    by_cases e : k = b
    · subst e
      rw [List.getElem?_set_self hlt] at hk
      cases hk
      exact hB
    · rw [List.getElem?_set_ne (Ne.symm e)] at hk
      refine (hR.blk k B' hk).step hle ?_ ?_
      · intro g' hg'
        have hne : g' ≠ g := by intro e2; subst e2; rw [hown] at hg'; cases hg'; exact e rfl
        exact ⟨(hOwn g').trans hg', hw2 g' hne, fun o => hM g' o hne⟩
      · exact hmu k e
  · intro k hk
    simp only [List.length_set] at hk
    have hne : k ≠ b := by omega
    exact ⟨(hmu k hne).1.trans (hR.dom k hk).1, fun l => ((hmu k hne).2 l).trans ((hR.dom k hk).2 l)⟩
  · intro k x hk
    rw [hsz]
    exact hR.owned k x ((hOwn k).symm.trans hk)
  · refine ⟨hle, fun k _ h => (hOwn k).trans h, ?_, Nat.le_of_eq hsz.symm, ?_, hos, htp, hout⟩
    · intro k o hk ho
      have hne : k ≠ g := by intro e; subst e; rw [hown] at ho; cases ho
      exact hM k o hne
    · intro k hk ho
      have hne : k ≠ g := by intro e; subst e; rw [hown] at ho; cases ho
      exact hw2 k hne
theorem Rel.cells {Γ : Gh} {H : Heap} {w : World} {b : Nat} {vs : List AVal} (hR : Rel Γ H w) (hb : H[b]? = some (.cells vs)) :
    ∃ g cs ty, Γ.mu b = some g ∧ Γ.own g = some b ∧ w.heap[g]? = some (.cells cs ty (0, 0)) ∧ (∀ o, Γ.M g o = none) ∧ Reps Γ vs cs.toList ∧ ∀ c, c ∈ cs.toList → c.oneCell' = true := hR.blk b _ hb
theorem Rel.writeCells {Γ : Gh} {H : Heap} {w : World} {b g : Nat} {vs vs' : List AVal} {cs cs' : Array Value} {ty : TypeId} (hR : Rel Γ H w) (hb : H[b]? = some (.cells vs)) (hmu : Γ.mu b = some g) (hown : Γ.own g = some b)
    (hg : w.heap[g]? = some (.cells cs ty (0, 0))) (hM : ∀ o, Γ.M g o = none) (hr : Reps Γ vs' cs'.toList) (h1 : ∀ c, c ∈ cs'.toList → c.oneCell' = true) :
    Rel Γ (H.set b (.cells vs')) (w.setRow g cs') ∧ Stp Γ w Γ (w.setRow g cs') := by
  refine hR.write hb hown (.refl Γ) (fun _ => rfl) (fun _ _ => ⟨rfl, fun _ => rfl⟩) (fun _ _ _ => rfl) (y0y w g cs cs' ty (0, 0) hg) (fun k hk => y2a w g k cs' hk) (y3s w g cs') rfl rfl rfl ?_ ?_
  · intro j c hm; rw [hM j] at hm; cases hm
  · exact ⟨g, cs', ty, hmu, hown, y0y w g cs cs' ty (0, 0) hg, hM, hr, h1⟩
theorem cell_at {w : World} {g o : Nat} {cs : Array Value} {ty : TypeId} {fr : Nat × Nat} (hg : w.heap[g]? = some (.cells cs ty fr)) : w.cell? ⟨g, o, none⟩ = cs[o]? := cell_of_row w g o cs ty fr hg
section
variable {P : Program}
theorem y3h {t : TypeId} {w : World} {g o : Nat} {c : Value} (ha : aggB P t = some false) (hc : w.cell? ⟨g, o, none⟩ = some c) : (loadVar t ⟨g, o, none⟩).run P w = .ok c w := by
  simp [loadVar, y4p ha, hc]
theorem y48 {t : TypeId} {w : World} {g o n : Nat} {cs : List Value} (ha : aggB P t = some true) (hs : sizeB P t n = true) (hl : cs.length = n)
    (hc : ∀ j v, cs[j]? = some v → w.cell? ⟨g, o + j, none⟩ = some v) : (loadVar t ⟨g, o, none⟩).run P w = .ok (.agg cs.toArray) w := by
  have := run_loadCells_list (P := P) w ⟨g, o, none⟩ cs (fun j v hv => by rw [addr_add]; exact hc j v hv)
  rw [hl] at this
  simp [loadVar, y4p ha, run_sizeB hs, this]
theorem y4t {t : TypeId} {w : World} {g o n : Nat} {c : Value} {cs : Array Value} {ty : TypeId} (hs : sizeB P t n = true) (hl : c.cells.size = n) (h1 : ∀ d, d ∈ c.cells.toList → d.oneCell' = true)
    (hg : w.heap[g]? = some (.cells cs ty (0, 0))) (hle : o + n ≤ cs.size) :
    (storeVar t ⟨g, o, none⟩ c).run P w = .ok () (w.setRow g (putCells o c.cells.toList cs.toList).toArray) := by
  have hst := run_storeCells_at P g o ty c.cells.toList 0 cs w hg (by simp [hl]; omega) h1
  simp only [Nat.add_zero] at hst
  simp only [storeVar, Sem.run_bind, run_sizeB hs, Result.andThen_ok, hl]
  simp [hst, putCells]
end
end Go.Ev
namespace Go.Ev
set_option linter.unusedVariables false
set_option linter.unusedSimpArgs false
open Go
theorem y47 (xs ys : List AVal) : flatL (xs ++ ys) = flatL xs ++ flatL ys := by
  induction xs with
  | nil => rfl
  | cons x xs ih => simp [flatL, ih]
theorem y0o {xs : List AVal} {es : Nat} (h : ∀ x, x ∈ xs → x.width = es) : (flatL xs).length = xs.length * es := by
  induction xs with
  | nil => simp [flatL]
  | cons x xs ih =>
    simp only [flatL, List.length_append, List.length_cons]
    rw [ih (fun y hy => h y (by simp [hy]))]
    have : x.flat.length = es := h x (by simp)
    rw [this, Nat.add_mul]; omega
theorem flatL_get {xs : List AVal} {es n : Nat} {y : AVal} (h : ∀ x, x ∈ xs → x.width = es) (hn : xs[n]? = some y) {j : Nat} {c : AVal} (hj : y.flat[j]? = some c) : (flatL xs)[n * es + j]? = some c := by
  induction xs generalizing n with
  | nil => simp at hn
  | cons x xs ih =>
    have hx : x.flat.length = es := h x (by simp)
    cases n with
    | zero =>
      simp at hn; subst hn
      simp only [flatL, Nat.zero_mul, Nat.zero_add]
      rw [List.getElem?_append_left (by rw [hx]; have := (List.getElem?_eq_some_iff.1 hj).1; rw [hx] at this; exact this)]
      exact hj
    | succ n =>
      simp at hn
      simp only [flatL]
      have e : (n + 1) * es + j = es + (n * es + j) := by rw [Nat.add_mul]; omega
      rw [e, List.getElem?_append_right (by omega), hx]
      rw [show es + (n * es + j) - es = n * es + j by omega]
      exact ih (fun y hy => h y (by simp [hy])) hn
theorem y4n {xs : List AVal} {es : Nat} (h : ∀ x, x ∈ xs → x.width = es) (n : Nat) : flatL (xs.take n) = (flatL xs).take (n * es) := by
  induction xs generalizing n with
  | nil => simp [flatL]
  | cons x xs ih =>
    have hx : x.flat.length = es := h x (by simp)
    cases n with
    | zero => simp [flatL]
    | succ n =>
      simp only [List.take_succ_cons, flatL]
      rw [ih (fun y hy => h y (by simp [hy])), List.take_append]
      rw [hx, show (n + 1) * es - es = n * es by rw [Nat.add_mul]; omega]
      rw [List.take_of_length_le (l := x.flat) (by rw [hx, Nat.add_mul]; omega)]
theorem y8i {xs : List AVal} {es : Nat} (h : ∀ x, x ∈ xs → x.width = es) (n : Nat) : flatL (xs.drop n) = (flatL xs).drop (n * es) := by
  induction xs generalizing n with
  | nil => simp [flatL]
  | cons x xs ih =>
    have hx : x.flat.length = es := h x (by simp)
    cases n with
    | zero => simp
    | succ n =>
      simp only [List.drop_succ_cons, flatL]
      rw [ih (fun y hy => h y (by simp [hy])), List.drop_append]
      rw [hx, show (n + 1) * es - es = n * es by rw [Nat.add_mul]; omega]
      rw [List.drop_of_length_le (l := x.flat) (by rw [hx, Nat.add_mul]; omega)]
      simp
theorem width_all {es : Nat} {xs : List AVal} (h : xs.all (fun y => decide (y.width = es)) = true) : ∀ x, x ∈ xs → x.width = es := by
  intro x hx
  simpa using List.all_eq_true.1 h x hx
theorem grow_lst {Γ : Gh} {w : World} {b es : Nat} {xs : List AVal} (h : OkB Γ w b (.grow es xs none)) : ∃ c, Γ.T b xs.length = some c ∧ Rep Γ (.lst xs false) c := by
  obtain ⟨c, h1, _, h2, h3⟩ := h
  refine ⟨c, h1, ?_⟩
  rcases h3 with ⟨_, h4⟩ | ⟨g, cap, cs, ty, rfl, e2, e3, e4, e5, e6, e7, e8, e9, e10, e11, e12⟩
  · rcases h4.lst_inv with ⟨rfl, base, cap, rfl, hE⟩ | ⟨g, off, cap, es, f, rfl, k1, k2, k3, k4, k5, k6, k7⟩
    · exact Rep.emp (hE.imp id fun h => ⟨h.1, by simp⟩)
    · exact .lst f k1 (by simp) k3 k4 k5 k6 k7
  · have hfl := y0o e7
    simp only [Option.getD_none] at e10 e11 e12
    have get : ∀ (j : Nat) (c : AVal), (flatL xs)[j]? = some c → ∃ d, cs[j]? = some d ∧ Γ.M g (0 + j) = some d ∧ d.oneCell' = true ∧ Rep Γ c d := by
      intro j c hj
      obtain ⟨d, hd, hr⟩ := e8.get hj
      have hlt : j < (flatL xs).length := (List.getElem?_eq_some_iff.1 hj).1
      rw [List.getElem?_take, if_pos hlt] at hd
      have hd' : cs[j]? = some d := by simpa using hd
      refine ⟨d, hd', ?_, e9 d (List.mem_of_getElem? hd), hr⟩
      rw [Nat.zero_add, e11 j (by omega), hd']
    refine .lst (fun j => cs.getD j undef) e4 (by simp) e7 h2 ?_ ?_ ?_
    · intro j c hj
      obtain ⟨d, hd, hm, _, _⟩ := get j c hj
      rw [hm]; simp [Array.getD_eq_getD_getElem?, hd]
    · intro j c hj
      obtain ⟨d, hd, _, h1, _⟩ := get j c hj
      simp [Array.getD_eq_getD_getElem?, hd, h1]
    · intro j c hj
      obtain ⟨d, hd, _, _, hr⟩ := get j c hj
      simpa [Array.getD_eq_getD_getElem?, hd] using hr
theorem Rep.lst_false {Γ : Gh} {xs : List AVal} {e : Bool} {c : Value} (h : Rep Γ (.lst xs e) c) : Rep Γ (.lst xs false) c := by
  rcases h.lst_inv with ⟨rfl, base, cap, rfl, hE⟩ | ⟨g, off, cap, es, f, rfl, k1, k2, k3, k4, k5, k6, k7⟩
  · exact Rep.emp (hE.imp id fun h => ⟨h.1, by simp⟩)
  · exact .lst f k1 (by simp) k3 k4 k5 k6 k7
theorem y4u {Γ : Gh} {H : Heap} {w : World} {o len : Nat} {v : AVal} {c : Value} (hR : Rel Γ H w) (h : Rep Γ (.gl o len) c) (hv : growAt H o len = some v) :
    ∃ es xs, v = .lst xs false ∧ xs.length = len ∧ H[o]? = some (.grow es xs none) ∧ Rep Γ v c := by
  unfold growAt at hv
  split at hv
  · rename_i es xs hx
    split at hv
    · rename_i hl
      cases hv
      obtain ⟨c', h1, h2⟩ := grow_lst (hR.blk _ _ hx)
      obtain ⟨ad, cap, rfl, h3, _⟩ := h.gl_inv
      rw [hl] at h1
      rw [h1] at h3
      cases h3
      exact ⟨es, xs, rfl, hl, hx, h2⟩
    · cases hv
  · cases hv
theorem shut_both {Γ : Gh} {H : Heap} {w : World} (hR : Rel Γ H w) : ∀ v, (∀ v' c, shutV H v = some v' → Rep Γ v c → Rep Γ v' c ∧ rfree v' ∧ v'.solid = v.solid) := by
  intro v
  induction v using AVal.rec (motive_2 := fun vs => ∀ vs' cs, shutL H vs = some vs' → Reps Γ vs cs → Reps Γ vs' cs ∧ lowL 0 vs' = true) with
  | nil =>
    rename_i hv hr
    simp [shutL] at hv; subst hv; exact ⟨hr, rfl⟩
  | cons v vs ih1 ih2 =>
    rename_i vs' cs hv hr
    simp only [shutL] at hv
    split at hv
    · rename_i a ha
      split at hv
      · rename_i b hb
        cases hv
        cases cs with
        | nil => have := hr.1; simp at this
        | cons d ds =>
          have h0 : Rep Γ v d := hr.2 0 v d rfl rfl
          have hs : Reps Γ vs ds := ⟨by simpa using hr.1, fun i x y hx hy => hr.2 (i + 1) x y (by simpa using hx) (by simpa using hy)⟩
          have r1 := ih1 a d ha h0
          have r2 := ih2 b ds hb hs
          exact ⟨Reps.cons r1.1 r2.1, by simp only [lowL, Bool.and_eq_true]; exact ⟨r1.2.1, r2.2⟩⟩
      · cases hv
    · cases hv
  | int k n => intro v' c hv hr; simp [shutV] at hv; subst hv; exact ⟨hr, rfl, rfl⟩
  | bool b => intro v' c hv hr; simp [shutV] at hv; subst hv; exact ⟨hr, rfl, rfl⟩
  | str b => intro v' c hv hr; simp [shutV] at hv; subst hv; exact ⟨hr, rfl, rfl⟩
  | nilp => intro v' c hv hr; simp [shutV] at hv; subst hv; exact ⟨hr, rfl, rfl⟩
  | nili => intro v' c hv hr; simp [shutV] at hv; subst hv; exact ⟨hr, rfl, rfl⟩
  | nilf => intro v' c hv hr; simp [shutV] at hv; subst hv; exact ⟨hr, rfl, rfl⟩
  | nilm => intro v' c hv hr; simp [shutV] at hv; subst hv; exact ⟨hr, rfl, rfl⟩
  | ro b => intro v' c hv hr; simp [shutV] at hv; subst hv; exact ⟨hr, rfl, rfl⟩
  | lst xs e => intro v' c hv hr; simp [shutV] at hv; subst hv; exact ⟨hr.lst_false, rfl, rfl⟩
  | emp b =>
    intro v' c hv hr
    simp [shutV] at hv; subst hv
    cases hr with
    | empN => exact ⟨.lstN _, rfl, rfl⟩
    | empE => exact ⟨.lstE (by simp), rfl, rfl⟩
  | gl o len =>
    intro v' c hv hr
    simp only [shutV] at hv
    obtain ⟨_, xs, rfl, _, _, h⟩ := y4u hR hr hv
    exact ⟨h, rfl, rfl⟩
  | agg cs ih =>
    intro v' c hv hr
    simp only [shutV] at hv
    split at hv
    · rename_i cs' hc
      cases hv
      obtain ⟨ds, rfl, hrs, h1⟩ := hr.agg_inv
      obtain ⟨r1, r2⟩ := ih _ _ hc hrs
      exact ⟨.agg r1.1 r1.2 h1, by simpa [rfree, lowV] using r2, rfl⟩
    · cases hv
  | tup cs ih =>
    intro v' c hv hr
    simp only [shutV] at hv
    split at hv
    · rename_i cs' hc
      cases hv
      obtain ⟨ds, rfl, hrs⟩ := hr.tup_inv
      obtain ⟨r1, r2⟩ := ih _ _ hc hrs
      exact ⟨.tup r1.1 r1.2, by simpa [rfree, lowV] using r2, rfl⟩
    · cases hv
  | iface t v ih =>
    intro v' c hv hr
    simp only [shutV] at hv
    split at hv
    · rename_i u hu
      cases hv
      cases hr with | iface _ h =>
      obtain ⟨r1, r2, _⟩ := ih _ _ hu h
      exact ⟨.iface t r1, by simpa [rfree, lowV] using r2, rfl⟩
    · cases hv
  | fn f cs ih =>
    intro v' c hv hr
    simp only [shutV] at hv
    split at hv
    · rename_i cs' hc
      cases hv
      obtain ⟨ds, rfl, hrs⟩ := hr.fn_inv
      obtain ⟨r1, r2⟩ := ih _ _ hc hrs
      exact ⟨.fn f r1.1 r1.2, by simpa [rfree, lowV] using r2, rfl⟩
    · cases hv
  | _ => intro v' c hv hr; simp [shutV] at hv
theorem y6k {Γ : Gh} {H : Heap} {w : World} (hR : Rel Γ H w) {v v' : AVal} {c : Value} (hv : shutV H v = some v') (hr : Rep Γ v c) : Rep Γ v' c ∧ rfree v' := ⟨(shut_both hR v v' c hv hr).1, (shut_both hR v v' c hv hr).2.1⟩
theorem y4f {Γ : Gh} {H : Heap} {w : World} (hR : Rel Γ H w) : ∀ {vs vs' : List AVal} {cs : List Value}, shutL H vs = some vs' → Reps Γ vs cs → Reps Γ vs' cs ∧ ∀ x, x ∈ vs' → rfree x
  | [], vs', cs, hv, hr => by simp [shutL] at hv; subst hv; exact ⟨hr, by simp⟩
  | v :: vs, vs', cs, hv, hr => by
    simp only [shutL] at hv
    split at hv
    · rename_i a ha
      split at hv
      · rename_i b hb
        cases hv
        cases cs with
        | nil => have := hr.1; simp at this
        | cons d ds =>
          have h0 : Rep Γ v d := hr.2 0 v d rfl rfl
          have hs : Reps Γ vs ds := ⟨by simpa using hr.1, fun i x y hx hy => hr.2 (i + 1) x y (by simpa using hx) (by simpa using hy)⟩
          have r1 := y6k hR ha h0
          have r2 := y4f hR hb hs
          refine ⟨Reps.cons r1.1 r2.1, ?_⟩
          intro x hx
          simp only [List.mem_cons] at hx
          rcases hx with rfl | hx
          · exact r1.2
          · exact r2.2 x hx
      · cases hv
    · cases hv
end Go.Ev
namespace Go.Ev
set_option linter.unusedVariables false
set_option linter.unusedSimpArgs false
open Go
def flatV (l : List Value) : List Value := l.flatMap fun v => v.cells.toList
theorem y5c {Γ : Gh} : ∀ {ys : List AVal} {cs : List Value}, Reps Γ ys cs → Reps Γ (flatL ys) (flatV cs)
  | [], cs, h => by
    have : cs = [] := List.eq_nil_of_length_eq_zero (by simpa using h.1)
    subst this; exact Reps.nil Γ
  | y :: ys, [], h => by have := h.1; simp at this
  | y :: ys, c :: cs, h => by
    have h0 : Rep Γ y c := h.2 0 y c rfl rfl
    have hs : Reps Γ ys cs := ⟨by simpa using h.1, fun i x y hx hy => h.2 (i + 1) x y (by simpa using hx) (by simpa using hy)⟩
    simp only [flatL, flatV, List.flatMap_cons]
    exact h0.cells.append (y5c hs)
def groupV (w : Option Nat) : (n : Nat) → List Value → List Value
  | 0, _ => []
  | n + 1, cs => match w with
    | none => (cs.take 1) ++ groupV w n (cs.drop 1)
    | some k => .agg (cs.take k).toArray :: groupV w n (cs.drop k)
theorem y3z {Γ : Gh} {w : Option Nat} : ∀ {n : Nat} {cs : List AVal} {ds : List Value}, Reps Γ cs ds → (∀ d, d ∈ ds → d.oneCell' = true) → Reps Γ (group w n cs) (groupV w n ds)
  | 0, cs, ds, h, h1 => Reps.nil Γ
  | n + 1, cs, ds, h, h1 => by
    cases w with
    | none =>
      simp only [group, groupV]
      exact (h.take 1).append (y3z (h.drop 1) (fun d hd => h1 d (List.mem_of_mem_drop hd)))
    | some k =>
      simp only [group, groupV]
      exact Reps.cons (.agg (h.take k).1 (h.take k).2 (fun d hd => h1 d (List.mem_of_mem_take hd))) (y3z (h.drop k) (fun d hd => h1 d (List.mem_of_mem_drop hd)))
theorem cells_one {d : Value} (h : d.oneCell' = true) : d.cells.toList = [d] := by cases d <;> simp_all [Value.oneCell', Value.cells]
theorem flatV_one {l : List Value} (h : ∀ d, d ∈ l → d.oneCell' = true) : flatV l = l := by
  induction l with
  | nil => rfl
  | cons d l ih =>
    simp only [flatV, List.flatMap_cons]
    rw [cells_one (h d (by simp))]
    have := ih (fun x hx => h x (by simp [hx]))
    simp only [flatV] at this
    simp [this]
theorem y4i {w : Option Nat} : ∀ {n : Nat} {ds : List Value}, (∀ d, d ∈ ds → d.oneCell' = true) → flatV (groupV w n ds) = ds.take (n * wide w)
  | 0, ds, h1 => by simp [groupV, flatV]
  | n + 1, ds, h1 => by
    cases w with
    | none =>
      simp only [groupV, wide, Option.getD_none, Nat.mul_one]
      have ih := y4i (w := none) (n := n) (ds := ds.drop 1) (fun d hd => h1 d (List.mem_of_mem_drop hd))
      simp only [wide, Option.getD_none, Nat.mul_one] at ih
      have e1 : flatV (ds.take 1 ++ groupV none n (ds.drop 1)) = flatV (ds.take 1) ++ flatV (groupV none n (ds.drop 1)) := by simp [flatV]
      rw [e1, ih, flatV_one (fun d hd => h1 d (List.mem_of_mem_take hd)), ← List.take_add, Nat.add_comm 1 n]
    | some k =>
      simp only [groupV, wide, Option.getD_some]
      have ih := y4i (w := some k) (n := n) (ds := ds.drop k) (fun d hd => h1 d (List.mem_of_mem_drop hd))
      simp only [wide, Option.getD_some] at ih
      have e1 : flatV (.agg (ds.take k).toArray :: groupV (some k) n (ds.drop k)) = ds.take k ++ flatV (groupV (some k) n (ds.drop k)) := by simp [flatV, Value.cells]
      rw [e1, ih, ← List.take_add]
      congr 1
      rw [Nat.add_mul]; omega
theorem y40 {w : Option Nat} : ∀ {n : Nat} {cs : List AVal}, n * wide w ≤ cs.length → (group w n cs).length = n
  | 0, cs, h => rfl
  | n + 1, cs, h => by
    cases w with
    | none =>
      simp only [wide, Option.getD_none, Nat.mul_one] at h
      simp only [group, List.length_append, List.length_take]
      rw [y40 (w := none) (by simp [wide]; omega)]
      omega
    | some k =>
      simp only [wide, Option.getD_some] at h
      have h' : n * k + k ≤ cs.length := by rw [Nat.add_mul] at h; omega
      simp only [group, List.length_cons]
      rw [y40 (w := some k) (by simp only [wide, Option.getD_some, List.length_drop]; omega)]
structure Holds (P : Program) (Γ : Gh) (w : World) (ys : List AVal) (c : Value) (ds : List Value) : Prop where
  reps : Reps Γ (flatL ys) ds
  one : ∀ d, d ∈ ds → d.oneCell' = true
  free : ∀ y, y ∈ ys → rfree y
  len : (Builtin.lenOf c).run P w = .ok ys.length w
  first : ∀ size n, (∀ y, y ∈ ys → y.width = size) → n ≤ ys.length → (Builtin.firstCells size n c).run P w = .ok (ds.take (n * size)).toArray w
theorem y44 {P : Program} {w : World} {g off len cap size n : Nat} {ds : List Value} {m : Nat} (hl : ds.length = m * size) (hn : n ≤ m) (hc : ∀ (j : Nat) (v : Value), ds[j]? = some v → w.cell? ⟨g, off + j, none⟩ = some v) :
    (Builtin.firstCells size n (.slice (some ⟨g, off, none⟩) len cap)).run P w = .ok (ds.take (n * size)).toArray w := by
  refine run_firstCells_some w size n ⟨g, off, none⟩ len cap (ds.take (n * size)) ?_ ?_
  · rw [List.length_take, hl]
    exact Nat.min_eq_left (Nat.mul_le_mul_right _ hn)
  · intro j v hv
    rw [List.getElem?_take] at hv
    split at hv
    · rw [addr_add]; exact hc j v hv
    · cases hv
theorem lst_holds {P : Program} {Γ : Gh} {H : Heap} {w : World} {xs : List AVal} {e : Bool} {c : Value} (hR : Rel Γ H w) (h : Rep Γ (.lst xs e) c) : ∃ ds, Holds P Γ w xs c ds := by
  rcases h.lst_inv with ⟨rfl, base, cap, rfl, hE⟩ | ⟨g, off, cap, es, f, rfl, k1, k2, k3, k4, k5, k6, k7⟩
  · refine ⟨[], Reps.nil Γ, by simp, by simp, by simp [Builtin.lenOf], ?_⟩
    intro size n _ hn
    have : n = 0 := by simpa using hn
    subst this
    cases base <;> simp [Builtin.firstCells, loadCells, loadCellsFrom]
  · have hfl := y0o k3
    refine ⟨(List.range (flatL xs).length).map f, ⟨by simp, ?_⟩, ?_, k4, by simp [Builtin.lenOf], ?_⟩
    · intro i x d hx hd
      have hi : i < (flatL xs).length := (List.getElem?_eq_some_iff.1 hx).1
      simp [hi] at hd
      subst hd
      exact k7 i x hx
    · intro d hd
      simp only [List.mem_map, List.mem_range] at hd
      obtain ⟨i, hi, rfl⟩ := hd
      exact k6 i _ (List.getElem?_eq_getElem hi)
    · intro size n hw hn
      by_cases he : xs = []
      · subst he
        have : n = 0 := by simpa using hn
        subst this
        simp [Builtin.firstCells, loadCells, loadCellsFrom]
      · have hsz : size = es := by
          cases xs with
          | nil => exact absurd rfl he
          | cons x xs => rw [← hw x (by simp), k3 x (by simp)]
        subst hsz
        refine y44 (m := xs.length) (by simp [hfl]) hn ?_
        intro j v hv
        have hj : j < (flatL xs).length := by
          have := (List.getElem?_eq_some_iff.1 hv).1
          simpa using this
        simp [hj] at hv
        subst hv
        exact hR.mem _ _ _ (k5 j _ (List.getElem?_eq_getElem hj))
theorem gl_holds {P : Program} {Γ : Gh} {H : Heap} {w : World} {o len es : Nat} {ys : List AVal} {op : Option Nat} {c : Value} (hR : Rel Γ H w) (hb : H[o]? = some (.grow es ys op)) (hlen : ys.length = len) (h : Rep Γ (.gl o len) c) :
    ∃ ds, Holds P Γ w ys c ds := by
  subst hlen
  obtain ⟨c0, k1, k0, k2, k3⟩ := hR.blk _ _ hb
  obtain ⟨ad, cap0, hcs, hT, had⟩ := h.gl_inv
  rw [hcs] at hT
  rw [k1] at hT
  cases hT
  rcases k3 with ⟨_, k3⟩ | ⟨g, cap, cs, ty, e1, _, e3, e4, e5, e6, e7, e8, e9, _, _, _⟩
  · rw [hcs]
    exact lst_holds hR k3
  · rw [hcs]
    have hfl := y0o e7
    have htl : (cs.toList.take (flatL ys).length).length = ys.length * es := by
      rw [List.length_take, hfl, Nat.min_eq_left (by simpa [e5] using Nat.mul_le_mul_right _ e4)]
    refine ⟨cs.toList.take (flatL ys).length, e8, fun d hd => e9 d (List.mem_of_mem_take hd), k2, by simp [Builtin.lenOf], ?_⟩
    intro size n hw hn
    by_cases he : ys = []
    · subst he
      have : n = 0 := by simpa using hn
      subst this
      cases ad <;> simp [Builtin.firstCells, loadCells, loadCellsFrom]
    · have hsz : size = es := by
        cases ys with
        | nil => exact absurd rfl he
        | cons x xs => rw [← hw x (by simp), e7 x (by simp)]
      subst hsz
      rw [e1]
      refine y44 (m := ys.length) htl hn ?_
      intro j v hv
      rw [List.getElem?_take] at hv
      split at hv
      · simp only [World.cell?, e3]
        simpa using hv
      · cases hv
theorem y4h {P : Program} {Γ : Gh} {H : Heap} {w : World} {v : AVal} {ys : List AVal} {c : Value} (hR : Rel Γ H w) (hv : elemsOf H v = some ys) (h : Rep Γ v c) :
    ∃ ds, Holds P Γ w ys c ds := by
  cases v <;> simp only [elemsOf, reduceCtorEq] at hv
  case lst xs e => cases hv; exact lst_holds hR h
  case emp b => cases hv; exact lst_holds hR h.emp_lst
  case gl o len =>
    split at hv
    · rename_i es xs op hb
      split at hv
      · rename_i hlen
        cases hv
        exact gl_holds hR hb hlen h
      · cases hv
    · cases hv
  case str s =>
    cases hv
    have hc := h.str_inv
    subst hc
    have hflat : ∀ l : List UInt8, flatL (l.map fun b => AVal.int .u8 b.toNat) = l.map fun b => AVal.int .u8 b.toNat := by
      intro l
      induction l with
      | nil => rfl
      | cons b l ih => simp [flatL, AVal.flat, ih]
    refine ⟨s.map fun b => .int .u8 b.toNat, ⟨by rw [hflat]; simp, ?_⟩, ?_, by intro y hy; simp at hy; obtain ⟨b, _, rfl⟩ := hy; rfl, by simp [Builtin.lenOf, y4q], ?_⟩
    · intro i x d hx hd
      rw [hflat] at hx
      simp at hx hd
      obtain ⟨b, hb, rfl⟩ := hx
      rw [hb] at hd
      simp at hd
      subst hd
      exact .int _ _
    · intro d hd
      simp at hd
      obtain ⟨b, _, rfl⟩ := hd
      rfl
    · intro size n hw hn
      by_cases he : s = []
      · subst he
        have : n = 0 := by simpa using hn
        subst this
        simp [Builtin.firstCells]
      · have hsz : size = 1 := by
          cases s with
          | nil => exact absurd rfl he
          | cons b s => rw [← hw (.int .u8 b.toNat) (by simp)]; rfl
        subst hsz
        simp [Builtin.firstCells]
  case sl b off len cap wd =>
    unfold y4s at hv
    split at hv
    · rename_i vs hb
      split at hv
      · rename_i hle
        obtain ⟨g, cs, ty, h1, h2, h3, h4, h5, h6⟩ := hR.cells hb
        obtain ⟨g', rfl, hmu⟩ := h.sl_inv
        rw [h1] at hmu; cases hmu
        have hone : ∀ d, d ∈ cs.toList.drop off → d.oneCell' = true := fun d hd => h6 d (List.mem_of_mem_drop hd)
        obtain ⟨r1, r2⟩ := y4f hR hv (y3z (w := wd) (n := len) (h5.drop off) hone)
        have hr := y5c r1
        rw [y4i hone] at hr
        have hlen : ys.length = len := by
          rw [← r1.1]
          have := (y3z (w := wd) (n := len) (h5.drop off) hone).1
          rw [this, y40 (by simp; omega)]
        refine ⟨_, hr, fun d hd => hone d (List.mem_of_mem_take hd), r2, by simp [Builtin.lenOf, hlen], ?_⟩
        intro size n hw hn
        have hfl := y0o hw
        refine y44 (m := ys.length) (by rw [hr.1, hfl]) hn ?_
        intro j v hj
        rw [List.getElem?_take] at hj
        split at hj
        · rw [List.getElem?_drop] at hj
          rw [cell_at h3]
          simpa using hj
        · cases hj
      · cases hv
    · cases hv
end Go.Ev
namespace Go.Ev
set_option linter.unusedVariables false
set_option linter.unusedSimpArgs false
open Go
def zlenB (P : Program) (t es : Nat) : Bool :=
  match P.info? t with
  | some i => match i.zero with
    | some z => decide (z.cells.size = es) && z.cells.toList.all (·.oneCell')
    | none => false
  | none => false
def keyB (P : Program) (ks : Bool) (t : TypeId) (q : TypeId → Bool) : Bool :=
  match P.underlying t with
  | some (.map k e) => (match P.underlying k with | some (.int _) => !ks | some .string => ks | _ => false) && q e
  | _ => false
def chkBs : List (Nat × AOpd) → List (Nat × Operand) → Bool
  | [], [] => true
  | (i, x) :: r, (j, y) :: s => decide (i = j) && chkO x y && chkBs r s
  | _, _ => false
def args1 (l : List Operand) (q : Operand → Bool) : Bool :=
  match l with
  | [x] => q x
  | _ => false
def args2 (l : List Operand) (q : Operand → Operand → Bool) : Bool :=
  match l with
  | [x, y] => q x y
  | _ => false
def isIntB (P : Program) (t : TypeId) : Option Bool :=
  match P.underlying t with
  | some (.int _) => some true
  | some (.slice _) => some false
  | some .string => some false
  | _ => none
def lenTy (P : Program) (k : LenK) (t : TypeId) : Bool :=
  match P.underlying t with
  | some (.slice _) => decide (k = .slice)
  | some .string => decide (k = .str)
  | some (.map _ _) => decide (k = .map)
  | _ => false
def builtinB (c : Call) (b : Builtin) : Bool :=
  match c.callee with
  | .builtin b' => decide (b' = b)
  | _ => false
def chkN (P : Program) (p : AOp) (op : Op) : Bool :=
  match p with
  | .alloc zs => match op with
    | .alloc t => zeroB P t zs
    | _ => false
  | .box x => match op with
    | .box _ y => chkO x y
    | _ => false
  | .mks es bytes wd zs l c => match op with
    | .makeSlice t l' c' => chkO l l' && chkO c c' && decide (0 < es) && elemB P t fun e => sizeB P e es && bytesB P e bytes && zeroB P e zs
    | _ => false
  | .mkm => match op with
    | .makeMap t r => r.isNone
    | _ => false
  | _ => false
def chkH (P : Program) (p : AOp) (op : Op) : Bool :=
  match p with
  | .ia es x i => match op with
    | .indexAddr t y j => chkO x y && chkO i j && elemB P t fun e => sizeB P e es
    | _ => false
  | .bsl es z len parts => match op with
    | .buildSlice t len' ps => decide (len = len') && decide (0 < es) && chkBs parts ps.toList && elemB P t fun e => sizeB P e es && zvalB P e z && lowV 0 z && z.solid
    | _ => false
  | .lds x => match op with
    | .load t y => chkO x y && decide (aggB P t = some false)
    | _ => false
  | .lda n x => match op with
    | .load t y => chkO x y && decide (aggB P t = some true) && sizeB P t n
    | _ => false
  | .sts x v => match op with
    | .store t y u => chkO x y && chkO v u && sizeB P t 1
    | _ => false
  | .sta n x v => match op with
    | .store t y u => chkO x y && chkO v u && sizeB P t n
    | _ => false
  | .stk n x v => match op with
    | .store t y u => chkO x y && chkO v u && sizeB P t n
    | _ => false
  | .slc es x lo hi mx => match op with
    | .slice t y lo' hi' mx' => chkO x y && chkOpt lo lo' && chkOpt hi hi' && chkOpt mx mx' && elemB P t fun e => sizeB P e es
    | _ => false
  | .slca len es wd x lo hi mx => match op with
    | .slice t y lo' hi' mx' => chkO x y && chkOpt lo lo' && chkOpt hi hi' && chkOpt mx mx' && arrB P t len fun e => sizeB P e es
    | _ => false
  | .len k x => match op with
    | .call c => builtinB c .len && args1 c.args.toList (chkO x) && (match c.argTypes[0]? with | some t => lenTy P k t | none => false)
    | _ => false
  | .cap x => match op with
    | .call c => builtinB c .cap && args1 c.args.toList (chkO x) && (match c.argTypes[0]? with | some t => lenTy P .slice t | none => false)
    | _ => false
  | .app es bytes opn s x => match op with
    | .call c => builtinB c .append && args2 c.args.toList (fun y z => chkO s y && chkO x z) && decide (0 < es) && decide (0 < bytes) &&
      (match c.argTypes.toList with
        | [t, u] => decide (isIntB P u = some false) && elemB P t fun e => sizeB P e es && bytesB P e bytes && zlenB P e es
        | _ => false)
    | _ => false
  | .appz es bytes z s n => match op with
    | .call c => builtinB c .append && args2 c.args.toList (fun y m => chkO s y && chkO n m) && decide (0 < es) && decide (0 < bytes) &&
      (match c.argTypes.toList with
        | [t, u] => decide (isIntB P u = some true) && elemB P t fun e => sizeB P e es && bytesB P e bytes && zlenB P e es && zvalB P e z && lowV 0 z
        | _ => false)
    | _ => false
  | .copy es d s => match op with
    | .call c => builtinB c .copy && args2 c.args.toList (fun y z => chkO d y && chkO s z) && (match c.argTypes[0]? with | some t => elemB P t fun e => sizeB P e es | none => false)
    | _ => false
  | .clear es zs x => match op with
    | .call c => builtinB c .clear && args1 c.args.toList (chkO x) && decide (0 < es) && (match c.argTypes[0]? with | some t => elemB P t fun e => sizeB P e es && zeroB P e zs | none => false)
    | _ => false
  | .look ks ok z m k => match op with
    | .lookup t m' k' ok' => decide (ok = ok') && chkO m m' && chkO k k' && keyB P ks t fun e => zvalB P e z
    | _ => false
  | .upd ks m k v => match op with
    | .mapUpdate t m' k' v' => chkO m m' && chkO k k' && chkO v v' && keyB P ks t fun _ => true
    | .insert t m' k' v' => chkO m m' && chkO k k' && chkO v v' && keyB P ks t fun _ => true
    | _ => false
  | _ => false
section
variable {P : Program} {Γ : Gh} {e : Env} {a : Act}
def Done (P : Program) (o : Oper) (a : Act) (w : World) (Γ : Gh) (v : AVal) (H' : Heap) : Prop :=
  ∃ nx c w' Γ', (execOp a.eval o).run P w = .ok nx w' ∧ (nx = .value c ∨ (nx = .skip ∧ c = undef)) ∧ Rep Γ' v c ∧ Rel Γ' H' w' ∧ Stp Γ w Γ' w'
theorem Done.same {o : Oper} {w : World} {v : AVal} {c : Value} {H : Heap} (hR : Rel Γ H w) (h : (execOp a.eval o).run P w = .ok (.value c) w) (hr : Rep Γ v c) : Done P o a w Γ v H :=
  ⟨_, c, w, Γ, h, .inl rfl, hr, hR, Stp.refl Γ w⟩
theorem y2f {t : TypeId} {q : TypeId → Bool} (h : elemB P t q = true) : ∃ el, P.underlying t = some (.slice el) ∧ q el = true := by
  unfold elemB at h
  split at h
  · rename_i el hu; exact ⟨el, hu, h⟩
  · cases h
theorem y55 {t n : Nat} (h : bytesB P t n = true) : ∃ i, P.info? t = some i ∧ i.bytes = n := by
  unfold bytesB at h
  split at h
  · rename_i i hi; exact ⟨i, hi, by simpa using h⟩
  · cases h
theorem y41 {t n : Nat} (h : sizeB P t n = true) : ∃ i, P.info? t = some i ∧ i.size = n := by
  unfold sizeB at h
  split at h
  · rename_i i hi; exact ⟨i, hi, by simpa using h⟩
  · cases h
theorem y8j {t : TypeId} {zs : List AVal} (h : zeroB P t zs = true) : ∃ i z, P.info? t = some i ∧ i.zero = some z ∧ Reps Γ zs z.cells.toList ∧ ∀ c, c ∈ z.cells.toList → c.oneCell' = true := by
  unfold zeroB at h
  split at h
  · rename_i i hi
    split at h
    · rename_i z hz
      simp only [Bool.and_eq_true] at h
      exact ⟨i, z, hi, hz, y7b Γ h.1, List.all_eq_true.1 h.2⟩
    · cases h
  · cases h
theorem y8u (l : List Value) (f : Nat → Value) (hf : ∀ j, j < l.length → f j = l.getD j undef) (n : Nat) : (List.range (n * l.length)).map (fun i => f (i % l.length)) = (List.replicate n l).flatten := by
  induction n with
  | zero => simp
  | succ n ih =>
    rw [Nat.add_mul, Nat.one_mul, List.range_add, List.map_append, ih, List.replicate_succ', List.flatten_append]
    congr 1
    simp only [List.map_map, List.flatten_cons, List.flatten_nil, List.append_nil]
    apply List.ext_getElem
    · simp
    · intro i h1 h2
      have hi : i < l.length := h2
      simp only [List.getElem_map, List.getElem_range, Function.comp]
      have hmod : (n * l.length + i) % l.length = i := by
        rw [Nat.mul_comm, Nat.mul_add_mod, Nat.mod_eq_of_lt hi]
      rw [hmod, hf i hi]
      simp [List.getD, hi]
theorem zeros_eq (z : Array Value) (n : Nat) : ((Array.range (n * z.size)).map (fun i => z[i % z.size]!)).toList = (List.replicate n z.toList).flatten := by
  have := y8u z.toList (fun i => z[i]!) (by
    intro j hj
    simp at hj
    simp [hj, List.getD]) n
  simp only [Array.length_toList] at this
  rw [← this]
  simp
theorem y4x (zs : List AVal) (n : Nat) : flatL (List.replicate n (.agg zs)) = (List.replicate n zs).flatten := by
  induction n with
  | zero => rfl
  | succ n ih => simp [List.replicate_succ, flatL, AVal.flat, ih]
theorem y3f {zs : List AVal} {ds : List Value} (h : Reps Γ zs ds) (n : Nat) : Reps Γ (List.replicate n zs).flatten (List.replicate n ds).flatten := by
  induction n with
  | zero => exact Reps.nil Γ
  | succ n ih => simp only [List.replicate_succ, List.flatten_cons]; exact h.append ih
theorem y4c {ds : List Value} (h : ∀ d, d ∈ ds → d.oneCell' = true) (n : Nat) : ∀ d, d ∈ (List.replicate n ds).flatten → d.oneCell' = true := by
  intro d hd
  simp only [List.mem_flatten, List.mem_replicate] at hd
  obtain ⟨l, ⟨_, rfl⟩, hd⟩ := hd
  exact h d hd
theorem wrap_i64 {n : Int} (h0 : -9223372036854775808 ≤ n) (h1 : n < 9223372036854775808) : IntKind.i64.wrap n = n := by
  unfold IntKind.wrap
  simp only [IntKind.signed, IntKind.bits]
  simp
  omega
theorem evN_sound {o : Oper} {p : AOp} {v : AVal} {B : ABlock} {id : Nat} {H H' : Heap} {w : World} (he : EnvRel Γ e a.tmps) (hR : Rel Γ H w) (hk : chkN P p o.op = true) (hv : evN e id p = some (v, B)) (hn : newAt H id B = some H') :
    Done P o a w Γ v H' := by
  obtain ⟨dst, op, ty, pos, after, guard⟩ := o
  simp only at hk
  cases p <;> simp only [evN, reduceCtorEq] at hv
  case alloc zs =>
    cases op <;> simp only [chkN, Bool.false_eq_true] at hk
    rename_i t
    cases hv
    obtain ⟨z, hz, hr, h1⟩ := run_zeroB (Γ := Γ) hk w
    obtain ⟨r1, r2, r3⟩ := hR.newCells (ty := t) hn hr h1
    refine ⟨.value (.pointer (some ⟨w.heap.size, 0, none⟩)), _, w.alloc (.cells z.cells t), _, ?_, .inl rfl, .ptr r3, r1, r2⟩
    simp [execOp, Instr.alloc, hz, newVar, newRow]
  case box x =>
    cases op <;> simp only [chkN, Bool.false_eq_true] at hk
    rename_i t y
    split at hv
    · rename_i u hu
      split at hv
      · rename_i hs
        cases hv
        have hrep := ev_rep he hk hu
        have ht : ∀ vs, u ≠ .tup vs := by intro vs hvs; subst hvs; simp [AVal.solid] at hs
        obtain ⟨r1, r2, r3⟩ := hR.newCells (ty := t) (cs := (a.eval y).cells) hn hrep.cells (hrep.cells_one ht)
        refine ⟨.value (.pointer (some ⟨w.heap.size, 0, none⟩)), _, w.alloc (.cells (a.eval y).cells t), _, ?_, .inl rfl, .ptr r3, r1, r2⟩
        simp [execOp, Instr.box, newVar, newRow]
      · cases hv
    · cases hv
  case mks es bytes wd zs l c =>
    cases op <;> simp only [chkN, Bool.false_eq_true, Bool.and_eq_true, decide_eq_true_eq] at hk
    rename_i t l' c'
    obtain ⟨⟨⟨hkl, hkc⟩, hes⟩, hke⟩ := hk
    obtain ⟨el, hu, hq⟩ := y2f hke
    simp only [Bool.and_eq_true] at hq
    obtain ⟨⟨hsz, hby⟩, hze⟩ := hq
    split at hv
    · rename_i k1 lv k2 cv hl hc
      split at hv
      · rename_i hcond
        cases hv
        have e1 := (ev_rep he hkl hl).int_inv
        have e2 := (ev_rep he hkc hc).int_inv
        obtain ⟨i, hi, hib⟩ := y55 hby
        obtain ⟨i', hi', his⟩ := y41 hsz
        rw [hi] at hi'; cases hi'
        obtain ⟨i2, z, hi2, hz, hr, h1⟩ := y8j (Γ := Γ) hze
        rw [hi] at hi2; cases hi2
        obtain ⟨h0, h1', h2, h3, h4, h5⟩ := hcond
        have hzs : z.cells.size = es := by
          have := hr.1
          simp at this
          omega
        have hcells : Reps Γ (flatL (List.replicate cv.toNat (.agg zs))) ((Array.range (cv.toNat * es)).map (fun i => z.cells[i % z.cells.size]!)).toList := by
          rw [y4x, ← hzs, zeros_eq]
          exact y3f hr _
        have hone : ∀ c, c ∈ ((Array.range (cv.toNat * es)).map (fun i => z.cells[i % z.cells.size]!)).toList → c.oneCell' = true := by
          rw [← hzs, zeros_eq]
          exact y4c h1 _
        obtain ⟨r1, r2, r3⟩ := hR.newCells (ty := el) hn hcells hone
        refine ⟨.value (.slice (some ⟨w.heap.size, 0, none⟩) lv.toNat cv.toNat), _, _, _, ?_, .inl rfl, .sl r3, r1, r2⟩
        have w1 := wrap_i64 (n := lv) (by omega) (by omega)
        have w2 := wrap_i64 (n := cv) (by omega) (by omega)
        have b1 : ¬ cv < 0 := by omega
        have b2 : ¬ 281474976710656 < (bytes : Int) * cv := by omega
        have b3 : ¬ lv < 0 := by omega
        have b4 : ¬ cv < lv := by omega
        simp only [execOp, Instr.makeSlice, Sem.run_bind, run_underlying hu, Result.andThen_ok, e1, e2, asInt, asIntOf, Sem.run_pure, run_typeInfo _ hi, hib, w1, w2, sizeOf, his, run_askRoom]
        by_cases hc0 : cv.toNat * es = 0
        · have hc1 : cv.toNat = 0 := by
            rcases Nat.mul_eq_zero.1 hc0 with h | h
            · exact h
            · omega
          have r0 : Array.range 0 = #[] := rfl
          simp [b1, b2, b3, b4, hc1, newRow, run_typeInfo _ hi, r0]
        · simp [b1, b2, b3, b4, hc0, newRow, zeroValue, run_typeInfo _ hi, hz, his]
      · cases hv
    · cases hv
  case mkm =>
    cases op <;> simp only [chkN, Bool.false_eq_true] at hk
    rename_i t r
    cases hv
    have : r = none := by simpa using hk
    subst this
    obtain ⟨r1, r2, r3⟩ := hR.newMap hn
    refine ⟨.value (.map (some w.heap.size)), _, w.alloc (.map #[] 0), _, ?_, .inl rfl, .map r3, r1, r2⟩
    simp [execOp, Instr.makeMap]
theorem y6x {t : TypeId} {v : AVal} (h : zvalB P t v = true) : ∃ i z, P.info? t = some i ∧ i.zero = some z ∧ Rep Γ v z ∧ ∀ c, c ∈ z.cells.toList → c.oneCell' = true := by
  unfold zvalB at h
  split at h
  · rename_i i hi
    split at h
    · rename_i z hz
      simp only [Bool.and_eq_true] at h
      exact ⟨i, z, hi, hz, chkV_rep Γ h.1, List.all_eq_true.1 h.2⟩
    · cases h
  · cases h
def Gh.mem (Γ : Gh) (g : Nat) (cs : Array Value) : Gh := { Γ with M := fun k j => if k = g then cs[j]? else Γ.M k j }
theorem Rel.newMem {H : Heap} {w : World} {cs : Array Value} {ty : TypeId} (hR : Rel Γ H w) :
    Rel (Γ.mem w.heap.size cs) H (w.alloc (.cells cs ty)) ∧ Stp Γ w (Γ.mem w.heap.size cs) (w.alloc (.cells cs ty)) := by
  have hle : Γ.le (Γ.mem w.heap.size cs) := by
    refine ⟨?_, fun _ _ h => h, fun _ _ _ h => h⟩
    intro g o c h
    have := hR.memLt h
    simp only [Gh.mem]
    rw [if_neg (by omega)]; exact h
  refine ⟨⟨?_, ?_, hR.dom, ?_⟩, ⟨hle, fun _ _ h => h, ?_, by simp, fun g hg _ => y29 w _ hg, rfl, rfl, rfl⟩⟩
  · intro g o c h
    simp only [Gh.mem] at h
    split at h
    · rename_i e; subst e
      rw [cell_at (y3u w _)]; exact h
    · rw [y4m w _ (hR.memLt h)]; exact hR.mem g o c h
  · intro b B hb
    refine (hR.blk b B hb).step hle ?_ ⟨rfl, fun _ => rfl⟩
    intro g hg
    have := hR.owned g b hg
    refine ⟨hg, y29 w _ this, ?_⟩
    intro o
    simp only [Gh.mem]
    rw [if_neg (by omega)]
  · intro g b hg
    have := hR.owned g b hg
    simp; omega
  · intro g o hg _
    simp only [Gh.mem]
    rw [if_neg (by omega)]
theorem lst_mem {xs : List AVal} {es cap g : Nat} {cs : Array Value} (hM : ∀ j, j < cs.size → Γ.M g j = cs[j]?) (hw : ∀ x, x ∈ xs → x.width = es) (hf : ∀ x, x ∈ xs → rfree x) (hr : Reps Γ (flatL xs) (cs.toList.take (flatL xs).length))
    (h1 : ∀ c, c ∈ cs.toList → c.oneCell' = true) (hc : xs.length ≤ cap) {e : Bool} (he : e = true → cap = xs.length) : Rep Γ (.lst xs e) (.slice (some ⟨g, 0, none⟩) xs.length cap) := by
  have get : ∀ (j : Nat) (c : AVal), (flatL xs)[j]? = some c → ∃ d, cs[j]? = some d ∧ Γ.M g (0 + j) = some d ∧ d.oneCell' = true ∧ Rep Γ c d := by
    intro j c hj
    obtain ⟨d, hd, hrep⟩ := hr.get hj
    have hlt : j < (flatL xs).length := (List.getElem?_eq_some_iff.1 hj).1
    rw [List.getElem?_take, if_pos hlt] at hd
    have hd' : cs[j]? = some d := by simpa using hd
    have hj2 : j < cs.size := (Array.getElem?_eq_some_iff.1 hd').1
    exact ⟨d, hd', by rw [Nat.zero_add, hM j hj2, hd'], h1 d (List.mem_of_getElem? hd), hrep⟩
  refine .lst (fun j => cs.getD j undef) hc he hw hf ?_ ?_ ?_
  · intro j c hj
    obtain ⟨d, hd, hm, _, _⟩ := get j c hj
    rw [hm]; simp [Array.getD_eq_getD_getElem?, hd]
  · intro j c hj
    obtain ⟨d, hd, _, h1, _⟩ := get j c hj
    simp [Array.getD_eq_getD_getElem?, hd, h1]
  · intro j c hj
    obtain ⟨d, hd, _, _, hrep⟩ := get j c hj
    simpa [Array.getD_eq_getD_getElem?, hd] using hrep
theorem flatL_set {es : Nat} {v : AVal} : ∀ {xs : List AVal} {i : Nat}, (∀ x, x ∈ xs → x.width = es) → v.width = es → i < xs.length → flatL (xs.set i v) = putCells (i * es) v.flat (flatL xs)
  | [], i, _, _, h => by simp at h
  | x :: xs, 0, hw, hv, _ => by
    have hx : x.flat.length = es := hw x (by simp)
    have hv' : v.flat.length = es := hv
    simp only [List.set_cons_zero, flatL, putCells, Nat.zero_mul, List.take_zero, List.nil_append, Nat.zero_add]
    rw [hv', List.drop_left' hx]
  | x :: xs, i + 1, hw, hv, h => by
    have hx : x.flat.length = es := hw x (by simp)
    have ih := flatL_set (v := v) (xs := xs) (i := i) (fun y hy => hw y (by simp [hy])) hv (by simpa using h)
    simp only [List.set_cons_succ, flatL, ih, putCells]
    have e1 : (i + 1) * es = es + i * es := by rw [Nat.add_mul]; omega
    rw [e1, List.take_append, List.drop_append, hx]
    rw [List.take_of_length_le (l := x.flat) (by omega), List.drop_of_length_le (l := x.flat) (by omega)]
    rw [show es + i * es - es = i * es by omega, show es + i * es + v.flat.length - es = i * es + v.flat.length by omega]
    simp
theorem fillB_put {es : Nat} {H : Heap} {w : World} (hR : Rel Γ H w) (he : EnvRel Γ e a.tmps) : ∀ {parts : List (Nat × AOpd)} {ps : List (Nat × Operand)} {xs xs' : List AVal} {ds : List Value}, chkBs parts ps = true → Reps Γ (flatL xs) ds →
    (∀ d, d ∈ ds → d.oneCell' = true) → (∀ x, x ∈ xs → x.width = es) → (∀ x, x ∈ xs → rfree x) → bslGo e H es parts xs = some xs' →
    ∃ ds', Instr.fill (fun i => some (i * es, es)) ds.toArray (ps.map fun x => (x.1, a.eval x.2)) = some ds'.toArray ∧ Reps Γ (flatL xs') ds' ∧ (∀ d, d ∈ ds' → d.oneCell' = true) ∧ (∀ x, x ∈ xs' → x.width = es) ∧ (∀ x, x ∈ xs' → rfree x) ∧ xs'.length = xs.length
  | [], [], xs, xs', ds, hk, hr, h1, hw, hf, hb => by
    simp [bslGo] at hb; subst hb
    exact ⟨ds, rfl, hr, h1, hw, hf, rfl⟩
  | [], _ :: _, _, _, _, hk, _, _, _, _, _ => by simp [chkBs] at hk
  | _ :: _, [], _, _, _, hk, _, _, _, _, _ => by simp [chkBs] at hk
  | (i, x) :: parts, (j, y) :: ps, xs, xs', ds, hk, hr, h1, hw, hf, hb => by
    simp only [chkBs, Bool.and_eq_true, decide_eq_true_eq] at hk
    obtain ⟨⟨rfl, hko⟩, hk⟩ := hk
    simp only [bslGo] at hb
    split at hb
    · rename_i v hv
      split at hb
      · rename_i v' hsv
        split at hb
        · rename_i hc
          have hrv := ev_rep he hko hv
          obtain ⟨hrv', hfree, hsol⟩ := shut_both hR v v' _ hsv hrv
          have hcv := hrv'.cells
          have ht : ∀ vs, v' ≠ .tup vs := by intro vs hvs; subst hvs; simp [AVal.solid] at hc
          have hone := hrv'.cells_one ht
          have hlen : (a.eval y).cells.toList.length = es := by rw [hcv.1]; exact hc.2.1
          have hdl : ds.length = xs.length * es := by rw [hr.1, y0o hw]
          have hle : i * es + es ≤ ds.length := by
            rw [hdl]
            have : (i + 1) * es ≤ xs.length * es := Nat.mul_le_mul_right _ hc.2.2
            rw [Nat.add_mul] at this; omega
          have hput := hr.put (i * es) hcv
          rw [← flatL_set hw hc.2.1 hc.2.2] at hput
          obtain ⟨ds', hf', hr', h1', hw', hfr', hl'⟩ := fillB_put hR he (ps := ps) (ds := putCells (i * es) (a.eval y).cells.toList ds) hk hput (by
            intro d hd
            simp only [putCells, List.mem_append] at hd
            rcases hd with (hd | hd) | hd
            · exact h1 d (List.mem_of_mem_take hd)
            · exact hone d hd
            · exact h1 d (List.mem_of_mem_drop hd)) (by
            intro z hz
            rcases List.mem_or_eq_of_mem_set hz with hz | hz
            · exact hw z hz
            · subst hz; exact hc.2.1) (by
            intro z hz
            rcases List.mem_or_eq_of_mem_set hz with hz | hz
            · exact hf z hz
            · subst hz; exact hfree) hb
          refine ⟨ds', ?_, hr', h1', hw', hfr', by simpa using hl'⟩
          simp only [List.map_cons, Instr.fill]
          have hsz : (a.eval y).cells.size = es := by simpa using hlen
          rw [if_neg (by simp [hsz]; omega)]
          rw [← hf']
          congr 1
          rw [← Array.foldl_toList]
          have := foldl_put (i * es) (a.eval y).cells.toList 0 ds.toArray (by simp [hsz]; omega)
          simpa using this
        · cases hb
      · cases hb
    · cases hb
theorem bsl_sound {o : Oper} {C : Ctx} {es len id : Nat} {z : AVal} {parts : List (Nat × AOpd)} {v : AVal} {H H' : Heap} {w : World} (he : EnvRel Γ e a.tmps) (hR : Rel Γ H w) (hk : chkH P (.bsl es z len parts) o.op = true)
    (hv : evH C e id H (.bsl es z len parts) = some (.ok v, H')) : Done P o a w Γ v H' := by
  obtain ⟨dst, op, ty, pos, after, guard⟩ := o
  simp only at hk
  cases op <;> simp only [chkH, Bool.false_eq_true, Bool.and_eq_true, decide_eq_true_eq] at hk
  rename_i t len' ps
  obtain ⟨⟨⟨rfl, hes⟩, hkb⟩, hke⟩ := hk
  obtain ⟨el, hu, hq⟩ := y2f hke
  simp only [Bool.and_eq_true] at hq
  obtain ⟨⟨⟨hsz, hz⟩, hlow⟩, hsol⟩ := hq
  obtain ⟨i, hi, his⟩ := y41 hsz
  obtain ⟨i2, zv, hi2, hzv, hrz, h1⟩ := y6x (Γ := Γ) hz
  rw [hi] at hi2; cases hi2
  simp only [evH] at hv
  split at hv
  · rename_i hcond
    split at hv
    · rename_i xs hgo
      simp only [Option.some.injEq, Prod.mk.injEq, Ex.ok.injEq] at hv
      obtain ⟨rfl, rfl⟩ := hv
      have hzc := hrz.cells
      have hzs : zv.cells.size = es := by
        have := hzc.1
        simp at this
        rw [this]; exact hcond.1
      have hrep : Reps Γ (flatL (List.replicate len z)) (List.replicate len zv.cells.toList).flatten := by
        have : flatL (List.replicate len z) = (List.replicate len z.flat).flatten := by
          clear hcond hgo hke
          induction len with
          | zero => rfl
          | succ n ih => simp [List.replicate_succ, flatL, ih]
        rw [this]
        exact y3f hzc _
      have hreps : ∀ x, x ∈ List.replicate len z → x.width = es := by intro x hx; rw [List.eq_of_mem_replicate hx]; exact hcond.1
      have hfree : ∀ x, x ∈ List.replicate len z → rfree x := by intro x hx; rw [List.eq_of_mem_replicate hx]; exact hlow
      obtain ⟨ds', hf, hr', h1', hw', hfr', hl'⟩ := fillB_put hR he (ps := ps.toList) hkb hrep (y4c h1 _) hreps hfree hgo
      have hzeros : (Array.range (len * es)).map (fun k => zv.cells[k % zv.cells.size]!) = (List.replicate len zv.cells.toList).flatten.toArray := by
        apply Array.ext'
        have := zeros_eq zv.cells len
        rw [hzs] at this
        rw [hzs, this]
      obtain ⟨r1, r2⟩ := hR.newMem (cs := ds'.toArray) (ty := el)
      have hlen : xs.length = len := by simpa using hl'
      refine ⟨.value (.slice (some ⟨w.heap.size, 0, none⟩) len len), _, _, _, ?_, .inl rfl, ?_, r1, r2⟩
      · have hf2 : Instr.fill (fun k => some (k * es, es)) ((Array.range (len * es)).map (fun k => zv.cells[k % zv.cells.size]!)) (ps.map fun x => (x.1, a.eval x.2)).toList = some ds'.toArray := by
          rw [hzeros, ← hf]; simp
        simp only [execOp, Instr.buildSlice, Sem.run_bind, run_underlying hu, Result.andThen_ok, sizeOf, run_typeInfo _ hi, Sem.run_pure, his]
        rw [if_neg (by omega)]
        by_cases h0 : len * es = 0
        · have hemp : ((Array.range (len * es)).map (fun k => (#[] : Array Value)[k % (#[] : Array Value).size]!)) = (Array.range (len * es)).map (fun k => zv.cells[k % zv.cells.size]!) := by rw [h0, show Array.range 0 = #[] from rfl]; simp
          simp only [h0, if_true, Sem.run_bind, Sem.run_pure, Result.andThen_ok]
          simp only [h0] at hemp hf2
          rw [hemp, hf2]
          simp [newRow]
        · simp only [h0, if_false, Sem.run_bind, Sem.run_pure, Result.andThen_ok, zeroValue, run_typeInfo _ hi, hzv]
          rw [hf2]
          simp [newRow]
      · have := lst_mem (Γ := Γ.mem w.heap.size ds'.toArray) (g := w.heap.size) (cs := ds'.toArray) (xs := xs) (cap := len) (e := true) (fun j hj => by simp [Gh.mem]) hw' hfr'
          (by
            have hll : ds'.length = (flatL xs).length := hr'.1
            simp only []
            rw [List.take_of_length_le (by simp [hll])]
            exact hr'.mono r2.le) (by simpa using h1') (by omega) (fun _ => hlen.symm)
        rw [hlen] at this
        exact this
    · cases hv
  · cases hv
end
end Go.Ev
namespace Go.Ev
set_option linter.unusedVariables false
set_option linter.unusedSimpArgs false
open Go
theorem y5h {α : Type} {n j : Nat} {f : Nat → α} {v : α} (h : ((List.range n).map f)[j]? = some v) : j < n ∧ v = f j := by
  have hj : j < n := by have := (List.getElem?_eq_some_iff.1 h).1; simpa using this
  rw [List.getElem?_eq_getElem (by simpa using hj)] at h
  simp at h
  exact ⟨hj, h.symm⟩
theorem y2b {α : Type} {off : Nat} {new cs : List α} (h : off + new.length ≤ cs.length) (j : Nat) :
    (putCells off new cs)[j]? = if j < off then cs[j]? else if j < off + new.length then new[j - off]? else cs[j]? := by
  unfold putCells
  rw [List.append_assoc]
  by_cases h1 : j < off
  · rw [if_pos h1, List.getElem?_append_left (by simp; omega), List.getElem?_take, if_pos h1]
  · rw [if_neg h1, List.getElem?_append_right (by simp; omega)]
    have e1 : (cs.take off).length = off := by simp; omega
    rw [e1]
    by_cases h2 : j < off + new.length
    · rw [if_pos h2, List.getElem?_append_left (by omega)]
    · rw [if_neg h2, List.getElem?_append_right (by omega), List.getElem?_drop]
      congr 1; omega
theorem y5k {α : Type} {off n : Nat} {new cs : List α} (h : off + new.length ≤ n) (hn : n ≤ cs.length) : (putCells off new cs).take n = putCells off new (cs.take n) := by
  apply List.ext_getElem?
  intro j
  rw [List.getElem?_take, y2b (by omega), y2b (by simp; omega)]
  by_cases hj : j < n
  · simp only [hj, if_true, List.getElem?_take]
  · simp only [hj, if_false, List.getElem?_take]
    rw [if_neg (by omega), if_neg (by omega)]
theorem _root_.Nat.div_mul_comm_add (b es : Nat) : b / es * es + b % es = b := by rw [Nat.mul_comm]; exact Nat.div_add_mod b es
section
variable {P : Program} {Γ : Gh} {e : Env} {a : Act}
theorem y7a {H : Heap} {w : World} {o l b es f : Nat} {xs : List AVal} {c : Value} (hR : Rel Γ H w) (hb : H[o]? = some (.grow es xs (some f))) (hl : l = xs.length) (hr : Rep Γ (.lptr o l b) c) :
    ∃ g cs ty, c = .pointer (some ⟨g, b, none⟩) ∧ w.heap[g]? = some (.cells cs ty (0, 0)) ∧ (∀ x, x ∈ xs → x.width = es) ∧ Reps Γ (flatL xs) (cs.toList.take (flatL xs).length) ∧ ∀ c, c ∈ cs.toList → c.oneCell' = true := by
  obtain ⟨c', k1, k0, k2, k3⟩ := hR.blk _ _ hb
  rcases k3 with ⟨hbad, _⟩ | ⟨g, cap, cs, ty, rfl, e2, e3, e4, e5, e6, e7, e8, e9, _⟩
  · cases hbad
  · obtain ⟨g', cap', rfl, hT⟩ := hr.lptr_inv
    rw [hl, k1] at hT
    cases hT
    exact ⟨g, cs, ty, rfl, e3, e7, e8, e9⟩
theorem open_get {es b : Nat} {xs : List AVal} {y v : AVal} (h : ∀ x, x ∈ xs → x.width = es) (hy : xs[b / es]? = some y) (hv : y.flat[b % es]? = some v) : (flatL xs)[b]? = some v := by
  have := flatL_get h hy hv
  rwa [Nat.div_mul_comm_add b es] at this
theorem y6r {H : Heap} {w : World} {p v : AVal} {c : Value} {t : TypeId} (hR : Rel Γ H w) (ht : aggB P t = some false) (hv : loadS H p = some v) (hr : Rep Γ p c) :
    ∃ d, (Instr.loadAt t c).run P w = .ok d w ∧ Rep Γ v d := by
  unfold loadS at hv
  split at hv
  · rename_i b off
    split at hv
    · rename_i vs hb
      obtain ⟨g, cs, ty, h1, h2, h3, h4, h5, h6⟩ := hR.cells hb
      obtain ⟨g', rfl, hmu⟩ := hr.ptr_inv
      rw [h1] at hmu; cases hmu
      obtain ⟨d, hd, hrep⟩ := h5.get hv
      refine ⟨d, ?_, hrep⟩
      simp only [Instr.loadAt, Instr.sureAddr, Sem.run_bind, Sem.run_pure, Result.andThen_ok]
      exact y3h ht (by rw [cell_at h3]; simpa using hd)
    · cases hv
  · rename_i x xs
    cases hv
    obtain ⟨g, off, f, rfl, h1, h2, h3, h4⟩ := hr.ro_inv
    refine ⟨f 0, ?_, h4 0 _ rfl⟩
    simp only [Instr.loadAt, Instr.sureAddr, Sem.run_bind, Sem.run_pure, Result.andThen_ok]
    exact y3h ht (by have := hR.mem _ _ _ (h2 0 _ rfl); simpa using this)
  · rename_i o l b
    split at hv <;> first | (cases hv; done) | skip
    rename_i es xs f hb
    split at hv <;> first | (cases hv; done) | skip
    rename_i hl
    split at hv <;> first | (cases hv; done) | skip
    rename_i y hy
    obtain ⟨g, cs, ty, rfl, e3, e7, e8, _⟩ := y7a hR hb hl hr
    obtain ⟨d, hd, hrep⟩ := e8.get (open_get e7 hy hv)
    refine ⟨d, ?_, hrep⟩
    simp only [Instr.loadAt, Instr.sureAddr, Sem.run_bind, Sem.run_pure, Result.andThen_ok]
    refine y3h ht ?_
    rw [cell_at e3]
    rw [List.getElem?_take] at hd
    split at hd
    · simpa using hd
    · cases hd
  · cases hv
theorem y6i {H : Heap} {w : World} {p v : AVal} {c : Value} {t : TypeId} {n : Nat} (hR : Rel Γ H w) (ht : aggB P t = some true) (hs : sizeB P t n = true) (hv : loadA H n p = some v) (hr : Rep Γ p c) :
    ∃ d, (Instr.loadAt t c).run P w = .ok d w ∧ Rep Γ v d := by
  unfold loadA at hv
  split at hv
  · rename_i b off
    split at hv
    · rename_i vs hb
      split at hv
      · rename_i hle
        cases hv
        obtain ⟨g, cs, ty, h1, h2, h3, h4, h5, h6⟩ := hR.cells hb
        obtain ⟨g', rfl, hmu⟩ := hr.ptr_inv
        rw [h1] at hmu; cases hmu
        have hrr := (h5.drop off).take n
        refine ⟨.agg ((cs.toList.drop off).take n).toArray, ?_, .agg hrr.1 hrr.2 (fun d hd => h6 d (List.mem_of_mem_drop (List.mem_of_mem_take hd)))⟩
        simp only [Instr.loadAt, Instr.sureAddr, Sem.run_bind, Sem.run_pure, Result.andThen_ok]
        refine y48 ht hs (by rw [hrr.1]; simp; omega) ?_
        intro j v hj
        rw [List.getElem?_take] at hj
        split at hj
        · rw [List.getElem?_drop] at hj
          rw [cell_at h3]; simpa using hj
        · cases hj
      · cases hv
    · cases hv
  · rename_i xs
    split at hv
    · rename_i hle
      cases hv
      obtain ⟨g, off, f, rfl, h1, h2, h3, h4⟩ := hr.ro_inv
      refine ⟨.agg ((List.range n).map f).toArray, ?_, ?_⟩
      · simp only [Instr.loadAt, Instr.sureAddr, Sem.run_bind, Sem.run_pure, Result.andThen_ok]
        refine y48 ht hs (by simp) ?_
        intro j v hj
        obtain ⟨hjn, rfl⟩ := y5h hj
        exact hR.mem _ _ _ (h2 j _ (List.getElem?_eq_getElem (by omega)))
      · refine .agg (by simp; omega) ?_ ?_
        · intro i x d hx hd
          rw [List.getElem?_take] at hx
          split at hx
          · obtain ⟨_, rfl⟩ := y5h hd
            exact h4 i x hx
          · cases hx
        · intro d hd
          simp only [List.mem_map, List.mem_range] at hd
          obtain ⟨i, hi, rfl⟩ := hd
          exact h3 i _ (List.getElem?_eq_getElem (by omega))
    · cases hv
  · rename_i o l b
    split at hv <;> first | (cases hv; done) | skip
    rename_i es xs f hb
    split at hv <;> first | (cases hv; done) | skip
    rename_i hl
    split at hv <;> first | (cases hv; done) | skip
    rename_i y hy
    cases hv
    obtain ⟨g, cs, ty, rfl, e3, e7, e8, e9⟩ := y7a hR hb hl.1 hr
    have hyw : y.flat.length = es := e7 y (List.mem_of_getElem? hy)
    have hdt : (y.flat.drop (b % es)).take n = ((flatL xs).drop b).take n := by
      apply List.ext_getElem?
      intro j
      rw [List.getElem?_take, List.getElem?_take]
      split
      · rename_i hj
        rw [List.getElem?_drop, List.getElem?_drop]
        have hlt : b % es + j < y.flat.length := by omega
        have h1 := flatL_get e7 hy (List.getElem?_eq_getElem hlt)
        rw [List.getElem?_eq_getElem hlt, ← h1, ← Nat.add_assoc, Nat.div_mul_comm_add b es]
      · rfl
    rw [hdt]
    have hrr := (e8.drop b).take n
    have hlen : b + n ≤ (flatL xs).length := by
      rw [y0o e7]
      have h1 : b / es < xs.length := (List.getElem?_eq_some_iff.1 hy).1
      have h2 : (b / es + 1) * es ≤ xs.length * es := Nat.mul_le_mul_right _ h1
      rw [Nat.add_mul] at h2
      have h3 := Nat.div_mul_comm_add b es
      omega
    refine ⟨.agg (((cs.toList.take (flatL xs).length).drop b).take n).toArray, ?_, .agg hrr.1 hrr.2 (fun d hd => e9 d (List.mem_of_mem_take (List.mem_of_mem_drop (List.mem_of_mem_take hd))))⟩
    simp only [Instr.loadAt, Instr.sureAddr, Sem.run_bind, Sem.run_pure, Result.andThen_ok]
    refine y48 ht hs (by rw [hrr.1]; simp; omega) ?_
    intro j v hj
    rw [List.getElem?_take] at hj
    split at hj
    · rw [List.getElem?_drop, List.getElem?_take] at hj
      split at hj
      · rw [cell_at e3]; simpa using hj
      · cases hj
    · cases hj
  · cases hv
theorem lds_sound {o : Oper} {C : Ctx} {id : Nat} {x : AOpd} {v : AVal} {H H' : Heap} {w : World} (he : EnvRel Γ e a.tmps) (hR : Rel Γ H w) (hk : chkH P (.lds x) o.op = true)
    (hv : evH C e id H (.lds x) = some (.ok v, H')) : Done P o a w Γ v H' := by
  obtain ⟨dst, op, ty, pos, after, guard⟩ := o
  simp only at hk
  cases op <;> simp only [chkH, Bool.false_eq_true, Bool.and_eq_true, decide_eq_true_eq] at hk
  rename_i t y
  simp only [evH] at hv
  split at hv
  · rename_i p hp
    unfold okv at hv
    split at hv
    · rename_i u hu
      simp only [Option.some.injEq, Prod.mk.injEq, Ex.ok.injEq] at hv
      obtain ⟨rfl, rfl⟩ := hv
      obtain ⟨d, hd, hrep⟩ := y6r hR hk.2 hu (ev_rep he hk.1 hp)
      exact Done.same hR (exec_v rfl hd) hrep
    · cases hv
  · cases hv
theorem lda_sound {o : Oper} {C : Ctx} {id n : Nat} {x : AOpd} {v : AVal} {H H' : Heap} {w : World} (he : EnvRel Γ e a.tmps) (hR : Rel Γ H w) (hk : chkH P (.lda n x) o.op = true)
    (hv : evH C e id H (.lda n x) = some (.ok v, H')) : Done P o a w Γ v H' := by
  obtain ⟨dst, op, ty, pos, after, guard⟩ := o
  simp only at hk
  cases op <;> simp only [chkH, Bool.false_eq_true, Bool.and_eq_true, decide_eq_true_eq] at hk
  rename_i t y
  simp only [evH] at hv
  split at hv
  · rename_i p hp
    unfold okv at hv
    split at hv
    · rename_i u hu
      simp only [Option.some.injEq, Prod.mk.injEq, Ex.ok.injEq] at hv
      obtain ⟨rfl, rfl⟩ := hv
      obtain ⟨d, hd, hrep⟩ := y6i hR hk.1.2 hk.2 hu (ev_rep he hk.1.1 hp)
      exact Done.same hR (exec_v rfl hd) hrep
    · cases hv
  · cases hv
def Gh.shutM (Γ : Gh) (g n : Nat) (cs : Array Value) : Gh := { Γ with M := fun k j => if k = g then (if j < n then cs[j]? else none) else Γ.M k j }
theorem y7y {H H' : Heap} {w : World} {p v : AVal} {c d : Value} {t : TypeId} {n : Nat} (hR : Rel Γ H w) (hs : sizeB P t n = true) (hv : storeA H n p v = some H') (hr : Rep Γ p c) (hd : Rep Γ v d) :
    ∃ w' Γ', (Instr.storeAt t c d).run P w = .ok () w' ∧ Rel Γ' H' w' ∧ Stp Γ w Γ' w' := by
  unfold storeA at hv
  split at hv
  · rename_i hw
    have ht : ∀ vs, v ≠ .tup vs := by intro vs hvs; subst hvs; simp [AVal.solid] at hw
    have hone := hd.cells_one ht
    have hcells := hd.cells
    have hlen : d.cells.size = n := by
      have := hcells.1
      simp at this
      rw [this]; exact hw.2
    split at hv
    · rename_i b off
      split at hv
      · rename_i vs hb
        split at hv
        · rename_i hle
          cases hv
          obtain ⟨g, cs, ty, h1, h2, h3, h4, h5, h6⟩ := hR.cells hb
          obtain ⟨g', rfl, hmu⟩ := hr.ptr_inv
          rw [h1] at hmu; cases hmu
          have hcl : cs.size = vs.length := by have := h5.1; simpa using this
          obtain ⟨r1, r2⟩ := hR.writeCells (vs' := putCells off v.flat vs) (cs' := (putCells off d.cells.toList cs.toList).toArray) hb h1 h2 h3 h4 (by simpa using h5.put off hcells) (by
            intro c hc
            simp only [putCells, List.mem_append] at hc
            rcases hc with (hc | hc) | hc
            · exact h6 c (List.mem_of_mem_take hc)
            · exact hone c hc
            · exact h6 c (List.mem_of_mem_drop hc))
          refine ⟨_, Γ, ?_, r1, r2⟩
          simp only [Instr.storeAt, Instr.sureAddr, Sem.run_bind, Sem.run_pure, Result.andThen_ok]
          exact y4t hs hlen hone h3 (by omega)
        · cases hv
      · cases hv
    · rename_i o l b
      split at hv
      · rename_i es xs f hb
        split at hv
        · rename_i v' hsv
          split at hv
          · rename_i hc
            cases hv
            obtain ⟨hfi, hil, hbb, hn, hvw⟩ := hc
            have hes : es = n := hn.symm
            subst hes
            subst hbb
            obtain ⟨c', k1, k0, k2, k3⟩ := hR.blk _ _ hb
            obtain ⟨i, rfl⟩ : ∃ i, l = i + 1 := ⟨l - 1, by omega⟩
            simp only [Nat.add_sub_cancel] at hr ⊢
            have hfi : f ≤ i := by omega
            have hin : i < xs.length := by omega
            rcases k3 with ⟨hbad, _⟩ | ⟨g, cap, cs, ty, rfl, e2, e3, e4, e5, e6, e7, e8, e9, e10, e11, e12⟩
            · cases hbad
            · have hp : c = .pointer (some ⟨g, i * es, none⟩) := by
                obtain ⟨g', cap', rfl, hT⟩ := hr.lptr_inv
                rw [hil, k1] at hT
                cases hT; rfl
              subst hp
              obtain ⟨hrv', hfree, _⟩ := shut_both hR v v' d hsv hd
              have hcv := hrv'.cells
              simp only [Option.getD_some] at e10 e11 e12
              have hfl := y0o e7
              have hcap : i * es + es ≤ cs.size := by
                rw [e5]
                have : (i + 1) * es ≤ cap * es := Nat.mul_le_mul_right _ (by omega)
                rw [Nat.add_mul] at this; omega
              have hw' : ∀ x, x ∈ xs.set i v' → x.width = es := by
                intro z hz
                rcases List.mem_or_eq_of_mem_set hz with hz | hz
                · exact e7 z hz
                · subst hz; exact hvw
              have hf' : ∀ x, x ∈ xs.set i v' → rfree x := by
                intro z hz
                rcases List.mem_or_eq_of_mem_set hz with hz | hz
                · exact k2 z hz
                · subst hz; exact hfree
              let cs' : Array Value := (putCells (i * es) d.cells.toList cs.toList).toArray
              have hcs' : cs'.toList = putCells (i * es) d.cells.toList cs.toList := by simp [cs']
              have hsz' : cs'.size = cs.size := by
                have := y1o (i * es) d.cells.toList cs.toList (by simp [hlen]; omega)
                simpa [cs'] using this
              have hold : ∀ j, j < i * es → cs'[j]? = cs[j]? := by
                intro j hj
                have : cs'.toList[j]? = cs.toList[j]? := by
                  rw [hcs', putCells, List.append_assoc, List.getElem?_append_left (by simp; omega), List.getElem?_take, if_pos hj]
                simpa using this
              have hle : Γ.le (Γ.shutM g (xs.length * es) cs') := by
                refine ⟨?_, fun _ _ h => h, fun _ _ _ h => h⟩
                intro k j c hm
                simp only [Gh.shutM]
                split
                · rename_i ek; subst ek
                  by_cases hj : j < f * es
                  · have hfi' : f * es ≤ i * es := Nat.mul_le_mul_right _ hfi
                    have hli : i * es ≤ xs.length * es := Nat.mul_le_mul_right _ (by omega)
                    rw [if_pos (by omega), hold j (by omega), ← e11 j hj]
                    exact hm
                  · rw [e12 j (by omega)] at hm; cases hm
                · exact hm
              have hflen : (flatL (xs.set i v')).length = xs.length * es := by
                rw [y0o hw']; simp
              have hreps : Reps Γ (flatL (xs.set i v')) (cs'.toList.take (flatL (xs.set i v')).length) := by
                rw [hflen, flatL_set e7 hvw hin]
                have hh := (e8.put (i * es) hcv)
                have : (putCells (i * es) d.cells.toList cs.toList).take (xs.length * es) = putCells (i * es) d.cells.toList (cs.toList.take (flatL xs).length) := by
                  rw [hfl]
                  have l1 : (i + 1) * es ≤ xs.length * es := Nat.mul_le_mul_right _ (by omega)
                  rw [Nat.add_mul] at l1
                  have l2 : d.cells.toList.length = es := by simpa using hlen
                  have l3 : xs.length * es ≤ cap * es := Nat.mul_le_mul_right _ e4
                  exact y5k (by omega) (by simp; omega)
                rw [hcs', this]
                exact hh
              obtain ⟨r1, r2⟩ := hR.write (Γ' := Γ.shutM g (xs.length * es) cs') (B := .grow es (xs.set i v') none) (o := .cells cs' ty) (w' := w.setRow g cs') hb e2 hle (fun _ => rfl) (fun _ _ => ⟨rfl, fun _ => rfl⟩)
                (fun k j hk => by simp [Gh.shutM, hk]) (y0y w g cs cs' ty (0, 0) e3) (fun k hk => y2a w g k cs' hk) (y3s w g cs') rfl rfl rfl
                (fun j c hm => by
                  simp only [Gh.shutM, if_true] at hm
                  rw [cell_at (y0y w g cs cs' ty (0, 0) e3)]
                  split at hm
                  · exact hm
                  · cases hm)
                ⟨_, by rw [List.length_set]; exact k1, by rw [List.length_set]; exact k0, hf', .inr ⟨g, cap, cs', ty, by simp, e2, y0y w g cs cs' ty (0, 0) e3, by simpa using e4, hsz'.trans e5, e6, hw', hreps.mono hle, by
                    intro c hc
                    rw [hcs'] at hc
                    simp only [putCells, List.mem_append] at hc
                    rcases hc with (hc | hc) | hc
                    · exact e9 c (List.mem_of_mem_take hc)
                    · exact hone c hc
                    · exact e9 c (List.mem_of_mem_drop hc), by simp, fun j hj => by simp at hj; simp [Gh.shutM, hj], fun j hj => by simp at hj; simp [Gh.shutM]; omega⟩⟩
              refine ⟨_, _, ?_, r1, r2⟩
              simp only [Instr.storeAt, Instr.sureAddr, Sem.run_bind, Sem.run_pure, Result.andThen_ok]
              exact y4t hs hlen hone e3 hcap
          · cases hv
        · cases hv
      · cases hv
    · cases hv
  · cases hv
theorem y8r {off : Nat} {v y : AVal} (h0 : 0 < v.flat.length) (h : off + v.flat.length ≤ y.flat.length) : (putEl off v y).flat = putCells off v.flat y.flat := by
  cases y with
  | agg cs => rfl
  | _ =>
    have h' : off + v.flat.length ≤ 1 := h
    have e1 : off = 0 := by omega
    have e2 : v.flat.length = 1 := by omega
    subst e1
    simp only [putEl, putCells, List.take_zero, List.nil_append, Nat.zero_add, e2]
    simp [AVal.flat]
theorem y8f {off es : Nat} {v y : AVal} (hy : y.width = es) (h : (putEl off v y).flat = putCells off v.flat y.flat) (hle : off + v.flat.length ≤ es) : (putEl off v y).width = es := by
  show (putEl off v y).flat.length = es
  rw [h, y1o _ _ _ (by show off + v.flat.length ≤ y.width; omega)]
  exact hy
theorem y84 {off : Nat} {v y : AVal} (hv : rfree v) (hy : rfree y) : rfree (putEl off v y) := by
  unfold putEl
  split
  · refine lowL_iff.2 ?_
    intro c hc
    simp only [putCells, List.mem_append] at hc
    rcases hc with (hc | hc) | hc
    · exact y3y hy c (List.mem_of_mem_take hc)
    · exact y3y hv c hc
    · exact y3y hy c (List.mem_of_mem_drop hc)
  · exact hv
theorem y7x {H H' : Heap} {w : World} {p v : AVal} {c d : Value} {t : TypeId} {n : Nat} (hR : Rel Γ H w) (hs : sizeB P t n = true) (hv : storeK H n p v = some H') (hr : Rep Γ p c) (hd : Rep Γ v d) :
    ∃ w' Γ', (Instr.storeAt t c d).run P w = .ok () w' ∧ Rel Γ' H' w' ∧ Stp Γ w Γ' w' := by
  unfold storeK at hv
  split at hv <;> first | (cases hv; done) | skip
  rename_i hw
  have ht : ∀ vs, v ≠ .tup vs := by intro vs hvs; subst hvs; simp [AVal.solid] at hw
  have hone := hd.cells_one ht
  have hcells := hd.cells
  have hlen : d.cells.size = n := by
    have := hcells.1
    simp at this
    rw [this]; exact hw.2
  split at hv <;> first | (cases hv; done) | skip
  rename_i o l b
  split at hv <;> first | (cases hv; done) | skip
  rename_i es xs f hb
  split at hv <;> first | (cases hv; done) | skip
  rename_i v' hsv
  split at hv <;> first | (cases hv; done) | skip
  rename_i y hy
  split at hv <;> first | (cases hv; done) | skip
  rename_i hc
  cases hv
  obtain ⟨hfi, hil, hoff, hn0⟩ := hc
  obtain ⟨c', k1, k0, k2, k3⟩ := hR.blk _ _ hb
  have hin : b / es < xs.length := (List.getElem?_eq_some_iff.1 hy).1
  have hym := List.mem_of_getElem? hy
  have hbe := Nat.div_mul_comm_add b es
  generalize hi : b / es = i at *
  generalize ho : b % es = off at *
  rcases k3 with ⟨hbad, _⟩ | ⟨g, cap, cs, ty, rfl, e2, e3, e4, e5, e6, e7, e8, e9, e10, e11, e12⟩
  · cases hbad
  · have hp : c = .pointer (some ⟨g, b, none⟩) := by
      obtain ⟨g', cap', rfl, hT⟩ := hr.lptr_inv
      rw [hil, k1] at hT
      cases hT; rfl
    subst hp
    obtain ⟨hrv', hfree, _⟩ := shut_both hR v v' d hsv hd
    have hcv := hrv'.cells
    have hvl : v'.flat.length = n := by have := hcv.1; simp at this; omega
    simp only [Option.getD_some] at e10 e11 e12
    have hfl := y0o e7
    have hyw := e7 y hym
    have hput := y8r (off := off) (v := v') (y := y) (by omega) (by have : y.flat.length = es := hyw; omega)
    have hpw : (putEl off v' y).width = es := y8f hyw hput (by omega)
    have hw' : ∀ x, x ∈ xs.set i (putEl off v' y) → x.width = es := by
      intro z hz
      rcases List.mem_or_eq_of_mem_set hz with hz | hz
      · exact e7 z hz
      · subst hz; exact hpw
    have hf' : ∀ x, x ∈ xs.set i (putEl off v' y) → rfree x := by
      intro z hz
      rcases List.mem_or_eq_of_mem_set hz with hz | hz
      · exact k2 z hz
      · subst hz; exact y84 hfree (k2 y hym)
    have hli : (i + 1) * es ≤ xs.length * es := Nat.mul_le_mul_right _ hin
    rw [Nat.add_mul] at hli
    have hlc : xs.length * es ≤ cap * es := Nat.mul_le_mul_right _ e4
    have hcap : b + n ≤ cs.size := by omega
    let cs' : Array Value := (putCells b d.cells.toList cs.toList).toArray
    have hcs' : cs'.toList = putCells b d.cells.toList cs.toList := by simp [cs']
    have hsz' : cs'.size = cs.size := by
      have := y1o b d.cells.toList cs.toList (by simp [hlen]; omega)
      simpa [cs'] using this
    have hfi' : f * es ≤ i * es := Nat.mul_le_mul_right _ hfi
    have hold : ∀ j, j < f * es → cs'[j]? = cs[j]? := by
      intro j hj
      have : cs'.toList[j]? = cs.toList[j]? := by
        rw [hcs', putCells, List.append_assoc, List.getElem?_append_left (by simp; omega), List.getElem?_take, if_pos (by omega)]
      simpa using this
    have hflat : flatL (xs.set i (putEl off v' y)) = putCells b v'.flat (flatL xs) := by
      rw [flatL_set e7 hpw hin, hput]
      apply List.ext_getElem?
      intro j
      have hyl : y.flat.length = es := hyw
      rw [y2b (off := i * es) (by rw [y1o _ _ _ (by omega), hyl, hfl]; omega), y2b (off := b) (cs := flatL xs) (by rw [hfl]; omega), y1o _ _ _ (by omega), hyl]
      by_cases h1 : j < i * es
      · rw [if_pos h1, if_pos (by omega)]
      · rw [if_neg h1]
        by_cases h2 : j < i * es + es
        · rw [if_pos h2, y2b (by omega)]
          by_cases h3 : j - i * es < off
          · rw [if_pos h3, if_pos (by omega)]
            have := flatL_get e7 hy (List.getElem?_eq_getElem (show j - i * es < y.flat.length by omega))
            rw [List.getElem?_eq_getElem (show j - i * es < y.flat.length by omega), ← this]
            congr 1; omega
          · rw [if_neg h3]
            by_cases h4 : j - i * es < off + v'.flat.length
            · rw [if_pos h4, if_neg (by omega), if_pos (by omega)]
              congr 1; omega
            · rw [if_neg h4, if_neg (by omega), if_neg (by omega)]
              have := flatL_get e7 hy (List.getElem?_eq_getElem (show j - i * es < y.flat.length by omega))
              rw [List.getElem?_eq_getElem (show j - i * es < y.flat.length by omega), ← this]
              congr 1; omega
        · rw [if_neg h2, if_neg (by omega), if_neg (by omega)]
    have hflen : (flatL (xs.set i (putEl off v' y))).length = xs.length * es := by
      rw [y0o hw']; simp
    have hreps : Reps Γ (flatL (xs.set i (putEl off v' y))) (cs'.toList.take (flatL (xs.set i (putEl off v' y))).length) := by
      rw [hflen, hflat]
      have hh := (e8.put b hcv)
      have : (putCells b d.cells.toList cs.toList).take (xs.length * es) = putCells b d.cells.toList (cs.toList.take (flatL xs).length) := by
        rw [hfl]
        have l2 : d.cells.toList.length = n := by simpa using hlen
        exact y5k (by omega) (by simp; omega)
      rw [hcs', this]
      exact hh
    obtain ⟨r1, r2⟩ := hR.write (Γ' := Γ) (B := .grow es (xs.set i (putEl off v' y)) (some f)) (o := .cells cs' ty) (w' := w.setRow g cs') hb e2 (.refl Γ) (fun _ => rfl) (fun _ _ => ⟨rfl, fun _ => rfl⟩)
      (fun k j hk => rfl) (y0y w g cs cs' ty (0, 0) e3) (fun k hk => y2a w g k cs' hk) (y3s w g cs') rfl rfl rfl
      (fun j c hm => by
        rw [cell_at (y0y w g cs cs' ty (0, 0) e3)]
        by_cases hj : j < f * es
        · rw [hold j hj, ← e11 j hj]; exact hm
        · rw [e12 j (by omega)] at hm; cases hm)
      ⟨_, by rw [List.length_set]; exact k1, by rw [List.length_set]; exact k0, hf', .inr ⟨g, cap, cs', ty, by simp, e2, y0y w g cs cs' ty (0, 0) e3, by simpa using e4, hsz'.trans e5, e6, hw', hreps, by
          intro c hc
          rw [hcs'] at hc
          simp only [putCells, List.mem_append] at hc
          rcases hc with (hc | hc) | hc
          · exact e9 c (List.mem_of_mem_take hc)
          · exact hone c hc
          · exact e9 c (List.mem_of_mem_drop hc), by simpa using e10, fun j hj => by simp only [Option.getD_some] at hj; rw [hold j hj]; exact e11 j hj, fun j hj => e12 j (by simpa using hj)⟩⟩
    refine ⟨_, _, ?_, r1, r2⟩
    simp only [Instr.storeAt, Instr.sureAddr, Sem.run_bind, Sem.run_pure, Result.andThen_ok]
    exact y4t hs hlen hone e3 hcap
end
end Go.Ev
namespace Go.Ev
set_option linter.unusedVariables false
set_option linter.unusedSimpArgs false
open Go
section
variable {P : Program} {Γ : Gh} {e : Env} {a : Act}
theorem y85 {u : TypeId} (h : isIntB P u = some true) : ∃ k, P.underlying u = some (.int k) := by
  unfold isIntB at h
  split at h <;> first | (rename_i k hu; exact ⟨k, hu⟩) | cases h
theorem y7w {u : TypeId} (h : isIntB P u = some false) : (∃ k, P.underlying u = some (.slice k)) ∨ P.underlying u = some .string := by
  unfold isIntB at h
  split at h
  · cases h
  · rename_i k hu; exact .inl ⟨k, hu⟩
  · rename_i hu; exact .inr hu
  · cases h
theorem y71 {t es : Nat} (h : zlenB P t es = true) : ∃ i z, P.info? t = some i ∧ i.zero = some z ∧ z.cells.size = es ∧ ∀ c, c ∈ z.cells.toList → c.oneCell' = true := by
  unfold zlenB at h
  split at h
  · rename_i i hi
    split at h
    · rename_i z hz
      simp only [Bool.and_eq_true] at h
      exact ⟨i, z, hi, hz, by simpa using h.1, List.all_eq_true.1 h.2⟩
    · cases h
  · cases h
theorem y7l {w : World} {t u ty el : TypeId} {i : TypeInfo} {z : Value} {base : Option Addr} {sLen sCap n : Nat} {cx : Value} {olds news : List Value}
    (ht : P.underlying t = some (.slice el)) (hu : (∃ k, P.underlying u = some (.slice k)) ∨ P.underlying u = some .string) (hi : P.info? el = some i) (hz : i.zero = some z)
    (hlen : (Builtin.lenOf cx).run P w = .ok n w) (hold : (Builtin.firstCells i.size sLen (.slice base sLen sCap)).run P w.drew = .ok olds.toArray w.drew) (hnew : (Builtin.firstCells i.size n cx).run P w.drew = .ok news.toArray w.drew)
    (hgt : sCap < sLen + n) (hb : (sLen + n) * i.bytes ≤ 140737488355328) (hb0 : 0 < i.bytes) :
    ∃ cap, sLen + n ≤ cap ∧ (Builtin.append_ #[t, u] ty #[.slice base sLen sCap, cx]).run P w =
      .ok (.slice (some ⟨w.heap.size, 0, none⟩) (sLen + n) cap) (w.drew.alloc (.cells (olds.toArray ++ news.toArray ++ Builtin.zeroCells z.cells (cap - (sLen + n))) el)) := by
  have hn : ¬ (sLen + n ≤ sCap) := by omega
  have hsmall : sLen + n ≤ 140737488355328 := Nat.le_trans (Nat.le_mul_of_pos_right _ hb0) hb
  have h63' : ¬ (9223372036854775807 < ((sLen : Int) + (n : Int))) := by omega
  have hfit := growslice_fits (old := sCap) hgt hb
  have h48' : ¬ (281474976710656 < Builtin.nextslicecap (sLen + n) sCap * i.bytes) := by omega
  refine ⟨grownCap w (sLen + n) sCap el, ?_, ?_⟩
  · unfold grownCap Question.cut; simp
  · have hmax : IntKind.i64.max = 9223372036854775807 := by decide
    rcases hu with ⟨k, hu⟩ | hu
    all_goals
      simp [Builtin.append_, run_underlying ht, run_underlying hu, sizeOf, run_typeInfo _ hi, zeroValue, hz, hlen, hn, h63', h48', hmax, Question.forced, hold, hnew, newRow, grownCap]
      congr 2
      apply Array.ext'
      simp [List.append_assoc]
theorem y6z {w : World} {t u ty el : TypeId} {i : TypeInfo} {base : Option Addr} {sLen sCap : Nat} {cx : Value}
    (ht : P.underlying t = some (.slice el)) (hu : (∃ k, P.underlying u = some (.slice k)) ∨ P.underlying u = some .string) (hi : P.info? el = some i)
    (hlen : (Builtin.lenOf cx).run P w = .ok 0 w) (hnew : (Builtin.firstCells i.size 0 cx).run P w = .ok #[] w) (hle : sLen ≤ sCap) :
    (Builtin.append_ #[t, u] ty #[.slice base sLen sCap, cx]).run P w = .ok (.slice base sLen sCap) w := by
  rcases hu with ⟨k, hu⟩ | hu
  all_goals
    cases base <;> simp [Builtin.append_, run_underlying ht, run_underlying hu, sizeOf, run_typeInfo _ hi, hlen, hle, hnew, storeCells]
theorem y7u {w : World} {t u ty el : TypeId} {i : TypeInfo} {g sLen sCap n : Nat} {cx : Value} {news : List Value} {cs : Array Value} {ct : TypeId}
    (ht : P.underlying t = some (.slice el)) (hu : (∃ k, P.underlying u = some (.slice k)) ∨ P.underlying u = some .string) (hi : P.info? el = some i)
    (hlen : (Builtin.lenOf cx).run P w = .ok n w) (hnew : (Builtin.firstCells i.size n cx).run P w = .ok news.toArray w) (hle : sLen + n ≤ sCap)
    (hg : w.heap[g]? = some (.cells cs ct (0, 0))) (hfit : sLen * i.size + news.length ≤ cs.size) (h1 : ∀ d, d ∈ news → d.oneCell' = true) :
    (Builtin.append_ #[t, u] ty #[.slice (some ⟨g, 0, none⟩) sLen sCap, cx]).run P w = .ok (.slice (some ⟨g, 0, none⟩) (sLen + n) sCap) (w.setRow g (putCells (sLen * i.size) news cs.toList).toArray) := by
  have hst := run_storeCells_at P g (sLen * i.size) ct news 0 cs w hg (by simpa using hfit) h1
  simp only [Nat.add_zero] at hst
  have hadd := addr_add g 0 (sLen * i.size)
  simp only [Nat.zero_add] at hadd
  rcases hu with ⟨k, hu⟩ | hu
  all_goals
    simp [Builtin.append_, run_underlying ht, run_underlying hu, sizeOf, run_typeInfo _ hi, hlen, hle, hnew, hadd, hst, putCells]
def Gh.list (Γ : Gh) (b g n : Nat) (c : Value) (lim : Nat) (cs : Array Value) : Gh :=
  { M := fun k j => if k = g then (if j < lim then cs[j]? else none) else Γ.M k j, mu := Γ.mu, T := fun o l => if o = b ∧ l = n then some c else Γ.T o l, own := fun k => if k = g then some b else Γ.own k }
theorem Rel.listNew {H H' : Heap} {w : World} {b cap es : Nat} {xs : List AVal} {op : Option Nat} {cs : Array Value} {el : TypeId} (hR : Rel Γ H w) (hH1 : H'[b]? = some (.grow es xs op)) (hH2 : ∀ k, k ≠ b → H'[k]? = H[k]?)
    (hH3 : ∀ k, H'.length ≤ k → H.length ≤ k ∧ k ≠ b) (hT : ∀ l, xs.length ≤ l → Γ.T b l = none) (hf : ∀ x, x ∈ xs → rfree x) (hw : ∀ x, x ∈ xs → x.width = es) (hes : 0 < es) (hsz : cs.size = cap * es) (hcap : xs.length ≤ cap)
    (hr : Reps Γ (flatL xs) (cs.toList.take (flatL xs).length)) (h1 : ∀ c, c ∈ cs.toList → c.oneCell' = true) (hop : op.getD xs.length ≤ xs.length) :
    Rel (Γ.list b w.heap.size xs.length (.slice (some ⟨w.heap.size, 0, none⟩) xs.length cap) (op.getD xs.length * es) cs) H' (w.alloc (.cells cs el)) ∧
    Stp Γ w (Γ.list b w.heap.size xs.length (.slice (some ⟨w.heap.size, 0, none⟩) xs.length cap) (op.getD xs.length * es) cs) (w.alloc (.cells cs el)) := by
  generalize hc : Value.slice (some ⟨w.heap.size, 0, none⟩) xs.length cap = c
  generalize hΓ : Γ.list b w.heap.size xs.length c (op.getD xs.length * es) cs = Γ'
  have hle : Γ.le Γ' := by
    subst hΓ
    refine ⟨?_, fun _ _ h => h, ?_⟩
    · intro g j d h
      have := hR.memLt h
      simp only [Gh.list]
      rw [if_neg (by omega)]; exact h
    · intro o l d h
      simp only [Gh.list]
      split
      · rename_i e; rw [e.1, e.2, hT _ (Nat.le_refl _)] at h; cases h
      · exact h
  refine ⟨⟨?_, ?_, ?_, ?_⟩, ⟨hle, ?_, ?_, by simp, fun g hg _ => y29 w _ hg, rfl, rfl, rfl⟩⟩
  · intro g j d h
    subst hΓ
    simp only [Gh.list] at h
    split at h
    · rename_i e; subst e
      rw [cell_at (y3u w _)]
      split at h
      · exact h
      · cases h
    · rw [y4m w _ (hR.memLt h)]; exact hR.mem g j d h
  · intro k B hk
    by_cases e : k = b
    · subst e
      rw [hH1] at hk
      cases hk
      refine ⟨c, by subst hΓ; simp [Gh.list], ?_, hf, .inr ⟨w.heap.size, cap, cs, el, hc.symm, by subst hΓ; simp [Gh.list], y3u w _, hcap, hsz, hes, hw, hr.mono hle, h1, hop, ?_, ?_⟩⟩
      · intro l hl
        subst hΓ
        simp only [Gh.list]
        rw [if_neg (by omega)]
        exact hT l (by omega)
      · intro j hj; subst hΓ; simp [Gh.list, hj]
      · intro j hj; subst hΓ; simp only [Gh.list, if_true]; rw [if_neg (by omega)]
    · rw [hH2 k e] at hk
      refine (hR.blk k B hk).step hle ?_ ?_
      · intro g hg
        have hlt := hR.owned g k hg
        subst hΓ
        refine ⟨?_, y29 w _ hlt, ?_⟩
        · simp only [Gh.list]; rw [if_neg (by omega)]; exact hg
        · intro o; simp only [Gh.list]; rw [if_neg (by omega)]
      · subst hΓ
        exact ⟨rfl, fun l => by simp only [Gh.list]; rw [if_neg (by intro h; exact e h.1)]⟩
  · intro k hk
    obtain ⟨h2, h3⟩ := hH3 k hk
    obtain ⟨d1, d2⟩ := hR.dom k h2
    subst hΓ
    exact ⟨d1, fun l => by simp only [Gh.list]; rw [if_neg (by intro h; exact h3 h.1)]; exact d2 l⟩
  · intro g k hk
    subst hΓ
    simp only [Gh.list] at hk
    split at hk
    · rename_i e; subst e; simp
    · have := hR.owned g k hk; simp; omega
  · intro g hg ho
    subst hΓ
    simp only [Gh.list]; rw [if_neg (by omega)]; exact ho
  · intro g o hg _
    subst hΓ
    simp only [Gh.list]; rw [if_neg (by omega)]
theorem size_zeroCells' (z : Array Value) (n : Nat) : (Builtin.zeroCells z n).size = n * z.size := by simp [Builtin.zeroCells]
theorem y2c {z : Array Value} (h : ∀ c, c ∈ z.toList → c.oneCell' = true) (n : Nat) : ∀ c, c ∈ (Builtin.zeroCells z n).toList → c.oneCell' = true := by
  have : (Builtin.zeroCells z n).toList = (List.replicate n z.toList).flatten := by
    rw [← zeros_eq]; rfl
  rw [this]
  exact y4c h n
theorem Rep.lst_slice {xs : List AVal} {ee : Bool} {c : Value} (h : Rep Γ (.lst xs ee) c) : ∃ base cap, c = .slice base xs.length cap ∧ xs.length ≤ cap ∧ (ee = true → cap = xs.length) := by
  rcases h.lst_inv with ⟨rfl, base, cap, rfl, hE⟩ | ⟨g, off, cap, es, f, rfl, k1, k2, _⟩
  · exact ⟨base, cap, rfl, Nat.zero_le _, fun h => hE.elim (fun x => x.2) (fun x => x.2 h)⟩
  · exact ⟨_, cap, rfl, k1, k2⟩
theorem y7c {w : World} {t u ty el : TypeId} {i : TypeInfo} {z : Value} {H H' : Heap} {b es sCap : Nat} {base : Option Addr} {xs ys : List AVal} {op : Option Nat} {x : AVal} {cx : Value}
    (hR : Rel Γ H w) (ht : P.underlying t = some (.slice el)) (hu : (∃ k, P.underlying u = some (.slice k)) ∨ P.underlying u = some .string) (hi : P.info? el = some i) (hz : i.zero = some z) (hzs : z.cells.size = es) (hz1 : ∀ c, c ∈ z.cells.toList → c.oneCell' = true)
    (his : i.size = es) (hes : 0 < es) (hb0 : 0 < i.bytes) (hs : ∃ dx, Holds P Γ w.drew xs (.slice base xs.length sCap) dx) (hel : elemsOf H x = some ys) (hrx : Rep Γ x cx)
    (hwx : ∀ y, y ∈ xs → y.width = es) (hwy : ∀ y, y ∈ ys → y.width = es) (hgt : sCap < xs.length + ys.length) (hbd : (xs.length + ys.length) * i.bytes ≤ 140737488355328)
    (hH1 : H'[b]? = some (.grow es (xs ++ ys) op)) (hH2 : ∀ k, k ≠ b → H'[k]? = H[k]?) (hH3 : ∀ k, H'.length ≤ k → H.length ≤ k ∧ k ≠ b) (hT : ∀ l, xs.length < l → Γ.T b l = none) (hop : op.getD (xs ++ ys).length ≤ (xs ++ ys).length) (hfx : ∀ y, y ∈ xs → rfree y) (hne : ys ≠ []) :
    ∃ c w' Γ', (Builtin.append_ #[t, u] ty #[.slice base xs.length sCap, cx]).run P w = .ok c w' ∧ Rep Γ' (.gl b (xs.length + ys.length)) c ∧ Rel Γ' H' w' ∧ Stp Γ w Γ' w' := by
  have hRd : Rel Γ H w.drew := hR.drew _
  obtain ⟨dy, hy⟩ := y4h (P := P) hRd hel hrx
  obtain ⟨dy', hy'⟩ := y4h (P := P) hR hel hrx
  obtain ⟨dx, hx⟩ := hs
  have hlx : dx.length = xs.length * es := by rw [hx.reps.1, y0o hwx]
  have hly : dy.length = ys.length * es := by rw [hy.reps.1, y0o hwy]
  have fx := hx.first es xs.length hwx (Nat.le_refl _)
  have fy := hy.first es ys.length hwy (Nat.le_refl _)
  rw [List.take_of_length_le (by omega)] at fx fy
  obtain ⟨cap, hcap, hrun⟩ := y7l (P := P) (ty := ty) ht hu hi hz hy'.len (his ▸ fx) (his ▸ fy) hgt hbd hb0
  have hlen : (xs ++ ys).length = xs.length + ys.length := List.length_append
  have hpos : 0 < ys.length := by cases ys with
    | nil => exact absurd rfl hne
    | cons => simp
  have hw : ∀ y, y ∈ xs ++ ys → y.width = es := by
    intro y hy; simp only [List.mem_append] at hy; rcases hy with hy | hy
    · exact hwx y hy
    · exact hwy y hy
  have hfr : ∀ y, y ∈ xs ++ ys → rfree y := by
    intro y hm; simp only [List.mem_append] at hm; rcases hm with hy | hy
    · exact hfx y hy
    · exact hy'.free y hy
  have hfl := y0o hw
  let cs : Array Value := dx.toArray ++ dy.toArray ++ Builtin.zeroCells z.cells (cap - (xs.length + ys.length))
  have hcsl : cs.toList = dx ++ dy ++ (Builtin.zeroCells z.cells (cap - (xs.length + ys.length))).toList := by simp [cs]
  have hcs : cs.size = cap * es := by
    have : cs.size = dx.length + dy.length + (cap - (xs.length + ys.length)) * es := by
      simp [cs, size_zeroCells', hzs]; omega
    rw [this, hlx, hly, ← Nat.add_mul, ← Nat.add_mul]
    congr 1; omega
  have hreps : Reps Γ (flatL (xs ++ ys)) (cs.toList.take (flatL (xs ++ ys)).length) := by
    have h2 := hx.reps.append hy.reps
    rw [y47, hcsl, List.take_left' (by rw [← h2.1])]
    exact h2
  have h1 : ∀ c, c ∈ cs.toList → c.oneCell' = true := by
    intro c hc
    rw [hcsl] at hc
    simp only [List.mem_append] at hc
    rcases hc with (hc | hc) | hc
    · exact hx.one c hc
    · exact hy.one c hc
    · exact y2c hz1 _ c hc
  obtain ⟨r1, r2⟩ := hRd.listNew (cap := cap) (es := es) (cs := cs) (el := el) hH1 hH2 hH3 (fun l hl => hT l (by omega)) hfr hw hes hcs (by omega) hreps h1 hop
  have hsz : w.drew.heap.size = w.heap.size := rfl
  refine ⟨_, _, _, hrun, ?_, r1, (Stp.drew Γ w _).trans r2⟩
  rw [hlen]
  refine .gl ?_ (fun _ => rfl)
  simp only [Gh.list, hlen, hsz, and_self, if_true]
theorem y5n {H H' : Heap} {id : Nat} {B : ABlock} (h : newAt H id B = some H') : H'[id]? = some B ∧ (∀ k, k ≠ id → H'[k]? = H[k]?) ∧ (∀ k, H'.length ≤ k → H.length ≤ k ∧ k ≠ id) := by
  have := y5d h
  exact ⟨this.1, this.2.1, this.2.2.2.2.1⟩
theorem y8e {H : Heap} {b : Nat} {B0 B : ABlock} (h : H[b]? = some B0) : (H.set b B)[b]? = some B ∧ (∀ k, k ≠ b → (H.set b B)[k]? = H[k]?) ∧ (∀ k, (H.set b B).length ≤ k → H.length ≤ k ∧ k ≠ b) := by
  have hlt := (List.getElem?_eq_some_iff.1 h).1
  refine ⟨List.getElem?_set_self hlt, fun k hk => List.getElem?_set_ne (Ne.symm hk), fun k hk => ?_⟩
  simp at hk
  omega
theorem app_sound {o : Oper} {C : Ctx} {id es bytes : Nat} {opn : Bool} {s x : AOpd} {v : AVal} {H H' : Heap} {w : World} (he : EnvRel Γ e a.tmps) (hR : Rel Γ H w) (hk : chkH P (.app es bytes opn s x) o.op = true)
    (hv : evH C e id H (.app es bytes opn s x) = some (.ok v, H')) : Done P o a w Γ v H' := by
  obtain ⟨dst, op, ty, pos, after, guard⟩ := o
  simp only at hk
  cases op <;> simp only [chkH, Bool.false_eq_true, Bool.and_eq_true, decide_eq_true_eq] at hk
  rename_i c
  obtain ⟨⟨⟨⟨hb, ha⟩, hes⟩, hby0⟩, ht⟩ := hk
  have hcal : c.callee = .builtin .append := by
    unfold builtinB at hb
    split at hb
    · rename_i b hb'; simp at hb; rw [hb', hb]
    · cases hb
  unfold args2 at ha
  split at ha <;> first | (cases ha; done) | skip
  rename_i s' x' hargs
  simp only [Bool.and_eq_true] at ha
  split at ht <;> first | (cases ht; done) | skip
  rename_i t u hts
  simp only [Bool.and_eq_true, decide_eq_true_eq] at ht
  obtain ⟨hu, hel⟩ := ht
  obtain ⟨el, htu, hq⟩ := y2f hel
  simp only [Bool.and_eq_true] at hq
  obtain ⟨⟨hsz, hby⟩, hz⟩ := hq
  obtain ⟨i, hi, his⟩ := y41 hsz
  obtain ⟨i2, hi2, hib⟩ := y55 hby
  rw [hi] at hi2; cases hi2
  obtain ⟨i3, z, hi3, hzv, hzs, hz1⟩ := y71 hz
  rw [hi] at hi3; cases hi3
  have hu' := y7w hu
  have hrun : ∀ (c' : Value) (w' : World), (Builtin.append_ #[t, u] ty #[a.eval s', a.eval x']).run P w = .ok c' w' →
      (execOp a.eval { dst, op := .call c, type := ty, pos, after, guard }).run P w = .ok (.value c') w' := by
    intro c' w' h
    have e1 : c.args.map a.eval = #[a.eval s', a.eval x'] := by
      apply Array.ext'; simp [hargs]
    have e2 : c.argTypes = #[t, u] := by apply Array.ext'; simpa using hts
    simp only [execOp, resolve, hcal, e1, e2, Sem.run_bind, Sem.run_pure, Result.andThen_ok, invoke, builtin, h]
  simp only [evH] at hv
  split at hv <;> first | (cases hv; done) | skip
  rename_i sv xv hs hx
  have hrs := ev_rep he ha.1 hs
  have hrx := ev_rep he ha.2 hx
  split at hv <;> first | (cases hv; done) | skip
  rename_i rv H1 happ
  simp only [Option.some.injEq, Prod.mk.injEq, Ex.ok.injEq] at hv
  obtain ⟨rfl, rfl⟩ := hv
  unfold appendA at happ
  split at happ <;> first | (cases happ; done) | skip
  rename_i ys hel0
  split at happ <;> first | (cases happ; done) | skip
  rename_i hall
  have hwy := width_all hall
  obtain ⟨dy, hy⟩ := y4h (P := P) hR hel0 hrx
  have stay : ∀ base cap (l : Nat), a.eval s' = .slice base l cap → l ≤ cap → ys = [] → (Builtin.append_ #[t, u] ty #[a.eval s', a.eval x']).run P w = .ok (a.eval s') w := by
    intro base cap l h1 h2 h3
    subst h3
    rw [h1]
    exact y6z htu hu' hi hy.len (by have := hy.first i.size 0 (by simp) (Nat.zero_le _); simpa using this) h2
  split at happ
  · rename_i xs ee
    obtain ⟨base, cap, hcs, hle, hex⟩ := hrs.lst_slice
    split at happ
    · rename_i hemp
      cases happ
      have hys : ys = [] := by simpa using hemp
      exact Done.same hR (hrun _ _ (stay base cap _ hcs hle hys)) hrs
    · rename_i hemp
      split at happ <;> first | (cases happ; done) | skip
      rename_i hcond
      split at happ <;> first | (cases happ; done) | skip
      rename_i H2 hnew
      cases happ
      obtain ⟨h1, h2, h3⟩ := y5n hnew
      have hfr := y53 hR hnew
      have hne : ys ≠ [] := by simpa using hemp
      have hpos : 0 < ys.length := List.length_pos_iff.2 hne
      have hxf : ∀ y, y ∈ xs → rfree y := by
        rcases hrs.lst_inv with ⟨rfl, _⟩ | ⟨_, _, _, _, _, _, _, _, _, k4, _⟩
        · simp
        · exact k4
      rw [hcs] at hrs
      obtain ⟨c', w', Γ', r1, r2, r3, r4⟩ := y7c (P := P) (t := t) (u := u) (ty := ty) (b := id) (es := es) (op := if opn then some xs.length else none) hR htu hu' hi hzv hzs hz1 his hes (by omega) (lst_holds (hR.drew _) hrs) hel0 hrx
        (width_all hcond.2.1) hwy (by rw [hex hcond.1]; omega) (by rw [hib]; exact hcond.2.2) h1 h2 h3 (fun l _ => hfr.2 l) (by cases opn <;> simp) hxf hne
      refine ⟨_, _, _, _, hrun _ _ (hcs ▸ r1), .inl rfl, r2, r3, r4⟩
  · rename_i ol len
    split at happ <;> first | (cases happ; done) | skip
    rename_i es0 xs op0 hb'
    split at happ <;> first | (cases happ; done) | skip
    rename_i hcond
    obtain ⟨hlen, hes0, hallx⟩ := hcond
    subst hlen
    obtain ⟨c0, k1, k0, k2, k3⟩ := hR.blk _ _ hb'
    obtain ⟨ad, cap0, hcs, hT, had⟩ := hrs.gl_inv
    rw [hcs] at hT
    rw [k1] at hT
    cases hT
    have hle : xs.length ≤ cap0 := by
      rcases k3 with ⟨_, hex⟩ | ⟨g, cap, cs, cty, e1, e2, e3, e4, _⟩
      · obtain ⟨_, _, e1, h, _⟩ := hex.lst_slice
        cases e1; exact h
      · cases e1; exact e4
    split at happ
    · rename_i hemp
      cases happ
      have hys : ys = [] := by simpa using hemp
      exact Done.same hR (hrun _ _ (stay ad cap0 _ hcs hle hys)) hrs
    · rename_i hemp
      split at happ <;> first | (cases happ; done) | skip
      rename_i hbd
      cases happ
      have hne : ys ≠ [] := by simpa using hemp
      have hpos : 0 < ys.length := List.length_pos_iff.2 hne
      obtain ⟨h1, h2, h3⟩ := y8e (B := .grow es (xs ++ ys) (if opn then some (op0.getD xs.length) else none)) hb'
      by_cases hroom : xs.length + ys.length ≤ cap0
      · rcases k3 with ⟨_, hex⟩ | ⟨g, cap, cs, cty, e1, e2, e3, e4, e5, e6, e7, e8, e9, e10, e11, e12⟩
        · obtain ⟨_, _, e1, _, hcl⟩ := hex.lst_slice
          cases e1
          have := hcl rfl
          omega
        · cases e1
          have hes' : es0 = es := by rcases hes0 with h | h <;> omega
          subst hes'
          have hly : dy.length = ys.length * es0 := by rw [hy.reps.1, y0o hwy]
          have fy := hy.first es0 ys.length hwy (Nat.le_refl _)
          rw [List.take_of_length_le (by omega)] at fy
          have hfit : xs.length * es0 + dy.length ≤ cs.size := by rw [hly, e5, ← Nat.add_mul]; exact Nat.mul_le_mul_right _ hroom
          have hrun' := y7u (P := P) (ty := ty) htu hu' hi hy.len (his ▸ fy) hroom e3 (by rw [his]; exact hfit) hy.one
          rw [his] at hrun'
          have hw2 : ∀ y, y ∈ xs ++ ys → y.width = es0 := by
            intro y hm; simp only [List.mem_append] at hm; rcases hm with hm | hm
            · exact e7 y hm
            · exact hwy y hm
          have hfr2 : ∀ y, y ∈ xs ++ ys → rfree y := by
            intro y hm; simp only [List.mem_append] at hm; rcases hm with hm | hm
            · exact k2 y hm
            · exact hy.free y hm
          have hlen2 : (xs ++ ys).length = xs.length + ys.length := List.length_append
          let cs' : Array Value := (putCells (xs.length * es0) dy cs.toList).toArray
          have hcs' : cs'.toList = putCells (xs.length * es0) dy cs.toList := by simp [cs']
          have hsz' : cs'.size = cs.size := by
            have := y1o (xs.length * es0) dy cs.toList (by simpa using hfit)
            simpa [cs'] using this
          have hold : ∀ j, j < xs.length * es0 → cs'[j]? = cs[j]? := by
            intro j hj
            have : cs'.toList[j]? = cs.toList[j]? := by
              rw [hcs', y2b (by simpa using hfit), if_pos hj]
            simpa using this
          have hop2 : (if opn then some (op0.getD xs.length) else none : Option Nat).getD (xs ++ ys).length ≤ (xs ++ ys).length := by cases opn <;> simp; omega
          have hop3 : op0.getD xs.length ≤ (if opn then some (op0.getD xs.length) else none : Option Nat).getD (xs ++ ys).length := by cases opn <;> simp; omega
          generalize hopq : (if opn then some (op0.getD xs.length) else none : Option Nat) = opq at hop2 hop3
          have hfl := y0o e7
          have hfl2 := y0o hw2
          generalize hΓ : Γ.list ol g (xs ++ ys).length (.slice (some ⟨g, 0, none⟩) (xs ++ ys).length cap0) (opq.getD (xs ++ ys).length * es0) cs' = Γ'
          have hle' : Γ.le Γ' := by
            subst hΓ
            refine ⟨?_, fun _ _ h => h, ?_⟩
            · intro k j d hm
              simp only [Gh.list]
              split
              · rename_i ek; subst ek
                by_cases hj : j < op0.getD xs.length * es0
                · have : op0.getD xs.length * es0 ≤ opq.getD (xs ++ ys).length * es0 := Nat.mul_le_mul_right _ hop3
                  have : op0.getD xs.length * es0 ≤ xs.length * es0 := Nat.mul_le_mul_right _ e10
                  rw [if_pos (by omega), hold j (by omega), ← e11 j hj]; exact hm
                · rw [e12 j (by omega)] at hm; cases hm
              · exact hm
            · intro o l d h
              simp only [Gh.list]
              split
              · rename_i ee; rw [ee.1, ee.2, k0 _ (by omega)] at h; cases h
              · exact h
          have hreps : Reps Γ (flatL (xs ++ ys)) (cs'.toList.take (flatL (xs ++ ys)).length) := by
            have h2 := e8.append hy.reps
            rw [y47]
            have : cs'.toList.take (flatL xs ++ flatL ys).length = cs.toList.take (flatL xs).length ++ dy := by
              rw [hcs', List.length_append, hfl, ← hy.reps.1]
              unfold putCells
              rw [List.take_append_of_le_length (by simp; omega)]
              rw [List.take_of_length_le (by simp; omega)]
            rw [this]; exact h2
          have hown' : ∀ k, Γ'.own k = Γ.own k := by
            intro k; subst hΓ; simp only [Gh.list]; split
            · rename_i ek; subst ek; exact e2.symm
            · rfl
          obtain ⟨r1, r2⟩ := hR.write (Γ' := Γ') (B := .grow es0 (xs ++ ys) opq) (o := .cells cs' cty) (w' := w.setRow g cs') hb' e2 hle' hown' (fun k hk => by subst hΓ; exact ⟨rfl, fun l => by simp only [Gh.list]; rw [if_neg (by intro h; exact hk h.1)]⟩)
            (fun k j hk => by subst hΓ; simp [Gh.list, hk]) (y0y w g cs cs' cty (0, 0) e3) (fun k hk => y2a w g k cs' hk) (y3s w g cs') rfl rfl rfl
            (fun j c hm => by
              subst hΓ
              simp only [Gh.list, if_true] at hm
              rw [cell_at (y0y w g cs cs' cty (0, 0) e3)]
              split at hm
              · exact hm
              · cases hm)
            ⟨_, by subst hΓ; simp [Gh.list], (by intro l hl; subst hΓ; simp only [Gh.list]; rw [if_neg (by omega)]; exact k0 l (by omega)), hfr2, .inr ⟨g, cap0, cs', cty, rfl, (hown' g).trans e2, y0y w g cs cs' cty (0, 0) e3, by omega, hsz'.trans e5, e6, hw2, hreps.mono hle', by
                intro c hc
                rw [hcs'] at hc
                simp only [putCells, List.mem_append] at hc
                rcases hc with (hc | hc) | hc
                · exact e9 c (List.mem_of_mem_take hc)
                · exact hy.one c hc
                · exact e9 c (List.mem_of_mem_drop hc), hop2, fun j hj => by subst hΓ; simp only [Gh.list, if_true]; rw [if_pos hj], fun j hj => by subst hΓ; simp only [Gh.list, if_true]; rw [if_neg (by omega)]⟩⟩
          refine ⟨_, _, _, _, hrun _ _ (hcs ▸ hrun'), .inl rfl, ?_, r1, r2⟩
          refine .gl ?_ (fun _ => rfl)
          subst hΓ
          simp only [Gh.list, hlen2, and_self, if_true]
      · have hop0 : op0.getD xs.length ≤ xs.length := by
          rcases k3 with ⟨h, _⟩ | ⟨g, cap, cs, cty, e1, e2, e3, e4, e5, e6, e7, e8, e9, e10, _⟩
          · subst h; simp
          · exact e10
        obtain ⟨c', w', Γ', r1, r2, r3, r4⟩ := y7c (P := P) (t := t) (u := u) (ty := ty) (b := ol) (es := es) (op := if opn then some (op0.getD xs.length) else none) hR htu hu' hi hzv hzs hz1 his hes (by omega) (gl_holds (hR.drew _) hb' rfl (hcs ▸ hrs)) hel0 hrx
          (width_all hallx) hwy (by omega) (by rw [hib]; exact hbd) h1 h2 h3 k0 (by have := hop0; cases opn <;> simp; omega) k2 hne
        refine ⟨_, _, _, _, hrun _ _ (hcs ▸ r1), .inl rfl, r2, r3, r4⟩
  · cases happ
end
end Go.Ev
namespace Go.Ev
set_option linter.unusedVariables false
set_option linter.unusedSimpArgs false
open Go
section
variable {P : Program} {Γ : Gh} {e : Env} {a : Act}
theorem rep_undef (Γ : Gh) : Rep Γ undefA undef := .tup (cs := []) (ds := []) rfl (by simp)
theorem exec_u {o : Oper} {w w' : World} {s : Sem Unit} (h : execOp a.eval o = (do s; pure Next.skip)) (hs : s.run P w = .ok () w') : (execOp a.eval o).run P w = .ok .skip w' := by
  rw [h]; simp [hs]
theorem st_sound {o : Oper} {H H' : Heap} {w : World} {t : TypeId} {x' v' : Operand} {p v : AVal} {n : Nat} (hR : Rel Γ H w) (ho : o.op = .store t x' v') (hs : sizeB P t n = true) (hp : Rep Γ p (a.eval x')) (hv : Rep Γ v (a.eval v'))
    (hst : storeA H n p v = some H') : Done P o a w Γ undefA H' := by
  obtain ⟨w', Γ', r1, r2, r3⟩ := y7y hR hs hst hp hv
  exact ⟨.skip, undef, w', Γ', exec_u (by simp only [execOp, ho]) r1, .inr ⟨rfl, rfl⟩, rep_undef Γ', r2, r3⟩
theorem sts_sound {o : Oper} {C : Ctx} {id : Nat} {x y : AOpd} {v : AVal} {H H' : Heap} {w : World} (he : EnvRel Γ e a.tmps) (hR : Rel Γ H w) (hk : chkH P (.sts x y) o.op = true)
    (hv : evH C e id H (.sts x y) = some (.ok v, H')) : Done P o a w Γ v H' := by
  obtain ⟨dst, op, ty, pos, after, guard⟩ := o
  simp only at hk
  cases op <;> simp only [chkH, Bool.false_eq_true, Bool.and_eq_true] at hk
  simp only [evH] at hv
  split at hv <;> first | (cases hv; done) | skip
  rename_i p u hp hu
  split at hv <;> first | (cases hv; done) | skip
  rename_i H1 hst
  simp only [Option.some.injEq, Prod.mk.injEq, Ex.ok.injEq] at hv
  obtain ⟨rfl, rfl⟩ := hv
  exact st_sound hR rfl hk.2 (ev_rep he hk.1.1 hp) (ev_rep he hk.1.2 hu) hst
theorem sta_sound {o : Oper} {C : Ctx} {id n : Nat} {x y : AOpd} {v : AVal} {H H' : Heap} {w : World} (he : EnvRel Γ e a.tmps) (hR : Rel Γ H w) (hk : chkH P (.sta n x y) o.op = true)
    (hv : evH C e id H (.sta n x y) = some (.ok v, H')) : Done P o a w Γ v H' := by
  obtain ⟨dst, op, ty, pos, after, guard⟩ := o
  simp only at hk
  cases op <;> simp only [chkH, Bool.false_eq_true, Bool.and_eq_true] at hk
  simp only [evH] at hv
  split at hv <;> first | (cases hv; done) | skip
  rename_i p u hp hu
  split at hv <;> first | (cases hv; done) | skip
  rename_i H1 hst
  simp only [Option.some.injEq, Prod.mk.injEq, Ex.ok.injEq] at hv
  obtain ⟨rfl, rfl⟩ := hv
  exact st_sound hR rfl hk.2 (ev_rep he hk.1.1 hp) (ev_rep he hk.1.2 hu) hst
theorem stk_sound {o : Oper} {C : Ctx} {id n : Nat} {x y : AOpd} {v : AVal} {H H' : Heap} {w : World} (he : EnvRel Γ e a.tmps) (hR : Rel Γ H w) (hk : chkH P (.stk n x y) o.op = true)
    (hv : evH C e id H (.stk n x y) = some (.ok v, H')) : Done P o a w Γ v H' := by
  obtain ⟨dst, op, ty, pos, after, guard⟩ := o
  simp only at hk
  cases op <;> simp only [chkH, Bool.false_eq_true, Bool.and_eq_true] at hk
  simp only [evH] at hv
  split at hv <;> first | (cases hv; done) | skip
  rename_i p u hp hu
  split at hv <;> first | (cases hv; done) | skip
  rename_i H1 hst
  simp only [Option.some.injEq, Prod.mk.injEq, Ex.ok.injEq] at hv
  obtain ⟨rfl, rfl⟩ := hv
  obtain ⟨w', Γ', r1, r2, r3⟩ := y7x hR hk.2 hst (ev_rep he hk.1.1 hp) (ev_rep he hk.1.2 hu)
  exact ⟨.skip, undef, w', Γ', exec_u (by simp only [execOp]) r1, .inr ⟨rfl, rfl⟩, rep_undef Γ', r2, r3⟩
theorem y4d {t el : TypeId} {w : World} {ad : Addr} {len cap es : Nat} {k : IntKind} {n : Int} (hu : P.underlying t = some (.slice el)) (hs : sizeB P el es = true) (h0 : 0 ≤ n) (h1 : n < len) :
    (Instr.indexAt t (.slice (some ad) len cap) (.int k n)).run P w = .ok (.pointer (some (ad.add (n.toNat * es)))) w := by
  simp [Instr.indexAt, asIntOf, run_underlying hu, h0, h1, run_sizeB hs]
theorem lst_elem {xs : List AVal} {ee : Bool} {c : Value} {n es : Nat} {y : AVal} (h : Rep Γ (.lst xs ee) c) (hn : xs[n]? = some y) (hw : y.width = es) :
    ∃ g off cap, c = .slice (some ⟨g, off, none⟩) xs.length cap ∧ Rep Γ (.ro y.flat) (.pointer (some ⟨g, off + n * es, none⟩)) := by
  rcases h.lst_inv with ⟨rfl, base, cap, rfl, hE⟩ | ⟨g, off, cap, es', f, rfl, k1, k2, k3, k4, k5, k6, k7⟩
  · simp at hn
  · have hy := List.mem_of_getElem? hn
    have hes : es' = es := (k3 y hy).symm.trans hw
    subst hes
    refine ⟨g, off, cap, rfl, .ro (fun j => f (n * es' + j)) (y3y (k4 y hy)) ?_ ?_ ?_⟩
    · intro j c hj
      rw [Nat.add_assoc]; exact k5 _ c (flatL_get k3 hn hj)
    · intro j c hj; exact k6 _ c (flatL_get k3 hn hj)
    · intro j c hj; exact k7 _ c (flatL_get k3 hn hj)
theorem ia_sound {o : Oper} {C : Ctx} {id es : Nat} {x i : AOpd} {v : AVal} {H H' : Heap} {w : World} (he : EnvRel Γ e a.tmps) (hR : Rel Γ H w) (hk : chkH P (.ia es x i) o.op = true)
    (hv : evH C e id H (.ia es x i) = some (.ok v, H')) : Done P o a w Γ v H' := by
  obtain ⟨dst, op, ty, pos, after, guard⟩ := o
  simp only at hk
  cases op <;> simp only [chkH, Bool.false_eq_true, Bool.and_eq_true] at hk
  rename_i t x' i'
  obtain ⟨el, hu, hs⟩ := y2f hk.2
  simp only [evH] at hv
  split at hv
  · rename_i ol len k n hx hi
    have hci := (ev_rep he hk.1.2 hi).int_inv
    have hrx := ev_rep he hk.1.1 hx
    split at hv <;> first | (cases hv; done) | skip
    rename_i es0 xs op hb
    split at hv <;> first | (cases hv; done) | skip
    rename_i hcond
    obtain ⟨h0, h1, hlen, hany⟩ := hcond
    subst hlen
    cases op with
    | none =>
      simp only [Option.bind_eq_some_iff, Option.some.injEq, Prod.mk.injEq, Ex.ok.injEq] at hv
      obtain ⟨y, hy, rfl, rfl⟩ := hv
      rw [hy] at hany
      have hw : y.width = es := by simpa using hany
      obtain ⟨c1, k1, hlst⟩ := grow_lst (hR.blk _ _ hb)
      obtain ⟨ad, cap, hcx, hT, _⟩ := hrx.gl_inv
      rw [hcx, k1] at hT
      cases hT
      obtain ⟨g, off, cap', hc', hro⟩ := lst_elem hlst hy hw
      cases hc'
      refine Done.same hR (exec_v rfl ?_) hro
      rw [hcx, hci]
      have := y4d (P := P) (w := w) (ad := ⟨g, off, none⟩) (cap := cap) (k := k) hu hs h0 h1
      rw [addr_add] at this
      exact this
    | some f =>
      simp only at hv
      split at hv <;> first | (cases hv; done) | skip
      rename_i hff
      simp only [Option.some.injEq, Prod.mk.injEq, Ex.ok.injEq] at hv
      obtain ⟨rfl, rfl⟩ := hv
      obtain ⟨c', k1, k0, k2, k3⟩ := hR.blk _ _ hb
      rcases k3 with ⟨hbad, _⟩ | ⟨g, cap, cs, cty, rfl, _⟩
      · cases hbad
      · obtain ⟨ad, cap', hcx, hT, _⟩ := hrx.gl_inv
        rw [hcx, k1] at hT
        cases hT
        refine Done.same hR (c := .pointer (some ⟨g, n.toNat * es, none⟩)) (exec_v rfl ?_) (.lptr (cap := cap) k1)
        rw [hcx, hci]
        have := y4d (P := P) (w := w) (ad := ⟨g, 0, none⟩) (cap := cap) (k := k) hu hs h0 h1
        rw [addr_add, Nat.zero_add] at this
        exact this
  · rename_i xs ee k n hx hi
    have hci := (ev_rep he hk.1.2 hi).int_inv
    have hrx := ev_rep he hk.1.1 hx
    split at hv <;> first | (cases hv; done) | skip
    rename_i h0
    split at hv <;> first | (cases hv; done) | skip
    rename_i y hy
    split at hv <;> first | (cases hv; done) | skip
    rename_i hw
    simp only [Option.some.injEq, Prod.mk.injEq, Ex.ok.injEq] at hv
    obtain ⟨rfl, rfl⟩ := hv
    obtain ⟨g, off, cap', hc', hro⟩ := lst_elem hrx hy hw
    refine Done.same hR (exec_v rfl ?_) hro
    rw [hc', hci]
    have hlt : n < xs.length := by have := (List.getElem?_eq_some_iff.1 hy).1; omega
    have := y4d (P := P) (w := w) (ad := ⟨g, off, none⟩) (cap := cap') (k := k) hu hs h0 hlt
    rw [addr_add] at this
    exact this
  · rename_i b off len cap wd k n hx hi
    have hci := (ev_rep he hk.1.2 hi).int_inv
    obtain ⟨g, hcx, hmu⟩ := (ev_rep he hk.1.1 hx).sl_inv
    split at hv <;> first | (cases hv; done) | skip
    rename_i hcond
    simp only [Option.some.injEq, Prod.mk.injEq, Ex.ok.injEq] at hv
    obtain ⟨rfl, rfl⟩ := hv
    refine Done.same hR (exec_v rfl ?_) (.ptr (g := g) hmu)
    rw [hcx, hci]
    have := y4d (P := P) (w := w) (ad := ⟨g, off, none⟩) (cap := cap) (k := k) hu hs hcond.1 hcond.2.1
    rw [addr_add] at this
    exact this
  · cases hv
theorem y3q {c : Call} {b : Builtin} (h : builtinB c b = true) : c.callee = .builtin b := by
  unfold builtinB at h
  split at h
  · rename_i b' hb'; simp at h; rw [hb', h]
  · cases h
theorem args1_eq {l : List Operand} {q : Operand → Bool} (h : args1 l q = true) : ∃ x, l = [x] ∧ q x = true := by
  unfold args1 at h
  split at h
  · exact ⟨_, rfl, h⟩
  · cases h
theorem args2_eq {l : List Operand} {q : Operand → Operand → Bool} (h : args2 l q = true) : ∃ x y, l = [x, y] ∧ q x y = true := by
  unfold args2 at h
  split at h
  · exact ⟨_, _, rfl, h⟩
  · cases h
theorem len_sound {o : Oper} {C : Ctx} {id : Nat} {k : LenK} {x : AOpd} {v : AVal} {H H' : Heap} {w : World} (he : EnvRel Γ e a.tmps) (hR : Rel Γ H w) (hk : chkH P (.len k x) o.op = true)
    (hv : evH C e id H (.len k x) = some (.ok v, H')) : Done P o a w Γ v H' := by
  obtain ⟨dst, op, ty, pos, after, guard⟩ := o
  simp only at hk
  cases op <;> simp only [chkH, Bool.false_eq_true, Bool.and_eq_true] at hk
  rename_i c
  obtain ⟨⟨hb, ha⟩, ht⟩ := hk
  have hcal := y3q hb
  obtain ⟨x', hargs, hko⟩ := args1_eq ha
  split at ht <;> first | (cases ht; done) | skip
  rename_i t hts
  simp only [evH] at hv
  split at hv <;> first | (cases hv; done) | skip
  rename_i u hu
  have hrx := ev_rep he hko hu
  unfold okv at hv
  split at hv <;> first | (cases hv; done) | skip
  rename_i v0 hlen
  simp only [Option.some.injEq, Prod.mk.injEq, Ex.ok.injEq] at hv
  obtain ⟨rfl, rfl⟩ := hv
  rw [Option.map_eq_some_iff] at hlen
  obtain ⟨n, hn, rfl⟩ := hlen
  refine Done.same hR (c := goInt n) ?_ (.int _ _)
  have e1 : (c.args.map a.eval)[0]? = some (a.eval x') := by
    rw [show c.args = [x'].toArray from by apply Array.ext'; simpa using hargs]; simp
  have key : (Builtin.len_ c.argTypes ty (c.args.map a.eval)).run P w = .ok (goInt n) w := by
    unfold lenTy at ht
    split at ht
    · rename_i el hut
      have : k = .slice := by simpa using ht
      subst this
      cases u <;> simp only [lenOf, reduceCtorEq, Option.some.injEq] at hn
      · obtain ⟨base, cap, hc, _, _⟩ := hrx.lst_slice
        simp [Builtin.len_, hts, e1, run_underlying hut, hc, hn]
      · obtain ⟨ad, cap, hc, _, _⟩ := hrx.gl_inv
        simp [Builtin.len_, hts, e1, run_underlying hut, hc, hn]
      · obtain ⟨g, hc, _⟩ := hrx.sl_inv
        simp [Builtin.len_, hts, e1, run_underlying hut, hc, hn]
      · obtain ⟨base, cap, hc, _, _⟩ := hrx.emp_lst.lst_slice
        simp [Builtin.len_, hts, e1, run_underlying hut, hc, ← hn]
    · rename_i hut
      have : k = .str := by simpa using ht
      subst this
      cases u <;> simp only [lenOf, reduceCtorEq, Option.some.injEq] at hn
      have hc := hrx.str_inv
      simp [Builtin.len_, hts, e1, run_underlying hut, hc, y4q, hn]
    · rename_i kt et hut
      have : k = .map := by simpa using ht
      subst this
      cases u <;> simp only [lenOf, reduceCtorEq, Option.some.injEq] at hn
      · subst hn
        have hc : a.eval x' = .map none := by generalize a.eval x' = cx at hrx; cases hrx; rfl
        simp [Builtin.len_, hts, e1, run_underlying hut, hc]
      · split at hn <;> first | (cases hn; done) | skip
        rename_i es hbm
        simp only [Option.some.injEq] at hn
        obtain ⟨g, hc, hmu⟩ := hrx.map_inv
        obtain ⟨g', ents, clock, h1, h2, h3, h4, h5⟩ := hR.blk _ _ hbm
        rw [h1] at hmu; cases hmu
        have hgo : (getObj g).run P w = .ok (.map ents clock) w := by simp [getObj, Sem.run, h3]
        simp [Builtin.len_, hts, e1, run_underlying hut, hc, hgo, h4, hn]
    · cases ht
  simp only [execOp, resolve, hcal, Sem.run_bind, Sem.run_pure, Result.andThen_ok, invoke, builtin, key]
theorem cap_sound {o : Oper} {C : Ctx} {id : Nat} {x : AOpd} {v : AVal} {H H' : Heap} {w : World} (he : EnvRel Γ e a.tmps) (hR : Rel Γ H w) (hk : chkH P (.cap x) o.op = true)
    (hv : evH C e id H (.cap x) = some (.ok v, H')) : Done P o a w Γ v H' := by
  obtain ⟨dst, op, ty, pos, after, guard⟩ := o
  simp only at hk
  cases op <;> simp only [chkH, Bool.false_eq_true, Bool.and_eq_true] at hk
  rename_i c
  obtain ⟨⟨hb, ha⟩, ht⟩ := hk
  have hcal := y3q hb
  obtain ⟨x', hargs, hko⟩ := args1_eq ha
  split at ht <;> first | (cases ht; done) | skip
  rename_i t hts
  unfold lenTy at ht
  split at ht
  · rename_i el hut
    simp only [evH] at hv
    have e1 : (c.args.map a.eval)[0]? = some (a.eval x') := by
      rw [show c.args = [x'].toArray from by apply Array.ext'; simpa using hargs]; simp
    split at hv
    · rename_i hu
      simp only [Option.some.injEq, Prod.mk.injEq, Ex.ok.injEq] at hv
      obtain ⟨rfl, rfl⟩ := hv
      obtain ⟨g, hc, _⟩ := (ev_rep he hko hu).sl_inv
      refine Done.same hR (c := goInt _) ?_ (.int _ _)
      simp [execOp, resolve, hcal, invoke, builtin, Builtin.cap_, hts, e1, run_underlying hut, hc]
    · rename_i xs hu
      simp only [Option.some.injEq, Prod.mk.injEq, Ex.ok.injEq] at hv
      obtain ⟨rfl, rfl⟩ := hv
      obtain ⟨base, cap, hc, _, hcl⟩ := (ev_rep he hko hu).lst_slice
      refine Done.same hR (c := goInt _) ?_ (.int _ _)
      have := hcl rfl
      simp [execOp, resolve, hcal, invoke, builtin, Builtin.cap_, hts, e1, run_underlying hut, hc, this]
    · cases hv
  all_goals first | (simp at ht; done) | (cases ht; done)
end
end Go.Ev
namespace Go.Ev
set_option linter.unusedVariables false
set_option linter.unusedSimpArgs false
open Go
section
variable {P : Program} {Γ : Gh} {e : Env} {a : Act}
theorem y8t {o : Oper} {C : Ctx} {id len es : Nat} {wd : Option Nat} {x : AOpd} {lo hi mx : Option AOpd} {v : AVal} {H H' : Heap} {w : World} (he : EnvRel Γ e a.tmps) (hR : Rel Γ H w) (hk : chkH P (.slca len es wd x lo hi mx) o.op = true)
    (hv : evH C e id H (.slca len es wd x lo hi mx) = some (.ok v, H')) : Done P o a w Γ v H' := by
  obtain ⟨dst, op, ty, pos, after, guard⟩ := o
  simp only at hk
  cases op <;> simp only [chkH, Bool.false_eq_true, Bool.and_eq_true] at hk
  rename_i t x' lo' hi' mx'
  obtain ⟨⟨⟨⟨hkx, hkl⟩, hkh⟩, hkm⟩, ht⟩ := hk
  unfold arrB at ht
  split at ht <;> first | (cases ht; done) | skip
  rename_i n el hu
  simp only [Bool.and_eq_true, decide_eq_true_eq] at ht
  obtain ⟨rfl, hs⟩ := ht
  simp only [evH] at hv
  split at hv <;> first | (cases hv; done) | skip
  rename_i b off lov hiv mxv hx hlo hhi hmx
  split at hv <;> first | (cases hv; done) | skip
  rename_i l h m hb
  split at hv <;> first | (cases hv; done) | skip
  rename_i hcond
  simp only [Option.some.injEq, Prod.mk.injEq, Ex.ok.injEq] at hv
  obtain ⟨rfl, rfl⟩ := hv
  obtain ⟨g, hc, hmu⟩ := (ev_rep he hkx hx).ptr_inv
  obtain ⟨hbr, h1, h2, h3⟩ := y33 (P := P) (b0 := false) w (Nat.le_refl n) (opt_reps he hkl hlo) (opt_reps he hkh hhi) (opt_reps he hkm hmx) hb
  refine Done.same hR (c := .slice (some ⟨g, off + l * es, none⟩) (h - l) (m - l)) (exec_v rfl ?_) (.sl hmu)
  rw [hc]
  have hne : m ≠ l := by omega
  simp only [Instr.sliceAt, Sem.run_bind, run_underlying hu, Result.andThen_ok, Instr.sureAddr, Sem.run_pure, hbr, run_sizeB hs, hne, if_false, addr_add]
theorem y8g {n cap l h m : Nat} {k : IntKind} {lo hi : Option AVal} (hb : bounds n n lo hi (some (.int k 0)) = some (l, h, m)) : l = 0 ∧ h = 0 ∧ m = 0 ∧ bounds n cap lo hi (some (.int k 0)) = some (0, 0, 0) := by
  have hz : ∀ y, bnd y (.int k 0) = some 0 := by intro y; simp [bnd]
  unfold bounds at hb ⊢
  simp only [hz] at hb ⊢
  split at hb <;> first | (cases hb; done) | skip
  rename_i h' hh
  split at hb <;> first | (cases hb; done) | skip
  rename_i l' hl
  have e1 : h' = 0 := by
    cases hi with
    | none => simp at hh
    | some v =>
      simp only at hh
      cases v <;> simp only [bnd, reduceCtorEq] at hh
      split at hh <;> first | (cases hh; done) | skip
      simp at hh; omega
  subst e1
  have e2 : l' = 0 := by
    cases lo with
    | none => simp at hl; exact hl.symm
    | some v =>
      simp only at hl
      cases v <;> simp only [bnd, reduceCtorEq] at hl
      split at hl <;> first | (cases hl; done) | skip
      simp at hl; omega
  subst e2
  simp only [Option.some.injEq, Prod.mk.injEq] at hb
  obtain ⟨rfl, rfl, rfl⟩ := hb
  exact ⟨rfl, rfl, rfl, rfl⟩
theorem y8d {n cap l h m : Nat} {lo hi : Option AVal} (hb : bounds n n lo hi none = some (l, h, m)) (hc : n ≤ cap) : bounds n cap lo hi none = some (l, h, cap) ∧ l ≤ h ∧ h ≤ n := by
  have hmono : ∀ v h', bnd n v = some h' → bnd cap v = some h' ∧ h' ≤ n := by
    intro v h' hv
    cases v <;> simp only [bnd, reduceCtorEq] at hv ⊢
    split at hv <;> first | (cases hv; done) | skip
    rename_i hi
    rw [if_pos ⟨hi.1, by omega⟩]
    simp at hv
    exact ⟨by rw [hv], by omega⟩
  have hb2 : ∀ y v l', bnd y v = some l' → l' ≤ y := by
    intro y v l' hv
    cases v <;> simp only [bnd, reduceCtorEq] at hv
    split at hv <;> first | (cases hv; done) | skip
    simp at hv; omega
  unfold bounds at hb ⊢
  simp only [Option.isSome_none, Bool.false_eq_true, if_false] at hb ⊢
  split at hb <;> first | (cases hb; done) | skip
  rename_i h' hh
  split at hb <;> first | (cases hb; done) | skip
  rename_i l' hl
  simp only [Option.some.injEq, Prod.mk.injEq] at hb
  obtain ⟨rfl, rfl, rfl⟩ := hb
  have e1 : h' ≤ n := by
    cases hi with
    | none => simp at hh; omega
    | some v => exact (hmono v h' hh).2
  have e2 : l' ≤ h' := by
    cases lo with
    | none => simp at hl; omega
    | some v => exact hb2 _ v _ hl
  refine ⟨?_, e2, e1⟩
  cases hi with
  | none =>
    simp at hh
    subst hh
    simp only
    rw [hl]
  | some v =>
    have := (hmono v h' hh).1
    simp only [this]
    rw [hl]
theorem y3m {t el : TypeId} {w : World} {base : Option Addr} {len cap l h m es : Nat} {lo hi mx : Option Value} (hu : P.underlying t = some (.slice el)) (hs : sizeB P el es = true) (hb : (Instr.sliceBounds true len cap lo hi mx).run P w = .ok (l, h, m) w) :
    (Instr.sliceAt t (.slice base len cap) lo hi mx).run P w = .ok (.slice (if m = l then base else base.map (·.add (l * es))) (h - l) (m - l)) w := by
  simp only [Instr.sliceAt, Sem.run_bind, run_underlying hu, Result.andThen_ok, Instr.slice, hb, run_sizeB hs, Sem.run_pure]
theorem y7z {t el : TypeId} {w : World} {es : Nat} {xs : List AVal} {ee : Bool} {c : Value} {v : AVal} {lo hi mx : Option AVal} {lo' hi' mx' : Option Operand} (hu : P.underlying t = some (.slice el)) (hs : sizeB P el es = true)
    (h1 : (lo = none ∧ lo' = none) ∨ ∃ u z, lo = some u ∧ lo' = some z ∧ Rep Γ u (a.eval z)) (h2 : (hi = none ∧ hi' = none) ∨ ∃ u z, hi = some u ∧ hi' = some z ∧ Rep Γ u (a.eval z))
    (h3 : (mx = none ∧ mx' = none) ∨ ∃ u z, mx = some u ∧ mx' = some z ∧ Rep Γ u (a.eval z)) (hr : Rep Γ (.lst xs ee) c) (hv : cutLst es xs ee lo hi mx = some v) :
    ∃ d, (Instr.sliceAt t c (lo'.map a.eval) (hi'.map a.eval) (mx'.map a.eval)).run P w = .ok d w ∧ Rep Γ v d := by
  obtain ⟨base, cap, rfl, hle, hex⟩ := hr.lst_slice
  unfold cutLst at hv
  split at hv
  · rename_i k m
    split at hv <;> first | (cases hv; done) | skip
    rename_i hm0
    subst hm0
    split at hv <;> first | (cases hv; done) | skip
    rename_i q hq
    obtain ⟨l, h, m⟩ := q
    simp only [Option.some.injEq] at hv
    subst hv
    obtain ⟨_, _, _, hb⟩ := y8g (cap := cap) hq
    obtain ⟨hbr, _⟩ := y33 (P := P) (b0 := true) w hle h1 h2 h3 hb
    refine ⟨_, y3m hu hs hbr, ?_⟩
    simp only [if_true, Nat.sub_self]
    rcases hr.lst_inv with ⟨rfl, base', cap0, he, hE⟩ | ⟨g, off, cap', es', f, he, k1, k2, k3, k4, k5, k6, k7⟩
    · cases he
      refine Rep.emp ?_
      rcases hE with ⟨rfl, _⟩ | ⟨⟨a, rfl⟩, _⟩
      · exact .inl ⟨by simp, rfl⟩
      · exact .inr ⟨⟨_, rfl⟩, fun _ => rfl⟩
    · cases he
      exact .lst (xs := []) (es := 0) f (Nat.le_refl _) (fun _ => rfl) (by simp) (by simp) (by simp [flatL]) (by simp [flatL]) (by simp [flatL])
  · cases hv
  · split at hv <;> first | (cases hv; done) | skip
    rename_i l h m hq
    split at hv <;> first | (cases hv; done) | skip
    rename_i hall
    simp only [Option.some.injEq] at hv
    subst hv
    have hw := width_all hall
    obtain ⟨hb, hlh, hhn⟩ := y8d hq hle
    obtain ⟨hbr, _⟩ := y33 (P := P) (b0 := true) w hle h1 h2 h3 hb
    refine ⟨_, y3m hu hs hbr, ?_⟩
    have hlen : ((xs.take h).drop l).length = h - l := by simp; omega
    rcases hr.lst_inv with ⟨rfl, base', cap0, he, hE⟩ | ⟨g, off, cap', es', f, he, k1, k2, k3, k4, k5, k6, k7⟩
    · cases he
      simp at hhn
      have : l = 0 := by omega
      subst this; subst hhn
      simp
      refine Rep.emp ?_
      rcases hE with ⟨rfl, h0⟩ | ⟨⟨a, rfl⟩, h0⟩
      · exact .inl ⟨by simp, h0⟩
      · right
        refine ⟨?_, h0⟩
        split
        · exact ⟨_, rfl⟩
        · exact ⟨_, rfl⟩
    · cases he
      have hmem : ∀ y, y ∈ (xs.take h).drop l → y ∈ xs := fun y hy => List.mem_of_mem_take (List.mem_of_mem_drop hy)
      have hflat : flatL ((xs.take h).drop l) = ((flatL xs).take (h * es)).drop (l * es) := by
        rw [y8i (fun y hy => hw y (List.mem_of_mem_take hy)), y4n hw]
      have hget : ∀ (j : Nat) (c : AVal), (flatL ((xs.take h).drop l))[j]? = some c → (flatL xs)[l * es + j]? = some c := by
        intro j c hj
        rw [hflat, List.getElem?_drop, List.getElem?_take] at hj
        split at hj
        · exact hj
        · cases hj
      by_cases hcl : cap = l
      · have hemp : (xs.take h).drop l = [] := List.eq_nil_of_length_eq_zero (by omega)
        rw [hemp] at hlen ⊢
        rw [if_pos hcl]
        have e0 : h - l = 0 := by simpa using hlen.symm
        have e1 : cap - l = 0 := by omega
        rw [e0, e1]
        exact .lst (xs := []) (es := 0) f (Nat.le_refl _) (fun _ => rfl) (by simp) (by simp) (by simp [flatL]) (by simp [flatL]) (by simp [flatL])
      · rw [if_neg hcl]
        simp only [Option.map_some, addr_add]
        rw [← hlen]
        refine .lst (es := es) (fun j => f (l * es + j)) (by omega) ?_ (fun y hy => hw y (hmem y hy)) (fun y hy => k4 y (hmem y hy)) ?_ ?_ ?_
        · intro hee
          simp only [Bool.and_eq_true, decide_eq_true_eq] at hee
          have := k2 hee.1
          omega
        · intro j c hj; rw [Nat.add_assoc]; exact k5 _ c (hget j c hj)
        · intro j c hj; exact k6 _ c (hget j c hj)
        · intro j c hj; exact k7 _ c (hget j c hj)
theorem y86 {H : Heap} {w : World} {s : AVal} {xs : List AVal} {ee : Bool} {c : Value} (hR : Rel Γ H w) (h : asLst H s = some (xs, ee)) (hr : Rep Γ s c) : Rep Γ (.lst xs ee) c := by
  cases s <;> simp only [asLst, reduceCtorEq] at h
  · cases h; exact hr
  · split at h <;> first | (cases h; done) | skip
    rename_i xs' _ hg
    cases h
    obtain ⟨_, xs'', he, _, _, h'⟩ := y4u hR hr hg
    cases he
    exact h'
theorem y7s {t el : TypeId} {w : World} {es : Nat} {s v : AVal} {c : Value} {H H' : Heap} {lo hi mx : Option AVal} {lo' hi' mx' : Option Operand} (hR : Rel Γ H w) (hu : P.underlying t = some (.slice el)) (hs : sizeB P el es = true)
    (h1 : (lo = none ∧ lo' = none) ∨ ∃ u z, lo = some u ∧ lo' = some z ∧ Rep Γ u (a.eval z)) (h2 : (hi = none ∧ hi' = none) ∨ ∃ u z, hi = some u ∧ hi' = some z ∧ Rep Γ u (a.eval z))
    (h3 : (mx = none ∧ mx' = none) ∨ ∃ u z, mx = some u ∧ mx' = some z ∧ Rep Γ u (a.eval z)) (hr : Rep Γ s c) (hv : cutOpen H es s lo hi mx = some (v, H')) :
    ∃ d Γ', (Instr.sliceAt t c (lo'.map a.eval) (hi'.map a.eval) (mx'.map a.eval)).run P w = .ok d w ∧ Rep Γ' v d ∧ Rel Γ' H' w ∧ Stp Γ w Γ' w := by
  unfold cutOpen at hv
  split at hv <;> first | (cases hv; done) | skip
  rotate_left
  · rename_i ol len k l
    split at hv <;> first | (cases hv; done) | skip
    rename_i es0 xs f hb
    split at hv <;> first | (cases hv; done) | skip
    rename_i hcond
    obtain ⟨rfl, hfh, hhl, rfl⟩ := hcond
    simp only [Option.some.injEq, Prod.mk.injEq] at hv
    obtain ⟨rfl, rfl⟩ := hv
    obtain ⟨c', k1, k0, k2, k3⟩ := hR.blk _ _ hb
    rcases k3 with ⟨hbad, _⟩ | ⟨g, cap, cs, cty, rfl, e2, e3, e4, e5, e6, _⟩
    · cases hbad
    obtain ⟨ad, cap', rfl, hT, _⟩ := hr.gl_inv
    rw [k1] at hT
    cases hT
    have hb0 : bounds xs.length cap (some (.int k l)) none none = some (l.toNat, xs.length, cap) := by
      have hbn : bnd xs.length (.int k l) = some l.toNat := by
        simp only [bnd]; rw [if_pos ⟨by omega, by omega⟩]
      simp [bounds, hbn]
    obtain ⟨hbr, _⟩ := y33 (P := P) (b0 := true) w e4 h1 h2 h3 hb0
    refine ⟨.slice (some ⟨g, l.toNat * es0, none⟩) (xs.length - l.toNat) (cap - l.toNat), Γ, ?_, .gtl k1, hR, .refl Γ w⟩
    rw [y3m hu hs hbr]
    have : cap ≠ l.toNat := by omega
    simp [this, addr_add]
  rename_i ol len k hh
  split at hv <;> first | (cases hv; done) | skip
  rename_i es0 xs f hb
  split at hv <;> first | (cases hv; done) | skip
  rename_i hcond
  obtain ⟨rfl, hfh, hhl, rfl⟩ := hcond
  simp only [Option.some.injEq, Prod.mk.injEq] at hv
  obtain ⟨rfl, rfl⟩ := hv
  obtain ⟨c', k1, k0, k2, k3⟩ := hR.blk _ _ hb
  rcases k3 with ⟨hbad, _⟩ | ⟨g, cap, cs, cty, rfl, e2, e3, e4, e5, e6, e7, e8, e9, e10, e11, e12⟩
  · cases hbad
  obtain ⟨ad, cap', rfl, hT, _⟩ := hr.gl_inv
  rw [k1] at hT
  cases hT
  have hb0 : bounds xs.length cap none (some (.int k hh)) none = some (0, hh.toNat, cap) := by
    simp only [bounds, bnd]
    rw [if_pos ⟨by omega, by omega⟩]
  obtain ⟨hbr, _⟩ := y33 (P := P) (b0 := true) w e4 h1 h2 h3 hb0
  have hlt : ol < H.length := (List.getElem?_eq_some_iff.1 hb).1
  have hlen : (xs.take hh.toNat).length = hh.toNat := by simp; omega
  have hdomN := hR.dom H.length (Nat.le_refl _)
  simp only [Option.getD_some] at e10 e11 e12
  have hop : (if f = hh.toNat then none else some f : Option Nat).getD hh.toNat = f := by
    split
    · rename_i e; simp [e]
    · rfl
  generalize (if f = hh.toNat then none else some f : Option Nat) = opq at hop
  generalize hΓ : Γ.list H.length g hh.toNat (.slice (some ⟨g, 0, none⟩) hh.toNat cap) (f * es0) cs = Γ'
  have hfe : f * es0 ≤ hh.toNat * es0 := Nat.mul_le_mul_right _ (by omega)
  have hcap : hh.toNat * es0 ≤ cs.size := by rw [e5]; exact Nat.mul_le_mul_right _ (by omega)
  have hle : Γ.le Γ' := by
    subst hΓ
    refine ⟨?_, fun _ _ h => h, ?_⟩
    · intro q j d hm
      simp only [Gh.list]
      split
      · rename_i eq; subst eq
        by_cases hj : j < f * es0
        · rw [if_pos (by omega), ← e11 j hj]; exact hm
        · rw [e12 j (by omega)] at hm; cases hm
      · exact hm
    · intro q l d hm
      simp only [Gh.list]
      split
      · rename_i eq; rw [eq.1, hdomN.2] at hm; cases hm
      · exact hm
  refine ⟨.slice (some ⟨g, 0, none⟩) hh.toNat cap, Γ', ?_, ?_, ⟨?_, ?_, ?_, ?_⟩, ⟨hle, ?_, ?_, Nat.le_refl _, fun _ _ _ => rfl, rfl, rfl, rfl⟩⟩
  · rw [y3m hu hs hbr]
    have : (if cap = 0 then (some (⟨g, 0, none⟩ : Addr)) else (some (⟨g, 0, none⟩ : Addr)).map (·.add (0 * es0))) = some ⟨g, 0, none⟩ := by
      split
      · rfl
      · simp [addr_add]
    rw [this]; simp
  · refine .gl ?_ (fun _ => rfl)
    subst hΓ
    simp [Gh.list]
  · intro q j d hm
    subst hΓ
    simp only [Gh.list] at hm
    split at hm
    · rename_i eq; subst eq
      rw [cell_at e3]
      split at hm
      · exact hm
      · cases hm
    · exact hR.mem q j d hm
  · intro q B hq
    by_cases e1 : q = H.length
    · subst e1
      rw [List.getElem?_append_right (by simp)] at hq
      simp at hq
      subst hq
      have hwt : ∀ y, y ∈ xs.take hh.toNat → y.width = es0 := fun y hy => e7 y (List.mem_of_mem_take hy)
      have hfl := y0o e7
      have hflt := y0o hwt
      refine ⟨.slice (some ⟨g, 0, none⟩) hh.toNat cap, by rw [hlen]; subst hΓ; simp [Gh.list], ?_, fun y hy => k2 y (List.mem_of_mem_take hy), .inr ⟨g, cap, cs, cty, by rw [hlen], by subst hΓ; simp [Gh.list], e3, by omega, e5, e6, hwt, ?_, e9, by rw [hlen, hop]; omega, ?_, ?_⟩⟩
      · intro l hl
        subst hΓ
        simp only [Gh.list]
        rw [if_neg (by omega)]
        exact hdomN.2 l
      · rw [y4n e7]
        have := (e8.take (hh.toNat * es0)).mono hle
        rw [List.take_take] at this
        rw [List.length_take]
        exact this
      · intro j hj; rw [hlen, hop] at hj; subst hΓ; simp only [Gh.list, if_true]; rw [if_pos hj]
      · intro j hj; rw [hlen, hop] at hj; subst hΓ; simp only [Gh.list, if_true]; rw [if_neg (by omega)]
    · have hq' : (H.set ol .dead)[q]? = some B := by
        by_cases hql : q < H.length
        · rw [List.getElem?_append_left (by simpa using hql)] at hq; exact hq
        · rw [List.getElem?_append_right (by simp; omega)] at hq
          rw [List.getElem?_eq_none (by simp; omega)] at hq
          cases hq
      by_cases e2' : q = ol
      · subst e2'
        rw [List.getElem?_set_self hlt] at hq'
        cases hq'
        trivial
      · rw [List.getElem?_set_ne (Ne.symm e2')] at hq'
        refine (hR.blk q B hq').step hle ?_ ?_
        · intro g' hg'
          have hne : g' ≠ g := by intro eq; subst eq; rw [e2] at hg'; cases hg'; exact e2' rfl
          subst hΓ
          refine ⟨?_, rfl, ?_⟩
          · simp only [Gh.list]; rw [if_neg hne]; exact hg'
          · intro o; simp only [Gh.list]; rw [if_neg hne]
        · subst hΓ
          exact ⟨rfl, fun l => by simp only [Gh.list]; rw [if_neg (by intro h; exact e1 h.1)]⟩
  · intro q hq
    simp at hq
    obtain ⟨d1, d2⟩ := hR.dom q (by omega)
    subst hΓ
    exact ⟨d1, fun l => by simp only [Gh.list]; rw [if_neg (by omega)]; exact d2 l⟩
  · intro q b hq
    subst hΓ
    simp only [Gh.list] at hq
    split at hq
    · rename_i eq; subst eq; exact (Array.getElem?_eq_some_iff.1 e3).1
    · exact hR.owned q b hq
  · intro q hq ho
    subst hΓ
    simp only [Gh.list]
    rw [if_neg (by intro eq; subst eq; rw [e2] at ho; cases ho)]; exact ho
  · intro q o hq ho
    subst hΓ
    simp only [Gh.list]
    rw [if_neg (by intro eq; subst eq; rw [e2] at ho; cases ho)]
theorem slc_sound {o : Oper} {C : Ctx} {id es : Nat} {x : AOpd} {lo hi mx : Option AOpd} {v : AVal} {H H' : Heap} {w : World} (he : EnvRel Γ e a.tmps) (hR : Rel Γ H w) (hk : chkH P (.slc es x lo hi mx) o.op = true)
    (hv : evH C e id H (.slc es x lo hi mx) = some (.ok v, H')) : Done P o a w Γ v H' := by
  obtain ⟨dst, op, ty, pos, after, guard⟩ := o
  simp only at hk
  cases op <;> simp only [chkH, Bool.false_eq_true, Bool.and_eq_true] at hk
  rename_i t x' lo' hi' mx'
  obtain ⟨⟨⟨⟨hkx, hkl⟩, hkh⟩, hkm⟩, ht⟩ := hk
  obtain ⟨el, hu, hs⟩ := y2f ht
  simp only [evH] at hv
  split at hv <;> first | (cases hv; done) | skip
  · rename_i b off len cap wd lov hiv mxv hx hlo hhi hmx
    split at hv <;> first | (cases hv; done) | skip
    rename_i l h m hb
    split at hv <;> first | (cases hv; done) | skip
    rename_i hcond
    simp only [Option.some.injEq, Prod.mk.injEq, Ex.ok.injEq] at hv
    obtain ⟨rfl, rfl⟩ := hv
    obtain ⟨g, hc, hmu⟩ := (ev_rep he hkx hx).sl_inv
    obtain ⟨hbr, h1, h2, h3⟩ := y33 (P := P) (b0 := true) w hcond.2.2 (opt_reps he hkl hlo) (opt_reps he hkh hhi) (opt_reps he hkm hmx) hb
    refine Done.same hR (c := .slice (some ⟨g, off + l * es, none⟩) (h - l) (m - l)) (exec_v rfl ?_) (.sl hmu)
    rw [hc, y3m hu hs hbr]
    have hne : m ≠ l := by omega
    simp [hne, addr_add]
  · rename_i s lov hiv mxv _ hx hlo hhi hmx
    split at hv
    · rename_i v' H1 hco
      simp only [Option.some.injEq, Prod.mk.injEq, Ex.ok.injEq] at hv
      obtain ⟨rfl, rfl⟩ := hv
      obtain ⟨d, Γ', r1, r2, r3, r4⟩ := y7s (P := P) (t := t) hR hu hs (opt_reps he hkl hlo) (opt_reps he hkh hhi) (opt_reps he hkm hmx) (ev_rep he hkx hx) hco
      exact ⟨_, d, w, Γ', exec_v rfl r1, .inl rfl, r2, r3, r4⟩
    · split at hv <;> first | (cases hv; done) | skip
      rename_i xs ee has
      split at hv <;> first | (cases hv; done) | skip
      rename_i v' hcu
      simp only [Option.some.injEq, Prod.mk.injEq, Ex.ok.injEq] at hv
      obtain ⟨rfl, rfl⟩ := hv
      obtain ⟨d, r1, r2⟩ := y7z (P := P) (t := t) (w := w) hu hs (opt_reps he hkl hlo) (opt_reps he hkh hhi) (opt_reps he hkm hmx) (y86 hR has (ev_rep he hkx hx)) hcu
      exact Done.same hR (exec_v rfl r1) r2
end
end Go.Ev
namespace Go.Ev
set_option linter.unusedVariables false
set_option linter.unusedSimpArgs false
open Go
section
variable {P : Program} {Γ : Gh} {e : Env} {a : Act}
theorem y6u {w : World} {t u ty el : TypeId} {i : TypeInfo} {z : Value} {k k' : IntKind} {base : Option Addr} {sLen sCap : Nat} {n : Int} {olds : List Value}
    (ht : P.underlying t = some (.slice el)) (hu : P.underlying u = some (.int k)) (hi : P.info? el = some i) (hz : i.zero = some z) (hzs : z.cells.size = i.size) (hs0 : 0 < i.size)
    (hold : (Builtin.firstCells i.size sLen (.slice base sLen sCap)).run P w.drew = .ok olds.toArray w.drew) (h0 : 0 < n) (h1 : n < 9223372036854775808)
    (hgt : sCap < sLen + n.toNat) (hb : (sLen + n.toNat) * i.bytes ≤ 140737488355328) (hb0 : 0 < i.bytes) :
    ∃ cap, sLen + n.toNat ≤ cap ∧ (Builtin.append_ #[t, u] ty #[.slice base sLen sCap, .int k' n]).run P w =
      .ok (.slice (some ⟨w.heap.size, 0, none⟩) (sLen + n.toNat) cap) (w.drew.alloc (.cells (olds.toArray ++ Builtin.zeroCells z.cells n.toNat ++ Builtin.zeroCells z.cells (cap - (sLen + n.toNat))) el)) := by
  have hn : ¬ (sLen + n.toNat ≤ sCap) := by omega
  have hsmall : sLen + n.toNat ≤ 140737488355328 := Nat.le_trans (Nat.le_mul_of_pos_right _ hb0) hb
  have hw := wrap_i64 (n := n) (by omega) h1
  have h63' : ¬ (9223372036854775807 < ((sLen : Int) + (n.toNat : Int))) := by omega
  have hfit := growslice_fits (old := sCap) hgt hb
  have h48' : ¬ (281474976710656 < Builtin.nextslicecap (sLen + n.toNat) sCap * i.bytes) := by omega
  have hneg : ¬ n < 0 := by omega
  have hnb : n.toNat * i.bytes ≤ 140737488355328 := Nat.le_trans (Nat.mul_le_mul_right _ (by omega)) hb
  have hnb' : ¬ 281474976710656 < n * (i.bytes : Int) := by
    have : n * (i.bytes : Int) = ((n.toNat * i.bytes : Nat) : Int) := by
      rw [Int.natCast_mul, Int.toNat_of_nonneg (by omega)]
    rw [this]; omega
  have hnz : ¬ (n.toNat = 0 ∨ i.size = 0) := by omega
  refine ⟨grownCap w (sLen + n.toNat) sCap el, ?_, ?_⟩
  · unfold grownCap Question.cut; simp
  · have hmax : IntKind.i64.max = 9223372036854775807 := by decide
    have hn0 : n.toNat ≠ 0 := by omega
    have hs0' : i.size ≠ 0 := by omega
    have hmx : max n 0 = n := by omega
    have hsl : ¬ (9223372036854775807 < (sLen : Int) + n) := by omega
    simp [Builtin.append_, run_underlying ht, run_underlying hu, sizeOf, run_typeInfo _ hi, zeroValue, hz, asInt, asIntOf, hw, hneg, hnb', hn, h63', h48', hmax, Question.forced, hold, newRow, grownCap, hmx, hsl, hn0, hs0']
    intro h
    rcases Nat.mul_eq_zero.1 h with h | h <;> omega
theorem y8n {o : Oper} {C : Ctx} {id es bytes : Nat} {zv : AVal} {s x : AOpd} {v : AVal} {H H' : Heap} {w : World} (he : EnvRel Γ e a.tmps) (hR : Rel Γ H w) (hk : chkH P (.appz es bytes zv s x) o.op = true)
    (hv : evH C e id H (.appz es bytes zv s x) = some (.ok v, H')) : Done P o a w Γ v H' := by
  obtain ⟨dst, op, ty, pos, after, guard⟩ := o
  simp only at hk
  cases op <;> simp only [chkH, Bool.false_eq_true, Bool.and_eq_true, decide_eq_true_eq] at hk
  rename_i c
  obtain ⟨⟨⟨⟨hb, ha⟩, hes⟩, hby0⟩, ht⟩ := hk
  have hcal := y3q hb
  obtain ⟨s', x', hargs, hq⟩ := args2_eq ha
  simp only [Bool.and_eq_true] at hq
  split at ht <;> first | (cases ht; done) | skip
  rename_i t u hts
  simp only [Bool.and_eq_true, decide_eq_true_eq] at ht
  obtain ⟨hu, hel⟩ := ht
  obtain ⟨el, htu, hq2⟩ := y2f hel
  simp only [Bool.and_eq_true] at hq2
  obtain ⟨⟨⟨⟨hsz, hby⟩, hz⟩, hzv⟩, hlow⟩ := hq2
  obtain ⟨i, hi, his⟩ := y41 hsz
  obtain ⟨i2, hi2, hib⟩ := y55 hby
  rw [hi] at hi2; cases hi2
  obtain ⟨i3, z, hi3, hzv3, hzs, hz1⟩ := y71 hz
  rw [hi] at hi3; cases hi3
  obtain ⟨i4, z4, hi4, hzv4, hzr, _⟩ := y6x (Γ := Γ) hzv
  rw [hi] at hi4; cases hi4
  rw [hzv3] at hzv4; cases hzv4
  obtain ⟨ku, hu'⟩ := y85 hu
  have hrun : ∀ (c' : Value) (w' : World), (Builtin.append_ #[t, u] ty #[a.eval s', a.eval x']).run P w = .ok c' w' →
      (execOp a.eval { dst, op := .call c, type := ty, pos, after, guard }).run P w = .ok (.value c') w' := by
    intro c' w' h
    have e1 : c.args.map a.eval = #[a.eval s', a.eval x'] := by
      apply Array.ext'; simp [hargs]
    have e2 : c.argTypes = #[t, u] := by apply Array.ext'; simpa using hts
    simp only [execOp, resolve, hcal, e1, e2, Sem.run_bind, Sem.run_pure, Result.andThen_ok, invoke, builtin, h]
  simp only [evH] at hv
  split at hv <;> first | (cases hv; done) | skip
  rename_i xs ee k n hs hx
  have hrs := ev_rep he hq.1 hs
  have hcx := (ev_rep he hq.2 hx).int_inv
  obtain ⟨base, cap, hcs, hle, hex⟩ := hrs.lst_slice
  split at hv <;> first | (cases hv; done) | skip
  rename_i hcond
  obtain ⟨h0, hzw, hall⟩ := hcond
  split at hv
  · rename_i hn0
    simp only [Option.some.injEq, Prod.mk.injEq, Ex.ok.injEq] at hv
    obtain ⟨rfl, rfl⟩ := hv
    subst hn0
    refine Done.same hR (hrun _ _ ?_) hrs
    rw [hcs, hcx]
    have hw0 : IntKind.i64.wrap 0 = 0 := by decide
    cases base <;> simp [Builtin.append_, run_underlying htu, run_underlying hu', sizeOf, run_typeInfo _ hi, asInt, asIntOf, hw0, hle, storeCells]
  · rename_i hn0
    split at hv <;> first | (cases hv; done) | skip
    rename_i hc2
    split at hv <;> first | (cases hv; done) | skip
    rename_i H2 hnew
    simp only [Option.some.injEq, Prod.mk.injEq, Ex.ok.injEq] at hv
    obtain ⟨rfl, rfl⟩ := hv
    have hRd : Rel Γ H w.drew := hR.drew _
    have hwx := width_all hall
    rw [hcs] at hrs
    obtain ⟨dx, hdx⟩ := lst_holds (P := P) hRd hrs
    have hlx : dx.length = xs.length * es := by rw [hdx.reps.1, y0o hwx]
    have fx := hdx.first es xs.length hwx (Nat.le_refl _)
    rw [List.take_of_length_le (by omega)] at fx
    have hcap := hex hc2.1
    obtain ⟨ncap, hncap, hrun2⟩ := y6u (P := P) (ty := ty) (k' := k) htu hu' hi hzv3 (by rw [hzs, his]) (by omega) (his ▸ fx) (by omega) hc2.2.2 (by omega) (by rw [hib]; exact hc2.2.1) (by omega)
    obtain ⟨g1, g2, g3⟩ := y5n hnew
    have hfr := y53 hR hnew
    have hxf : ∀ y, y ∈ xs → rfree y := by
      rcases hrs.lst_inv with ⟨rfl, _⟩ | ⟨_, _, _, _, _, _, _, _, _, k4, _⟩
      · simp
      · exact k4
    have hlen : (xs ++ List.replicate n.toNat zv).length = xs.length + n.toNat := by simp
    have hw : ∀ y, y ∈ xs ++ List.replicate n.toNat zv → y.width = es := by
      intro y hy; simp only [List.mem_append] at hy; rcases hy with hy | hy
      · exact hwx y hy
      · rw [List.eq_of_mem_replicate hy]; exact hzw
    have hfree : ∀ y, y ∈ xs ++ List.replicate n.toNat zv → rfree y := by
      intro y hy; simp only [List.mem_append] at hy; rcases hy with hy | hy
      · exact hxf y hy
      · rw [List.eq_of_mem_replicate hy]; exact hlow
    let cs : Array Value := dx.toArray ++ Builtin.zeroCells z.cells n.toNat ++ Builtin.zeroCells z.cells (ncap - (xs.length + n.toNat))
    have hzl : ∀ m, (Builtin.zeroCells z.cells m).toList = (List.replicate m z.cells.toList).flatten := by
      intro m; rw [← zeros_eq]; rfl
    have hcsl : cs.toList = dx ++ (List.replicate n.toNat z.cells.toList).flatten ++ (Builtin.zeroCells z.cells (ncap - (xs.length + n.toNat))).toList := by simp [cs, ← hzl]
    have hcs' : cs.size = ncap * es := by
      have : cs.size = dx.length + n.toNat * es + (ncap - (xs.length + n.toNat)) * es := by
        simp [cs, size_zeroCells', hzs]; omega
      rw [this, hlx, ← Nat.add_mul, ← Nat.add_mul]
      congr 1; omega
    have hfz : flatL (List.replicate n.toNat zv) = (List.replicate n.toNat zv.flat).flatten := by
      generalize n.toNat = m
      induction m with
      | zero => rfl
      | succ m ih => simp [List.replicate_succ, flatL, ih]
    have hreps : Reps Γ (flatL (xs ++ List.replicate n.toNat zv)) (cs.toList.take (flatL (xs ++ List.replicate n.toNat zv)).length) := by
      have h2 := hdx.reps.append (y3f hzr.cells n.toNat)
      rw [y47, hfz, hcsl, List.take_left' (by rw [← h2.1])]
      exact h2
    have h1 : ∀ c, c ∈ cs.toList → c.oneCell' = true := by
      intro c hc
      rw [hcsl] at hc
      simp only [List.mem_append] at hc
      rcases hc with (hc | hc) | hc
      · exact hdx.one c hc
      · exact y4c hz1 _ c hc
      · exact y2c hz1 _ c hc
    obtain ⟨r1, r2⟩ := hRd.listNew (cap := ncap) (es := es) (cs := cs) (el := el) g1 g2 g3 (fun l _ => hfr.2 l) hfree hw hes hcs' (by omega) hreps h1 (by simp)
    have hsz : w.drew.heap.size = w.heap.size := rfl
    refine ⟨_, .slice (some ⟨w.heap.size, 0, none⟩) (xs.length + n.toNat) ncap, _, _, hrun _ _ ?_, .inl rfl, ?_, r1, (Stp.drew Γ w _).trans r2⟩
    · rw [hcs, hcx]; exact hrun2
    · rw [hlen]
      refine .gl ?_ (fun _ => rfl)
      simp only [Gh.list, hsz, and_self, if_true]
theorem y8v {o : Oper} {C : Ctx} {id es : Nat} {d s : AOpd} {v : AVal} {H H' : Heap} {w : World} (he : EnvRel Γ e a.tmps) (hR : Rel Γ H w) (hk : chkH P (.copy es d s) o.op = true)
    (hv : evH C e id H (.copy es d s) = some (.ok v, H')) : Done P o a w Γ v H' := by
  obtain ⟨dst, op, ty, pos, after, guard⟩ := o
  simp only at hk
  cases op <;> simp only [chkH, Bool.false_eq_true, Bool.and_eq_true] at hk
  rename_i c
  obtain ⟨⟨hb, ha⟩, ht⟩ := hk
  have hcal := y3q hb
  obtain ⟨d', s', hargs, hq⟩ := args2_eq ha
  simp only [Bool.and_eq_true] at hq
  split at ht <;> first | (cases ht; done) | skip
  rename_i t hts
  obtain ⟨el, hu, hs⟩ := y2f ht
  simp only [evH] at hv
  split at hv <;> first | (cases hv; done) | skip
  rename_i b off len cap wd sv hd hsv
  split at hv <;> first | (cases hv; done) | skip
  rename_i ys hel
  split at hv <;> first | (cases hv; done) | skip
  rename_i vs hbl
  split at hv <;> first | (cases hv; done) | skip
  rename_i hcond
  obtain ⟨hwd, hle, hall⟩ := hcond
  simp only [Option.some.injEq, Prod.mk.injEq, Ex.ok.injEq] at hv
  obtain ⟨rfl, rfl⟩ := hv
  have hwy := width_all hall
  obtain ⟨g, hc, hmu⟩ := (ev_rep he hq.1 hd).sl_inv
  obtain ⟨g', cs, cty, k1, k2, k3, k4, k5, k6⟩ := hR.cells hbl
  rw [hmu] at k1; cases k1
  obtain ⟨dy, hy⟩ := y4h (P := P) hR hel (ev_rep he hq.2 hsv)
  have hly : dy.length = ys.length * es := by rw [hy.reps.1, y0o hwy]
  have fy := hy.first es (min ys.length len) hwy (Nat.min_le_left _ _)
  have hmin : min ys.length len * es ≤ len * es := Nat.mul_le_mul_right _ (Nat.min_le_right _ _)
  have hmin2 : min ys.length len * es ≤ ys.length * es := Nat.mul_le_mul_right _ (Nat.min_le_left _ _)
  have hlen' : (dy.take (min ys.length len * es)).length = min ys.length len * es := by simp; omega
  have hcl : cs.size = vs.length := by have := k5.1; simpa using this
  have hst := run_storeCells_at P g off cty (dy.take (min ys.length len * es)) 0 cs w k3 (by rw [hlen']; omega) (fun v hv => hy.one v (List.mem_of_mem_take hv))
  simp only [Nat.add_zero] at hst
  have hrt : Reps Γ (flatL (ys.take (min ys.length len))) (dy.take (min ys.length len * es)) := by
    rw [y4n hwy]; exact hy.reps.take _
  obtain ⟨r1, r2⟩ := hR.writeCells (vs' := putCells off (flatL (ys.take (min ys.length len))) vs) (cs' := (putCells off (dy.take (min ys.length len * es)) cs.toList).toArray) hbl hmu k2 k3 k4 (by simpa using k5.put off hrt) (by
    intro c hc
    simp only [putCells, List.mem_append] at hc
    rcases hc with (hc | hc) | hc
    · exact k6 c (List.mem_of_mem_take hc)
    · exact hy.one c (List.mem_of_mem_take hc)
    · exact k6 c (List.mem_of_mem_drop hc))
  refine ⟨.value (goInt (min ys.length len : Nat)), _, _, _, ?_, .inl rfl, .int _ _, r1, r2⟩
  have e1 : (c.args.map a.eval)[0]? = some (a.eval d') ∧ (c.args.map a.eval)[1]? = some (a.eval s') := by
    rw [show c.args = [d', s'].toArray from by apply Array.ext'; simpa using hargs]; simp
  obtain ⟨i, hi, his⟩ := y41 hs
  simp only [execOp, resolve, hcal, Sem.run_bind, Sem.run_pure, Result.andThen_ok, invoke, builtin, Builtin.copy_, hts, e1.1, e1.2, run_underlying hu, hc, hy.len, sizeOf, run_typeInfo _ hi, his]
  have hnm : Nat.min ys.length len = min ys.length len := rfl
  simp only [hnm, fy, Result.andThen_ok, Sem.run_bind, hst, Sem.run_pure, putCells]
theorem y8b {zs : List AVal} {es : Nat} {y : AVal} (hl : zs.length = es) (hz : ∀ z, z ∈ zs → aggV z = false) (h : es = 1 ∨ aggV y = true) : (zeroAs zs y).flat = zs := by
  cases y with
  | agg _ => rfl
  | _ =>
    rcases h with h | h
    · rw [h] at hl
      obtain ⟨z, rfl⟩ := List.length_eq_one_iff.1 hl
      have := hz z (by simp)
      show z.flat = [z]
      cases z <;> first | rfl | (simp [aggV] at this)
    · simp [aggV] at h
theorem y82 {zs : List AVal} {y : AVal} (hz : ∀ z, z ∈ zs → rfree z) : rfree (zeroAs zs y) := by
  cases y with
  | agg _ => exact lowL_iff.2 hz
  | _ =>
    cases zs with
    | nil => rfl
    | cons z zs => exact hz z (by simp)
theorem y6h {zs : List AVal} {g : AVal → AVal} : ∀ {ys : List AVal}, (∀ y, y ∈ ys → (g y).flat = zs) → flatL (ys.map g) = (List.replicate ys.length zs).flatten
  | [], _ => rfl
  | y :: ys, h => by
    have ih := y6h (ys := ys) (g := g) (zs := zs) (fun z hz => h z (by simp [hz]))
    simp only [List.map_cons, flatL, List.length_cons, List.replicate_succ, List.flatten_cons, ih, h y (by simp)]
theorem y89 {o : Oper} {C : Ctx} {id es : Nat} {zs : List AVal} {x : AOpd} {v : AVal} {H H' : Heap} {w : World} (he : EnvRel Γ e a.tmps) (hR : Rel Γ H w) (hk : chkH P (.clear es zs x) o.op = true)
    (hv : evH C e id H (.clear es zs x) = some (.ok v, H')) : Done P o a w Γ v H' := by
  obtain ⟨dst, op, ty, pos, after, guard⟩ := o
  simp only at hk
  cases op <;> simp only [chkH, Bool.false_eq_true, Bool.and_eq_true, decide_eq_true_eq] at hk
  rename_i c
  obtain ⟨⟨⟨hb, ha⟩, hes⟩, ht⟩ := hk
  have hcal := y3q hb
  obtain ⟨x', hargs, hko⟩ := args1_eq ha
  split at ht <;> first | (cases ht; done) | skip
  rename_i t hts
  obtain ⟨el, hu, hq⟩ := y2f ht
  simp only [Bool.and_eq_true] at hq
  obtain ⟨hs, hz⟩ := hq
  simp only [evH] at hv
  split at hv <;> first | (cases hv; done) | skip
  rotate_left
  · rename_i ol l lo es' hx
    split at hv <;> first | (cases hv; done) | skip
    rename_i es0 xs f hb'
    split at hv <;> first | (cases hv; done) | skip
    rename_i hcond
    obtain ⟨q1, q2, q3, hflo, hlol, hzl, hzall, hsh⟩ := hcond
    subst q1; subst q2; subst q3
    simp only [Option.some.injEq, Prod.mk.injEq, Ex.ok.injEq] at hv
    obtain ⟨rfl, rfl⟩ := hv
    have hzf : ∀ z, z ∈ zs → rfree z := fun z hz => by
      have := List.all_eq_true.1 hzall z hz
      simp only [Bool.and_eq_true] at this
      exact this.1
    have hza : ∀ z, z ∈ zs → aggV z = false := fun z hz => by
      have := List.all_eq_true.1 hzall z hz
      simp only [Bool.and_eq_true, Bool.not_eq_true'] at this
      exact this.2
    obtain ⟨g, cap, hc, hT⟩ := (ev_rep he hko hx).gtl_inv
    obtain ⟨c', k1, k0, k2, k3⟩ := hR.blk _ _ hb'
    rw [k1] at hT
    cases hT
    rcases k3 with ⟨hbad, _⟩ | ⟨g1, cap1, cs, cty, e1, e2, e3, e4, e5, e6, e7, e8, e9, e10, e11, e12⟩
    · cases hbad
    cases e1
    simp only [Option.getD_some] at e10 e11 e12
    obtain ⟨z, hzr, hzreps, hz1⟩ := run_zeroB (Γ := Γ) hz w
    have hzs : z.cells.toList.length = es0 := by rw [hzreps.1]; exact hzl
    have hzz : (Builtin.zeroCells z.cells (xs.length - lo)).toList = (List.replicate (xs.length - lo) z.cells.toList).flatten := by rw [← zeros_eq]; rfl
    have hzlen : (Builtin.zeroCells z.cells (xs.length - lo)).toList.length = (xs.length - lo) * es0 := by
      rw [Array.length_toList, size_zeroCells', show z.cells.size = es0 by simpa using hzs]
    have hmul : lo * es0 + (xs.length - lo) * es0 = xs.length * es0 := by rw [← Nat.add_mul]; congr 1; omega
    have hlc : xs.length * es0 ≤ cap * es0 := Nat.mul_le_mul_right _ e4
    have hfe : f * es0 ≤ lo * es0 := Nat.mul_le_mul_right _ hflo
    have hfit : lo * es0 + (Builtin.zeroCells z.cells (xs.length - lo)).toList.length ≤ cs.toList.length := by simp only [hzlen, Array.length_toList]; omega
    have hst := run_storeCells_at P g (lo * es0) cty (Builtin.zeroCells z.cells (xs.length - lo)).toList 0 cs w e3 (by rw [Array.length_toList] at hfit; exact hfit) (y2c hz1 _)
    simp only [Nat.add_zero] at hst
    let cs' : Array Value := (putCells (lo * es0) (Builtin.zeroCells z.cells (xs.length - lo)).toList cs.toList).toArray
    have hcs' : cs'.toList = putCells (lo * es0) (Builtin.zeroCells z.cells (xs.length - lo)).toList cs.toList := by simp [cs']
    have hsz' : cs'.size = cs.size := by
      have := y1o (lo * es0) (Builtin.zeroCells z.cells (xs.length - lo)).toList cs.toList hfit
      simpa [cs'] using this
    have hold : ∀ j, j < f * es0 → cs'[j]? = cs[j]? := by
      intro j hj
      have : cs'.toList[j]? = cs.toList[j]? := by
        rw [hcs', y2b hfit, if_pos (by omega)]
      simpa using this
    have hzy : ∀ y, y ∈ xs.drop lo → (zeroAs zs y).flat = zs := fun y hy => y8b hzl hza (hsh.imp (fun h => h) fun h => List.all_eq_true.1 h y hy)
    have hw' : ∀ y, y ∈ xs.take lo ++ (xs.drop lo).map (zeroAs zs) → y.width = es0 := by
      intro y hy
      rcases List.mem_append.1 hy with hy | hy
      · exact e7 y (List.mem_of_mem_take hy)
      · obtain ⟨y0, hy0, rfl⟩ := List.mem_map.1 hy
        show (zeroAs zs y0).flat.length = es0
        rw [hzy y0 hy0]; exact hzl
    have hf' : ∀ y, y ∈ xs.take lo ++ (xs.drop lo).map (zeroAs zs) → rfree y := by
      intro y hy
      rcases List.mem_append.1 hy with hy | hy
      · exact k2 y (List.mem_of_mem_take hy)
      · obtain ⟨y0, _, rfl⟩ := List.mem_map.1 hy
        exact y82 hzf
    have hlen2 : (xs.take lo ++ (xs.drop lo).map (zeroAs zs)).length = xs.length := by simp; omega
    have hflat : flatL (xs.take lo ++ (xs.drop lo).map (zeroAs zs)) = (flatL xs).take (lo * es0) ++ (List.replicate (xs.length - lo) zs).flatten := by
      rw [y47, y4n e7, y6h hzy, List.length_drop]
    have hrz : Reps Γ (List.replicate (xs.length - lo) zs).flatten (Builtin.zeroCells z.cells (xs.length - lo)).toList := by
      rw [hzz]; exact y3f hzreps _
    have hfl := y0o e7
    have hreps : Reps Γ (flatL (xs.take lo ++ (xs.drop lo).map (zeroAs zs))) (cs'.toList.take (flatL (xs.take lo ++ (xs.drop lo).map (zeroAs zs))).length) := by
      rw [y0o hw', hlen2, hflat]
      have h2 := ((e8.take (lo * es0)).append hrz)
      have : cs'.toList.take (xs.length * es0) = (cs.toList.take (flatL xs).length).take (lo * es0) ++ (Builtin.zeroCells z.cells (xs.length - lo)).toList := by
        rw [hcs', putCells, List.take_take, hfl, Nat.min_eq_left (by omega)]
        rw [List.take_append_of_le_length (by simp only [List.length_append, List.length_take, hzlen, Array.length_toList]; omega)]
        rw [List.take_of_length_le (by simp only [List.length_append, List.length_take, hzlen, Array.length_toList]; omega)]
      rw [this]; exact h2
    obtain ⟨r1, r2⟩ := hR.write (Γ' := Γ) (B := .grow es0 (xs.take lo ++ (xs.drop lo).map (zeroAs zs)) (some f)) (o := .cells cs' cty) (w' := w.setRow g cs') hb' e2 (.refl Γ) (fun _ => rfl) (fun _ _ => ⟨rfl, fun _ => rfl⟩)
      (fun k j hk => rfl) (y0y w g cs cs' cty (0, 0) e3) (fun k hk => y2a w g k cs' hk) (y3s w g cs') rfl rfl rfl
      (fun j c hm => by
        rw [cell_at (y0y w g cs cs' cty (0, 0) e3)]
        by_cases hj : j < f * es0
        · rw [hold j hj, ← e11 j hj]; exact hm
        · rw [e12 j (by omega)] at hm; cases hm)
      ⟨_, by rw [hlen2]; exact k1, by rw [hlen2]; exact k0, hf', .inr ⟨g, cap, cs', cty, by rw [hlen2], e2, y0y w g cs cs' cty (0, 0) e3, by rw [hlen2]; exact e4, hsz'.trans e5, e6, hw', hreps, by
          intro c hc
          rw [hcs'] at hc
          simp only [putCells, List.mem_append] at hc
          rcases hc with (hc | hc) | hc
          · exact e9 c (List.mem_of_mem_take hc)
          · exact y2c hz1 _ c hc
          · exact e9 c (List.mem_of_mem_drop hc), by rw [hlen2]; exact e10, fun j hj => by simp only [Option.getD_some] at hj; rw [hold j hj]; exact e11 j hj, fun j hj => e12 j (by simpa using hj)⟩⟩
    have e1 : (c.args.map a.eval)[0]? = some (a.eval x') := by
      rw [show c.args = [x'].toArray from by apply Array.ext'; simpa using hargs]; simp
    refine ⟨.value (.tuple #[]), _, _, _, ?_, .inl rfl, rep_undef Γ, r1, r2⟩
    obtain ⟨n, hn⟩ : ∃ n, xs.length - lo = n + 1 := ⟨xs.length - lo - 1, by omega⟩
    simp only [hn] at hst hc hcs'
    simp [execOp, resolve, hcal, invoke, builtin, Builtin.clear_, hts, e1, run_underlying hu, hc, hzr, hst, cs', hn, putCells]
  rename_i b off len cap wd hx
  split at hv <;> first | (cases hv; done) | skip
  rename_i vs hbl
  split at hv <;> first | (cases hv; done) | skip
  rename_i hcond
  obtain ⟨hwd, hle, hzl⟩ := hcond
  simp only [Option.some.injEq, Prod.mk.injEq, Ex.ok.injEq] at hv
  obtain ⟨rfl, rfl⟩ := hv
  obtain ⟨g, hc, hmu⟩ := (ev_rep he hko hx).sl_inv
  obtain ⟨g', cs, cty, k1, k2, k3, k4, k5, k6⟩ := hR.cells hbl
  rw [hmu] at k1; cases k1
  obtain ⟨z, hzr, hzreps, hz1⟩ := run_zeroB (Γ := Γ) hz w
  have hzs : z.cells.toList.length = es := by rw [hzreps.1]; exact hzl
  have hzz : (Builtin.zeroCells z.cells len).toList = (List.replicate len z.cells.toList).flatten := by rw [← zeros_eq]; rfl
  have hzlen : (Builtin.zeroCells z.cells len).toList.length = len * es := by
    rw [Array.length_toList, size_zeroCells', show z.cells.size = es by simpa using hzs]
  have hcl : cs.size = vs.length := by have := k5.1; simpa using this
  have hst := run_storeCells_at P g off cty (Builtin.zeroCells z.cells len).toList 0 cs w k3 (by rw [hzlen]; omega) (y2c hz1 len)
  simp only [Nat.add_zero] at hst
  have hrz : Reps Γ (flatL (List.replicate len (.agg zs))) (Builtin.zeroCells z.cells len).toList := by
    rw [y4x, hzz]; exact y3f hzreps len
  obtain ⟨r1, r2⟩ := hR.writeCells (vs' := putCells off (flatL (List.replicate len (.agg zs))) vs) (cs' := (putCells off (Builtin.zeroCells z.cells len).toList cs.toList).toArray) hbl hmu k2 k3 k4 (by simpa using k5.put off hrz) (by
    intro c hc
    simp only [putCells, List.mem_append] at hc
    rcases hc with (hc | hc) | hc
    · exact k6 c (List.mem_of_mem_take hc)
    · exact y2c hz1 len c hc
    · exact k6 c (List.mem_of_mem_drop hc))
  have e1 : (c.args.map a.eval)[0]? = some (a.eval x') := by
    rw [show c.args = [x'].toArray from by apply Array.ext'; simpa using hargs]; simp
  refine ⟨.value (.tuple #[]), _, _, _, ?_, .inl rfl, rep_undef Γ, r1, r2⟩
  cases len with
  | zero =>
    have h0 : putCells off (Builtin.zeroCells z.cells 0).toList cs.toList = cs.toList := by
      have : (Builtin.zeroCells z.cells 0).toList = [] := by rw [hzz]; rfl
      rw [this, y5z]
    rw [h0]
    have := setRow_self w g cs cty (0, 0) k3
    simp [execOp, resolve, hcal, invoke, builtin, Builtin.clear_, hts, e1, run_underlying hu, hc, this]
  | succ n =>
    simp [execOp, resolve, hcal, invoke, builtin, Builtin.clear_, hts, e1, run_underlying hu, hc, hzr, hst, putCells]
def keyD (ks : Bool) (D : TypeDesc) : Prop := (ks = false ∧ ∃ i, D = .int i) ∨ (ks = true ∧ D = .string)
theorem keyB_some {ks : Bool} {t : TypeId} {q : TypeId → Bool} (h : keyB P ks t q = true) : ∃ k e D, P.underlying t = some (.map k e) ∧ P.underlying k = some D ∧ keyD ks D ∧ q e = true := by
  unfold keyB at h
  split at h
  · rename_i k e hu
    simp only [Bool.and_eq_true] at h
    have h1 := h.1
    split at h1
    · rename_i i hk; exact ⟨k, e, _, hu, hk, .inl ⟨by simpa using h1, i, rfl⟩, h.2⟩
    · rename_i hk; exact ⟨k, e, _, hu, hk, .inr ⟨h1, rfl⟩, h.2⟩
    · cases h1
  · cases h
theorem keyEq_now {ks : Bool} {k k' : AVal} {c c' : Value} {D : TypeDesc} {r : Bool} (hD : keyD ks D) (h : keyEq ks k k' = some r) (hk : Rep Γ k c) (hk' : Rep Γ k' c') : Instr.sameNow D c c' = some r := by
  unfold keyEq at h
  split at h
  · rename_i q x q' y
    split at h <;> first | (cases h; done) | skip
    rename_i hq
    subst hq
    cases h
    have e1 := hk.int_inv
    have e2 := hk'.int_inv
    subst e1; subst e2
    rcases hD with ⟨_, i, rfl⟩ | ⟨h, _⟩
    · simp [Instr.sameNow]; rfl
    · cases h
  · rename_i x y
    cases h
    have e1 := hk.str_inv
    have e2 := hk'.str_inv
    subst e1; subst e2
    rcases hD with ⟨h, _⟩ | ⟨_, rfl⟩
    · cases h
    · simp only [Instr.sameNow]
      congr 1
      rw [Bool.eq_iff_iff, MapKept.bytes_beq]
      simp
  · cases h
theorem y4l {ks : Bool} {k : AVal} {c : Value} {D : TypeDesc} (hD : keyD ks D) (hk : Rep Γ k c) : ∀ {es : List (AVal × AVal)} {ents : List MapEntry} {n : Nat} {r : Option AVal},
    ents.length = es.length → (∀ (i : Nat) (x v : AVal) (en : MapEntry), es[i]? = some (x, v) → ents[i]? = some en → Rep Γ x en.key ∧ Rep Γ v en.val) → findKey ks k es = some r →
    ∃ q, Instr.findNow D c ents n = some q ∧ match r with
      | none => q = none
      | some v => ∃ i u, q = some (i, u) ∧ Rep Γ v u
  | [], [], n, r, _, _, h => by simp [findKey] at h; subst h; exact ⟨none, rfl, rfl⟩
  | [], _ :: _, _, _, hl, _, _ => by simp at hl
  | _ :: _, [], _, _, hl, _, _ => by simp at hl
  | (k', v) :: es, en :: ents, n, r, hl, hr, h => by
    have h0 := hr 0 k' v en rfl rfl
    simp only [findKey] at h
    simp only [Instr.findNow]
    split at h
    · rename_i hq
      cases h
      rw [keyEq_now hD hq hk h0.1]
      exact ⟨_, rfl, n, en.val, rfl, h0.2⟩
    · rename_i hq
      rw [keyEq_now hD hq hk h0.1]
      exact y4l hD hk (by simpa using hl) (fun i x v en hx hv => hr (i + 1) x v en (by simpa using hx) (by simpa using hv)) h
    · cases h
theorem y5q {ks : Bool} {b : Bool} {k : AVal} {c : Value} {kt : TypeId} {D : TypeDesc} {w : World} (hu : P.underlying kt = some D) (hD : keyD ks D) : (Instr.checkKey b 10000 kt c).run P w = .ok () w := by
  show (Instr.checkKey b (9999 + 1) kt c).run P w = _
  rw [Instr.checkKey, Sem.run_bind, run_underlying hu, Result.andThen_ok]
  rcases hD with ⟨_, i, rfl⟩ | ⟨_, rfl⟩ <;> rfl
theorem y4o {w : World} {g : Nat} {ents : Array MapEntry} {clock : Nat} (h : w.heap[g]? = some (.map ents clock)) : (getObj g).run P w = .ok (.map ents clock) w := by
  simp [getObj, Sem.run, h]
theorem y8p {o : Oper} {C : Ctx} {id : Nat} {ks ok : Bool} {z : AVal} {m k : AOpd} {v : AVal} {H H' : Heap} {w : World} (he : EnvRel Γ e a.tmps) (hR : Rel Γ H w) (hk : chkH P (.look ks ok z m k) o.op = true)
    (hv : evH C e id H (.look ks ok z m k) = some (.ok v, H')) : Done P o a w Γ v H' := by
  obtain ⟨dst, op, ty, pos, after, guard⟩ := o
  simp only at hk
  cases op <;> simp only [chkH, Bool.false_eq_true, Bool.and_eq_true, decide_eq_true_eq] at hk
  rename_i t m' k' ok'
  obtain ⟨⟨⟨rfl, hkm⟩, hkk⟩, hkt⟩ := hk
  obtain ⟨kt, el, D, hu, hku, hD, hz⟩ := keyB_some hkt
  obtain ⟨zv, hzr, hzrep, _⟩ := run_zvalB (Γ := Γ) hz w
  simp only [evH] at hv
  split at hv <;> first | (cases hv; done) | skip
  rename_i b kv hm hkv
  split at hv <;> first | (cases hv; done) | skip
  rename_i es hb
  split at hv <;> first | (cases hv; done) | skip
  obtain ⟨g, hc, hmu⟩ := (ev_rep he hkm hm).map_inv
  obtain ⟨g', ents, clock, h1, h2, h3, h4, h5⟩ := hR.blk _ _ hb
  rw [hmu] at h1; cases h1
  have hrk := ev_rep he hkk hkv
  have hck := y5q (P := P) (b := ents.isEmpty) (c := a.eval k') (w := w) (k := kv) hku hD
  split at hv
  · rename_i u hf
    simp only [Option.some.injEq, Prod.mk.injEq, Ex.ok.injEq] at hv
    obtain ⟨rfl, rfl⟩ := hv
    obtain ⟨q, hq, i, uv, rfl, hru⟩ := y4l (n := 0) hD hrk (ents := ents.toList) (by simpa using h4) (fun i x v en hx hv => h5 i x v en hx (by simpa using hv)) hf
    have hrun : (Instr.lookup t (a.eval m') (a.eval k') ok).run P w = .ok (if ok then .tuple #[uv, .bool true] else uv) w := by
      simp only [Instr.lookup, Sem.run_bind, run_underlying hu, Result.andThen_ok, hc, y4o h3, Sem.run_pure, hck, Instr.findKey, run_underlying hku, hq]
    refine Done.same hR (exec_v rfl hrun) ?_
    cases ok
    · exact hru
    · exact .tup (cs := [u, .bool true]) (ds := [uv, .bool true]) rfl (Reps.cons hru (Reps.cons (.bool true) (Reps.nil Γ))).2
  · rename_i hf
    simp only [Option.some.injEq, Prod.mk.injEq, Ex.ok.injEq] at hv
    obtain ⟨rfl, rfl⟩ := hv
    obtain ⟨q, hq, rfl⟩ := y4l (n := 0) hD hrk (ents := ents.toList) (by simpa using h4) (fun i x v en hx hv => h5 i x v en hx (by simpa using hv)) hf
    have hrun : (Instr.lookup t (a.eval m') (a.eval k') ok).run P w = .ok (if ok then .tuple #[zv, .bool false] else zv) w := by
      simp only [Instr.lookup, Sem.run_bind, run_underlying hu, Result.andThen_ok, hc, y4o h3, Sem.run_pure, hck, Instr.findKey, run_underlying hku, hq, hzr]
    refine Done.same hR (exec_v rfl hrun) ?_
    cases ok
    · exact hzrep
    · exact .tup (cs := [z, .bool false]) (ds := [zv, .bool false]) rfl (Reps.cons hzrep (Reps.cons (.bool false) (Reps.nil Γ))).2
  · cases hv
theorem y60 {ks : Bool} {k v : AVal} {c u : Value} {D : TypeDesc} (hD : keyD ks D) (hk : Rep Γ k c) (hv : Rep Γ v u) : ∀ {es es' : List (AVal × AVal)} {ents : List MapEntry} {n : Nat},
    ents.length = es.length → (∀ (i : Nat) (x y : AVal) (en : MapEntry), es[i]? = some (x, y) → ents[i]? = some en → Rep Γ x en.key ∧ Rep Γ y en.val) → setKey ks k v es = some es' →
    (∃ i val en, Instr.findNow D c ents n = some (some (n + i, val)) ∧ ents[i]? = some en ∧ Instr.sameNow D c en.key = some true ∧ es'.length = es.length ∧
      ∀ (j : Nat) (x y : AVal) (en' : MapEntry), es'[j]? = some (x, y) → (ents.modify i fun e => { e with key := e.key, val := u })[j]? = some en' → Rep Γ x en'.key ∧ Rep Γ y en'.val) ∨
    (Instr.findNow D c ents n = some none ∧ es' = es ++ [(k, v)])
  | [], es', [], n, _, _, h => by simp [setKey] at h; subst h; exact .inr ⟨rfl, rfl⟩
  | [], _, _ :: _, _, hl, _, _ => by simp at hl
  | _ :: _, _, [], _, hl, _, _ => by simp at hl
  | (k', v') :: es, es', en :: ents, n, hl, hr, h => by
    have h0 := hr 0 k' v' en rfl rfl
    simp only [setKey] at h
    simp only [Instr.findNow]
    split at h
    · rename_i hq
      cases h
      have hs := keyEq_now hD hq hk h0.1
      rw [hs]
      refine .inl ⟨0, en.val, en, by simp, rfl, hs, by simp, ?_⟩
      intro j x y en' hx hy
      cases j with
      | zero => simp at hx hy; obtain ⟨rfl, rfl⟩ := hx; subst hy; exact ⟨h0.1, hv⟩
      | succ j => simp at hx hy; exact hr (j + 1) x y en' (by simpa using hx) (by simpa using hy)
    · rename_i hq
      rw [keyEq_now hD hq hk h0.1]
      split at h <;> first | (cases h; done) | skip
      rename_i r' hr'
      cases h
      rcases y60 hD hk hv (n := n + 1) (by simpa using hl) (fun i x y en hx hy => hr (i + 1) x y en (by simpa using hx) (by simpa using hy)) hr' with ⟨i, val, en1, e1, e2, e3, e4, e5⟩ | ⟨e1, rfl⟩
      · refine .inl ⟨i + 1, val, en1, by simp only; rw [e1]; simp; omega, by simpa using e2, e3, by simpa using e4, ?_⟩
        intro j x y en' hx hy
        cases j with
        | zero => simp at hx hy; obtain ⟨rfl, rfl⟩ := hx; subst hy; exact h0
        | succ j => simp at hx hy; exact e5 j x y en' hx hy
      · exact .inr ⟨e1, rfl⟩
    · cases h
theorem y83 {D : TypeDesc} {ks : Bool} {c c' : Value} (hD : keyD ks D) (h : Instr.sameNow D c c' = some true) : Instr.sameBits 10000 c' c = true := by
  rcases hD with ⟨_, i, rfl⟩ | ⟨_, rfl⟩
  · cases c <;> cases c' <;> simp [Instr.sameNow] at h
    obtain ⟨rfl, rfl⟩ := h
    simp [Instr.sameBits]
  · cases c <;> cases c' <;> simp only [Instr.sameNow, reduceCtorEq, Option.some.injEq] at h
    rw [MapKept.bytes_beq] at h
    subst h
    simp only [Instr.sameBits]
    rw [MapKept.bytes_beq]
theorem upd_sound {o : Oper} {C : Ctx} {id : Nat} {ks : Bool} {m k x : AOpd} {v : AVal} {H H' : Heap} {w : World} (he : EnvRel Γ e a.tmps) (hR : Rel Γ H w) (hk : chkH P (.upd ks m k x) o.op = true)
    (hv : evH C e id H (.upd ks m k x) = some (.ok v, H')) : Done P o a w Γ v H' := by
  have hk' : ∃ t m' k' x', (o.op = .mapUpdate t m' k' x' ∨ o.op = .insert t m' k' x') ∧ chkO m m' = true ∧ chkO k k' = true ∧ chkO x x' = true ∧ keyB P ks t (fun _ => true) = true := by
    obtain ⟨dst, op, ty, pos, after, guard⟩ := o
    simp only at hk ⊢
    cases op <;> simp only [chkH, Bool.false_eq_true, Bool.and_eq_true] at hk
    · exact ⟨_, _, _, _, .inr rfl, hk.1.1.1, hk.1.1.2, hk.1.2, hk.2⟩
    · exact ⟨_, _, _, _, .inl rfl, hk.1.1.1, hk.1.1.2, hk.1.2, hk.2⟩
  obtain ⟨t, m', k', x', hop, hkm, hkk, hkx, hkt⟩ := hk'
  obtain ⟨kt, el, D, hu, hku, hD, _⟩ := keyB_some hkt
  simp only [evH] at hv
  split at hv <;> first | (cases hv; done) | skip
  rename_i b kv xv hm hkv hxv
  split at hv <;> first | (cases hv; done) | skip
  rename_i es hb
  split at hv <;> first | (cases hv; done) | skip
  split at hv <;> first | (cases hv; done) | skip
  rename_i es' hset
  simp only [Option.some.injEq, Prod.mk.injEq, Ex.ok.injEq] at hv
  obtain ⟨rfl, rfl⟩ := hv
  obtain ⟨g, hc, hmu⟩ := (ev_rep he hkm hm).map_inv
  obtain ⟨g', ents, clock, h1, h2, h3, h4, h5⟩ := hR.blk _ _ hb
  rw [hmu] at h1; cases h1
  have hrk := ev_rep he hkk hkv
  have hrx := ev_rep he hkx hxv
  have hck := y5q (P := P) (b := false) (c := a.eval k') (w := w) (k := kv) hku hD
  have hlt : g < w.heap.size := (Array.getElem?_eq_some_iff.1 h3).1
  have hset' : ∀ ob : Obj, (setObj g ob).run P w = .ok () { w with heap := w.heap.setIfInBounds g ob } := by
    intro ob; simp [setObj, Sem.run, h3]
  have fin : ∀ (ents' : Array MapEntry) (clock' : Nat), (Instr.mapUpdate t (a.eval m') (a.eval k') (a.eval x')).run P w = .ok () { w with heap := w.heap.setIfInBounds g (.map ents' clock') } →
      ents'.size = es'.length → (∀ (i : Nat) (x y : AVal) (en : MapEntry), es'[i]? = some (x, y) → ents'[i]? = some en → Rep Γ x en.key ∧ Rep Γ y en.val) → Done P o a w Γ undefA (H.set b (.mp es')) := by
    intro ents' clock' hrun hsz hall
    have w1 : ({ w with heap := w.heap.setIfInBounds g (.map ents' clock') } : World).heap[g]? = some (.map ents' clock') := by simp [hlt]
    have w2 : ∀ q : Nat, q ≠ g → ({ w with heap := w.heap.setIfInBounds g (.map ents' clock') } : World).heap[q]? = w.heap[q]? := by
      intro q hq; simp [Array.getElem?_setIfInBounds_ne (Ne.symm hq)]
    have hMg : ∀ j, Γ.M g j = none := by
      intro j
      cases hm : Γ.M g j with
      | none => rfl
      | some d => have := hR.mem _ _ _ hm; simp [World.cell?, h3] at this
    obtain ⟨r1, r2⟩ := hR.write (Γ' := Γ) (B := .mp es') (w' := { w with heap := w.heap.setIfInBounds g (.map ents' clock') }) hb h2 (.refl Γ) (fun _ => rfl) (fun _ _ => ⟨rfl, fun _ => rfl⟩) (fun _ _ _ => rfl) w1 w2 (by simp) rfl rfl rfl
      (fun j d hm => by rw [hMg j] at hm; cases hm) ⟨g, ents', clock', hmu, h2, w1, hsz, hall⟩
    refine ⟨.skip, undef, _, Γ, ?_, .inr ⟨rfl, rfl⟩, rep_undef Γ, r1, r2⟩
    rcases hop with hop | hop
    · exact exec_u (by simp only [execOp, hop]) hrun
    · exact exec_u (by simp only [execOp, hop]) hrun
  rcases y60 (n := 0) hD hrk hrx (ents := ents.toList) (by simpa using h4) (fun i x v en hx hv => h5 i x v en hx (by simpa using hv)) hset with ⟨i, val, en, e1, e2, e3, e4, e5⟩ | ⟨e1, rfl⟩
  · have e2' : ents[i]? = some en := by simpa using e2
    have hkeep : (Instr.keyThatStays en.key (a.eval k')).run P w = .ok (a.eval k') w := by
      simp [Instr.keyThatStays, y83 hD e3]
    have hkeq : a.eval k' = en.key := by
      rcases hD with ⟨_, i, rfl⟩ | ⟨_, rfl⟩
      · revert e3; generalize a.eval k' = q; generalize en.key = r; intro e3
        cases q <;> cases r <;> simp [Instr.sameNow] at e3
        obtain ⟨rfl, rfl⟩ := e3; rfl
      · revert e3; generalize a.eval k' = q; generalize en.key = r; intro e3
        cases q <;> cases r <;> simp only [Instr.sameNow, reduceCtorEq, Option.some.injEq] at e3
        rw [MapKept.bytes_beq] at e3; subst e3; rfl
    refine fin (ents.modify i fun e => { e with key := a.eval k', val := a.eval x' }) clock ?_ (by simp; omega) ?_
    · simp only [Nat.zero_add] at e1
      simp only [Instr.mapUpdate, Sem.run_bind, run_underlying hu, Result.andThen_ok, hc, y4o h3, hck, Instr.findKey, run_underlying hku, e1, Sem.run_pure, e2', Option.map_some, Option.getD_some, hkeep, hset']
    · intro j x y en' hx hy
      refine e5 j x y en' hx ?_
      rw [← hy]
      rw [← Array.getElem?_toList, Array.toList_modify]
      rw [List.getElem?_modify, List.getElem?_modify]
      by_cases hij : i = j
      · subst hij
        rw [e2]
        simp [hkeq]
      · simp [hij]
  · refine fin (ents.push { key := a.eval k', val := a.eval x', born := clock }) (clock + 1) ?_ (by simp [h4]) ?_
    · simp only [Instr.mapUpdate, Sem.run_bind, run_underlying hu, Result.andThen_ok, hc, y4o h3, hck, Instr.findKey, run_underlying hku, e1, Sem.run_pure, hset']
    · intro j x y en' hx hy
      by_cases hj : j < es.length
      · rw [List.getElem?_append_left hj] at hx
        rw [Array.getElem?_push_lt (by omega)] at hy
        exact h5 j x y en' hx (by rw [← hy]; exact Array.getElem?_eq_getElem (by omega))
      · rw [List.getElem?_append_right (by omega)] at hx
        have hje : j = es.length := by
          have := (List.getElem?_eq_some_iff.1 hx).1
          simp at this; omega
        subst hje
        simp at hx
        obtain ⟨rfl, rfl⟩ := hx
        rw [← h4] at hy
        simp at hy
        subst hy
        exact ⟨hrk, hrx⟩
end
section
variable {Γ : Gh}
def Gh.cut (Γ : Gh) (n : Nat) : Gh :=
  { M := Γ.M, mu := fun b => if b < n then Γ.mu b else none, T := fun o l => if o < n then Γ.T o l else none, own := fun g => (Γ.own g).bind fun b => if b < n then some b else none }
theorem Rep.cut {n : Nat} {v : AVal} {c : Value} (h : Rep Γ v c) (hv : lowV n v = true) : Rep (Γ.cut n) v c :=
  Rep.move (Γ := Γ) (Γ' := Γ.cut n) (n := n) (fun _ _ _ h => h) (fun b g hb h => by simp only [Gh.cut]; rw [if_pos hb]; exact h) (fun o l c ho h => by simp only [Gh.cut]; rw [if_pos ho]; exact h) h hv
theorem Reps.cut {n : Nat} {vs : List AVal} {cs : List Value} (h : Reps Γ vs cs) (hv : lowL n vs = true) : Reps (Γ.cut n) vs cs :=
  ⟨h.1, fun i c d hc hd => (h.2 i c d hc hd).cut (lowL_get hv hc)⟩
theorem lowP_get {n : Nat} : ∀ {es : List (AVal × AVal)} {i : Nat} {k v : AVal}, lowP n es = true → es[i]? = some (k, v) → lowV n k = true ∧ lowV n v = true
  | [], i, k, v, _, h => by simp at h
  | (k0, v0) :: es, 0, k, v, hb, h => by simp only [lowP, Bool.and_eq_true] at hb; simp at h; obtain ⟨rfl, rfl⟩ := h; exact hb.1
  | (k0, v0) :: es, i + 1, k, v, hb, h => by simp only [lowP, Bool.and_eq_true] at hb; simp at h; exact lowP_get hb.2 h
theorem lowH_get {n : Nat} : ∀ {H : Heap} {i : Nat} {B : ABlock}, lowH n H = true → H[i]? = some B → lowB n B = true
  | [], i, B, _, h => by simp at h
  | b :: H, 0, B, hb, h => by simp only [lowH, Bool.and_eq_true] at hb; simp at h; exact h ▸ hb.1
  | b :: H, i + 1, B, hb, h => by simp only [lowH, Bool.and_eq_true] at hb; simp at h; exact lowH_get hb.2 h
theorem lowE_get {n : Nat} : ∀ {e : Env} {t : Nat} {v : AVal}, lowE n e = true → e.get t = some v → lowV n v = true
  | [], t, v, _, h => by simp [Env.get] at h
  | (k, u) :: e, t, v, hb, h => by
    simp only [lowE, Bool.and_eq_true] at hb
    simp only [Env.get] at h
    split at h
    · cases h; exact hb.1
    · exact lowE_get hb.2 h
theorem OkB.cut {n b : Nat} {B : ABlock} {w : World} (hn : b < n) (hB : lowB n B = true) (h : OkB Γ w b B) : OkB (Γ.cut n) w b B := by
  have own : ∀ g, Γ.own g = some b → (Γ.cut n).own g = some b := by
    intro g hg; simp [Gh.cut, hg, hn]
  have mu : (Γ.cut n).mu b = Γ.mu b := by simp [Gh.cut, hn]
  have T : ∀ l, (Γ.cut n).T b l = Γ.T b l := by intro l; simp [Gh.cut, hn]
  cases B with
  | hole => simp only [OkB] at h ⊢; rw [mu]; exact ⟨h.1, fun l => by rw [T]; exact h.2 l⟩
  | dead => trivial
  | cells vs =>
    obtain ⟨g, cs, ty, h1, h2, h3, h4, h5, h6⟩ := h
    exact ⟨g, cs, ty, by rw [mu]; exact h1, own g h2, h3, h4, h5.cut hB, h6⟩
  | grow es xs op =>
    obtain ⟨c, h1, h2, h3, h4⟩ := h
    refine ⟨c, by rw [T]; exact h1, fun l hl => by rw [T]; exact h2 l hl, h3, ?_⟩
    rcases h4 with ⟨h4, h5⟩ | ⟨g, cap, cs, ty, k1, k2, k3, k4, k5, k6, k7, k8, k9⟩
    · exact .inl ⟨h4, h5.cut rfl⟩
    · exact .inr ⟨g, cap, cs, ty, k1, own g k2, k3, k4, k5, k6, k7, k8.cut (lowL_iff.2 fun v hv => low_mono (Nat.zero_le _) (y52 h3 v hv)), k9⟩
  | mp es =>
    obtain ⟨g, ents, clock, h1, h2, h3, h4, h5⟩ := h
    refine ⟨g, ents, clock, by rw [mu]; exact h1, own g h2, h3, h4, ?_⟩
    intro i k v en hk he
    have hl := lowP_get hB hk
    exact ⟨(h5 i k v en hk he).1.cut hl.1, (h5 i k v en hk he).2.cut hl.2⟩
theorem Rel.cutv {n : Nat} {Γ0 : Gh} {H0 H : Heap} {w0 w : World} (hR0 : Rel Γ0 H0 w0) (hm : H0.length = n) (hR : Rel Γ H w) (hst : Stp Γ0 w0 Γ w) (hH : lowH n (H.take n) = true) : Rel (Γ.cut n) (H.take n) w ∧ Stp Γ0 w0 (Γ.cut n) w := by
  subst hm
  refine ⟨⟨hR.mem, ?_, ?_, ?_⟩, ⟨⟨hst.le.M, ?_, ?_⟩, ?_, hst.newM, hst.size, hst.heap, hst.os, hst.tape, hst.output⟩⟩
  · intro b B hb
    have hbl : b < H0.length := by
      have := (List.getElem?_eq_some_iff.1 hb).1
      simp at this; omega
    have hb' : H[b]? = some B := by rw [List.getElem?_take, if_pos hbl] at hb; exact hb
    exact OkB.cut hbl (lowH_get hH hb) (hR.blk b B hb')
  · intro b hb
    by_cases hbl : b < H0.length
    · have := hR.dom b (by simp at hb; omega)
      refine ⟨by simp only [Gh.cut]; rw [if_pos hbl]; exact this.1, fun l => by simp only [Gh.cut]; rw [if_pos hbl]; exact this.2 l⟩
    · simp [Gh.cut, hbl]
  · intro g b h
    simp only [Gh.cut, Option.bind_eq_some_iff] at h
    obtain ⟨b', h1, _⟩ := h
    exact hR.owned g b' h1
  · intro b g h
    have hb : b < H0.length := by
      rcases Nat.lt_or_ge b H0.length with h' | h'
      · exact h'
      · rw [(hR0.dom b h').1] at h; cases h
    simp only [Gh.cut]; rw [if_pos hb]; exact hst.le.mu b g h
  · intro o l c h
    have hb : o < H0.length := by
      rcases Nat.lt_or_ge o H0.length with h' | h'
      · exact h'
      · rw [(hR0.dom o h').2 l] at h; cases h
    simp only [Gh.cut]; rw [if_pos hb]; exact hst.le.T o l c h
  · intro g hg ho
    simp only [Gh.cut]
    rw [hst.own g hg ho]; rfl
end
end Go.Ev
namespace Go.Ev
set_option linter.unusedVariables false
set_option linter.unusedSimpArgs false
open Go
def chkC (p : AOp) (op : Op) : Bool :=
  match p with
  | .call _ f args => match op with
    | .call c => (match c.callee with
      | .value (.func g) => decide (f = g)
      | _ => false) && chkOs args c.args.toList
    | _ => false
  | .callv _ x args => match op with
    | .call c => (match c.callee with
      | .value y => chkO x y
      | _ => false) && chkOs args c.args.toList
    | _ => false
  | .panic x => match op with
    | .panic y => chkO x y
    | .call c => (match c.callee with
      | .builtin b => decide (b = .panic)
      | _ => false) && args1 c.args.toList (chkO x)
    | _ => false
  | _ => false
def chkOp (P : Program) (p : AOp) (op : Op) : Bool :=
  match p.kind with
  | .pure => chkP P p op
  | .new => chkN P p op
  | .heap => chkH P p op || chkC p op
def ExOk (Γ : Gh) : Ex → Ending → Prop
  | .ok v, .returned c => Rep Γ v c
  | .pan v, .panicked ch => ∃ c, ch = [{ v := c, recovered := false }] ∧ Rep Γ v c
  | _, _ => False
def CallsOk (P : Program) (call : FuncId → List AVal → Heap → Option (Ex × Heap)) : Prop :=
  ∀ (f : FuncId) (as : List AVal) (H H' : Heap) (x : Ex), call f as H = some (x, H') → (∃ fn, P.funcs[f]? = some fn ∧ fn.body.isSome = true ∧ (fn.name == "runtime.NumGoroutine") = false) ∧
    ∀ (Γ : Gh) (w : World) (cs : Array Value), Rel Γ H w → Reps Γ as cs.toList → Calls P f cs w fun e w' => ∃ Γ', Rel Γ' H' w' ∧ Stp Γ w Γ' w' ∧ ExOk Γ' x e
section
variable {P : Program} {Γ : Gh} {e : Env} {a : Act}
def Gh.after (Γ : Gh) (n : Nat) (w' : World) : Gh := { Γ with M := fun g o => if g < n then Γ.M g o else w'.cell? ⟨g, o, none⟩ }
theorem y74 {Γ1 Γ2 : Gh} {H : Heap} {w : World} (hR : Rel Γ1 H w) (hM : ∀ g o c, Γ1.M g o = some c → Γ2.M g o = some c) (hB : ∀ g b o c, Γ1.own g = some b → w.cell? ⟨g, o, none⟩ = some c → Γ2.M g o = some c) (P : Program) :
    ∀ v, (∀ v' c, shutR H v = some v' → Rep Γ1 v c → Rep Γ2 v' c ∧ rfree v') := by
  have mv : ∀ {v : AVal} {c : Value}, Rep Γ1 v c → rfree v → Rep Γ2 v c := fun h hf => h.move (n := 0) hM (fun _ _ h => absurd h (by omega)) (fun _ _ _ h => absurd h (by omega)) hf
  intro v
  induction v using AVal.rec (motive_2 := fun vs => ∀ vs' cs, shutRL H vs = some vs' → Reps Γ1 vs cs → Reps Γ2 vs' cs ∧ lowL 0 vs' = true) with
  | nil =>
    rename_i cs hv hr
    simp [shutRL] at hv; subst hv
    exact ⟨⟨hr.1, by simp⟩, rfl⟩
  | cons v vs ih1 ih2 =>
    rename_i vs' cs hv hr
    simp only [shutRL] at hv
    split at hv
    · rename_i a ha
      split at hv
      · rename_i b hb
        cases hv
        cases cs with
        | nil => have := hr.1; simp at this
        | cons d ds =>
          have h0 : Rep Γ1 v d := hr.2 0 v d rfl rfl
          have hs : Reps Γ1 vs ds := ⟨by simpa using hr.1, fun i x y hx hy => hr.2 (i + 1) x y (by simpa using hx) (by simpa using hy)⟩
          have r1 := ih1 a d ha h0
          have r2 := ih2 b ds hb hs
          exact ⟨Reps.cons r1.1 r2.1, by simp only [lowL, Bool.and_eq_true]; exact ⟨r1.2, r2.2⟩⟩
      · cases hv
    · cases hv
  | int k n => intro v' c hv hr; simp [shutR] at hv; subst hv; exact ⟨mv hr rfl, rfl⟩
  | bool b => intro v' c hv hr; simp [shutR] at hv; subst hv; exact ⟨mv hr rfl, rfl⟩
  | str b => intro v' c hv hr; simp [shutR] at hv; subst hv; exact ⟨mv hr rfl, rfl⟩
  | nilp => intro v' c hv hr; simp [shutR] at hv; subst hv; exact ⟨mv hr rfl, rfl⟩
  | nili => intro v' c hv hr; simp [shutR] at hv; subst hv; exact ⟨mv hr rfl, rfl⟩
  | nilf => intro v' c hv hr; simp [shutR] at hv; subst hv; exact ⟨mv hr rfl, rfl⟩
  | nilm => intro v' c hv hr; simp [shutR] at hv; subst hv; exact ⟨mv hr rfl, rfl⟩
  | ro b => intro v' c hv hr; simp [shutR] at hv; subst hv; exact ⟨mv hr rfl, rfl⟩
  | lst xs e => intro v' c hv hr; simp [shutR] at hv; subst hv; exact ⟨mv hr.lst_false rfl, rfl⟩
  | gl o len =>
    intro v' c hv hr
    simp only [shutR] at hv
    obtain ⟨_, xs, rfl, _, _, h⟩ := y4u hR hr hv
    exact ⟨mv h rfl, rfl⟩
  | agg cs ih =>
    intro v' c hv hr
    simp only [shutR] at hv
    split at hv
    · rename_i cs' hc
      cases hv
      obtain ⟨ds, rfl, hrs, h1⟩ := hr.agg_inv
      obtain ⟨r1, r2⟩ := ih _ _ hc hrs
      exact ⟨.agg r1.1 r1.2 h1, by simpa [rfree, lowV] using r2⟩
    · cases hv
  | tup cs ih =>
    intro v' c hv hr
    simp only [shutR] at hv
    split at hv
    · rename_i cs' hc
      cases hv
      obtain ⟨ds, rfl, hrs⟩ := hr.tup_inv
      obtain ⟨r1, r2⟩ := ih _ _ hc hrs
      exact ⟨.tup r1.1 r1.2, by simpa [rfree, lowV] using r2⟩
    · cases hv
  | iface t v ih =>
    intro v' c hv hr
    simp only [shutR] at hv
    split at hv
    · rename_i u hu
      cases hv
      cases hr with | iface _ h =>
      obtain ⟨r1, r2⟩ := ih _ _ hu h
      exact ⟨.iface t r1, by simpa [rfree, lowV] using r2⟩
    · cases hv
  | fn f cs ih =>
    intro v' c hv hr
    simp only [shutR] at hv
    split at hv
    · rename_i cs' hc
      cases hv
      obtain ⟨ds, rfl, hrs⟩ := hr.fn_inv
      obtain ⟨r1, r2⟩ := ih _ _ hc hrs
      exact ⟨.fn f r1.1 r1.2, by simpa [rfree, lowV] using r2⟩
    · cases hv
  | sl b off len cap wd =>
    intro v' c hv hr
    simp only [shutR] at hv
    split at hv <;> first | (cases hv; done) | skip
    rename_i xs hel
    split at hv <;> first | (cases hv; done) | skip
    rename_i hall
    cases hv
    have hw := width_all hall.2
    have hel0 := hel
    unfold y4s at hel
    split at hel <;> first | (cases hel; done) | skip
    rename_i vs hb
    split at hel <;> first | (cases hel; done) | skip
    rename_i hle
    obtain ⟨g, cs, ty, h1, h2, h3, h4, h5, h6⟩ := hR.cells hb
    obtain ⟨g', rfl, hmu⟩ := hr.sl_inv
    rw [h1] at hmu; cases hmu
    have hone : ∀ d, d ∈ cs.toList.drop off → d.oneCell' = true := fun d hd => h6 d (List.mem_of_mem_drop hd)
    have hgr := y3z (w := wd) (n := len) (h5.drop off) hone
    obtain ⟨r1, r2⟩ := y4f hR hel hgr
    have hrr := y5c r1
    rw [y4i hone] at hrr
    have hlen : xs.length = len := by
      rw [← r1.1, hgr.1, y40 (by simp; omega)]
    have hfl := y0o hw
    have get : ∀ (j : Nat) (y : AVal), (flatL xs)[j]? = some y → ∃ d, cs[off + j]? = some d ∧ Rep Γ1 y d := by
      intro j y hj
      obtain ⟨d, hd, hrep⟩ := hrr.get hj
      rw [List.getElem?_take] at hd
      split at hd
      · rw [List.getElem?_drop] at hd
        exact ⟨d, by simpa using hd, hrep⟩
      · cases hd
    refine ⟨?_, rfl⟩
    have hcl := hall.1
    rw [← hlen] at hcl ⊢
    refine .lst (fun j => cs.getD (off + j) undef) hcl (by simp) hw r2 ?_ ?_ ?_
    · intro j y hj
      obtain ⟨d, hd, _⟩ := get j y hj
      have := hB g b (off + j) d h2 (by rw [cell_at h3]; exact hd)
      rw [this]; simp [Array.getD_eq_getD_getElem?, hd]
    · intro j y hj
      obtain ⟨d, hd, _⟩ := get j y hj
      have := h6 d (List.mem_of_getElem? (by simpa using hd))
      simpa [Array.getD_eq_getD_getElem?, hd] using this
    · intro j y hj
      obtain ⟨d, hd, hrep⟩ := get j y hj
      have hf : rfree y := y52 r2 y (List.mem_of_getElem? hj)
      have := mv hrep hf
      simpa [Array.getD_eq_getD_getElem?, hd] using this
  | emp b =>
    intro v' c hv hr
    simp [shutR] at hv; subst hv
    cases hr with
    | empN => exact ⟨.lstN _, rfl⟩
    | empE => exact ⟨.lstE (by simp), rfl⟩
  | _ => intro v' c hv hr; simp [shutR] at hv
theorem Rel.bare {H : Heap} {w : World} (hR : Rel Γ H w) : Rel ⟨Γ.M, fun _ => none, fun _ _ => none, fun _ => none⟩ [] w :=
  ⟨hR.mem, by simp, fun _ _ => ⟨rfl, fun _ => rfl⟩, by simp⟩
theorem pure_call {call : FuncId → List AVal → Heap → Option (Ex × Heap)} (hC : CallsOk P call) {f : FuncId} {as : List AVal} {x : Ex} {H : Heap} {w : World} {cs : Array Value} (hR : Rel Γ H w)
    (hx : pureRes (call f as []) = some x) (hr : Reps Γ as cs.toList) (hf : ∀ v, v ∈ as → rfree v) :
    Calls P f cs w fun e w' => ∃ Γ', Rel Γ' H w' ∧ Stp Γ w Γ' w' ∧ ExOk Γ' x e := by
  have mv : Reps ⟨Γ.M, fun _ => none, fun _ _ => none, fun _ => none⟩ as cs.toList :=
    ⟨hr.1, fun i c d hc hd => Rep.move (Γ := Γ) (Γ' := ⟨Γ.M, fun _ => none, fun _ _ => none, fun _ => none⟩) (n := 0) (fun _ _ _ h => h) (fun _ _ h => absurd h (by omega)) (fun _ _ _ h => absurd h (by omega)) (hr.2 i c d hc hd) (hf c (List.mem_of_getElem? hc))⟩
  have main : ∀ (x0 : Ex) (H0 : Heap), call f as [] = some (x0, H0) → (∀ v0, (x0 = .ok v0 ∨ x0 = .pan v0) → ∃ v', shutR H0 v0 = some v' ∧ ((x0 = .ok v0 ∧ x = .ok v') ∨ (x0 = .pan v0 ∧ x = .pan v'))) →
      Calls P f cs w fun e w' => ∃ Γ', Rel Γ' H w' ∧ Stp Γ w Γ' w' ∧ ExOk Γ' x e := by
    intro x0 H0 hc hsh
    refine ((hC f as [] H0 x0 hc).2 _ w cs hR.bare mv).mono ?_
    rintro e w' ⟨Γ1, r1, r2, r3⟩
    have hsz := r2.size
    have hno : ∀ g, g < w.heap.size → Γ1.own g = none := fun g hg => r2.own g hg rfl
    have hM1 : ∀ g o, g < w.heap.size → Γ1.M g o = Γ.M g o := fun g o hg => r2.newM g o hg rfl
    have hheap : ∀ g : Nat, g < w.heap.size → w'.heap[g]? = w.heap[g]? := fun g hg => r2.heap g hg rfl
    have hlt : ∀ g o c, Γ.M g o = some c → g < w.heap.size := fun g o c h => hR.memLt h
    have hle : Γ.le (Γ.after w.heap.size w') := by
      refine ⟨?_, fun _ _ h => h, fun _ _ _ h => h⟩
      intro g o c h
      simp only [Gh.after]
      rw [if_pos (hlt g o c h)]; exact h
    have hM : ∀ g o c, Γ1.M g o = some c → (Γ.after w.heap.size w').M g o = some c := by
      intro g o c h
      simp only [Gh.after]
      split
      · rename_i hg; rw [← hM1 g o hg]; exact h
      · exact r1.mem g o c h
    have hB : ∀ g b o c, Γ1.own g = some b → w'.cell? ⟨g, o, none⟩ = some c → (Γ.after w.heap.size w').M g o = some c := by
      intro g b o c h hc
      simp only [Gh.after]
      split
      · rename_i hg; rw [hno g hg] at h; cases h
      · exact hc
    have hRel : Rel (Γ.after w.heap.size w') H w' := by
      refine ⟨?_, ?_, hR.dom, fun g b h => Nat.lt_of_lt_of_le (hR.owned g b h) hsz⟩
      · intro g o c h
        simp only [Gh.after] at h
        split at h
        · rename_i hg
          have := hR.mem g o c h
          simpa [World.cell?, hheap g hg] using this
        · exact h
      · intro b B hb
        refine (hR.blk b B hb).step hle ?_ ⟨rfl, fun _ => rfl⟩
        intro g hg
        have hgl := hR.owned g b hg
        refine ⟨hg, hheap g hgl, ?_⟩
        intro o
        simp only [Gh.after]
        rw [if_pos hgl]
    have hStp : Stp Γ w (Γ.after w.heap.size w') w' := by
      refine ⟨hle, fun _ _ h => h, ?_, hsz, fun g hg _ => hheap g hg, r2.os, r2.tape, r2.output⟩
      intro g o hg _
      simp only [Gh.after]
      rw [if_pos hg]
    refine ⟨_, hRel, hStp, ?_⟩
    cases x0 with
    | ok v0 =>
      obtain ⟨v', hs, h | h⟩ := hsh v0 (.inl rfl)
      · rw [h.2]
        cases e <;> simp only [ExOk] at r3 ⊢
        exact (y74 r1 hM hB P v0 v' _ hs r3).1
      · cases h.1
    | pan v0 =>
      obtain ⟨v', hs, h | h⟩ := hsh v0 (.inr rfl)
      · cases h.1
      · rw [h.2]
        cases e <;> simp only [ExOk] at r3 ⊢
        obtain ⟨c, hc, hrep⟩ := r3
        exact ⟨c, hc, (y74 r1 hM hB P v0 v' _ hs hrep).1⟩
  unfold pureRes at hx
  split at hx
  · rename_i v H0 hc
    split at hx <;> first | (cases hx; done) | skip
    rename_i v' hs
    cases hx
    refine main _ H0 hc ?_
    rintro v0 (h | h)
    · cases h; exact ⟨v', hs, .inl ⟨rfl, rfl⟩⟩
    · cases h
  · rename_i v H0 hc
    split at hx <;> first | (cases hx; done) | skip
    rename_i v' hs
    cases hx
    refine main _ H0 hc ?_
    rintro v0 (h | h)
    · cases h
    · cases h; exact ⟨v', hs, .inr ⟨rfl, rfl⟩⟩
  · cases hx
theorem y80 {r : Option (Ex × Heap)} {x : Ex} (h : pureRes r = some x) : ∃ q, r = some q := by
  unfold pureRes at h
  split at h
  · exact ⟨_, rfl⟩
  · exact ⟨_, rfl⟩
  · cases h
theorem cut_sound {C : Ctx} (hC : CallsOk P C.call) {f : FuncId} {as : List AVal} {x : Ex} {H H' : Heap} {w : World} {cs : Array Value} (hR : Rel Γ H w) (hx : cutRes H.length (C.call f as H) = some (x, H')) (hr : Reps Γ as cs.toList) :
    (∃ fn, P.funcs[f]? = some fn ∧ fn.body.isSome = true ∧ (fn.name == "runtime.NumGoroutine") = false) ∧ Calls P f cs w fun e w' => ∃ Γ', Rel Γ' H' w' ∧ Stp Γ w Γ' w' ∧ ExOk Γ' x e := by
  have key : ∀ (v : AVal) (H1 : Heap) (Γ1 : Gh) (w1 : World), Rel Γ1 H1 w1 → Stp Γ w Γ1 w1 → ∃ Γ', Rel Γ' (cutH H.length v H1) w1 ∧ Stp Γ w Γ' w1 ∧ ∀ c, Rep Γ1 v c → Rep Γ' v c := by
    intro v H1 Γ1 w1 h1 h2
    unfold cutH
    split
    · exact ⟨Γ1, h1, h2, fun _ h => h⟩
    · split
      · rename_i hl
        simp only [Bool.and_eq_true] at hl
        obtain ⟨r1, r2⟩ := hR.cutv rfl h1 h2 hl.2
        exact ⟨_, r1, r2, fun c hc => hc.cut hl.1⟩
      · exact ⟨Γ1, h1, h2, fun _ h => h⟩
  cases hcl : C.call f as H with
  | none => rw [hcl] at hx; cases hx
  | some q =>
    obtain ⟨x1, H1⟩ := q
    rw [hcl] at hx
    obtain ⟨q1, q2⟩ := hC f as H H1 x1 hcl
    refine ⟨q1, (q2 Γ w cs hR hr).mono ?_⟩
    rintro e w' ⟨Γ1, h1, h2, h3⟩
    cases x1 with
    | ok v =>
      simp only [cutRes, Option.some.injEq, Prod.mk.injEq] at hx
      obtain ⟨rfl, rfl⟩ := hx
      obtain ⟨Γ', r1, r2, r3⟩ := key v H1 Γ1 w' h1 h2
      refine ⟨Γ', r1, r2, ?_⟩
      cases e <;> simp only [ExOk] at h3 ⊢
      exact r3 _ h3
    | pan v =>
      simp only [cutRes, Option.some.injEq, Prod.mk.injEq] at hx
      obtain ⟨rfl, rfl⟩ := hx
      obtain ⟨Γ', r1, r2, r3⟩ := key v H1 Γ1 w' h1 h2
      refine ⟨Γ', r1, r2, ?_⟩
      cases e <;> simp only [ExOk] at h3 ⊢
      obtain ⟨c, hc1, hc2⟩ := h3
      exact ⟨c, hc1, r3 _ hc2⟩
theorem y8c {C : Ctx} (hC : CallsOk P C.call) {raw : Bool} {f : FuncId} {as : List AVal} {x : Ex} {H H' : Heap} {w : World} {cs : Array Value} (hR : Rel Γ H w) (hx : callA C raw f as H = some (x, H')) (hr : Reps Γ as cs.toList) :
    (∃ fn, P.funcs[f]? = some fn ∧ fn.body.isSome = true ∧ (fn.name == "runtime.NumGoroutine") = false) ∧ Calls P f cs w fun e w' => ∃ Γ', Rel Γ' H' w' ∧ Stp Γ w Γ' w' ∧ ExOk Γ' x e := by
  unfold callA at hx
  split at hx
  · exact cut_sound hC hR hx hr
  · split at hx
    · rename_i as' hs
      split at hx <;> first | (cases hx; done) | skip
      rename_i x' hp
      simp only [Option.some.injEq, Prod.mk.injEq] at hx
      obtain ⟨rfl, rfl⟩ := hx
      obtain ⟨r1, r2⟩ := y4f hR hs hr
      obtain ⟨q, hq⟩ := y80 hp
      exact ⟨(hC f as' [] q.2 q.1 hq).1, pure_call hC hR hp r1 r2⟩
    · exact cut_sound hC hR hx hr
theorem evH_ok {C : Ctx} {p : AOp} {op : Op} {id : Nat} {H H' : Heap} {v : AVal} (hk : chkH P p op = true) : evH C e id H p ≠ some (.pan v, H') := by
  cases p <;> simp only [chkH, Bool.false_eq_true] at hk <;> intro h <;> simp only [evH, okv] at h <;> (repeat' (split at h)) <;>
    first | (cases h; done) | (simp [Option.bind_eq_some_iff] at h; done) | skip
theorem evH_sound {C : Ctx} {o : Oper} {p : AOp} {id : Nat} {v : AVal} {H H' : Heap} {w : World} (he : EnvRel Γ e a.tmps) (hR : Rel Γ H w) (hk : chkH P p o.op = true) (hv : evH C e id H p = some (.ok v, H')) : Done P o a w Γ v H' := by
  cases p
  case ia => exact ia_sound he hR hk hv
  case bsl => exact bsl_sound he hR hk hv
  case lds => exact lds_sound he hR hk hv
  case lda => exact lda_sound he hR hk hv
  case sts => exact sts_sound he hR hk hv
  case sta => exact sta_sound he hR hk hv
  case stk => exact stk_sound he hR hk hv
  case slc => exact slc_sound he hR hk hv
  case slca => exact y8t he hR hk hv
  case len => exact len_sound he hR hk hv
  case cap => exact cap_sound he hR hk hv
  case app => exact app_sound he hR hk hv
  case appz => exact y8n he hR hk hv
  case copy => exact y8v he hR hk hv
  case clear => exact y89 he hR hk hv
  case look => exact y8p he hR hk hv
  case upd => exact upd_sound he hR hk hv
  all_goals simp [chkH] at hk
theorem op_wp {C : Ctx} (hC : CallsOk P C.call) {o : Oper} {p : AOp} {x : Ex} {id : Nat} {H H' : Heap} {w : World} {K : Act → World → Prop} {Q : Exit → Act → World → Prop} (he : EnvRel Γ e a.tmps) (hR : Rel Γ H w) (hk : chkOp P p o.op = true)
    (hv : evalOp C e id H p = some (x, H')) (hok : ∀ v c w' Γ', x = .ok v → Rep Γ' v c → Rel Γ' H' w' → Stp Γ w Γ' w' → K (a.put o.dst c) w')
    (hpan : ∀ v c w' Γ', x = .pan v → Rep Γ' v c → Rel Γ' H' w' → Stp Γ w Γ' w' → Q (.panic [{ v := c, recovered := false }]) a w') : o.wp P a w K Q := by
  have done : ∀ v, x = .ok v → Done P o a w Γ v H' → o.wp P a w K Q := by
    rintro v hx ⟨nx, c, w', Γ', r1, r2, r3, r4, r5⟩
    unfold Oper.wp
    rw [r1]
    rcases r2 with rfl | ⟨rfl, rfl⟩
    · exact hok v c w' Γ' hx r3 r4 r5
    · exact hok v undef w' Γ' hx r3 r4 r5
  have called : ∀ (f : FuncId) (as : List AVal) (cs : Array Value) (raw : Bool), (execOp a.eval o).run P w = (callFunc f cs).run P w → callA C raw f as H = some (x, H') → Reps Γ as cs.toList → o.wp P a w K Q := by
    intro f as cs raw hrun hc hr
    obtain ⟨⟨fn, h1, h2, h3⟩, hcl⟩ := y8c hC hR hc hr
    unfold Oper.wp
    rw [hrun]
    have hn : fn.body.isNone = false := by
      cases hb : fn.body with
      | none => rw [hb] at h2; cases h2
      | some c => rfl
    have : (callFunc f cs).run P w = .ok (.enter f cs) w := by
      simp only [callFunc, Sem.run_bind, run_program, Result.andThen_ok, h1, h3, hn, Bool.false_eq_true, if_false, Sem.run_pure]
    rw [this, Oper.upon_enter]
    refine hcl.mono ?_
    rintro en w' ⟨Γ', r1, r2, r3⟩
    cases x with
    | ok v =>
      cases en <;> simp only [ExOk] at r3
      exact hok v _ w' Γ' rfl r3 r1 r2
    | pan v =>
      cases en <;> simp only [ExOk] at r3
      obtain ⟨c, rfl, hrep⟩ := r3
      exact hpan v c w' Γ' rfl hrep r1 r2
  unfold chkOp at hk
  unfold evalOp at hv
  split at hk
  · rename_i hkd
    rw [hkd] at hv
    simp only [okv] at hv
    split at hv <;> first | (cases hv; done) | skip
    rename_i v hv'
    cases hv
    obtain ⟨c, r1, r2⟩ := evP_sound (P := P) (w := w) he hkd hk hv'
    exact done v rfl (Done.same hR r1 r2)
  · rename_i hkd
    rw [hkd] at hv
    simp only at hv
    split at hv <;> first | (cases hv; done) | skip
    rename_i v B hv'
    split at hv <;> first | (cases hv; done) | skip
    rename_i H1 hn
    cases hv
    exact done v rfl (evN_sound he hR hk hv' hn)
  · rename_i hkd
    rw [hkd] at hv
    simp only at hv
    have hor := Bool.or_eq_true_iff.1 hk
    clear hk
    rcases hor with hk | hk
    · cases x with
      | ok v => exact done v rfl (evH_sound he hR hk hv)
      | pan v => exact absurd hv (evH_ok hk)
    · obtain ⟨dst, op, ty, pos, after, guard⟩ := o
      simp only at hk
      cases p <;> simp only [chkC, Bool.false_eq_true] at hk
      case call raw f args =>
        cases op <;> simp only [Bool.false_eq_true, Bool.and_eq_true] at hk
        rename_i c
        obtain ⟨hcal, hargs⟩ := hk
        simp only [evH] at hv
        split at hv <;> first | (cases hv; done) | skip
        rename_i vs hvs
        have hr := evs_reps he hargs hvs
        have hce : c.callee = .value (.func f) := by
          split at hcal
          · rename_i g hg; rw [hg]; have := of_decide_eq_true hcal; rw [this]
          · cases hcal
        refine called f vs (c.args.map a.eval) raw ?_ hv (by simpa using hr)
        simp [execOp, resolve, hce, Act.eval, Deferred.ofValue, invoke]
      case callv raw y args =>
        cases op <;> simp only [Bool.false_eq_true, Bool.and_eq_true] at hk
        rename_i c
        obtain ⟨hcal, hargs⟩ := hk
        simp only [evH] at hv
        split at hv <;> first | (cases hv; done) | skip
        rename_i f caps vs hy hvs
        have hr := evs_reps he hargs hvs
        split at hcal <;> first | (cases hcal; done) | skip
        rename_i y' hce
        obtain ⟨ds, hds, hcaps⟩ := (ev_rep he hcal hy).fn_inv
        refine called f (vs ++ caps) (c.args.map a.eval ++ ds.toArray) raw ?_ hv (by simpa using hr.append hcaps)
        simp [execOp, resolve, hce, hds, Deferred.ofValue, invoke]
      case panic y =>
        have hpn : ∃ y', chkO y y' = true ∧ (execOp a.eval { dst := dst, op := op, type := ty, pos := pos, after := after, guard := guard }).run P w = (do pure (Next.value (← Instr.panic (a.eval y'))) : Sem Next).run P w := by
          cases op <;> simp only [Bool.false_eq_true, Bool.and_eq_true] at hk
          case panic y' => exact ⟨y', hk, rfl⟩
          case call c =>
            obtain ⟨hcal, hargs⟩ := hk
            split at hcal <;> first | (cases hcal; done) | skip
            rename_i b hb
            have hb' := of_decide_eq_true hcal
            subst hb'
            obtain ⟨y', hy', hq⟩ := args1_eq hargs
            refine ⟨y', hq, ?_⟩
            have : c.args = #[y'] := by rw [ofToList c.args, hy']
            simp [execOp, resolve, hb, invoke, builtin, this]
        obtain ⟨y', hq, hrun⟩ := hpn
        simp only [evH] at hv
        split at hv <;> first | (cases hv; done) | skip
        rename_i t v hy
        simp only [Option.some.injEq, Prod.mk.injEq] at hv
        obtain ⟨rfl, rfl⟩ := hv
        have hrep := ev_rep he hq hy
        have hc : ∃ c, a.eval y' = .iface t c := by
          generalize a.eval y' = z at hrep
          cases hrep; exact ⟨_, rfl⟩
        obtain ⟨c, hc⟩ := hc
        unfold Oper.wp
        rw [hrun]
        have hrun2 : (do pure (Next.value (← Instr.panic (a.eval y'))) : Sem Next).run P w = .halt (.panic (a.eval y')) w := by
          rw [hc]
          simp [Instr.panic, goPanic]
        rw [hrun2, Oper.upon_panic]
        exact hpan _ _ w Γ rfl hrep hR (Stp.refl Γ w)
end
end Go.Ev
namespace Go.Ev
set_option linter.unusedVariables false
set_option linter.unusedSimpArgs false
open Go
structure St (Γ : Gh) (n : Nat) (e : Env) (H : Heap) (a : Act) (w : World) : Prop where
  env : EnvRel Γ e a.tmps
  rel : Rel Γ H w
  size : n ≤ a.tmps.size
  defers : a.defers = []
def chkDst (n : Nat) (d d' : Option Nat) : Bool :=
  decide (d = d') && match d with
    | some t => decide (t < n)
    | none => true
def chkG (ops : Array Oper) (g : Option (Nat × Bool)) (g' : Option (Nat × Bool)) : Bool :=
  match g, g' with
  | none, none => true
  | some (t, want), some (j, want') => decide (((ops[j]?).bind (·.dst)) = some t) && decide (want = want')
  | _, _ => false
def chkOper (P : Program) (n : Nat) (ops : Array Oper) (ao : AOper) (o : Oper) : Bool :=
  chkDst n ao.dst o.dst && chkG ops ao.guard o.guard && chkOp P ao.op o.op
def chkOps (P : Program) (n : Nat) (ops : Array Oper) : List AOper → List Oper → Bool
  | [], [] => true
  | ao :: l, o :: os => chkOper P n ops ao o && chkOps P n ops l os
  | _, _ => false
def ExitOk (Γ : Gh) : AEx → Exit → Prop
  | .norm, .normal => True
  | .exit i, .exit j => i = j
  | .ret, .ret => True
  | .pan v, .panic ch => ∃ c, ch = [{ v := c, recovered := false }] ∧ Rep Γ v c
  | _, _ => False
def QOk (Γ : Gh) (w : World) (n : Nat) (r : AEx × Env × Heap) : Exit → Act → World → Prop :=
  fun ex a' w' => ∃ Γ', Stp Γ w Γ' w' ∧ St Γ' n r.2.1 r.2.2 a' w' ∧ ExitOk Γ' r.1 ex
section
variable {P : Program} {Γ : Gh} {e : Env} {a : Act}
theorem Env.get_put (e : Env) (d : Option Nat) (v : AVal) (t : Nat) : (e.put d v).get t = if d = some t then some v else e.get t := by
  cases d with
  | none => simp [Env.put]
  | some d =>
    simp only [Env.put, Env.get, Option.some.injEq]
theorem chkDst_eq {n : Nat} {d d' : Option Nat} (h : chkDst n d d' = true) : d' = d ∧ ∀ t, d = some t → t < n := by
  simp only [chkDst, Bool.and_eq_true, decide_eq_true_eq] at h
  refine ⟨h.1.symm, ?_⟩
  intro t ht
  have := h.2
  rw [ht] at this
  simpa using this
theorem St.put {n : Nat} {H : Heap} {w : World} (hS : St Γ n e H a w) {d : Option Nat} (hd : ∀ t, d = some t → t < n) {v : AVal} {c : Value} (hr : Rep Γ v c) : St Γ n (e.put d v) H (a.put d c) w := by
  refine ⟨?_, hS.rel, ?_, ?_⟩
  · intro t u hu
    rw [Env.get_put] at hu
    cases d with
    | none => simp at hu; exact hS.env t u hu
    | some t0 =>
      have hlt := hd t0 rfl
      simp only [Option.some.injEq] at hu
      simp only [Act.put]
      split at hu
      · rename_i e; subst e; cases hu
        have : t0 < a.tmps.size := Nat.lt_of_lt_of_le hlt hS.size
        simpa [Array.getD_eq_getD_getElem?, Array.getElem?_setIfInBounds, this] using hr
      · rename_i ne
        have := hS.env t u hu
        simpa [Array.getD_eq_getD_getElem?, Array.getElem?_setIfInBounds, ne] using this
  · cases d <;> simp [Act.put, hS.size]
  · cases d <;> simp [Act.put, hS.defers]
theorem y3w {n : Nat} {H : Heap} {w : World} {ops : Array Oper} {ao : AOper} {o : Oper} (hS : St Γ n e H a w) (hg : chkG ops ao.guard o.guard = true) {b : Bool} (hw : wantedA e ao.guard = some b) :
    Region.wanted o (yielded ops a.tmps) = b := by
  obtain ⟨dst, op, ty, pos, after, guard⟩ := o
  obtain ⟨ad, aop, ag⟩ := ao
  simp only at hg hw
  cases ag with
  | none =>
    cases guard <;> simp [chkG] at hg
    simp [wantedA] at hw
    subst hw
    rfl
  | some g =>
    obtain ⟨t, want⟩ := g
    cases guard with
    | none => simp [chkG] at hg
    | some g' =>
      obtain ⟨j, want'⟩ := g'
      simp only [chkG, Bool.and_eq_true, decide_eq_true_eq] at hg
      obtain ⟨hj, rfl⟩ := hg
      simp only [wantedA] at hw
      simp only [Region.wanted, yielded, hj, Option.bind_some]
      split at hw <;> first | (cases hw; done) | skip
      · rename_i x hx
        cases hw
        have := (hS.env t _ hx).bool_inv
        have h2 : a.tmps[t]? = some (.bool x) := by
          rw [Array.getD_eq_getD_getElem?] at this
          cases h3 : a.tmps[t]? with
          | none => rw [h3] at this; cases this
          | some v => rw [h3] at this; simpa using this
        simp only [h2]
        cases x <;> cases want <;> rfl
      · rename_i hx
        cases hw
        obtain ⟨ds, hds, hl⟩ := (hS.env t _ hx).tup_inv
        rw [Array.getD_eq_getD_getElem?] at hds
        cases h3 : a.tmps[t]? with
        | none => rfl
        | some v =>
          rw [h3] at hds
          simp at hds
          subst hds
          rfl
theorem St.mono {n : Nat} {H H' : Heap} {Γ' : Gh} {w w' : World} (hS : St Γ n e H a w) (hst : Stp Γ w Γ' w') (hR : Rel Γ' H' w') : St Γ' n e H' a w' :=
  ⟨hS.env.mono hst.le, hR, hS.size, hS.defers⟩
theorem ops_wp {C : Ctx} (hC : CallsOk P C.call) {n : Nat} {ops : Array Oper} : ∀ (l : List AOper) (os : List Oper) (i : Nat), ops.toList.drop i = os → chkOps P n ops l os = true →
    ∀ (Γ0 : Gh) (w0 : World) (Γ : Gh) (e : Env) (H : Heap) (a : Act) (w : World) (r : AEx × Env × Heap), St Γ n e H a w → Stp Γ0 w0 Γ w → evalOps C l e H = some r → wpOps P ops (QOk Γ0 w0 n r) (List.range' i os.length) a w := by
  intro l
  induction l with
  | nil =>
    intro os i hos hk Γ0 w0 Γ e H a w r hS hst hv
    cases os with
    | cons => simp [chkOps] at hk
    | nil =>
      simp [evalOps] at hv
      subst hv
      simp only [List.length_nil, List.range'_zero, wpOps]
      exact ⟨Γ, hst, hS, trivial⟩
  | cons ao l ih =>
    intro os i hos hk Γ0 w0 Γ e H a w r hS hst hv
    cases os with
    | nil => simp [chkOps] at hk
    | cons o os =>
      simp only [chkOps, Bool.and_eq_true] at hk
      obtain ⟨hko, hkr⟩ := hk
      simp only [chkOper, Bool.and_eq_true] at hko
      obtain ⟨⟨hd, hg⟩, hop⟩ := hko
      obtain ⟨hd1, hd2⟩ := chkDst_eq hd
      have hoi : ops[i]? = some o := by
        have : (ops.toList.drop i)[0]? = some o := by rw [hos]; rfl
        simpa using this
      have hos' : ops.toList.drop (i + 1) = os := by
        rw [← List.drop_drop, hos]; rfl
      simp only [List.length_cons, List.range'_succ, wpOps, hoi]
      simp only [evalOps] at hv
      split at hv <;> first | (cases hv; done) | skip
      · rename_i hw
        rw [y3w hS hg hw]
        simp only [if_true]
        left
        split at hv <;> first | (cases hv; done) | skip
        · rename_i v H' hev
          refine op_wp hC hS.env hS.rel hop hev ?_ ?_
          · intro v' c w' Γ' hx hrep hR hst'
            cases hx
            rw [hd1]
            exact ih os (i + 1) hos' hkr Γ0 w0 Γ' _ _ _ _ r ((hS.mono hst' hR).put hd2 hrep) (hst.trans hst') hv
          · intro v' c w' Γ' hx; cases hx
        · rename_i v H' hev
          cases hv
          refine op_wp hC hS.env hS.rel hop hev ?_ ?_
          · intro v' c w' Γ' hx; cases hx
          · intro v' c w' Γ' hx hrep hR hst'
            cases hx
            exact ⟨Γ', hst.trans hst', hS.mono hst' hR, c, rfl, hrep⟩
      · rename_i hw
        rw [y3w hS hg hw]
        simp only [Bool.false_eq_true, if_false]
        rw [hd1]
        exact ih os (i + 1) hos' hkr Γ0 w0 Γ _ _ _ _ r (hS.put hd2 (rep_undef Γ)) hst hv
theorem reg_wp {C : Ctx} (hC : CallsOk P C.call) {n id : Nat} {ops : Array Oper} {l : List AOper} {H : Heap} {w : World} {r : AEx × Env × Heap} (hk : chkOps P n ops l ops.toList = true) (hS : St Γ n e H a w) (hv : evalOps C l e H = some r) :
    (Code.region id ops false).wp P (QOk Γ w n r) a w := by
  refine wp_region ?_
  have := ops_wp hC l ops.toList 0 (by simp) hk Γ w Γ e H a w r hS (Stp.refl Γ w) hv
  rw [List.range_eq_range']
  simpa using this
theorem y69 {n m : Nat} {Γ0 : Gh} {H0 H : Heap} {w0 w : World} (hR0 : Rel Γ0 H0 w0) (hm : H0.length = m) (hS : St Γ n e H a w) (hst : Stp Γ0 w0 Γ w) :
    ∃ Γ', St Γ' n e (trunc m e H) a w ∧ Stp Γ0 w0 Γ' w := by
  unfold trunc
  split
  · exact ⟨Γ, hS, hst⟩
  · rename_i hlen
    split
    · rename_i hlow
      simp only [Bool.and_eq_true] at hlow
      obtain ⟨hE, hH⟩ := hlow
      obtain ⟨r1, r2⟩ := hR0.cutv hm hS.rel hst hH
      exact ⟨Γ.cut m, ⟨fun t v hv => (hS.env t v hv).cut (lowE_get hE hv), r1, hS.size, hS.defers⟩, r2⟩
    · exact ⟨Γ, hS, hst⟩
theorem restr_get : ∀ (ks : List Nat) (t : Nat) (v : AVal), (restr e ks).get t = some v → e.get t = some v
  | [], t, v, h => by simp [restr, Env.get] at h
  | k :: ks, t, v, h => by
    simp only [restr] at h
    split at h
    · rename_i u hu
      simp only [Env.get] at h
      split at h
      · rename_i hk; cases h; rw [← hk]; exact hu
      · exact restr_get ks t v h
    · exact restr_get ks t v h
theorem St.restr {n : Nat} {H : Heap} {w : World} (hS : St Γ n e H a w) (keep : List Nat) : St Γ n (Ev.restr e keep) H a w :=
  ⟨fun t v hv => hS.env t v (restr_get keep t v hv), hS.rel, hS.size, hS.defers⟩
def Gh.laid (Γ : Gh) (b l : Nat) (c : Value) : Gh := { Γ with T := fun o k => if o = b ∧ k = l then some c else Γ.T o k }
theorem Rel.list {es0 : Nat} {H : Heap} {w : World} {xs : List AVal} {c : Value} (hR : Rel Γ H w) (hr : Rep Γ (.lst xs true) c) :
    Rel (Γ.laid H.length xs.length c) (H ++ [.grow es0 xs none]) w ∧ Stp Γ w (Γ.laid H.length xs.length c) w ∧ Rep (Γ.laid H.length xs.length c) (.gl H.length xs.length) c := by
  have hT := fun l => (hR.dom H.length (Nat.le_refl _)).2 l
  have hle : Γ.le (Γ.laid H.length xs.length c) := by
    refine ⟨fun _ _ _ h => h, fun _ _ h => h, ?_⟩
    intro o l d h
    simp only [Gh.laid]
    rw [if_neg ?_]; exact h
    rintro ⟨rfl, rfl⟩
    rw [hT] at h; cases h
  have hnew : (Γ.laid H.length xs.length c).T H.length xs.length = some c := by simp [Gh.laid]
  refine ⟨⟨hR.mem, ?_, ?_, hR.owned⟩, ⟨hle, fun _ _ h => h, fun _ _ _ _ => rfl, Nat.le_refl _, fun _ _ _ => rfl, rfl, rfl, rfl⟩, ?_⟩
  · intro b B hb
    by_cases hbl : b < H.length
    · rw [List.getElem?_append_left hbl] at hb
      refine (hR.blk b B hb).step hle ?_ ⟨rfl, ?_⟩
      · intro g hg; exact ⟨hg, rfl, fun _ => rfl⟩
      · intro l; simp only [Gh.laid]; rw [if_neg (by rintro ⟨h, _⟩; omega)]
    · rw [List.getElem?_append_right (by omega)] at hb
      have hb0 : b = H.length := by
        have := (List.getElem?_eq_some_iff.1 hb).1
        simp at this; omega
      subst hb0
      simp at hb
      subst hb
      refine ⟨c, hnew, ?_, ?_, .inl ⟨rfl, hr.mono hle⟩⟩
      · intro l hl
        simp only [Gh.laid]
        rw [if_neg (by rintro ⟨_, h⟩; omega)]; exact hT l
      · rcases hr.lst_inv with ⟨rfl, _⟩ | ⟨g, off, cap, es, f, h1, h2, h3, h4, h5, _⟩
        · simp
        · exact h5
  · intro b hb
    simp at hb
    obtain ⟨h1, h2⟩ := hR.dom b (by omega)
    refine ⟨h1, fun l => ?_⟩
    simp only [Gh.laid]; rw [if_neg (by rintro ⟨h, _⟩; omega)]; exact h2 l
  · rcases hr.lst_inv with ⟨rfl, base, cap, rfl, hE⟩ | ⟨g, off, cap, es, f, rfl, h2, h3, h4, h5, _⟩
    · exact .gl hnew (by simp)
    · exact .gl hnew (fun _ => rfl)
theorem own_sound {n t : Nat} {off : Option Nat} {H : Heap} {w : World} (hS : St Γ n e H a w) : ∃ Γ', St Γ' n (ownA t off e H).1 (ownA t off e H).2 a w ∧ Stp Γ w Γ' w := by
  unfold ownA
  split
  · rename_i xs ht
    obtain ⟨r1, r2, r3⟩ := hS.rel.list (es0 := widthL xs) (hS.env t _ ht)
    refine ⟨_, ⟨?_, r1, hS.size, hS.defers⟩, r2⟩
    intro u v hv
    simp only [Env.get] at hv
    split at hv
    · rename_i hu; cases hv; rw [← hu]; exact r3
    · exact (hS.env u v hv).mono r2.le
  · rename_i k b o ht
    split
    · rename_i vs hb
      split
      · rename_i xs hx
        obtain ⟨g, cs, ty, h1, h2, h3, h4, h5, h6⟩ := hS.rel.cells hb
        obtain ⟨c, hc, hrep⟩ := h5.get hx
        obtain ⟨r1, r2, r3⟩ := hS.rel.list (es0 := widthL xs) hrep
        have hbl : b < H.length := (List.getElem?_eq_some_iff.1 hb).1
        refine ⟨_, ⟨hS.env.mono r2.le, ⟨r1.mem, ?_, ?_, r1.owned⟩, hS.size, hS.defers⟩, r2⟩
        · intro b' B hb'
          by_cases hbb : b' = b
          · subst hbb
            rw [List.getElem?_append_left (by simpa using hbl), List.getElem?_set_self hbl] at hb'
            cases hb'
            have hB := r1.blk b' (.cells vs) (by rw [List.getElem?_append_left hbl]; exact hb)
            obtain ⟨g', cs', ty', k1, k2, k3, k4, k5, k6⟩ := hB
            have e1 : g' = g := by
              have := r2.le.mu b' g h1
              rw [k1] at this; cases this; rfl
            subst e1
            rw [h3] at k3; cases k3
            refine ⟨g', cs, ty, k1, k2, h3, k4, ?_, k6⟩
            have := k5.set r3 (o + k)
            have hset : cs.toList.set (o + k) c = cs.toList := by
              apply List.ext_getElem?
              intro j
              rw [List.getElem?_set]
              split
              · rename_i hj; subst hj
                rw [hc]
                rw [if_pos (List.getElem?_eq_some_iff.1 hc).1]
              · rfl
            rw [hset] at this
            exact this
          · have : (H.set b (.cells (vs.set (o + k) (.gl H.length xs.length))) ++ [ABlock.grow (widthL xs) xs none])[b']? = (H ++ [ABlock.grow (widthL xs) xs none])[b']? := by
              by_cases hl : b' < H.length
              · rw [List.getElem?_append_left (by simpa using hl), List.getElem?_append_left hl, List.getElem?_set_ne (fun h => hbb h.symm)]
              · rw [List.getElem?_append_right (by simpa using Nat.le_of_not_lt hl), List.getElem?_append_right (by omega)]
                simp
            rw [this] at hb'
            exact r1.blk b' B hb'
        · intro b' hb'
          exact r1.dom b' (by simpa using hb')
      · exact ⟨Γ, hS, Stp.refl Γ w⟩
    · exact ⟨Γ, hS, Stp.refl Γ w⟩
  · exact ⟨Γ, hS, Stp.refl Γ w⟩
theorem y7f {H : Heap} {w : World} (hR : Rel Γ H w) {v v' : AVal} {c : Value} (hv : frzV H v = some v') (hr : Rep Γ v c) : Rep Γ v' c := by
  cases v <;> simp only [frzV, reduceCtorEq] at hv <;> exact (y6k hR hv hr).1
theorem frz_sound {n t : Nat} {off : Option Nat} {H : Heap} {w : World} (hS : St Γ n e H a w) : St Γ n (frzA t off e H).1 (frzA t off e H).2 a w := by
  unfold frzA
  split
  · rename_i v ht
    split
    · rename_i v' hv
      refine ⟨?_, hS.rel, hS.size, hS.defers⟩
      intro u x hx
      simp only [Env.get] at hx
      split at hx
      · rename_i hu; cases hx; rw [← hu]; exact y7f hS.rel hv (hS.env t _ ht)
      · exact hS.env u x hx
    · exact hS
  · rename_i k b o ht
    split
    · rename_i vs hb
      split
      · rename_i v hx
        split
        · rename_i v' hv
          obtain ⟨g, cs, ty, h1, h2, h3, h4, h5, h6⟩ := hS.rel.cells hb
          obtain ⟨c, hc, hrep⟩ := h5.get hx
          have r3 := y7f hS.rel hv hrep
          have hbl : b < H.length := (List.getElem?_eq_some_iff.1 hb).1
          refine ⟨hS.env, ⟨hS.rel.mem, ?_, ?_, hS.rel.owned⟩, hS.size, hS.defers⟩
          · intro b' B hb'
            by_cases hbb : b' = b
            · subst hbb
              rw [List.getElem?_set_self hbl] at hb'
              cases hb'
              refine ⟨g, cs, ty, h1, h2, h3, h4, ?_, h6⟩
              have := h5.set r3 (o + k)
              have hset : cs.toList.set (o + k) c = cs.toList := by
                apply List.ext_getElem?
                intro j
                rw [List.getElem?_set]
                split
                · rename_i hj; subst hj
                  rw [hc]
                  rw [if_pos (List.getElem?_eq_some_iff.1 hc).1]
                · rfl
              rw [hset] at this
              exact this
            · rw [List.getElem?_set_ne (fun h => hbb h.symm)] at hb'
              exact hS.rel.blk b' B hb'
          · intro b' hb'
            exact hS.rel.dom b' (by simpa using hb')
        · exact hS
      · exact hS
    · exact hS
  · exact hS
theorem y5v {n : Nat} {w : World} : ∀ (l : List (Nat × Option Nat)) {e : Env} {H : Heap}, St Γ n e H a w → St Γ n (frzAll l e H).1 (frzAll l e H).2 a w
  | [], _, _, h => h
  | p :: r, _, _, h => y5v r (frz_sound h)
theorem Rel.shutl {H : Heap} {w : World} {o es f : Nat} {xs : List AVal} (hR : Rel Γ H w) (hb : H[o]? = some (.grow es xs (some f))) : ∃ Γ', Rel Γ' (H.set o (.grow es xs none)) w ∧ Stp Γ w Γ' w := by
  obtain ⟨c', k1, k0, k2, k3⟩ := hR.blk _ _ hb
  rcases k3 with ⟨hbad, _⟩ | ⟨g, cap, cs, ty, rfl, e2, e3, e4, e5, e6, e7, e8, e9, e10, e11, e12⟩
  · cases hbad
  · simp only [Option.getD_some] at e10 e11 e12
    have hle : Γ.le (Γ.shutM g (xs.length * es) cs) := by
      refine ⟨?_, fun _ _ h => h, fun _ _ _ h => h⟩
      intro k j c hm
      simp only [Gh.shutM]
      split
      · rename_i ek; subst ek
        by_cases hj : j < f * es
        · have hfi' : f * es ≤ xs.length * es := Nat.mul_le_mul_right _ e10
          rw [if_pos (by omega), ← e11 j hj]
          exact hm
        · rw [e12 j (by omega)] at hm; cases hm
      · exact hm
    obtain ⟨r1, r2⟩ := hR.write (Γ' := Γ.shutM g (xs.length * es) cs) (B := .grow es xs none) (o := .cells cs ty) (w' := w) hb e2 hle (fun _ => rfl) (fun _ _ => ⟨rfl, fun _ => rfl⟩)
      (fun k j hk => by simp [Gh.shutM, hk]) e3 (fun k hk => rfl) rfl rfl rfl rfl
      (fun j c hm => by
        simp only [Gh.shutM, if_true] at hm
        rw [cell_at e3]
        split at hm
        · exact hm
        · cases hm)
      ⟨_, k1, k0, k2, .inr ⟨g, cap, cs, ty, rfl, e2, e3, e4, e5, e6, e7, e8.mono hle, e9, by simp, fun j hj => by simp at hj; simp [Gh.shutM, hj], fun j hj => by simp at hj; simp [Gh.shutM]; omega⟩⟩
    exact ⟨_, r1, r2⟩
theorem y8s {n t : Nat} {off : Option Nat} {H : Heap} {w : World} (hS : St Γ n e H a w) : ∃ Γ', St Γ' n e (sealA t off e H) a w ∧ Stp Γ w Γ' w := by
  unfold sealA
  split
  · split
    · rename_i hb
      split
      · obtain ⟨Γ', r1, r2⟩ := hS.rel.shutl hb
        exact ⟨Γ', ⟨hS.env.mono r2.le, r1, hS.size, hS.defers⟩, r2⟩
      · exact ⟨Γ, hS, Stp.refl Γ w⟩
    · exact ⟨Γ, hS, Stp.refl Γ w⟩
  · exact ⟨Γ, hS, Stp.refl Γ w⟩
theorem wp_loop_n {c : Code} {Q : Exit → Act → World → Prop} (I : Nat → Act → World → Prop) (no : ∀ a w, ¬ I 0 a w)
    (round : ∀ n a w, I (n + 1) a w → c.wp P (Exit.then (I n) Q) a w) (n : Nat) {w : World} (h : I n a w) : (Code.loop c).wp P Q a w := by
  intro b k cs
  have key : ∀ n a w, I n a w → ∃ e a' w', Q e a' w' ∧ Arrives P (lone (b.at a (.code c :: .inLoop c :: k)) cs w) b k cs e a' w' := by
    intro n
    induction n with
    | zero => intro a w hI; exact absurd hI (no a w)
    | succ n ih =>
      intro a w hI
      obtain ⟨e, a₁, w₁, hq, harr⟩ := round n a w hI b (.inLoop c :: k) cs
      cases e with
      | normal =>
        obtain ⟨e₂, a₂, w₂, hq₂, harr₂⟩ := ih a₁ w₁ hq
        exact ⟨e₂, a₂, w₂, hq₂, .of_steps (Steps.trans harr (.one step_inLoop)) harr₂⟩
      | exit id => exact ⟨_, a₁, w₁, hq, .pass (x := .inLoop c) rfl (fun _ _ => .inl (by simp)) harr⟩
      | goto l => exact ⟨_, a₁, w₁, hq, .pass (x := .inLoop c) rfl (fun _ _ => .inl (by simp)) harr⟩
      | ret => exact ⟨_, a₁, w₁, hq, .pass (x := .inLoop c) rfl (fun _ _ => .inl (by simp)) harr⟩
      | panic ch => exact ⟨_, a₁, w₁, hq, .pass (x := .inLoop c) rfl (fun _ _ => .inl (by simp)) harr⟩
      | outgrown => exact ⟨_, a₁, w₁, hq, .pass (x := .inLoop c) rfl (fun _ _ => .inl (by simp)) harr⟩
  obtain ⟨e, a', w', hq, harr⟩ := key n a w h
  exact ⟨e, a', w', hq, .of_steps (.one step_loop) harr⟩
end
end Go.Ev
namespace Go.Ev
set_option linter.unusedVariables false
set_option linter.unusedSimpArgs false
open Go
def AOpd.on (S : Nat → Bool) : AOpd → Bool
  | .t n => S n
  | .c _ => true
def optOn (S : Nat → Bool) : Option AOpd → Bool
  | none => true
  | some x => x.on S
def allOn (S : Nat → Bool) : List AOpd → Bool
  | [] => true
  | x :: xs => x.on S && allOn S xs
def partsOn (S : Nat → Bool) : List (Nat × Nat × AOpd) → Bool
  | [] => true
  | (_, _, x) :: xs => x.on S && partsOn S xs
def partsOn' (S : Nat → Bool) : List (Nat × AOpd) → Bool
  | [] => true
  | (_, x) :: xs => x.on S && partsOn' S xs
def AOp.on (S : Nat → Bool) : AOp → Bool
  | .mv x => x.on S
  | .pick c a b => c.on S && a.on S && b.on S
  | .bin _ x y => x.on S && y.on S
  | .eqv _ _ x y => x.on S && y.on S
  | .isnil _ _ x => x.on S
  | .un _ x => x.on S
  | .cvi _ x => x.on S
  | .cvs x => x.on S
  | .mki _ x => x.on S
  | .mkf _ caps => allOn S caps
  | .fld _ _ x => x.on S
  | .ixs x i => x.on S && i.on S
  | .ixa _ _ _ x i => x.on S && i.on S
  | .fa _ x => x.on S
  | .nc x => x.on S
  | .iaa _ _ x i => x.on S && i.on S
  | .ext _ x => x.on S
  | .build _ parts => partsOn S parts
  | .mm _ x y => x.on S && y.on S
  | .slcs x lo hi => x.on S && optOn S lo && optOn S hi
  | .alloc _ => true
  | .box x => x.on S
  | .mks _ _ _ _ l c => l.on S && c.on S
  | .mkm => true
  | .ia _ x i => x.on S && i.on S
  | .bsl _ _ _ parts => partsOn' S parts
  | .lds x => x.on S
  | .lda _ x => x.on S
  | .sts x v => x.on S && v.on S
  | .sta _ x v => x.on S && v.on S
  | .stk _ x v => x.on S && v.on S
  | .slc _ x lo hi mx => x.on S && optOn S lo && optOn S hi && optOn S mx
  | .slca _ _ _ x lo hi mx => x.on S && optOn S lo && optOn S hi && optOn S mx
  | .len _ x => x.on S
  | .cap x => x.on S
  | .app _ _ _ s x => s.on S && x.on S
  | .appz _ _ _ s n => s.on S && n.on S
  | .copy _ d s => d.on S && s.on S
  | .clear _ _ x => x.on S
  | .call _ _ args => allOn S args
  | .callv _ x args => x.on S && allOn S args
  | .look _ _ _ m k => m.on S && k.on S
  | .upd _ m k v => m.on S && k.on S && v.on S
  | .panic x => x.on S
def guardOn (S : Nat → Bool) : Option (Nat × Bool) → Bool
  | none => true
  | some (t, _) => S t
def AOper.on (S : Nat → Bool) (o : AOper) : Bool := o.op.on S && guardOn S o.guard
def notDst (d : Option Nat) (t : Nat) : Bool := match d with
  | some d => !Nat.beq d t
  | none => true
def regOk (x y : AOper) : Bool :=
  y.on (notDst x.dst) && x.on (notDst y.dst) && match x.dst with
    | some d => notDst y.dst d
    | none => true
def edgeOn (x : Oper) (o : Nat) : Bool := x.after.toList.any fun e => Region.binds .any e && Nat.beq e.on o
def depOk (x : Oper) (ds : List (List Nat)) (o : Nat) : Bool :=
  edgeOn x o || x.after.toList.any fun e => Region.binds .any e && match ds[e.on]? with
    | some d => !notIn o d
    | none => false
def allDeps (x : Oper) (ds : List (List Nat)) : List Nat → Bool
  | [] => true
  | o :: os => depOk x ds o && allDeps x ds os
def pairsOk (y : AOper) (deps : List Nat) : Nat → List (AOper × Nat × List Nat) → Bool
  | _, [] => true
  | o, x :: xs => (!notIn o deps || regOk x.1 y) && pairsOk y deps (o + 1) xs
def chkDrawL (i : Nat) (pre : List (AOper × Nat × List Nat)) (ds : List (List Nat)) : List (AOper × Nat × List Nat) → List Oper → Bool
  | [], [] => true
  | p :: ps, o :: os => (o.after.toList.all fun e => !Region.binds .any e || Nat.blt e.on i) && allDeps o ds p.2.2 && pairsOk p.1 p.2.2 0 pre && chkDrawL (i + 1) (pre ++ [p]) (ds ++ [p.2.2]) ps os
  | _, _ => false
def chkDraw (P : Program) (n : Nat) (l : List (AOper × Nat × List Nat)) (ops : Array Oper) : Bool :=
  chkOps P n ops (l.map (·.1)) ops.toList && chkDrawL 0 [] [] l ops.toList
def Agree (S : Nat → Bool) (e e' : Env) : Prop := ∀ t, S t = true → e.get t = e'.get t
section
variable {S : Nat → Bool} {e e' : Env}
theorem ev_on (hA : Agree S e e') {x : AOpd} (h : x.on S = true) : x.ev e = x.ev e' := by
  cases x with
  | t n => exact hA n h
  | c v => rfl
theorem optEv_on (hA : Agree S e e') {x : Option AOpd} (h : optOn S x = true) : optEv e x = optEv e' x := by
  cases x with
  | none => rfl
  | some x => simp only [optEv, ev_on hA (x := x) h]
theorem evs_on (hA : Agree S e e') : ∀ {xs : List AOpd}, allOn S xs = true → evs e xs = evs e' xs
  | [], _ => rfl
  | x :: xs, h => by
    simp only [allOn, Bool.and_eq_true] at h
    simp only [evs, ev_on hA h.1, evs_on hA h.2]
theorem buildA_on (hA : Agree S e e') : ∀ {ps : List (Nat × Nat × AOpd)} {cs : List AVal}, partsOn S ps = true → buildA e ps cs = buildA e' ps cs
  | [], _, _ => rfl
  | (off, sz, x) :: ps, cs, h => by
    simp only [partsOn, Bool.and_eq_true] at h
    simp only [buildA, ev_on hA h.1]
    split
    · split
      · exact buildA_on hA h.2
      · rfl
    · rfl
theorem bslGo_on (hA : Agree S e e') {H : Heap} {es : Nat} : ∀ {ps : List (Nat × AOpd)} {xs : List AVal}, partsOn' S ps = true → bslGo e H es ps xs = bslGo e' H es ps xs
  | [], _, _ => rfl
  | (i, x) :: ps, xs, h => by
    simp only [partsOn', Bool.and_eq_true] at h
    simp only [bslGo, ev_on hA h.1]
    split
    · split
      · split
        · exact bslGo_on hA h.2
        · rfl
      · rfl
    · rfl
theorem y6f (hA : Agree S e e') : ∀ {ps : List (Nat × AOpd)}, partsOn' S ps = true → partsGls e ps = partsGls e' ps
  | [], _ => rfl
  | (i, x) :: ps, h => by
    simp only [partsOn', Bool.and_eq_true] at h
    simp only [partsGls, ev_on hA h.1, y6f hA h.2]
theorem evP_on (hA : Agree S e e') {op : AOp} (h : op.on S = true) : evP e op = evP e' op := by
  cases op <;> simp only [AOp.on, Bool.and_eq_true] at h <;> simp only [evP] <;>
    first
      | rfl
      | (simp only [ev_on hA h]; done)
      | (simp only [ev_on hA h.1, ev_on hA h.2]; done)
      | (simp only [ev_on hA h.1.1, ev_on hA h.1.2, ev_on hA h.2]; done)
      | (simp only [evs_on hA h]; done)
      | (simp only [buildA_on hA h]; done)
      | (simp only [ev_on hA h.1.1, optEv_on hA h.1.2, optEv_on hA h.2]; done)
theorem evN_on (hA : Agree S e e') {id : Nat} {op : AOp} (h : op.on S = true) : evN e id op = evN e' id op := by
  cases op <;> simp only [AOp.on, Bool.and_eq_true] at h <;> simp only [evN] <;>
    first
      | rfl
      | (simp only [ev_on hA h]; done)
      | (simp only [ev_on hA h.1, ev_on hA h.2]; done)
theorem evH_on (hA : Agree S e e') {C : Ctx} {id : Nat} {H : Heap} {op : AOp} (h : op.on S = true) : evH C e id H op = evH C e' id H op := by
  cases op <;> simp only [AOp.on, Bool.and_eq_true] at h <;> simp only [evH] <;>
    first
      | rfl
      | (simp only [ev_on hA h]; done)
      | (simp only [ev_on hA h.1, ev_on hA h.2]; done)
      | (simp only [ev_on hA h.1.1, ev_on hA h.1.2, ev_on hA h.2]; done)
      | (simp only [evs_on hA h]; done)
      | (simp only [bslGo_on hA h]; done)
      | (simp only [ev_on hA h.1, evs_on hA h.2]; done)
      | (simp only [ev_on hA h.1.1.1, optEv_on hA h.1.1.2, optEv_on hA h.1.2, optEv_on hA h.2]; done)
theorem footH_on (hA : Agree S e e') {H : Heap} {op : AOp} (h : op.on S = true) : footH e H op = footH e' H op := by
  cases op <;> simp only [AOp.on, Bool.and_eq_true] at h <;> simp only [footH] <;>
    first
      | rfl
      | (simp only [ev_on hA h]; done)
      | (simp only [ev_on hA h.1, ev_on hA h.2]; done)
      | (simp only [ev_on hA h.1]; done)
      | (simp only [ev_on hA h.1.1, ev_on hA h.1.2, ev_on hA h.2]; done)
      | (simp only [evs_on hA h]; done)
      | (simp only [y6f hA h]; done)
      | (simp only [ev_on hA h.1, evs_on hA h.2]; done)
      | (simp only [ev_on hA h.1.1.1]; done)
theorem stepV_on (hA : Agree S e e') {C : Ctx} {base j : Nat} {H : Heap} {o : AOper} (h : o.on S = true) : stepV C base o j e H = stepV C base o j e' H := by
  simp only [AOper.on, Bool.and_eq_true] at h
  have hw : wantedA e o.guard = wantedA e' o.guard := by
    cases hg : o.guard with
    | none => rfl
    | some g =>
      obtain ⟨t, want⟩ := g
      have h2 := h.2
      rw [hg] at h2
      simp only [wantedA, hA t h2]
  have hop : ∀ id, evalOp C e id H o.op = evalOp C e' id H o.op := by
    intro id
    simp only [evalOp, evP_on hA h.1, evN_on hA h.1, evH_on hA h.1]
  have hf : ∀ id H', footA e id H H' o.op = footA e' id H H' o.op := by
    intro id H'
    simp only [footA, footH_on hA h.1]
  simp only [stepV, hw, hop, hf]
end
theorem opd_true (x : AOpd) : x.on (fun _ => true) = true := by cases x <;> rfl
theorem opt_true (x : Option AOpd) : optOn (fun _ => true) x = true := by
  cases x with
  | none => rfl
  | some x => exact opd_true x
theorem all_true : ∀ xs : List AOpd, allOn (fun _ => true) xs = true
  | [] => rfl
  | x :: xs => by simp only [allOn, opd_true, all_true xs, Bool.and_true]
theorem y78 : ∀ xs : List (Nat × Nat × AOpd), partsOn (fun _ => true) xs = true
  | [] => rfl
  | (_, _, x) :: xs => by simp only [partsOn, opd_true, y78 xs, Bool.and_true]
theorem parts'_true : ∀ xs : List (Nat × AOpd), partsOn' (fun _ => true) xs = true
  | [] => rfl
  | (_, x) :: xs => by simp only [partsOn', opd_true, parts'_true xs, Bool.and_true]
theorem oper_true (o : AOper) : o.on (fun _ => true) = true := by
  obtain ⟨d, op, g⟩ := o
  simp only [AOper.on, Bool.and_eq_true]
  refine ⟨?_, ?_⟩
  · cases op <;> simp only [AOp.on, opd_true, opt_true, all_true, y78, parts'_true, Bool.and_true]
  · cases g <;> rfl
def EqE (e e' : Env) : Prop := ∀ t, e.get t = e'.get t
theorem EqE.agree {e e' : Env} (h : EqE e e') : Agree (fun _ => true) e e' := fun t _ => h t
theorem EqE.put {e e' : Env} (h : EqE e e') (d : Option Nat) (v : AVal) : EqE (e.put d v) (e'.put d v) := by
  intro t; rw [Env.get_put, Env.get_put, h t]
theorem runD_eqE {C : Ctx} {base : Nat} : ∀ {l : List (AOper × Nat × List Nat)} {e e' e1 : Env} {H H1 : Heap} {fs : List Foot}, EqE e e' → runD C base l e H = some (fs, e1, H1) →
    ∃ e1', runD C base l e' H = some (fs, e1', H1) ∧ EqE e1 e1'
  | [], e, e', e1, H, H1, fs, he, h => by
    simp only [runD, Option.some.injEq, Prod.mk.injEq] at h
    obtain ⟨rfl, rfl, rfl⟩ := h
    exact ⟨e', rfl, he⟩
  | p :: l, e, e', e1, H, H1, fs, he, h => by
    simp only [runD] at h ⊢
    rw [← stepV_on he.agree (oper_true p.1)]
    split at h
    · rename_i f v H' hs
      split at h
      · rename_i fs' r' hr
        simp only [Option.some.injEq, Prod.mk.injEq] at h
        obtain ⟨rfl, rfl⟩ := h
        obtain ⟨e1', h1, h2⟩ := runD_eqE (he.put p.1.dst v) hr
        refine ⟨e1', ?_, h2⟩
        simp only [h1]
      · cases h
    · cases h
end Go.Ev
