/-
  What slices hold in memory.
-/
import Derived.Test.YtbjoldcjbpngaaaEvF
import Derived.Laws.Append
set_option linter.unusedVariables false
set_option linter.unusedSimpArgs false
namespace Go.Ev
open Go

def flatV (l : List Value) : List Value := l.flatMap fun v => v.cells.toList

theorem flatL_reps {Γ : Gh} : ∀ {ys : List AVal} {cs : List Value}, Reps Γ ys cs → Reps Γ (flatL ys) (flatV cs)
  | [], cs, h => by
    have : cs = [] := List.eq_nil_of_length_eq_zero (by simpa using h.1)
    subst this; exact Reps.nil Γ
  | y :: ys, [], h => by have := h.1; simp at this
  | y :: ys, c :: cs, h => by
    have h0 : Rep Γ y c := h.2 0 y c rfl rfl
    have hs : Reps Γ ys cs := ⟨by simpa using h.1, fun i x y hx hy => h.2 (i + 1) x y (by simpa using hx) (by simpa using hy)⟩
    simp only [flatL, flatV, List.flatMap_cons]
    exact h0.cells.append (flatL_reps hs)

/-- As 'group', of the model's values. -/
def groupV (w : Option Nat) : (n : Nat) → List Value → List Value
  | 0, _ => []
  | n + 1, cs => match w with
    | none => (cs.take 1) ++ groupV w n (cs.drop 1)
    | some k => .agg (cs.take k).toArray :: groupV w n (cs.drop k)

theorem group_reps {Γ : Gh} {w : Option Nat} : ∀ {n : Nat} {cs : List AVal} {ds : List Value}, Reps Γ cs ds → (∀ d, d ∈ ds → d.oneCell' = true) → Reps Γ (group w n cs) (groupV w n ds)
  | 0, cs, ds, h, h1 => Reps.nil Γ
  | n + 1, cs, ds, h, h1 => by
    cases w with
    | none =>
      simp only [group, groupV]
      exact (h.take 1).append (group_reps (h.drop 1) (fun d hd => h1 d (List.mem_of_mem_drop hd)))
    | some k =>
      simp only [group, groupV]
      exact Reps.cons (.agg (h.take k).1 (h.take k).2 (fun d hd => h1 d (List.mem_of_mem_take hd))) (group_reps (h.drop k) (fun d hd => h1 d (List.mem_of_mem_drop hd)))

theorem cells_one {d : Value} (h : d.oneCell' = true) : d.cells.toList = [d] := by cases d <;> simp_all [Value.oneCell', Value.cells]

theorem flatV_one {l : List Value} (h : ∀ d, d ∈ l → d.oneCell' = true) : flatV l = l := by
  induction l with
  | nil => rfl
  | cons d l ih =>
    simp only [flatV, List.flatMap_cons]
    rw [cells_one (h d (by simp))]
    have := ih (fun x hx => h x (by simp [hx]))
    simp only [flatV] at this
    simp [this]

theorem groupV_flat {w : Option Nat} : ∀ {n : Nat} {ds : List Value}, (∀ d, d ∈ ds → d.oneCell' = true) → flatV (groupV w n ds) = ds.take (n * wide w)
  | 0, ds, h1 => by simp [groupV, flatV]
  | n + 1, ds, h1 => by
    cases w with
    | none =>
      simp only [groupV, wide, Option.getD_none, Nat.mul_one]
      have ih := groupV_flat (w := none) (n := n) (ds := ds.drop 1) (fun d hd => h1 d (List.mem_of_mem_drop hd))
      simp only [wide, Option.getD_none, Nat.mul_one] at ih
      have e1 : flatV (ds.take 1 ++ groupV none n (ds.drop 1)) = flatV (ds.take 1) ++ flatV (groupV none n (ds.drop 1)) := by simp [flatV]
      rw [e1, ih, flatV_one (fun d hd => h1 d (List.mem_of_mem_take hd)), ← List.take_add, Nat.add_comm 1 n]
    | some k =>
      simp only [groupV, wide, Option.getD_some]
      have ih := groupV_flat (w := some k) (n := n) (ds := ds.drop k) (fun d hd => h1 d (List.mem_of_mem_drop hd))
      simp only [wide, Option.getD_some] at ih
      have e1 : flatV (.agg (ds.take k).toArray :: groupV (some k) n (ds.drop k)) = ds.take k ++ flatV (groupV (some k) n (ds.drop k)) := by simp [flatV, Value.cells]
      rw [e1, ih, ← List.take_add]
      congr 1
      rw [Nat.add_mul]; omega

theorem group_length {w : Option Nat} : ∀ {n : Nat} {cs : List AVal}, n * wide w ≤ cs.length → (group w n cs).length = n
  | 0, cs, h => rfl
  | n + 1, cs, h => by
    cases w with
    | none =>
      simp only [wide, Option.getD_none, Nat.mul_one] at h
      simp only [group, List.length_append, List.length_take]
      rw [group_length (w := none) (by simp [wide]; omega)]
      omega
    | some k =>
      simp only [wide, Option.getD_some] at h
      have h' : n * k + k ≤ cs.length := by rw [Nat.add_mul] at h; omega
      simp only [group, List.length_cons]
      rw [group_length (w := some k) (by simp only [wide, Option.getD_some, List.length_drop]; omega)]

/-- What a slice that is read holds, where it lies. -/
structure Holds (P : Program) (Γ : Gh) (w : World) (ys : List AVal) (c : Value) (ds : List Value) : Prop where
  reps : Reps Γ (flatL ys) ds
  one : ∀ d, d ∈ ds → d.oneCell' = true
  free : ∀ y, y ∈ ys → rfree y
  len : (Builtin.lenOf c).run P w = .ok ys.length w
  first : ∀ size n, (∀ y, y ∈ ys → y.width = size) → n ≤ ys.length → (Builtin.firstCells size n c).run P w = .ok (ds.take (n * size)).toArray w

theorem firstCells_take {P : Program} {w : World} {g off len cap size n : Nat} {ds : List Value} {m : Nat} (hl : ds.length = m * size) (hn : n ≤ m) (hc : ∀ (j : Nat) (v : Value), ds[j]? = some v → w.cell? ⟨g, off + j, none⟩ = some v) :
    (Builtin.firstCells size n (.slice (some ⟨g, off, none⟩) len cap)).run P w = .ok (ds.take (n * size)).toArray w := by
  refine run_firstCells_some w size n ⟨g, off, none⟩ len cap (ds.take (n * size)) ?_ ?_
  · rw [List.length_take, hl]
    exact Nat.min_eq_left (Nat.mul_le_mul_right _ hn)
  · intro j v hv
    rw [List.getElem?_take] at hv
    split at hv
    · rw [addr_add]; exact hc j v hv
    · cases hv

theorem lst_holds {P : Program} {Γ : Gh} {H : Heap} {w : World} {xs : List AVal} {e : Bool} {c : Value} (hR : Rel Γ H w) (h : Rep Γ (.lst xs e) c) : ∃ ds, Holds P Γ w xs c ds := by
  rcases h.lst_inv with ⟨rfl, base, cap, rfl, hE⟩ | ⟨g, off, cap, es, f, rfl, k1, k2, k3, k4, k5, k6, k7⟩
  · refine ⟨[], Reps.nil Γ, by simp, by simp, by simp [Builtin.lenOf], ?_⟩
    intro size n _ hn
    have : n = 0 := by simpa using hn
    subst this
    cases base <;> simp [Builtin.firstCells, loadCells, loadCellsFrom]
  · have hfl := flatL_length k3
    refine ⟨(List.range (flatL xs).length).map f, ⟨by simp, ?_⟩, ?_, k4, by simp [Builtin.lenOf], ?_⟩
    · intro i x d hx hd
      have hi : i < (flatL xs).length := (List.getElem?_eq_some_iff.1 hx).1
      simp [hi] at hd
      subst hd
      exact k7 i x hx
    · intro d hd
      simp only [List.mem_map, List.mem_range] at hd
      obtain ⟨i, hi, rfl⟩ := hd
      exact k6 i _ (List.getElem?_eq_getElem hi)
    · intro size n hw hn
      by_cases he : xs = []
      · subst he
        have : n = 0 := by simpa using hn
        subst this
        simp [Builtin.firstCells, loadCells, loadCellsFrom]
      · have hsz : size = es := by
          cases xs with
          | nil => exact absurd rfl he
          | cons x xs => rw [← hw x (by simp), k3 x (by simp)]
        subst hsz
        refine firstCells_take (m := xs.length) (by simp [hfl]) hn ?_
        intro j v hv
        have hj : j < (flatL xs).length := by
          have := (List.getElem?_eq_some_iff.1 hv).1
          simpa using this
        simp [hj] at hv
        subst hv
        exact hR.mem _ _ _ (k5 j _ (List.getElem?_eq_getElem hj))

theorem elems_sound {P : Program} {Γ : Gh} {H : Heap} {w : World} {v : AVal} {ys : List AVal} {c : Value} (hR : Rel Γ H w) (hv : elemsOf H v = some ys) (h : Rep Γ v c) :
    ∃ ds, Holds P Γ w ys c ds := by
  cases v <;> simp only [elemsOf, reduceCtorEq] at hv
  case lst xs e => cases hv; exact lst_holds hR h
  case gl o len =>
    split at hv
    · rename_i xs _ hg
      cases hv
      obtain ⟨_, xs', he, _, _, h'⟩ := growAt_sound hR h hg
      exact lst_holds hR h'
    · cases hv
  case str s =>
    cases hv
    have hc := h.str_inv
    subst hc
    have hflat : ∀ l : List UInt8, flatL (l.map fun b => AVal.int .u8 b.toNat) = l.map fun b => AVal.int .u8 b.toNat := by
      intro l
      induction l with
      | nil => rfl
      | cons b l ih => simp [flatL, AVal.flat, ih]
    refine ⟨s.map fun b => .int .u8 b.toNat, ⟨by rw [hflat]; simp, ?_⟩, ?_, by intro y hy; simp at hy; obtain ⟨b, _, rfl⟩ := hy; rfl, by simp [Builtin.lenOf, stringSize], ?_⟩
    · intro i x d hx hd
      rw [hflat] at hx
      simp at hx hd
      obtain ⟨b, hb, rfl⟩ := hx
      rw [hb] at hd
      simp at hd
      subst hd
      exact .int _ _
    · intro d hd
      simp at hd
      obtain ⟨b, _, rfl⟩ := hd
      rfl
    · intro size n hw hn
      by_cases he : s = []
      · subst he
        have : n = 0 := by simpa using hn
        subst this
        simp [Builtin.firstCells]
      · have hsz : size = 1 := by
          cases s with
          | nil => exact absurd rfl he
          | cons b s => rw [← hw (.int .u8 b.toNat) (by simp)]; rfl
        subst hsz
        simp [Builtin.firstCells]
  case sl b off len cap wd =>
    unfold sliceElems at hv
    split at hv
    · rename_i vs hb
      split at hv
      · rename_i hle
        obtain ⟨g, cs, ty, h1, h2, h3, h4, h5, h6⟩ := hR.cells hb
        obtain ⟨g', rfl, hmu⟩ := h.sl_inv
        rw [h1] at hmu; cases hmu
        have hone : ∀ d, d ∈ cs.toList.drop off → d.oneCell' = true := fun d hd => h6 d (List.mem_of_mem_drop hd)
        obtain ⟨r1, r2⟩ := shutL_sound hR hv (group_reps (w := wd) (n := len) (h5.drop off) hone)
        have hr := flatL_reps r1
        rw [groupV_flat hone] at hr
        have hlen : ys.length = len := by
          rw [← r1.1]
          have := (group_reps (w := wd) (n := len) (h5.drop off) hone).1
          rw [this, group_length (by simp; omega)]
        refine ⟨_, hr, fun d hd => hone d (List.mem_of_mem_take hd), r2, by simp [Builtin.lenOf, hlen], ?_⟩
        intro size n hw hn
        have hfl := flatL_length hw
        refine firstCells_take (m := ys.length) (by rw [hr.1, hfl]) hn ?_
        intro j v hj
        rw [List.getElem?_take] at hj
        split at hj
        · rw [List.getElem?_drop] at hj
          rw [cell_at h3]
          simpa using hj
        · cases hj
      · cases hv
    · cases hv

end Go.Ev
