/-
  What the evaluator's values and heap stand for in the model's memory, and how that is kept.
-/
import Derived.Test.YtbjoldcjbpngaaaEvA
import Derived.Laws.Sem
import Derived.Laws.World
namespace Go.Ev
open Go

/-- Memory that nobody writes any more; where blocks lie; which slice a growing list is; whose a block is. -/
structure Gh where
  M : Nat → Nat → Option Value
  mu : Nat → Option Nat
  T : Nat → Nat → Option Value
  own : Nat → Option Nat

def rfree (v : AVal) : Prop := lowV 0 v = true

inductive Rep (Γ : Gh) : AVal → Value → Prop
  | int (k : IntKind) (n : Int) : Rep Γ (.int k n) (.int k n)
  | bool (b : Bool) : Rep Γ (.bool b) (.bool b)
  | str (s : List UInt8) : Rep Γ (.str s) (.string ⟨s.toArray⟩)
  | nilp : Rep Γ .nilp (.pointer none)
  | nili : Rep Γ .nili .nilIface
  | nilf : Rep Γ .nilf .nilFunc
  | nilm : Rep Γ .nilm (.map none)
  | iface (t : TypeId) {v : AVal} {c : Value} : Rep Γ v c → Rep Γ (.iface t v) (.iface t c)
  | agg {cs : List AVal} {ds : List Value} : ds.length = cs.length → (∀ (i : Nat) (c : AVal) (d : Value), cs[i]? = some c → ds[i]? = some d → Rep Γ c d) →
      (∀ d, d ∈ ds → d.oneCell' = true) → Rep Γ (.agg cs) (.agg ds.toArray)
  | tup {cs : List AVal} {ds : List Value} : ds.length = cs.length → (∀ (i : Nat) (c : AVal) (d : Value), cs[i]? = some c → ds[i]? = some d → Rep Γ c d) → Rep Γ (.tup cs) (.tuple ds.toArray)
  | lstN (e : Bool) : Rep Γ (.lst [] e) (.slice none 0 0)
  | lstE {e : Bool} {a : Addr} {cap : Nat} : (e = true → cap = 0) → Rep Γ (.lst [] e) (.slice (some a) 0 cap)
  | lst {xs : List AVal} {e : Bool} {g off cap es : Nat} (f : Nat → Value) : xs.length ≤ cap → (e = true → cap = xs.length) → (∀ x, x ∈ xs → x.width = es) → (∀ x, x ∈ xs → rfree x) →
      (∀ (j : Nat) (c : AVal), (flatL xs)[j]? = some c → Γ.M g (off + j) = some (f j)) → (∀ (j : Nat) (c : AVal), (flatL xs)[j]? = some c → (f j).oneCell' = true) → (∀ (j : Nat) (c : AVal), (flatL xs)[j]? = some c → Rep Γ c (f j)) →
      Rep Γ (.lst xs e) (.slice (some ⟨g, off, none⟩) xs.length cap)
  | gl {o len cap : Nat} {a : Option Addr} : Γ.T o len = some (.slice a len cap) → (0 < len → a.isSome = true) → Rep Γ (.gl o len) (.slice a len cap)
  | lptr {o l a g cap : Nat} : Γ.T o l = some (.slice (some ⟨g, 0, none⟩) l cap) → Rep Γ (.lptr o l a) (.pointer (some ⟨g, a, none⟩))
  | sl {b off len cap g : Nat} {w : Option Nat} : Γ.mu b = some g → Rep Γ (.sl b off len cap w) (.slice (some ⟨g, off, none⟩) len cap)
  | ptr {b off g : Nat} : Γ.mu b = some g → Rep Γ (.ptr b off) (.pointer (some ⟨g, off, none⟩))
  | ro {cs : List AVal} {g off : Nat} (f : Nat → Value) : (∀ c, c ∈ cs → rfree c) → (∀ (j : Nat) (c : AVal), cs[j]? = some c → Γ.M g (off + j) = some (f j)) →
      (∀ (j : Nat) (c : AVal), cs[j]? = some c → (f j).oneCell' = true) → (∀ (j : Nat) (c : AVal), cs[j]? = some c → Rep Γ c (f j)) → Rep Γ (.ro cs) (.pointer (some ⟨g, off, none⟩))
  | fn (f : FuncId) {cs : List AVal} {ds : List Value} : ds.length = cs.length → (∀ (i : Nat) (c : AVal) (d : Value), cs[i]? = some c → ds[i]? = some d → Rep Γ c d) → Rep Γ (.fn f cs) (.func (.func f) #[] ds.toArray)
  | map {b g : Nat} : Γ.mu b = some g → Rep Γ (.map b) (.map (some g))

/-- Lists of values, one by one. -/
def Reps (Γ : Gh) (cs : List AVal) (ds : List Value) : Prop := ds.length = cs.length ∧ ∀ (i : Nat) (c : AVal) (d : Value), cs[i]? = some c → ds[i]? = some d → Rep Γ c d

theorem low_mono_both (n m : Nat) (h : n ≤ m) : (∀ v, lowV n v = true → lowV m v = true) ∧ (∀ vs, lowL n vs = true → lowL m vs = true) := by
  constructor
  · intro v
    induction v using AVal.rec (motive_2 := fun vs => lowL n vs = true → lowL m vs = true) with
    | nil => simp [lowL]
    | cons v vs ih1 ih2 => rename_i hh; simp only [lowL, Bool.and_eq_true] at hh ⊢; exact ⟨ih1 hh.1, ih2 hh.2⟩
    | _ => simp_all [lowV] <;> omega
  · intro vs
    induction vs using AVal.rec_1 (motive_1 := fun v => lowV n v = true → lowV m v = true) with
    | nil => simp [lowL]
    | cons v vs ih1 ih2 => intro hh; simp only [lowL, Bool.and_eq_true] at hh ⊢; exact ⟨ih1 hh.1, ih2 hh.2⟩
    | _ => simp_all [lowV] <;> omega

theorem low_mono {n m : Nat} (h : n ≤ m) {v : AVal} (hv : lowV n v = true) : lowV m v = true := (low_mono_both n m h).1 v hv

theorem lowL_get {n : Nat} : ∀ {vs : List AVal} {i : Nat} {v : AVal}, lowL n vs = true → vs[i]? = some v → lowV n v = true
  | [], i, v, _, h => by simp at h
  | x :: xs, 0, v, hb, h => by simp only [lowL, Bool.and_eq_true] at hb; simp at h; exact h ▸ hb.1
  | x :: xs, i + 1, v, hb, h => by simp only [lowL, Bool.and_eq_true] at hb; simp at h; exact lowL_get hb.2 h

theorem lowL_iff {n : Nat} : ∀ {vs : List AVal}, lowL n vs = true ↔ ∀ v, v ∈ vs → lowV n v = true
  | [] => by simp [lowL]
  | x :: xs => by simp [lowL, lowL_iff (vs := xs)]

theorem rfree_flat {x : AVal} (h : rfree x) : ∀ c, c ∈ x.flat → rfree c := by
  intro c hc
  cases x <;> simp [AVal.flat] at hc <;> first | (subst hc; exact h) | skip
  simp only [rfree, lowV] at h ⊢
  exact lowL_iff.1 h c hc

theorem flatL_rfree {xs : List AVal} (h : ∀ x, x ∈ xs → rfree x) : ∀ c, c ∈ flatL xs → rfree c := by
  induction xs with
  | nil => simp [flatL]
  | cons x xs ih =>
    intro c hc
    simp only [flatL, List.mem_append] at hc
    rcases hc with hc | hc
    · exact rfree_flat (h x (by simp)) c hc
    · exact ih (fun y hy => h y (by simp [hy])) c hc

/-- What a value stands for hangs on the places alone to which it leads. -/
theorem Rep.move {Γ Γ' : Gh} {n : Nat} (hM : ∀ g o c, Γ.M g o = some c → Γ'.M g o = some c) (hmu : ∀ b g, b < n → Γ.mu b = some g → Γ'.mu b = some g)
    (hT : ∀ o l c, o < n → Γ.T o l = some c → Γ'.T o l = some c) {v : AVal} {c : Value} (h : Rep Γ v c) : lowV n v = true → Rep Γ' v c := by
  induction h with
  | int k n => intro _; exact .int k n
  | bool b => intro _; exact .bool b
  | str s => intro _; exact .str s
  | nilp => intro _; exact .nilp
  | nili => intro _; exact .nili
  | nilf => intro _; exact .nilf
  | nilm => intro _; exact .nilm
  | iface t _ ih => intro hb; exact .iface t (ih (by simpa [lowV] using hb))
  | agg hl _ h1 ih => intro hb; exact .agg hl (fun i c d hc hd => ih i c d hc hd (lowL_get (by simpa [lowV] using hb) hc)) h1
  | tup hl _ ih => intro hb; exact .tup hl (fun i c d hc hd => ih i c d hc hd (lowL_get (by simpa [lowV] using hb) hc))
  | lstN e => intro _; exact .lstN e
  | lstE h => intro _; exact .lstE h
  | lst f h1 h2 h3 h4 h5 h6 _ ih =>
    intro _
    exact .lst f h1 h2 h3 h4 (fun j c hc => hM _ _ _ (h5 j c hc)) h6 (fun j c hc => ih j c hc (low_mono (Nat.zero_le _) (flatL_rfree h4 c (List.mem_of_getElem? hc))))
  | gl h1 h2 => intro hb; exact .gl (hT _ _ _ (by simpa [lowV] using hb) h1) h2
  | lptr h1 => intro hb; exact .lptr (hT _ _ _ (by simpa [lowV] using hb) h1)
  | sl h1 => intro hb; exact .sl (hmu _ _ (by simpa [lowV] using hb) h1)
  | ptr h1 => intro hb; exact .ptr (hmu _ _ (by simpa [lowV] using hb) h1)
  | ro f h1 h2 h3 _ ih =>
    intro _
    exact .ro f h1 (fun j c hc => hM _ _ _ (h2 j c hc)) h3 (fun j c hc => ih j c hc (low_mono (Nat.zero_le _) (h1 c (List.mem_of_getElem? hc))))
  | fn f hl _ ih => intro hb; exact .fn f hl (fun i c d hc hd => ih i c d hc hd (lowL_get (by simpa [lowV] using hb) hc))
  | map h1 => intro hb; exact .map (hmu _ _ (by simpa [lowV] using hb) h1)

/-- The ghost grows. -/
structure Gh.le (Γ Γ' : Gh) : Prop where
  M : ∀ g o c, Γ.M g o = some c → Γ'.M g o = some c
  mu : ∀ b g, Γ.mu b = some g → Γ'.mu b = some g
  T : ∀ o l c, Γ.T o l = some c → Γ'.T o l = some c

theorem Gh.le.refl (Γ : Gh) : Γ.le Γ := ⟨fun _ _ _ h => h, fun _ _ h => h, fun _ _ _ h => h⟩
theorem Gh.le.trans {Γ Γ' Γ'' : Gh} (h : Γ.le Γ') (h' : Γ'.le Γ'') : Γ.le Γ'' :=
  ⟨fun _ _ _ a => h'.M _ _ _ (h.M _ _ _ a), fun _ _ a => h'.mu _ _ (h.mu _ _ a), fun _ _ _ a => h'.T _ _ _ (h.T _ _ _ a)⟩

theorem Rep.mono {Γ Γ' : Gh} (hl : Γ.le Γ') {v : AVal} {c : Value} (h : Rep Γ v c) : Rep Γ' v c := by
  induction h with
  | int k n => exact .int k n
  | bool b => exact .bool b
  | str s => exact .str s
  | nilp => exact .nilp
  | nili => exact .nili
  | nilf => exact .nilf
  | nilm => exact .nilm
  | iface t _ ih => exact .iface t ih
  | agg hl' _ h1 ih => exact .agg hl' ih h1
  | tup hl' _ ih => exact .tup hl' ih
  | lstN e => exact .lstN e
  | lstE h => exact .lstE h
  | lst f h1 h2 h3 h4 h5 h6 _ ih => exact .lst f h1 h2 h3 h4 (fun j c hc => hl.M _ _ _ (h5 j c hc)) h6 ih
  | gl h1 h2 => exact .gl (hl.T _ _ _ h1) h2
  | lptr h1 => exact .lptr (hl.T _ _ _ h1)
  | sl h1 => exact .sl (hl.mu _ _ h1)
  | ptr h1 => exact .ptr (hl.mu _ _ h1)
  | ro f h1 h2 h3 _ ih => exact .ro f h1 (fun j c hc => hl.M _ _ _ (h2 j c hc)) h3 ih
  | fn f hl' _ ih => exact .fn f hl' ih
  | map h1 => exact .map (hl.mu _ _ h1)

theorem Reps.mono {Γ Γ' : Gh} (hl : Γ.le Γ') {cs : List AVal} {ds : List Value} (h : Reps Γ cs ds) : Reps Γ' cs ds := ⟨h.1, fun i c d hc hd => (h.2 i c d hc hd).mono hl⟩

theorem Reps.nil (Γ : Gh) : Reps Γ [] [] := ⟨rfl, by simp⟩
theorem Reps.cons {Γ : Gh} {c : AVal} {d : Value} {cs : List AVal} {ds : List Value} (h : Rep Γ c d) (hs : Reps Γ cs ds) : Reps Γ (c :: cs) (d :: ds) := by
  refine ⟨by simp [hs.1], ?_⟩
  intro i x y hx hy
  cases i with
  | zero => simp at hx hy; exact hx ▸ hy ▸ h
  | succ i => simp at hx hy; exact hs.2 i x y hx hy
theorem Reps.append {Γ : Gh} {cs cs' : List AVal} {ds ds' : List Value} (h : Reps Γ cs ds) (h' : Reps Γ cs' ds') : Reps Γ (cs ++ cs') (ds ++ ds') := by
  refine ⟨by simp [h.1, h'.1], ?_⟩
  intro i x y hx hy
  by_cases hi : i < cs.length
  · rw [List.getElem?_append_left hi] at hx
    rw [List.getElem?_append_left (by rw [h.1]; exact hi)] at hy
    exact h.2 i x y hx hy
  · rw [List.getElem?_append_right (by omega)] at hx
    rw [List.getElem?_append_right (by rw [h.1]; omega), h.1] at hy
    exact h'.2 _ x y hx hy
theorem Reps.take {Γ : Gh} {cs : List AVal} {ds : List Value} (h : Reps Γ cs ds) (n : Nat) : Reps Γ (cs.take n) (ds.take n) := by
  refine ⟨by simp [h.1], ?_⟩
  intro i x y hx hy
  rw [List.getElem?_take] at hx hy
  split at hx
  · rename_i hi; rw [if_pos hi] at hy; exact h.2 i x y hx hy
  · cases hx
theorem Reps.drop {Γ : Gh} {cs : List AVal} {ds : List Value} (h : Reps Γ cs ds) (n : Nat) : Reps Γ (cs.drop n) (ds.drop n) := by
  refine ⟨by simp [h.1], ?_⟩
  intro i x y hx hy
  rw [List.getElem?_drop] at hx hy
  exact h.2 _ x y hx hy
theorem Reps.get {Γ : Gh} {cs : List AVal} {ds : List Value} (h : Reps Γ cs ds) {i : Nat} {c : AVal} (hc : cs[i]? = some c) : ∃ d, ds[i]? = some d ∧ Rep Γ c d := by
  have hi : i < cs.length := (List.getElem?_eq_some_iff.1 hc).1
  have hi' : i < ds.length := by rw [h.1]; exact hi
  exact ⟨ds[i], List.getElem?_eq_getElem hi', h.2 i c _ hc (List.getElem?_eq_getElem hi')⟩
theorem Reps.set {Γ : Gh} {cs : List AVal} {ds : List Value} (h : Reps Γ cs ds) {c : AVal} {d : Value} (hc : Rep Γ c d) (n : Nat) : Reps Γ (cs.set n c) (ds.set n d) := by
  refine ⟨by simp [h.1], ?_⟩
  intro i x y hx hy
  rw [List.getElem?_set] at hx hy
  split at hx
  · rename_i hi
    rw [if_pos hi] at hy
    split at hx
    · split at hy
      · cases hx; cases hy; exact hc
      · cases hy
    · cases hx
  · rename_i hi; rw [if_neg hi] at hy; exact h.2 i x y hx hy

theorem Rep.agg_inv {Γ : Gh} {cs : List AVal} {c : Value} (h : Rep Γ (.agg cs) c) : ∃ ds : List Value, c = .agg ds.toArray ∧ Reps Γ cs ds ∧ ∀ d, d ∈ ds → d.oneCell' = true := by
  cases h with | agg h1 h2 h3 => exact ⟨_, rfl, ⟨h1, h2⟩, h3⟩
theorem Rep.tup_inv {Γ : Gh} {cs : List AVal} {c : Value} (h : Rep Γ (.tup cs) c) : ∃ ds : List Value, c = .tuple ds.toArray ∧ Reps Γ cs ds := by
  cases h with | tup h1 h2 => exact ⟨_, rfl, ⟨h1, h2⟩⟩
theorem Rep.fn_inv {Γ : Gh} {f : FuncId} {cs : List AVal} {c : Value} (h : Rep Γ (.fn f cs) c) : ∃ ds : List Value, c = .func (.func f) #[] ds.toArray ∧ Reps Γ cs ds := by
  cases h with | fn _ h1 h2 => exact ⟨_, rfl, ⟨h1, h2⟩⟩
theorem Rep.int_inv {Γ : Gh} {k : IntKind} {n : Int} {c : Value} (h : Rep Γ (.int k n) c) : c = .int k n := by cases h; rfl
theorem Rep.bool_inv {Γ : Gh} {b : Bool} {c : Value} (h : Rep Γ (.bool b) c) : c = .bool b := by cases h; rfl
theorem Rep.str_inv {Γ : Gh} {s : List UInt8} {c : Value} (h : Rep Γ (.str s) c) : c = .string ⟨s.toArray⟩ := by cases h; rfl
theorem Rep.ptr_inv {Γ : Gh} {b off : Nat} {c : Value} (h : Rep Γ (.ptr b off) c) : ∃ g, c = .pointer (some ⟨g, off, none⟩) ∧ Γ.mu b = some g := by
  cases h with | ptr h1 => exact ⟨_, rfl, h1⟩
theorem Rep.sl_inv {Γ : Gh} {b off len cap : Nat} {w : Option Nat} {c : Value} (h : Rep Γ (.sl b off len cap w) c) : ∃ g, c = .slice (some ⟨g, off, none⟩) len cap ∧ Γ.mu b = some g := by
  cases h with | sl h1 => exact ⟨_, rfl, h1⟩
theorem Rep.lptr_inv {Γ : Gh} {o l b : Nat} {c : Value} (h : Rep Γ (.lptr o l b) c) : ∃ g cap, c = .pointer (some ⟨g, b, none⟩) ∧ Γ.T o l = some (.slice (some ⟨g, 0, none⟩) l cap) := by
  cases h with | lptr h1 => exact ⟨_, _, rfl, h1⟩
theorem Rep.map_inv {Γ : Gh} {b : Nat} {c : Value} (h : Rep Γ (.map b) c) : ∃ g, c = .map (some g) ∧ Γ.mu b = some g := by
  cases h with | map h1 => exact ⟨_, rfl, h1⟩
theorem Rep.gl_inv {Γ : Gh} {o len : Nat} {c : Value} (h : Rep Γ (.gl o len) c) : ∃ a cap, c = .slice a len cap ∧ Γ.T o len = some c ∧ (0 < len → a.isSome = true) := by
  cases h with | gl h1 h2 => exact ⟨_, _, rfl, h1, h2⟩
theorem Rep.ro_inv {Γ : Gh} {cs : List AVal} {c : Value} (h : Rep Γ (.ro cs) c) : ∃ (g off : Nat) (f : Nat → Value), c = .pointer (some ⟨g, off, none⟩) ∧ (∀ c, c ∈ cs → rfree c) ∧ (∀ (j : Nat) (c : AVal), cs[j]? = some c → Γ.M g (off + j) = some (f j)) ∧
    (∀ (j : Nat) (c : AVal), cs[j]? = some c → (f j).oneCell' = true) ∧ (∀ (j : Nat) (c : AVal), cs[j]? = some c → Rep Γ c (f j)) := by
  cases h with | ro f h1 h2 h3 h4 => exact ⟨_, _, f, rfl, h1, h2, h3, h4⟩
theorem Rep.lst_inv {Γ : Gh} {xs : List AVal} {e : Bool} {c : Value} (h : Rep Γ (.lst xs e) c) : (xs = [] ∧ ∃ base cap, c = .slice base 0 cap ∧ ((base = none ∧ cap = 0) ∨ ((∃ a, base = some a) ∧ (e = true → cap = 0)))) ∨
    ∃ (g off cap es : Nat) (f : Nat → Value), c = .slice (some ⟨g, off, none⟩) xs.length cap ∧ xs.length ≤ cap ∧ (e = true → cap = xs.length) ∧ (∀ x, x ∈ xs → x.width = es) ∧ (∀ x, x ∈ xs → rfree x) ∧
      (∀ (j : Nat) (c : AVal), (flatL xs)[j]? = some c → Γ.M g (off + j) = some (f j)) ∧ (∀ (j : Nat) (c : AVal), (flatL xs)[j]? = some c → (f j).oneCell' = true) ∧ (∀ (j : Nat) (c : AVal), (flatL xs)[j]? = some c → Rep Γ c (f j)) := by
  cases h with
  | lstN => exact .inl ⟨rfl, _, _, rfl, .inl ⟨rfl, rfl⟩⟩
  | lstE h => exact .inl ⟨rfl, _, _, rfl, .inr ⟨⟨_, rfl⟩, h⟩⟩
  | lst f h1 h2 h3 h4 h5 h6 h7 => exact .inr ⟨_, _, _, _, f, rfl, h1, h2, h3, h4, h5, h6, h7⟩

theorem Rep.emp {Γ : Gh} {e : Bool} {base : Option Addr} {cap : Nat} (h : (base = none ∧ cap = 0) ∨ ((∃ a, base = some a) ∧ (e = true → cap = 0))) : Rep Γ (.lst [] e) (.slice base 0 cap) := by
  rcases h with ⟨rfl, rfl⟩ | ⟨⟨a, rfl⟩, h⟩
  · exact .lstN e
  · exact .lstE h

/-- The cells of a value. -/
theorem Rep.cells {Γ : Gh} {v : AVal} {c : Value} (h : Rep Γ v c) : Reps Γ v.flat c.cells.toList := by
  cases h with
  | agg hl hr h1 => exact ⟨by simpa [AVal.flat, Value.cells] using hl, by simpa [AVal.flat, Value.cells] using hr⟩
  | _ => simp only [AVal.flat, Value.cells]; exact Reps.cons (by constructor <;> assumption) (Reps.nil Γ)

theorem Rep.cells_one {Γ : Gh} {v : AVal} {c : Value} (h : Rep Γ v c) (ht : ∀ vs, v ≠ .tup vs) : ∀ d, d ∈ c.cells.toList → d.oneCell' = true := by
  cases h with
  | agg hl hr h1 => simpa [Value.cells] using h1
  | tup => exact absurd rfl (ht _)
  | _ => intro d hd; simp [Value.cells] at hd; subst hd; rfl

/-- One block of the abstract heap in memory. -/
def OkB (Γ : Gh) (w : World) (b : Nat) : ABlock → Prop
  | .hole => Γ.mu b = none ∧ ∀ l, Γ.T b l = none
  | .dead => True
  | .cells vs => ∃ g cs ty, Γ.mu b = some g ∧ Γ.own g = some b ∧ w.heap[g]? = some (.cells cs ty (0, 0)) ∧ (∀ o, Γ.M g o = none) ∧ Reps Γ vs cs.toList ∧ ∀ c, c ∈ cs.toList → c.oneCell' = true
  | .grow es xs op => ∃ c, Γ.T b xs.length = some c ∧ (∀ l, xs.length < l → Γ.T b l = none) ∧ (∀ x, x ∈ xs → rfree x) ∧ ((op = none ∧ Rep Γ (.lst xs true) c) ∨
      ∃ g cap cs ty, c = .slice (some ⟨g, 0, none⟩) xs.length cap ∧ Γ.own g = some b ∧ w.heap[g]? = some (.cells cs ty (0, 0)) ∧ xs.length ≤ cap ∧ cs.size = cap * es ∧ 0 < es ∧ (∀ x, x ∈ xs → x.width = es) ∧
        Reps Γ (flatL xs) (cs.toList.take (flatL xs).length) ∧ (∀ c, c ∈ cs.toList → c.oneCell' = true) ∧ op.getD xs.length ≤ xs.length ∧ (∀ j, j < op.getD xs.length * es → Γ.M g j = cs[j]?) ∧ ∀ j, op.getD xs.length * es ≤ j → Γ.M g j = none)
  | .mp es => ∃ g ents clock, Γ.mu b = some g ∧ Γ.own g = some b ∧ w.heap[g]? = some (.map ents clock) ∧ ents.size = es.length ∧
      ∀ (i : Nat) (k v : AVal) (e : MapEntry), es[i]? = some (k, v) → ents[i]? = some e → Rep Γ k e.key ∧ Rep Γ v e.val

structure Rel (Γ : Gh) (H : Heap) (w : World) : Prop where
  mem : ∀ g o c, Γ.M g o = some c → w.cell? ⟨g, o, none⟩ = some c
  blk : ∀ (b : Nat) (B : ABlock), H[b]? = some B → OkB Γ w b B
  dom : ∀ b, H.length ≤ b → Γ.mu b = none ∧ ∀ l, Γ.T b l = none
  owned : ∀ g b, Γ.own g = some b → g < w.heap.size

/-- From one state to a later one: what is nobody's stays. -/
structure Stp (Γ : Gh) (w : World) (Γ' : Gh) (w' : World) : Prop where
  le : Γ.le Γ'
  own : ∀ g, g < w.heap.size → Γ.own g = none → Γ'.own g = none
  newM : ∀ g o, g < w.heap.size → Γ.own g = none → Γ'.M g o = Γ.M g o
  size : w.heap.size ≤ w'.heap.size
  heap : ∀ g : Nat, g < w.heap.size → Γ.own g = none → w'.heap[g]? = w.heap[g]?
  os : w'.os = w.os
  tape : w'.tape = w.tape
  output : w'.output = w.output

theorem Stp.refl (Γ : Gh) (w : World) : Stp Γ w Γ w := ⟨.refl Γ, fun _ _ h => h, fun _ _ _ _ => rfl, Nat.le_refl _, fun _ _ _ => rfl, rfl, rfl, rfl⟩
theorem Stp.trans {Γ Γ' Γ'' : Gh} {w w' w'' : World} (h : Stp Γ w Γ' w') (h' : Stp Γ' w' Γ'' w'') : Stp Γ w Γ'' w'' := by
  refine ⟨h.le.trans h'.le, ?_, ?_, Nat.le_trans h.size h'.size, ?_, h'.os.trans h.os, h'.tape.trans h.tape, h'.output.trans h.output⟩
  · intro g hg ho; exact h'.own g (Nat.lt_of_lt_of_le hg h.size) (h.own g hg ho)
  · intro g o hg ho; exact (h'.newM g o (Nat.lt_of_lt_of_le hg h.size) (h.own g hg ho)).trans (h.newM g o hg ho)
  · intro g hg ho; exact (h'.heap g (Nat.lt_of_lt_of_le hg h.size) (h.own g hg ho)).trans (h.heap g hg ho)

/-- A draw counts, and nothing else. -/
theorem Rel.drew {Γ : Gh} {H : Heap} {w : World} (h : Rel Γ H w) (n : Nat) : Rel Γ H { w with drawn := n } :=
  ⟨h.mem, h.blk, h.dom, h.owned⟩
theorem Stp.drew (Γ : Gh) (w : World) (n : Nat) : Stp Γ w Γ { w with drawn := n } := ⟨.refl Γ, fun _ _ h => h, fun _ _ _ _ => rfl, Nat.le_refl _, fun _ _ _ => rfl, rfl, rfl, rfl⟩

end Go.Ev
