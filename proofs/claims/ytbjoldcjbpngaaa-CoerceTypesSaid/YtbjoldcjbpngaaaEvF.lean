/-
  Values without a way into the heap ('shutV'), what slices hold, and the operations that make a block.
-/
import Derived.Test.YtbjoldcjbpngaaaEvE
set_option linter.unusedVariables false
set_option linter.unusedSimpArgs false
namespace Go.Ev
open Go

theorem flatL_append (xs ys : List AVal) : flatL (xs ++ ys) = flatL xs ++ flatL ys := by
  induction xs with
  | nil => rfl
  | cons x xs ih => simp [flatL, ih]

theorem flatL_length {xs : List AVal} {es : Nat} (h : ∀ x, x ∈ xs → x.width = es) : (flatL xs).length = xs.length * es := by
  induction xs with
  | nil => simp [flatL]
  | cons x xs ih =>
    simp only [flatL, List.length_append, List.length_cons]
    rw [ih (fun y hy => h y (by simp [hy]))]
    have : x.flat.length = es := h x (by simp)
    rw [this, Nat.add_mul]; omega

theorem flatL_get {xs : List AVal} {es n : Nat} {y : AVal} (h : ∀ x, x ∈ xs → x.width = es) (hn : xs[n]? = some y) {j : Nat} {c : AVal} (hj : y.flat[j]? = some c) : (flatL xs)[n * es + j]? = some c := by
  induction xs generalizing n with
  | nil => simp at hn
  | cons x xs ih =>
    have hx : x.flat.length = es := h x (by simp)
    cases n with
    | zero =>
      simp at hn; subst hn
      simp only [flatL, Nat.zero_mul, Nat.zero_add]
      rw [List.getElem?_append_left (by rw [hx]; have := (List.getElem?_eq_some_iff.1 hj).1; rw [hx] at this; exact this)]
      exact hj
    | succ n =>
      simp at hn
      simp only [flatL]
      have e : (n + 1) * es + j = es + (n * es + j) := by rw [Nat.add_mul]; omega
      rw [e, List.getElem?_append_right (by omega), hx]
      rw [show es + (n * es + j) - es = n * es + j by omega]
      exact ih (fun y hy => h y (by simp [hy])) hn

theorem flatL_take {xs : List AVal} {es : Nat} (h : ∀ x, x ∈ xs → x.width = es) (n : Nat) : flatL (xs.take n) = (flatL xs).take (n * es) := by
  induction xs generalizing n with
  | nil => simp [flatL]
  | cons x xs ih =>
    have hx : x.flat.length = es := h x (by simp)
    cases n with
    | zero => simp [flatL]
    | succ n =>
      simp only [List.take_succ_cons, flatL]
      rw [ih (fun y hy => h y (by simp [hy])), List.take_append]
      rw [hx, show (n + 1) * es - es = n * es by rw [Nat.add_mul]; omega]
      rw [List.take_of_length_le (l := x.flat) (by rw [hx, Nat.add_mul]; omega)]

theorem flatL_drop {xs : List AVal} {es : Nat} (h : ∀ x, x ∈ xs → x.width = es) (n : Nat) : flatL (xs.drop n) = (flatL xs).drop (n * es) := by
  induction xs generalizing n with
  | nil => simp [flatL]
  | cons x xs ih =>
    have hx : x.flat.length = es := h x (by simp)
    cases n with
    | zero => simp
    | succ n =>
      simp only [List.drop_succ_cons, flatL]
      rw [ih (fun y hy => h y (by simp [hy])), List.drop_append]
      rw [hx, show (n + 1) * es - es = n * es by rw [Nat.add_mul]; omega]
      rw [List.drop_of_length_le (l := x.flat) (by rw [hx, Nat.add_mul]; omega)]
      simp

theorem width_all {es : Nat} {xs : List AVal} (h : xs.all (fun y => decide (y.width = es)) = true) : ∀ x, x ∈ xs → x.width = es := by
  intro x hx
  simpa using List.all_eq_true.1 h x hx

/-- A growing list, as one that is read. -/
theorem grow_lst {Γ : Gh} {w : World} {b es : Nat} {xs : List AVal} (h : OkB Γ w b (.grow es xs none)) : ∃ c, Γ.T b xs.length = some c ∧ Rep Γ (.lst xs false) c := by
  obtain ⟨c, h1, _, h2, h3⟩ := h
  refine ⟨c, h1, ?_⟩
  rcases h3 with ⟨_, h4⟩ | ⟨g, cap, cs, ty, rfl, e2, e3, e4, e5, e6, e7, e8, e9, e10, e11, e12⟩
  · rcases h4.lst_inv with ⟨rfl, base, cap, rfl, hE⟩ | ⟨g, off, cap, es, f, rfl, k1, k2, k3, k4, k5, k6, k7⟩
    · exact Rep.emp (hE.imp id fun h => ⟨h.1, by simp⟩)
    · exact .lst f k1 (by simp) k3 k4 k5 k6 k7
  · have hfl := flatL_length e7
    simp only [Option.getD_none] at e10 e11 e12
    have get : ∀ (j : Nat) (c : AVal), (flatL xs)[j]? = some c → ∃ d, cs[j]? = some d ∧ Γ.M g (0 + j) = some d ∧ d.oneCell' = true ∧ Rep Γ c d := by
      intro j c hj
      obtain ⟨d, hd, hr⟩ := e8.get hj
      have hlt : j < (flatL xs).length := (List.getElem?_eq_some_iff.1 hj).1
      rw [List.getElem?_take, if_pos hlt] at hd
      have hd' : cs[j]? = some d := by simpa using hd
      refine ⟨d, hd', ?_, e9 d (List.mem_of_getElem? hd), hr⟩
      rw [Nat.zero_add, e11 j (by omega), hd']
    refine .lst (fun j => cs.getD j undef) e4 (by simp) e7 h2 ?_ ?_ ?_
    · intro j c hj
      obtain ⟨d, hd, hm, _, _⟩ := get j c hj
      rw [hm]; simp [Array.getD_eq_getD_getElem?, hd]
    · intro j c hj
      obtain ⟨d, hd, _, h1, _⟩ := get j c hj
      simp [Array.getD_eq_getD_getElem?, hd, h1]
    · intro j c hj
      obtain ⟨d, hd, _, _, hr⟩ := get j c hj
      simpa [Array.getD_eq_getD_getElem?, hd] using hr

theorem Rep.lst_false {Γ : Gh} {xs : List AVal} {e : Bool} {c : Value} (h : Rep Γ (.lst xs e) c) : Rep Γ (.lst xs false) c := by
  rcases h.lst_inv with ⟨rfl, base, cap, rfl, hE⟩ | ⟨g, off, cap, es, f, rfl, k1, k2, k3, k4, k5, k6, k7⟩
  · exact Rep.emp (hE.imp id fun h => ⟨h.1, by simp⟩)
  · exact .lst f k1 (by simp) k3 k4 k5 k6 k7

theorem growAt_sound {Γ : Gh} {H : Heap} {w : World} {o len : Nat} {v : AVal} {c : Value} (hR : Rel Γ H w) (h : Rep Γ (.gl o len) c) (hv : growAt H o len = some v) :
    ∃ es xs, v = .lst xs false ∧ xs.length = len ∧ H[o]? = some (.grow es xs none) ∧ Rep Γ v c := by
  unfold growAt at hv
  split at hv
  · rename_i es xs hx
    split at hv
    · rename_i hl
      cases hv
      obtain ⟨c', h1, h2⟩ := grow_lst (hR.blk _ _ hx)
      obtain ⟨ad, cap, rfl, h3, _⟩ := h.gl_inv
      rw [hl] at h1
      rw [h1] at h3
      cases h3
      exact ⟨es, xs, rfl, hl, hx, h2⟩
    · cases hv
  · cases hv

theorem shut_both {Γ : Gh} {H : Heap} {w : World} (hR : Rel Γ H w) : ∀ v, (∀ v' c, shutV H v = some v' → Rep Γ v c → Rep Γ v' c ∧ rfree v' ∧ v'.solid = v.solid) := by
  intro v
  induction v using AVal.rec (motive_2 := fun vs => ∀ vs' cs, shutL H vs = some vs' → Reps Γ vs cs → Reps Γ vs' cs ∧ lowL 0 vs' = true) with
  | nil =>
    rename_i hv hr
    simp [shutL] at hv; subst hv; exact ⟨hr, rfl⟩
  | cons v vs ih1 ih2 =>
    rename_i vs' cs hv hr
    simp only [shutL] at hv
    split at hv
    · rename_i a ha
      split at hv
      · rename_i b hb
        cases hv
        cases cs with
        | nil => have := hr.1; simp at this
        | cons d ds =>
          have h0 : Rep Γ v d := hr.2 0 v d rfl rfl
          have hs : Reps Γ vs ds := ⟨by simpa using hr.1, fun i x y hx hy => hr.2 (i + 1) x y (by simpa using hx) (by simpa using hy)⟩
          have r1 := ih1 a d ha h0
          have r2 := ih2 b ds hb hs
          exact ⟨Reps.cons r1.1 r2.1, by simp only [lowL, Bool.and_eq_true]; exact ⟨r1.2.1, r2.2⟩⟩
      · cases hv
    · cases hv
  | int k n => intro v' c hv hr; simp [shutV] at hv; subst hv; exact ⟨hr, rfl, rfl⟩
  | bool b => intro v' c hv hr; simp [shutV] at hv; subst hv; exact ⟨hr, rfl, rfl⟩
  | str b => intro v' c hv hr; simp [shutV] at hv; subst hv; exact ⟨hr, rfl, rfl⟩
  | nilp => intro v' c hv hr; simp [shutV] at hv; subst hv; exact ⟨hr, rfl, rfl⟩
  | nili => intro v' c hv hr; simp [shutV] at hv; subst hv; exact ⟨hr, rfl, rfl⟩
  | nilf => intro v' c hv hr; simp [shutV] at hv; subst hv; exact ⟨hr, rfl, rfl⟩
  | nilm => intro v' c hv hr; simp [shutV] at hv; subst hv; exact ⟨hr, rfl, rfl⟩
  | ro b => intro v' c hv hr; simp [shutV] at hv; subst hv; exact ⟨hr, rfl, rfl⟩
  | lst xs e => intro v' c hv hr; simp [shutV] at hv; subst hv; exact ⟨hr.lst_false, rfl, rfl⟩
  | gl o len =>
    intro v' c hv hr
    simp only [shutV] at hv
    obtain ⟨_, xs, rfl, _, _, h⟩ := growAt_sound hR hr hv
    exact ⟨h, rfl, rfl⟩
  | agg cs ih =>
    intro v' c hv hr
    simp only [shutV] at hv
    split at hv
    · rename_i cs' hc
      cases hv
      obtain ⟨ds, rfl, hrs, h1⟩ := hr.agg_inv
      obtain ⟨r1, r2⟩ := ih _ _ hc hrs
      exact ⟨.agg r1.1 r1.2 h1, by simpa [rfree, lowV] using r2, rfl⟩
    · cases hv
  | tup cs ih =>
    intro v' c hv hr
    simp only [shutV] at hv
    split at hv
    · rename_i cs' hc
      cases hv
      obtain ⟨ds, rfl, hrs⟩ := hr.tup_inv
      obtain ⟨r1, r2⟩ := ih _ _ hc hrs
      exact ⟨.tup r1.1 r1.2, by simpa [rfree, lowV] using r2, rfl⟩
    · cases hv
  | iface t v ih =>
    intro v' c hv hr
    simp only [shutV] at hv
    split at hv
    · rename_i u hu
      cases hv
      cases hr with | iface _ h =>
      obtain ⟨r1, r2, _⟩ := ih _ _ hu h
      exact ⟨.iface t r1, by simpa [rfree, lowV] using r2, rfl⟩
    · cases hv
  | fn f cs ih =>
    intro v' c hv hr
    simp only [shutV] at hv
    split at hv
    · rename_i cs' hc
      cases hv
      obtain ⟨ds, rfl, hrs⟩ := hr.fn_inv
      obtain ⟨r1, r2⟩ := ih _ _ hc hrs
      exact ⟨.fn f r1.1 r1.2, by simpa [rfree, lowV] using r2, rfl⟩
    · cases hv
  | _ => intro v' c hv hr; simp [shutV] at hv

theorem shutV_sound {Γ : Gh} {H : Heap} {w : World} (hR : Rel Γ H w) {v v' : AVal} {c : Value} (hv : shutV H v = some v') (hr : Rep Γ v c) : Rep Γ v' c ∧ rfree v' := ⟨(shut_both hR v v' c hv hr).1, (shut_both hR v v' c hv hr).2.1⟩

theorem shutL_sound {Γ : Gh} {H : Heap} {w : World} (hR : Rel Γ H w) : ∀ {vs vs' : List AVal} {cs : List Value}, shutL H vs = some vs' → Reps Γ vs cs → Reps Γ vs' cs ∧ ∀ x, x ∈ vs' → rfree x
  | [], vs', cs, hv, hr => by simp [shutL] at hv; subst hv; exact ⟨hr, by simp⟩
  | v :: vs, vs', cs, hv, hr => by
    simp only [shutL] at hv
    split at hv
    · rename_i a ha
      split at hv
      · rename_i b hb
        cases hv
        cases cs with
        | nil => have := hr.1; simp at this
        | cons d ds =>
          have h0 : Rep Γ v d := hr.2 0 v d rfl rfl
          have hs : Reps Γ vs ds := ⟨by simpa using hr.1, fun i x y hx hy => hr.2 (i + 1) x y (by simpa using hx) (by simpa using hy)⟩
          have r1 := shutV_sound hR ha h0
          have r2 := shutL_sound hR hb hs
          refine ⟨Reps.cons r1.1 r2.1, ?_⟩
          intro x hx
          simp only [List.mem_cons] at hx
          rcases hx with rfl | hx
          · exact r1.2
          · exact r2.2 x hx
      · cases hv
    · cases hv

end Go.Ev
