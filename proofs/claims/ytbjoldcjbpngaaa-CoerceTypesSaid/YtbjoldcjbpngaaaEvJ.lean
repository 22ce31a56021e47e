/-
  Appending: in the model as the evaluator says.
-/
import Derived.Test.YtbjoldcjbpngaaaEvI
set_option linter.unusedVariables false
set_option linter.unusedSimpArgs false
namespace Go.Ev
open Go

section
variable {P : Program} {Γ : Gh} {e : Env} {a : Act}

theorem isIntB_true {u : TypeId} (h : isIntB P u = some true) : ∃ k, P.underlying u = some (.int k) := by
  unfold isIntB at h
  split at h <;> first | (rename_i k hu; exact ⟨k, hu⟩) | cases h

theorem isIntB_false {u : TypeId} (h : isIntB P u = some false) : (∃ k, P.underlying u = some (.slice k)) ∨ P.underlying u = some .string := by
  unfold isIntB at h
  split at h
  · cases h
  · rename_i k hu; exact .inl ⟨k, hu⟩
  · rename_i hu; exact .inr hu
  · cases h

theorem zlenB_some {t es : Nat} (h : zlenB P t es = true) : ∃ i z, P.info? t = some i ∧ i.zero = some z ∧ z.cells.size = es ∧ ∀ c, c ∈ z.cells.toList → c.oneCell' = true := by
  unfold zlenB at h
  split at h
  · rename_i i hi
    split at h
    · rename_i z hz
      simp only [Bool.and_eq_true] at h
      exact ⟨i, z, hi, hz, by simpa using h.1, List.all_eq_true.1 h.2⟩
    · cases h
  · cases h

theorem run_append_new {w : World} {t u ty el : TypeId} {i : TypeInfo} {z : Value} {base : Option Addr} {sLen sCap n : Nat} {cx : Value} {olds news : List Value}
    (ht : P.underlying t = some (.slice el)) (hu : (∃ k, P.underlying u = some (.slice k)) ∨ P.underlying u = some .string) (hi : P.info? el = some i) (hz : i.zero = some z)
    (hlen : (Builtin.lenOf cx).run P w = .ok n w) (hold : (Builtin.firstCells i.size sLen (.slice base sLen sCap)).run P w.drew = .ok olds.toArray w.drew) (hnew : (Builtin.firstCells i.size n cx).run P w.drew = .ok news.toArray w.drew)
    (hgt : sCap < sLen + n) (hb : (sLen + n) * i.bytes ≤ 140737488355328) (hb0 : 0 < i.bytes) :
    ∃ cap, sLen + n ≤ cap ∧ (Builtin.append_ #[t, u] ty #[.slice base sLen sCap, cx]).run P w =
      .ok (.slice (some ⟨w.heap.size, 0, none⟩) (sLen + n) cap) (w.drew.alloc (.cells (olds.toArray ++ news.toArray ++ Builtin.zeroCells z.cells (cap - (sLen + n))) el)) := by
  have hn : ¬ (sLen + n ≤ sCap) := by omega
  have hsmall : sLen + n ≤ 140737488355328 := Nat.le_trans (Nat.le_mul_of_pos_right _ hb0) hb
  have h63' : ¬ (9223372036854775807 < ((sLen : Int) + (n : Int))) := by omega
  have hfit := growslice_fits (old := sCap) hgt hb
  have h48' : ¬ (281474976710656 < Builtin.nextslicecap (sLen + n) sCap * i.bytes) := by omega
  refine ⟨grownCap w (sLen + n) sCap el, ?_, ?_⟩
  · unfold grownCap Question.cut; simp
  · have hmax : IntKind.i64.max = 9223372036854775807 := by decide
    rcases hu with ⟨k, hu⟩ | hu
    all_goals
      simp [Builtin.append_, run_underlying ht, run_underlying hu, sizeOf, run_typeInfo _ hi, zeroValue, hz, hlen, hn, h63', h48', hmax, Question.forced, hold, hnew, newRow, grownCap]
      congr 2
      apply Array.ext'
      simp [List.append_assoc]

theorem run_append_stay {w : World} {t u ty el : TypeId} {i : TypeInfo} {base : Option Addr} {sLen sCap : Nat} {cx : Value}
    (ht : P.underlying t = some (.slice el)) (hu : (∃ k, P.underlying u = some (.slice k)) ∨ P.underlying u = some .string) (hi : P.info? el = some i)
    (hlen : (Builtin.lenOf cx).run P w = .ok 0 w) (hnew : (Builtin.firstCells i.size 0 cx).run P w = .ok #[] w) (hle : sLen ≤ sCap) :
    (Builtin.append_ #[t, u] ty #[.slice base sLen sCap, cx]).run P w = .ok (.slice base sLen sCap) w := by
  rcases hu with ⟨k, hu⟩ | hu
  all_goals
    cases base <;> simp [Builtin.append_, run_underlying ht, run_underlying hu, sizeOf, run_typeInfo _ hi, hlen, hle, hnew, storeCells]

theorem run_append_at {w : World} {t u ty el : TypeId} {i : TypeInfo} {g sLen sCap n : Nat} {cx : Value} {news : List Value} {cs : Array Value} {ct : TypeId}
    (ht : P.underlying t = some (.slice el)) (hu : (∃ k, P.underlying u = some (.slice k)) ∨ P.underlying u = some .string) (hi : P.info? el = some i)
    (hlen : (Builtin.lenOf cx).run P w = .ok n w) (hnew : (Builtin.firstCells i.size n cx).run P w = .ok news.toArray w) (hle : sLen + n ≤ sCap)
    (hg : w.heap[g]? = some (.cells cs ct (0, 0))) (hfit : sLen * i.size + news.length ≤ cs.size) (h1 : ∀ d, d ∈ news → d.oneCell' = true) :
    (Builtin.append_ #[t, u] ty #[.slice (some ⟨g, 0, none⟩) sLen sCap, cx]).run P w = .ok (.slice (some ⟨g, 0, none⟩) (sLen + n) sCap) (w.setRow g (putCells (sLen * i.size) news cs.toList).toArray) := by
  have hst := run_storeCells_at P g (sLen * i.size) ct news 0 cs w hg (by simpa using hfit) h1
  simp only [Nat.add_zero] at hst
  have hadd := addr_add g 0 (sLen * i.size)
  simp only [Nat.zero_add] at hadd
  rcases hu with ⟨k, hu⟩ | hu
  all_goals
    simp [Builtin.append_, run_underlying ht, run_underlying hu, sizeOf, run_typeInfo _ hi, hlen, hle, hnew, hadd, hst, putCells]

/-- The ghost with a growing list's new place. -/
def Gh.list (Γ : Gh) (b g n : Nat) (c : Value) (lim : Nat) (cs : Array Value) : Gh :=
  { M := fun k j => if k = g then (if j < lim then cs[j]? else none) else Γ.M k j, mu := Γ.mu, T := fun o l => if o = b ∧ l = n then some c else Γ.T o l, own := fun k => if k = g then some b else Γ.own k }

theorem Rel.listNew {H H' : Heap} {w : World} {b cap es : Nat} {xs : List AVal} {op : Option Nat} {cs : Array Value} {el : TypeId} (hR : Rel Γ H w) (hH1 : H'[b]? = some (.grow es xs op)) (hH2 : ∀ k, k ≠ b → H'[k]? = H[k]?)
    (hH3 : ∀ k, H'.length ≤ k → H.length ≤ k ∧ k ≠ b) (hT : ∀ l, xs.length ≤ l → Γ.T b l = none) (hf : ∀ x, x ∈ xs → rfree x) (hw : ∀ x, x ∈ xs → x.width = es) (hes : 0 < es) (hsz : cs.size = cap * es) (hcap : xs.length ≤ cap)
    (hr : Reps Γ (flatL xs) (cs.toList.take (flatL xs).length)) (h1 : ∀ c, c ∈ cs.toList → c.oneCell' = true) (hop : op.getD xs.length ≤ xs.length) :
    Rel (Γ.list b w.heap.size xs.length (.slice (some ⟨w.heap.size, 0, none⟩) xs.length cap) (op.getD xs.length * es) cs) H' (w.alloc (.cells cs el)) ∧
    Stp Γ w (Γ.list b w.heap.size xs.length (.slice (some ⟨w.heap.size, 0, none⟩) xs.length cap) (op.getD xs.length * es) cs) (w.alloc (.cells cs el)) := by
  generalize hc : Value.slice (some ⟨w.heap.size, 0, none⟩) xs.length cap = c
  generalize hΓ : Γ.list b w.heap.size xs.length c (op.getD xs.length * es) cs = Γ'
  have hle : Γ.le Γ' := by
    subst hΓ
    refine ⟨?_, fun _ _ h => h, ?_⟩
    · intro g j d h
      have := hR.memLt h
      simp only [Gh.list]
      rw [if_neg (by omega)]; exact h
    · intro o l d h
      simp only [Gh.list]
      split
      · rename_i e; rw [e.1, e.2, hT _ (Nat.le_refl _)] at h; cases h
      · exact h
  refine ⟨⟨?_, ?_, ?_, ?_⟩, ⟨hle, ?_, ?_, by simp, fun g hg _ => heap_push_lt w _ hg, rfl, rfl, rfl⟩⟩
  · intro g j d h
    subst hΓ
    simp only [Gh.list] at h
    split at h
    · rename_i e; subst e
      rw [cell_at (heap_push_new w _)]
      split at h
      · exact h
      · cases h
    · rw [cell_alloc_lt w _ (hR.memLt h)]; exact hR.mem g j d h
  · intro k B hk
    by_cases e : k = b
    · subst e
      rw [hH1] at hk
      cases hk
      refine ⟨c, by subst hΓ; simp [Gh.list], ?_, hf, .inr ⟨w.heap.size, cap, cs, el, hc.symm, by subst hΓ; simp [Gh.list], heap_push_new w _, hcap, hsz, hes, hw, hr.mono hle, h1, hop, ?_, ?_⟩⟩
      · intro l hl
        subst hΓ
        simp only [Gh.list]
        rw [if_neg (by omega)]
        exact hT l (by omega)
      · intro j hj; subst hΓ; simp [Gh.list, hj]
      · intro j hj; subst hΓ; simp only [Gh.list, if_true]; rw [if_neg (by omega)]
    · rw [hH2 k e] at hk
      refine (hR.blk k B hk).step hle ?_ ?_
      · intro g hg
        have hlt := hR.owned g k hg
        subst hΓ
        refine ⟨?_, heap_push_lt w _ hlt, ?_⟩
        · simp only [Gh.list]; rw [if_neg (by omega)]; exact hg
        · intro o; simp only [Gh.list]; rw [if_neg (by omega)]
      · subst hΓ
        exact ⟨rfl, fun l => by simp only [Gh.list]; rw [if_neg (by intro h; exact e h.1)]⟩
  · intro k hk
    obtain ⟨h2, h3⟩ := hH3 k hk
    obtain ⟨d1, d2⟩ := hR.dom k h2
    subst hΓ
    exact ⟨d1, fun l => by simp only [Gh.list]; rw [if_neg (by intro h; exact h3 h.1)]; exact d2 l⟩
  · intro g k hk
    subst hΓ
    simp only [Gh.list] at hk
    split at hk
    · rename_i e; subst e; simp
    · have := hR.owned g k hk; simp; omega
  · intro g hg ho
    subst hΓ
    simp only [Gh.list]; rw [if_neg (by omega)]; exact ho
  · intro g o hg _
    subst hΓ
    simp only [Gh.list]; rw [if_neg (by omega)]

theorem size_zeroCells' (z : Array Value) (n : Nat) : (Builtin.zeroCells z n).size = n * z.size := by simp [Builtin.zeroCells]

theorem zeroCells_one {z : Array Value} (h : ∀ c, c ∈ z.toList → c.oneCell' = true) (n : Nat) : ∀ c, c ∈ (Builtin.zeroCells z n).toList → c.oneCell' = true := by
  have : (Builtin.zeroCells z n).toList = (List.replicate n z.toList).flatten := by
    rw [← zeros_eq]; rfl
  rw [this]
  exact one_flatten h n

theorem Rep.lst_slice {xs : List AVal} {ee : Bool} {c : Value} (h : Rep Γ (.lst xs ee) c) : ∃ base cap, c = .slice base xs.length cap ∧ xs.length ≤ cap ∧ (ee = true → cap = xs.length) := by
  rcases h.lst_inv with ⟨rfl, base, cap, rfl, hE⟩ | ⟨g, off, cap, es, f, rfl, k1, k2, _⟩
  · exact ⟨base, cap, rfl, Nat.zero_le _, fun h => hE.elim (fun x => x.2) (fun x => x.2 h)⟩
  · exact ⟨_, cap, rfl, k1, k2⟩

/-- The new block of an append. -/
theorem append_new {w : World} {t u ty el : TypeId} {i : TypeInfo} {z : Value} {H H' : Heap} {b es sCap : Nat} {base : Option Addr} {xs ys : List AVal} {op : Option Nat} {x : AVal} {cx : Value} {ee : Bool}
    (hR : Rel Γ H w) (ht : P.underlying t = some (.slice el)) (hu : (∃ k, P.underlying u = some (.slice k)) ∨ P.underlying u = some .string) (hi : P.info? el = some i) (hz : i.zero = some z) (hzs : z.cells.size = es) (hz1 : ∀ c, c ∈ z.cells.toList → c.oneCell' = true)
    (his : i.size = es) (hes : 0 < es) (hb0 : 0 < i.bytes) (hs : Rep Γ (.lst xs ee) (.slice base xs.length sCap)) (hel : elemsOf H x = some ys) (hrx : Rep Γ x cx)
    (hwx : ∀ y, y ∈ xs → y.width = es) (hwy : ∀ y, y ∈ ys → y.width = es) (hgt : sCap < xs.length + ys.length) (hbd : (xs.length + ys.length) * i.bytes ≤ 140737488355328)
    (hH1 : H'[b]? = some (.grow es (xs ++ ys) op)) (hH2 : ∀ k, k ≠ b → H'[k]? = H[k]?) (hH3 : ∀ k, H'.length ≤ k → H.length ≤ k ∧ k ≠ b) (hT : ∀ l, xs.length < l → Γ.T b l = none) (hop : op.getD (xs ++ ys).length ≤ (xs ++ ys).length) (hfx : ∀ y, y ∈ xs → rfree y) (hne : ys ≠ []) :
    ∃ c w' Γ', (Builtin.append_ #[t, u] ty #[.slice base xs.length sCap, cx]).run P w = .ok c w' ∧ Rep Γ' (.gl b (xs.length + ys.length)) c ∧ Rel Γ' H' w' ∧ Stp Γ w Γ' w' := by
  have hRd : Rel Γ H w.drew := hR.drew _
  obtain ⟨dy, hy⟩ := elems_sound (P := P) hRd hel hrx
  obtain ⟨dy', hy'⟩ := elems_sound (P := P) hR hel hrx
  obtain ⟨dx, hx⟩ := lst_holds (P := P) hRd hs
  have hlx : dx.length = xs.length * es := by rw [hx.reps.1, flatL_length hwx]
  have hly : dy.length = ys.length * es := by rw [hy.reps.1, flatL_length hwy]
  have fx := hx.first es xs.length hwx (Nat.le_refl _)
  have fy := hy.first es ys.length hwy (Nat.le_refl _)
  rw [List.take_of_length_le (by omega)] at fx fy
  obtain ⟨cap, hcap, hrun⟩ := run_append_new (P := P) (ty := ty) ht hu hi hz hy'.len (his ▸ fx) (his ▸ fy) hgt hbd hb0
  have hlen : (xs ++ ys).length = xs.length + ys.length := List.length_append
  have hpos : 0 < ys.length := by cases ys with
    | nil => exact absurd rfl hne
    | cons => simp
  have hw : ∀ y, y ∈ xs ++ ys → y.width = es := by
    intro y hy; simp only [List.mem_append] at hy; rcases hy with hy | hy
    · exact hwx y hy
    · exact hwy y hy
  have hfr : ∀ y, y ∈ xs ++ ys → rfree y := by
    intro y hm; simp only [List.mem_append] at hm; rcases hm with hy | hy
    · exact hfx y hy
    · exact hy'.free y hy
  have hfl := flatL_length hw
  let cs : Array Value := dx.toArray ++ dy.toArray ++ Builtin.zeroCells z.cells (cap - (xs.length + ys.length))
  have hcsl : cs.toList = dx ++ dy ++ (Builtin.zeroCells z.cells (cap - (xs.length + ys.length))).toList := by simp [cs]
  have hcs : cs.size = cap * es := by
    have : cs.size = dx.length + dy.length + (cap - (xs.length + ys.length)) * es := by
      simp [cs, size_zeroCells', hzs]; omega
    rw [this, hlx, hly, ← Nat.add_mul, ← Nat.add_mul]
    congr 1; omega
  have hreps : Reps Γ (flatL (xs ++ ys)) (cs.toList.take (flatL (xs ++ ys)).length) := by
    have h2 := hx.reps.append hy.reps
    rw [flatL_append, hcsl, List.take_left' (by rw [← h2.1])]
    exact h2
  have h1 : ∀ c, c ∈ cs.toList → c.oneCell' = true := by
    intro c hc
    rw [hcsl] at hc
    simp only [List.mem_append] at hc
    rcases hc with (hc | hc) | hc
    · exact hx.one c hc
    · exact hy.one c hc
    · exact zeroCells_one hz1 _ c hc
  obtain ⟨r1, r2⟩ := hRd.listNew (cap := cap) (es := es) (cs := cs) (el := el) hH1 hH2 hH3 (fun l hl => hT l (by omega)) hfr hw hes hcs (by omega) hreps h1 hop
  have hsz : w.drew.heap.size = w.heap.size := rfl
  refine ⟨_, _, _, hrun, ?_, r1, (Stp.drew Γ w _).trans r2⟩
  rw [hlen]
  refine .gl ?_ (fun _ => rfl)
  simp only [Gh.list, hlen, hsz, and_self, if_true]

theorem newAt_lookups {H H' : Heap} {id : Nat} {B : ABlock} (h : newAt H id B = some H') : H'[id]? = some B ∧ (∀ k, k ≠ id → H'[k]? = H[k]?) ∧ (∀ k, H'.length ≤ k → H.length ≤ k ∧ k ≠ id) := by
  have := newAt_spec h
  exact ⟨this.1, this.2.1, this.2.2.2.2.1⟩

theorem set_lookups {H : Heap} {b : Nat} {B0 B : ABlock} (h : H[b]? = some B0) : (H.set b B)[b]? = some B ∧ (∀ k, k ≠ b → (H.set b B)[k]? = H[k]?) ∧ (∀ k, (H.set b B).length ≤ k → H.length ≤ k ∧ k ≠ b) := by
  have hlt := (List.getElem?_eq_some_iff.1 h).1
  refine ⟨List.getElem?_set_self hlt, fun k hk => List.getElem?_set_ne (Ne.symm hk), fun k hk => ?_⟩
  simp at hk
  omega

theorem app_sound {o : Oper} {C : Ctx} {id es bytes : Nat} {opn : Bool} {s x : AOpd} {v : AVal} {H H' : Heap} {w : World} (he : EnvRel Γ e a.tmps) (hR : Rel Γ H w) (hk : chkH P (.app es bytes opn s x) o.op = true)
    (hv : evH C e id H (.app es bytes opn s x) = some (.ok v, H')) : Done P o a w Γ v H' := by
  obtain ⟨dst, op, ty, pos, after, guard⟩ := o
  simp only at hk
  cases op <;> simp only [chkH, Bool.false_eq_true, Bool.and_eq_true, decide_eq_true_eq] at hk
  rename_i c
  obtain ⟨⟨⟨⟨hb, ha⟩, hes⟩, hby0⟩, ht⟩ := hk
  have hcal : c.callee = .builtin .append := by
    unfold builtinB at hb
    split at hb
    · rename_i b hb'; simp at hb; rw [hb', hb]
    · cases hb
  unfold args2 at ha
  split at ha <;> first | (cases ha; done) | skip
  rename_i s' x' hargs
  simp only [Bool.and_eq_true] at ha
  split at ht <;> first | (cases ht; done) | skip
  rename_i t u hts
  simp only [Bool.and_eq_true, decide_eq_true_eq] at ht
  obtain ⟨hu, hel⟩ := ht
  obtain ⟨el, htu, hq⟩ := elemB_some hel
  simp only [Bool.and_eq_true] at hq
  obtain ⟨⟨hsz, hby⟩, hz⟩ := hq
  obtain ⟨i, hi, his⟩ := sizeB_some hsz
  obtain ⟨i2, hi2, hib⟩ := bytesB_some hby
  rw [hi] at hi2; cases hi2
  obtain ⟨i3, z, hi3, hzv, hzs, hz1⟩ := zlenB_some hz
  rw [hi] at hi3; cases hi3
  have hu' := isIntB_false hu
  have hrun : ∀ (c' : Value) (w' : World), (Builtin.append_ #[t, u] ty #[a.eval s', a.eval x']).run P w = .ok c' w' →
      (execOp a.eval { dst, op := .call c, type := ty, pos, after, guard }).run P w = .ok (.value c') w' := by
    intro c' w' h
    have e1 : c.args.map a.eval = #[a.eval s', a.eval x'] := by
      apply Array.ext'; simp [hargs]
    have e2 : c.argTypes = #[t, u] := by apply Array.ext'; simpa using hts
    simp only [execOp, resolve, hcal, e1, e2, Sem.run_bind, Sem.run_pure, Result.andThen_ok, invoke, builtin, h]
  simp only [evH] at hv
  split at hv <;> first | (cases hv; done) | skip
  rename_i sv xv hs hx
  have hrs := ev_rep he ha.1 hs
  have hrx := ev_rep he ha.2 hx
  split at hv <;> first | (cases hv; done) | skip
  rename_i rv H1 happ
  simp only [Option.some.injEq, Prod.mk.injEq, Ex.ok.injEq] at hv
  obtain ⟨rfl, rfl⟩ := hv
  unfold appendA at happ
  split at happ <;> first | (cases happ; done) | skip
  rename_i ys hel0
  split at happ <;> first | (cases happ; done) | skip
  rename_i hall
  have hwy := width_all hall
  obtain ⟨dy, hy⟩ := elems_sound (P := P) hR hel0 hrx
  have stay : ∀ base cap (l : Nat), a.eval s' = .slice base l cap → l ≤ cap → ys = [] → (Builtin.append_ #[t, u] ty #[a.eval s', a.eval x']).run P w = .ok (a.eval s') w := by
    intro base cap l h1 h2 h3
    subst h3
    rw [h1]
    exact run_append_stay htu hu' hi hy.len (by have := hy.first i.size 0 (by simp) (Nat.zero_le _); simpa using this) h2
  split at happ
  · rename_i xs ee
    obtain ⟨base, cap, hcs, hle, hex⟩ := hrs.lst_slice
    split at happ
    · rename_i hemp
      cases happ
      have hys : ys = [] := by simpa using hemp
      exact Done.same hR (hrun _ _ (stay base cap _ hcs hle hys)) hrs
    · rename_i hemp
      split at happ <;> first | (cases happ; done) | skip
      rename_i hcond
      split at happ <;> first | (cases happ; done) | skip
      rename_i H2 hnew
      cases happ
      obtain ⟨h1, h2, h3⟩ := newAt_lookups hnew
      have hfr := newAt_fresh hR hnew
      have hne : ys ≠ [] := by simpa using hemp
      have hpos : 0 < ys.length := List.length_pos_iff.2 hne
      have hxf : ∀ y, y ∈ xs → rfree y := by
        rcases hrs.lst_inv with ⟨rfl, _⟩ | ⟨_, _, _, _, _, _, _, _, _, k4, _⟩
        · simp
        · exact k4
      rw [hcs] at hrs
      obtain ⟨c', w', Γ', r1, r2, r3, r4⟩ := append_new (P := P) (t := t) (u := u) (ty := ty) (ee := ee) (b := id) (es := es) (op := if opn then some xs.length else none) hR htu hu' hi hzv hzs hz1 his hes (by omega) hrs hel0 hrx
        (width_all hcond.2.1) hwy (by rw [hex hcond.1]; omega) (by rw [hib]; exact hcond.2.2) h1 h2 h3 (fun l _ => hfr.2 l) (by cases opn <;> simp) hxf hne
      refine ⟨_, _, _, _, hrun _ _ (hcs ▸ r1), .inl rfl, r2, r3, r4⟩
  · rename_i ol len
    split at happ <;> first | (cases happ; done) | skip
    rename_i es0 xs hb'
    split at happ <;> first | (cases happ; done) | skip
    rename_i hcond
    obtain ⟨hlen, hes0, hallx⟩ := hcond
    subst hlen
    obtain ⟨c0, k1, k0, k2, k3⟩ := hR.blk _ _ hb'
    obtain ⟨ad, cap0, hcs, hT, had⟩ := hrs.gl_inv
    rw [hcs] at hT
    rw [k1] at hT
    cases hT
    obtain ⟨c1, k1', hlst⟩ := grow_lst (hR.blk _ _ hb')
    rw [k1] at k1'
    cases k1'
    obtain ⟨_, _, e1, hle, _⟩ := hlst.lst_slice
    cases e1
    split at happ
    · rename_i hemp
      cases happ
      have hys : ys = [] := by simpa using hemp
      exact Done.same hR (hrun _ _ (stay ad cap0 _ hcs hle hys)) hrs
    · rename_i hemp
      split at happ <;> first | (cases happ; done) | skip
      rename_i hbd
      cases happ
      have hne : ys ≠ [] := by simpa using hemp
      have hpos : 0 < ys.length := List.length_pos_iff.2 hne
      obtain ⟨h1, h2, h3⟩ := set_lookups (B := .grow es (xs ++ ys) (if opn then some xs.length else none)) hb'
      by_cases hroom : xs.length + ys.length ≤ cap0
      · rcases k3 with ⟨_, hex⟩ | ⟨g, cap, cs, cty, e1, e2, e3, e4, e5, e6, e7, e8, e9, e10, e11, e12⟩
        · obtain ⟨_, _, e1, _, hcl⟩ := hex.lst_slice
          cases e1
          have := hcl rfl
          omega
        · cases e1
          have hes' : es0 = es := by rcases hes0 with h | h <;> omega
          subst hes'
          have hly : dy.length = ys.length * es0 := by rw [hy.reps.1, flatL_length hwy]
          have fy := hy.first es0 ys.length hwy (Nat.le_refl _)
          rw [List.take_of_length_le (by omega)] at fy
          have hfit : xs.length * es0 + dy.length ≤ cs.size := by rw [hly, e5, ← Nat.add_mul]; exact Nat.mul_le_mul_right _ hroom
          have hrun' := run_append_at (P := P) (ty := ty) htu hu' hi hy.len (his ▸ fy) hroom e3 (by rw [his]; exact hfit) hy.one
          rw [his] at hrun'
          have hw2 : ∀ y, y ∈ xs ++ ys → y.width = es0 := by
            intro y hm; simp only [List.mem_append] at hm; rcases hm with hm | hm
            · exact e7 y hm
            · exact hwy y hm
          have hfr2 : ∀ y, y ∈ xs ++ ys → rfree y := by
            intro y hm; simp only [List.mem_append] at hm; rcases hm with hm | hm
            · exact k2 y hm
            · exact hy.free y hm
          have hlen2 : (xs ++ ys).length = xs.length + ys.length := List.length_append
          let cs' : Array Value := (putCells (xs.length * es0) dy cs.toList).toArray
          have hcs' : cs'.toList = putCells (xs.length * es0) dy cs.toList := by simp [cs']
          have hsz' : cs'.size = cs.size := by
            have := putCells_length (xs.length * es0) dy cs.toList (by simpa using hfit)
            simpa [cs'] using this
          have hold : ∀ j, j < xs.length * es0 → cs'[j]? = cs[j]? := by
            intro j hj
            have : cs'.toList[j]? = cs.toList[j]? := by
              rw [hcs', putCells_get (by simpa using hfit), if_pos hj]
            simpa using this
          have hop2 : (if opn then some xs.length else none : Option Nat).getD (xs ++ ys).length ≤ (xs ++ ys).length := by cases opn <;> simp
          have hop3 : xs.length ≤ (if opn then some xs.length else none : Option Nat).getD (xs ++ ys).length := by cases opn <;> simp
          generalize hopq : (if opn then some xs.length else none : Option Nat) = opq at hop2 hop3
          simp only [Option.getD_none] at e10 e11 e12
          have hfl := flatL_length e7
          have hfl2 := flatL_length hw2
          generalize hΓ : Γ.list ol g (xs ++ ys).length (.slice (some ⟨g, 0, none⟩) (xs ++ ys).length cap0) (opq.getD (xs ++ ys).length * es0) cs' = Γ'
          have hle' : Γ.le Γ' := by
            subst hΓ
            refine ⟨?_, fun _ _ h => h, ?_⟩
            · intro k j d hm
              simp only [Gh.list]
              split
              · rename_i ek; subst ek
                by_cases hj : j < xs.length * es0
                · have : xs.length * es0 ≤ opq.getD (xs ++ ys).length * es0 := Nat.mul_le_mul_right _ hop3
                  rw [if_pos (by omega), hold j hj, ← e11 j hj]; exact hm
                · rw [e12 j (by omega)] at hm; cases hm
              · exact hm
            · intro o l d h
              simp only [Gh.list]
              split
              · rename_i ee; rw [ee.1, ee.2, k0 _ (by omega)] at h; cases h
              · exact h
          have hreps : Reps Γ (flatL (xs ++ ys)) (cs'.toList.take (flatL (xs ++ ys)).length) := by
            have h2 := e8.append hy.reps
            rw [flatL_append]
            have : cs'.toList.take (flatL xs ++ flatL ys).length = cs.toList.take (flatL xs).length ++ dy := by
              rw [hcs', List.length_append, hfl, ← hy.reps.1]
              unfold putCells
              rw [List.take_append_of_le_length (by simp; omega)]
              rw [List.take_of_length_le (by simp; omega)]
            rw [this]; exact h2
          have hown' : ∀ k, Γ'.own k = Γ.own k := by
            intro k; subst hΓ; simp only [Gh.list]; split
            · rename_i ek; subst ek; exact e2.symm
            · rfl
          obtain ⟨r1, r2⟩ := hR.write (Γ' := Γ') (B := .grow es0 (xs ++ ys) opq) (o := .cells cs' cty) (w' := w.setRow g cs') hb' e2 hle' hown' (fun k hk => by subst hΓ; exact ⟨rfl, fun l => by simp only [Gh.list]; rw [if_neg (by intro h; exact hk h.1)]⟩)
            (fun k j hk => by subst hΓ; simp [Gh.list, hk]) (setRow_get_same w g cs cs' cty (0, 0) e3) (fun k hk => setRow_get_other w g k cs' hk) (setRow_size w g cs') rfl rfl rfl
            (fun j c hm => by
              subst hΓ
              simp only [Gh.list, if_true] at hm
              rw [cell_at (setRow_get_same w g cs cs' cty (0, 0) e3)]
              split at hm
              · exact hm
              · cases hm)
            ⟨_, by subst hΓ; simp [Gh.list], (by intro l hl; subst hΓ; simp only [Gh.list]; rw [if_neg (by omega)]; exact k0 l (by omega)), hfr2, .inr ⟨g, cap0, cs', cty, rfl, (hown' g).trans e2, setRow_get_same w g cs cs' cty (0, 0) e3, by omega, hsz'.trans e5, e6, hw2, hreps.mono hle', by
                intro c hc
                rw [hcs'] at hc
                simp only [putCells, List.mem_append] at hc
                rcases hc with (hc | hc) | hc
                · exact e9 c (List.mem_of_mem_take hc)
                · exact hy.one c hc
                · exact e9 c (List.mem_of_mem_drop hc), hop2, fun j hj => by subst hΓ; simp only [Gh.list, if_true]; rw [if_pos hj], fun j hj => by subst hΓ; simp only [Gh.list, if_true]; rw [if_neg (by omega)]⟩⟩
          refine ⟨_, _, _, _, hrun _ _ (hcs ▸ hrun'), .inl rfl, ?_, r1, r2⟩
          refine .gl ?_ (fun _ => rfl)
          subst hΓ
          simp only [Gh.list, hlen2, and_self, if_true]
      · rw [hcs] at hrs
        obtain ⟨c', w', Γ', r1, r2, r3, r4⟩ := append_new (P := P) (t := t) (u := u) (ty := ty) (ee := false) (b := ol) (es := es) (op := if opn then some xs.length else none) hR htu hu' hi hzv hzs hz1 his hes (by omega) hlst hel0 hrx
          (width_all hallx) hwy (by omega) (by rw [hib]; exact hbd) h1 h2 h3 k0 (by cases opn <;> simp) k2 hne
        refine ⟨_, _, _, _, hrun _ _ (hcs ▸ r1), .inl rfl, r2, r3, r4⟩
  · cases happ
end

end Go.Ev
