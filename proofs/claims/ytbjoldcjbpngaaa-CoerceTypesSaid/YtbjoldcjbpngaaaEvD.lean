/-
  Operations that touch no memory do in the model what the evaluator says.
-/
import Derived.Test.YtbjoldcjbpngaaaEvC
set_option linter.unusedVariables false
set_option linter.unusedSimpArgs false
namespace Go.Ev
open Go

section
variable {P : Program} {Γ : Gh} {e : Env} {a : Act}

theorem run_len_arr {t : TypeId} {n m : Nat} {x : Value} {ty : TypeId} {args : Array Value} {ts : Array TypeId} (w : World) (ht : ts[0]? = some t) (hx : args[0]? = some x)
    (h : P.underlying t = some (.array m n) ∨ ∃ e, P.underlying t = some (.pointer e) ∧ P.underlying e = some (.array m n)) :
    (Builtin.len_ ts ty args).run P w = .ok (goInt m) w ∧ (Builtin.cap_ ts ty args).run P w = .ok (goInt m) w := by
  rcases h with h | ⟨e, h, h'⟩
  · simp [Builtin.len_, Builtin.cap_, ht, hx, run_underlying h]
  · simp [Builtin.len_, Builtin.cap_, ht, hx, run_underlying h, run_underlying h']

theorem chkLenC_sound {x : AOpd} {t : TypeId} {v : AVal} (h : chkLenC P x t = true) (hv : x.ev e = some v) :
    ∃ m n, v = .int .i64 (m : Nat) ∧ (P.underlying t = some (.array m n) ∨ ∃ e, P.underlying t = some (.pointer e) ∧ P.underlying e = some (.array m n)) := by
  unfold chkLenC at h
  split at h
  · rename_i n
    simp [AOpd.ev] at hv
    subst hv
    split at h
    · rename_i m k hu
      simp at h; subst h
      exact ⟨m, k, rfl, .inl hu⟩
    · rename_i e' hu
      split at h
      · rename_i m k hu'
        simp at h; subst h
        exact ⟨m, k, rfl, .inr ⟨e', hu, hu'⟩⟩
      · cases h
    · cases h
  · cases h

theorem mv_sound {o : Oper} {x : AOpd} {v : AVal} {w : World} (he : EnvRel Γ e a.tmps) (hk : chkMv P x o.op = true) (hv : x.ev e = some v) :
    ∃ c, (execOp a.eval o).run P w = .ok (.value c) w ∧ Rep Γ v c := by
  obtain ⟨dst, op, ty, pos, after, guard⟩ := o
  simp only at hk ⊢
  unfold chkMv at hk
  split at hk
  · exact ⟨_, rfl, ev_rep he hk hv⟩
  · exact ⟨_, rfl, ev_rep he hk hv⟩
  · rename_i c
    split at hk
    · rename_i hcal
      split at hk
      · rename_i t x0 ht hx0
        obtain ⟨m, n, rfl, hu⟩ := chkLenC_sound hk hv
        refine ⟨goInt m, ?_, .int _ _⟩
        simp only [execOp, resolve, hcal, invoke, builtin]
        have := (run_len_arr (P := P) (ty := ty) (args := c.args.map a.eval) (x := a.eval x0) w ht (by simp [hx0]) hu).1
        simp [this]
      · cases hk
    · rename_i hcal
      split at hk
      · rename_i t x0 ht hx0
        obtain ⟨m, n, rfl, hu⟩ := chkLenC_sound hk hv
        refine ⟨goInt m, ?_, .int _ _⟩
        simp only [execOp, resolve, hcal, invoke, builtin]
        have := (run_len_arr (P := P) (ty := ty) (args := c.args.map a.eval) (x := a.eval x0) w ht (by simp [hx0]) hu).2
        simp [this]
      · cases hk
    · cases hk
  · cases hk

theorem run_bnd {v : AVal} {c : Value} {y n : Nat} (code : BoundsCode) (w : World) (hr : Rep Γ v c) (h : bnd y v = some n) : (Instr.sliceBound c y code).run P w = .ok n w ∧ n ≤ y := by
  cases v <;> simp only [bnd, reduceCtorEq] at h
  rename_i k i
  split at h
  · rename_i hi
    cases h
    cases hr
    refine ⟨by simp [Instr.sliceBound, asIntOf, hi], by omega⟩
  · cases h

theorem run_bounds {b0 : Bool} {len cap l h m : Nat} {lo hi mx : Option AVal} {lo' hi' mx' : Option Operand} (w : World) (hlc : len ≤ cap)
    (h1 : (lo = none ∧ lo' = none) ∨ ∃ u z, lo = some u ∧ lo' = some z ∧ Rep Γ u (a.eval z)) (h2 : (hi = none ∧ hi' = none) ∨ ∃ u z, hi = some u ∧ hi' = some z ∧ Rep Γ u (a.eval z))
    (h3 : (mx = none ∧ mx' = none) ∨ ∃ u z, mx = some u ∧ mx' = some z ∧ Rep Γ u (a.eval z)) (hb : bounds len cap lo hi mx = some (l, h, m)) :
    (Instr.sliceBounds b0 len cap (lo'.map a.eval) (hi'.map a.eval) (mx'.map a.eval)).run P w = .ok (l, h, m) w ∧ l ≤ h ∧ h ≤ m ∧ m ≤ cap := by
  unfold bounds at hb
  split at hb
  · cases hb
  rename_i m' hm
  split at hb
  · cases hb
  rename_i h' hh
  split at hb
  · cases hb
  rename_i l' hl
  cases hb
  have em : (∀ x, mx' = some x → ∀ code, (Instr.sliceBound (a.eval x) cap code).run P w = .ok m w) ∧ (mx' = none → m = cap) ∧ m ≤ cap := by
    rcases h3 with ⟨rfl, rfl⟩ | ⟨u, z, rfl, rfl, hr⟩
    · simp at hm; subst hm; exact ⟨by simp, fun _ => rfl, Nat.le_refl _⟩
    · have := fun code => run_bnd (P := P) code w hr hm
      exact ⟨fun x hx code => by cases hx; exact (this code).1, by simp, (this .index).2⟩
  have eh : (∀ x, hi' = some x → ∀ code, (Instr.sliceBound (a.eval x) m code).run P w = .ok h w) ∧ (hi' = none → h = len ∧ mx' = none) ∧ h ≤ m := by
    rcases h2 with ⟨rfl, rfl⟩ | ⟨u, z, rfl, rfl, hr⟩
    · simp at hh
      obtain ⟨hn, rfl⟩ := hh
      have hmn : mx' = none := by
        rcases h3 with ⟨rfl, rfl⟩ | ⟨u, z, rfl, rfl, hr⟩
        · rfl
        · simp at hn
      refine ⟨by simp, fun _ => ⟨rfl, hmn⟩, ?_⟩
      have := em.2.1 hmn
      omega
    · have := fun code => run_bnd (P := P) code w hr hh
      exact ⟨fun x hx code => by cases hx; exact (this code).1, by simp, (this .index).2⟩
  have el : (∀ x, lo' = some x → ∀ code, (Instr.sliceBound (a.eval x) h code).run P w = .ok l w) ∧ (lo' = none → l = 0) ∧ l ≤ h := by
    rcases h1 with ⟨rfl, rfl⟩ | ⟨u, z, rfl, rfl, hr⟩
    · simp at hl; subst hl; exact ⟨by simp, fun _ => rfl, Nat.zero_le _⟩
    · have := fun code => run_bnd (P := P) code w hr hl
      exact ⟨fun x hx code => by cases hx; exact (this code).1, by simp, (this .index).2⟩
  refine ⟨?_, el.2.2, eh.2.2, em.2.2⟩
  unfold Instr.sliceBounds
  cases hmx : mx' with
  | none =>
    have e1 := em.2.1 hmx
    cases hhi : hi' with
    | none =>
      have e2 := (eh.2.1 hhi).1
      cases hlo : lo' with
      | none => have e3 := el.2.1 hlo; simp [e1, e2, e3]
      | some x => have := el.1 x hlo; simp [e1, e2]; rw [e2] at this; simp [this]
    | some y =>
      have e2 := eh.1 y hhi
      rw [e1] at e2
      cases hlo : lo' with
      | none => have e3 := el.2.1 hlo; simp [e1, e2, e3]
      | some x => have := el.1 x hlo; simp [e1, e2, this]
  | some z =>
    have e1 := em.1 z hmx
    cases hhi : hi' with
    | none => exact absurd (eh.2.1 hhi).2 (by simp [hmx])
    | some y =>
      have e2 := eh.1 y hhi
      cases hlo : lo' with
      | none => have e3 := el.2.1 hlo; simp [e1, e2, e3]
      | some x => have := el.1 x hlo; simp [e1, e2, this]

theorem putCells_length {α : Type} (off : Nat) (new cs : List α) (h : off + new.length ≤ cs.length) : (putCells off new cs).length = cs.length := by
  simp [putCells]; omega

theorem putCells_nil {α : Type} (off : Nat) (cs : List α) : putCells off [] cs = cs := by simp [putCells]

theorem putCells_cons {α : Type} (off : Nat) (c : α) (new cs : List α) (h : off + (new.length + 1) ≤ cs.length) : putCells (off + 1) new (cs.set off c) = putCells off (c :: new) cs := by
  have h1 : off < cs.length := by omega
  simp only [putCells, List.length_cons]
  have h2 : (cs.set off c).take (off + 1) = cs.take off ++ [c] := by
    rw [List.take_add_one]
    simp [List.take_set_of_le, h1]
  have h3 : (cs.set off c).drop (off + 1 + new.length) = cs.drop (off + (new.length + 1)) := by
    rw [List.drop_set_of_lt (by omega)]
    congr 1
    omega
  rw [h2, h3]
  simp

theorem Reps.put {cs ns : List AVal} {ds ms : List Value} (off : Nat) (h : Reps Γ cs ds) (h' : Reps Γ ns ms) : Reps Γ (putCells off ns cs) (putCells off ms ds) := by
  unfold putCells
  rw [h'.1]
  exact ((h.take off).append h').append (h.drop _)

theorem foldl_put (off : Nat) : ∀ (l : List Value) (k : Nat) (arr : Array Value), off + k + l.length ≤ arr.size →
    (l.zipIdx k).foldl (fun cs x => cs.setIfInBounds (off + x.2) x.1) arr = (putCells (off + k) l arr.toList).toArray
  | [], k, arr, _ => by simp [putCells_nil]
  | c :: l, k, arr, h => by
    simp only [List.length_cons] at h
    rw [List.zipIdx_cons, List.foldl_cons, foldl_put off l (k + 1) _ (by simp; omega)]
    congr 1
    rw [← putCells_cons _ _ _ _ (by simp; omega)]
    simp [Nat.add_assoc]

theorem fill_put {place : Nat → Option (Nat × Nat)} : ∀ {parts : List (Nat × Nat × AOpd)} {ps : List (Nat × Operand)} {cs cs' : List AVal} {ds : List Value}, EnvRel Γ e a.tmps → chkParts place parts ps = true → Reps Γ cs ds →
    (∀ d, d ∈ ds → d.oneCell' = true) → buildA e parts cs = some cs' →
    ∃ ds', Instr.fill place ds.toArray (ps.map fun x => (x.1, a.eval x.2)) = some ds'.toArray ∧ Reps Γ cs' ds' ∧ ∀ d, d ∈ ds' → d.oneCell' = true
  | [], [], cs, cs', ds, he, hk, hr, h1, hb => by
    simp [buildA] at hb; subst hb
    exact ⟨ds, rfl, hr, h1⟩
  | [], _ :: _, _, _, _, _, hk, _, _, _ => by simp [chkParts] at hk
  | _ :: _, [], _, _, _, _, hk, _, _, _ => by simp [chkParts] at hk
  | (off, sz, x) :: parts, (i, y) :: ps, cs, cs', ds, he, hk, hr, h1, hb => by
    simp only [chkParts, Bool.and_eq_true, decide_eq_true_eq] at hk
    simp only [buildA] at hb
    split at hb
    · rename_i v hv
      split at hb
      · rename_i hw
        have hrv := ev_rep he hk.1.2 hv
        have hcv := hrv.cells
        have ht : ∀ vs, v ≠ .tup vs := by
          intro vs hvs
          subst hvs
          simp [AVal.solid] at hw
        have hone := hrv.cells_one ht
        have hlen : (a.eval y).cells.toList.length = sz := by rw [hcv.1]; exact hw.2.1
        have hput := hr.put off hcv
        obtain ⟨ds', hf, hr', h1'⟩ := fill_put (ps := ps) (ds := putCells off (a.eval y).cells.toList ds) he hk.2 hput (by
          intro d hd
          simp only [putCells, List.mem_append] at hd
          rcases hd with (hd | hd) | hd
          · exact h1 d (List.mem_of_mem_take hd)
          · exact hone d hd
          · exact h1 d (List.mem_of_mem_drop hd)) hb
        refine ⟨ds', ?_, hr', h1'⟩
        simp only [List.map_cons, Instr.fill, hk.1.1]
        have hsz : (a.eval y).cells.size = sz := by simpa using hlen
        rw [if_neg (by simp [hsz]; rw [hr.1]; omega)]
        rw [← hf]
        congr 1
        rw [← Array.foldl_toList]
        have := foldl_put off (a.eval y).cells.toList 0 ds.toArray (by simp [hsz]; rw [hr.1]; omega)
        simpa using this
      · cases hb
    · cases hb

theorem struct_places {fs : List Field} {l : List (Nat × Nat)} (h : fs.mapM (fun f => (P.info? f.type).map fun i => (f.offset, i.size)) = some l) (w : World) :
    (fs.mapM (m := Sem) fun f => do pure (f.offset, ← sizeOf f.type)).run P w = .ok l w := by
  induction fs generalizing l with
  | nil => simp at h; subst h; simp
  | cons f fs ih =>
    simp only [List.mapM_cons, Option.bind_eq_bind, Option.bind_eq_some_iff, Option.pure_def, Option.some.injEq] at h
    obtain ⟨x, hx, r, hr, rfl⟩ := h
    rw [Option.map_eq_some_iff] at hx
    obtain ⟨i, hi, rfl⟩ := hx
    have h2 := ih hr
    simp [List.mapM_cons, sizeOf, run_typeInfo _ hi]
    simp [sizeOf] at h2
    simp [h2]

theorem scalB_i {e : TypeId} (h : scalB P .i e = true) : ∃ k, P.underlying e = some (.int k) := by
  unfold scalB at h
  split at h <;> first | (cases h; done) | skip
  · exact ⟨_, by assumption⟩
  · rename_i hq _; cases hq
  · rename_i hq _; cases hq
theorem scalB_b {e : TypeId} (h : scalB P .b e = true) : P.underlying e = some .bool := by
  unfold scalB at h
  split at h <;> first | (cases h; done) | skip
  · rename_i hq _; cases hq
  · assumption
  · rename_i hq _; cases hq
theorem scalB_s {e : TypeId} (h : scalB P .s e = true) : P.underlying e = some .string := by
  unfold scalB at h
  split at h <;> first | (cases h; done) | skip
  · rename_i hq _; cases hq
  · rename_i hq _; cases hq
  · assumption

theorem scal_equal (d : Nat) {q : SK} {e : TypeId} {u v : AVal} {c c' : Value} {w : World} {r : Bool} (hs : scalB P q e = true) (hu : Rep Γ u c) (hv : Rep Γ v c') (h : eqOne q u v = some r) : (Op.equalIn (d + 1) e c c').run P w = .ok r w := by
  unfold eqOne at h
  split at h <;> first | (cases h; done) | skip
  · split at h <;> first | (cases h; done) | skip
    rename_i hk
    subst hk
    cases h
    obtain ⟨k, hk⟩ := scalB_i hs
    rw [hu.int_inv, hv.int_inv, run_equalIn_int w d e _ _ _ _ hk]
    rfl
  · cases h
    rw [hu.bool_inv, hv.bool_inv, run_equalIn_bool' w d e _ _ (scalB_b hs)]
  · cases h
    rw [hu.str_inv, hv.str_inv, run_equalIn_string w d e _ _ (scalB_s hs)]
    simp [stringToList]

theorem eqCells_cons {q : SK} {qs : List SK} {x y : AVal} {xs ys : List AVal} {r : Bool} (h : eqCells (q :: qs) (x :: xs) (y :: ys) = some r) : ∃ a b, eqOne q x y = some a ∧ eqCells qs xs ys = some b ∧ r = (a && b) := by
  simp only [eqCells] at h
  split at h <;> first | (cases h; done) | skip
  rename_i a b h1 h2
  cases h
  exact ⟨a, b, h1, h2, rfl⟩

theorem items_equal (d : Nat) {e : TypeId} {cs cs' : List AVal} {xs ys : List Value} {w : World} (hx : Reps Γ cs xs) (hy : Reps Γ cs' ys) (h1 : ∀ v, v ∈ xs → v.oneCell' = true) (h2 : ∀ v, v ∈ ys → v.oneCell' = true) (hsz : szB P e none = true) :
    ∀ (qs : List SK) (i : Nat) (as bs : List AVal) (r : Bool), cs.drop i = as → cs'.drop i = bs → (∀ q, q ∈ qs → scalB P q e = true) → eqCells qs as bs = some r →
      (Op.eqItems (d + 1) e 1 xs.toArray ys.toArray ((List.range' i qs.length))).run P w = .ok r w
  | [], i, as, bs, r, ha, hb, hq, h => by
    cases as <;> cases bs <;> simp [eqCells] at h
    subst h; rfl
  | q :: qs, i, as, bs, r, ha, hb, hq, h => by
    cases as with
    | nil => cases bs <;> simp [eqCells] at h
    | cons a as =>
      cases bs with
      | nil => simp [eqCells] at h
      | cons b bs =>
        obtain ⟨r1, r2, k1, k2, rfl⟩ := eqCells_cons h
        have ga : cs[i]? = some a := by rw [← List.head?_drop, ha]; rfl
        have gb : cs'[i]? = some b := by rw [← List.head?_drop, hb]; rfl
        obtain ⟨c, p1, p2⟩ := part_sound (P := P) (w := w) (off := i) (sz := none) (t := e) hx h1 hsz (by simpa [part] using ga)
        obtain ⟨c', q1, q2⟩ := part_sound (P := P) (w := w) (off := i) (sz := none) (t := e) hy h2 hsz (by simpa [part] using gb)
        have da : cs.drop (i + 1) = as := by rw [← List.drop_drop, ha]; rfl
        have db : cs'.drop (i + 1) = bs := by rw [← List.drop_drop, hb]; rfl
        have ih := items_equal (w := w) d hx hy h1 h2 hsz qs (i + 1) as bs r2 da db (fun z hz => hq z (List.mem_cons_of_mem _ hz)) k2
        rw [List.length_cons, List.range'_succ]
        simp only [Op.eqItems, Sem.run_bind, Nat.mul_one, p1, q1, Result.andThen_ok, scal_equal d (w := w) (hq q (by simp)) p2 q2 k1]
        cases r1
        · rfl
        · simpa using ih

theorem fields_equal (d : Nat) {cs cs' : List AVal} {xs ys : List Value} {w : World} (hx : Reps Γ cs xs) (hy : Reps Γ cs' ys) (h1 : ∀ v, v ∈ xs → v.oneCell' = true) (h2 : ∀ v, v ∈ ys → v.oneCell' = true) :
    ∀ (qs : List SK) (fs : List Field) (i : Nat) (as bs : List AVal) (r : Bool), fieldsB P i qs fs = true → cs.drop i = as → cs'.drop i = bs → eqCells qs as bs = some r →
      (Op.eqFields (d + 1) xs.toArray ys.toArray fs).run P w = .ok r w
  | [], [], i, as, bs, r, hf, ha, hb, h => by
    cases as <;> cases bs <;> simp [eqCells] at h
    subst h; rfl
  | [], _ :: _, i, as, bs, r, hf, ha, hb, h => by simp [fieldsB] at hf
  | _ :: _, [], i, as, bs, r, hf, ha, hb, h => by simp [fieldsB] at hf
  | q :: qs, f :: fs, i, as, bs, r, hf, ha, hb, h => by
    simp only [fieldsB, Bool.and_eq_true, decide_eq_true_eq] at hf
    obtain ⟨⟨⟨⟨f1, f2⟩, f3⟩, f4⟩, f5⟩ := hf
    cases as with
    | nil => cases bs <;> simp [eqCells] at h
    | cons a as =>
      cases bs with
      | nil => simp [eqCells] at h
      | cons b bs =>
        obtain ⟨r1, r2, k1, k2, rfl⟩ := eqCells_cons h
        have ga : cs[i]? = some a := by rw [← List.head?_drop, ha]; rfl
        have gb : cs'[i]? = some b := by rw [← List.head?_drop, hb]; rfl
        obtain ⟨c, p1, p2⟩ := part_sound (P := P) (w := w) (off := i) (sz := none) (t := f.type) hx h1 f4 (by simpa [part] using ga)
        obtain ⟨c', q1, q2⟩ := part_sound (P := P) (w := w) (off := i) (sz := none) (t := f.type) hy h2 f4 (by simpa [part] using gb)
        have da : cs.drop (i + 1) = as := by rw [← List.drop_drop, ha]; rfl
        have db : cs'.drop (i + 1) = bs := by rw [← List.drop_drop, hb]; rfl
        have ih := fields_equal (w := w) d hx hy h1 h2 qs fs (i + 1) as bs r2 f5 da db k2
        simp only [Op.eqFields, f2, ne_eq, not_false_eq_true, if_true, Sem.run_bind, f1, p1, q1, Result.andThen_ok, scal_equal d (w := w) f3 p2 q2 k1]
        cases r1
        · rfl
        · simpa using ih

theorem eqv_sound {neg : Bool} {b : BinOp} {t : TypeId} {ks : List SK} {xs ys : List AVal} {c d : Value} {w : World} {X Y : Operand} {r : Bool} (hn : negB neg b = true) (hk : eqB P t ks = true) (h1 : Rep Γ (.agg xs) c) (h2 : Rep Γ (.agg ys) d)
    (hr : eqCells ks xs ys = some r) : (do eqGuard b t X Y c d; Go.binOp b t c d : Sem Value).run P w = .ok (.bool (if neg then !r else r)) w := by
  obtain ⟨cs, rfl, hx, ox⟩ := h1.agg_inv
  obtain ⟨ds, rfl, hy, oy⟩ := h2.agg_inv
  simp only [eqB, Bool.and_eq_true, Bool.not_eq_true'] at hk
  obtain ⟨hg, hk⟩ := hk
  refine cmp_run rfl rfl hn ?_ (run_eqGuard_agg w b t X Y _ _ hg)
  show (Op.equalIn 10000 t _ _).run P w = _
  split at hk
  · rename_i n e hu
    simp only [Bool.and_eq_true, decide_eq_true_eq] at hk
    obtain ⟨⟨⟨k1, k2⟩, k3⟩, k4⟩ := hk
    unfold sizeB at k4
    split at k4 <;> first | (cases k4; done) | skip
    rename_i inf hi
    have hc : P.cellsOf e = 1 := by
      have := of_decide_eq_true k4
      simp [Program.cellsOf, hi, this]
    rw [run_equalIn_array (w := w) 9999 cs.toArray ds.toArray hu hi, hc, List.range_eq_range', ← k1]
    exact items_equal 9998 hx hy ox oy k3 ks 0 xs ys r rfl rfl (fun q hq => List.all_eq_true.1 k2 q hq) hr
  · rename_i fs hu
    simp only [Bool.and_eq_true, Bool.not_eq_true'] at hk
    have hf : P.fieldsOf t = fs := by simp [Program.fieldsOf, hu]
    rw [run_equalIn_struct w 9999 t _ _ (by rw [hf]; exact hu) hk.2, hf]
    exact fields_equal 9998 hx hy ox oy ks fs.toList 0 xs ys r hk.1 rfl rfl hr
  · cases hk

theorem evP_sound {o : Oper} {p : AOp} {v : AVal} {w : World} (he : EnvRel Γ e a.tmps) (hp : p.kind = .pure) (hk : chkP P p o.op = true) (hv : evP e p = some v) :
    ∃ c, (execOp a.eval o).run P w = .ok (.value c) w ∧ Rep Γ v c := by
  cases p <;> simp only [AOp.kind, reduceCtorEq] at hp
  case mv x => exact mv_sound he hk hv
  all_goals
    obtain ⟨dst, op, ty, pos, after, guard⟩ := o
    simp only at hk
  case pick c x y =>
    cases op <;> simp only [chkP, Bool.false_eq_true, Bool.and_eq_true] at hk
    rename_i c' x' y'
    simp only [evP] at hv
    split at hv
    · rename_i hc
      have h1 := ev_rep he hk.1.1 hc
      have h2 := ev_rep he hk.1.2 hv
      refine ⟨_, ?_, h2⟩
      simp only [execOp]
      generalize a.eval c' = cc at h1
      cases h1
      simp [asBool]
    · rename_i hc
      have h1 := ev_rep he hk.1.1 hc
      have h2 := ev_rep he hk.2 hv
      refine ⟨_, ?_, h2⟩
      simp only [execOp]
      generalize a.eval c' = cc at h1
      cases h1
      simp [asBool]
    · cases hv
  case bin b x y =>
    cases op <;> simp only [chkP, Bool.false_eq_true, Bool.and_eq_true, decide_eq_true_eq] at hk
    rename_i b' t x' y' yt
    simp only [evP] at hv
    split at hv
    · rename_i u v' hx hy
      obtain ⟨r, hr, hrep⟩ := bin_sound (t := t) (w := w) (X := x') (Y := y') (P := P) (ev_rep he hk.1.2 hx) (ev_rep he hk.2 hy) hv
      rw [hk.1.1] at hr
      exact ⟨r, exec_v rfl hr, hrep⟩
    · cases hv
  case eqv neg d x y =>
    cases op <;> simp only [chkP, Bool.false_eq_true, Bool.and_eq_true] at hk
    rename_i b t x' y' yt
    simp only [evP] at hv
    split at hv
    · rename_i u v' hx hy
      split at hv
      · rename_i r hr
        cases hv
        cases d
        · simp only [eqA] at hr
          split at hr
          · cases hr
            have h1 := ev_rep he hk.1.1.2 hx
            have h2 := ev_rep he hk.1.2 hy
            have h3 := hk.2
            simp only [Bool.and_eq_true] at h3
            replace h3 := h3.2
            split at h3 <;> first | (cases h3; done) | skip
            rename_i hu
            refine ⟨_, exec_v rfl ?_, .bool _⟩
            generalize a.eval x' = cx at h1 ⊢
            generalize a.eval y' = cy at h2 ⊢
            cases h1; cases h2
            exact cmp_run rfl rfl hk.1.1.1 (run_equal_of hu (.b _ _)) (eqGuard_plain (by simp))
          · cases hr
        · rename_i ks
          simp only [eqA] at hr
          split at hr
          · rename_i xs ys
            have h1 := ev_rep he hk.1.1.2 hx
            have h2 := ev_rep he hk.1.2 hy
            exact ⟨_, exec_v rfl (eqv_sound hk.1.1.1 hk.2 h1 h2 hr), .bool _⟩
          · cases hr
      · cases hv
    · cases hv
  case isnil k neg x =>
    cases op <;> simp only [chkP, Bool.false_eq_true, Bool.and_eq_true, Bool.or_eq_true] at hk
    rename_i b t x' y' yt
    simp only [evP] at hv
    split at hv
    · rename_i u hx
      split at hv
      · rename_i r hr
        cases hv
        rcases hk.2 with ⟨h1, h2⟩ | ⟨h1, h2⟩
        · exact ⟨_, exec_v rfl ((isnil_sound (X := x') (w := w) (t := t) (a := a) (ev_rep he h1 hx) hr hk.1).1 h2), .bool _⟩
        · exact ⟨_, exec_v rfl ((isnil_sound (Y := y') (w := w) (t := t) (a := a) (ev_rep he h1 hx) hr hk.1).2 h2), .bool _⟩
      · cases hv
    · cases hv
  case un u x =>
    cases op <;> simp only [chkP, Bool.false_eq_true, Bool.and_eq_true, decide_eq_true_eq] at hk
    rename_i u' t x'
    simp only [evP] at hv
    split at hv
    · rename_i y hx
      have h1 := ev_rep he hk.2 hx
      obtain ⟨rfl, _⟩ := hk
      generalize hcx : a.eval x' = cx at h1
      cases u <;> cases y <;> simp [unA] at hv
      · subst hv; cases h1
        exact ⟨_, exec_v rfl (by rw [hcx]; simp [Op.unary, Op.intArith]), .int _ _⟩
      · subst hv; cases h1
        exact ⟨_, exec_v rfl (by rw [hcx]; simp [Op.unary]), .bool _⟩
    · cases hv
  case cvi k x =>
    cases op <;> simp only [chkP, Bool.false_eq_true, Bool.and_eq_true] at hk
    rename_i s d x'
    simp only [evP] at hv
    split at hv
    · rename_i k' n hx
      cases hv
      have h1 := ev_rep he hk.1.1 hx
      have h3 := hk.2
      obtain ⟨D, hD⟩ := Option.isSome_iff_exists.1 hk.1.2
      split at h3 <;> first | (cases h3; done) | skip
      rename_i k'' hu
      have : k = k'' := by simpa using h3
      subst this
      refine ⟨_, exec_v rfl ?_, .int _ _⟩
      generalize a.eval x' = cx at h1
      cases h1
      simp only [Go.convert, Sem.run_bind, run_underlying hD, run_underlying hu, Result.andThen_ok]
      rfl
    · cases hv
  case cvs x =>
    cases op <;> simp only [chkP, Bool.false_eq_true, Bool.and_eq_true] at hk
    rename_i s d x'
    simp only [evP] at hv
    split at hv
    · rename_i k' hx
      cases hv
      have h1 := ev_rep he hk.1.1 hx
      have h2 := hk.1.2
      have h3 := hk.2
      unfold isStrB at h2 h3
      split at h2 <;> first | (cases h2; done) | skip
      rename_i hu
      split at h3 <;> first | (cases h3; done) | skip
      rename_i hu'
      refine ⟨_, exec_v rfl ?_, h1⟩
      generalize a.eval x' = cx at h1
      cases h1
      simp only [Go.convert, Sem.run_bind, run_underlying hu, run_underlying hu', Result.andThen_ok]
      rfl
    · cases hv
  case mki t x =>
    cases op <;> simp only [chkP, Bool.false_eq_true, Bool.and_eq_true, decide_eq_true_eq] at hk
    rename_i t' x'
    simp only [evP] at hv
    split at hv
    · rename_i y hx
      cases hv
      have h1 := ev_rep he hk.1.2 hx
      obtain ⟨⟨rfl, _⟩, h3⟩ := hk
      refine ⟨_, exec_v rfl ?_, .iface t h1⟩
      split at h3 <;> first | (cases h3; done) | skip
      rename_i D hne hu
      simp only [Instr.makeInterface, Sem.run_bind, run_underlying hu, Result.andThen_ok]
      rfl
    · cases hv
  case mkf f caps =>
    cases op <;> simp only [chkP, Bool.false_eq_true] at hk
    rename_i fn first caps'
    cases fn <;> simp only [Bool.false_eq_true, Bool.and_eq_true, decide_eq_true_eq] at hk
    rename_i f'
    simp only [evP] at hv
    split at hv
    · rename_i vs hvs
      cases hv
      have h1 := evs_reps he hk.2 hvs
      obtain ⟨⟨rfl, h2⟩, _⟩ := hk
      have h2' : first = #[] := by simpa using h2
      subst h2'
      refine ⟨.func (.func f) #[] (caps'.map a.eval), exec_v rfl ?_, ?_⟩
      · simp [Instr.makeFunc]
      · rw [show caps'.map a.eval = (caps'.toList.map a.eval).toArray from by apply Array.ext'; simp]
        exact Rep.fn f h1.1 h1.2
    · cases hv
  case fld off sz x =>
    cases op <;> simp only [chkP, Bool.false_eq_true, Bool.and_eq_true] at hk
    rename_i t x' i
    simp only [evP] at hv
    split at hv
    · rename_i cs hx
      have h1 := ev_rep he hk.1 hx
      have h2 := hk.2
      unfold fieldB at h2
      split at h2 <;> first | (cases h2; done) | skip
      rename_i fs hu
      split at h2 <;> first | (cases h2; done) | skip
      rename_i f hf
      simp only [Bool.and_eq_true, decide_eq_true_eq] at h2
      obtain ⟨ds, hcx, hr, h1⟩ := h1.agg_inv
      obtain ⟨c, hc, hrep⟩ := part_sound (P := P) (w := w) hr h1 h2.2 hv
      refine ⟨c, exec_v rfl ?_, hrep⟩
      rw [hcx]
      simp only [Instr.field, Sem.run_bind, run_underlying hu, Result.andThen_ok, hf, asAgg, Sem.run_pure, h2.1]
      exact hc
    · cases hv
  case ixs x i =>
    cases op <;> simp only [chkP, Bool.false_eq_true, Bool.and_eq_true] at hk
    rename_i t x' i'
    simp only [evP] at hv
    split at hv
    · rename_i s k n hx hi
      split at hv
      · rename_i h0
        rw [Option.map_eq_some_iff] at hv
        obtain ⟨b, hb, rfl⟩ := hv
        have h1 := ev_rep he hk.1.1 hx
        have h2 := ev_rep he hk.1.2 hi
        have h3 := hk.2
        unfold isStrB at h3
        split at h3 <;> first | (cases h3; done) | skip
        rename_i hu
        refine ⟨_, exec_v rfl ?_, .int _ _⟩
        generalize a.eval x' = cx at h1
        generalize a.eval i' = ci at h2
        cases h1; cases h2
        have hlt : n.toNat < s.length := (List.getElem?_eq_some_iff.1 hb).1
        have hbs : (ByteArray.mk s.toArray)[n.toNat]? = some b := by
          rw [getElem?_pos _ _ (by simpa [ByteArray.size] using hlt)]
          have : s[n.toNat] = b := by simpa [hlt] using hb
          rw [← this]
          rfl
        simp [Instr.index, asIntOf, run_underlying hu, h0, hbs]
      · cases hv
    · cases hv
  case ixa len es sz x i =>
    cases op <;> simp only [chkP, Bool.false_eq_true, Bool.and_eq_true] at hk
    rename_i t x' i'
    simp only [evP] at hv
    split at hv
    · rename_i cs k n hx hi
      split at hv
      · rename_i h0
        have h1 := ev_rep he hk.1.1 hx
        have h2 := ev_rep he hk.1.2 hi
        have h3 := hk.2
        unfold arrB at h3
        split at h3 <;> first | (cases h3; done) | skip
        rename_i m el hu
        simp only [Bool.and_eq_true, decide_eq_true_eq] at h3
        obtain ⟨rfl, h4, h5⟩ := h3
        obtain ⟨ds, hcx, hr, h1⟩ := h1.agg_inv
        have hci := h2.int_inv
        obtain ⟨c, hc, hrep⟩ := part_sound (P := P) (w := w) hr h1 h5 hv
        refine ⟨c, exec_v rfl ?_, hrep⟩
        rw [hcx, hci]
        simp [Instr.index, asIntOf, run_underlying hu, h0, run_sizeB h4, hc]
      · cases hv
    · cases hv
  case fa off x =>
    cases op <;> simp only [chkP, Bool.false_eq_true, Bool.and_eq_true] at hk
    rename_i t x' i
    have h2 := hk.2
    unfold fieldB at h2
    split at h2 <;> first | (cases h2; done) | skip
    rename_i fs hu
    split at h2 <;> first | (cases h2; done) | skip
    rename_i f hf
    simp only [Bool.and_eq_true, decide_eq_true_eq] at h2
    obtain ⟨rfl, h3⟩ := h2
    split at h3 <;> first | (cases h3; done) | skip
    rename_i fi hfi
    have h4 : ¬ fi.size = 0 := by have : 0 < fi.size := by simpa using h3
                                  omega
    have place : ∀ ad : Addr, (Instr.fieldAt t (.pointer (some ad)) i).run P w = .ok (.pointer (some (ad.add f.offset))) w := by
      intro ad
      simp only [Instr.fieldAt, Sem.run_bind, run_underlying hu, Result.andThen_ok, hf, Instr.sureAddr, Sem.run_pure, fieldPlace, sizeOf, run_typeInfo _ hfi, h4, if_false]
    simp only [evP] at hv
    split at hv
    · rename_i b o hx
      cases hv
      obtain ⟨g, hc, hm⟩ := (ev_rep he hk.1 hx).ptr_inv
      refine ⟨.pointer (some ((⟨g, o, none⟩ : Addr).add f.offset)), exec_v rfl ?_, ?_⟩
      · rw [hc]; exact place _
      · have : (⟨g, o, none⟩ : Addr).add f.offset = ⟨g, o + f.offset, none⟩ := by
          unfold Addr.add; split <;> simp_all
        rw [this]; exact .ptr hm
    · rename_i cs hx
      split at hv
      · rename_i hlt
        cases hv
        obtain ⟨g, off, fv, hc, h5, h6, h7, h8⟩ := (ev_rep he hk.1 hx).ro_inv
        refine ⟨.pointer (some ((⟨g, off, none⟩ : Addr).add f.offset)), exec_v rfl ?_, ?_⟩
        · rw [hc]; exact place _
        · have : (⟨g, off, none⟩ : Addr).add f.offset = ⟨g, off + f.offset, none⟩ := by
            unfold Addr.add; split <;> simp_all
          rw [this]
          refine .ro (fun j => fv (f.offset + j)) (fun c hc => h5 c (List.mem_of_mem_drop hc)) ?_ ?_ ?_
          · intro j c hj; rw [List.getElem?_drop] at hj; rw [Nat.add_assoc]; exact h6 _ c hj
          · intro j c hj; rw [List.getElem?_drop] at hj; exact h7 _ c hj
          · intro j c hj; rw [List.getElem?_drop] at hj; exact h8 _ c hj
      · cases hv
    · rename_i o l c hx
      cases hv
      obtain ⟨g, cap, hc, hm⟩ := (ev_rep he hk.1 hx).lptr_inv
      refine ⟨.pointer (some ((⟨g, c, none⟩ : Addr).add f.offset)), exec_v rfl ?_, ?_⟩
      · rw [hc]; exact place _
      · have : (⟨g, c, none⟩ : Addr).add f.offset = ⟨g, c + f.offset, none⟩ := by
          unfold Addr.add; split <;> simp_all
        rw [this]; exact .lptr hm
    · cases hv
  case nc x =>
    cases op <;> simp only [chkP, Bool.false_eq_true] at hk
    rename_i x'
    simp only [evP] at hv
    split at hv
    · rename_i b o hx
      cases hv
      have h1 := ev_rep he hk hx
      obtain ⟨g, hc, hm⟩ := h1.ptr_inv
      exact ⟨_, by simp only [execOp, hc]; rfl, hc ▸ h1⟩
    · rename_i cs hx
      cases hv
      have h1 := ev_rep he hk hx
      obtain ⟨g, off, fv, hc, _⟩ := h1.ro_inv
      exact ⟨_, by simp only [execOp, hc]; rfl, hc ▸ h1⟩
    · rename_i o l c hx
      cases hv
      have h1 := ev_rep he hk hx
      obtain ⟨g, cap, hc, hm⟩ := h1.lptr_inv
      exact ⟨_, by simp only [execOp, hc]; rfl, hc ▸ h1⟩
    · cases hv
  case iaa len es x i =>
    cases op <;> simp only [chkP, Bool.false_eq_true, Bool.and_eq_true] at hk
    rename_i t x' i'
    have h3 := hk.2
    unfold arrB at h3
    split at h3 <;> first | (cases h3; done) | skip
    rename_i m el hu
    simp only [Bool.and_eq_true, decide_eq_true_eq] at h3
    obtain ⟨rfl, h4⟩ := h3
    have place : ∀ (ad : Addr) (k : IntKind) (n : Int), 0 ≤ n → n < m → (Instr.indexAt t (.pointer (some ad)) (.int k n)).run P w = .ok (.pointer (some (ad.add (n.toNat * es)))) w := by
      intro ad k n h0 h1
      simp only [Instr.indexAt, Sem.run_bind, asIntOf, Sem.run_pure, run_underlying hu, Result.andThen_ok, Instr.sureAddr, h0, h1, and_self, if_true, run_sizeB h4]
    simp only [evP] at hv
    split at hv
    · rename_i b o k n hx hi
      split at hv
      · rename_i h0
        cases hv
        obtain ⟨g, hc, hm⟩ := (ev_rep he hk.1.1 hx).ptr_inv
        have hci := (ev_rep he hk.1.2 hi).int_inv
        refine ⟨.pointer (some ((⟨g, o, none⟩ : Addr).add (n.toNat * es))), exec_v rfl ?_, ?_⟩
        · rw [hc, hci]; exact place _ _ _ h0.1 h0.2
        · have : (⟨g, o, none⟩ : Addr).add (n.toNat * es) = ⟨g, o + n.toNat * es, none⟩ := by
            unfold Addr.add; split <;> simp_all
          rw [this]; exact .ptr hm
      · cases hv
    · rename_i cs k n hx hi
      split at hv
      · rename_i h0
        cases hv
        obtain ⟨g, off, fv, hc, h5, h6, h7, h8⟩ := (ev_rep he hk.1.1 hx).ro_inv
        have hci := (ev_rep he hk.1.2 hi).int_inv
        refine ⟨.pointer (some ((⟨g, off, none⟩ : Addr).add (n.toNat * es))), exec_v rfl ?_, ?_⟩
        · rw [hc, hci]; exact place _ _ _ h0.1 h0.2.1
        · have : (⟨g, off, none⟩ : Addr).add (n.toNat * es) = ⟨g, off + n.toNat * es, none⟩ := by
            unfold Addr.add; split <;> simp_all
          rw [this]
          refine .ro (fun j => fv (n.toNat * es + j)) (fun c hc => h5 c (List.mem_of_mem_drop hc)) ?_ ?_ ?_
          · intro j c hj; rw [List.getElem?_drop] at hj; rw [Nat.add_assoc]; exact h6 _ c hj
          · intro j c hj; rw [List.getElem?_drop] at hj; exact h7 _ c hj
          · intro j c hj; rw [List.getElem?_drop] at hj; exact h8 _ c hj
      · cases hv
    · cases hv
  case ext i x =>
    cases op <;> simp only [chkP, Bool.false_eq_true, Bool.and_eq_true, decide_eq_true_eq] at hk
    rename_i x' j
    obtain ⟨hk, rfl⟩ := hk
    simp only [evP] at hv
    split at hv
    · rename_i vs hx
      obtain ⟨ds, hc, hr⟩ := (ev_rep he hk hx).tup_inv
      obtain ⟨d, hd, hrep⟩ := hr.get hv
      refine ⟨d, exec_v rfl ?_, hrep⟩
      rw [hc]
      simp [Instr.extract, hd]
    · cases hv
  case build zs parts =>
    cases op <;> simp only [chkP, Bool.false_eq_true, Bool.and_eq_true] at hk
    rename_i t ps
    simp only [evP] at hv
    split at hv
    · rename_i cs hb
      cases hv
      obtain ⟨z, hz, hrz, h1⟩ := run_zeroB (Γ := Γ) hk.1 w
      have h2 := hk.2
      split at h2 <;> first | (cases h2; done) | skip
      rename_i pl hpl
      obtain ⟨ds', hf, hr', h1'⟩ := fill_put (ps := ps.toList) he h2 hrz h1 hb
      refine ⟨.agg ds'.toArray, exec_v rfl ?_, .agg hr'.1 hr'.2 h1'⟩
      have hf' : Instr.fill pl z.cells ((ps.map fun x => (x.1, a.eval x.2)).toList) = some ds'.toArray := by
        rw [← hf]; simp
      unfold placesOf at hpl
      split at hpl
      · rename_i fs hu
        split at hpl <;> first | (cases hpl; done) | skip
        rename_i l hl
        cases hpl
        have hm := struct_places hl w
        have hm' : (fs.mapM (m := Sem) fun f => do pure (f.offset, ← sizeOf f.type)).run P w = .ok l.toArray w := by
          rw [← Array.toArray_toList (xs := fs), List.mapM_toArray, Sem.run_map, hm]
          rfl
        simp only [Instr.build, Sem.run_bind, Result.andThen_ok, hz, run_underlying hu, hm', Sem.run_pure]
        have : (fun (i : Nat) => l.toArray[i]?) = fun (i : Nat) => l[i]? := by funext i; simp
        simp only [this, hf']
        rfl
      · rename_i n el hu
        split at hpl <;> first | (cases hpl; done) | skip
        rename_i ti hti
        cases hpl
        simp only [Instr.build, Sem.run_bind, Result.andThen_ok, hz, run_underlying hu, sizeOf, run_typeInfo _ hti, Sem.run_pure, hf']
      · cases hpl
    · cases hv
  case mm isMax x y =>
    cases op <;> simp only [chkP, Bool.false_eq_true, Bool.and_eq_true] at hk
    rename_i c
    obtain ⟨hk1, hk2⟩ := hk
    split at hk1 <;> first | (cases hk1; done) | skip
    rename_i b hcal
    split at hk2 <;> first | (cases hk2; done) | skip
    rename_i x' y' hargs
    simp only [Bool.and_eq_true] at hk2
    have hb : b = if isMax = true then .max else .min := by simpa using hk1
    simp only [evP] at hv
    split at hv
    · rename_i k m k' n hx hy
      split at hv
      · rename_i hkk
        subst hkk
        cases hv
        have hcx := (ev_rep he hk2.1 hx).int_inv
        have hcy := (ev_rep he hk2.2 hy).int_inv
        have hmap : (c.args.map a.eval).toList = [.int k m, .int k n] := by simp [hargs, hcx, hcy]
        refine ⟨_, ?_, .int _ _⟩
        subst hb
        cases isMax
        · simp [execOp, resolve, hcal, invoke, builtin, Builtin.min_, Builtin.min2, hargs, hcx, hcy]
        · simp [execOp, resolve, hcal, invoke, builtin, Builtin.max_, Builtin.max2, hargs, hcx, hcy]
      · cases hv
    · cases hv
  case slcs x lo hi =>
    cases op <;> simp only [chkP, Bool.false_eq_true, Bool.and_eq_true] at hk
    rename_i t x' lo' hi' mx'
    simp only [evP] at hv
    split at hv
    · rename_i s lov hiv hx hlo hhi
      split at hv
      · rename_i l h m hb
        cases hv
        have hc := (ev_rep he hk.1.1.1.1 hx).str_inv
        have hmx : mx' = none := by simpa using hk.1.2
        subst hmx
        have h3 := hk.2
        unfold isStrB at h3
        split at h3 <;> first | (cases h3; done) | skip
        rename_i hu
        obtain ⟨hbr, h1, h2, h4⟩ := run_bounds (P := P) (b0 := false) (mx' := none) w (Nat.le_refl _) (opt_reps he hk.1.1.1.2 hlo) (opt_reps he hk.1.1.2 hhi) (.inl ⟨rfl, rfl⟩) hb
        refine ⟨.string ⟨((s.take h).drop l).toArray⟩, exec_v rfl ?_, .str _⟩
        rw [hc]
        have hsz : (ByteArray.mk s.toArray).size = s.length := stringSize
        simp only [Option.map_none] at hbr
        have hex : (ByteArray.mk s.toArray).extract l h = ⟨((s.take h).drop l).toArray⟩ := by
          apply ByteArray.ext
          simp [List.drop_take]
        simp only [Instr.sliceAt, Sem.run_bind, run_underlying hu, Result.andThen_ok, Instr.slice, Option.map_none, Option.isSome_none, hsz, Bool.false_eq_true, if_false]
        simp only [Sem.run_bind, hbr, Result.andThen_ok, Sem.run_pure, hex]
      · cases hv
    · cases hv
end

end Go.Ev
