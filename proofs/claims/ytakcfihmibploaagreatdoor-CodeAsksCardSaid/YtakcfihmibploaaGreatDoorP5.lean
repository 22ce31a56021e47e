/-
  Part 5 of a proof: CodeAsks: for every input the law returns true, and what it was given reads behind the call as before. No conditions beyond the row's own.
-/
import Derived.Test.YtakcfihmibploaaGreatDoorP4
import Derived.KernelRfl
namespace Go.Ev
set_option linter.unusedVariables false
set_option linter.unusedSimpArgs false
open Go
section
variable {C : Ctx} {cs : List ACode} {e e' : Env} {H H' : Heap} {Q : Post}
theorem WL_mono {Q' : Post} (hq : ∀ x e H, Q x e H → Q' x e H) : ∀ {cs : List ACode} {e : Env} {H : Heap}, WL C cs e H Q → WL C cs e H Q'
  | [], e, H, h => by rw [WL_iff] at h ⊢; exact hq _ _ _ h
  | c :: cs, e, H, h => by
    rw [WL_iff] at h ⊢
    obtain ⟨x, e1, H1, h1, h2⟩ := h
    refine ⟨x, e1, H1, h1, ?_⟩
    cases x with
    | norm => exact WL_mono hq h2
    | exit i => exact hq _ _ _ h2
    | ret => exact hq _ _ _ h2
    | pan v => exact hq _ _ _ h2
def RndS {α : Type} (keep : List Nat) (n : Nat) (env : α → Env) (heap : α → Heap) (P : α → Prop) (m : α → Nat) (k : Nat) (Q : Post) : Post
  | .norm, e, H => ∃ s, restr e keep = env s ∧ trunc n (env s) H = heap s ∧ P s ∧ m s < k
  | x, e, H => Q x e H
theorem WL_for {α : Type} {keep : List Nat} {a : ACode} (env : α → Env) (heap : α → Heap) (P : α → Prop) (m : α → Nat) (s0 : α)
    (he : restr e keep = env s0) (hh : trunc H.length (env s0) H = heap s0) (hP : P s0) (hk : m s0 < C.fuel)
    (round : ∀ s, P s → WL C [a] (env s) (heap s) (RndS keep H.length env heap P m (m s) Q)) : WL C (.loop keep a :: cs) e H Q := by
  refine WL_loop (fun k e' H' => ∃ s, restr e' keep = env s ∧ trunc H.length (env s) H' = heap s ∧ P s ∧ m s = k) (m s0) hk ⟨s0, he, hh, hP, rfl⟩ ?_
  rintro k' e' H' _ ⟨s, h1, h2, h3, rfl⟩
  rw [h1, h2]
  refine WL_mono ?_ (round s h3)
  intro x e2 H2 hq
  cases x with
  | norm =>
    obtain ⟨s', k1, k2, k3, k4⟩ := hq
    exact ⟨m s', k4, s', k1, k2, k3, rfl⟩
  | _ => exact hq
theorem trunc_id {n : Nat} {e : Env} {H : Heap} (h : H.length ≤ n) : trunc n e H = H := by simp [trunc, h]
def RndV {α : Type} (keep : List Nat) (n : Nat) (cst : Env) (var : α → Env) (hc : Heap) (hv : α → Heap) (P : α → Prop) (m : α → Nat) (k : Nat) (Q : Post) : Post
  | .norm, e, H => ∃ s, restr e keep = var s ++ cst ∧ trunc n (var s ++ cst) H = hc ++ hv s ∧ P s ∧ m s < k
  | x, e, H => Q x e H
theorem WL_forv {α : Type} {keep : List Nat} {a : ACode} {cst : Env} {hc : Heap} (var : α → Env) (hv : α → Heap) (P : α → Prop) (m : α → Nat) (s0 : α)
    (he : restr e keep = var s0 ++ cst) (hh : H = hc ++ hv s0) (hP : P s0) (hk : m s0 < C.fuel)
    (round : ∀ s, P s → WL C [a] (var s ++ cst) (hc ++ hv s) (RndV keep H.length cst var hc hv P m (m s) Q)) : WL C (.loop keep a :: cs) e H Q :=
  WL_for (fun s => var s ++ cst) (fun s => hc ++ hv s) P m s0 he ((trunc_id (Nat.le_refl _)).trans hh) hP hk round
theorem RndV_norm {α : Type} {keep : List Nat} {n : Nat} {cst : Env} {var : α → Env} {hc : Heap} {hv : α → Heap} {P : α → Prop} {m : α → Nat} {k : Nat} (s : α) (h3 : P s) (h4 : m s < k) (h1 : restr e keep = var s ++ cst) (h2 : trunc n (var s ++ cst) H = hc ++ hv s) : RndV keep n cst var hc hv P m k Q .norm e H :=
  ⟨s, h1, h2, h3, h4⟩
theorem RndV_exit {α : Type} {keep : List Nat} {n : Nat} {cst : Env} {var : α → Env} {hc : Heap} {hv : α → Heap} {P : α → Prop} {m : α → Nat} {k i : Nat} (h : Q (.exit i) e H) : RndV keep n cst var hc hv P m k Q (.exit i) e H := h
def RndC {α : Type} (keep : List Nat) (n : Nat) (cst : Env) (var : α → Env) (hc : Heap) (P : α → Prop) (m : α → Nat) (k : Nat) (Q : Post) : Post
  | .norm, e, H => ∃ s, restr e keep = var s ++ cst ∧ trunc n (var s ++ cst) H = hc ∧ P s ∧ m s < k
  | x, e, H => Q x e H
theorem WL_forc {α : Type} {keep : List Nat} {a : ACode} {cst : Env} (var : α → Env) (P : α → Prop) (m : α → Nat) (s0 : α)
    (he : restr e keep = var s0 ++ cst) (hP : P s0) (hk : m s0 < C.fuel)
    (round : ∀ s, P s → WL C [a] (var s ++ cst) H (RndC keep H.length cst var H P m (m s) Q)) : WL C (.loop keep a :: cs) e H Q :=
  WL_for (fun s => var s ++ cst) (fun s => H) P m s0 he (trunc_id (Nat.le_refl _)) hP hk round
theorem RndC_norm {α : Type} {keep : List Nat} {n : Nat} {cst : Env} {var : α → Env} {hc : Heap} {P : α → Prop} {m : α → Nat} {k : Nat} (s : α) (h3 : P s) (h4 : m s < k) (h1 : restr e keep = var s ++ cst) (h2 : trunc n (var s ++ cst) H = hc) : RndC keep n cst var hc P m k Q .norm e H :=
  ⟨s, h1, h2, h3, h4⟩
theorem RndC_exit {α : Type} {keep : List Nat} {n : Nat} {cst : Env} {var : α → Env} {hc : Heap} {P : α → Prop} {m : α → Nat} {k i : Nat} (h : Q (.exit i) e H) : RndC keep n cst var hc P m k Q (.exit i) e H := h
def junk : List Nat → List AVal → Env → Env
  | k :: ks, v :: vs, e => junk ks vs ((k, v) :: e)
  | _, _, e => e
def bare (k : Nat) (w : Bool) : List Nat → List AOper → Option (List AOper × List Nat)
  | _, [] => some ([], [])
  | seen, ⟨some d, op, some (k', w')⟩ :: r =>
    if Nat.beq d k then none
    else if Nat.beq k' k && (w' == w) then match bare k w (d :: seen) r with
      | some (l, ks) => some (⟨some d, op, none⟩ :: l, d :: ks)
      | none => none
    else if !notIn k' seen && !Nat.beq k' k then match bare k w (d :: seen) r with
      | some (l, ks) => some (⟨some d, op, some (k', w')⟩ :: l, d :: ks)
      | none => none
    else none
  | _, _ => none
theorem y10 {e : Env} {d k : Nat} {v : AVal} (h : d ≠ k) : Env.get ((d, v) :: e) k = e.get k := by simp [Env.get, h]
theorem y3b {b : Nat} : ∀ {l : List Nat}, notIn b l = false → b ∈ l
  | [], h => by simp [notIn] at h
  | x :: xs, h => by
    simp only [notIn, Bool.and_eq_false_iff, Bool.not_eq_false'] at h
    rcases h with h | h
    · rw [Nat.eq_of_beq_eq_true h]; exact List.mem_cons_self
    · exact List.mem_cons_of_mem _ (y3b h)
theorem bare_on {k : Nat} {w : Bool} : ∀ {blk l : List AOper} {ks seen : List Nat} {e e1 : Env} {r : List AOper} {H H1 : Heap}, bare k w seen blk = some (l, ks) → e.get k = some (.bool w) → evalOps C l e H = some (.norm, e1, H1) →
    ∃ vs, vs.length = ks.length ∧ evalOps C (blk ++ r) e H = evalOps C r (junk ks vs e) H1 ∧ (junk ks vs e).get k = some (.bool w) ∧ e1 = junk ks vs e
  | [], l, ks, seen, e, e1, r, H, H1, h, hk, hl => by
    simp only [bare, Option.some.injEq, Prod.mk.injEq] at h
    obtain ⟨rfl, rfl⟩ := h
    simp only [evalOps, Option.some.injEq, Prod.mk.injEq, true_and] at hl
    obtain ⟨rfl, rfl⟩ := hl
    exact ⟨[], rfl, rfl, hk, rfl⟩
  | o :: blk, l, ks, seen, e, e1, r, H, H1, h, hk, hl => by
    obtain ⟨d, op, g⟩ := o
    cases d with
    | none => simp [bare] at h
    | some d =>
      cases g with
      | none => simp [bare] at h
      | some g =>
        obtain ⟨k', w'⟩ := g
        simp only [bare] at h
        split at h <;> first | (cases h; done) | skip
        rename_i hd
        have hdk : d ≠ k := by intro hh; subst hh; simp at hd
        split at h
        · rename_i hc
          simp only [Bool.and_eq_true, beq_iff_eq] at hc
          split at h <;> first | (cases h; done) | skip
          rename_i l' ks' hr
          simp only [Option.some.injEq, Prod.mk.injEq] at h
          obtain ⟨rfl, rfl⟩ := h
          have e1 := Nat.eq_of_beq_eq_true hc.1
          have e2 := hc.2
          subst e1 e2
          simp only [evalOps, wantedA] at hl
          split at hl
          · rename_i v H2 hv
            obtain ⟨vs, h1, h2, h3, h4⟩ := bare_on (e := (d, v) :: e) (r := r) hr (by rw [y10 hdk]; exact hk) hl
            refine ⟨v :: vs, by simp [h1], ?_, h3, h4⟩
            simp only [List.cons_append, evalOps, wantedA, hk, beq_self_eq_true, hv, Env.put]
            exact h2
          · simp at hl
          · cases hl
        · split at h <;> first | (cases h; done) | skip
          rename_i hc
          split at h <;> first | (cases h; done) | skip
          rename_i l' ks' hr
          simp only [Option.some.injEq, Prod.mk.injEq] at h
          obtain ⟨rfl, rfl⟩ := h
          simp only [evalOps] at hl
          split at hl
          · rename_i hw
            split at hl
            · rename_i v H2 hv
              obtain ⟨vs, h1, h2, h3, h4⟩ := bare_on (e := (d, v) :: e) (r := r) hr (by rw [y10 hdk]; exact hk) hl
              refine ⟨v :: vs, by simp [h1], ?_, h3, h4⟩
              simp only [List.cons_append, evalOps, hw, hv, Env.put]
              exact h2
            · simp at hl
            · cases hl
          · rename_i hw
            obtain ⟨vs, h1, h2, h3, h4⟩ := bare_on (e := (d, undefA) :: e) (r := r) hr (by rw [y10 hdk]; exact hk) hl
            refine ⟨undefA :: vs, by simp [h1], ?_, h3, h4⟩
            simp only [List.cons_append, evalOps, hw, Env.put]
            exact h2
          · cases hl
section
variable {base : Nat} {l : List (AOper × Nat × List Nat)} {acc : List Foot} {K : List Foot → Env → Heap → Prop}
end
inductive F2 {α β : Type} (R : α → β → Prop) : List α → List β → Prop
  | nil : F2 R [] []
  | cons {a : α} {b : β} {as : List α} {bs : List β} : R a b → F2 R as bs → F2 R (a :: as) (b :: bs)
theorem F2.len {α β : Type} {R : α → β → Prop} {as : List α} {bs : List β} (h : F2 R as bs) : as.length = bs.length := by
  induction h with
  | nil => rfl
  | cons _ _ ih => simp [ih]
theorem F2.snoc {α β : Type} {R : α → β → Prop} {as : List α} {bs : List β} {a : α} {b : β} (h : F2 R as bs) (hr : R a b) : F2 R (as ++ [a]) (bs ++ [b]) := by
  induction h with
  | nil => exact .cons hr .nil
  | cons h _ ih => exact .cons h ih
def noId (op : AOp) : Bool := match op with
  | .app _ _ _ _ _ => false
  | .appz _ _ _ _ _ => false
  | op => !decide (op.kind = .new)
theorem noId_ev {e : Env} {H : Heap} {op : AOp} (h : noId op = true) (id id' : Nat) : evalOp C e id H op = evalOp C e id' H op := by
  cases op <;> first | rfl | (simp [noId, AOp.kind] at h; done)
def rdr (op : AOp) : Bool := match op with
  | .lds _ | .lda _ _ | .ia _ _ _ | .len _ _ | .cap _ => true
  | op => decide (op.kind = .pure)
def y1p (deps : List Nat) (isr : Bool) : Nat → List (AOper × Nat × List Nat) → Bool
  | _, [] => true
  | o, p :: ps => ((rdr p.1.op && isr) || !notIn o deps) && y1p deps isr (o + 1) ps
def statOk : List (AOper × Nat × List Nat) → List (AOper × Nat × List Nat) → Bool
  | _, [] => true
  | pre, p :: ps => noId p.1.op && Nat.beq p.2.1 0 && y1p p.2.2 (rdr p.1.op) 0 pre && statOk (pre ++ [p]) ps
def readF (p : AOper × Nat × List Nat) (f : Foot) : Prop := rdr p.1.op = true → ∃ r, f = .io r []
theorem footH_rdr {e : Env} {H : Heap} {op : AOp} (hr : rdr op = true) (hk : op.kind = .heap) : ∃ r, footH e H op = some (r, []) := by
  cases op <;> simp only [rdr, AOp.kind, reduceCtorEq, decide_false, Bool.false_eq_true] at hr hk
  all_goals simp only [footH]
  all_goals (try split) <;> exact ⟨_, rfl⟩
theorem stepV_seq {base : Nat} {p : AOper × Nat × List Nat} {v : AVal} (hb : base = H.length ∨ True) (hn : p.1.op.kind ≠ .new) (hw : wantedA e p.1.guard = some true) (hv : ∀ id, evalOp C e id H p.1.op = some (.ok v, H')) :
    ∃ f, stepV C base p.1 p.2.1 e H = some (f, v, H') ∧ readF p f := by
  refine ⟨footA e (base + p.2.1) H H' p.1.op, ?_, ?_⟩
  · simp [stepV, hw, hn, hv]
  · intro hr
    unfold footA
    cases hk : p.1.op.kind with
    | pure => exact ⟨[], rfl⟩
    | new => exact absurd hk hn
    | heap =>
      obtain ⟨r, h⟩ := footH_rdr (e := e) (H := H) hr hk
      simp only [h]
      exact ⟨r, rfl⟩
theorem y2a {deps : List Nat} {p : AOper × Nat × List Nat} {f : Foot} (hf : readF p f) : ∀ {pre : List (AOper × Nat × List Nat)} {gs : List Foot} {o : Nat}, F2 readF pre gs → y1p deps (rdr p.1.op) o pre = true → okEarlier deps f o gs = true
  | [], _, o, .nil, h => rfl
  | q :: pre, g :: gs, o, .cons hq hr, h => by
    simp only [y1p, Bool.and_eq_true, Bool.or_eq_true] at h
    simp only [okEarlier, Bool.and_eq_true, Bool.or_eq_true]
    refine ⟨?_, y2a hf hr h.2⟩
    rcases h.1 with h1 | h1
    · obtain ⟨r, rfl⟩ := hq h1.1
      obtain ⟨r', rfl⟩ := hf h1.2
      exact .inl rfl
    · exact .inr h1
theorem runD_seq {base : Nat} : ∀ {l pre : List (AOper × Nat × List Nat)} {gs : List Foot} {e e' : Env} {H H' : Heap}, statOk pre l = true → F2 readF pre gs → evalOps C (l.map (·.1)) e H = some (.norm, e', H') →
    ∃ fs, runD C base l e H = some (fs, e', H') ∧ ∀ all, all = gs ++ fs → okFs all pre.length l fs = true
  | [], pre, gs, e, e', H, H', _, _, h => by
    simp only [List.map_nil, evalOps, Option.some.injEq, Prod.mk.injEq, true_and] at h
    obtain ⟨rfl, rfl⟩ := h
    exact ⟨[], rfl, fun _ _ => rfl⟩
  | p :: l, pre, gs, e, e', H, H', hs, hg, h => by
    simp only [statOk, Bool.and_eq_true] at hs
    obtain ⟨⟨⟨s0, s2⟩, s3⟩, s4⟩ := hs
    have s1 : p.1.op.kind ≠ .new := by
      intro hk
      cases hop : p.1.op <;> rw [hop] at s0 hk <;> simp [noId, AOp.kind] at s0 hk
    have hlen : pre.length = gs.length := hg.len
    have fin : ∀ (f : Foot) (v : AVal) (H1 : Heap), stepV C base p.1 p.2.1 e H = some (f, v, H1) → readF p f → evalOps C (l.map (·.1)) (e.put p.1.dst v) H1 = some (.norm, e', H') →
        ∃ fs, runD C base (p :: l) e H = some (fs, e', H') ∧ ∀ all, all = gs ++ fs → okFs all pre.length (p :: l) fs = true := by
      intro f v H1 h1 h2 h3
      have hg2 : F2 readF (pre ++ [p]) (gs ++ [f]) := hg.snoc h2
      obtain ⟨fs, k1, k2⟩ := runD_seq (base := base) s4 hg2 h3
      refine ⟨f :: fs, by simp only [runD, h1, k1], ?_⟩
      rintro all rfl
      simp only [okFs, Bool.and_eq_true]
      refine ⟨?_, ?_⟩
      · rw [hlen, List.take_left]
        exact y2a h2 hg s3
      · have := k2 (gs ++ f :: fs) (by simp)
        simpa using this
    simp only [List.map_cons, evalOps] at h
    split at h
    · rename_i hw
      split at h
      · rename_i v H1 hv
        have hv' : ∀ id, evalOp C e id H p.1.op = some (.ok v, H1) := by
          intro id
          rw [noId_ev s0 id H.length]; exact hv
        obtain ⟨f, h1, h2⟩ := stepV_seq (base := base) (p := p) (.inr trivial) s1 hw hv'
        exact fin f v H1 h1 h2 h
      · simp at h
      · cases h
    · rename_i hw
      refine fin (.io [] []) undefA H ?_ (fun _ => ⟨[], rfl⟩) h
      simp [stepV, hw]
    · cases h
def rdrI (imp : List Nat) (o : AOper) : Bool := rdr o.op || (o.op.isCall && match o.dst with
  | some d => notIn d imp
  | none => false)
def y1e (imp : List Nat) (deps : List Nat) (isr : Bool) : Nat → List (AOper × Nat × List Nat) → Bool
  | _, [] => true
  | o, p :: ps => (!notIn o deps || (rdrI imp p.1 && isr)) && y1e imp deps isr (o + 1) ps
def statOkI (imp : List Nat) : List (AOper × Nat × List Nat) → List (AOper × Nat × List Nat) → Bool
  | _, [] => true
  | pre, p :: ps => noId p.1.op && y1e imp p.2.2 (rdrI imp p.1) 0 pre && statOkI imp (pre ++ [p]) ps
def readI (imp : List Nat) (p : AOper × Nat × List Nat) (f : Foot) : Prop := rdrI imp p.1 = true → ∃ r, f = .io r []
theorem y21 {imp deps : List Nat} {p : AOper × Nat × List Nat} {f : Foot} (hf : readI imp p f) : ∀ {pre : List (AOper × Nat × List Nat)} {gs : List Foot} {o : Nat}, F2 (readI imp) pre gs → y1e imp deps (rdrI imp p.1) o pre = true → okEarlier deps f o gs = true
  | [], _, o, .nil, h => rfl
  | q :: pre, g :: gs, o, .cons hq hr, h => by
    simp only [y1e, Bool.and_eq_true, Bool.or_eq_true] at h
    simp only [okEarlier, Bool.and_eq_true, Bool.or_eq_true]
    refine ⟨?_, y21 hf hr h.2⟩
    rcases h.1 with h1 | h1
    · exact .inr h1
    · obtain ⟨r, rfl⟩ := hq h1.1
      obtain ⟨r', rfl⟩ := hf h1.2
      exact .inl rfl
theorem okFs_I {imp : List Nat} : ∀ {l pre : List (AOper × Nat × List Nat)} {gs fs : List Foot}, statOkI imp pre l = true → F2 (readI imp) pre gs → F2 (readI imp) l fs → okFs (gs ++ fs) pre.length l fs = true
  | [], pre, gs, _, _, _, .nil => rfl
  | p :: l, pre, gs, f :: fs, hs, hg, .cons hf hr => by
    simp only [statOkI, Bool.and_eq_true] at hs
    simp only [okFs, Bool.and_eq_true]
    refine ⟨?_, ?_⟩
    · rw [hg.len, List.take_left]
      exact y21 hf hg hs.1.2
    · have := okFs_I (gs := gs ++ [f]) hs.2 (hg.snoc hf) hr
      simpa using this
section
variable {imp : List Nat} {l : List (AOper × Nat × List Nat)} {K : Env → Heap → Prop}
end
theorem O_ia {d es : Nat} {x i : AOpd} {l : List AOper} {xs : List AVal} {b : Bool} {k : IntKind} {n : Int} {y : AVal} {cells : List AVal} (hx : x.ev e = some (.lst xs b)) (hi : i.ev e = some (.int k n)) (h0 : 0 ≤ n) (hy : xs[n.toNat]? = some y) (hf : y.flat = cells) (hw : cells.length = es)
    (h : WO C l cs ((d, .ro cells) :: e) H Q) : WO C (⟨some d, .ia es x i, none⟩ :: l) cs e H Q := by
  refine O_h rfl rfl rfl ?_ h
  simp only [evH, hx, hi, h0, if_true, hy, AVal.width, hf, hw]
theorem O_v {d : Nat} {op : AOp} {g : Option (Nat × Bool)} {l : List AOper} {v : AVal} (v' : AVal) (hk : op.kind = .pure) (hg : wantedA e g = some true) (hv : evP e op = some v) (hvv : v = v') (h : WO C l cs ((d, v') :: e) H Q) : WO C (⟨some d, op, g⟩ :: l) cs e H Q := O_p hk hg (hvv ▸ hv) h
theorem appz_ev {es bytes k : Nat} {z : AVal} {s n : AOpd} (hs : s.ev e = some (.lst [] true)) (hn : n.ev e = some (.int .i64 (k : Nat))) (h0 : 0 < k) (hk : k < 9223372036854775808) (hz : z.width = es) (hb : k * bytes ≤ 140737488355328) :
    evH C e H.length H (.appz es bytes z s n) = some (.ok (.gl H.length k), H ++ [.grow es (List.replicate k z) (some 0)]) := by
  have h1 : ((k : Nat) : Int) ≠ 0 := by omega
  simp only [evH, hs, hn]
  rw [if_pos ⟨by omega, hz, by simp⟩, if_neg h1, if_pos (by refine ⟨trivial, ?_, by omega⟩; simpa using hb)]
  simp [newAt]
theorem cut_ev {es k id : Nat} {x hi : AOpd} {H0 : Heap} {xs : List AVal} (hx : x.ev e = some (.gl H0.length k)) (hh : hi.ev e = some (.int .i64 0)) (hk : k = xs.length) :
    evH C e id (H0 ++ [.grow es xs (some 0)]) (.slc es x none (some hi) none) = some (.ok (.gl (H0.length + 1) 0), H0 ++ [.dead, .grow es [] none]) := by
  have h1 : (H0 ++ [ABlock.grow es xs (some 0)])[H0.length]? = some (.grow es xs (some 0)) := by simp
  simp only [evH, hx, optEv, hh, cutOpen, h1]
  rw [if_pos (by refine ⟨hk, by simp, by simp, trivial⟩)]
  simp
theorem O_appL {d es bytes o len : Nat} {s x : AOpd} {l : List AOper} {xs ys : List AVal} {b : Bool} (hs : s.ev e = some (.gl o len)) (hx : x.ev e = some (.lst ys b)) (hb : H[o]? = some (.grow es xs none)) (hl : len = xs.length)
    (hw : xs.all (fun y => decide (y.width = es)) = true) (hy : ys.all (fun y => decide (y.width = es)) = true) (hm : (xs.length + ys.length) * bytes ≤ 140737488355328) {H2 : Heap} (hH : H.set o (.grow es (xs ++ ys) none) = H2)
    (h : WO C l cs ((d, .gl o (xs.length + ys.length)) :: e) H2 Q) : WO C (⟨some d, .app es bytes false s x, none⟩ :: l) cs e H Q := by
  subst hH
  refine O_h rfl rfl rfl ?_ h
  simp only [evH, hs, hx, appendA, elemsOf, hy, if_true, hb]
  rw [if_pos ⟨hl, .inl trivial, hw⟩]
  cases ys with
  | nil =>
    have : H.set o (.grow es xs none) = H := by
      apply List.ext_getElem?
      intro j
      rw [List.getElem?_set]
      split
      · rename_i hj; subst hj; rw [hb]; rw [if_pos (List.getElem?_eq_some_iff.1 hb).1]
      · rfl
    simp [hl, this]
  | cons y ys =>
    simp only [List.isEmpty_cons, Bool.false_eq_true, if_false]
    rw [if_pos hm]
end
theorem y3v : ∀ v, sameV v v = true := by
  intro v
  induction v using AVal.rec (motive_2 := fun vs => sameL vs vs = true) with
  | nil => rfl
  | cons v vs ih1 ih2 => simp [sameL, ih1, ih2]
  | _ => simp_all [sameV]
theorem y3n : ∀ vs, sameL vs vs = true
  | [] => rfl
  | v :: vs => by simp [sameL, y3v v, y3n vs]
theorem y3o : ∀ es, sameP es es = true
  | [] => rfl
  | (k, v) :: es => by simp [sameP, y3v, y3o es]
theorem y51 (b : Option ABlock) : sameB b b = true := by
  cases b with
  | none => rfl
  | some b => cases b <;> simp [sameB, y3n, y3o]
end Go.Ev
namespace Go.Ev
set_option linter.unusedVariables false
open Go
theorem len_succ {α : Type} {n : Nat} {vs : List α} (h : vs.length = n + 1) : ∃ x xs, vs = x :: xs ∧ xs.length = n := by
  cases vs with
  | nil => simp at h
  | cons x xs => exact ⟨x, xs, rfl, by simpa using h⟩
theorem len1 {α : Type} {vs : List α} (h : vs.length = 1) : ∃ a1, vs = [a1] := by
  obtain ⟨x, xs, rfl, h2⟩ := len_succ h
  cases xs with
  | nil => exact ⟨x, rfl⟩
  | cons _ _ => simp at h
theorem len2 {α : Type} {vs : List α} (h : vs.length = 2) : ∃ a1 a2, vs = [a1, a2] := by
  obtain ⟨x, xs, rfl, h2⟩ := len_succ h
  obtain ⟨a1, rfl⟩ := len1 h2
  exact ⟨x, a1, rfl⟩
theorem len3 {α : Type} {vs : List α} (h : vs.length = 3) : ∃ a1 a2 a3, vs = [a1, a2, a3] := by
  obtain ⟨x, xs, rfl, h2⟩ := len_succ h
  obtain ⟨a1, a2, rfl⟩ := len2 h2
  exact ⟨x, a1, a2, rfl⟩
theorem len4 {α : Type} {vs : List α} (h : vs.length = 4) : ∃ a1 a2 a3 a4, vs = [a1, a2, a3, a4] := by
  obtain ⟨x, xs, rfl, h2⟩ := len_succ h
  obtain ⟨a1, a2, a3, rfl⟩ := len3 h2
  exact ⟨x, a1, a2, a3, rfl⟩
theorem len5 {α : Type} {vs : List α} (h : vs.length = 5) : ∃ a1 a2 a3 a4 a5, vs = [a1, a2, a3, a4, a5] := by
  obtain ⟨x, xs, rfl, h2⟩ := len_succ h
  obtain ⟨a1, a2, a3, a4, rfl⟩ := len4 h2
  exact ⟨x, a1, a2, a3, a4, rfl⟩
theorem len6 {α : Type} {vs : List α} (h : vs.length = 6) : ∃ a1 a2 a3 a4 a5 a6, vs = [a1, a2, a3, a4, a5, a6] := by
  obtain ⟨x, xs, rfl, h2⟩ := len_succ h
  obtain ⟨a1, a2, a3, a4, a5, rfl⟩ := len5 h2
  exact ⟨x, a1, a2, a3, a4, a5, rfl⟩
theorem len7 {α : Type} {vs : List α} (h : vs.length = 7) : ∃ a1 a2 a3 a4 a5 a6 a7, vs = [a1, a2, a3, a4, a5, a6, a7] := by
  obtain ⟨x, xs, rfl, h2⟩ := len_succ h
  obtain ⟨a1, a2, a3, a4, a5, a6, rfl⟩ := len6 h2
  exact ⟨x, a1, a2, a3, a4, a5, a6, rfl⟩
theorem len8 {α : Type} {vs : List α} (h : vs.length = 8) : ∃ a1 a2 a3 a4 a5 a6 a7 a8, vs = [a1, a2, a3, a4, a5, a6, a7, a8] := by
  obtain ⟨x, xs, rfl, h2⟩ := len_succ h
  obtain ⟨a1, a2, a3, a4, a5, a6, a7, rfl⟩ := len7 h2
  exact ⟨x, a1, a2, a3, a4, a5, a6, a7, rfl⟩
end Go.Ev
namespace Go.Ev
set_option linter.unusedVariables false
set_option linter.unusedSimpArgs false
open Go
def Lim (p : Nat → Prop) : Prop := ∃ N, ∀ n, N ≤ n → p n
theorem Lim.of {p : Nat → Prop} (h : ∀ n, p n) : Lim p := ⟨0, fun n _ => h n⟩
theorem Lim.map {p q : Nat → Prop} (h1 : Lim p) (h : ∀ n, p n → q n) : Lim q := h1.elim fun N hN => ⟨N, fun n hn => h n (hN n hn)⟩
theorem Lim.map2 {p q r : Nat → Prop} (h1 : Lim p) (h2 : Lim q) (h : ∀ n, p n → q n → r n) : Lim r := by
  obtain ⟨N, hN⟩ := h1
  obtain ⟨M, hM⟩ := h2
  exact ⟨N + M, fun n hn => h n (hN n (by omega)) (hM n (by omega))⟩
theorem Lim.succ {p : Nat → Prop} (h : Lim fun n => p (n + 1)) : Lim p := by
  obtain ⟨N, hN⟩ := h
  refine ⟨N + 1, fun n hn => ?_⟩
  obtain ⟨m, rfl⟩ : ∃ m, n = m + 1 := ⟨n - 1, by omega⟩
  exact hN m (by omega)
theorem Lim.get {p : Nat → Prop} (h : Lim p) : ∃ n, p n := h.elim fun N hN => ⟨N, hN N (Nat.le_refl _)⟩
abbrev Cn (T : Nat → Option AFunc) (n : Nat) : Ctx := ⟨callF T n, n⟩
section
variable (T : Nat → Option AFunc)
def PRes (f : FuncId) (as : List AVal) (v : AVal) : Prop := Lim fun n => pcall T n f as = some (.ok v)
def HRes (f : FuncId) (as : List AVal) (H : Heap) (v : AVal) (H' : Heap) : Prop := Lim fun n => callF T n f as H = some (.ok v, H')
def CA (raw : Bool) (f : FuncId) (vs : List AVal) (H : Heap) (v : AVal) (H' : Heap) : Prop := Lim fun n => callA (Cn T n) raw f vs H = some (.ok v, H')
def GL : List ACode → Env → Heap → Post → Prop
  | [], e, H, Q => Q .norm e H
  | c :: cs, e, H, Q => ∃ x e' H', (Lim fun n => evalCode (Cn T n) c e H = some (x, e', H')) ∧ match x with
    | .norm => GL cs e' H' Q
    | x => Q x e' H'
def GO (l : List AOper) (cs : List ACode) (e : Env) (H : Heap) (Q : Post) : Prop :=
  ∃ x e' H', (Lim fun n => evalOps (Cn T n) l e H = some (x, e', H')) ∧ match x with
    | .norm => GL T cs e' H' Q
    | x => Q x e' H'
def GLoop (base : Nat) (keep : List Nat) (a : ACode) (e : Env) (H : Heap) (Q : Post) : Prop :=
  ∃ x e' H', (∃ N, ∀ n m, N ≤ n → N ≤ m → iter m (fun e' H' => evalCode (Cn T n) a (restr e' keep) (trunc base (restr e' keep) H')) e H = some (x, e', H')) ∧ x ≠ .norm ∧ Q x e' H'
end
section
variable {T : Nat → Option AFunc} {cs : List ACode} {e e' : Env} {H H' : Heap} {Q : Post}
theorem PRes.of_le {f : FuncId} {as : List AVal} {v : AVal} (N : Nat) (h : ∀ n, pcall T (n + N) f as = some (.ok v)) : PRes T f as v := ⟨N, fun n hn => by
  have := h (n - N); rwa [show n - N + N = n by omega] at this⟩
theorem CA_of {f : FuncId} {vs as : List AVal} {v : AVal} {H : Heap} (hs : shutL H vs = some as) (h : PRes T f as v) : CA T false f vs H v H := h.map fun n hn => callA_of hs hn
theorem CA_raw {f : FuncId} {vs : List AVal} {v : AVal} {H H1 H2 : Heap} (h : HRes T f vs H v H1) (hc : cutH H.length v H1 = H2) : CA T true f vs H v H2 := h.map fun n hn => callA_raw hn hc
theorem L_nil (h : Q .norm e H) : GL T [] e H Q := h
theorem L_skip (h : GL T cs e H Q) : GL T (.skip :: cs) e H Q := ⟨.norm, e, H, .of fun _ => rfl, h⟩
theorem L_ret (h : Q .ret e H) : GL T (.ret :: cs) e H Q := ⟨.ret, e, H, .of fun _ => rfl, h⟩
theorem L_exit {id : Nat} (h : Q (.exit id) e H) : GL T (.exit id :: cs) e H Q := ⟨.exit id, e, H, .of fun _ => rfl, h⟩
theorem L_seq {a b : ACode} (h : GL T (a :: b :: cs) e H Q) : GL T (.seq a b :: cs) e H Q := by
  obtain ⟨x, e1, H1, h1, h2⟩ := h
  cases x with
  | norm =>
    obtain ⟨y, e2, H2, h3, h4⟩ := h2
    exact ⟨y, e2, H2, h1.map2 h3 fun n k1 k2 => by simp only [evalCode, k1, k2], h4⟩
  | exit i => exact ⟨.exit i, e1, H1, h1.map fun n k => by simp only [evalCode, k], h2⟩
  | ret => exact ⟨.ret, e1, H1, h1.map fun n k => by simp only [evalCode, k], h2⟩
  | pan v => exact ⟨.pan v, e1, H1, h1.map fun n k => by simp only [evalCode, k], h2⟩
theorem L_reg {l : List AOper} (h : GO T l cs e H Q) : GL T (.reg l :: cs) e H Q := h
theorem L_T {x : AOpd} {a b : ACode} {t : Bool} (hx : x.ev e = some (.bool t)) (ht : t = true) (h : GL T (a :: cs) e H Q) : GL T (.cond x a b :: cs) e H Q := by
  subst ht
  obtain ⟨y, e2, H2, h3, h4⟩ := h
  exact ⟨y, e2, H2, h3.map fun n k => by simp only [evalCode, hx, if_true, k], h4⟩
theorem L_F {x : AOpd} {a b : ACode} {t : Bool} (hx : x.ev e = some (.bool t)) (ht : t = false) (h : GL T (b :: cs) e H Q) : GL T (.cond x a b :: cs) e H Q := by
  subst ht
  obtain ⟨y, e2, H2, h3, h4⟩ := h
  exact ⟨y, e2, H2, h3.map fun n k => by simp only [evalCode, hx, Bool.false_eq_true, if_false, k], h4⟩
theorem L_block {id : Nat} {a : ACode} (h : GL T [a] e H (Blk id (fun e' H' => GL T cs e' H' Q) Q)) : GL T (.block id a :: cs) e H Q := by
  obtain ⟨x, e1, H1, h1, h2⟩ := h
  cases x with
  | norm => exact ⟨.norm, e1, H1, h1.map fun n k => by simp only [evalCode, k], h2⟩
  | exit j =>
    simp only [Blk] at h2
    split at h2
    · rename_i hj; exact ⟨.norm, e1, H1, h1.map fun n k => by simp only [evalCode, k, hj, if_true], h2⟩
    · rename_i hj; exact ⟨.exit j, e1, H1, h1.map fun n k => by simp only [evalCode, k, hj, if_false], h2⟩
  | ret => exact ⟨.ret, e1, H1, h1.map fun n k => by simp only [evalCode, k], h2⟩
  | pan v => exact ⟨.pan v, e1, H1, h1.map fun n k => by simp only [evalCode, k], h2⟩
def Rd (K : Env → Heap → Prop) (Q : Post) : Post
  | .norm, e, H => K e H
  | x, e, H => Q x e H
theorem Rd_norm {K : Env → Heap → Prop} (h : K e H) : Rd K Q .norm e H := h
theorem Rd_exit {K : Env → Heap → Prop} {j : Nat} (h : Q (.exit j) e H) : Rd K Q (.exit j) e H := h
theorem Rd_ret {K : Env → Heap → Prop} (h : Q .ret e H) : Rd K Q .ret e H := h
theorem L_round {base : Nat} {keep : List Nat} {a : ACode} {e1 : Env} {H1 : Heap} (he : restr e keep = e1) (hH : trunc base e1 H = H1) (h : GL T [a] e1 H1 (Rd (fun e' H' => GLoop T base keep a e' H' Q) Q)) : GLoop T base keep a e H Q := by
  subst he hH
  obtain ⟨x, e1, H1, ⟨N, hN⟩, h2⟩ := h
  cases x with
  | norm =>
    obtain ⟨y, e2, H2, ⟨M, hM⟩, h3, h4⟩ := h2
    refine ⟨y, e2, H2, ⟨N + M + 1, fun n m hn hm => ?_⟩, h3, h4⟩
    obtain ⟨m, rfl⟩ : ∃ k, m = k + 1 := ⟨m - 1, by omega⟩
    simp only [iter, hN n (by omega), hM n m (by omega) (by omega)]
  | exit i =>
    refine ⟨.exit i, e1, H1, ⟨N + 1, fun n m hn hm => ?_⟩, by simp, h2⟩
    obtain ⟨m, rfl⟩ : ∃ k, m = k + 1 := ⟨m - 1, by omega⟩
    simp only [iter, hN n (by omega)]
  | ret =>
    refine ⟨.ret, e1, H1, ⟨N + 1, fun n m hn hm => ?_⟩, by simp, h2⟩
    obtain ⟨m, rfl⟩ : ∃ k, m = k + 1 := ⟨m - 1, by omega⟩
    simp only [iter, hN n (by omega)]
  | pan v =>
    refine ⟨.pan v, e1, H1, ⟨N + 1, fun n m hn hm => ?_⟩, by simp, h2⟩
    obtain ⟨m, rfl⟩ : ∃ k, m = k + 1 := ⟨m - 1, by omega⟩
    simp only [iter, hN n (by omega)]
theorem L_loop {keep : List Nat} {a : ACode} (h : GLoop T H.length keep a e H Q) : GL T (.loop keep a :: cs) e H Q := by
  obtain ⟨x, e1, H1, ⟨N, hN⟩, h2, h3⟩ := h
  refine ⟨x, e1, H1, ⟨N, fun n hn => hN n n hn hn⟩, ?_⟩
  cases x with
  | norm => exact absurd rfl h2
  | _ => exact h3
theorem G_nil (h : GL T cs e H Q) : GO T [] cs e H Q := ⟨.norm, e, H, .of fun _ => rfl, h⟩
theorem G_step {o : AOper} {l : List AOper} {v : AVal} (hg : wantedA e o.guard = some true) (hv : Lim fun n => evalOp (Cn T n) e H.length H o.op = some (.ok v, H')) (h : GO T l cs (e.put o.dst v) H' Q) : GO T (o :: l) cs e H Q := by
  obtain ⟨x, e1, H1, h1, h2⟩ := h
  exact ⟨x, e1, H1, hv.map2 h1 fun n k1 k2 => by simp only [evalOps, hg, k1, k2], h2⟩
section
variable {d : Nat} {op : AOp} {g : Option (Nat × Bool)} {l : List AOper} {v : AVal}
theorem G_p (hk : op.kind = .pure) (hg : wantedA e g = some true) (hv : evP e op = some v) (h : GO T l cs ((d, v) :: e) H Q) : GO T (⟨some d, op, g⟩ :: l) cs e H Q :=
  G_step (v := v) (H' := H) hg (.of fun n => by simp only [evalOp, hk, hv, okv]) h
theorem G_v {v : AVal} (v' : AVal) (hk : op.kind = .pure) (hg : wantedA e g = some true) (hv : evP e op = some v) (hvv : v = v') (h : GO T l cs ((d, v') :: e) H Q) : GO T (⟨some d, op, g⟩ :: l) cs e H Q := G_p hk hg (hvv ▸ hv) h
theorem G_n {B : ABlock} (hk : op.kind = .new) (hg : wantedA e g = some true) (hv : evN e H.length op = some (v, B)) (h : GO T l cs ((d, v) :: e) (H ++ [B]) Q) : GO T (⟨some d, op, g⟩ :: l) cs e H Q :=
  G_step (v := v) (H' := H ++ [B]) hg (.of fun n => by simp only [evalOp, hk, hv, newAt, if_true]) h
theorem G_h (hc : op.isCall = false) (hk : op.kind = .heap) (hg : wantedA e g = some true) (hv : ∀ C, evH C e H.length H op = some (.ok v, H')) (h : GO T l cs ((d, v) :: e) H' Q) : GO T (⟨some d, op, g⟩ :: l) cs e H Q :=
  G_step (v := v) (H' := H') hg (.of fun n => by simp only [evalOp, hk, hv]) h
theorem G_hn (hc : op.isCall = false) (hk : op.kind = .heap) (hg : wantedA e g = some true) (hv : ∀ C, evH C e H.length H op = some (.ok v, H')) (h : GO T l cs e H' Q) : GO T (⟨none, op, g⟩ :: l) cs e H Q :=
  G_step (v := v) (H' := H') hg (.of fun n => by simp only [evalOp, hk, hv]) h
theorem G_c {raw : Bool} (f : FuncId) {args : List AOpd} {vs : List AVal} (hg : wantedA e g = some true) (hvs : evs e args = some vs) (hv : CA T raw f vs H v H') (h : GO T l cs ((d, v) :: e) H' Q) : GO T (⟨some d, .call raw f args, g⟩ :: l) cs e H Q :=
  G_step (v := v) (H' := H') hg (hv.map fun n hn => by simp only [evalOp, AOp.kind, evH, hvs, hn]) h
end
theorem bare_offU {C : Ctx} {k : Nat} {w b : Bool} (hb : b ≠ w) : ∀ {blk l : List AOper} {ks seen : List Nat} {e : Env} {r : List AOper} {H : Heap}, bare k w seen blk = some (l, ks) → e.get k = some (.bool b) → (∀ d, d ∈ seen → e.get d = some undefA) →
    evalOps C (blk ++ r) e H = evalOps C r (junk ks (List.replicate ks.length undefA) e) H ∧ (junk ks (List.replicate ks.length undefA) e).get k = some (.bool b)
  | [], l, ks, seen, e, r, H, h, hk, hs => by
    simp only [bare, Option.some.injEq, Prod.mk.injEq] at h
    obtain ⟨rfl, rfl⟩ := h
    exact ⟨rfl, hk⟩
  | o :: blk, l, ks, seen, e, r, H, h, hk, hs => by
    obtain ⟨d, op, g⟩ := o
    cases d with
    | none => simp [bare] at h
    | some d =>
      cases g with
      | none => simp [bare] at h
      | some g =>
        obtain ⟨k', w'⟩ := g
        simp only [bare] at h
        split at h <;> first | (cases h; done) | skip
        rename_i hd
        have hdk : d ≠ k := by intro hh; subst hh; simp at hd
        have hseen : ∀ c, c ∈ d :: seen → Env.get ((d, undefA) :: e) c = some undefA := by
          intro c hc
          by_cases hcd : d = c
          · subst hcd; simp [Env.get]
          · rw [y10 hcd]
            rcases List.mem_cons.1 hc with h1 | h1
            · exact absurd h1.symm hcd
            · exact hs c h1
        split at h
        · rename_i hc
          simp only [Bool.and_eq_true, beq_iff_eq] at hc
          split at h <;> first | (cases h; done) | skip
          rename_i l' ks' hr
          simp only [Option.some.injEq, Prod.mk.injEq] at h
          obtain ⟨rfl, rfl⟩ := h
          have e1 := Nat.eq_of_beq_eq_true hc.1
          have e2 := hc.2
          subst e1 e2
          obtain ⟨h2, h3⟩ := bare_offU hb (e := (d, undefA) :: e) (r := r) (H := H) hr (by rw [y10 hdk]; exact hk) hseen
          refine ⟨?_, h3⟩
          have hbw : (b == w') = false := by simpa using hb
          simp only [List.cons_append, evalOps, wantedA, hk, hbw, Env.put]
          exact h2
        · split at h <;> first | (cases h; done) | skip
          rename_i hc
          simp only [Bool.and_eq_true, Bool.not_eq_true'] at hc
          split at h <;> first | (cases h; done) | skip
          rename_i l' ks' hr
          simp only [Option.some.injEq, Prod.mk.injEq] at h
          obtain ⟨rfl, rfl⟩ := h
          obtain ⟨h2, h3⟩ := bare_offU hb (e := (d, undefA) :: e) (r := r) (H := H) hr (by rw [y10 hdk]; exact hk) hseen
          refine ⟨?_, h3⟩
          have := hs k' (y3b hc.1)
          simp only [undefA] at this
          simp only [List.cons_append, evalOps, wantedA, this, Env.put]
          exact h2
theorem bare_onU {k : Nat} {w : Bool} {blk l : List AOper} {ks : List Nat} {e e1 : Env} {H : Heap} (hb : bare k w [] blk = some (l, ks)) (hk : e.get k = some (.bool w)) (h4 : Lim fun n => evalOps (Cn T n) l e H = some (.norm, e1, H)) :
    ∃ vs, vs.length = ks.length ∧ e1 = junk ks vs e ∧ (junk ks vs e).get k = some (.bool w) ∧ ∀ r, Lim fun n => evalOps (Cn T n) (blk ++ r) e H = evalOps (Cn T n) r (junk ks vs e) H := by
  obtain ⟨n0, hn0⟩ := h4.get
  obtain ⟨vs, h1, _, h3, h7⟩ := bare_on (C := Cn T n0) (w := w) (r := []) hb hk hn0
  refine ⟨vs, h1, h7, h3, fun r => h4.map fun n hn => ?_⟩
  obtain ⟨us, _, k2, _, k7⟩ := bare_on (C := Cn T n) (w := w) (r := r) hb hk hn
  rw [k2, ← k7, h7]
theorem G_pick (w : Bool) (blk : List AOper) {k d : Nat} {b : Bool} {v vo : AVal} {x y : AOpd} {l r : List AOper} {ks : List Nat} (hb : bare k w [] blk = some (l, ks)) (hk : e.get k = some (.bool b))
    (hT : b = w → GO T l [] e H (fun z e1 H1 => z = .norm ∧ H1 = H ∧ (if w then x.ev e1 else y.ev e1) = some v)) (hF : b ≠ w → v = vo) (ho : (if w then y else x) = .c vo)
    (h : ∀ vs, vs.length = ks.length → GO T r cs ((d, v) :: junk ks vs e) H Q) : GO T (blk ++ ⟨some d, .pick (.t k) x y, none⟩ :: r) cs e H Q := by
  by_cases hbw : b = w
  · subst hbw
    obtain ⟨z, e1, H1, h4, h5⟩ := hT rfl
    have h5' : z = .norm ∧ H1 = H ∧ (if b then x.ev e1 else y.ev e1) = some v := by
      cases z with
      | norm => exact h5
      | _ => exact h5
    obtain ⟨rfl, rfl, h6⟩ := h5'
    obtain ⟨vs, h1, rfl, h3, h7⟩ := bare_onU hb hk h4
    obtain ⟨z, e', H', h8, h9⟩ := h vs h1
    refine ⟨z, e', H', (h7 (⟨some d, .pick (.t k) x y, none⟩ :: r)).map2 h8 fun n k1 k2 => ?_, h9⟩
    rw [k1]
    cases b with
    | true =>
      simp only [if_true] at h6
      have h3' : (AOpd.t k).ev (junk ks vs e) = some (.bool true) := h3
      simp only [evalOps, wantedA, evalOp, AOp.kind, evP, h3', h6, okv, Env.put]
      exact k2
    | false =>
      simp only [Bool.false_eq_true, if_false] at h6
      have h3' : (AOpd.t k).ev (junk ks vs e) = some (.bool false) := h3
      simp only [evalOps, wantedA, evalOp, AOp.kind, evP, h3', h6, okv, Env.put]
      exact k2
  · obtain rfl := hF hbw
    obtain ⟨z, e', H', h4, h5⟩ := h (List.replicate ks.length undefA) (by simp)
    refine ⟨z, e', H', h4.map fun n k1 => ?_, h5⟩
    obtain ⟨h2, h3⟩ := bare_offU (C := Cn T n) hbw (r := ⟨some d, .pick (.t k) x y, none⟩ :: r) (H := H) hb hk (by simp)
    rw [h2]
    cases w with
    | true =>
      have hbf : b = false := by cases b <;> simp_all
      subst hbf
      simp only [if_true] at ho
      subst ho
      simp only [evalOps, wantedA, evalOp, AOp.kind, evP, AOpd.ev, h3, okv, Env.put]
      exact k1
    | false =>
      have hbt : b = true := by cases b <;> simp_all
      subst hbt
      simp only [Bool.false_eq_true, if_false] at ho
      subst ho
      simp only [evalOps, wantedA, evalOp, AOp.kind, evP, AOpd.ev, h3, okv, Env.put]
      exact k1
theorem G_and (blk : List AOper) {k s d : Nat} {b f : Bool} {l r : List AOper} {ks : List Nat} (hb : bare k true [] blk = some (l, ks)) (hk : e.get k = some (.bool b))
    (hT : b = true → GO T l [] e H (fun x e1 H1 => x = .norm ∧ H1 = H ∧ e1.get s = some (.bool f)))
    (h : ∀ vs, vs.length = ks.length → GO T r cs ((d, .bool (b && f)) :: junk ks vs e) H Q) : GO T (blk ++ ⟨some d, .pick (.t k) (.t s) (.c (.bool false)), none⟩ :: r) cs e H Q :=
  G_pick true blk hb hk (fun h1 => by subst h1; exact hT rfl) (fun h1 => by cases b <;> simp_all) rfl h
theorem G_or (blk : List AOper) {k s d : Nat} {b f : Bool} {l r : List AOper} {ks : List Nat} (hb : bare k false [] blk = some (l, ks)) (hk : e.get k = some (.bool b))
    (hT : b = false → GO T l [] e H (fun x e1 H1 => x = .norm ∧ H1 = H ∧ e1.get s = some (.bool f)))
    (h : ∀ vs, vs.length = ks.length → GO T r cs ((d, .bool (b || f)) :: junk ks vs e) H Q) : GO T (blk ++ ⟨some d, .pick (.t k) (.c (.bool true)) (.t s), none⟩ :: r) cs e H Q :=
  G_pick false blk hb hk (fun h1 => by subst h1; exact hT rfl) (fun h1 => by cases b <;> simp_all) rfl h
theorem L_drawS {l : List (AOper × Nat × List Nat)} {ops : List AOper} (hs : statOk [] l = true) (ho : l.map (·.1) = ops) (h : GO T ops [] e H (fun x e' H' => x = .norm ∧ GL T cs e' H' Q)) : GL T (.draw 0 l :: cs) e H Q := by
  subst ho
  obtain ⟨x, e1, H1, h1, h2⟩ := h
  have h2' : x = .norm ∧ GL T cs e1 H1 Q := by
    cases x with
    | norm => exact h2
    | _ => exact h2
  obtain ⟨rfl, h3⟩ := h2'
  refine ⟨.norm, e1, H1, h1.map fun n hn => ?_, h3⟩
  obtain ⟨fs, k1, k2⟩ := runD_seq (base := H.length) (gs := []) hs .nil hn
  simp only [evalCode, evalDraw, List.replicate_zero, List.append_nil, k1]
  exact if_pos (k2 fs rfl)
def GS (T : Nat → Option AFunc) (imp : List Nat) (l : List (AOper × Nat × List Nat)) (e : Env) (H : Heap) (K : Env → Heap → Prop) : Prop :=
  ∃ e' H', K e' H' ∧ Lim fun n => ∀ base, ∃ fs, runD (Cn T n) base l e H = some (fs, e', H') ∧ F2 (readI imp) l fs
theorem L_drawT (imp : List Nat) {l : List (AOper × Nat × List Nat)} (hs : statOkI imp [] l = true) (h : GS T imp l e H (fun e' H' => GL T cs e' H' Q)) : GL T (.draw 0 l :: cs) e H Q := by
  obtain ⟨e1, H1, h1, h2⟩ := h
  refine ⟨.norm, e1, H1, h2.map fun n hn => ?_, h1⟩
  obtain ⟨fs, h3, h4⟩ := hn H.length
  have h5 := okFs_I hs .nil h4
  rw [List.nil_append] at h5
  simp only [evalCode, evalDraw, List.replicate_zero, List.append_nil, h3]
  exact if_pos h5
section
variable {imp : List Nat} {l : List (AOper × Nat × List Nat)} {K : Env → Heap → Prop} {d j : Nat} {ds : List Nat} {op : AOp} {g : Option (Nat × Bool)} {v : AVal}
theorem GS_nil (h : K e H) : GS T imp [] e H K := ⟨e, H, h, .of fun _ _ => ⟨[], rfl, .nil⟩⟩
theorem GS_step {o : AOper} (hv : Lim fun n => ∀ base, ∃ f, stepV (Cn T n) base o j e H = some (f, v, H') ∧ readI imp (o, j, ds) f) (h : GS T imp l (e.put o.dst v) H' K) : GS T imp ((o, j, ds) :: l) e H K := by
  obtain ⟨e1, H1, h1, h2⟩ := h
  refine ⟨e1, H1, h1, hv.map2 h2 fun n k1 k2 base => ?_⟩
  obtain ⟨f, h3, h4⟩ := k1 base
  obtain ⟨fs, h5, h6⟩ := k2 base
  exact ⟨f :: fs, by simp only [runD, h3, h5], .cons h4 h6⟩
theorem GS_p (hk : op.kind = .pure) (hg : wantedA e g = some true) (hv : evP e op = some v) (h : GS T imp l ((d, v) :: e) H K) : GS T imp ((⟨some d, op, g⟩, j, ds) :: l) e H K :=
  GS_step (H' := H) (v := v) (.of fun n base => ⟨.io [] [], by simp [stepV, hg, hk, evalOp, hv, okv, footA], fun _ => ⟨[], rfl⟩⟩) h
theorem GS_v (v' : AVal) (hk : op.kind = .pure) (hg : wantedA e g = some true) (hv : evP e op = some v) (hvv : v = v') (h : GS T imp l ((d, v') :: e) H K) : GS T imp ((⟨some d, op, g⟩, j, ds) :: l) e H K :=
  GS_p hk hg (hvv ▸ hv) h
theorem GS_s (hg : wantedA e g = some false) (h : GS T imp l ((d, undefA) :: e) H K) : GS T imp ((⟨some d, op, g⟩, j, ds) :: l) e H K :=
  GS_step (H' := H) (v := undefA) (.of fun n base => ⟨.io [] [], by simp [stepV, hg], fun _ => ⟨[], rfl⟩⟩) h
theorem GS_h {d : Option Nat} (hn : noId op = true) (hc : op.isCall = false) (hk : op.kind = .heap) (hg : wantedA e g = some true) (hv : ∀ C, evH C e H.length H op = some (.ok v, H'))
    (h : GS T imp l (e.put d v) H' K) : GS T imp ((⟨d, op, g⟩, j, ds) :: l) e H K := by
  refine GS_step (v := v) (H' := H') (.of fun n base => ?_) h
  have h1 : evalOp (Cn T n) e (base + j) H op = some (.ok v, H') := by
    rw [noId_ev hn _ H.length]; simp only [evalOp, hk, hv]
  refine ⟨footA e (base + j) H H' op, by simp [stepV, hg, hk, h1], ?_⟩
  intro hr
  simp only [rdrI, hc, Bool.false_and, Bool.or_false] at hr
  obtain ⟨r, hf⟩ := footH_rdr (e := e) (H := H) hr hk
  simp only [footA, hk, hf]
  exact ⟨r, rfl⟩
theorem GS_c (f : FuncId) {args : List AOpd} {vs as : List AVal} (hg : wantedA e g = some true) (hvs : evs e args = some vs) (hs : shutL H vs = some as) (hv : CA T false f vs H v H)
    (h : GS T imp l ((d, v) :: e) H K) : GS T imp ((⟨some d, .call false f args, g⟩, j, ds) :: l) e H K :=
  GS_step (v := v) (H' := H) (hv.map fun n hn base => ⟨.io (glsL vs) [], by simp [stepV, hg, AOp.kind, evalOp, evH, hvs, hn, footA, footH, footArgs, hs], fun _ => ⟨_, rfl⟩⟩) h
end
section
variable {base : Nat} {l : List (AOper × Nat × List Nat)} {acc : List Foot} {K : List Foot → Env → Heap → Prop} {d j : Nat} {ds : List Nat} {op : AOp} {g : Option (Nat × Bool)} {v : AVal}
end
theorem pres_fin {f : Nat} {body : ACode} {rs : List ARes} {as : List AVal} {v : AVal} (h : T f = some ⟨body, rs⟩)
    (hw : GL T [body] (initEnv 0 as) [] (FinQ rs (.ok v))) : PRes T f as v := by
  obtain ⟨x, e1, H1, h1, h2⟩ := hw
  refine Lim.succ (h1.map fun n hn => ?_)
  rw [y42 h, show (⟨callF T n, n⟩ : Ctx) = Cn T n from rfl, hn]
  cases x with
  | norm =>
    obtain ⟨vs, h3, v, h4, h5⟩ := h2
    cases h5
    simp only [finish, h3, pureRes, h4]
  | ret =>
    obtain ⟨vs, h3, v, h4, h5⟩ := h2
    cases h5
    simp only [finish, h3, pureRes, h4]
  | pan v =>
    obtain ⟨v', h3, h5⟩ := h2
    cases h5
  | exit i => exact h2.elim
theorem hres_fin {f : Nat} {body : ACode} {rs : List ARes} {as : List AVal} {H : Heap} {v : AVal} {H' : Heap} (h : T f = some ⟨body, rs⟩)
    (hw : GL T [body] (initEnv 0 as) H (FinH rs fun y H2 => y = .ok v ∧ H2 = H')) : HRes T f as H v H' := by
  obtain ⟨y, e1, H1, h1, h2⟩ := hw
  refine Lim.succ (h1.map fun n hn => ?_)
  simp only [callF, h, show (⟨callF T n, n⟩ : Ctx) = Cn T n from rfl, hn]
  cases y with
  | norm =>
    obtain ⟨vs, h3, h4, rfl⟩ := h2
    cases h4
    simp only [finish, h3]
  | ret =>
    obtain ⟨vs, h3, h4, rfl⟩ := h2
    cases h4
    simp only [finish, h3]
  | pan v =>
    obtain ⟨h4, h5⟩ := h2
    cases h4
  | exit i => exact h2.elim
theorem GL_nilI : GL T [] e H Q ↔ Q .norm e H := Iff.rfl
theorem GL_consI {c : ACode} : GL T (c :: cs) e H Q ↔ ∃ x e' H', (Lim fun n => evalCode (Cn T n) c e H = some (x, e', H')) ∧ match x with
    | .norm => GL T cs e' H' Q
    | x => Q x e' H' := Iff.rfl
theorem GL_mono {Q' : Post} (hq : ∀ x e H, Q x e H → Q' x e H) : ∀ {cs : List ACode} {e : Env} {H : Heap}, GL T cs e H Q → GL T cs e H Q'
  | [], e, H, h => hq _ _ _ h
  | c :: cs, e, H, h => by
    obtain ⟨x, e1, H1, h1, h2⟩ := h
    refine ⟨x, e1, H1, h1, ?_⟩
    cases x with
    | norm => exact GL_mono hq h2
    | exit i => exact hq _ _ _ h2
    | ret => exact hq _ _ _ h2
    | pan v => exact hq _ _ _ h2
theorem Rd_mono {K K' : Env → Heap → Prop} (hk : ∀ e H, K e H → K' e H) : ∀ x e H, Rd K Q x e H → Rd K' Q x e H
  | .norm, e, H, h => hk _ _ h
  | .exit i, e, H, h => h
  | .ret, e, H, h => h
  | .pan v, e, H, h => h
end
attribute [irreducible] GL GO GLoop GS
end Go.Ev
namespace Go.Ev
set_option linter.unusedVariables false
set_option linter.unusedSimpArgs false
open Go
theorem bind_s {α β : Type} {o : Option α} {f : α → Option β} {r : β} (h : o.bind f = some r) : ∃ x, o = some x ∧ f x = some r := by
  cases o with
  | none => cases h
  | some x => exact ⟨x, rfl, h⟩
theorem cond_s {α : Type} {c : Bool} {a b : Option α} {r : α} (h : cond c a b = some r) : (c = true ∧ a = some r) ∨ (c = false ∧ b = some r) := by
  cases c with
  | true => exact .inl ⟨rfl, h⟩
  | false => exact .inr ⟨rfl, h⟩
theorem some_s {α : Type} {a b : α} (h : some a = some b) : a = b := Option.some.inj h
theorem guard_s {α : Type} {c : Bool} {a : Option α} {r : α} (h : cond c a none = some r) : c = true ∧ a = some r := by
  cases c with
  | true => exact ⟨rfl, h⟩
  | false => cases h
def okLen {α : Type} (l : List α) : Bool := decide (l.length < 100000000000)
theorem okLen_s {α : Type} {l : List α} (h : okLen l = true) : l.length < 100000000000 := of_decide_eq_true h
theorem okLen_of {α : Type} {l : List α} (h : l.length < 100000000000) : okLen l = true := decide_eq_true h
def idx {α : Type} (l : List α) (i : Int) : Option α := if 0 ≤ i then l[i.toNat]? else none
theorem idx_s {α : Type} {l : List α} {i : Int} {x : α} (h : idx l i = some x) : 0 ≤ i ∧ l[i.toNat]? = some x := by
  unfold idx at h
  split at h
  · rename_i h0; exact ⟨h0, h⟩
  · cases h
theorem idx_nat {α : Type} (l : List α) (i : Nat) : idx l (i : Int) = l[i]? := by unfold idx; rw [if_pos (Int.natCast_nonneg _), Int.toNat_natCast]
def catL {α : Type} (l m : List α) : Option (List α) := if l.length + m.length < 100000000000 then some (l ++ m) else none
theorem catL_s {α : Type} {l m r : List α} (h : catL l m = some r) : r = l ++ m ∧ l.length + m.length < 100000000000 := by
  unfold catL at h
  split at h
  · rename_i h0; cases h; exact ⟨rfl, h0⟩
  · cases h
theorem catL_of {α : Type} {l m : List α} (h : l.length + m.length < 100000000000) : catL l m = some (l ++ m) := if_pos h
def esz (w n : Nat) : Nat := if n = 0 then 0 else w
def growM {α : Type} (w : Nat) (f : α → AVal) (l : List α) : ABlock := .grow (esz w l.length) (l.map f) none
theorem growM_w {α : Type} {w : Nat} {f : α → AVal} (hf : ∀ x, (f x).width = w) (l : List α) : (l.map f).all (fun y => decide (y.width = w)) = true := by
  rw [List.all_eq_true]
  intro y hy
  obtain ⟨x, _, rfl⟩ := List.mem_map.1 hy
  simp [hf]
theorem map_get {α : Type} {f : α → AVal} {l : List α} {n : Nat} {x : α} (h : l[n]? = some x) : (l.map f)[n]? = some (f x) := by rw [List.getElem?_map, h]; rfl
theorem shutR_gl {α : Type} {H : Heap} {o w : Nat} {f : α → AVal} {l : List α} (h : H[o]? = some (growM w f l)) : shutR H (.gl o l.length) = some (.lst (l.map f) false) := by
  simp [shutR, growAt, h, growM]
theorem wrap_next {i n : Nat} (h : n < 100000000000) (hi : i < n) : IntKind.i64.wrap ((i : Int) + 1) = ((i + 1 : Nat) : Int) := by
  rw [kw_i64_id (by omega) (by omega)]; rfl
section
variable {T : Nat → Option AFunc} {cs : List ACode} {e e' : Env} {H H' : Heap} {Q : Post}
def Sm (keep : List Nat) (frz : List (Nat × Option Nat)) (n : Nat) (K : Env → Heap → Prop) (Q : Post) : Post
  | .norm, e, H => K (stmtE keep frz e H) (stmtH n keep frz e H)
  | x, e, H => Q x e H
theorem Sm_norm {keep : List Nat} {frz : List (Nat × Option Nat)} {n : Nat} {K : Env → Heap → Prop} {e1 e2 : Env} {H1 H2 : Heap} (h0 : frzAll frz e H = (e1, H1)) (h1 : restr e1 keep = e2) (h2 : trunc n e2 H1 = H2) (h : K e2 H2) : Sm keep frz n K Q .norm e H := by
  subst h1 h2
  show K (stmtE keep frz e H) (stmtH n keep frz e H)
  unfold stmtH stmtE
  rw [h0]; exact h
theorem Sm_exit {keep : List Nat} {frz : List (Nat × Option Nat)} {n : Nat} {K : Env → Heap → Prop} {j : Nat} (h : Q (.exit j) e H) : Sm keep frz n K Q (.exit j) e H := h
theorem Sm_ret {keep : List Nat} {frz : List (Nat × Option Nat)} {n : Nat} {K : Env → Heap → Prop} (h : Q .ret e H) : Sm keep frz n K Q .ret e H := h
theorem L_stmt {keep : List Nat} {frz : List (Nat × Option Nat)} {a : ACode} (h : GL T [a] e H (Sm keep frz H.length (fun e' H' => GL T cs e' H' Q) Q)) : GL T (.stmt keep frz a :: cs) e H Q := by
  rw [GL_consI] at h ⊢
  obtain ⟨x, e1, H1, h1, h2⟩ := h
  cases x with
  | norm =>
    rw [GL_nilI] at h2
    exact ⟨.norm, _, _, h1.map fun n k => by simp only [evalCode, k], h2⟩
  | exit i => exact ⟨.exit i, e1, H1, h1.map fun n k => by simp only [evalCode, k], h2⟩
  | ret => exact ⟨.ret, e1, H1, h1.map fun n k => by simp only [evalCode, k], h2⟩
  | pan v => exact ⟨.pan v, e1, H1, h1.map fun n k => by simp only [evalCode, k], h2⟩
theorem L_stmtJ {S : Type} {keep : List Nat} {frz : List (Nat × Option Nat)} {a : ACode} (envs : S → Env) (heaps : S → Heap) (P : S → Prop) (h1 : GL T [a] e H (Sm keep frz H.length (fun e' H' => ∃ s, e' = envs s ∧ H' = heaps s ∧ P s) Q)) (h2 : ∀ s, P s → GL T cs (envs s) (heaps s) Q) :
    GL T (.stmt keep frz a :: cs) e H Q := by
  refine L_stmt (GL_mono ?_ h1)
  intro x e1 H1 h
  cases x with
  | norm => obtain ⟨s, k1, k2, k3⟩ := h; show GL T cs _ _ Q; rw [k1, k2]; exact h2 s k3
  | exit i => exact h
  | ret => exact h
  | pan v => exact h
theorem L_range {X S : Type} {keep : List Nat} {a : ACode} (L : List X) (envs : Nat → S → Env) (heaps : Nat → S → Heap) (P : List X → Nat → S → Prop) (s0 : S)
    (he : restr e keep = envs 0 s0) (hH : trunc H.length (envs 0 s0) H = heaps 0 s0) (h0 : P L 0 s0)
    (hnil : ∀ s, P [] L.length s → GL T [a] (envs L.length s) (heaps L.length s) (Rd (fun _ _ => False) Q))
    (hcons : ∀ x rest i s, L[i]? = some x → i < L.length → P (x :: rest) i s → GL T [a] (envs i s) (heaps i s) (Rd (fun e' H' => ∃ s', restr e' keep = envs (i + 1) s' ∧ trunc H.length (envs (i + 1) s') H' = heaps (i + 1) s' ∧ P rest (i + 1) s') Q)) :
    GL T (.loop keep a :: cs) e H Q := by
  refine L_loop ?_
  have key : ∀ (rest : List X) (i : Nat) (s : S) (e2 : Env) (H2 : Heap), L.drop i = rest → i ≤ L.length → P rest i s → restr e2 keep = envs i s → trunc H.length (envs i s) H2 = heaps i s → GLoop T H.length keep a e2 H2 Q := by
    intro rest
    induction rest with
    | nil =>
      intro i s e2 H2 hd hi hP he hH
      have hi2 : i = L.length := by
        have := congrArg List.length hd
        simp at this; omega
      subst hi2
      refine L_round he hH ?_
      exact GL_mono (Rd_mono fun _ _ h => h.elim) (hnil s hP)
    | cons x rest ih =>
      intro i s e2 H2 hd hi hP he hH
      have hx : L[i]? = some x := by
        have := congrArg (fun l => l[0]?) hd
        simpa using this
      have hlt := (List.getElem?_eq_some_iff.1 hx).1
      refine L_round he hH ?_
      refine GL_mono (Rd_mono ?_) (hcons x rest i s hx hlt hP)
      rintro e3 H3 ⟨s', k1, k2, k3⟩
      refine ih (i + 1) s' e3 H3 ?_ (by omega) k3 k1 k2
      have := congrArg List.tail hd
      simpa using this
  exact key L 0 s0 e H rfl (Nat.zero_le _) h0 he hH
theorem ia_ev {id es : Nat} {x i : AOpd} {xs : List AVal} {b : Bool} {k : IntKind} {n : Int} {y : AVal} {cells : List AVal} (hx : x.ev e = some (.lst xs b)) (hi : i.ev e = some (.int k n)) (h0 : 0 ≤ n) (hy : xs[n.toNat]? = some y) (hf : y.flat = cells) (hw : cells.length = es) (C : Ctx) :
    evH C e id H (.ia es x i) = some (.ok (.ro cells), H) := by
  simp only [evH, hx, hi, h0, if_true, hy, AVal.width, hf, hw]
theorem lenL_ev {id : Nat} {x : AOpd} {xs : List AVal} {b : Bool} {n : Nat} (hx : x.ev e = some (.lst xs b)) (hn : xs.length = n) (C : Ctx) : evH C e id H (.len .slice x) = some (.ok (.int .i64 (n : Nat)), H) := by
  subst hn
  simp only [evH, hx, lenOf]; rfl
theorem appN_ev {α : Type} {id es bytes : Nat} {s x : AOpd} {sx : AVal} {f : α → AVal} {ys : List α} (hf : ∀ x, (f x).width = es) (hby : bytes ≤ 1400) (hs : s.ev e = some (.lst [] true)) (hx : x.ev e = some sx) (he : elemsOf H sx = some (ys.map f)) (hne : ys.isEmpty = false) (hl : okLen ys = true) {H2 : Heap} (hn : newAt H id (growM es f ys) = some H2) (C : Ctx) :
    evH C e id H (.app es bytes false s x) = some (.ok (.gl id ys.length), H2) := by
  have hy := growM_w hf ys
  have hl := okLen_s hl
  have hm : ys.length * bytes ≤ 140737488355328 := by
    have := Nat.mul_le_mul (Nat.le_of_lt hl) hby
    omega
  have hne2 : (ys.map f).isEmpty = false := by cases ys <;> simp_all
  have hg2 : growM es f ys = .grow es (ys.map f) none := by cases ys <;> simp_all [growM, esz]
  rw [hg2] at hn
  simp only [evH, hs, hx, appendA, he, hy, if_true, hne2, Bool.false_eq_true, if_false]
  rw [if_pos ⟨trivial, rfl, by simpa using hm⟩]
  simp [hn]
theorem appL_ev {α : Type} {id es bytes : Nat} {s x : AOpd} {sx : AVal} {f : α → AVal} {m ys : List α} (hf : ∀ x, (f x).width = es) (hby : bytes ≤ 1400) (hs : s.ev e = some (.lst (m.map f) true)) (hx : x.ev e = some sx) (he : elemsOf H sx = some (ys.map f)) (hne : ys.isEmpty = false) (hl : okLen (m ++ ys) = true) {H2 : Heap} (hn : newAt H id (growM es f (m ++ ys)) = some H2) (C : Ctx) :
    evH C e id H (.app es bytes false s x) = some (.ok (.gl id (m ++ ys).length), H2) := by
  have hy := growM_w hf ys
  have hw := growM_w hf m
  have hl := okLen_s hl
  have hm : (m ++ ys).length * bytes ≤ 140737488355328 := by
    have := Nat.mul_le_mul (Nat.le_of_lt hl) hby
    omega
  rw [List.length_append] at hm
  have hne2 : (ys.map f).isEmpty = false := by cases ys <;> simp_all
  have hg2 : growM es f (m ++ ys) = .grow es (m.map f ++ ys.map f) none := by
    cases ys with
    | nil => simp at hne
    | cons y ys => simp [growM, esz]
  rw [hg2] at hn
  simp only [evH, hs, hx, appendA, he, hy, if_true, hne2, Bool.false_eq_true, if_false]
  rw [if_pos ⟨trivial, hw, by simpa using hm⟩]
  simp [hn]
theorem appE_ev {α : Type} {id es bytes : Nat} {s x : AOpd} {sx : AVal} {f : α → AVal} {ys : List α} (hf : ∀ x, (f x).width = es) (hs : s.ev e = some (.lst [] true)) (hx : x.ev e = some sx) (he : elemsOf H sx = some (ys.map f)) (hne : ys.isEmpty = true) (C : Ctx) :
    evH C e id H (.app es bytes false s x) = some (.ok (.lst (ys.map f) true), H) := by
  cases ys with
  | cons y ys => simp at hne
  | nil => simp [evH, hs, hx, appendA, he]
theorem appM_ev {α : Type} {id es bytes : Nat} {s x : AOpd} {sx : AVal} {f : α → AVal} {m ys r : List α} (hf : ∀ x, (f x).width = es) (hby : bytes ≤ 1400) (hs : s.ev e = some (.lst (m.map f) true)) (hx : x.ev e = some sx) (he : elemsOf H sx = some (ys.map f)) (hne : ys.isEmpty = false) (hr : catL m ys = some r) {H2 : Heap} (hn : newAt H id (growM es f r) = some H2) (C : Ctx) :
    evH C e id H (.app es bytes false s x) = some (.ok (.gl id r.length), H2) := by
  obtain ⟨rfl, hl⟩ := catL_s hr
  have hl2 : okLen (m ++ ys) = true := okLen_of (by rw [List.length_append]; exact hl)
  exact appL_ev hf hby hs hx he hne hl2 hn C
theorem appO_ev {α : Type} {id es bytes : Nat} {s x : AOpd} {sx : AVal} {f : α → AVal} {m ys r : List α} (hf : ∀ x, (f x).width = es) (hs : s.ev e = some (.lst (m.map f) true)) (hx : x.ev e = some sx) (he : elemsOf H sx = some (ys.map f)) (hne : ys.isEmpty = true) (hr : catL m ys = some r) (C : Ctx) :
    evH C e id H (.app es bytes false s x) = some (.ok (.lst (r.map f) true), H) := by
  obtain ⟨rfl, hl⟩ := catL_s hr
  cases ys with
  | cons y ys => simp at hne
  | nil => simp [evH, hs, hx, appendA, he]
theorem newAt_end (H : Heap) (B : ABlock) : newAt H H.length B = some (H ++ [B]) := by simp [newAt]
theorem emp_or {α : Type} (l : List α) : l.isEmpty = true ∨ l.isEmpty = false := by cases l <;> simp
theorem evP_pickT {c x y : AOpd} {b : Bool} {v : AVal} (hc : c.ev e = some (.bool b)) (hb : b = true) (hv : x.ev e = some v) : evP e (.pick c x y) = some v := by subst hb; simp only [evP, hc, hv]
theorem evP_pickF {c x y : AOpd} {b : Bool} {v : AVal} (hc : c.ev e = some (.bool b)) (hb : b = false) (hv : y.ev e = some v) : evP e (.pick c x y) = some v := by subst hb; simp only [evP, hc, hv]
theorem wt {k : Nat} {b w : Bool} (h : e.get k = some (.bool b)) (hb : b = w) : wantedA e (some (k, w)) = some true := by subst hb; simp [wantedA, h]
theorem wf {k : Nat} {b w : Bool} (h : e.get k = some (.bool b)) (hb : b = !w) : wantedA e (some (k, w)) = some false := by subst hb; simp [wantedA, h]
end
def cloneF (es bytes : Nat) (z : AVal) : AFunc := ⟨.fork 0 [2] (.seq (.stmt [0] [] (.reg [⟨some 2, .mv (.c (.lst [] true)), none⟩])) (.seq (.stmt [0] [] (.seq (.stmt [0, 4] [] (.reg [⟨some 3, .mv (.t 0), none⟩, ⟨some 4, .isnil .slice false (.t 3), none⟩]))
  (.cond (.t 4) (.seq (.reg [⟨some 2, .mv (.c (.lst [] true)), none⟩]) (.ret)) (.skip)))) (.seq (.reg [⟨some 5, .bsl es z 0 [], none⟩, ⟨some 6, .mv (.t 0), none⟩, ⟨some 7, .app es bytes false (.t 5) (.t 6), none⟩, ⟨some 2, .mv (.t 7), none⟩]) (.ret)))), [.t 2]⟩
section
variable {T : Nat → Option AFunc} {cs : List ACode} {e e' : Env} {H H' : Heap} {Q : Post}
theorem L_fork {t : Nat} {keep : List Nat} {a : ACode} {x : AVal} {xs : List AVal} {f : Bool} (ht : e.get t = some (.lst (x :: xs) f)) (h : GL T (a :: cs) e H Q) : GL T (.fork t keep a :: cs) e H Q := by
  rw [GL_consI] at h ⊢
  obtain ⟨x, e1, H1, h1, h2⟩ := h
  exact ⟨x, e1, H1, h1.map fun n k => by simp only [evalCode, ht, k], h2⟩
theorem y3s : ∀ H : Heap, sameH H H = true
  | [] => rfl
  | b :: r => by simp [sameH, y51, y3s r]
theorem clone_n {α : Type} {F es bytes : Nat} {z : AVal} {f : α → AVal} {ys : List α} {b : Bool} (hF : T F = some (cloneF es bytes z)) (hf : ∀ x, (f x).width = es) (hby : bytes ≤ 1400) (hz : z.width = es) (hne : ys.isEmpty = false) (hl : okLen ys = true) :
    HRes T F [.lst (ys.map f) b] H (.gl H.length ys.length) (H ++ [growM es f ys]) := by
  cases ys with
  | nil => simp at hne
  | cons y ys =>
  refine hres_fin hF ?_
  refine L_fork (x := f y) (xs := ys.map f) rfl ?_
  refine L_seq ?_
  refine L_stmt ?_
  refine L_reg ?_
  refine G_p rfl rfl rfl ?_
  refine G_nil ?_
  refine L_nil ?_
  refine Sm_norm (e2 := [(0, .lst (List.map f (y :: ys)) b)]) (H1 := H) (H2 := H) rfl rfl (trunc_id (Nat.le_refl _)) (?_ : GL _ _ _ _ _)
  refine L_seq ?_
  refine L_stmt ?_
  refine L_seq ?_
  refine L_stmt ?_
  refine L_reg ?_
  refine G_p rfl rfl rfl ?_
  refine G_p rfl rfl (v := .bool false) rfl ?_
  refine G_nil ?_
  refine L_nil ?_
  refine Sm_norm (e2 := [(0, .lst (List.map f (y :: ys)) b), (4, .bool false)]) (H1 := H) (H2 := H) rfl rfl (trunc_id (Nat.le_refl _)) (?_ : GL _ _ _ _ _)
  refine L_F rfl rfl ?_
  refine L_skip ?_
  refine L_nil ?_
  refine Sm_norm (e2 := [(0, .lst (List.map f (y :: ys)) b)]) (H1 := H) (H2 := H) rfl rfl (trunc_id (Nat.le_refl _)) (?_ : GL _ _ _ _ _)
  refine L_seq ?_
  refine L_reg ?_
  refine G_h (v := .lst [] true) (H' := H) rfl rfl rfl (fun C => by simp [evH, hz, bslGo]) ?_
  refine G_p rfl rfl rfl ?_
  refine G_h rfl rfl rfl (appN_ev (ys := y :: ys) hf hby rfl rfl rfl rfl hl (newAt_end _ _)) ?_
  refine G_p rfl rfl rfl ?_
  refine G_nil ?_
  refine L_ret ?_
  exact ⟨_, rfl, rfl, rfl⟩
theorem clone_e {α : Type} {F es bytes : Nat} {z : AVal} {f : α → AVal} {ys : List α} {b : Bool} (hF : T F = some (cloneF es bytes z)) (hf : ∀ x, (f x).width = es) (hz : z.width = es) (hne : ys.isEmpty = true) :
    HRes T F [.lst (ys.map f) b] H (.lst (ys.map f) true) H := by
  cases ys with
  | cons y ys => simp at hne
  | nil =>
  refine Lim.succ (.of fun n => ?_)
  have ht : ∀ e, trunc H.length e H = H := fun e => trunc_id (Nat.le_refl _)
  simp [callF, hF, cloneF, finish, evalCode, evalOps, wantedA, evalOp, AOp.kind, evP, AOpd.ev, okv, evH, isNil, initEnv, Env.get, Env.put, stmtE, stmtH, frzAll, restr, ht, hz, bslGo, appendA, elemsOf, meet, sameE, sameV, sameL, y3s, resAll, resOf, oneOr]
end
def encS {α : Type} (f : α → AVal) (l : List α) : AVal := .lst (l.map f) false
end Go.Ev
namespace Go.Ev
set_option linter.unusedVariables false
open Go
inductive Ty where
  | mk (all : Bool) (flat pair : Int) (pairs : List Ty) (fn : Int) (funs : List Ty)
namespace Ty
def all : Ty → Bool | mk a _ _ _ _ _ => a
def flat : Ty → Int | mk _ a _ _ _ _ => a
def pair : Ty → Int | mk _ _ a _ _ _ => a
def pairs : Ty → List Ty | mk _ _ _ a _ _ => a
def fn : Ty → Int | mk _ _ _ _ a _ => a
def funs : Ty → List Ty | mk _ _ _ _ _ a => a
end Ty
inductive WfT : Ty → Prop
  | mk {x : Ty} : (-9223372036854775808 ≤ x.flat ∧ x.flat < 9223372036854775808) → (-9223372036854775808 ≤ x.pair ∧ x.pair < 9223372036854775808) → (-9223372036854775808 ≤ x.fn ∧ x.fn < 9223372036854775808) → x.pairs.length < 9223372036854775808 → x.funs.length < 9223372036854775808 →
      (∀ y, y ∈ x.pairs → WfT y) → (∀ y, y ∈ x.funs → WfT y) → WfT x
theorem wrap_succ {i : Nat} (h : i < 9223372036854775807) : IntKind.i64.wrap ((i : Int) + 1) = ((i + 1 : Nat) : Int) := by
  rw [kw_i64_id (by omega) (by omega)]; rfl
theorem wrap_add {i j : Nat} (h : i + j < 9223372036854775808) : IntKind.i64.wrap ((i : Int) + (j : Int)) = ((i + j : Nat) : Int) := by
  rw [kw_i64_id (by omega) (by omega)]; rfl
theorem drop_of {α : Type} {l : List α} {i : Nat} {x : α} (h : l[i]? = some x) : l.drop i = x :: l.drop (i + 1) := by
  obtain ⟨hi, rfl⟩ := List.getElem?_eq_some_iff.1 h
  exact List.drop_eq_getElem_cons hi
def pcnt (p : Int) : Int := if p = 1 then 2 else if p = 2 then 1 else 0
def okT (x : Ty) : Bool :=
  decide (0 ≤ x.flat) && decide (x.flat ≤ 63) && decide (0 ≤ x.pair) && decide (x.pair ≤ 2) && decide (0 ≤ x.fn) && decide (x.fn ≤ 2) && (!x.all || (decide (x.flat = 0) && decide (x.pair = 0) && decide (x.fn = 0))) &&
    decide ((x.pairs.length : Int) = pcnt x.pair) && (if x.fn = 1 then decide (1 ≤ x.funs.length) && decide (x.funs.length ≤ 9) else decide (x.funs.length = 0))
mutual
def rightT : Ty → Nat → Bool
  | .mk a f p ps g gs, d => match d with
    | 0 => false
    | d + 1 => okT (.mk a f p ps g gs) && rightTs ps d && rightTs gs d
def rightTs : List Ty → Nat → Bool
  | [], _ => true
  | x :: xs, d => rightT x d && rightTs xs d
end
theorem y23 (x : Ty) : rightT x 0 = false := by cases x; rfl
theorem y1q (x : Ty) (d : Nat) : rightT x (d + 1) = (okT x && rightTs x.pairs d && rightTs x.funs d) := by cases x; rfl
theorem y24 {d : Nat} : ∀ {l : List Ty} {x : Ty}, rightTs l d = true → x ∈ l → rightT x d = true
  | y :: ys, x, h, hm => by
    simp only [rightTs, Bool.and_eq_true] at h
    rcases List.mem_cons.1 hm with rfl | hm
    · exact h.1
    · exact y24 h.2 hm
end Go.Ev
namespace Go.Ev
set_option linter.unusedVariables false
set_option linter.unusedSimpArgs false
open Go
def zeroT : Ty := ⟨false, 0, 0, [], 0, []⟩
def allT : Ty := ⟨true, 0, 0, [], 0, []⟩
def listT (x : Ty) : Ty := ⟨false, 16, 2, [x], 0, []⟩
def Rt (t : Ty) : Prop := ∃ d, rightT t d = true
theorem Rt.ok {t : Ty} (h : Rt t) : okT t = true := by
  obtain ⟨d, h⟩ := h
  cases d with
  | zero => rw [y23] at h; cases h
  | succ d => rw [y1q] at h; simp only [Bool.and_eq_true] at h; exact h.1.1
theorem Rt.pairs {t x : Ty} (h : Rt t) (hx : x ∈ t.pairs) : Rt x := by
  obtain ⟨d, h⟩ := h
  cases d with
  | zero => rw [y23] at h; cases h
  | succ d => rw [y1q] at h; simp only [Bool.and_eq_true] at h; exact ⟨d, y24 h.1.2 hx⟩
theorem Rt.funs {t x : Ty} (h : Rt t) (hx : x ∈ t.funs) : Rt x := by
  obtain ⟨d, h⟩ := h
  cases d with
  | zero => rw [y23] at h; cases h
  | succ d => rw [y1q] at h; simp only [Bool.and_eq_true] at h; exact ⟨d, y24 h.2 hx⟩
theorem Rt.list {x : Ty} (h : Rt x) : Rt (listT x) := by
  obtain ⟨d, h⟩ := h
  refine ⟨d + 1, ?_⟩
  rw [y1q]
  simp [listT, okT, Ty.all, Ty.flat, Ty.pair, Ty.pairs, Ty.fn, Ty.funs, pcnt, rightTs, h]
theorem Rt.all : Rt allT := ⟨1, by rfl⟩
theorem Rt.zero : Rt zeroT := ⟨1, by rfl⟩
theorem WfT.flat {t : Ty} (h : WfT t) : -9223372036854775808 ≤ t.flat ∧ t.flat < 9223372036854775808 := by cases h; assumption
theorem WfT.pairs {t x : Ty} (h : WfT t) (hx : x ∈ t.pairs) : WfT x := by cases h with | mk w1 w2 w3 w4 w5 w6 w7 => exact w6 x hx
theorem WfT.funs {t x : Ty} (h : WfT t) (hx : x ∈ t.funs) : WfT x := by cases h with | mk w1 w2 w3 w4 w5 w6 w7 => exact w7 x hx
theorem WfT.list {x : Ty} (h : WfT x) : WfT (listT x) := by
  refine .mk (by simp [listT, Ty.flat]) (by simp [listT, Ty.pair]) (by simp [listT, Ty.fn]) (by simp [listT, Ty.pairs]) (by simp [listT, Ty.funs]) ?_ (by simp [listT, Ty.funs])
  intro y hy
  simp [listT, Ty.pairs] at hy
  subst hy; exact h
theorem WfT.zero : WfT zeroT := .mk (by simp [zeroT, Ty.flat]) (by simp [zeroT, Ty.pair]) (by simp [zeroT, Ty.fn]) (by simp [zeroT, Ty.pairs]) (by simp [zeroT, Ty.funs]) (by simp [zeroT, Ty.pairs]) (by simp [zeroT, Ty.funs])
theorem WfT.allT : WfT allT := .mk (by simp [Ev.allT, Ty.flat]) (by simp [Ev.allT, Ty.pair]) (by simp [Ev.allT, Ty.fn]) (by simp [Ev.allT, Ty.pairs]) (by simp [Ev.allT, Ty.funs]) (by simp [Ev.allT, Ty.pairs]) (by simp [Ev.allT, Ty.funs])
end Go.Ev
namespace Go.Ev
set_option linter.unusedVariables false
set_option linter.unusedSimpArgs false
open Go
inductive Co where
  | mk (flat : Nat → Int) (pair plab : Int) (pairs : List Co) (fn flab : Int) (funs : List Co)
namespace Co
def flat : Co → Nat → Int | mk a _ _ _ _ _ _ => a
def pair : Co → Int | mk _ a _ _ _ _ _ => a
def plab : Co → Int | mk _ _ a _ _ _ _ => a
def pairs : Co → List Co | mk _ _ _ a _ _ _ => a
def fn : Co → Int | mk _ _ _ _ a _ _ => a
def flab : Co → Int | mk _ _ _ _ _ a _ => a
def funs : Co → List Co | mk _ _ _ _ _ _ a => a
end Co
def es0 (w i : Nat) : Nat := if i = 0 then 0 else w
end Go.Ev
namespace Go.Ev
set_option linter.unusedVariables false
open Go
inductive Dt where
  | mk (kind : Int) (text : List UInt8) (list : List Dt)
namespace Dt
def kind : Dt → Int | mk a _ _ => a
def text : Dt → List UInt8 | mk _ a _ => a
def list : Dt → List Dt | mk _ _ a => a
end Dt
inductive Tst where
  | mk (op : Int) (var : Int) (tags : Int) (yes : Bool) (of : List Tst)
namespace Tst
def op : Tst → Int | mk a _ _ _ _ => a
def var : Tst → Int | mk _ a _ _ _ => a
def tags : Tst → Int | mk _ _ a _ _ => a
def yes : Tst → Bool | mk _ _ _ a _ => a
def of : Tst → List Tst | mk _ _ _ _ a => a
end Tst
inductive Vl where
  | mk (tag : Int) (of : List Vl)
namespace Vl
def tag : Vl → Int | mk a _ => a
def of : Vl → List Vl | mk _ a => a
end Vl
inductive Bnd where
  | mk (name : List UInt8) (depth : Int) (d : Dt) (row : List Bnd)
namespace Bnd
def name : Bnd → List UInt8 | mk a _ _ _ => a
def depth : Bnd → Int | mk _ a _ _ => a
def d : Bnd → Dt | mk _ _ a _ => a
def row : Bnd → List Bnd | mk _ _ _ a => a
end Bnd
structure Ins where
  op : Int
  a : Int
  b : Int
  l : List Int
def cIns (x : Ins) : List AVal := [.int .i64 x.op, .int .i64 x.a, .int .i64 x.b, .lst (x.l.map (AVal.int .i64)) false]
abbrev vIns (x : Ins) : AVal := .agg (cIns x)
end Go.Ev
namespace Go.Ev.Seat
set_option linter.unusedVariables false
set_option linter.unusedSimpArgs false
open Go Go.Ev
set_option maxRecDepth 20000
attribute [local irreducible] pcall callF
namespace IS
theorem ienc_ws (l : List Int) : (l.map (AVal.int .i64)).all (fun y => decide (y.width = 1)) = true := by
  rw [List.all_eq_true]; intro y hy; obtain ⟨x, _, rfl⟩ := List.mem_map.1 hy; rfl
def iencL (l : List Int) : AVal := .lst (l.map (AVal.int .i64)) false
theorem iencL_get {ls : List (List Int)} {i : Nat} {x : List Int} (h : ls[i]? = some x) : (ls.map iencL)[((i : Nat) : Int).toNat]? = some (iencL x) := by rw [Int.toNat_natCast, List.getElem?_map, h]; rfl
theorem igrow_c (n : Nat) (k : Nat) (H : Heap) (h0 : 0 < k) (hk : k ≤ 1000000) : callF (tabOf tabL) (n + 1) 44 [.lst [] true, .int .i64 (k : Nat)] H = some (.ok (.gl (H.length + 1) 0), H ++ [.dead, .grow 1 [] none]) := by
  have e1 : IntKind.i64.wrap (0 - 0) = 0 := by decide
  have e2 : IntKind.i64.wrap ((k : Int) - 0) = k := by rw [kw_i64_id (by omega) (by omega)]; omega
  refine callF_fin t44 ?_
  refine WL_seq ?_
  refine WL_reg ?_
  refine O_p rfl rfl rfl ?_
  refine WO_nil ?_
  refine WL_seq ?_
  apply WLp
  · (repeat (first | exact rzz | apply rcc rfl | apply rnn rfl))
  refine WL_seq ?_
  refine WL_seq ?_
  refine WL_reg ?_
  refine O_p rfl rfl rfl ?_
  refine O_p rfl rfl rfl ?_
  refine WO_nil ?_
  refine WL_seq ?_
  apply WLp
  · (repeat (first | exact rzz | apply rcc rfl | apply rnn rfl))
  refine WL_cond rfl (fun h6 => ?_) (fun h6 => ?_)
  · skip
    simp at h6; omega
  · skip
    refine WL_skip ?_
    refine WL_seq ?_
    apply WLp
    · (repeat (first | exact rzz | apply rcc rfl | apply rnn rfl))
    refine WL_seq ?_
    refine WL_seq ?_
    refine WL_reg ?_
    refine O_p rfl rfl rfl ?_
    refine O_p rfl rfl rfl ?_
    refine O_h rfl rfl rfl rfl ?_
    refine O_p rfl rfl rfl ?_
    refine O_h rfl rfl rfl rfl ?_
    refine O_p rfl rfl rfl ?_
    refine O_v (.int .i64 (k : Nat)) rfl rfl rfl (by show AVal.int _ (IntKind.i64.wrap (_ - IntKind.i64.wrap (0 - 0))) = _; rw [e1, e2]) ?_
    refine O_p rfl rfl rfl ?_
    refine WO_nil ?_
    refine WL_seq ?_
    apply WLp
    · (repeat (first | exact rzz | apply rcc rfl | apply rnn rfl))
    refine WL_seq ?_
    refine WL_reg ?_
    refine O_p rfl rfl rfl ?_
    refine O_p rfl rfl rfl ?_
    refine WO_nil ?_
    refine WL_seq ?_
    apply WLp
    · (repeat (first | exact rzz | apply rcc rfl | apply rnn rfl))
    refine WL_cond rfl (fun h16 => ?_) (fun h16 => ?_)
    · skip
      refine WL_reg ?_
      refine O_p rfl rfl rfl ?_
      refine O_p rfl rfl rfl ?_
      refine O_h rfl rfl rfl rfl ?_
      refine O_h (v := .lst [] true) rfl rfl rfl rfl ?_
      refine O_p rfl rfl rfl ?_
      refine O_h rfl rfl rfl (appz_ev rfl rfl h0 (by omega) rfl (by omega)) ?_
      refine O_p rfl rfl rfl ?_
      refine O_h rfl rfl rfl rfl ?_
      refine O_h rfl rfl rfl (cut_ev rfl rfl (by simp)) ?_
      refine O_p rfl rfl rfl ?_
      refine WO_nil ?_
      refine WL_seq ?_
      apply WLp
      · (repeat (first | exact rzz | apply rcc rfl | apply rnn rfl))
      refine WL_seq ?_
      refine WL_reg ?_
      refine O_p rfl rfl rfl ?_
      refine O_p rfl rfl rfl ?_
      refine WO_nil ?_
      refine WL_ret ?_
      exact ⟨_, rfl, rfl, rfl⟩
    · skip
      simp at h16; omega
theorem iconcat_c (n : Nat) (ls : List (List Int)) (h0 : 0 < ls.flatten.length) (hk : ls.flatten.length ≤ 1000000) (hn : ls.length < n) (hm : ls.length ≤ 1000000) :
    pcall (tabOf tabL) (n + 2) 21 [.lst (ls.map iencL) false] = some (.ok (.lst (ls.flatten.map (AVal.int .i64)) false)) := by
  refine pcall_fin t21 ?_
  refine WL_seq ?_
  refine WL_reg ?_
  refine O_p rfl rfl rfl ?_
  refine WO_nil ?_
  refine WL_seq ?_
  apply WLp
  · (repeat (first | exact rzz | apply rcc rfl | apply rnn rfl))
  refine WL_seq ?_
  refine WL_reg ?_
  refine O_p rfl rfl rfl ?_
  refine WO_nil ?_
  refine WL_seq ?_
  apply WLp
  · (repeat (first | exact rzz | apply rcc rfl | apply rnn rfl))
  refine WL_seq ?_
  refine WL_seq ?_
  refine WL_reg ?_
  refine O_p rfl rfl rfl ?_
  refine O_h rfl rfl rfl rfl ?_
  refine O_p rfl rfl rfl ?_
  refine WO_nil ?_
  refine WL_seq ?_
  apply WLp
  · (repeat (first | exact rzz | apply rcc rfl | apply rnn rfl))
  refine WL_block ?_
  apply WL_forc (α := Nat × Nat) (fun s => [(3, .int .i64 (s.1 : Nat)), (11, .int .i64 (s.2 : Nat))]) (fun s => s.2 ≤ ls.length ∧ s.1 + (ls.drop s.2).flatten.length = ls.flatten.length) (fun s => ls.length - s.2) ((0, 0)) (he := ?he) (hP := ?hP) (hk := ?hk) (round := ?round)
  case he =>
    (repeat (first | exact rzz | apply rcc rfl | apply rnn rfl))
  case hP =>
    exact ⟨by simp, by simp⟩
  case hk =>
    show ls.length - 0 < n + 1; omega
  case round =>
    rintro ⟨c, i⟩ ⟨hi, hs⟩
    simp only at hi hs
    dsimp only [List.cons_append, List.nil_append] at *
    refine WL_seq ?_
    refine WL_reg ?_
    refine O_p rfl rfl rfl ?_
    refine WO_nil ?_
    refine WL_seq ?_
    apply WLp
    · (repeat (first | exact rzz | apply rcc rfl | apply rnn rfl))
    refine WL_seq ?_
    refine WL_cond rfl (fun h12 => ?_) (fun h12 => ?_)
    · skip
      simp at h12
      obtain ⟨x, hx⟩ : ∃ x, (ls)[i]? = some x := ⟨_, List.getElem?_eq_getElem (by omega)⟩
      have hmx := List.mem_of_getElem? hx
      have hg := drop_of hx
      refine WL_skip ?_
      refine WL_seq ?_
      apply WLp
      · (repeat (first | exact rzz | apply rcc rfl | apply rnn rfl))
      refine WL_seq ?_
      refine WL_block ?_
      refine WL_seq ?_
      refine WL_reg ?_
      refine O_ia rfl rfl (Int.natCast_nonneg _) (iencL_get hx) rfl rfl ?_
      refine O_h rfl rfl rfl rfl ?_
      refine O_p rfl rfl rfl ?_
      refine WO_nil ?_
      refine WL_seq ?_
      apply WLp
      · (repeat (first | exact rzz | apply rcc rfl | apply rnn rfl))
      refine WL_seq ?_
      refine WL_reg ?_
      refine O_p rfl rfl rfl ?_
      refine O_p rfl rfl rfl ?_
      refine O_h rfl rfl rfl rfl ?_
      refine O_p rfl rfl rfl ?_
      refine O_p rfl rfl rfl ?_
      refine WO_nil ?_
      refine WL_seq ?_
      apply WLp
      · (repeat (first | exact rzz | apply rcc rfl | apply rnn rfl))
      refine WL_seq ?_
      refine WL_reg ?_
      refine O_p rfl rfl rfl ?_
      refine O_p rfl rfl rfl ?_
      refine WO_nil ?_
      refine WL_seq ?_
      apply WLp
      · (repeat (first | exact rzz | apply rcc rfl | apply rnn rfl))
      refine WL_cond rfl (fun h20 => ?_) (fun h20 => ?_)
      · skip
        rw [hg] at hs
        simp only [List.flatten_cons, List.length_append] at hs
        have := wrap_add (i := c) (j := x.length) (by omega)
        simp at h20; omega
      · skip
        refine WL_skip ?_
        refine WL_nil ?_
        refine Blk_norm (?_ : WL _ _ _ _ _)
        refine WL_seq ?_
        apply WLp
        · (repeat (first | exact rzz | apply rcc rfl | apply rnn rfl))
        refine WL_reg ?_
        refine O_p rfl rfl rfl ?_
        refine O_p rfl rfl rfl ?_
        refine WO_nil ?_
        refine WL_nil ?_
        rw [hg] at hs
        simp only [List.flatten_cons, List.length_append] at hs
        refine RndC_norm ((c + x.length, i + 1)) (by refine ⟨?_, ?_⟩ <;> simp only <;> omega) (by show _ < _; omega) ?_ rfl
        · rw [show IntKind.i64.wrap ((c : Int) + (((x.map (AVal.int .i64)).length : Nat) : Int)) = ((c + x.length : Nat) : Int) by rw [List.length_map]; exact wrap_add (by omega), wrap_succ (by omega)]; (repeat (first | exact rzz | apply rcc rfl | apply rnn rfl))
    · skip
      have hq : c = ls.flatten.length := by
        simp at h12
        rw [List.drop_eq_nil_of_le (by omega)] at hs; simpa using hs
      refine WL_exit ?_
      refine RndC_exit ?_
      refine Blk_exit (?_ : WL _ _ _ _ _)
      refine WL_seq ?_
      apply WLp
      · (repeat (first | exact rzz | apply rcc rfl | apply rnn rfl))
      refine WL_seq ?_
      refine WL_reg ?_
      refine O_p rfl rfl rfl ?_
      refine O_c 44 rfl rfl (callA_raw (by rw [hq]; exact igrow_c n _ _ h0 hk) rfl) ?_
      refine O_p rfl rfl rfl ?_
      refine WO_nil ?_
      refine WL_seq ?_
      apply WLp
      · (repeat (first | exact rzz | apply rcc rfl | apply rnn rfl))
      refine WL_seq ?_
      refine WL_seq ?_
      refine WL_reg ?_
      refine O_p rfl rfl rfl ?_
      refine O_h rfl rfl rfl rfl ?_
      refine O_p rfl rfl rfl ?_
      refine WO_nil ?_
      refine WL_seq ?_
      apply WLp
      · (repeat (first | exact rzz | apply rcc rfl | apply rnn rfl))
      refine WL_block ?_
      refine WL_seq ?_
      refine WL_own rfl ?_
      apply WL_forv (hc := [.dead]) (α := Nat × List Int) (fun s => [(6, .gl 1 s.2.length), (27, .int .i64 (s.1 : Nat))]) (fun s => [.grow 1 (s.2.map (AVal.int .i64)) none]) (fun s => s.1 ≤ ls.length ∧ s.2 ++ (ls.drop s.1).flatten = ls.flatten) (fun s => ls.length - s.1) ((0, [])) (he := ?he) (hh := ?hh) (hP := ?hP) (hk := ?hk) (round := ?round)
      case he =>
        (repeat (first | exact rzz | apply rcc rfl | apply rnn rfl))
      case hh =>
        rfl
      case hP =>
        exact ⟨by simp, by simp⟩
      case hk =>
        show ls.length - 0 < n + 1; omega
      case round =>
        rintro ⟨i, xs⟩ ⟨hi, hs⟩
        simp only at hi hs
        dsimp only [List.cons_append, List.nil_append] at *
        refine WL_seq ?_
        refine WL_reg ?_
        refine O_p rfl rfl rfl ?_
        refine WO_nil ?_
        refine WL_seq ?_
        apply WLp
        · (repeat (first | exact rzz | apply rcc rfl | apply rnn rfl))
        refine WL_seq ?_
        refine WL_cond rfl (fun h28 => ?_) (fun h28 => ?_)
        · skip
          simp at h28
          obtain ⟨x, hx⟩ : ∃ x, (ls)[i]? = some x := ⟨_, List.getElem?_eq_getElem (by omega)⟩
          have hmx := List.mem_of_getElem? hx
          have hg := drop_of hx
          refine WL_skip ?_
          refine WL_seq ?_
          apply WLp
          · (repeat (first | exact rzz | apply rcc rfl | apply rnn rfl))
          refine WL_seq ?_
          refine WL_block ?_
          refine WL_seq ?_
          refine WL_reg ?_
          refine O_ia rfl rfl (Int.natCast_nonneg _) (iencL_get hx) rfl rfl ?_
          refine O_h rfl rfl rfl rfl ?_
          refine O_p rfl rfl rfl ?_
          refine WO_nil ?_
          refine WL_seq ?_
          apply WLp
          · (repeat (first | exact rzz | apply rcc rfl | apply rnn rfl))
          refine WL_reg ?_
          refine O_p rfl rfl rfl ?_
          refine O_p rfl rfl rfl ?_
          rw [hg] at hs
          have hlen : xs.length + x.length ≤ 1000000 := by have := congrArg List.length hs; simp at this hk; omega
          refine O_appL rfl rfl rfl (by simp) (ienc_ws _) (ienc_ws _) (by simp; omega) rfl ?_
          refine O_p rfl rfl rfl ?_
          refine WO_nil ?_
          refine WL_nil ?_
          refine Blk_norm (?_ : WL _ _ _ _ _)
          refine WL_seq ?_
          apply WLp
          · (repeat (first | exact rzz | apply rcc rfl | apply rnn rfl))
          refine WL_reg ?_
          refine O_p rfl rfl rfl ?_
          refine O_p rfl rfl rfl ?_
          refine WO_nil ?_
          refine WL_nil ?_
          refine RndV_norm ((i + 1, xs ++ x)) (by refine ⟨by simp only; omega, ?_⟩; simp only; rw [← hs]; simp) (by show _ < _; omega) ?_ ?_
          · rw [wrap_succ (by omega), show (xs.map (AVal.int .i64)).length + (x.map (AVal.int .i64)).length = (xs ++ x).length by simp]; (repeat (first | exact rzz | apply rcc rfl | apply rnn rfl))
          · show trunc _ _ [ABlock.dead, ABlock.grow 1 (xs.map (AVal.int .i64) ++ x.map (AVal.int .i64)) none] = _; rw [← List.map_append]; rfl
        · skip
          have hr : ls.flatten = xs := by
            simp at h28
            rw [List.drop_eq_nil_of_le (by omega)] at hs; simpa using hs.symm
          refine WL_exit ?_
          refine RndV_exit ?_
          refine Blk_exit (?_ : WL _ _ _ _ _)
          refine WL_seq ?_
          apply WLp
          · (repeat (first | exact rzz | apply rcc rfl | apply rnn rfl))
          refine WL_seq ?_
          refine WL_reg ?_
          refine O_p rfl rfl rfl ?_
          refine O_p rfl rfl rfl ?_
          refine WO_nil ?_
          refine WL_ret ?_
          exact ⟨_, rfl, .lst (xs.map (AVal.int .i64)) false, by simp [oneOr, shutR, growAt], by rw [hr]⟩
theorem y4p (n : Nat) : pcall (tabOf tabL) (n + 20) 21 [.lst [.lst [] false, .lst [] false] false] = some (.ok (.lst [] false)) := by kernel_rfl
theorem iconcat2_c (n : Nat) (a b : List Int) (h : a.length + b.length ≤ 1000000) : pcall (tabOf tabL) (n + 20) 21 [.lst [.lst (a.map (AVal.int .i64)) false, .lst (b.map (AVal.int .i64)) false] false] = some (.ok (.lst ((a ++ b).map (AVal.int .i64)) false)) := by
  rcases Nat.eq_zero_or_pos (a.length + b.length) with h0 | h0
  · obtain rfl : a = [] := List.length_eq_zero_iff.1 (by omega)
    obtain rfl : b = [] := List.length_eq_zero_iff.1 (by omega)
    exact y4p n
  · have := iconcat_c (n + 18) [a, b] (by simpa using h0) (by simpa using h) (by simp) (by simp)
    simpa [iencL] using this
end IS
def oConcati (l : List (List Int)) : Option (List Int) := match l with
  | [a, b] => if a.length + b.length ≤ 1000000 then some (a ++ b) else none
  | _ => none
theorem y34 {l : List (List Int)} {r : List Int} (h : oConcati l = some r) : PRes (tabOf tabL) 21 [.lst (l.map (encS (AVal.int .i64))) false] (.lst (r.map (AVal.int .i64)) false) := by
  unfold oConcati at h
  split at h
  · split at h
    · cases h
      exact .of_le 20 fun n => IS.iconcat2_c n _ _ (by assumption)
    · cases h
  · cases h
end Go.Ev.Seat
namespace Go.Ev.Seat
set_option linter.unusedVariables false
open Go Go.Ev
set_option maxRecDepth 20000
attribute [local irreducible] pcall callF
theorem awake_c (n : Nat) : pcall (tabOf tabL) (n + 200) 5 [] = some (.ok (.bool true)) := by kernel_rfl
def oAwake : Option Bool := some true
theorem oAwake_ok {r : Bool} (h : oAwake = some r) : PRes (tabOf tabL) 5 [] (.bool r) := by
  cases h; exact .of_le 200 awake_c
end Go.Ev.Seat
