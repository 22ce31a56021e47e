/-
  What an operation does hangs on the blocks alone that its footprint names; two that do not meet may change places.
-/
import Derived.Test.YtbjoldcjbpngaaaEvP
set_option linter.unusedVariables false
set_option linter.unusedSimpArgs false
namespace Go.Ev
open Go

theorem notIn_iff {b : Nat} : ∀ {l : List Nat}, notIn b l = true ↔ b ∉ l
  | [] => by simp [notIn]
  | x :: xs => by
    simp only [notIn, Bool.and_eq_true, Bool.not_eq_true', notIn_iff (l := xs), List.mem_cons, not_or]
    constructor
    · rintro ⟨h, h2⟩; exact ⟨fun e => by subst e; simp at h, h2⟩
    · rintro ⟨h, h2⟩; exact ⟨by cases hb : Nat.beq x b with
        | false => rfl
        | true => exact absurd (Nat.eq_of_beq_eq_true hb).symm h, h2⟩

theorem noneIn_iff {l : List Nat} : ∀ {xs : List Nat}, noneIn l xs = true ↔ ∀ b, b ∈ xs → b ∉ l
  | [] => by simp [noneIn]
  | x :: xs => by simp [noneIn, notIn_iff, noneIn_iff (xs := xs)]

theorem shut_loc {H H2 : Heap} : ∀ v, (∀ b, b ∈ glsV v → H2[b]? = H[b]?) → shutV H2 v = shutV H v := by
  intro v
  induction v using AVal.rec (motive_2 := fun vs => (∀ b, b ∈ glsL vs → H2[b]? = H[b]?) → shutL H2 vs = shutL H vs) with
  | nil => rfl
  | cons v vs ih1 ih2 =>
    rename_i h
    simp only [glsL, List.mem_append] at h
    simp only [shutL, ih1 fun b hb => h b (.inl hb), ih2 fun b hb => h b (.inr hb)]
  | gl o len => intro h; simp only [shutV, growAt, h o (by simp [glsV])]
  | agg cs ih => intro h; simp only [shutV, ih (by simpa [glsV] using h)]
  | tup cs ih => intro h; simp only [shutV, ih (by simpa [glsV] using h)]
  | iface t v ih => intro h; simp only [shutV, ih (by simpa [glsV] using h)]
  | fn f cs ih => intro h; simp only [shutV, ih (by simpa [glsV] using h)]
  | _ => intro h; simp only [shutV]

theorem shutL_loc {H H2 : Heap} : ∀ vs, (∀ b, b ∈ glsL vs → H2[b]? = H[b]?) → shutL H2 vs = shutL H vs
  | [], _ => rfl
  | v :: vs, h => by
    simp only [glsL, List.mem_append] at h
    simp only [shutL, shut_loc v fun b hb => h b (.inl hb), shutL_loc vs fun b hb => h b (.inr hb)]

theorem bslGo_loc {e : Env} {H H2 : Heap} {es : Nat} : ∀ {ps : List (Nat × AOpd)} {xs : List AVal}, (∀ b, b ∈ partsGls e ps → H2[b]? = H[b]?) → bslGo e H2 es ps xs = bslGo e H es ps xs
  | [], _, _ => rfl
  | (i, x) :: ps, xs, h => by
    simp only [bslGo]
    simp only [partsGls] at h
    cases hx : x.ev e with
    | none => rfl
    | some v =>
      rw [hx] at h
      simp only [List.mem_append] at h
      simp only [shut_loc v fun b hb => h b (.inl hb)]
      split
      · split
        · exact bslGo_loc fun b hb => h b (.inr hb)
        · rfl
      · rfl

/-- It does the same wherever these blocks are the same, and it turns those alone. -/
def Local (f : Heap → Option (List Nat × List Nat)) (g : Heap → Option (Ex × Heap)) (H H' : Heap) (v : AVal) (r w : List Nat) : Prop :=
  (∀ b, b ∈ w → b ∈ r) ∧ (∀ b, b ∉ w → H'[b]? = H[b]?) ∧ ∀ H2 : Heap, (∀ b, b ∈ r → H2[b]? = H[b]?) →
    f H2 = some (r, w) ∧ ∃ H2', g H2 = some (.ok v, H2') ∧ (∀ b, b ∈ w → H2'[b]? = H'[b]?) ∧ ∀ b, b ∉ w → H2'[b]? = H2[b]?

theorem Local.read {f : Heap → Option (List Nat × List Nat)} {g : Heap → Option (Ex × Heap)} {H H' : Heap} {v : AVal} {r : List Nat} (hH : H' = H)
    (h : ∀ H2 : Heap, (∀ b, b ∈ r → H2[b]? = H[b]?) → f H2 = some (r, []) ∧ g H2 = some (.ok v, H2)) : Local f g H H' v r [] := by
  subst hH
  refine ⟨by simp, fun _ _ => rfl, ?_⟩
  intro H2 h2
  obtain ⟨h3, h4⟩ := h H2 h2
  exact ⟨h3, H2, h4, by simp, fun _ _ => rfl⟩

theorem Local.write {f : Heap → Option (List Nat × List Nat)} {g : Heap → Option (Ex × Heap)} {H H' : Heap} {v : AVal} {r : List Nat} {b : Nat} {B : ABlock} (hb : b ∈ r) (hl : b < H.length) (hH : H' = H.set b B)
    (h : ∀ H2 : Heap, (∀ b, b ∈ r → H2[b]? = H[b]?) → f H2 = some (r, [b]) ∧ g H2 = some (.ok v, H2.set b B)) : Local f g H H' v r [b] := by
  subst hH
  refine ⟨by simpa using hb, ?_, ?_⟩
  · intro k hk
    rw [List.getElem?_set_ne (by simp at hk; exact fun h => hk h.symm)]
  · intro H2 h2
    obtain ⟨h3, h4⟩ := h H2 h2
    refine ⟨h3, _, h4, ?_, ?_⟩
    · intro k hk
      simp at hk; subst hk
      have : k < H2.length := by
        have := h2 k hb
        rw [List.getElem?_eq_getElem hl] at this
        exact (List.getElem?_eq_some_iff.1 this).1
      rw [List.getElem?_set_self this, List.getElem?_set_self hl]
    · intro k hk
      rw [List.getElem?_set_ne (by simp at hk; exact fun h => hk h.symm)]

theorem okv_some {H H' : Heap} {r : Option AVal} {v : AVal} (h : okv H r = some (.ok v, H')) : r = some v ∧ H' = H := by
  cases r with
  | none => simp [okv] at h
  | some u => simp [okv] at h; exact ⟨by rw [h.1], h.2.symm⟩

theorem callA_loc {C : Ctx} {f : FuncId} {vs : List AVal} {H H' : Heap} {v : AVal} {r w : List Nat} (hf : footArgs H vs = some (r, w)) (hv : callA C false f vs H = some (.ok v, H')) :
    w = [] ∧ H' = H ∧ ∀ H2 : Heap, (∀ b, b ∈ r → H2[b]? = H[b]?) → footArgs H2 vs = some (r, []) ∧ callA C false f vs H2 = some (.ok v, H2) := by
  unfold footArgs at hf
  split at hf <;> first | (cases hf; done) | skip
  rename_i as has
  simp only [Option.some.injEq, Prod.mk.injEq] at hf
  obtain ⟨rfl, rfl⟩ := hf
  unfold callA at hv
  simp only [Bool.false_eq_true, if_false, has] at hv
  split at hv <;> first | (cases hv; done) | skip
  rename_i x hx
  simp only [Option.some.injEq, Prod.mk.injEq] at hv
  obtain ⟨rfl, rfl⟩ := hv
  refine ⟨rfl, rfl, ?_⟩
  intro H2 h2
  have := shutL_loc (H2 := H2) (H := H) vs h2
  refine ⟨by simp only [footArgs, this, has], ?_⟩
  simp only [callA, Bool.false_eq_true, if_false, this, has, hx]

theorem evH_loc {C : Ctx} {e : Env} {id : Nat} {H H' : Heap} {op : AOp} {v : AVal} {r w : List Nat} (hf : footH e H op = some (r, w)) (hv : evH C e id H op = some (.ok v, H')) :
    Local (fun H => footH e H op) (fun H => evH C e id H op) H H' v r w := by
  cases op <;> simp only [footH, reduceCtorEq] at hf
  case ia es x i =>
    simp only [evH] at hv
    split at hf
    · rename_i o len hx
      simp only [Option.some.injEq, Prod.mk.injEq] at hf
      obtain ⟨rfl, rfl⟩ := hf
      rw [hx] at hv
      cases hi : i.ev e with
      | none => rw [hi] at hv; cases hv
      | some iv =>
        rw [hi] at hv
        cases iv <;> simp only [reduceCtorEq] at hv
        rename_i k n
        split at hv <;> first | (cases hv; done) | skip
        rename_i es0 xs op hb
        split at hv <;> first | (cases hv; done) | skip
        rename_i hc
        split at hv
        · cases hy : xs[n.toNat]? with
          | none => rw [hy] at hv; cases hv
          | some y =>
            rw [hy] at hv
            simp only [Option.bind_some, Option.some.injEq, Prod.mk.injEq] at hv
            refine Local.read hv.2.symm ?_
            intro H2 h2
            refine ⟨by simp only [footH, hx], ?_⟩
            rw [hy] at hc
            simp only [evH, hx, hi, h2 o (by simp), hb, hy, Option.bind_some, hv.1]
            rw [if_pos hc]
        · rename_i f
          split at hv <;> first | (cases hv; done) | skip
          rename_i hl
          simp only [Option.some.injEq, Prod.mk.injEq] at hv
          refine Local.read hv.2.symm ?_
          intro H2 h2
          refine ⟨by simp only [footH, hx], ?_⟩
          simp only [evH, hx, hi, h2 o (by simp), hb, hv.1]
          rw [if_pos hc, if_pos hl]
    · rename_i hno
      simp only [Option.some.injEq, Prod.mk.injEq] at hf
      obtain ⟨rfl, rfl⟩ := hf
      have foot : ∀ H2 : Heap, footH e H2 (.ia es x i) = some ([], []) := by
        intro H2
        simp only [footH]
      split at hv <;> first | (cases hv; done) | skip
      · rename_i o len k n hx hi; exact absurd hx (hno o len)
      · rename_i xs ee k n hx hi
        split at hv <;> first | (cases hv; done) | skip
        rename_i h0
        split at hv <;> first | (cases hv; done) | skip
        rename_i y hy
        split at hv <;> first | (cases hv; done) | skip
        rename_i hw
        simp only [Option.some.injEq, Prod.mk.injEq] at hv
        refine Local.read hv.2.symm fun H2 h2 => ⟨foot H2, ?_⟩
        simp only [evH, hx, hi, hy, hv.1]
        rw [if_pos h0, if_pos hw]
      · rename_i b off len cap wd k n hx hi
        split at hv <;> first | (cases hv; done) | skip
        rename_i hc
        simp only [Option.some.injEq, Prod.mk.injEq] at hv
        refine Local.read hv.2.symm fun H2 h2 => ⟨foot H2, ?_⟩
        simp only [evH, hx, hi, hv.1]
        rw [if_pos hc]
  case bsl es z len parts =>
    simp only [Option.some.injEq, Prod.mk.injEq] at hf
    obtain ⟨rfl, rfl⟩ := hf
    simp only [evH] at hv
    split at hv <;> first | (cases hv; done) | skip
    rename_i hc
    split at hv <;> first | (cases hv; done) | skip
    rename_i xs hxs
    simp only [Option.some.injEq, Prod.mk.injEq] at hv
    refine Local.read hv.2.symm fun H2 h2 => ⟨rfl, ?_⟩
    simp only [evH, bslGo_loc h2, hxs, hv.1]
    rw [if_pos hc]
  case lds x =>
    simp only [evH] at hv
    cases hx : x.ev e with
    | none => rw [hx] at hv; cases hv
    | some a =>
      rw [hx] at hv hf
      obtain ⟨hl, rfl⟩ := okv_some hv
      cases a <;> simp only [loadS, reduceCtorEq, Option.some.injEq, Prod.mk.injEq] at hl hf
      · rename_i o l b
        obtain ⟨rfl, rfl⟩ := hf
        refine Local.read rfl fun H2 h2 => ⟨by simp only [footH, hx], ?_⟩
        simp only [evH, hx, loadS, h2 _ (List.mem_singleton.2 rfl), hl, okv]
      · obtain ⟨rfl, rfl⟩ := hf
        refine Local.read rfl fun H2 h2 => ⟨by simp only [footH, hx], ?_⟩
        simp only [evH, hx, loadS, h2 _ (List.mem_singleton.2 rfl), hl, okv]
      · obtain ⟨rfl, rfl⟩ := hf
        refine Local.read rfl fun H2 h2 => ⟨by simp only [footH, hx], ?_⟩
        rename_i cs
        cases cs with
        | nil => simp [loadS] at hl
        | cons c cs => simp only [loadS, Option.some.injEq] at hl; subst hl; simp only [evH, hx, loadS, okv]
  case lda n x =>
    simp only [evH] at hv
    cases hx : x.ev e with
    | none => rw [hx] at hv; cases hv
    | some a =>
      rw [hx] at hv hf
      obtain ⟨hl, rfl⟩ := okv_some hv
      cases a <;> simp only [loadA, reduceCtorEq, Option.some.injEq, Prod.mk.injEq] at hl hf
      · rename_i o l b
        obtain ⟨rfl, rfl⟩ := hf
        refine Local.read rfl fun H2 h2 => ⟨by simp only [footH, hx], ?_⟩
        simp only [evH, hx, loadA, h2 _ (List.mem_singleton.2 rfl), hl, okv]
      · obtain ⟨rfl, rfl⟩ := hf
        refine Local.read rfl fun H2 h2 => ⟨by simp only [footH, hx], ?_⟩
        simp only [evH, hx, loadA, h2 _ (List.mem_singleton.2 rfl), hl, okv]
      · obtain ⟨rfl, rfl⟩ := hf
        refine Local.read rfl fun H2 h2 => ⟨by simp only [footH, hx], ?_⟩
        simp only [evH, hx, loadA, hl, okv]
  case sts x y =>
    simp only [evH] at hv
    split at hf <;> first | (cases hf; done) | skip
    rename_i b o hx
    simp only [Option.some.injEq, Prod.mk.injEq] at hf
    obtain ⟨rfl, rfl⟩ := hf
    rw [hx] at hv
    cases hy : y.ev e with
    | none => rw [hy] at hv; cases hv
    | some u =>
      rw [hy] at hv
      simp only [storeA] at hv
      split at hv <;> first | (cases hv; done) | skip
      rename_i H1 hst
      simp only [Option.some.injEq, Prod.mk.injEq] at hv
      split at hst <;> first | (cases hst; done) | skip
      rename_i hs
      split at hst <;> first | (cases hst; done) | skip
      rename_i vs hb
      split at hst <;> first | (cases hst; done) | skip
      rename_i hle
      cases hst
      refine Local.write (List.mem_singleton.2 rfl) (List.getElem?_eq_some_iff.1 hb).1 hv.2.symm fun H2 h2 => ⟨by simp only [footH, hx], ?_⟩
      simp only [evH, hx, hy, storeA, h2 b (List.mem_singleton.2 rfl), hb, hv.1]
      rw [if_pos hs]
      simp only [if_pos hle, hv.1]
  case sta n x y =>
    simp only [evH] at hv
    split at hf <;> first | (cases hf; done) | skip
    · rename_i b o hx
      simp only [Option.some.injEq, Prod.mk.injEq] at hf
      obtain ⟨rfl, rfl⟩ := hf
      rw [hx] at hv
      cases hy : y.ev e with
      | none => rw [hy] at hv; cases hv
      | some u =>
        rw [hy] at hv
        simp only [storeA] at hv
        split at hv <;> first | (cases hv; done) | skip
        rename_i H1 hst
        simp only [Option.some.injEq, Prod.mk.injEq] at hv
        split at hst <;> first | (cases hst; done) | skip
        rename_i hs
        split at hst <;> first | (cases hst; done) | skip
        rename_i vs hb
        split at hst <;> first | (cases hst; done) | skip
        rename_i hle
        cases hst
        refine Local.write (List.mem_singleton.2 rfl) (List.getElem?_eq_some_iff.1 hb).1 hv.2.symm fun H2 h2 => ⟨by simp only [footH, hx], ?_⟩
        simp only [evH, hx, hy, storeA, h2 b (List.mem_singleton.2 rfl), hb, hv.1]
        rw [if_pos hs]
        simp only [if_pos hle, hv.1]
    · rename_i o i wd hx
      split at hf <;> first | (cases hf; done) | skip
      rename_i u hy
      simp only [Option.some.injEq, Prod.mk.injEq] at hf
      obtain ⟨rfl, rfl⟩ := hf
      rw [hx, hy] at hv
      simp only [storeA] at hv
      split at hv <;> first | (cases hv; done) | skip
      rename_i H1 hst
      simp only [Option.some.injEq, Prod.mk.injEq] at hv
      split at hst <;> first | (cases hst; done) | skip
      rename_i hs
      split at hst <;> first | (cases hst; done) | skip
      rename_i es xs f hb
      split at hst <;> first | (cases hst; done) | skip
      rename_i u' hsh
      split at hst <;> first | (cases hst; done) | skip
      rename_i hle
      cases hst
      refine Local.write (List.mem_cons_self) (List.getElem?_eq_some_iff.1 hb).1 hv.2.symm fun H2 h2 => ⟨by simp only [footH, hx, hy], ?_⟩
      have hsh2 : shutV H2 u = some u' := by
        rw [shut_loc u fun b hb => h2 b (List.mem_cons_of_mem _ hb)]; exact hsh
      simp only [evH, hx, hy, storeA, h2 o (List.mem_cons_self), hb, hsh2, hv.1]
      rw [if_pos hs]
      simp only [if_pos hle, hv.1]
  case slc es x lo hi mx =>
    simp only [evH] at hv
    split at hf <;> first | (cases hf; done) | skip
    · rename_i b off len cap wd hx
      simp only [Option.some.injEq, Prod.mk.injEq] at hf
      obtain ⟨rfl, rfl⟩ := hf
      rw [hx] at hv
      cases h1 : optEv e lo <;> rw [h1] at hv <;> first | (cases hv; done) | skip
      cases h2 : optEv e hi <;> rw [h2] at hv <;> first | (cases hv; done) | skip
      cases h3 : optEv e mx <;> rw [h3] at hv <;> first | (cases hv; done) | skip
      rename_i lov hiv mxv
      replace hv : (match bounds len cap lov hiv mxv with
        | some (l, h, m) => if wide wd = es ∧ l < m ∧ len ≤ cap then some (Ex.ok (AVal.sl b (off + l * es) (h - l) (m - l) wd), H) else none
        | none => none) = some (Ex.ok v, H') := hv
      split at hv <;> first | (cases hv; done) | skip
      rename_i l h m hb
      split at hv <;> first | (cases hv; done) | skip
      rename_i hc
      simp only [Option.some.injEq, Prod.mk.injEq] at hv
      refine Local.read hv.2.symm fun H2 _ => ⟨by simp only [footH, hx], ?_⟩
      simp only [evH, hx, h1, h2, h3, hb, hv.1]
      rw [if_pos hc]
    · rename_i xs ee hx
      simp only [Option.some.injEq, Prod.mk.injEq] at hf
      obtain ⟨rfl, rfl⟩ := hf
      rw [hx] at hv
      cases h1 : optEv e lo <;> rw [h1] at hv <;> first | (cases hv; done) | skip
      cases h2 : optEv e hi <;> rw [h2] at hv <;> first | (cases hv; done) | skip
      cases h3 : optEv e mx <;> rw [h3] at hv <;> first | (cases hv; done) | skip
      rename_i lov hiv mxv
      have fall : ∀ H2 : Heap, evH C e id H2 (.slc es x lo hi mx) = match cutLst es xs ee lov hiv mxv with
          | some v => some (Ex.ok v, H2)
          | none => none := by
        intro H2
        simp only [evH, hx, h1, h2, h3]
        rfl
      have hv2 : evH C e id H (.slc es x lo hi mx) = some (Ex.ok v, H') := by
        simp only [evH, hx, h1, h2, h3]
        exact hv
      rw [fall] at hv2
      split at hv2 <;> first | (cases hv2; done) | skip
      rename_i u hu
      simp only [Option.some.injEq, Prod.mk.injEq] at hv2
      refine Local.read hv2.2.symm fun H2 _ => ⟨by simp only [footH, hx], ?_⟩
      show evH C e id H2 (.slc es x lo hi mx) = _
      rw [fall, hu]
      simp only [hv2.1]
  case slca len es wd x lo hi mx =>
    simp only [evH] at hv
    simp only [Option.some.injEq, Prod.mk.injEq] at hf
    obtain ⟨rfl, rfl⟩ := hf
    split at hv <;> first | (cases hv; done) | skip
    rename_i b off lov hiv mxv hx h1 h2 h3
    split at hv <;> first | (cases hv; done) | skip
    rename_i l h m hb
    split at hv <;> first | (cases hv; done) | skip
    rename_i hc
    simp only [Option.some.injEq, Prod.mk.injEq] at hv
    refine Local.read hv.2.symm fun H2 _ => ⟨rfl, ?_⟩
    simp only [evH, hx, h1, h2, h3, hb, hv.1]
    rw [if_pos hc]
  case len k x =>
    simp only [evH] at hv
    cases hx : x.ev e with
    | none => rw [hx] at hv; cases hv
    | some a =>
      rw [hx] at hv hf
      obtain ⟨hl, rfl⟩ := okv_some hv
      have key : ∀ H2 : Heap, (∀ b, b ∈ r → H2[b]? = H'[b]?) → lenOf H2 k a = lenOf H' k a := by
        intro H2 h2
        cases k <;> cases a <;> simp only [lenOf]
        simp only [Option.some.injEq, Prod.mk.injEq] at hf
        obtain ⟨rfl, rfl⟩ := hf
        rw [h2 _ (List.mem_singleton.2 rfl)]
      have hw : w = [] := by
        cases a <;> simp only [Option.some.injEq, Prod.mk.injEq] at hf <;> exact hf.2.symm
      subst hw
      refine Local.read rfl fun H2 h2 => ⟨by simp only [footH, hx]; exact hf, ?_⟩
      simp only [evH, hx, key H2 h2, hl, okv]
  case cap x =>
    simp only [evH] at hv
    simp only [Option.some.injEq, Prod.mk.injEq] at hf
    obtain ⟨rfl, rfl⟩ := hf
    split at hv <;> first | (cases hv; done) | skip
    · rename_i b off len c wd hx
      simp only [Option.some.injEq, Prod.mk.injEq] at hv
      refine Local.read hv.2.symm fun H2 _ => ⟨rfl, ?_⟩
      simp only [evH, hx, hv.1]
    · rename_i xs hx
      simp only [Option.some.injEq, Prod.mk.injEq] at hv
      refine Local.read hv.2.symm fun H2 _ => ⟨rfl, ?_⟩
      simp only [evH, hx, hv.1]
  case look ks ok z m k =>
    simp only [evH] at hv
    split at hf <;> first | (cases hf; done) | skip
    rename_i b hm
    simp only [Option.some.injEq, Prod.mk.injEq] at hf
    obtain ⟨rfl, rfl⟩ := hf
    rw [hm] at hv
    cases hk : k.ev e with
    | none => rw [hk] at hv; cases hv
    | some kv =>
      rw [hk] at hv
      simp only at hv
      split at hv <;> first | (cases hv; done) | skip
      rename_i es hb
      split at hv <;> first | (cases hv; done) | skip
      rename_i hko
      split at hv <;> first | (cases hv; done) | skip
      · rename_i u hfk
        simp only [Option.some.injEq, Prod.mk.injEq] at hv
        refine Local.read hv.2.symm fun H2 h2 => ⟨by simp only [footH, hm], ?_⟩
        simp only [evH, hm, hk, h2 b (List.mem_singleton.2 rfl), hb, hfk, hv.1]
        rw [if_pos hko]
      · rename_i hfk
        simp only [Option.some.injEq, Prod.mk.injEq] at hv
        refine Local.read hv.2.symm fun H2 h2 => ⟨by simp only [footH, hm], ?_⟩
        simp only [evH, hm, hk, h2 b (List.mem_singleton.2 rfl), hb, hfk, hv.1]
        rw [if_pos hko]
  case call raw f args =>
    simp only [evH] at hv
    split at hf <;> first | (cases hf; done) | skip
    rename_i vs hvs
    rw [hvs] at hv
    obtain ⟨rfl, hH, h⟩ := callA_loc hf hv
    refine Local.read hH fun H2 h2 => ⟨by simp only [footH, hvs]; exact (h H2 h2).1, ?_⟩
    simp only [evH, hvs]
    exact (h H2 h2).2
  case callv raw x args =>
    simp only [evH] at hv
    split at hf <;> first | (cases hf; done) | skip
    rename_i g caps vs hx hvs
    rw [hx, hvs] at hv
    obtain ⟨rfl, hH, h⟩ := callA_loc hf hv
    refine Local.read hH fun H2 h2 => ⟨by simp only [footH, hx, hvs]; exact (h H2 h2).1, ?_⟩
    simp only [evH, hx, hvs]
    exact (h H2 h2).2
end Go.Ev
