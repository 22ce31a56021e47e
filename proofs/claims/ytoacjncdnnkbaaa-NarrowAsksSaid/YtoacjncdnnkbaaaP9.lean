/-
  Part 9 of a proof: NarrowAsks: for every input the law returns true, and what it was given reads behind the call as before. No conditions.
-/
import Derived.Test.YtoacjncdnnkbaaaP8
import Derived.OpenShut
namespace Go.Ev
set_option linter.unusedVariables false
set_option linter.unusedSimpArgs false
open Go
def HasT (P : Program) : Nat → TypeId → List AVal → Prop
  | 0, _, _ => False
  | n + 1, t, as => match P.underlying t with
    | some .bool => ∃ b, as = [.bool b]
    | some (.int k) => ∃ i, (Lit.int k i).wf = true ∧ as = [.int k i]
    | some .string => ∃ s : List UInt8, s.length ≤ maxLen ∧ as = [.str s]
    | some (.slice e) => ∃ xs : List AVal, xs.length ≤ maxLen ∧ as = [.lst xs false] ∧ ∀ x, x ∈ xs → HasT P n e x.flat ∧ (aggB P e = some true → ∃ cs, x = .agg cs) ∧ (aggB P e = some false → x.flat = [x])
    | some (.struct fs) => ∃ parts : List (List AVal), parts.length = fs.size ∧ as = parts.flatten ∧ ∀ (i : Nat) (f : Field) (p : List AVal), fs[i]? = some f → parts[i]? = some p → HasT P n f.type p
    | some (.array m e) => ∃ parts : List (List AVal), parts.length = m ∧ as = parts.flatten ∧ ∀ p, p ∈ parts → HasT P n e p
    | some (.pointer e) => as = [.nilp] ∨ ∃ cs, as = [.ro cs] ∧ HasT P n e cs
    | _ => False
def contig (P : Program) : Nat → List Field → Nat → Bool
  | off, [], tot => Nat.beq off tot
  | off, f :: fs, tot => Nat.beq f.offset off && contig P (off + P.cellsOf f.type) fs tot
def plainT (P : Program) (ts : List TypeId) (t : TypeId) : Bool :=
  match P.underlying t with
  | some .bool => true
  | some (.int _) => true
  | some .string => true
  | some (.slice e) => ts.contains e && Nat.ble 1 (P.cellsOf e)
  | some (.struct fs) => contig P 0 fs.toList (P.cellsOf t) && fs.toList.all fun f => ts.contains f.type
  | some (.array m e) => ts.contains e && Nat.beq (P.cellsOf t) (m * P.cellsOf e)
  | some (.pointer e) => ts.contains e && Nat.ble 1 (P.cellsOf e)
  | _ => false
def plainTs (P : Program) (ts : List TypeId) : Bool := ts.all (plainT P ts)
theorem build {α : Type} {Pr : Nat → α → Prop} : ∀ (n : Nat), (∀ i, i < n → ∃ y, Pr i y) → ∃ l : List α, l.length = n ∧ ∀ (i : Nat) (y : α), l[i]? = some y → Pr i y
  | 0, _ => ⟨[], rfl, by simp⟩
  | n + 1, h => by
    obtain ⟨l, h1, h2⟩ := build n (fun i hi => h i (by omega))
    obtain ⟨y, hy⟩ := h n (by omega)
    refine ⟨l ++ [y], by simp [h1], ?_⟩
    intro i z hz
    by_cases hi : i < l.length
    · rw [List.getElem?_append_left hi] at hz; exact h2 i z hz
    · rw [List.getElem?_append_right (by omega)] at hz
      have : i = n := by
        have := (List.getElem?_eq_some_iff.1 hz).1
        simp at this; omega
      subst this
      simp [h1] at hz; subst hz; exact hy
def scal : AVal → Bool
  | .agg _ => false
  | .tup _ => false
  | _ => true
def Flat1 (c : AVal) : Prop := rfree c ∧ scal c = true
theorem Flat1.flat {c : AVal} (h : Flat1 c) : c.flat = [c] := by
  have := h.2
  cases c <;> simp [scal] at this <;> rfl
theorem Flat1.one {Γ : Gh} {c : AVal} {d : Value} (h : Flat1 c) (hr : Rep Γ c d) : d.oneCell' = true := by
  have := h.2
  cases hr <;> first | rfl | (simp [scal] at this; done)
section
variable {H : Type} {enc : TypeId × Value → H} {P : Program} {w : World}
theorem y3f {Γ : Gh} : ∀ {parts : List (List AVal)} {cparts : List (List Value)}, parts.length = cparts.length → (∀ (i : Nat) (p : List AVal) (c : List Value), parts[i]? = some p → cparts[i]? = some c → Reps Γ p c) → Reps Γ parts.flatten cparts.flatten
  | [], [], _, _ => Reps.nil Γ
  | p :: ps, c :: cs, hl, h => by
    simp only [List.flatten_cons]
    exact (h 0 p c rfl rfl).append (y3f (by simpa using hl) fun i p c h1 h2 => h (i + 1) p c (by simpa using h1) (by simpa using h2))
  | [], _ :: _, hl, _ => by simp at hl
  | _ :: _, [], hl, _ => by simp at hl
theorem y5w : ∀ {fs : List Field} {off tot : Nat} {cs : List Value}, contig P off fs tot = true → cs.length = tot → (fs.map fun f => (cs.drop f.offset).take (P.cellsOf f.type)).flatten = cs.drop off
  | [], off, tot, cs, h, hl => by
    have := Nat.eq_of_beq_eq_true (by simpa [contig] using h)
    simp; omega
  | f :: fs, off, tot, cs, h, hl => by
    simp only [contig, Bool.and_eq_true] at h
    have h1 := Nat.eq_of_beq_eq_true h.1
    simp only [List.map_cons, List.flatten_cons]
    rw [y5w h.2 hl, h1, ← List.drop_drop, List.take_append_drop]
theorem y6k {z : Nat} : ∀ {m : Nat} {cs : List Value}, cs.length = m * z → ((List.range m).map fun i => (cs.drop (i * z)).take z).flatten = cs
  | 0, cs, hl => by
    have : cs = [] := List.length_eq_zero_iff.1 (by omega)
    simp [this]
  | m + 1, cs, hl => by
    rw [List.range_succ_eq_map, List.map_cons, List.flatten_cons, List.map_map]
    have h := y6k (z := z) (m := m) (cs := cs.drop z) (by simp [hl, Nat.add_mul])
    have e : ((fun i => (cs.drop (i * z)).take z) ∘ Nat.succ) = fun i => ((cs.drop z).drop (i * z)).take z := by
      funext i
      simp only [Function.comp, List.drop_drop, Nat.succ_eq_add_one, Nat.add_mul, Nat.one_mul]
      rw [Nat.add_comm]
    rw [e, h]
    simp
def mkEl (b : Option Bool) (p : List AVal) : AVal := match b with
  | some false => p.headD .nilp
  | _ => .agg p
theorem y8x {b : Option Bool} {p : List AVal} (h : ∀ c, c ∈ p → rfree c) : rfree (mkEl b p) := by
  unfold mkEl
  split
  · cases p with
    | nil => rfl
    | cons c cs => exact h c (by simp)
  · exact lowL_iff.2 h
theorem y59 {ts : List TypeId} (hp : plainTs P ts = true) {n : Nat} {e : TypeId} {p : List AVal} (he : e ∈ ts) (ha : aggB P e = some false) (h : HasT P n e p) : ∃ c, p = [c] := by
  cases n with
  | zero => cases h
  | succ n =>
    unfold aggB at ha
    unfold HasT at h
    cases hu : P.underlying e with
    | none => rw [hu] at h; cases h
    | some u =>
      rw [hu] at h ha
      cases u <;> simp only [reduceCtorEq] at h ha <;> first | (cases ha; done) | (cases h; done) | skip
      · obtain ⟨b, rfl⟩ := h; exact ⟨_, rfl⟩
      · obtain ⟨i, _, rfl⟩ := h; exact ⟨_, rfl⟩
      · obtain ⟨b, _, rfl⟩ := h; exact ⟨_, rfl⟩
      · rcases h with rfl | ⟨cs, rfl, _⟩ <;> exact ⟨_, rfl⟩
      · obtain ⟨xs, _, rfl, _⟩ := h; exact ⟨_, rfl⟩
theorem mkEl_flat {ts : List TypeId} (hp : plainTs P ts = true) {n : Nat} {e : TypeId} {p : List AVal} (he : e ∈ ts) (h : HasT P n e p) (hf : ∀ c, c ∈ p → Flat1 c) : (mkEl (aggB P e) p).flat = p := by
  unfold mkEl
  split
  · rename_i ha
    obtain ⟨c, rfl⟩ := y59 hp he ha h
    exact (hf c (by simp)).flat
  · rfl
theorem y79 {b : Option Bool} : ∀ {parts : List (List AVal)}, (∀ p, p ∈ parts → (mkEl b p).flat = p) → flatL (parts.map (mkEl b)) = parts.flatten
  | [], _ => rfl
  | p :: ps, h => by
    simp only [List.map_cons, flatL, List.flatten_cons, h p (by simp)]
    rw [y79 fun q hq => h q (by simp [hq])]
theorem y6r {α : Type} {z : Nat} (hz : 0 < z) : ∀ {parts : List (List α)} {j : Nat} {c : α}, (∀ p, p ∈ parts → p.length = z) → parts.flatten[j]? = some c → ∃ p, parts[j / z]? = some p ∧ p[j % z]? = some c
  | [], j, c, _, h => by simp at h
  | p :: ps, j, c, hl, h => by
    have hp := hl p (by simp)
    rw [List.flatten_cons] at h
    by_cases hj : j < z
    · rw [List.getElem?_append_left (by omega)] at h
      rw [Nat.div_eq_of_lt hj, Nat.mod_eq_of_lt hj]
      exact ⟨p, rfl, h⟩
    · rw [List.getElem?_append_right (by omega), hp] at h
      obtain ⟨q, h1, h2⟩ := y6r hz (fun q hq => hl q (by simp [hq])) h
      have e1 : j / z = (j - z) / z + 1 := by
        rw [← Nat.add_div_right _ hz]; congr 1; omega
      have e2 : j % z = (j - z) % z := by
        rw [Nat.mod_eq_sub_mod (by omega)]
      exact ⟨q, by rw [e1]; exact h1, by rw [e2]; exact h2⟩
theorem trod_has {ts : List TypeId} (hp : plainTs P ts = true) : ∀ (n : Nat) (t : TypeId) (cs : List Value) (x : DataW H × List MemPlace), t ∈ ts → DataW.trod enc P w 0 (fun _ => true) true n t cs = some x →
    ∃ as : List AVal, Reps (Gh.all w) as cs ∧ HasT P n t as ∧ ∀ c, c ∈ as → Flat1 c := by
  intro n
  induction n with
  | zero => intro t cs x _ h; simp [DataW.trod] at h
  | succ n ih =>
    intro t cs x ht h
    have hpt := List.all_eq_true.1 hp t ht
    unfold plainT at hpt
    have hT : ∀ as, HasT P (n + 1) t as = HasT P (n + 1) t as := fun _ => rfl
    have single : ∀ (a : AVal) (v : Value), cs = [v] → Rep (Gh.all w) a v → Flat1 a → ∀ Q : List AVal → Prop, Q [a] → ∃ as : List AVal, Reps (Gh.all w) as cs ∧ Q as ∧ ∀ c, c ∈ as → Flat1 c := by
      rintro a v rfl hr hf Q hQ
      exact ⟨[a], Reps.cons hr (Reps.nil _), hQ, by simpa using hf⟩
    split at hpt
    · rename_i hu
      obtain ⟨b, hc, _⟩ := DataW.trod_bool hu h
      simp only [HasT, hu]
      exact single (.bool b) _ hc (.bool b) ⟨rfl, rfl⟩ _ ⟨b, rfl⟩
    · rename_i k hu
      obtain ⟨i, hc, _, hw⟩ := DataW.trod_int hu h
      simp only [HasT, hu]
      exact single (.int k i) _ hc (.int k i) ⟨rfl, rfl⟩ _ ⟨i, hw, rfl⟩
    · rename_i hu
      obtain ⟨s, hc, _, hl⟩ := DataW.trod_string hu h
      simp only [HasT, hu]
      refine single (.str s.data.toList) _ hc ?_ ⟨rfl, rfl⟩ _ ⟨s.data.toList, by rw [Array.length_toList]; exact hl, rfl⟩
      have := Rep.str (Γ := Gh.all w) s.data.toList
      simpa using this
    · rename_i e hu
      simp only [Bool.and_eq_true] at hpt
      have hz : 1 ≤ P.cellsOf e := Nat.le_of_ble_eq_true hpt.2
      have he : e ∈ ts := by simpa using hpt.1
      simp only [HasT, hu]
      rcases DataW.trod_slice hu h with ⟨hc, _⟩ | ⟨a, len, cap, elems, rest, m, hm, hc, _, _, hlc, hmax, hel, hget, _, _⟩
      · exact single (.lst [] false) _ hc (.lstN false) ⟨rfl, rfl⟩ _ ⟨[], by simp, rfl, by simp⟩
      · cases hm
        have each : ∀ i, i < len → ∃ p : List AVal, ∃ ds : List Value, p.length = P.cellsOf e ∧ Reps (Gh.all w) p ds ∧ HasT P n e p ∧ (∀ c, c ∈ p → Flat1 c) ∧ ∀ j, j < P.cellsOf e → w.cell? ((a.add (i * P.cellsOf e)).add j) = ds[j]? := by
          intro i hi
          have h1 := hget i hi
          have hx : elems[i]? = some elems[i] := List.getElem?_eq_getElem (by omega)
          rw [hx] at h1
          obtain ⟨cs', hc1, hc2⟩ := Option.bind_eq_some_iff.1 h1
          obtain ⟨p, h2, h3, h4⟩ := ih e cs' elems[i] he hc2
          obtain ⟨_, hl, hcell⟩ := World.cells?_some hc1
          exact ⟨p, cs', by rw [← h2.1, hl], h2, h3, h4, hcell⟩
        obtain ⟨parts, hpl, hpe⟩ := build len each
        rcases Nat.eq_zero_or_pos len with hl0 | hpos
        · subst hl0
          exact single (.lst [] false) _ hc (.lstE (by simp)) ⟨rfl, rfl⟩ _ ⟨[], by simp, rfl, by simp⟩
        · obtain ⟨blk, off, spot⟩ := a
          have hspot : spot = none := by
            obtain ⟨p, ds, q1, q2, _, _, q3⟩ := each 0 hpos
            have h0 := q3 0 hz
            rw [Nat.zero_mul, Addr.add_zero', Addr.add_zero'] at h0
            cases hx : ds[0]? with
            | none => have := (List.getElem?_eq_none_iff.1 hx); have := q2.1; omega
            | some v => rw [hx] at h0; exact World.cell?_spot h0
          subst hspot
          refine single (.lst (parts.map (mkEl (aggB P e))) false) _ hc ?_ ⟨?_, rfl⟩ _ ⟨parts.map (mkEl (aggB P e)), by simpa [hpl] using Nat.le_trans hlc hmax, rfl, ?_⟩
          · have hfl : ∀ p, p ∈ parts → (mkEl (aggB P e) p).flat = p := by
              intro p hp1
              obtain ⟨i, hi⟩ := List.getElem?_of_mem hp1
              obtain ⟨ds, q1, q2, q3, q4, q5⟩ := hpe i p hi
              exact mkEl_flat hp he q3 q4
            have hlens : ∀ p, p ∈ parts → p.length = P.cellsOf e := by
              intro p hp1
              obtain ⟨i, hi⟩ := List.getElem?_of_mem hp1
              obtain ⟨ds, q1, _⟩ := hpe i p hi
              exact q1
            have hall : ∀ (j : Nat) (c : AVal), parts.flatten[j]? = some c → ∃ d, w.cell? ⟨blk, off + j, none⟩ = some d ∧ Rep (Gh.all w) c d ∧ Flat1 c := by
              intro j c hj
              obtain ⟨p, hp1, hp2⟩ := y6r hz hlens hj
              obtain ⟨ds, q1, q2, q3, q4, q5⟩ := hpe _ p hp1
              obtain ⟨d, hd, hr⟩ := q2.get hp2
              refine ⟨d, ?_, hr, q4 c (List.mem_of_getElem? hp2)⟩
              have h6 := q5 (j % P.cellsOf e) (Nat.mod_lt _ hz)
              rw [Addr.add_lit, Addr.add_lit] at h6
              rw [← hd, ← h6]
              congr 2
              rw [Nat.add_assoc, Nat.mul_comm, Nat.div_add_mod]
            have hflat : flatL (parts.map (mkEl (aggB P e))) = parts.flatten := y79 hfl
            have hlen2 : (parts.map (mkEl (aggB P e))).length = len := by simp [hpl]
            have key := Rep.lst (Γ := Gh.all w) (xs := parts.map (mkEl (aggB P e))) (e := false) (g := blk) (off := off) (cap := cap) (es := P.cellsOf e) (fun j => (w.cell? ⟨blk, off + j, none⟩).getD undef) (by omega) (by simp) ?_ ?_ ?_ ?_ ?_
            · rw [hlen2] at key; exact key
            · intro x hx
              obtain ⟨p, hp1, rfl⟩ := List.mem_map.1 hx
              simp only [AVal.width, hfl p hp1, hlens p hp1]
            · intro x hx
              obtain ⟨p, hp1, rfl⟩ := List.mem_map.1 hx
              obtain ⟨i, hi⟩ := List.getElem?_of_mem hp1
              obtain ⟨ds, q1, q2, q3, q4, q5⟩ := hpe i p hi
              exact y8x (fun c hc => (q4 c hc).1)
            · intro j c hj
              rw [hflat] at hj
              obtain ⟨d, h1, h2, h3⟩ := hall j c hj
              simp only [Gh.all, h1, Option.getD_some]
            · intro j c hj
              rw [hflat] at hj
              obtain ⟨d, h1, h2, h3⟩ := hall j c hj
              simp only [h1, Option.getD_some]
              exact h3.one h2
            · intro j c hj
              rw [hflat] at hj
              obtain ⟨d, h1, h2, h3⟩ := hall j c hj
              simp only [h1, Option.getD_some]
              exact h2
          · rfl
          · intro x hx
            obtain ⟨p, hp1, rfl⟩ := List.mem_map.1 hx
            obtain ⟨i, hi⟩ := List.getElem?_of_mem hp1
            obtain ⟨ds, q1, q2, q3, q4, q5⟩ := hpe i p hi
            have hf := mkEl_flat hp he q3 q4
            refine ⟨by rw [hf]; exact q3, ?_, ?_⟩
            · intro h; exact ⟨p, by rw [h]; rfl⟩
            · intro h
              rw [hf]
              obtain ⟨c, hc1⟩ := y59 hp he h q3
              rw [hc1, h]; rfl
    · rename_i fs hu
      simp only [Bool.and_eq_true] at hpt
      simp only [HasT, hu]
      obtain ⟨xs, m, hm, _, hlen, hxl, hget⟩ := DataW.trod_struct hu h
      cases hm
      have each : ∀ i, i < fs.size → ∃ p : List AVal, ∀ f, fs[i]? = some f → Reps (Gh.all w) p ((cs.drop f.offset).take (P.cellsOf f.type)) ∧ HasT P n f.type p ∧ ∀ c, c ∈ p → Flat1 c := by
        intro i hi
        have hfi : fs[i]? = some fs[i] := Array.getElem?_eq_getElem hi
        have hx : xs[i]? = some xs[i] := List.getElem?_eq_getElem (by omega)
        have hmem : fs[i].type ∈ ts := by
          have := List.all_eq_true.1 hpt.2 fs[i] (by simp)
          simpa using this
        obtain ⟨p, h1, h2, h3⟩ := ih fs[i].type _ xs[i] hmem (by rw [hget i _ hfi, hx])
        exact ⟨p, fun f hf => by rw [hfi] at hf; cases hf; exact ⟨h1, h2, h3⟩⟩
      obtain ⟨parts, hpl, hpe⟩ := build fs.size each
      refine ⟨parts.flatten, ?_, ⟨parts, hpl, rfl, fun i f p hf hp => ((hpe i p hp) f hf).2.1⟩, ?_⟩
      · have := y5w (cs := cs) hpt.1 hlen
        rw [List.drop_zero] at this
        rw [← this]
        refine y3f (by simp [hpl]) ?_
        intro i p c h1 h2
        rw [List.getElem?_map, Option.map_eq_some_iff] at h2
        obtain ⟨f, hf, rfl⟩ := h2
        exact ((hpe i p h1) f (by simpa using hf)).1
      · intro c hc
        obtain ⟨p, hp1, hp2⟩ := List.mem_flatten.1 hc
        obtain ⟨i, hi⟩ := List.getElem?_of_mem hp1
        have hlt : i < fs.size := by rw [← hpl]; exact (List.getElem?_eq_some_iff.1 hi).1
        exact ((hpe i p hi) fs[i] (Array.getElem?_eq_getElem hlt)).2.2 c hp2
    · rename_i m e hu
      simp only [Bool.and_eq_true] at hpt
      simp only [HasT, hu]
      have he : e ∈ ts := by simpa using hpt.1
      have hsz := Nat.eq_of_beq_eq_true hpt.2
      obtain ⟨xs, k, hm, _, hlen, hxl, hget⟩ := DataW.trod_array hu h
      cases hm
      have each : ∀ i, i < m → ∃ p : List AVal, Reps (Gh.all w) p ((cs.drop (i * P.cellsOf e)).take (P.cellsOf e)) ∧ HasT P n e p ∧ ∀ c, c ∈ p → Flat1 c := by
        intro i hi
        have hx : xs[i]? = some xs[i] := List.getElem?_eq_getElem (by omega)
        exact ih e _ xs[i] he (by rw [hget i hi, hx])
      obtain ⟨parts, hpl, hpe⟩ := build m each
      refine ⟨parts.flatten, ?_, ⟨parts, hpl, rfl, ?_⟩, ?_⟩
      · have := y6k (z := P.cellsOf e) (m := m) (cs := cs) (by omega)
        rw [← this]
        refine y3f (by simp [hpl]) ?_
        intro i p c h1 h2
        rw [List.getElem?_map, Option.map_eq_some_iff] at h2
        obtain ⟨j, hj, rfl⟩ := h2
        have hji : j = i := by
          have := List.getElem?_eq_some_iff.1 hj
          obtain ⟨hj1, hj2⟩ := this
          simp at hj2; omega
        subst hji
        exact (hpe j p h1).1
      · intro p hp1
        obtain ⟨i, hi⟩ := List.getElem?_of_mem hp1
        exact (hpe i p hi).2.1
      · intro c hc
        obtain ⟨p, hp1, hp2⟩ := List.mem_flatten.1 hc
        obtain ⟨i, hi⟩ := List.getElem?_of_mem hp1
        exact (hpe i p hi).2.2 c hp2
    · rename_i e hu
      simp only [Bool.and_eq_true] at hpt
      simp only [HasT, hu]
      have hz : 1 ≤ P.cellsOf e := Nat.le_of_ble_eq_true hpt.2
      have he : e ∈ ts := by simpa using hpt.1
      rcases DataW.trod_pointer hu h with ⟨hc, _⟩ | ⟨a, cs', y, m, hm, hc, _, hcells, hy⟩
      · exact single .nilp _ hc .nilp ⟨rfl, rfl⟩ _ (.inl rfl)
      · cases hm
        obtain ⟨p, h1, h2, h3⟩ := ih e cs' y he hy
        obtain ⟨hb, hl, hcell⟩ := World.cells?_some hcells
        have hspot : a.spot = none := by
          have h0 := hcell 0 (by omega)
          rw [Addr.add_zero'] at h0
          cases hx : cs'[0]? with
          | none => have := (List.getElem?_eq_none_iff.1 hx); omega
          | some v => rw [hx] at h0; exact World.cell?_spot h0
        obtain ⟨blk, off, spot⟩ := a
        simp only at hspot
        subst hspot
        refine single (.ro p) _ hc ?_ ⟨rfl, rfl⟩ _ (.inr ⟨p, rfl, h2⟩)
        have hd : ∀ (j : Nat) (c : AVal), p[j]? = some c → ∃ d, cs'[j]? = some d ∧ Rep (Gh.all w) c d ∧ w.cell? ⟨blk, off + j, none⟩ = some d := by
          intro j c hj
          obtain ⟨d, hd, hr⟩ := h1.get hj
          have hlt := (List.getElem?_eq_some_iff.1 hd).1
          refine ⟨d, hd, hr, ?_⟩
          have := hcell j (by omega)
          rw [Addr.add_lit] at this
          rw [this]; exact hd
        refine .ro (fun j => cs'.getD j undef) (fun c hc => (h3 c hc).1) ?_ ?_ ?_
        · intro j c hj
          obtain ⟨d, hd1, hr, hd2⟩ := hd j c hj
          simp only [Gh.all, hd2, List.getD, hd1, Option.getD_some]
        · intro j c hj
          obtain ⟨d, hd1, hr, hd2⟩ := hd j c hj
          simp only [List.getD, hd1, Option.getD_some]
          exact (h3 c (List.mem_of_getElem? hj)).one hr
        · intro j c hj
          obtain ⟨d, hd1, hr, hd2⟩ := hd j c hj
          simp only [List.getD, hd1, Option.getD_some]
          exact hr
    · cases hpt
end
section
variable {H : Type} {enc : TypeId × Value → H} {P : Program} {w : World}
theorem y93 {ts : List TypeId} (hp : plainTs P ts = true) {t : TypeId} {v : Value} {base : Nat} (ht : t ∈ ts) (ha : aggB P t = some false) (hok : Value.okWide P w .any base t v) : v.cells.toList = [v] := by
  have hpt := List.all_eq_true.1 hp t ht
  cases v <;> first | rfl | skip
  exfalso
  unfold aggB at ha
  unfold plainT at hpt
  unfold Value.okWide Cell.okWide Cell.ok at hok
  cases hu : P.underlying t with
  | none => rw [hu] at ha; cases ha
  | some u => rw [hu] at ha hpt hok; cases u <;> simp_all
theorem arg_has {ts : List TypeId} (hp : plainTs P ts = true) {t : TypeId} {v : Value} {d : DataW H} {ps : List MemPlace} {base : Nat} (ht : t ∈ ts) (hok : Value.okWide P w .any base t v)
    (h : DataW.Trod enc P w 0 (fun _ => true) true t v d ps) : ∃ (n : Nat) (as : List AVal), HasT P n t as ∧ (aggB P t = some true → Rep (Gh.all w) (.agg as) v) ∧ (aggB P t = some false → ∃ c, as = [c] ∧ Rep (Gh.all w) c v) := by
  obtain ⟨n, hf⟩ := h
  obtain ⟨as, h1, h2, h3⟩ := trod_has hp n t _ _ ht hf
  refine ⟨n, as, h2, ?_, ?_⟩
  · intro ha
    have hv : ∃ cs, v = .agg cs := by
      unfold Value.okWide at hok
      unfold aggB at ha
      cases hu : P.underlying t with
      | none => rw [hu] at ha; cases ha
      | some u =>
        rw [hu] at ha hok
        cases u <;> simp only [reduceCtorEq, Option.some.injEq, Bool.false_eq_true] at ha
        · obtain ⟨cs, hcs, _⟩ := hok; exact ⟨cs, hcs⟩
        · obtain ⟨cs, hcs, _⟩ := hok; exact ⟨cs, hcs⟩
    obtain ⟨cs, rfl⟩ := hv
    have e : (Value.agg cs).cells.toList = cs.toList := rfl
    rw [e] at h1
    have := Rep.agg (Γ := Gh.all w) h1.1 h1.2 (fun d hd => by
      obtain ⟨i, hi⟩ := List.getElem?_of_mem hd
      have hlt : i < as.length := by rw [← h1.1]; exact (List.getElem?_eq_some_iff.1 hi).1
      have ha' := List.getElem?_eq_getElem hlt
      exact (h3 _ (List.mem_of_getElem? ha')).one (h1.2 i _ _ ha' hi))
    simpa using this
  · intro ha
    have hc := y93 hp ht ha hok
    rw [hc] at h1
    obtain ⟨c, rfl⟩ := y59 hp ht ha h2
    exact ⟨c, rfl, h1.2 0 c v rfl rfl⟩
end
end Go.Ev
namespace Go.Ev
set_option linter.unusedVariables false
set_option linter.unusedSimpArgs false
open Go
theorem dec_list {α : Type} {enc : α → AVal} {Q : α → Prop} : ∀ {xs : List AVal}, (∀ x, x ∈ xs → ∃ y, x = enc y ∧ Q y) → ∃ ys : List α, xs = ys.map enc ∧ ∀ y, y ∈ ys → Q y
  | [], _ => ⟨[], rfl, by simp⟩
  | x :: xs, h => by
    obtain ⟨y, rfl, hy⟩ := h x (by simp)
    obtain ⟨ys, rfl, hys⟩ := dec_list (xs := xs) (fun z hz => h z (List.mem_cons_of_mem _ hz))
    exact ⟨y :: ys, rfl, by simpa using ⟨hy, hys⟩⟩
theorem HasT.bool_of {P : Program} {n : Nat} {t : TypeId} {as : List AVal} (hu : P.underlying t = some .bool) (h : HasT P n t as) : ∃ b, as = [.bool b] := by
  cases n with
  | zero => cases h
  | succ n => unfold HasT at h; rw [hu] at h; exact h
theorem HasT.int_of {P : Program} {n : Nat} {t : TypeId} {k : IntKind} {as : List AVal} (hu : P.underlying t = some (.int k)) (h : HasT P n t as) : ∃ i, (Lit.int k i).wf = true ∧ as = [.int k i] := by
  cases n with
  | zero => cases h
  | succ n => unfold HasT at h; rw [hu] at h; exact h
theorem HasT.slice_of {P : Program} {n : Nat} {t e : TypeId} {as : List AVal} (hu : P.underlying t = some (.slice e)) (h : HasT P (n + 1) t as) :
    ∃ xs : List AVal, xs.length ≤ maxLen ∧ as = [.lst xs false] ∧ ∀ x, x ∈ xs → HasT P n e x.flat ∧ (aggB P e = some true → ∃ cs, x = .agg cs) ∧ (aggB P e = some false → x.flat = [x]) := by
  unfold HasT at h; rw [hu] at h; exact h
theorem HasT.struct_of {P : Program} {n : Nat} {t : TypeId} {fs : Array Field} {l : List TypeId} {as : List AVal} (hu : P.underlying t = some (.struct fs)) (hl : fs.toList.map (·.type) = l) (h : HasT P (n + 1) t as) :
    ∃ parts : List (List AVal), parts.length = l.length ∧ as = parts.flatten ∧ ∀ (i : Nat) (u : TypeId) (p : List AVal), l[i]? = some u → parts[i]? = some p → HasT P n u p := by
  unfold HasT at h; rw [hu] at h
  obtain ⟨parts, h1, h2, h3⟩ := h
  refine ⟨parts, by rw [h1, ← hl]; simp, h2, ?_⟩
  intro i u p hu hp
  rw [← hl, List.getElem?_map, Option.map_eq_some_iff] at hu
  obtain ⟨f, hf, rfl⟩ := hu
  exact h3 i f p (by simpa using hf) hp
end Go.Ev
