/-
  Types that a law is given.
-/
import Derived.Test.YtbjoldcjbpngaaaEvX
import Derived.Test.YtbjoldcjbpngaaaTyB
set_option linter.unusedVariables false
set_option linter.unusedSimpArgs false
namespace Go.Ev
open Go

/-- Lists of encoded values. -/
theorem dec_list {α : Type} {enc : α → AVal} {Q : α → Prop} : ∀ {xs : List AVal}, (∀ x, x ∈ xs → ∃ y, x = enc y ∧ Q y) → ∃ ys : List α, xs = ys.map enc ∧ ∀ y, y ∈ ys → Q y
  | [], _ => ⟨[], rfl, by simp⟩
  | x :: xs, h => by
    obtain ⟨y, rfl, hy⟩ := h x (by simp)
    obtain ⟨ys, rfl, hys⟩ := dec_list (xs := xs) (fun z hz => h z (List.mem_cons_of_mem _ hz))
    exact ⟨y :: ys, rfl, by simpa using ⟨hy, hys⟩⟩

/-- Where the type 'api.Type' is in a program. -/
structure TyP (P : Program) (t s b i : TypeId) : Prop where
  fs : ∃ fs : Array Field, P.underlying t = some (.struct fs) ∧ fs.toList.map (·.type) = [b, i, i, s, i, s]
  sl : P.underlying s = some (.slice t)
  bo : P.underlying b = some .bool
  int : P.underlying i = some (.int .i64)

theorem HasT.bool_of {P : Program} {n : Nat} {t : TypeId} {as : List AVal} (hu : P.underlying t = some .bool) (h : HasT P n t as) : ∃ b, as = [.bool b] := by
  cases n with
  | zero => cases h
  | succ n => unfold HasT at h; rw [hu] at h; exact h
theorem HasT.int_of {P : Program} {n : Nat} {t : TypeId} {k : IntKind} {as : List AVal} (hu : P.underlying t = some (.int k)) (h : HasT P n t as) : ∃ i, (Lit.int k i).wf = true ∧ as = [.int k i] := by
  cases n with
  | zero => cases h
  | succ n => unfold HasT at h; rw [hu] at h; exact h
theorem HasT.str_of {P : Program} {n : Nat} {t : TypeId} {as : List AVal} (hu : P.underlying t = some .string) (h : HasT P n t as) : ∃ s : List UInt8, s.length ≤ maxLen ∧ as = [.str s] := by
  cases n with
  | zero => cases h
  | succ n => unfold HasT at h; rw [hu] at h; exact h
theorem HasT.slice_of {P : Program} {n : Nat} {t e : TypeId} {as : List AVal} (hu : P.underlying t = some (.slice e)) (h : HasT P (n + 1) t as) :
    ∃ xs : List AVal, xs.length ≤ maxLen ∧ as = [.lst xs false] ∧ ∀ x, x ∈ xs → HasT P n e x.flat ∧ (aggB P e = some true → ∃ cs, x = .agg cs) ∧ (aggB P e = some false → x.flat = [x]) := by
  unfold HasT at h; rw [hu] at h; exact h
/-- The fields, one by one. -/
theorem HasT.struct_of {P : Program} {n : Nat} {t : TypeId} {fs : Array Field} {l : List TypeId} {as : List AVal} (hu : P.underlying t = some (.struct fs)) (hl : fs.toList.map (·.type) = l) (h : HasT P (n + 1) t as) :
    ∃ parts : List (List AVal), parts.length = l.length ∧ as = parts.flatten ∧ ∀ (i : Nat) (u : TypeId) (p : List AVal), l[i]? = some u → parts[i]? = some p → HasT P n u p := by
  unfold HasT at h; rw [hu] at h
  obtain ⟨parts, h1, h2, h3⟩ := h
  refine ⟨parts, by rw [h1, ← hl]; simp, h2, ?_⟩
  intro i u p hu hp
  rw [← hl, List.getElem?_map, Option.map_eq_some_iff] at hu
  obtain ⟨f, hf, rfl⟩ := hu
  exact h3 i f p (by simpa using hf) hp

theorem i64_wf {i : Int} (h : (Lit.int .i64 i).wf = true) : -9223372036854775808 ≤ i ∧ i < 9223372036854775808 := by
  simp only [Lit.wf, Bool.and_eq_true, IntKind.min, IntKind.max, IntKind.signed, IntKind.bits] at h
  simp at h
  exact ⟨by omega, by omega⟩
theorem u64_wf {i : Int} (h : (Lit.int .u64 i).wf = true) : 0 ≤ i ∧ i < 18446744073709551616 := by
  simp only [Lit.wf, Bool.and_eq_true, IntKind.min, IntKind.max, IntKind.signed, IntKind.bits] at h
  simp at h
  exact ⟨by omega, by omega⟩

theorem ty_dec {P : Program} {t s b i : TypeId} (hP : TyP P t s b i) : ∀ (n : Nat) (as : List AVal), HasT P n t as → ∃ x : Ty, as = cT x ∧ WfT x := by
  obtain ⟨fs, hu, hl⟩ := hP.fs
  have hagg : aggB P t = some true := by unfold aggB; rw [hu]
  intro n
  induction n using Nat.strongRecOn with
  | ind n ih =>
    intro as h
    cases n with
    | zero => cases h
    | succ n =>
      obtain ⟨parts, h1, rfl, h3⟩ := HasT.struct_of hu hl h
      obtain ⟨p0, p1, p2, p3, p4, p5, rfl⟩ := len6 h1
      obtain ⟨v0, rfl⟩ := HasT.bool_of hP.bo (h3 0 b p0 rfl rfl)
      obtain ⟨v1, w1, rfl⟩ := HasT.int_of hP.int (h3 1 i p1 rfl rfl)
      obtain ⟨v2, w2, rfl⟩ := HasT.int_of hP.int (h3 2 i p2 rfl rfl)
      obtain ⟨v4, w4, rfl⟩ := HasT.int_of hP.int (h3 4 i p4 rfl rfl)
      have hs3 := h3 3 s p3 rfl rfl
      have hs5 := h3 5 s p5 rfl rfl
      cases n with
      | zero => cases hs3
      | succ n =>
        have list : ∀ p, HasT P (n + 1) s p → ∃ ys : List Ty, p = [.lst (ys.map encT) false] ∧ ys.length < 9223372036854775808 ∧ ∀ y, y ∈ ys → WfT y := by
          intro p hp
          obtain ⟨xs, k1, rfl, k3⟩ := HasT.slice_of hP.sl hp
          obtain ⟨ys, rfl, hys⟩ := dec_list (enc := encT) (Q := WfT) (xs := xs) (by
            intro x hx
            obtain ⟨q1, q2, _⟩ := k3 x hx
            obtain ⟨cs, rfl⟩ := q2 hagg
            obtain ⟨y, hy, hw⟩ := ih n (by omega) _ q1
            refine ⟨y, ?_, hw⟩
            rw [encT_eq]
            have : cs = cT y := hy
            rw [this])
          refine ⟨ys, rfl, ?_, hys⟩
          rw [List.length_map] at k1
          have : maxLen = 9223372036854775807 := rfl
          omega
        obtain ⟨ys3, rfl, l3, q3⟩ := list p3 hs3
        obtain ⟨ys5, rfl, l5, q5⟩ := list p5 hs5
        exact ⟨⟨v0, v1, v2, ys3, v4, ys5⟩, rfl, .mk (i64_wf w1) (i64_wf w2) (i64_wf w4) l3 l5 q3 q5⟩
end Go.Ev
