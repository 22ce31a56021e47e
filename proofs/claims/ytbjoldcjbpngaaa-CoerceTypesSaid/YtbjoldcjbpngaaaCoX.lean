/-
  Coercions that a law is given.
-/
import Derived.Test.YtbjoldcjbpngaaaTyX
import Derived.Test.YtbjoldcjbpngaaaCoA
set_option linter.unusedVariables false
set_option linter.unusedSimpArgs false
namespace Go.Ev
open Go

/-- Where the type 'coerce.C' is in a program. -/
structure CoP (P : Program) (t s a i : TypeId) : Prop where
  fs : ∃ fs : Array Field, P.underlying t = some (.struct fs) ∧ fs.toList.map (·.type) = [a, i, i, s, i, i, s]
  sl : P.underlying s = some (.slice t)
  ar : P.underlying a = some (.array 6 i)
  int : P.underlying i = some (.int .i64)

theorem HasT.array_of {P : Program} {n m : Nat} {t e : TypeId} {as : List AVal} (hu : P.underlying t = some (.array m e)) (h : HasT P (n + 1) t as) :
    ∃ parts : List (List AVal), parts.length = m ∧ as = parts.flatten ∧ ∀ p, p ∈ parts → HasT P n e p := by
  unfold HasT at h; rw [hu] at h; exact h

def sixF (a b c d e f : Int) (i : Nat) : Int := match i with
  | 0 => a
  | 1 => b
  | 2 => c
  | 3 => d
  | 4 => e
  | 5 => f
  | _ => 0

theorem co_dec {P : Program} {t s a i : TypeId} (hP : CoP P t s a i) : ∀ (n : Nat) (as : List AVal), HasT P n t as → ∃ x : Co, as = cC x ∧ WfC x := by
  obtain ⟨fs, hu, hl⟩ := hP.fs
  have hagg : aggB P t = some true := by unfold aggB; rw [hu]
  intro n
  induction n using Nat.strongRecOn with
  | ind n ih =>
    intro as h
    cases n with
    | zero => cases h
    | succ n =>
      obtain ⟨parts, h1, rfl, h3⟩ := HasT.struct_of hu hl h
      obtain ⟨p0, p1, p2, p3, p4, p5, p6, rfl⟩ := len7 h1
      have hs0 := h3 0 a p0 rfl rfl
      obtain ⟨v1, w1, rfl⟩ := HasT.int_of hP.int (h3 1 i p1 rfl rfl)
      obtain ⟨v2, w2, rfl⟩ := HasT.int_of hP.int (h3 2 i p2 rfl rfl)
      obtain ⟨v4, w4, rfl⟩ := HasT.int_of hP.int (h3 4 i p4 rfl rfl)
      obtain ⟨v5, w5, rfl⟩ := HasT.int_of hP.int (h3 5 i p5 rfl rfl)
      have hs3 := h3 3 s p3 rfl rfl
      have hs6 := h3 6 s p6 rfl rfl
      cases n with
      | zero => cases hs3
      | succ n =>
        obtain ⟨qs, k1, rfl, k3⟩ := HasT.array_of hP.ar hs0
        obtain ⟨q0, q1, q2, q3, q4, q5, rfl⟩ := len6 k1
        obtain ⟨u0, x0, rfl⟩ := HasT.int_of hP.int (k3 q0 (by simp))
        obtain ⟨u1, x1, rfl⟩ := HasT.int_of hP.int (k3 q1 (by simp))
        obtain ⟨u2, x2, rfl⟩ := HasT.int_of hP.int (k3 q2 (by simp))
        obtain ⟨u3, x3, rfl⟩ := HasT.int_of hP.int (k3 q3 (by simp))
        obtain ⟨u4, x4, rfl⟩ := HasT.int_of hP.int (k3 q4 (by simp))
        obtain ⟨u5, x5, rfl⟩ := HasT.int_of hP.int (k3 q5 (by simp))
        have list : ∀ p, HasT P (n + 1) s p → ∃ ys : List Co, p = [.lst (ys.map encC) false] ∧ ys.length < 9223372036854775808 ∧ ∀ y, y ∈ ys → WfC y := by
          intro p hp
          obtain ⟨xs, k1, rfl, k3⟩ := HasT.slice_of hP.sl hp
          obtain ⟨ys, rfl, hys⟩ := dec_list (enc := encC) (Q := WfC) (xs := xs) (by
            intro x hx
            obtain ⟨q1, q2, _⟩ := k3 x hx
            obtain ⟨cs, rfl⟩ := q2 hagg
            obtain ⟨y, hy, hw⟩ := ih n (by omega) _ q1
            refine ⟨y, ?_, hw⟩
            rw [encC_eq]
            have : cs = cC y := hy
            rw [this])
          refine ⟨ys, rfl, ?_, hys⟩
          rw [List.length_map] at k1
          have : maxLen = 9223372036854775807 := rfl
          omega
        obtain ⟨ys3, rfl, l3, r3⟩ := list p3 hs3
        obtain ⟨ys6, rfl, l6, r6⟩ := list p6 hs6
        refine ⟨.mk (sixF u0 u1 u2 u3 u4 u5) v1 v2 ys3 v4 v5 ys6, rfl, .mk ?_ (i64_wf w1) (i64_wf w2) (i64_wf w4) (i64_wf w5) l3 l6 r3 r6⟩
        intro j
        match j with
        | 0 => exact i64_wf x0
        | 1 => exact i64_wf x1
        | 2 => exact i64_wf x2
        | 3 => exact i64_wf x3
        | 4 => exact i64_wf x4
        | 5 => exact i64_wf x5
        | _ + 6 => exact ⟨by show (-9223372036854775808 : Int) ≤ 0; omega, by show (0 : Int) < 9223372036854775808; omega⟩
end Go.Ev
