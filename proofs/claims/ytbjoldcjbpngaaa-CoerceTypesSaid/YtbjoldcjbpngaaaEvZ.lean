/-
  Lists of a known length.
-/
import Derived.Test.YtbjoldcjbpngaaaEvY
set_option linter.unusedVariables false
namespace Go.Ev
open Go
theorem len_succ {α : Type} {n : Nat} {vs : List α} (h : vs.length = n + 1) : ∃ x xs, vs = x :: xs ∧ xs.length = n := by
  cases vs with
  | nil => simp at h
  | cons x xs => exact ⟨x, xs, rfl, by simpa using h⟩
theorem len1 {α : Type} {vs : List α} (h : vs.length = 1) : ∃ a1, vs = [a1] := by
  obtain ⟨x, xs, rfl, h2⟩ := len_succ h
  cases xs with
  | nil => exact ⟨x, rfl⟩
  | cons _ _ => simp at h
theorem len2 {α : Type} {vs : List α} (h : vs.length = 2) : ∃ a1 a2, vs = [a1, a2] := by
  obtain ⟨x, xs, rfl, h2⟩ := len_succ h
  obtain ⟨a1, rfl⟩ := len1 h2
  exact ⟨x, a1, rfl⟩
theorem len3 {α : Type} {vs : List α} (h : vs.length = 3) : ∃ a1 a2 a3, vs = [a1, a2, a3] := by
  obtain ⟨x, xs, rfl, h2⟩ := len_succ h
  obtain ⟨a1, a2, rfl⟩ := len2 h2
  exact ⟨x, a1, a2, rfl⟩
theorem len4 {α : Type} {vs : List α} (h : vs.length = 4) : ∃ a1 a2 a3 a4, vs = [a1, a2, a3, a4] := by
  obtain ⟨x, xs, rfl, h2⟩ := len_succ h
  obtain ⟨a1, a2, a3, rfl⟩ := len3 h2
  exact ⟨x, a1, a2, a3, rfl⟩
theorem len5 {α : Type} {vs : List α} (h : vs.length = 5) : ∃ a1 a2 a3 a4 a5, vs = [a1, a2, a3, a4, a5] := by
  obtain ⟨x, xs, rfl, h2⟩ := len_succ h
  obtain ⟨a1, a2, a3, a4, rfl⟩ := len4 h2
  exact ⟨x, a1, a2, a3, a4, rfl⟩
theorem len6 {α : Type} {vs : List α} (h : vs.length = 6) : ∃ a1 a2 a3 a4 a5 a6, vs = [a1, a2, a3, a4, a5, a6] := by
  obtain ⟨x, xs, rfl, h2⟩ := len_succ h
  obtain ⟨a1, a2, a3, a4, a5, rfl⟩ := len5 h2
  exact ⟨x, a1, a2, a3, a4, a5, rfl⟩
theorem len7 {α : Type} {vs : List α} (h : vs.length = 7) : ∃ a1 a2 a3 a4 a5 a6 a7, vs = [a1, a2, a3, a4, a5, a6, a7] := by
  obtain ⟨x, xs, rfl, h2⟩ := len_succ h
  obtain ⟨a1, a2, a3, a4, a5, a6, rfl⟩ := len6 h2
  exact ⟨x, a1, a2, a3, a4, a5, a6, rfl⟩
theorem len8 {α : Type} {vs : List α} (h : vs.length = 8) : ∃ a1 a2 a3 a4 a5 a6 a7 a8, vs = [a1, a2, a3, a4, a5, a6, a7, a8] := by
  obtain ⟨x, xs, rfl, h2⟩ := len_succ h
  obtain ⟨a1, a2, a3, a4, a5, a6, a7, rfl⟩ := len7 h2
  exact ⟨x, a1, a2, a3, a4, a5, a6, a7, rfl⟩
theorem len9 {α : Type} {vs : List α} (h : vs.length = 9) : ∃ a1 a2 a3 a4 a5 a6 a7 a8 a9, vs = [a1, a2, a3, a4, a5, a6, a7, a8, a9] := by
  obtain ⟨x, xs, rfl, h2⟩ := len_succ h
  obtain ⟨a1, a2, a3, a4, a5, a6, a7, a8, rfl⟩ := len8 h2
  exact ⟨x, a1, a2, a3, a4, a5, a6, a7, a8, rfl⟩
theorem len10 {α : Type} {vs : List α} (h : vs.length = 10) : ∃ a1 a2 a3 a4 a5 a6 a7 a8 a9 a10, vs = [a1, a2, a3, a4, a5, a6, a7, a8, a9, a10] := by
  obtain ⟨x, xs, rfl, h2⟩ := len_succ h
  obtain ⟨a1, a2, a3, a4, a5, a6, a7, a8, a9, rfl⟩ := len9 h2
  exact ⟨x, a1, a2, a3, a4, a5, a6, a7, a8, a9, rfl⟩
theorem len11 {α : Type} {vs : List α} (h : vs.length = 11) : ∃ a1 a2 a3 a4 a5 a6 a7 a8 a9 a10 a11, vs = [a1, a2, a3, a4, a5, a6, a7, a8, a9, a10, a11] := by
  obtain ⟨x, xs, rfl, h2⟩ := len_succ h
  obtain ⟨a1, a2, a3, a4, a5, a6, a7, a8, a9, a10, rfl⟩ := len10 h2
  exact ⟨x, a1, a2, a3, a4, a5, a6, a7, a8, a9, a10, rfl⟩
theorem len12 {α : Type} {vs : List α} (h : vs.length = 12) : ∃ a1 a2 a3 a4 a5 a6 a7 a8 a9 a10 a11 a12, vs = [a1, a2, a3, a4, a5, a6, a7, a8, a9, a10, a11, a12] := by
  obtain ⟨x, xs, rfl, h2⟩ := len_succ h
  obtain ⟨a1, a2, a3, a4, a5, a6, a7, a8, a9, a10, a11, rfl⟩ := len11 h2
  exact ⟨x, a1, a2, a3, a4, a5, a6, a7, a8, a9, a10, a11, rfl⟩
theorem len13 {α : Type} {vs : List α} (h : vs.length = 13) : ∃ a1 a2 a3 a4 a5 a6 a7 a8 a9 a10 a11 a12 a13, vs = [a1, a2, a3, a4, a5, a6, a7, a8, a9, a10, a11, a12, a13] := by
  obtain ⟨x, xs, rfl, h2⟩ := len_succ h
  obtain ⟨a1, a2, a3, a4, a5, a6, a7, a8, a9, a10, a11, a12, rfl⟩ := len12 h2
  exact ⟨x, a1, a2, a3, a4, a5, a6, a7, a8, a9, a10, a11, a12, rfl⟩
theorem len14 {α : Type} {vs : List α} (h : vs.length = 14) : ∃ a1 a2 a3 a4 a5 a6 a7 a8 a9 a10 a11 a12 a13 a14, vs = [a1, a2, a3, a4, a5, a6, a7, a8, a9, a10, a11, a12, a13, a14] := by
  obtain ⟨x, xs, rfl, h2⟩ := len_succ h
  obtain ⟨a1, a2, a3, a4, a5, a6, a7, a8, a9, a10, a11, a12, a13, rfl⟩ := len13 h2
  exact ⟨x, a1, a2, a3, a4, a5, a6, a7, a8, a9, a10, a11, a12, a13, rfl⟩
theorem len15 {α : Type} {vs : List α} (h : vs.length = 15) : ∃ a1 a2 a3 a4 a5 a6 a7 a8 a9 a10 a11 a12 a13 a14 a15, vs = [a1, a2, a3, a4, a5, a6, a7, a8, a9, a10, a11, a12, a13, a14, a15] := by
  obtain ⟨x, xs, rfl, h2⟩ := len_succ h
  obtain ⟨a1, a2, a3, a4, a5, a6, a7, a8, a9, a10, a11, a12, a13, a14, rfl⟩ := len14 h2
  exact ⟨x, a1, a2, a3, a4, a5, a6, a7, a8, a9, a10, a11, a12, a13, a14, rfl⟩
theorem len16 {α : Type} {vs : List α} (h : vs.length = 16) : ∃ a1 a2 a3 a4 a5 a6 a7 a8 a9 a10 a11 a12 a13 a14 a15 a16, vs = [a1, a2, a3, a4, a5, a6, a7, a8, a9, a10, a11, a12, a13, a14, a15, a16] := by
  obtain ⟨x, xs, rfl, h2⟩ := len_succ h
  obtain ⟨a1, a2, a3, a4, a5, a6, a7, a8, a9, a10, a11, a12, a13, a14, a15, rfl⟩ := len15 h2
  exact ⟨x, a1, a2, a3, a4, a5, a6, a7, a8, a9, a10, a11, a12, a13, a14, a15, rfl⟩
theorem len17 {α : Type} {vs : List α} (h : vs.length = 17) : ∃ a1 a2 a3 a4 a5 a6 a7 a8 a9 a10 a11 a12 a13 a14 a15 a16 a17, vs = [a1, a2, a3, a4, a5, a6, a7, a8, a9, a10, a11, a12, a13, a14, a15, a16, a17] := by
  obtain ⟨x, xs, rfl, h2⟩ := len_succ h
  obtain ⟨a1, a2, a3, a4, a5, a6, a7, a8, a9, a10, a11, a12, a13, a14, a15, a16, rfl⟩ := len16 h2
  exact ⟨x, a1, a2, a3, a4, a5, a6, a7, a8, a9, a10, a11, a12, a13, a14, a15, a16, rfl⟩
theorem len18 {α : Type} {vs : List α} (h : vs.length = 18) : ∃ a1 a2 a3 a4 a5 a6 a7 a8 a9 a10 a11 a12 a13 a14 a15 a16 a17 a18, vs = [a1, a2, a3, a4, a5, a6, a7, a8, a9, a10, a11, a12, a13, a14, a15, a16, a17, a18] := by
  obtain ⟨x, xs, rfl, h2⟩ := len_succ h
  obtain ⟨a1, a2, a3, a4, a5, a6, a7, a8, a9, a10, a11, a12, a13, a14, a15, a16, a17, rfl⟩ := len17 h2
  exact ⟨x, a1, a2, a3, a4, a5, a6, a7, a8, a9, a10, a11, a12, a13, a14, a15, a16, a17, rfl⟩
theorem len19 {α : Type} {vs : List α} (h : vs.length = 19) : ∃ a1 a2 a3 a4 a5 a6 a7 a8 a9 a10 a11 a12 a13 a14 a15 a16 a17 a18 a19, vs = [a1, a2, a3, a4, a5, a6, a7, a8, a9, a10, a11, a12, a13, a14, a15, a16, a17, a18, a19] := by
  obtain ⟨x, xs, rfl, h2⟩ := len_succ h
  obtain ⟨a1, a2, a3, a4, a5, a6, a7, a8, a9, a10, a11, a12, a13, a14, a15, a16, a17, a18, rfl⟩ := len18 h2
  exact ⟨x, a1, a2, a3, a4, a5, a6, a7, a8, a9, a10, a11, a12, a13, a14, a15, a16, a17, a18, rfl⟩
theorem len20 {α : Type} {vs : List α} (h : vs.length = 20) : ∃ a1 a2 a3 a4 a5 a6 a7 a8 a9 a10 a11 a12 a13 a14 a15 a16 a17 a18 a19 a20, vs = [a1, a2, a3, a4, a5, a6, a7, a8, a9, a10, a11, a12, a13, a14, a15, a16, a17, a18, a19, a20] := by
  obtain ⟨x, xs, rfl, h2⟩ := len_succ h
  obtain ⟨a1, a2, a3, a4, a5, a6, a7, a8, a9, a10, a11, a12, a13, a14, a15, a16, a17, a18, a19, rfl⟩ := len19 h2
  exact ⟨x, a1, a2, a3, a4, a5, a6, a7, a8, a9, a10, a11, a12, a13, a14, a15, a16, a17, a18, a19, rfl⟩
theorem len21 {α : Type} {vs : List α} (h : vs.length = 21) : ∃ a1 a2 a3 a4 a5 a6 a7 a8 a9 a10 a11 a12 a13 a14 a15 a16 a17 a18 a19 a20 a21, vs = [a1, a2, a3, a4, a5, a6, a7, a8, a9, a10, a11, a12, a13, a14, a15, a16, a17, a18, a19, a20, a21] := by
  obtain ⟨x, xs, rfl, h2⟩ := len_succ h
  obtain ⟨a1, a2, a3, a4, a5, a6, a7, a8, a9, a10, a11, a12, a13, a14, a15, a16, a17, a18, a19, a20, rfl⟩ := len20 h2
  exact ⟨x, a1, a2, a3, a4, a5, a6, a7, a8, a9, a10, a11, a12, a13, a14, a15, a16, a17, a18, a19, a20, rfl⟩
theorem len22 {α : Type} {vs : List α} (h : vs.length = 22) : ∃ a1 a2 a3 a4 a5 a6 a7 a8 a9 a10 a11 a12 a13 a14 a15 a16 a17 a18 a19 a20 a21 a22, vs = [a1, a2, a3, a4, a5, a6, a7, a8, a9, a10, a11, a12, a13, a14, a15, a16, a17, a18, a19, a20, a21, a22] := by
  obtain ⟨x, xs, rfl, h2⟩ := len_succ h
  obtain ⟨a1, a2, a3, a4, a5, a6, a7, a8, a9, a10, a11, a12, a13, a14, a15, a16, a17, a18, a19, a20, a21, rfl⟩ := len21 h2
  exact ⟨x, a1, a2, a3, a4, a5, a6, a7, a8, a9, a10, a11, a12, a13, a14, a15, a16, a17, a18, a19, a20, a21, rfl⟩
theorem len23 {α : Type} {vs : List α} (h : vs.length = 23) : ∃ a1 a2 a3 a4 a5 a6 a7 a8 a9 a10 a11 a12 a13 a14 a15 a16 a17 a18 a19 a20 a21 a22 a23, vs = [a1, a2, a3, a4, a5, a6, a7, a8, a9, a10, a11, a12, a13, a14, a15, a16, a17, a18, a19, a20, a21, a22, a23] := by
  obtain ⟨x, xs, rfl, h2⟩ := len_succ h
  obtain ⟨a1, a2, a3, a4, a5, a6, a7, a8, a9, a10, a11, a12, a13, a14, a15, a16, a17, a18, a19, a20, a21, a22, rfl⟩ := len22 h2
  exact ⟨x, a1, a2, a3, a4, a5, a6, a7, a8, a9, a10, a11, a12, a13, a14, a15, a16, a17, a18, a19, a20, a21, a22, rfl⟩
theorem len24 {α : Type} {vs : List α} (h : vs.length = 24) : ∃ a1 a2 a3 a4 a5 a6 a7 a8 a9 a10 a11 a12 a13 a14 a15 a16 a17 a18 a19 a20 a21 a22 a23 a24, vs = [a1, a2, a3, a4, a5, a6, a7, a8, a9, a10, a11, a12, a13, a14, a15, a16, a17, a18, a19, a20, a21, a22, a23, a24] := by
  obtain ⟨x, xs, rfl, h2⟩ := len_succ h
  obtain ⟨a1, a2, a3, a4, a5, a6, a7, a8, a9, a10, a11, a12, a13, a14, a15, a16, a17, a18, a19, a20, a21, a22, a23, rfl⟩ := len23 h2
  exact ⟨x, a1, a2, a3, a4, a5, a6, a7, a8, a9, a10, a11, a12, a13, a14, a15, a16, a17, a18, a19, a20, a21, a22, a23, rfl⟩

end Go.Ev
