/-
  What the rows of this seat share: the arguments that are types, and coercions.
-/
import Derived.Test.YtbjoldcjbpngaaaRows
import Derived.Test.YtbjoldcjbpngaaaTie
import Derived.Test.YtbjoldcjbpngaaaCoX
import Derived.ProofKit
namespace Go.Proofs.Ytbjoldcjbpngaaa
open Go Go.ChangeShapes Go.WideShapes Go.ChangeAt Go.RowKit Go.Ev

theorem own : ownKnob Try.prog.godebug = none := by kernel_rfl
theorem laidOut : laidOutB Try.prog = true := by kernel_rfl
def plains : List TypeId := [24, 22, 3, 4, 28, 26, 25, 29]
theorem plains_ok : plainTs Try.prog plains = true := by kernel_rfl
theorem aggT : aggB Try.prog 24 = some true := by kernel_rfl
theorem aggC : aggB Try.prog 28 = some true := by kernel_rfl
theorem aggA : aggB Try.prog 29 = some true := by kernel_rfl
theorem tyP : TyP Try.prog 24 22 4 3 := ⟨⟨_, Try.underlying24, by kernel_rfl⟩, Try.underlying22, Try.underlying4, Try.underlying3⟩
theorem coP : CoP Try.prog 28 26 25 3 := ⟨⟨_, Try.underlying28, by kernel_rfl⟩, Try.underlying26, Try.underlying25, Try.underlying3⟩
def z0 : Value := .agg #[.bool false, .int .i64 0, .int .i64 0, .slice none 0 0, .int .i64 0, .slice none 0 0]
def zc : Value := .agg #[.int .i64 0, .int .i64 0, .int .i64 0, .int .i64 0, .int .i64 0, .int .i64 0, .int .i64 0, .int .i64 0, .slice none 0 0, .int .i64 0, .int .i64 0, .slice none 0 0]

/-- A type that a law is given. -/
theorem ty_arg {H : Type} {enc : TypeId × Value → H} {W : World} {v : Value} {d : DataW H} {ps : List MemPlace} {base : Nat} (hok : Value.okWide Try.prog W .any base 24 v) (h : DataW.Trod enc Try.prog W 0 (fun _ => true) true 24 v d ps) :
    ∃ x : Ty, Rep (Gh.all W) (vT x) v ∧ WfT x := by
  obtain ⟨n, cs, h1, h2, _⟩ := arg_has plains_ok (by decide) hok h
  obtain ⟨x, rfl, hw⟩ := ty_dec tyP n cs h1
  exact ⟨x, h2 aggT, hw⟩
/-- A coercion that a law is given. -/
theorem co_arg {H : Type} {enc : TypeId × Value → H} {W : World} {v : Value} {d : DataW H} {ps : List MemPlace} {base : Nat} (hok : Value.okWide Try.prog W .any base 28 v) (h : DataW.Trod enc Try.prog W 0 (fun _ => true) true 28 v d ps) :
    ∃ x : Co, Rep (Gh.all W) (vC x) v ∧ WfC x := by
  obtain ⟨n, cs, h1, h2, _⟩ := arg_has plains_ok (by decide) hok h
  obtain ⟨x, rfl, hw⟩ := co_dec coP n cs h1
  exact ⟨x, h2 aggC, hw⟩
/-- Two coercions that a law is given. -/
theorem two_arg {H : Type} {enc : TypeId × Value → H} {W : World} {v : Value} {d : DataW H} {ps : List MemPlace} {base : Nat} (hok : Value.okWide Try.prog W .any base 29 v) (h : DataW.Trod enc Try.prog W 0 (fun _ => true) true 29 v d ps) :
    ∃ x y : Co, Rep (Gh.all W) (.agg (cC x ++ cC y)) v ∧ WfC x ∧ WfC y := by
  obtain ⟨n, cs, h1, h2, _⟩ := arg_has plains_ok (by decide) hok h
  cases n with
  | zero => cases h1
  | succ n =>
    obtain ⟨parts, k1, rfl, k3⟩ := HasT.array_of Try.underlying29 h1
    obtain ⟨p0, p1, rfl⟩ := len2 k1
    obtain ⟨x, rfl, hx⟩ := co_dec coP n p0 (k3 p0 (by simp))
    obtain ⟨y, rfl, hy⟩ := co_dec coP n p1 (k3 p1 (by simp))
    exact ⟨x, y, by simpa using h2 aggA, hx, hy⟩

end Go.Proofs.Ytbjoldcjbpngaaa
