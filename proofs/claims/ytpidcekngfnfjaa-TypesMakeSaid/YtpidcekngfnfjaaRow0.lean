/-
  What the rows of this seat share: the arguments that are types.
-/
import Derived.Test.YtpidcekngfnfjaaRows
import Derived.Test.YtpidcekngfnfjaaTie
import Derived.Test.YtpidcekngfnfjaaTyX
import Derived.ProofKit
namespace Go.Proofs.Ytpidcekngfnfjaa
open Go Go.ChangeShapes Go.WideShapes Go.ChangeAt Go.RowKit Go.Ev

theorem own : ownKnob Try.prog.godebug = none := by kernel_rfl
theorem laidOut : laidOutB Try.prog = true := by kernel_rfl
def plains : List TypeId := [24, 22, 3, 4]
theorem plains_ok : plainTs Try.prog plains = true := by kernel_rfl
theorem aggT : aggB Try.prog 24 = some true := by kernel_rfl
theorem tyP : TyP Try.prog 24 22 4 3 := ⟨⟨_, Try.underlying24, by kernel_rfl⟩, Try.underlying22, Try.underlying4, Try.underlying3⟩
def z0 : Value := .agg #[.bool false, .int .i64 0, .int .i64 0, .slice none 0 0, .int .i64 0, .slice none 0 0]

/-- A type that a law is given. -/
theorem ty_arg {H : Type} {enc : TypeId × Value → H} {W : World} {v : Value} {d : DataW H} {ps : List MemPlace} {base : Nat} (hok : Value.okWide Try.prog W .any base 24 v) (h : DataW.Trod enc Try.prog W 0 (fun _ => true) true 24 v d ps) :
    ∃ x : Ty, Rep (Gh.all W) (vT x) v ∧ WfT x := by
  obtain ⟨n, cs, h1, h2, _⟩ := arg_has plains_ok (by decide) hok h
  obtain ⟨x, rfl, hw⟩ := ty_dec tyP n cs h1
  exact ⟨x, h2 aggT, hw⟩

end Go.Proofs.Ytpidcekngfnfjaa
