/-
  TypesRelate: for every input the law returns true, and what it was given reads behind the call as before. No conditions.
-/
import Derived.Test.YtpidcekngfnfjaaRows
import Derived.Test.YtpidcekngfnfjaaLawA
import Derived.Test.YtpidcekngfnfjaaTie
import Derived.Test.YtpidcekngfnfjaaTyX
import Derived.ProofKit
namespace Go.Proofs.Ytpidcekngfnfjaa
open Go Go.ChangeShapes Go.WideShapes Go.ChangeAt Go.RowKit Go.Ev

theorem own : ownKnob Try.prog.godebug = none := by kernel_rfl
theorem laidOut : laidOutB Try.prog = true := by kernel_rfl
def plains : List TypeId := [24, 22, 3, 4]
theorem plains_ok : plainTs Try.prog plains = true := by kernel_rfl
theorem aggT : aggB Try.prog 24 = some true := by kernel_rfl
theorem tyP : TyP Try.prog 24 22 4 3 := ⟨⟨_, Try.underlying24, by kernel_rfl⟩, Try.underlying22, Try.underlying4, Try.underlying3⟩
def z0 : Value := .agg #[.bool false, .int .i64 0, .int .i64 0, .slice none 0 0, .int .i64 0, .slice none 0 0]

/-- A type that a law is given. -/
theorem ty_arg {H : Type} {enc : TypeId × Value → H} {W : World} {v : Value} {d : DataW H} {ps : List MemPlace} {base : Nat} (hok : Value.okWide Try.prog W .any base 24 v) (h : DataW.Trod enc Try.prog W 0 (fun _ => true) true 24 v d ps) :
    ∃ x : Ty, Rep (Gh.all W) (vT x) v ∧ WfT x := by
  obtain ⟨n, cs, h1, h2, _⟩ := arg_has plains_ok (by decide) hok h
  obtain ⟨x, rfl, hw⟩ := ty_dec tyP n cs h1
  exact ⟨x, h2 aggT, hw⟩

set_option maxRecDepth 100000 in
theorem relate_lifted (os : Os) (started : os.Started) (H : Type) (enc : TypeId × Value → H) :
    ReturnsInHanded {} Try.checked os 3 .any (Rows.typesRelateSpec.pre6 enc Try.prog Try.f3 Rows.typesRelateRow.domain false) (Rows.typesRelateSpec.post enc Try.prog Try.f3 false true false false) := by
  refine returnsInHanded_of_change (C := Try.checked) own started (by kernel_rfl) Try.func3
    (ChangeSpec.witness6 (enc := enc) (C := Try.checked) false ⟨#[], #[z0, z0], []⟩ 8 (by kernel_rfl) (by kernel_rfl) (by kernel_rfl) (by kernel_rfl)) ?_
  intro W base args ds gs before hval0 hW hcnd _
  have hval : ∀ (j : Nat) t v, Try.f3.params[j]? = some t → args[j]? = some v → Value.okWide Try.prog W .any base t v := hval0
  have hW' := hW
  obtain ⟨p, q, hA0, hV, rfl, hfz, hnd⟩ := hW
  have hA : DataW.TrodAll enc Try.prog W 0 (fun _ => true) true Try.f3.params.toList args.toList ds p := hA0
  rw [Try.params3] at hA hval
  obtain ⟨v0, v1, d0, d1, p0, p1, rfl, rfl, rfl, h0, h1⟩ := trodAll_two hA
  obtain ⟨a, ra, wa⟩ := ty_arg (hval 0 24 v0 rfl rfl) h0
  obtain ⟨b, rb, wb⟩ := ty_arg (hval 1 24 v1 rfl rfl) h1
  refine (law_calls Seat.fol Seat.tie (Seat.relate a b wa wb) (W := W) (Reps.cons ra (Reps.cons rb (Reps.nil _)))).mono fun e W' ⟨he, hbl⟩ => ?_
  exact ⟨_, he, law_post (bt := 4) laidOut (by kernel_rfl) (by kernel_rfl) Try.underlying4 rfl ⟨rfl, rfl, rfl⟩ hW' hbl⟩

theorem relate_holds : Rows.TypesRelateSaid :=
  OpenClaim.holds_of_wide 3 Try.f3 rfl rfl rfl rfl rfl rfl rfl ⟨rfl, rfl, rfl, rfl, rfl⟩ rfl rfl rfl rfl rfl (by kernel_rfl) Try.func3 (by kernel_rfl)
    (of_decide_eq_true (by kernel_rfl)) (by unfold Func.isWrapper; first | (rw [if_pos (by decide +kernel)]; kernel_rfl) | (rw [if_neg (by decide +kernel)]; exact ⟨rfl, rfl⟩))
    (fun os started H enc _ => relate_lifted os started H enc)
end Go.Proofs.Ytpidcekngfnfjaa
