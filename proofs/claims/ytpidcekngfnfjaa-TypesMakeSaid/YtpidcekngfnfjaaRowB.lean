/-
  TypesMake: for every input the law returns true, and what it was given reads behind the call as before. No conditions.
-/
import Derived.Test.YtpidcekngfnfjaaLawB
import Derived.Test.YtpidcekngfnfjaaRow0
namespace Go.Proofs.Ytpidcekngfnfjaa
open Go Go.ChangeShapes Go.WideShapes Go.ChangeAt Go.RowKit Go.Ev
set_option maxRecDepth 100000 in
theorem make_lifted (os : Os) (started : os.Started) (H : Type) (enc : TypeId × Value → H) :
    ReturnsInHanded {} Try.checked os 4 .any (Rows.typesMakeSpec.pre6 enc Try.prog Try.f4 Rows.typesMakeRow.domain false) (Rows.typesMakeSpec.post enc Try.prog Try.f4 false true false false) := by
  refine returnsInHanded_of_change (C := Try.checked) own started (by kernel_rfl) Try.func4
    (ChangeSpec.witness6 (enc := enc) (C := Try.checked) false ⟨#[], #[.int .i64 0, z0, z0], []⟩ 8 (by kernel_rfl) (by kernel_rfl) (by kernel_rfl) (by kernel_rfl)) ?_
  intro W base args ds gs before hval0 hW hcnd _
  have hval : ∀ (j : Nat) t v, Try.f4.params[j]? = some t → args[j]? = some v → Value.okWide Try.prog W .any base t v := hval0
  have hW' := hW
  obtain ⟨p, q, hA0, hV, rfl, hfz, hnd⟩ := hW
  have hA : DataW.TrodAll enc Try.prog W 0 (fun _ => true) true Try.f4.params.toList args.toList ds p := hA0
  rw [Try.params4] at hA hval
  obtain ⟨v0, v1, v2, d0, d1, d2, p0, p1, p2, rfl, rfl, rfl, h0, h1, h2⟩ := trodAll_three hA
  obtain ⟨a, rfl, rfl, rfl, wa⟩ := open_int Try.underlying3 (hval 0 3 v0 rfl rfl) h0
  obtain ⟨b, rb, wb⟩ := ty_arg (hval 1 24 v1 rfl rfl) h1
  obtain ⟨c, rc, wc⟩ := ty_arg (hval 2 24 v2 rfl rfl) h2
  refine (law_calls Seat.fol Seat.tie (Seat.make a b c (i64_wf wa) wb wc) (W := W) (Reps.cons (.int .i64 a) (Reps.cons rb (Reps.cons rc (Reps.nil _))))).mono fun e W' ⟨he, hbl⟩ => ?_
  exact ⟨_, he, law_post (bt := 4) laidOut (by kernel_rfl) (by kernel_rfl) Try.underlying4 rfl ⟨rfl, rfl, rfl⟩ hW' hbl⟩

theorem make_holds : Rows.TypesMakeSaid :=
  OpenClaim.holds_of_wide 4 Try.f4 rfl rfl rfl rfl rfl rfl rfl ⟨rfl, rfl, rfl, rfl, rfl⟩ rfl rfl rfl rfl rfl (by kernel_rfl) Try.func4 (by kernel_rfl)
    (of_decide_eq_true (by kernel_rfl)) (by unfold Func.isWrapper; first | (rw [if_pos (by decide +kernel)]; kernel_rfl) | (rw [if_neg (by decide +kernel)]; exact ⟨rfl, rfl⟩))
    (fun os started H enc _ => make_lifted os started H enc)
end Go.Proofs.Ytpidcekngfnfjaa
