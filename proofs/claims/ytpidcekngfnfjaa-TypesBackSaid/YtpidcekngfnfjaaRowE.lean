/-
  TypesBack: for every input the law returns true, and what it was given reads behind the call as before. No conditions.
-/
import Derived.Test.YtpidcekngfnfjaaP6
import Derived.Test.YtpidcekngfnfjaaProg
import Derived.KernelRfl
import Derived.Test.YtpidcekngfnfjaaRows
import Derived.ProofKit
namespace Go.Ev.Seat
open Go Go.Ev
theorem tie : chkTab Go.Proofs.Try.prog 0 tabL = true := by kernel_rfl
theorem fol : Go.Proofs.Try.prog.follows .mixedOrders = true := by kernel_rfl
end Go.Ev.Seat
namespace Go.Proofs.Ytpidcekngfnfjaa
open Go Go.ChangeShapes Go.WideShapes Go.ChangeAt Go.RowKit Go.Ev
theorem own : ownKnob Try.prog.godebug = none := by kernel_rfl
theorem laidOut : laidOutB Try.prog = true := by kernel_rfl
def plains : List TypeId := [24, 22, 3, 4]
theorem plains_ok : plainTs Try.prog plains = true := by kernel_rfl
theorem aggT : aggB Try.prog 24 = some true := by kernel_rfl
theorem tyP : TyP Try.prog 24 22 4 3 := ⟨⟨_, Try.underlying24, by kernel_rfl⟩, Try.underlying22, Try.underlying4, Try.underlying3⟩
def z0 : Value := .agg #[.bool false, .int .i64 0, .int .i64 0, .slice none 0 0, .int .i64 0, .slice none 0 0]
theorem ty_arg {H : Type} {enc : TypeId × Value → H} {W : World} {v : Value} {d : DataW H} {ps : List MemPlace} {base : Nat} (hok : Value.okWide Try.prog W .any base 24 v) (h : DataW.Trod enc Try.prog W 0 (fun _ => true) true 24 v d ps) :
    ∃ x : Ty, Rep (Gh.all W) (vT x) v ∧ WfT x := by
  obtain ⟨n, cs, h1, h2, _⟩ := arg_has plains_ok (by decide) hok h
  obtain ⟨x, rfl, hw⟩ := ty_dec tyP n cs h1
  exact ⟨x, h2 aggT, hw⟩
end Go.Proofs.Ytpidcekngfnfjaa
namespace Go.Proofs.Ytpidcekngfnfjaa
open Go Go.ChangeShapes Go.WideShapes Go.ChangeAt Go.RowKit Go.Ev
set_option maxRecDepth 100000 in
theorem back_lifted (os : Os) (started : os.Started) (H : Type) (enc : TypeId × Value → H) :
    ReturnsInHanded {} Try.checked os 7 .any (Rows.typesBackSpec.pre6 enc Try.prog Try.f7 Rows.typesBackRow.domain false) (Rows.typesBackSpec.post enc Try.prog Try.f7 false true false false) := by
  refine returnsInHanded_of_change (C := Try.checked) own started (by kernel_rfl) Try.func7
    (ChangeSpec.witness6 (enc := enc) (C := Try.checked) false ⟨#[], #[z0], []⟩ 8 (by kernel_rfl) (by kernel_rfl) (by kernel_rfl) (by kernel_rfl)) ?_
  intro W base args ds gs before hval0 hW hcnd _
  have hval : ∀ (j : Nat) t v, Try.f7.params[j]? = some t → args[j]? = some v → Value.okWide Try.prog W .any base t v := hval0
  have hW' := hW
  obtain ⟨p, q, hA0, hV, rfl, hfz, hnd⟩ := hW
  have hA : DataW.TrodAll enc Try.prog W 0 (fun _ => true) true Try.f7.params.toList args.toList ds p := hA0
  rw [Try.params7] at hA hval
  obtain ⟨v0, d0, rfl, rfl, h0⟩ := trodAll_one hA
  obtain ⟨a, ra, wa⟩ := ty_arg (hval 0 24 v0 rfl rfl) h0
  obtain ⟨nn, hm⟩ := Seat.tback a wa
  refine (law_calls Seat.fol Seat.tie hm (W := W) (Reps.cons ra (Reps.nil _))).mono fun e W' ⟨he, hbl⟩ => ?_
  exact ⟨_, he, law_post (bt := 4) laidOut (by kernel_rfl) (by kernel_rfl) Try.underlying4 rfl ⟨rfl, rfl, rfl⟩ hW' hbl⟩
theorem back_holds : Rows.TypesBackSaid :=
  OpenClaim.holds_of_wide 7 Try.f7 rfl rfl rfl rfl rfl rfl rfl ⟨rfl, rfl, rfl, rfl, rfl⟩ rfl rfl rfl rfl rfl (by kernel_rfl) Try.func7 (by kernel_rfl)
    (of_decide_eq_true (by kernel_rfl)) (by unfold Func.isWrapper; first | (rw [if_pos (by decide +kernel)]; kernel_rfl) | (rw [if_neg (by decide +kernel)]; exact ⟨rfl, rfl⟩))
    (fun os started H enc _ => back_lifted os started H enc)
end Go.Proofs.Ytpidcekngfnfjaa
