/-
  CoerceMakes: for every input the law returns true, and what it was given reads behind the call as before. No conditions.
-/
import Derived.Test.YtbjoldcjbpngaaaP8
import Derived.Test.YtbjoldcjbpngaaaProg
import Derived.KernelRfl
import Derived.Test.YtbjoldcjbpngaaaRows
import Derived.ProofKit
namespace Go.Ev.Seat
open Go Go.Ev
theorem tie : chkTab Go.Proofs.Try.prog 0 tabL = true := by kernel_rfl
theorem fol : Go.Proofs.Try.prog.follows .mixedOrders = true := by kernel_rfl
end Go.Ev.Seat
namespace Go.Proofs.Ytbjoldcjbpngaaa
open Go Go.ChangeShapes Go.WideShapes Go.ChangeAt Go.RowKit Go.Ev
theorem own : ownKnob Try.prog.godebug = none := by kernel_rfl
theorem laidOut : laidOutB Try.prog = true := by kernel_rfl
def plains : List TypeId := [24, 22, 3, 4, 28, 26, 25, 29]
theorem plains_ok : plainTs Try.prog plains = true := by kernel_rfl
theorem aggT : aggB Try.prog 24 = some true := by kernel_rfl
theorem aggA : aggB Try.prog 29 = some true := by kernel_rfl
theorem tyP : TyP Try.prog 24 22 4 3 := ⟨⟨_, Try.underlying24, by kernel_rfl⟩, Try.underlying22, Try.underlying4, Try.underlying3⟩
theorem coP : CoP Try.prog 28 26 25 3 := ⟨⟨_, Try.underlying28, by kernel_rfl⟩, Try.underlying26, Try.underlying25, Try.underlying3⟩
def z0 : Value := .agg #[.bool false, .int .i64 0, .int .i64 0, .slice none 0 0, .int .i64 0, .slice none 0 0]
def zc : Value := .agg #[.int .i64 0, .int .i64 0, .int .i64 0, .int .i64 0, .int .i64 0, .int .i64 0, .int .i64 0, .int .i64 0, .slice none 0 0, .int .i64 0, .int .i64 0, .slice none 0 0]
def zcc : Value := .agg #[.int .i64 0, .int .i64 0, .int .i64 0, .int .i64 0, .int .i64 0, .int .i64 0, .int .i64 0, .int .i64 0, .slice none 0 0, .int .i64 0, .int .i64 0, .slice none 0 0, .int .i64 0, .int .i64 0, .int .i64 0, .int .i64 0, .int .i64 0, .int .i64 0, .int .i64 0, .int .i64 0, .slice none 0 0, .int .i64 0, .int .i64 0, .slice none 0 0]
theorem ty_arg {H : Type} {enc : TypeId × Value → H} {W : World} {v : Value} {d : DataW H} {ps : List MemPlace} {base : Nat} (hok : Value.okWide Try.prog W .any base 24 v) (h : DataW.Trod enc Try.prog W 0 (fun _ => true) true 24 v d ps) :
    ∃ x : Ty, Rep (Gh.all W) (vT x) v ∧ WfT x := by
  obtain ⟨n, cs, h1, h2, _⟩ := arg_has plains_ok (by decide) hok h
  obtain ⟨x, rfl, hw⟩ := ty_dec tyP n cs h1
  exact ⟨x, h2 aggT, hw⟩
theorem two_arg {H : Type} {enc : TypeId × Value → H} {W : World} {v : Value} {d : DataW H} {ps : List MemPlace} {base : Nat} (hok : Value.okWide Try.prog W .any base 29 v) (h : DataW.Trod enc Try.prog W 0 (fun _ => true) true 29 v d ps) :
    ∃ x y : Co, Rep (Gh.all W) (.agg (cC x ++ cC y)) v ∧ WfC x ∧ WfC y := by
  obtain ⟨n, cs, h1, h2, _⟩ := arg_has plains_ok (by decide) hok h
  cases n with
  | zero => cases h1
  | succ n =>
    obtain ⟨parts, k1, rfl, k3⟩ := HasT.array_of Try.underlying29 h1
    obtain ⟨p0, p1, rfl⟩ := len2 k1
    obtain ⟨x, rfl, hx⟩ := co_dec coP n p0 (k3 p0 (by simp))
    obtain ⟨y, rfl, hy⟩ := co_dec coP n p1 (k3 p1 (by simp))
    exact ⟨x, y, by simpa using h2 aggA, hx, hy⟩
end Go.Proofs.Ytbjoldcjbpngaaa
namespace Go.Proofs.Ytbjoldcjbpngaaa
open Go Go.ChangeShapes Go.WideShapes Go.ChangeAt Go.RowKit Go.Ev
set_option maxRecDepth 100000 in
theorem makes_lifted (os : Os) (started : os.Started) (H : Type) (enc : TypeId × Value → H) :
    ReturnsInHanded {} Try.checked os 3 .any (Rows.coerceMakesSpec.pre6 enc Try.prog Try.f3 Rows.coerceMakesRow.domain false) (Rows.coerceMakesSpec.post enc Try.prog Try.f3 false true false false) := by
  refine returnsInHanded_of_change (C := Try.checked) own started (by kernel_rfl) Try.func3
    (ChangeSpec.witness6 (enc := enc) (C := Try.checked) false ⟨#[], #[z0, .int .i64 0, zcc], []⟩ 8 (by kernel_rfl) (by kernel_rfl) (by kernel_rfl) (by kernel_rfl)) ?_
  intro W base args ds gs before hval0 hW hcnd _
  have hval : ∀ (j : Nat) t v, Try.f3.params[j]? = some t → args[j]? = some v → Value.okWide Try.prog W .any base t v := hval0
  have hW' := hW
  obtain ⟨p, q, hA0, hV, rfl, hfz, hnd⟩ := hW
  have hA : DataW.TrodAll enc Try.prog W 0 (fun _ => true) true Try.f3.params.toList args.toList ds p := hA0
  rw [Try.params3] at hA hval
  obtain ⟨v0, v1, v2, d0, d1, d2, p0, p1, p2, rfl, rfl, rfl, h0, h1, h2⟩ := trodAll_three hA
  obtain ⟨a, ra, wa⟩ := ty_arg (hval 0 24 v0 rfl rfl) h0
  obtain ⟨b, rfl, rfl, rfl, wb⟩ := open_int Try.underlying3 (hval 1 3 v1 rfl rfl) h1
  obtain ⟨c, d, rc, wc, wd⟩ := two_arg (hval 2 29 v2 rfl rfl) h2
  obtain ⟨nn, hm⟩ := Seat.makes a b c d wa wc wd
  refine (law_calls Seat.fol Seat.tie hm (W := W) (Reps.cons ra (Reps.cons (.int .i64 b) (Reps.cons rc (Reps.nil _))))).mono fun e W' ⟨he, hbl⟩ => ?_
  exact ⟨_, he, law_post (bt := 4) laidOut (by kernel_rfl) (by kernel_rfl) Try.underlying4 rfl ⟨rfl, rfl, rfl⟩ hW' hbl⟩
theorem makes_holds : Rows.CoerceMakesSaid :=
  OpenClaim.holds_of_wide 3 Try.f3 rfl rfl rfl rfl rfl rfl rfl ⟨rfl, rfl, rfl, rfl, rfl⟩ rfl rfl rfl rfl rfl (by kernel_rfl) Try.func3 (by kernel_rfl)
    (of_decide_eq_true (by kernel_rfl)) (by unfold Func.isWrapper; first | (rw [if_pos (by decide +kernel)]; kernel_rfl) | (rw [if_neg (by decide +kernel)]; exact ⟨rfl, rfl⟩))
    (fun os started H enc _ => makes_lifted os started H enc)
end Go.Proofs.Ytbjoldcjbpngaaa
