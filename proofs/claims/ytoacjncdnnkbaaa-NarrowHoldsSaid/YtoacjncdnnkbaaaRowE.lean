/-
  NarrowHolds: for every input the law returns true, and what it was given reads behind the call as before. No conditions.
-/
import Derived.Test.YtoacjncdnnkbaaaP7
import Derived.Test.YtoacjncdnnkbaaaProg
import Derived.KernelRfl
import Derived.Test.YtoacjncdnnkbaaaRows
import Derived.ProofKit
namespace Go.Ev.Seat
open Go Go.Ev
theorem tie : chkTab Go.Proofs.Try.prog 0 tabL = true := by kernel_rfl
theorem fol : Go.Proofs.Try.prog.follows .mixedOrders = true := by kernel_rfl
end Go.Ev.Seat
namespace Go.Proofs.Ytoacjncdnnkbaaa
open Go Go.ChangeShapes Go.WideShapes Go.ChangeAt Go.RowKit Go.Ev
set_option maxRecDepth 100000
theorem own : ownKnob Try.prog.godebug = none := by kernel_rfl
theorem laidOut : laidOutB Try.prog = true := by kernel_rfl
end Go.Proofs.Ytoacjncdnnkbaaa
namespace Go.Proofs.Ytoacjncdnnkbaaa
open Go Go.ChangeShapes Go.WideShapes Go.ChangeAt Go.RowKit Go.Ev
set_option maxRecDepth 100000
def plainsT : List TypeId := [46, 44, 3, 4, 56, 58]
theorem y7j : plainTs Try.prog plainsT = true := by kernel_rfl
theorem aggTst : aggB Try.prog 46 = some true := by kernel_rfl
theorem aggVs : aggB Try.prog 56 = some false := by kernel_rfl
theorem aggV : aggB Try.prog 58 = some true := by kernel_rfl
def zt : Value := .agg #[.int .i64 0, .int .i64 0, .int .i64 0, .bool false, .slice none 0 0]
theorem tst_dec : ∀ (n : Nat) (ars : List AVal), HasT Try.prog n 46 ars → ∃ x : Tst, ars = cTst x := by
  intro n
  induction n using Nat.strongRecOn with
  | ind n ih =>
    intro ars h
    cases n with
    | zero => cases h
    | succ n =>
      obtain ⟨parts, h1, rfl, h3⟩ := HasT.struct_of (l := [3, 3, 3, 4, 44]) Try.underlying46 (by kernel_rfl) h
      obtain ⟨p0, p1, p2, p3, p4, rfl⟩ := len5 h1
      obtain ⟨v0, _, rfl⟩ := HasT.int_of Try.underlying3 (h3 0 3 p0 rfl rfl)
      obtain ⟨v1, _, rfl⟩ := HasT.int_of Try.underlying3 (h3 1 3 p1 rfl rfl)
      obtain ⟨v2, _, rfl⟩ := HasT.int_of Try.underlying3 (h3 2 3 p2 rfl rfl)
      obtain ⟨v3, rfl⟩ := HasT.bool_of Try.underlying4 (h3 3 4 p3 rfl rfl)
      have hs := h3 4 44 p4 rfl rfl
      cases n with
      | zero => cases hs
      | succ n =>
        obtain ⟨xs, _, rfl, hx⟩ := HasT.slice_of Try.underlying44 hs
        obtain ⟨ys, rfl, _⟩ := dec_list (enc := encTst) (Q := fun _ => True) (xs := xs) fun x hm => by
          obtain ⟨k1, k2, _⟩ := hx x hm
          obtain ⟨ars, rfl⟩ := k2 aggTst
          obtain ⟨y, hy⟩ := ih n (by omega) _ k1
          have hy : ars = cTst y := hy
          subst hy
          exact ⟨y, (encTst_eq y).symm, trivial⟩
        exact ⟨.mk v0 v1 v2 v3 ys, rfl⟩
theorem tst_arg {H : Type} {enc : TypeId × Value → H} {W : World} {v : Value} {d : DataW H} {ps : List MemPlace} {base : Nat} (hok : Value.okWide Try.prog W .any base 46 v) (h : DataW.Trod enc Try.prog W 0 (fun _ => true) true 46 v d ps) :
    ∃ x : Tst, Rep (Gh.all W) (vTst x) v := by
  obtain ⟨n, cs, h1, h2, _⟩ := arg_has y7j (by decide) hok h
  obtain ⟨x, rfl⟩ := tst_dec n cs h1
  exact ⟨x, h2 aggTst⟩
theorem tvl_dec (n : Nat) (ars : List AVal) (h : HasT Try.prog n 58 ars) : ∃ x : TVl, ars = cTVl x := by
  cases n with
  | zero => cases h
  | succ n =>
    obtain ⟨parts, h1, rfl, h3⟩ := HasT.struct_of (l := [3, 4]) Try.underlying58 (by kernel_rfl) h
    obtain ⟨p0, p1, rfl⟩ := len2 h1
    obtain ⟨v0, _, rfl⟩ := HasT.int_of Try.underlying3 (h3 0 3 p0 rfl rfl)
    obtain ⟨v1, rfl⟩ := HasT.bool_of Try.underlying4 (h3 1 4 p1 rfl rfl)
    exact ⟨⟨v0, v1⟩, rfl⟩
theorem tvls_arg {H : Type} {enc : TypeId × Value → H} {W : World} {v : Value} {d : DataW H} {ps : List MemPlace} {base : Nat} (hok : Value.okWide Try.prog W .any base 56 v) (h : DataW.Trod enc Try.prog W 0 (fun _ => true) true 56 v d ps) :
    ∃ xs : List TVl, Rep (Gh.all W) (.lst (xs.map encTVl) false) v := by
  obtain ⟨n, cs, h1, _, h2⟩ := arg_has y7j (by decide) hok h
  obtain ⟨c, rfl, hr⟩ := h2 aggVs
  cases n with
  | zero => cases h1
  | succ n =>
    obtain ⟨xs, _, hc, hx⟩ := HasT.slice_of Try.underlying56 h1
    obtain ⟨ys, rfl, _⟩ := dec_list (enc := encTVl) (Q := fun _ => True) (xs := xs) fun x hm => by
      obtain ⟨k1, k2, _⟩ := hx x hm
      obtain ⟨ars, rfl⟩ := k2 aggV
      obtain ⟨y, hy⟩ := tvl_dec n _ k1
      have hy : ars = cTVl y := hy
      subst hy
      exact ⟨y, rfl, trivial⟩
    simp only [List.cons.injEq, and_true] at hc
    subst hc
    exact ⟨ys, hr⟩
end Go.Proofs.Ytoacjncdnnkbaaa
namespace Go.Proofs.Ytoacjncdnnkbaaa
open Go Go.ChangeShapes Go.WideShapes Go.ChangeAt Go.RowKit Go.Ev
set_option maxRecDepth 100000 in
theorem holdsT_lifted (os : Os) (started : os.Started) (H : Type) (enc : TypeId × Value → H) :
    ReturnsInHanded {} Try.checked os 6 .any (Rows.narrowHoldsSpec.pre6 enc Try.prog Try.f6 Rows.narrowHoldsRow.domain false) (Rows.narrowHoldsSpec.post enc Try.prog Try.f6 false true false false) := by
  refine returnsInHanded_of_change (C := Try.checked) own started (by kernel_rfl) Try.func6
    (ChangeSpec.witness6 (enc := enc) (C := Try.checked) false ⟨#[], #[zt, .slice none 0 0], []⟩ 8 (by kernel_rfl) (by kernel_rfl) (by kernel_rfl) (by kernel_rfl)) ?_
  intro W base args ds gs before hval0 hW hcnd _
  have hval : ∀ (j : Nat) t v, Try.f6.params[j]? = some t → args[j]? = some v → Value.okWide Try.prog W .any base t v := hval0
  have hW' := hW
  obtain ⟨p, q, hA0, hV, rfl, hfz, hnd⟩ := hW
  have hA : DataW.TrodAll enc Try.prog W 0 (fun _ => true) true Try.f6.params.toList args.toList ds p := hA0
  rw [Try.params6] at hA hval
  obtain ⟨v0, v1, d0, d1, p0, p1, rfl, rfl, rfl, h0, h1⟩ := trodAll_two hA
  obtain ⟨a, ra⟩ := tst_arg (hval 0 46 v0 rfl rfl) h0
  obtain ⟨b, rb⟩ := tvls_arg (hval 1 56 v1 rfl rfl) h1
  obtain ⟨nn, hm⟩ := Seat.nholds a b
  refine (law_calls Seat.fol Seat.tie hm (W := W) (Reps.cons ra (Reps.cons rb (Reps.nil _)))).mono fun e W' ⟨he, hbl⟩ => ?_
  exact ⟨_, he, law_post (bt := 4) laidOut (by kernel_rfl) (by kernel_rfl) Try.underlying4 rfl ⟨rfl, rfl, rfl⟩ hW' hbl⟩
theorem holds_holds : Rows.NarrowHoldsSaid :=
  OpenClaim.holds_of_wide 6 Try.f6 rfl rfl rfl rfl rfl rfl rfl ⟨rfl, rfl, rfl, rfl, rfl⟩ rfl rfl rfl rfl rfl (by kernel_rfl) Try.func6 (by kernel_rfl)
    (of_decide_eq_true (by kernel_rfl)) (by unfold Func.isWrapper; first | (rw [if_pos (by decide +kernel)]; kernel_rfl) | (rw [if_neg (by decide +kernel)]; exact ⟨rfl, rfl⟩))
    (fun os started H enc _ => holdsT_lifted os started H enc)
end Go.Proofs.Ytoacjncdnnkbaaa
