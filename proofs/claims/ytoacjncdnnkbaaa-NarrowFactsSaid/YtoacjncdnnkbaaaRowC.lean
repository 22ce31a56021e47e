/-
  NarrowFacts: for every input the law returns true, and what it was given reads behind the call as before. No conditions.
-/
import Derived.Test.YtoacjncdnnkbaaaP7
import Derived.Test.YtoacjncdnnkbaaaProg
import Derived.KernelRfl
import Derived.Test.YtoacjncdnnkbaaaRows
import Derived.ProofKit
namespace Go.Ev.Seat
open Go Go.Ev
theorem tie : chkTab Go.Proofs.Try.prog 0 tabL = true := by kernel_rfl
theorem fol : Go.Proofs.Try.prog.follows .mixedOrders = true := by kernel_rfl
end Go.Ev.Seat
namespace Go.Proofs.Ytoacjncdnnkbaaa
open Go Go.ChangeShapes Go.WideShapes Go.ChangeAt Go.RowKit Go.Ev
set_option maxRecDepth 100000
theorem own : ownKnob Try.prog.godebug = none := by kernel_rfl
theorem laidOut : laidOutB Try.prog = true := by kernel_rfl
def plains : List TypeId := [37, 34, 3, 4, 24, 22, 61]
theorem plains_ok : plainTs Try.prog plains = true := by kernel_rfl
theorem aggF : aggB Try.prog 24 = some true := by kernel_rfl
theorem aggE : aggB Try.prog 61 = some true := by kernel_rfl
def zf : Value := .agg #[.bool false, .slice none 0 0]
theorem fct_dec (n : Nat) (ars : List AVal) (h : HasT Try.prog n 61 ars) : ∃ x : Fct, ars = cFct x := by
  cases n with
  | zero => cases h
  | succ n =>
    obtain ⟨parts, h1, rfl, h3⟩ := HasT.struct_of (l := [3, 3]) Try.underlying61 (by kernel_rfl) h
    obtain ⟨p0, p1, rfl⟩ := len2 h1
    obtain ⟨v0, _, rfl⟩ := HasT.int_of Try.underlying3 (h3 0 3 p0 rfl rfl)
    obtain ⟨v1, _, rfl⟩ := HasT.int_of Try.underlying3 (h3 1 3 p1 rfl rfl)
    exact ⟨⟨v0, v1⟩, rfl⟩
theorem fts_dec (n : Nat) (ars : List AVal) (h : HasT Try.prog n 24 ars) : ∃ x : Fts, ars = cFts x := by
  cases n with
  | zero => cases h
  | succ n =>
    obtain ⟨parts, h1, rfl, h3⟩ := HasT.struct_of (l := [4, 22]) Try.underlying24 (by kernel_rfl) h
    obtain ⟨p0, p1, rfl⟩ := len2 h1
    obtain ⟨v0, rfl⟩ := HasT.bool_of Try.underlying4 (h3 0 4 p0 rfl rfl)
    have hs := h3 1 22 p1 rfl rfl
    cases n with
    | zero => cases hs
    | succ n =>
      obtain ⟨xs, _, hc, hx⟩ := HasT.slice_of Try.underlying22 hs
      obtain ⟨ys, rfl, _⟩ := dec_list (enc := encFct) (Q := fun _ => True) (xs := xs) fun x hm => by
        obtain ⟨k1, k2, _⟩ := hx x hm
        obtain ⟨ars, rfl⟩ := k2 aggE
        obtain ⟨y, hy⟩ := fct_dec n _ k1
        have hy : ars = cFct y := hy
        subst hy
        exact ⟨y, rfl, trivial⟩
      subst hc
      exact ⟨⟨v0, ys⟩, rfl⟩
theorem fts_arg {H : Type} {enc : TypeId × Value → H} {W : World} {v : Value} {d : DataW H} {ps : List MemPlace} {base : Nat} (hok : Value.okWide Try.prog W .any base 24 v) (h : DataW.Trod enc Try.prog W 0 (fun _ => true) true 24 v d ps) :
    ∃ x : Fts, Rep (Gh.all W) (vFts x) v := by
  obtain ⟨n, cs, h1, h2, _⟩ := arg_has plains_ok (by decide) hok h
  obtain ⟨x, rfl⟩ := fts_dec n cs h1
  exact ⟨x, h2 aggF⟩
end Go.Proofs.Ytoacjncdnnkbaaa
namespace Go.Proofs.Ytoacjncdnnkbaaa
open Go Go.ChangeShapes Go.WideShapes Go.ChangeAt Go.RowKit Go.Ev
set_option maxRecDepth 100000 in
theorem facts_lifted (os : Os) (started : os.Started) (H : Type) (enc : TypeId × Value → H) :
    ReturnsInHanded {} Try.checked os 3 .any (Rows.narrowFactsSpec.pre6 enc Try.prog Try.f3 Rows.narrowFactsRow.domain false) (Rows.narrowFactsSpec.post enc Try.prog Try.f3 false true false false) := by
  refine returnsInHanded_of_change (C := Try.checked) own started (by kernel_rfl) Try.func3
    (ChangeSpec.witness6 (enc := enc) (C := Try.checked) false ⟨#[], #[zf, zf], []⟩ 8 (by kernel_rfl) (by kernel_rfl) (by kernel_rfl) (by kernel_rfl)) ?_
  intro W base args ds gs before hval0 hW hcnd _
  have hval : ∀ (j : Nat) t v, Try.f3.params[j]? = some t → args[j]? = some v → Value.okWide Try.prog W .any base t v := hval0
  have hW' := hW
  obtain ⟨p, q, hA0, hV, rfl, hfz, hnd⟩ := hW
  have hA : DataW.TrodAll enc Try.prog W 0 (fun _ => true) true Try.f3.params.toList args.toList ds p := hA0
  rw [Try.params3] at hA hval
  obtain ⟨v0, v1, d0, d1, p0, p1, rfl, rfl, rfl, h0, h1⟩ := trodAll_two hA
  obtain ⟨a, ra⟩ := fts_arg (hval 0 24 v0 rfl rfl) h0
  obtain ⟨b, rb⟩ := fts_arg (hval 1 24 v1 rfl rfl) h1
  obtain ⟨nn, hm⟩ := Seat.nfacts a b
  refine (law_calls Seat.fol Seat.tie hm (W := W) (Reps.cons ra (Reps.cons rb (Reps.nil _)))).mono fun e W' ⟨he, hbl⟩ => ?_
  exact ⟨_, he, law_post (bt := 4) laidOut (by kernel_rfl) (by kernel_rfl) Try.underlying4 rfl ⟨rfl, rfl, rfl⟩ hW' hbl⟩
theorem facts_holds : Rows.NarrowFactsSaid :=
  OpenClaim.holds_of_wide 3 Try.f3 rfl rfl rfl rfl rfl rfl rfl ⟨rfl, rfl, rfl, rfl, rfl⟩ rfl rfl rfl rfl rfl (by kernel_rfl) Try.func3 (by kernel_rfl)
    (of_decide_eq_true (by kernel_rfl)) (by unfold Func.isWrapper; first | (rw [if_pos (by decide +kernel)]; kernel_rfl) | (rw [if_neg (by decide +kernel)]; exact ⟨rfl, rfl⟩))
    (fun os started H enc _ => facts_lifted os started H enc)
end Go.Proofs.Ytoacjncdnnkbaaa
