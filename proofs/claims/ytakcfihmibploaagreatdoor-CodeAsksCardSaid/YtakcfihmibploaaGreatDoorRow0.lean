/-
  CodeAsks: for every input the law returns true, and what it was given reads behind the call as before. No conditions beyond the row's own.
-/
import Derived.Test.YtakcfihmibploaaGreatDoorP6
import Derived.Test.YtakcfihmibploaaGreatDoorProg
import Derived.KernelRfl
import Derived.Test.YtakcfihmibploaaGreatDoorRows
import Derived.Test.YtakcfihmibploaaGreatDoorCards
import Derived.Test.YtakcfihmibploaaGreatDoorTie
import Derived.ProofKit
import Derived.Lay
import Derived.SevenTiedAt
import Derived.Stop.Joined
namespace Go.Ev.Seat
open Go Go.Ev
theorem tie : chkTab Go.Proofs.Tryz.prog 0 tabL = true := by kernel_rfl
theorem fol : Go.Proofs.Tryz.prog.follows .mixedOrders = true := by kernel_rfl
end Go.Ev.Seat
namespace Go.Proofs.YtakcfihmibploaaGreatDoor
open Go Go.ChangeShapes Go.WideShapes Go.ChangeAt Go.RowKit Go.Ev
set_option maxRecDepth 100000
theorem own : ownKnob Tryz.prog.godebug = none := by kernel_rfl
theorem laidOut : laidOutB Tryz.prog = true := by kernel_rfl
def plains : List TypeId := [24, 22, 3]
theorem plains_ok : plainTs Tryz.prog plains = true := by kernel_rfl
theorem aggI : aggB Tryz.prog 24 = some true := by kernel_rfl
theorem aggN : aggB Tryz.prog 3 = some false := by kernel_rfl
theorem ints_dec (n : Nat) (ars : List AVal) (h : HasT Tryz.prog n 22 ars) : ∃ l : List Int, ars = [.lst (l.map (AVal.int .i64)) false] := by
  cases n with
  | zero => cases h
  | succ n =>
    obtain ⟨xs, _, hc, hx⟩ := HasT.slice_of Tryz.underlying22 h
    obtain ⟨ys, rfl, _⟩ := dec_list (enc := AVal.int .i64) (Q := fun _ => True) (xs := xs) fun x hm => by
      obtain ⟨k1, _, k2⟩ := hx x hm
      have e := k2 aggN
      cases n with
      | zero => cases k1
      | succ n =>
        obtain ⟨v, _, e1⟩ := HasT.int_of Tryz.underlying3 k1
        exact ⟨v, by rw [e1] at e; exact (List.cons.inj e).1.symm, trivial⟩
    exact ⟨ys, hc⟩
theorem ins_dec (n : Nat) (ars : List AVal) (h : HasT Tryz.prog n 24 ars) : ∃ x : Ins, ars = cIns x := by
  cases n with
  | zero => cases h
  | succ n =>
    obtain ⟨parts, h1, rfl, h3⟩ := HasT.struct_of (l := [3, 3, 3, 22]) Tryz.underlying24 (by kernel_rfl) h
    obtain ⟨p0, p1, p2, p3, rfl⟩ := len4 h1
    obtain ⟨v0, _, rfl⟩ := HasT.int_of Tryz.underlying3 (h3 0 3 p0 rfl rfl)
    obtain ⟨v1, _, rfl⟩ := HasT.int_of Tryz.underlying3 (h3 1 3 p1 rfl rfl)
    obtain ⟨v2, _, rfl⟩ := HasT.int_of Tryz.underlying3 (h3 2 3 p2 rfl rfl)
    obtain ⟨l, rfl⟩ := ints_dec n p3 (h3 3 22 p3 rfl rfl)
    exact ⟨⟨v0, v1, v2, l⟩, rfl⟩
theorem ins_arg {H : Type} {enc : TypeId × Value → H} {W : World} {v : Value} {d : DataW H} {ps : List MemPlace} {base : Nat} (hok : Value.okWide Tryz.prog W .any base 24 v) (h : DataW.Trod enc Tryz.prog W 0 (fun _ => true) true 24 v d ps) :
    ∃ x : Ins, Rep (Gh.all W) (vIns x) v := by
  obtain ⟨n, cs, h1, h2, _⟩ := arg_has plains_ok (by decide) hok h
  obtain ⟨x, rfl⟩ := ins_dec n cs h1
  exact ⟨x, h2 aggI⟩
noncomputable abbrev lst : List (String × DataW Unit) := Rows.codeAsksRow.laid
set_option maxRecDepth 100000 in
theorem asks_lifted (os : Os) (started : os.Started) (H : Type) (enc : TypeId × Value → H) :
    ReturnsInHanded {} Tryz.checked os 3 .any (fun w args => (Rows.codeAsksSpec.pre enc Tryz.prog Tryz.f3 [] false w args ∧ laidMetH Tryz.prog lst w) ∧ sizedMet enc Tryz.prog Tryz.f3 (OpenSpec.ofChange Rows.codeAsksSpec) false w args)
      (Rows.codeAsksSpec.post enc Tryz.prog Tryz.f3 false true false false) := by
  refine returnsInHanded_of_change_and (C := Tryz.checked) (X := fun w _ => laidMetH Tryz.prog lst w) (fun _ _ _ hh h => h.of_heap hh) own started (by kernel_rfl) Tryz.func3
    (ChangeSpec.witness_shaped (enc := enc) (C := Tryz.checked) (os := os) (X := fun w _ => laidMetH Tryz.prog lst w) false (World.laidAll Tryz.prog os lst) #[.agg #[.int .i64 0, .int .i64 0, .int .i64 0, .slice none 0 0]] 8 (World.laidAll_os _ _ _)
      (World.shaped_of_ZipB (by kernel_rfl) (by kernel_rfl)) (by kernel_rfl) (by kernel_rfl) (by kernel_rfl)
      (by rw [MakeChecks.laidMetH_plain _ _ _ (by kernel_rfl)]; exact laidMet_laidAll _ (by kernel_rfl) (by kernel_rfl))) ?_
  intro W base args ds gs before hval0 hW _ _ _ _
  have hval : ∀ (j : Nat) t v, Tryz.f3.params[j]? = some t → args[j]? = some v → Value.okWide Tryz.prog W .any base t v := hval0
  have hW' := hW
  obtain ⟨p, q, hA0, hV, rfl, hfz, hnd⟩ := hW
  have hA : DataW.TrodAll enc Tryz.prog W 0 (fun _ => true) true Tryz.f3.params.toList args.toList ds p := hA0
  rw [Tryz.params3] at hA hval
  obtain ⟨v0, d0, rfl, rfl, h0⟩ := trodAll_one hA
  obtain ⟨a, ra⟩ := ins_arg (hval 0 24 v0 rfl rfl) h0
  obtain ⟨nn, hm⟩ := Seat.asks a
  refine (law_calls Seat.fol Seat.tie hm (W := W) (Reps.cons ra (Reps.nil _))).mono fun e W' ⟨he, hbl⟩ => ?_
  exact ⟨_, he, law_post (bt := 4) laidOut (by kernel_rfl) (by kernel_rfl) Tryz.underlying4 rfl ⟨rfl, rfl, rfl⟩ hW' hbl⟩
theorem asks_row : Rows.CodeAsksSaid :=
  OpenClaim.holds_of_wide 3 Tryz.f3 rfl rfl rfl rfl rfl rfl rfl ⟨rfl, rfl, rfl, rfl, rfl⟩ rfl rfl rfl rfl rfl (by kernel_rfl) Tryz.func3 (by kernel_rfl)
    (of_decide_eq_true (by kernel_rfl)) (by unfold Func.isWrapper; first | (rw [if_pos (by decide +kernel)]; kernel_rfl) | (rw [if_neg (by decide +kernel)]; exact ⟨rfl, rfl⟩))
    (fun os started H enc _ => asks_lifted os started H enc)
theorem asks_holds : Rows.CodeAsksCardSaid :=
  Claim7.holds_tied_plain_at .later [] [.data, .data, .data, .data, .sentinel, .sentinel, .pinned] true (true, "44165ec488b82a65474168547bd02b2ce5ea517d520f377c5c56141f4bc14f00") true
    asks_row (fun _ h => by cases h) (by kernel_rfl) (fun _ h => by cases h) codeAsks_row_tie rfl ⟨rfl, rfl⟩ (by kernel_rfl) rfl
    (fun f fn hf hfn => by
      obtain rfl : f = 3 := Option.some.inj ((show Tryz.prog.funcNamed "bezel/bezellaw13.CodeAsks" = some 3 by kernel_rfl).symm.trans hf) |>.symm
      obtain rfl : fn = Tryz.f3 := (Option.some.inj (Tryz.func3.symm.trans hfn)).symm
      exact ⟨by kernel_rfl, fun j t ht => by
        rw [Tryz.params3] at ht
        have hm : t ∈ [24] := by simpa using Array.mem_of_getElem? ht
        have hall : ([24].all fun u => !Tryz.prog.wantsStandIn u) = true := by kernel_rfl
        exact (show Tryz.prog.wantsStandIn t = false by simpa using List.all_eq_true.1 hall t hm)⟩)
    (by kernel_rfl)
end Go.Proofs.YtakcfihmibploaaGreatDoor
