/-
  ModuleKeeps: for every input the law returns true, and what it was given reads behind the call as before. No conditions beyond the row's own.
-/
import Derived.Test.YtpldpnbnhfcklaaGreatDoorP7
import Derived.Test.YtpldpnbnhfcklaaGreatDoorProg
import Derived.Lib.Strings
import Derived.Lib.Slices
import Derived.Lib.Walk
import Derived.Lib.Bytealg
import Derived.KernelRfl
import Derived.Test.YtpldpnbnhfcklaaGreatDoorRows
import Derived.Test.YtpldpnbnhfcklaaGreatDoorCards
import Derived.Test.YtpldpnbnhfcklaaGreatDoorTie
import Derived.ProofKit
import Derived.Lay
import Derived.SevenTiedAt
import Derived.Stop.Joined
namespace Go.Proofs
set_option maxHeartbeats 1000000 in
set_option maxRecDepth 100000 in
theorem Tryz.stringslite_IndexByte (s : ByteArray) (c : Int) (w : World) :
    Calls Tryz.prog 86 #[.string s, .int .u8 c] w fun e w' => e = .returned (.int .i64 (Lib.indexByte s.data.toList c.toNat.toUInt8)) ∧ w' = w := by
  go_enter Tryz.func86, Tryz.ntmps86
  go_wp2
  rw [run_callFunc_extern Tryz.func111 (by kernel_rfl) (by kernel_rfl) (by kernel_rfl) (e := Extern.BytealgIndexByte.indexByte) (by kernel_rfl), Lib.run_indexByteString]
  simp only [Result.andThen]
  rw [Oper.upon_value]
  go_wp2
  go_ret
  exact ⟨rfl, rfl⟩
end Go.Proofs
namespace Go.Proofs
set_option maxHeartbeats 2000000 in
set_option maxRecDepth 100000 in
theorem Tryz.stringslite_Index_one (s : ByteArray) (c : UInt8) (w : World) :
    Calls Tryz.prog 76 #[.string s, .string ⟨#[c]⟩] w fun e w' => e = .returned (.int .i64 (Lib.indexByte s.data.toList c)) ∧ w' = w := by
  go_enter Tryz.func76, Tryz.ntmps76
  go_wp2_with (go_at_call 86; refine (Tryz.stringslite_IndexByte _ _ _).mono ?_; rintro e w' ⟨rfl, rfl⟩)
  · have h : ([c] == s.toList) = true := by assumption
    go_ret
    refine ⟨?_, rfl⟩
    have e : s.data.toList = [c] := by rw [← Lib.toList_data]; exact (beq_iff_eq.1 h).symm
    rw [e]
    simp [Lib.indexByte]
  · go_ret
    exact ⟨rfl, rfl⟩
end Go.Proofs
namespace Go.Proofs
set_option maxHeartbeats 1000000 in
theorem Tryz.strings_Index_one (s : ByteArray) (c : UInt8) (w : World) :
    Calls Tryz.prog 62 #[.string s, .string ⟨#[c]⟩] w fun e w' => e = .returned (.int .i64 (Lib.indexByte s.data.toList c)) ∧ w' = w := by
  go_enter Tryz.func62, Tryz.ntmps62
  go_wp2_with (go_at_call 76; refine (Tryz.stringslite_Index_one _ _ _).mono ?_; rintro e w' ⟨rfl, rfl⟩)
  go_ret
  exact ⟨rfl, rfl⟩
end Go.Proofs
namespace Go.Ev.Seat
open Go Go.Ev
theorem tie : chkTabE Go.Proofs.Tryz.prog [62, 86] 0 tabL = true := by kernel_rfl
theorem fol : Go.Proofs.Tryz.prog.follows .mixedOrders = true := by kernel_rfl
theorem exts : ∀ f, f ∈ [62, 86] → ∀ af, tabL[f]? = some (some af) → ExtOk Go.Proofs.Tryz.prog f af := by
  intro f hf af h
  simp only [List.mem_cons, List.not_mem_nil, or_false] at hf
  rcases hf with rfl | rfl
  · have e : tabL[62]? = some (some ⟨.ext 2 indexX, [.t 2]⟩) := by kernel_rfl
    rw [e] at h
    cases h
    exact ext_index Go.Proofs.Tryz.func62 (by kernel_rfl) (by kernel_rfl) Go.Proofs.Tryz.strings_Index_one
  · have e : tabL[86]? = some (some ⟨.ext 2 y23, [.t 2]⟩) := by kernel_rfl
    rw [e] at h
    cases h
    exact y4w Go.Proofs.Tryz.func86 (by kernel_rfl) (by kernel_rfl) Go.Proofs.Tryz.stringslite_IndexByte
theorem calls (k : Nat) : CallsOk Go.Proofs.Tryz.prog (callF (tabOf tabL) k) := calls_okE fol tie exts k
end Go.Ev.Seat
namespace Go.Proofs.YtpldpnbnhfcklaaGreatDoor
open Go Go.ChangeShapes Go.WideShapes Go.ChangeAt Go.RowKit Go.Ev
set_option maxRecDepth 100000
theorem own : ownKnob Tryz.prog.godebug = none := by kernel_rfl
theorem laidOut : laidOutB Tryz.prog = true := by kernel_rfl
def plains : List TypeId := [48, 42, 40, 51, 49, 35, 3, 4]
theorem plains_ok : plainTs Tryz.prog plains = true := by kernel_rfl
theorem aggT : aggB Tryz.prog 42 = some true := by kernel_rfl
theorem tyP : TyP Tryz.prog 42 40 4 3 := ⟨⟨_, Tryz.underlying42, by kernel_rfl⟩, Tryz.underlying40, Tryz.underlying4, Tryz.underlying3⟩
def z0 : Value := .agg #[.bool false, .int .i64 0, .int .i64 0, .slice none 0 0, .int .i64 0, .slice none 0 0]
theorem ty_arg {H : Type} {enc : TypeId × Value → H} {W : World} {v : Value} {d : DataW H} {ps : List MemPlace} {base : Nat} (hok : Value.okWide Tryz.prog W .any base 42 v) (h : DataW.Trod enc Tryz.prog W 0 (fun _ => true) true 42 v d ps) :
    ∃ x : Ty, Rep (Gh.all W) (vT x) v ∧ WfT x := by
  obtain ⟨n, cs, h1, h2, _⟩ := arg_has plains_ok (by decide) hok h
  obtain ⟨x, rfl, hw⟩ := ty_dec tyP n cs h1
  exact ⟨x, h2 aggT, hw⟩
theorem aggW : aggB Tryz.prog 48 = some true := by kernel_rfl
theorem aggV : aggB Tryz.prog 51 = some true := by kernel_rfl
theorem aggL : aggB Tryz.prog 35 = some false := by kernel_rfl
theorem aggN : aggB Tryz.prog 3 = some false := by kernel_rfl
def zw : Value := .agg #[.bool false, .int .i64 0, .int .i64 0, .slice none 0 0, .int .i64 0, .slice none 0 0, .bool false, .int .i64 0, .int .i64 0, .slice none 0 0, .int .i64 0, .slice none 0 0, .int .i64 0, .int .i64 0, .bool false]
def zv : Value := .agg #[.int .i64 0, .slice none 0 0]
theorem wy_arg {H : Type} {enc : TypeId × Value → H} {W : World} {v : Value} {d : DataW H} {ps : List MemPlace} {base : Nat} (hok : Value.okWide Tryz.prog W .any base 48 v) (h : DataW.Trod enc Tryz.prog W 0 (fun _ => true) true 48 v d ps) :
    ∃ x : Wy2, Rep (Gh.all W) (vWy2 x) v ∧ WfT x.s ∧ WfT x.t := by
  obtain ⟨n, cs, h1, h2, _⟩ := arg_has plains_ok (by decide) hok h
  cases n with
  | zero => cases h1
  | succ n =>
    obtain ⟨parts, k1, rfl, k3⟩ := HasT.struct_of (l := [42, 42, 3, 3, 4]) Tryz.underlying48 (by kernel_rfl) h1
    obtain ⟨p0, p1, p2, p3, p4, rfl⟩ := len5 k1
    obtain ⟨x, rfl, wx⟩ := ty_dec tyP n p0 (k3 0 42 p0 rfl rfl)
    obtain ⟨y, rfl, wy⟩ := ty_dec tyP n p1 (k3 1 42 p1 rfl rfl)
    obtain ⟨v2, _, rfl⟩ := HasT.int_of Tryz.underlying3 (k3 2 3 p2 rfl rfl)
    obtain ⟨v3, _, rfl⟩ := HasT.int_of Tryz.underlying3 (k3 3 3 p3 rfl rfl)
    obtain ⟨v4, rfl⟩ := HasT.bool_of Tryz.underlying4 (k3 4 4 p4 rfl rfl)
    exact ⟨⟨x, y, v2, v3, v4⟩, h2 aggW, wx, wy⟩
theorem vl_dec : ∀ (n : Nat) (ars : List AVal), HasT Tryz.prog n 51 ars → ∃ x : Vl, ars = cVl x
  | 0, ars, h => by cases h
  | 1, ars, h => by
    obtain ⟨parts, k1, rfl, k3⟩ := HasT.struct_of (l := [3, 49]) Tryz.underlying51 (by kernel_rfl) h
    obtain ⟨p0, p1, rfl⟩ := len2 k1
    have := k3 1 49 p1 rfl rfl
    cases this
  | m + 2, ars, h => by
    obtain ⟨parts, k1, rfl, k3⟩ := HasT.struct_of (l := [3, 49]) Tryz.underlying51 (by kernel_rfl) h
    obtain ⟨p0, p1, rfl⟩ := len2 k1
    obtain ⟨v0, _, rfl⟩ := HasT.int_of Tryz.underlying3 (k3 0 3 p0 rfl rfl)
    obtain ⟨xs, _, hc, hx⟩ := HasT.slice_of Tryz.underlying49 (k3 1 49 p1 rfl rfl)
    obtain ⟨ys, rfl, _⟩ := dec_list (enc := encVl) (Q := fun _ => True) (xs := xs) fun x hm => by
      obtain ⟨k1, k2, _⟩ := hx x hm
      obtain ⟨ars, rfl⟩ := k2 aggV
      obtain ⟨y, hy⟩ := vl_dec m _ k1
      have hy : ars = cVl y := hy
      subst hy
      exact ⟨y, (encVl_eq y).symm, trivial⟩
    subst hc
    exact ⟨.mk v0 ys, rfl⟩
theorem vl_arg {H : Type} {enc : TypeId × Value → H} {W : World} {v : Value} {d : DataW H} {ps : List MemPlace} {base : Nat} (hok : Value.okWide Tryz.prog W .any base 51 v) (h : DataW.Trod enc Tryz.prog W 0 (fun _ => true) true 51 v d ps) :
    ∃ x : Vl, Rep (Gh.all W) (vVl x) v := by
  obtain ⟨n, cs, h1, h2, _⟩ := arg_has plains_ok (by decide) hok h
  obtain ⟨x, rfl⟩ := vl_dec n cs h1
  exact ⟨x, h2 aggV⟩
theorem ints_arg {H : Type} {enc : TypeId × Value → H} {W : World} {v : Value} {d : DataW H} {ps : List MemPlace} {base : Nat} (hok : Value.okWide Tryz.prog W .any base 35 v) (h : DataW.Trod enc Tryz.prog W 0 (fun _ => true) true 35 v d ps) :
    ∃ l : List Int, Rep (Gh.all W) (.lst (l.map (AVal.int .i64)) false) v := by
  obtain ⟨n, cs, h1, _, h2⟩ := arg_has plains_ok (by decide) hok h
  obtain ⟨c, rfl, hr⟩ := h2 aggL
  cases n with
  | zero => cases h1
  | succ n =>
    obtain ⟨xs, _, hc, hx⟩ := HasT.slice_of Tryz.underlying35 h1
    obtain ⟨ys, rfl, _⟩ := dec_list (enc := AVal.int .i64) (Q := fun _ => True) (xs := xs) fun x hm => by
      obtain ⟨k1, _, k2⟩ := hx x hm
      have e := k2 aggN
      cases n with
      | zero => cases k1
      | succ n =>
        obtain ⟨v, _, e1⟩ := HasT.int_of Tryz.underlying3 k1
        exact ⟨v, by rw [e1] at e; exact (List.cons.inj e).1.symm, trivial⟩
    simp only [List.cons.injEq, and_true] at hc
    subst hc
    exact ⟨ys, hr⟩
noncomputable abbrev lst : List (String × DataW Unit) := Rows.moduleKeepsRow.laid
set_option maxRecDepth 100000 in
theorem keeps_lifted (os : Os) (started : os.Started) (H : Type) (enc : TypeId × Value → H) :
    ReturnsInHanded {} Tryz.checked os 6 .any (fun w args => (Rows.moduleKeepsSpec.pre enc Tryz.prog Tryz.f6 [] false w args ∧ laidMetH Tryz.prog lst w) ∧ sizedMet enc Tryz.prog Tryz.f6 (OpenSpec.ofChange Rows.moduleKeepsSpec) false w args)
      (Rows.moduleKeepsSpec.post enc Tryz.prog Tryz.f6 false true false false) := by
  refine returnsInHanded_of_change_and (C := Tryz.checked) (X := fun w _ => laidMetH Tryz.prog lst w) (fun _ _ _ hh h => h.of_heap hh) own started (by kernel_rfl) Tryz.func6
    (ChangeSpec.witness_shaped (enc := enc) (C := Tryz.checked) (os := os) (X := fun w _ => laidMetH Tryz.prog lst w) false (World.laidAll Tryz.prog os lst) #[zw, zv, .slice none 0 0] 8 (World.laidAll_os _ _ _)
      (World.shaped_of_ZipB (by kernel_rfl) (by kernel_rfl)) (by kernel_rfl) (by kernel_rfl) (by kernel_rfl)
      (by rw [MakeChecks.laidMetH_plain _ _ _ (by kernel_rfl)]; exact laidMet_laidAll _ (by kernel_rfl) (by kernel_rfl))) ?_
  intro W base args ds gs before hval0 hW _ _ _ _
  have hval : ∀ (j : Nat) t v, Tryz.f6.params[j]? = some t → args[j]? = some v → Value.okWide Tryz.prog W .any base t v := hval0
  have hW' := hW
  obtain ⟨p, q, hA0, hV, rfl, hfz, hnd⟩ := hW
  have hA : DataW.TrodAll enc Tryz.prog W 0 (fun _ => true) true Tryz.f6.params.toList args.toList ds p := hA0
  rw [Tryz.params6] at hA hval
  obtain ⟨v0, v1, v2, d0, d1, d2, p0, p1, p2, rfl, rfl, rfl, h0, h1, h2⟩ := trodAll_three hA
  obtain ⟨a, ra, wa, wb⟩ := wy_arg (hval 0 48 v0 rfl rfl) h0
  obtain ⟨b, rb⟩ := vl_arg (hval 1 51 v1 rfl rfl) h1
  obtain ⟨c, rc⟩ := ints_arg (hval 2 35 v2 rfl rfl) h2
  obtain ⟨nn, hm⟩ := Seat.mkeeps a b c wa wb
  refine (y5v Seat.calls hm (W := W) (Reps.cons ra (Reps.cons rb (Reps.cons rc (Reps.nil _))))).mono fun e W' ⟨he, hbl⟩ => ?_
  exact ⟨_, he, law_post (bt := 4) laidOut (by kernel_rfl) (by kernel_rfl) Tryz.underlying4 rfl ⟨rfl, rfl, rfl⟩ hW' hbl⟩
theorem keeps_row : Rows.ModuleKeepsSaid :=
  OpenClaim.holds_of_wide 6 Tryz.f6 rfl rfl rfl rfl rfl rfl rfl ⟨rfl, rfl, rfl, rfl, rfl⟩ rfl rfl rfl rfl rfl (by kernel_rfl) Tryz.func6 (by kernel_rfl)
    (of_decide_eq_true (by kernel_rfl)) (by unfold Func.isWrapper; first | (rw [if_pos (by decide +kernel)]; kernel_rfl) | (rw [if_neg (by decide +kernel)]; exact ⟨rfl, rfl⟩))
    (fun os started H enc _ => keeps_lifted os started H enc)
theorem keeps_holds : Rows.ModuleKeepsCardSaid :=
  Claim7.holds_tied_plain_at .later [] [.data, .pinned] true (true, "0f440132f7a3234c2e2d2d282815b38d9e53d8e1ce059e63a4cff99b79df8fa3") true
    keeps_row (fun _ h => by cases h) (by kernel_rfl) (fun _ h => by cases h) moduleKeeps_row_tie rfl ⟨rfl, rfl⟩ (by kernel_rfl) rfl
    (fun f fn hf hfn => by
      obtain rfl : f = 6 := Option.some.inj ((show Tryz.prog.funcNamed "bezel/bezellaw17.ModuleKeeps" = some 6 by kernel_rfl).symm.trans hf) |>.symm
      obtain rfl : fn = Tryz.f6 := (Option.some.inj (Tryz.func6.symm.trans hfn)).symm
      exact ⟨by kernel_rfl, fun j t ht => by
        rw [Tryz.params6] at ht
        have hm : t ∈ [48, 51, 35] := by simpa using Array.mem_of_getElem? ht
        have hall : ([48, 51, 35].all fun u => !Tryz.prog.wantsStandIn u) = true := by kernel_rfl
        exact (show Tryz.prog.wantsStandIn t = false by simpa using List.all_eq_true.1 hall t hm)⟩)
    (by kernel_rfl)
end Go.Proofs.YtpldpnbnhfcklaaGreatDoor
