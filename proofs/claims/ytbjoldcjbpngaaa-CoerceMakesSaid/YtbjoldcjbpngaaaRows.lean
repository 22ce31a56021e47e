/-
  NARROWER THAN 'FOR EVERY INPUT', by the rows' own cells (each row's printed sentence says how): CoerceMakes: loops · CoerceOften: loops · CoerceTypes: loops · CoerceAsks: loops.
  DERIVED. THE GIVEN ROWS OF THIS SEAT. 4 by the template 'for every input the law returns true; each argument reads behind the call as it read before'; 0 by the template 'total and deterministic' (their statements: YtbjoldcjbpngaaaTotals.lean).
  GIVEN WITH THE SEED: the statements are not yours to turn. If you find one false, say at which input.
  Laid BY PROGRAM, IN A SANDBOX (cutbox-rows.mjs): the forced cells as the released guide's own fill.sh prints them over the translation d7484513b9a3a031… (all of the seat's roots in one cut). By AI agents, Wed Nov 11 2026. No macro, syntax, notation, axiom, sorry.
-/
import Derived.Test.YtbjoldcjbpngaaaChecked
import GoSem.Claim
import GoSem.ClaimJoined
import GoSem.ClaimMapViews
import Derived.JoinedTies
import Derived.KernelRfl
namespace Go.Proofs.Ytbjoldcjbpngaaa
/- THE CELL 'sum', in the pinned program and in every row, IS THE sha256 OF THE DUMP (.gsa) THAT YtbjoldcjbpngaaaProg.lean LOADS. Nothing in Lean hashes anything: it is a label: what it is worth is what the hold of that sum in a sandbox is worth. -/
noncomputable def Try.pinned : Pinned := { name := "ytbjoldcjbpngaaa", sum := "d7484513b9a3a03138773929593db099d9a3f34568144aadfd031f18c7a0ee79", checked := Try.checked }
namespace Rows
def none {H : Type} : Left H := { results := [], args := [] }

/-- 'bezellaw07.CoerceMakes': WHATEVER THE INPUT: true; the input reads as it did. -/
def coerceMakesSpec : ChangeSpec := { name := "coerceMakes", fn := fun _ => fun
  | [d1, d2, d3] => { results := [.lit (.bool true)], args := [d1, d2, d3] }
  | _ => none }
def coerceMakesRow : OpenClaim := { program := "ytbjoldcjbpngaaa", sum := "d7484513b9a3a03138773929593db099d9a3f34568144aadfd031f18c7a0ee79", func := "bezel/bezellaw07.CoerceMakes", spec := "coerceMakes", unfollowed := true, recurses := true, loops := true, apart := false }
def CoerceMakesSaid : Prop := coerceMakesRow.holds Try.pinned (OpenSpec.ofChange coerceMakesSpec)

/-- ITS FALSE NEIGHBOUR: 'it returns false'. Refute it at one input. -/
def coerceMakesWrong : ChangeSpec := { name := "coerceMakes", fn := fun _ => fun
  | [d1, d2, d3] => { results := [.lit (.bool false)], args := [d1, d2, d3] }
  | _ => none }
def CoerceMakesWrongFalsely : Prop := coerceMakesRow.holds Try.pinned (OpenSpec.ofChange coerceMakesWrong)

/-- 'bezellaw07.CoerceOften': WHATEVER THE INPUT: true; the input reads as it did. -/
def coerceOftenSpec : ChangeSpec := { name := "coerceOften", fn := fun _ => fun
  | [d1, d2] => { results := [.lit (.bool true)], args := [d1, d2] }
  | _ => none }
def coerceOftenRow : OpenClaim := { program := "ytbjoldcjbpngaaa", sum := "d7484513b9a3a03138773929593db099d9a3f34568144aadfd031f18c7a0ee79", func := "bezel/bezellaw07.CoerceOften", spec := "coerceOften", unfollowed := true, recurses := true, loops := true, apart := false }
def CoerceOftenSaid : Prop := coerceOftenRow.holds Try.pinned (OpenSpec.ofChange coerceOftenSpec)

/-- ITS FALSE NEIGHBOUR: 'it returns false'. Refute it at one input. -/
def coerceOftenWrong : ChangeSpec := { name := "coerceOften", fn := fun _ => fun
  | [d1, d2] => { results := [.lit (.bool false)], args := [d1, d2] }
  | _ => none }
def CoerceOftenWrongFalsely : Prop := coerceOftenRow.holds Try.pinned (OpenSpec.ofChange coerceOftenWrong)

/-- 'bezellaw07.CoerceTypes': WHATEVER THE INPUT: true; the input reads as it did. -/
def coerceTypesSpec : ChangeSpec := { name := "coerceTypes", fn := fun _ => fun
  | [d1, d2, d3] => { results := [.lit (.bool true)], args := [d1, d2, d3] }
  | _ => none }
def coerceTypesRow : OpenClaim := { program := "ytbjoldcjbpngaaa", sum := "d7484513b9a3a03138773929593db099d9a3f34568144aadfd031f18c7a0ee79", func := "bezel/bezellaw07.CoerceTypes", spec := "coerceTypes", unfollowed := true, recurses := true, loops := true, apart := false }
def CoerceTypesSaid : Prop := coerceTypesRow.holds Try.pinned (OpenSpec.ofChange coerceTypesSpec)

/-- ITS FALSE NEIGHBOUR: 'it returns false'. Refute it at one input. -/
def coerceTypesWrong : ChangeSpec := { name := "coerceTypes", fn := fun _ => fun
  | [d1, d2, d3] => { results := [.lit (.bool false)], args := [d1, d2, d3] }
  | _ => none }
def CoerceTypesWrongFalsely : Prop := coerceTypesRow.holds Try.pinned (OpenSpec.ofChange coerceTypesWrong)

/-- 'bezellaw07.CoerceAsks': WHATEVER THE INPUT: true; the input reads as it did. -/
def coerceAsksSpec : ChangeSpec := { name := "coerceAsks", fn := fun _ => fun
  | [d1, d2, d3] => { results := [.lit (.bool true)], args := [d1, d2, d3] }
  | _ => none }
def coerceAsksRow : OpenClaim := { program := "ytbjoldcjbpngaaa", sum := "d7484513b9a3a03138773929593db099d9a3f34568144aadfd031f18c7a0ee79", func := "bezel/bezellaw07.CoerceAsks", spec := "coerceAsks", unfollowed := true, recurses := true, loops := true, apart := false }
def CoerceAsksSaid : Prop := coerceAsksRow.holds Try.pinned (OpenSpec.ofChange coerceAsksSpec)

/-- ITS FALSE NEIGHBOUR: 'it returns false'. Refute it at one input. -/
def coerceAsksWrong : ChangeSpec := { name := "coerceAsks", fn := fun _ => fun
  | [d1, d2, d3] => { results := [.lit (.bool false)], args := [d1, d2, d3] }
  | _ => none }
def CoerceAsksWrongFalsely : Prop := coerceAsksRow.holds Try.pinned (OpenSpec.ofChange coerceAsksWrong)

/- THE SECOND FORM. 'bulk': how many values and letters a reading holds, each counted each time it is reached (what is shared counts as often as it is met; a slice's spare places count too). A statement '..UptoSaid' is the law's where the arguments, and the package variables that the reading takes, are together of bulk at most 1048576: NARROWER than '..Said'. Prove '..Said' where nothing that the law and all that it calls make is longer than what came in: it says more and counts as full. Else prove '..UptoSaid'. A law counts once. -/
mutual
def uptoBulk {H : Type} : DataW H → Nat
  | .lit (.string bytes) => bytes.length + 1
  | .lit _ => 1
  | .nil => 1
  | .ptr d => uptoBulk d + 1
  | .slice elems spare => uptoBulkAll elems + uptoBulkAll spare + 1
  | .agg parts => uptoBulkAll parts + 1
  | .iface _ d => uptoBulk d + 1
  | .map entries => uptoBulkEntries entries + 1
  | .held _ => 1
def uptoBulkAll {H : Type} : List (DataW H) → Nat
  | [] => 0
  | d :: r => uptoBulk d + uptoBulkAll r
def uptoBulkEntries {H : Type} : List (Lit × DataW H) → Nat
  | [] => 0
  | x :: r => uptoBulkEntry x + uptoBulkEntries r
def uptoBulkEntry {H : Type} : Lit × DataW H → Nat
  | (.string bytes, d) => bytes.length + uptoBulk d + 1
  | (_, d) => uptoBulk d + 1
 end
def uptoSmall : (H : Type) → List (DataW H) → Bool := fun _ ds => decide (uptoBulkAll ds ≤ 1048576)
def OpenSpec.upto (s : _root_.Go.ChangeSpec) : _root_.Go.OpenSpec := { _root_.Go.OpenSpec.ofChange s with cond := some uptoSmall }

/-- 'bezellaw07.CoerceMakes', WHERE WHAT IT READS IS OF BULK AT MOST 1048576: true; the input reads as it did. -/
def coerceMakesUptoRow : OpenClaim := { program := "ytbjoldcjbpngaaa", sum := "d7484513b9a3a03138773929593db099d9a3f34568144aadfd031f18c7a0ee79", func := "bezel/bezellaw07.CoerceMakes", spec := "coerceMakes", unfollowed := true, recurses := true, loops := true, apart := false, narrowed := true }
def CoerceMakesUptoSaid : Prop := coerceMakesUptoRow.holds Try.pinned (OpenSpec.upto coerceMakesSpec)

/-- 'bezellaw07.CoerceOften', WHERE WHAT IT READS IS OF BULK AT MOST 1048576: true; the input reads as it did. -/
def coerceOftenUptoRow : OpenClaim := { program := "ytbjoldcjbpngaaa", sum := "d7484513b9a3a03138773929593db099d9a3f34568144aadfd031f18c7a0ee79", func := "bezel/bezellaw07.CoerceOften", spec := "coerceOften", unfollowed := true, recurses := true, loops := true, apart := false, narrowed := true }
def CoerceOftenUptoSaid : Prop := coerceOftenUptoRow.holds Try.pinned (OpenSpec.upto coerceOftenSpec)

/-- 'bezellaw07.CoerceTypes', WHERE WHAT IT READS IS OF BULK AT MOST 1048576: true; the input reads as it did. -/
def coerceTypesUptoRow : OpenClaim := { program := "ytbjoldcjbpngaaa", sum := "d7484513b9a3a03138773929593db099d9a3f34568144aadfd031f18c7a0ee79", func := "bezel/bezellaw07.CoerceTypes", spec := "coerceTypes", unfollowed := true, recurses := true, loops := true, apart := false, narrowed := true }
def CoerceTypesUptoSaid : Prop := coerceTypesUptoRow.holds Try.pinned (OpenSpec.upto coerceTypesSpec)

/-- 'bezellaw07.CoerceAsks', WHERE WHAT IT READS IS OF BULK AT MOST 1048576: true; the input reads as it did. -/
def coerceAsksUptoRow : OpenClaim := { program := "ytbjoldcjbpngaaa", sum := "d7484513b9a3a03138773929593db099d9a3f34568144aadfd031f18c7a0ee79", func := "bezel/bezellaw07.CoerceAsks", spec := "coerceAsks", unfollowed := true, recurses := true, loops := true, apart := false, narrowed := true }
def CoerceAsksUptoSaid : Prop := coerceAsksUptoRow.holds Try.pinned (OpenSpec.upto coerceAsksSpec)

end Rows
end Go.Proofs.Ytbjoldcjbpngaaa
