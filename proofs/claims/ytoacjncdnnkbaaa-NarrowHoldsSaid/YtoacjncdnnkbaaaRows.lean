/-
  NARROWER THAN 'FOR EVERY INPUT', by the rows' own cells (each row's printed sentence says how): NarrowTypes: loops · NarrowAsks: loops · NarrowHolds: loops · NarrowParts: loops.
  DERIVED. THE GIVEN ROWS OF THIS SEAT. 5 by the template 'for every input the law returns true; each argument reads behind the call as it read before'; 0 by the template 'total and deterministic' (their statements: YtoacjncdnnkbaaaTotals.lean).
  GIVEN WITH THE SEED: the statements are not yours to turn. If you find one false, say at which input.
  Laid BY PROGRAM, IN A SANDBOX (cutbox-rows.mjs): the forced cells as the released guide's own fill.sh prints them over the translation 01672009546c21fc… (all of the seat's roots in one cut). By AI agents, Wed Nov 11 2026. No macro, syntax, notation, axiom, sorry.
-/
import Derived.Test.YtoacjncdnnkbaaaChecked
import GoSem.Claim
import GoSem.ClaimJoined
import GoSem.ClaimMapViews
import Derived.JoinedTies
import Derived.KernelRfl
namespace Go.Proofs.Ytoacjncdnnkbaaa
/- THE CELL 'sum', in the pinned program and in every row, IS THE sha256 OF THE DUMP (.gsa) THAT YtoacjncdnnkbaaaProg.lean LOADS. Nothing in Lean hashes anything: it is a label: what it is worth is what the hold of that sum in a sandbox is worth. -/
noncomputable def Try.pinned : Pinned := { name := "ytoacjncdnnkbaaa", sum := "01672009546c21fc04918e9ad8b6ebb13ab35934896c6b28b79490ff9fae9285", checked := Try.checked }
namespace Rows
def none {H : Type} : Left H := { results := [], args := [] }

/-- 'bezellaw06.NarrowFacts': WHATEVER THE INPUT: true; the input reads as it did. -/
def narrowFactsSpec : ChangeSpec := { name := "narrowFacts", fn := fun _ => fun
  | [d1, d2] => { results := [.lit (.bool true)], args := [d1, d2] }
  | _ => none }
def narrowFactsRow : OpenClaim := { program := "ytoacjncdnnkbaaa", sum := "01672009546c21fc04918e9ad8b6ebb13ab35934896c6b28b79490ff9fae9285", func := "bezel/bezellaw06.NarrowFacts", spec := "narrowFacts", unfollowed := true, recurses := true, apart := false }
def NarrowFactsSaid : Prop := narrowFactsRow.holds Try.pinned (OpenSpec.ofChange narrowFactsSpec)

/-- ITS FALSE NEIGHBOUR: 'it returns false'. Refute it at one input. -/
def narrowFactsWrong : ChangeSpec := { name := "narrowFacts", fn := fun _ => fun
  | [d1, d2] => { results := [.lit (.bool false)], args := [d1, d2] }
  | _ => none }
def NarrowFactsWrongFalsely : Prop := narrowFactsRow.holds Try.pinned (OpenSpec.ofChange narrowFactsWrong)

/-- 'bezellaw06.NarrowTypes': WHATEVER THE INPUT: true; the input reads as it did. -/
def narrowTypesSpec : ChangeSpec := { name := "narrowTypes", fn := fun _ => fun
  | [d1, d2, d3] => { results := [.lit (.bool true)], args := [d1, d2, d3] }
  | _ => none }
def narrowTypesRow : OpenClaim := { program := "ytoacjncdnnkbaaa", sum := "01672009546c21fc04918e9ad8b6ebb13ab35934896c6b28b79490ff9fae9285", func := "bezel/bezellaw06.NarrowTypes", spec := "narrowTypes", unfollowed := true, recurses := true, loops := true, apart := false }
def NarrowTypesSaid : Prop := narrowTypesRow.holds Try.pinned (OpenSpec.ofChange narrowTypesSpec)

/-- ITS FALSE NEIGHBOUR: 'it returns false'. Refute it at one input. -/
def narrowTypesWrong : ChangeSpec := { name := "narrowTypes", fn := fun _ => fun
  | [d1, d2, d3] => { results := [.lit (.bool false)], args := [d1, d2, d3] }
  | _ => none }
def NarrowTypesWrongFalsely : Prop := narrowTypesRow.holds Try.pinned (OpenSpec.ofChange narrowTypesWrong)

/-- 'bezellaw06.NarrowAsks': WHATEVER THE INPUT: true; the input reads as it did. -/
def narrowAsksSpec : ChangeSpec := { name := "narrowAsks", fn := fun _ => fun
  | [d] => { results := [.lit (.bool true)], args := [d] }
  | _ => none }
def narrowAsksRow : OpenClaim := { program := "ytoacjncdnnkbaaa", sum := "01672009546c21fc04918e9ad8b6ebb13ab35934896c6b28b79490ff9fae9285", func := "bezel/bezellaw06.NarrowAsks", spec := "narrowAsks", unfollowed := true, recurses := true, loops := true, apart := false }
def NarrowAsksSaid : Prop := narrowAsksRow.holds Try.pinned (OpenSpec.ofChange narrowAsksSpec)

/-- ITS FALSE NEIGHBOUR: 'it returns false'. Refute it at one input. -/
def narrowAsksWrong : ChangeSpec := { name := "narrowAsks", fn := fun _ => fun
  | [d] => { results := [.lit (.bool false)], args := [d] }
  | _ => none }
def NarrowAsksWrongFalsely : Prop := narrowAsksRow.holds Try.pinned (OpenSpec.ofChange narrowAsksWrong)

/-- 'bezellaw06.NarrowHolds': WHATEVER THE INPUT: true; the input reads as it did. -/
def narrowHoldsSpec : ChangeSpec := { name := "narrowHolds", fn := fun _ => fun
  | [d1, d2] => { results := [.lit (.bool true)], args := [d1, d2] }
  | _ => none }
def narrowHoldsRow : OpenClaim := { program := "ytoacjncdnnkbaaa", sum := "01672009546c21fc04918e9ad8b6ebb13ab35934896c6b28b79490ff9fae9285", func := "bezel/bezellaw06.NarrowHolds", spec := "narrowHolds", unfollowed := true, recurses := true, loops := true, apart := false }
def NarrowHoldsSaid : Prop := narrowHoldsRow.holds Try.pinned (OpenSpec.ofChange narrowHoldsSpec)

/-- ITS FALSE NEIGHBOUR: 'it returns false'. Refute it at one input. -/
def narrowHoldsWrong : ChangeSpec := { name := "narrowHolds", fn := fun _ => fun
  | [d1, d2] => { results := [.lit (.bool false)], args := [d1, d2] }
  | _ => none }
def NarrowHoldsWrongFalsely : Prop := narrowHoldsRow.holds Try.pinned (OpenSpec.ofChange narrowHoldsWrong)

/-- 'bezellaw06.NarrowParts': WHATEVER THE INPUT: true; the input reads as it did. -/
def narrowPartsSpec : ChangeSpec := { name := "narrowParts", fn := fun _ => fun
  | [d1, d2] => { results := [.lit (.bool true)], args := [d1, d2] }
  | _ => none }
def narrowPartsRow : OpenClaim := { program := "ytoacjncdnnkbaaa", sum := "01672009546c21fc04918e9ad8b6ebb13ab35934896c6b28b79490ff9fae9285", func := "bezel/bezellaw06.NarrowParts", spec := "narrowParts", unfollowed := true, recurses := true, loops := true, apart := false }
def NarrowPartsSaid : Prop := narrowPartsRow.holds Try.pinned (OpenSpec.ofChange narrowPartsSpec)

/-- ITS FALSE NEIGHBOUR: 'it returns false'. Refute it at one input. -/
def narrowPartsWrong : ChangeSpec := { name := "narrowParts", fn := fun _ => fun
  | [d1, d2] => { results := [.lit (.bool false)], args := [d1, d2] }
  | _ => none }
def NarrowPartsWrongFalsely : Prop := narrowPartsRow.holds Try.pinned (OpenSpec.ofChange narrowPartsWrong)

/- THE SECOND FORM. 'bulk': how many values and letters a reading holds, each counted each time it is reached (what is shared counts as often as it is met; a slice's spare places count too). A statement '..UptoSaid' is the law's where the arguments, and the package variables that the reading takes, are together of bulk at most 1048576: NARROWER than '..Said'. Prove '..Said' where nothing that the law and all that it calls make is longer than what came in: it says more and counts as full. Else prove '..UptoSaid'. A law counts once. -/
mutual
def uptoBulk {H : Type} : DataW H → Nat
  | .lit (.string bytes) => bytes.length + 1
  | .lit _ => 1
  | .nil => 1
  | .ptr d => uptoBulk d + 1
  | .slice elems spare => uptoBulkAll elems + uptoBulkAll spare + 1
  | .agg parts => uptoBulkAll parts + 1
  | .iface _ d => uptoBulk d + 1
  | .map entries => uptoBulkEntries entries + 1
  | .held _ => 1
def uptoBulkAll {H : Type} : List (DataW H) → Nat
  | [] => 0
  | d :: r => uptoBulk d + uptoBulkAll r
def uptoBulkEntries {H : Type} : List (Lit × DataW H) → Nat
  | [] => 0
  | x :: r => uptoBulkEntry x + uptoBulkEntries r
def uptoBulkEntry {H : Type} : Lit × DataW H → Nat
  | (.string bytes, d) => bytes.length + uptoBulk d + 1
  | (_, d) => uptoBulk d + 1
 end
def uptoSmall : (H : Type) → List (DataW H) → Bool := fun _ ds => decide (uptoBulkAll ds ≤ 1048576)
def OpenSpec.upto (s : _root_.Go.ChangeSpec) : _root_.Go.OpenSpec := { _root_.Go.OpenSpec.ofChange s with cond := some uptoSmall }

/-- 'bezellaw06.NarrowFacts', WHERE WHAT IT READS IS OF BULK AT MOST 1048576: true; the input reads as it did. -/
def narrowFactsUptoRow : OpenClaim := { program := "ytoacjncdnnkbaaa", sum := "01672009546c21fc04918e9ad8b6ebb13ab35934896c6b28b79490ff9fae9285", func := "bezel/bezellaw06.NarrowFacts", spec := "narrowFacts", unfollowed := true, recurses := true, apart := false, narrowed := true }
def NarrowFactsUptoSaid : Prop := narrowFactsUptoRow.holds Try.pinned (OpenSpec.upto narrowFactsSpec)

/-- 'bezellaw06.NarrowTypes', WHERE WHAT IT READS IS OF BULK AT MOST 1048576: true; the input reads as it did. -/
def narrowTypesUptoRow : OpenClaim := { program := "ytoacjncdnnkbaaa", sum := "01672009546c21fc04918e9ad8b6ebb13ab35934896c6b28b79490ff9fae9285", func := "bezel/bezellaw06.NarrowTypes", spec := "narrowTypes", unfollowed := true, recurses := true, loops := true, apart := false, narrowed := true }
def NarrowTypesUptoSaid : Prop := narrowTypesUptoRow.holds Try.pinned (OpenSpec.upto narrowTypesSpec)

/-- 'bezellaw06.NarrowAsks', WHERE WHAT IT READS IS OF BULK AT MOST 1048576: true; the input reads as it did. -/
def narrowAsksUptoRow : OpenClaim := { program := "ytoacjncdnnkbaaa", sum := "01672009546c21fc04918e9ad8b6ebb13ab35934896c6b28b79490ff9fae9285", func := "bezel/bezellaw06.NarrowAsks", spec := "narrowAsks", unfollowed := true, recurses := true, loops := true, apart := false, narrowed := true }
def NarrowAsksUptoSaid : Prop := narrowAsksUptoRow.holds Try.pinned (OpenSpec.upto narrowAsksSpec)

/-- 'bezellaw06.NarrowHolds', WHERE WHAT IT READS IS OF BULK AT MOST 1048576: true; the input reads as it did. -/
def narrowHoldsUptoRow : OpenClaim := { program := "ytoacjncdnnkbaaa", sum := "01672009546c21fc04918e9ad8b6ebb13ab35934896c6b28b79490ff9fae9285", func := "bezel/bezellaw06.NarrowHolds", spec := "narrowHolds", unfollowed := true, recurses := true, loops := true, apart := false, narrowed := true }
def NarrowHoldsUptoSaid : Prop := narrowHoldsUptoRow.holds Try.pinned (OpenSpec.upto narrowHoldsSpec)

/-- 'bezellaw06.NarrowParts', WHERE WHAT IT READS IS OF BULK AT MOST 1048576: true; the input reads as it did. -/
def narrowPartsUptoRow : OpenClaim := { program := "ytoacjncdnnkbaaa", sum := "01672009546c21fc04918e9ad8b6ebb13ab35934896c6b28b79490ff9fae9285", func := "bezel/bezellaw06.NarrowParts", spec := "narrowParts", unfollowed := true, recurses := true, loops := true, apart := false, narrowed := true }
def NarrowPartsUptoSaid : Prop := narrowPartsUptoRow.holds Try.pinned (OpenSpec.upto narrowPartsSpec)

end Rows
end Go.Proofs.Ytoacjncdnnkbaaa
