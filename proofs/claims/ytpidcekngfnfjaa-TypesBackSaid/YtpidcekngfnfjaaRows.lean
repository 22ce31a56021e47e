/-
  NARROWER THAN 'FOR EVERY INPUT', by the rows' own cells (each row's printed sentence says how): TypesRelate: loops · TypesMake: loops · TypesOrder: loops · TypesJoin: loops · TypesBack: loops.
  DERIVED. THE GIVEN ROWS OF THIS SEAT. 5 by the template 'for every input the law returns true; each argument reads behind the call as it read before'; 0 by the template 'total and deterministic' (their statements: YtpidcekngfnfjaaTotals.lean).
  GIVEN WITH THE SEED: the statements are not yours to turn. If you find one false, say at which input.
  Laid BY PROGRAM, IN A SANDBOX (cutbox-rows.mjs): the forced cells as the released guide's own fill.sh prints them over the translation 3eb807c51abda46f… (all of the seat's roots in one cut). By AI agents, Wed Nov 11 2026. No macro, syntax, notation, axiom, sorry.
-/
import Derived.Test.YtpidcekngfnfjaaChecked
import GoSem.Claim
import GoSem.ClaimJoined
import GoSem.ClaimMapViews
import Derived.JoinedTies
import Derived.KernelRfl
namespace Go.Proofs.Ytpidcekngfnfjaa
/- THE CELL 'sum', in the pinned program and in every row, IS THE sha256 OF THE DUMP (.gsa) THAT YtpidcekngfnfjaaProg.lean LOADS. Nothing in Lean hashes anything: it is a label: what it is worth is what the hold of that sum in a sandbox is worth. -/
noncomputable def Try.pinned : Pinned := { name := "ytpidcekngfnfjaa", sum := "3eb807c51abda46fc6f9b5559dbb99e7c231c5446c281f1cf7aeea9123a428b2", checked := Try.checked }
namespace Rows
def none {H : Type} : Left H := { results := [], args := [] }

/-- 'bezellaw05.TypesRelate': WHATEVER THE INPUT: true; the input reads as it did. -/
def typesRelateSpec : ChangeSpec := { name := "typesRelate", fn := fun _ => fun
  | [d1, d2] => { results := [.lit (.bool true)], args := [d1, d2] }
  | _ => none }
def typesRelateRow : OpenClaim := { program := "ytpidcekngfnfjaa", sum := "3eb807c51abda46fc6f9b5559dbb99e7c231c5446c281f1cf7aeea9123a428b2", func := "bezel/bezellaw05.TypesRelate", spec := "typesRelate", unfollowed := true, recurses := true, loops := true, apart := false }
def TypesRelateSaid : Prop := typesRelateRow.holds Try.pinned (OpenSpec.ofChange typesRelateSpec)

/-- ITS FALSE NEIGHBOUR: 'it returns false'. Refute it at one input. -/
def typesRelateWrong : ChangeSpec := { name := "typesRelate", fn := fun _ => fun
  | [d1, d2] => { results := [.lit (.bool false)], args := [d1, d2] }
  | _ => none }
def TypesRelateWrongFalsely : Prop := typesRelateRow.holds Try.pinned (OpenSpec.ofChange typesRelateWrong)

/-- 'bezellaw05.TypesMake': WHATEVER THE INPUT: true; the input reads as it did. -/
def typesMakeSpec : ChangeSpec := { name := "typesMake", fn := fun _ => fun
  | [d1, d2, d3] => { results := [.lit (.bool true)], args := [d1, d2, d3] }
  | _ => none }
def typesMakeRow : OpenClaim := { program := "ytpidcekngfnfjaa", sum := "3eb807c51abda46fc6f9b5559dbb99e7c231c5446c281f1cf7aeea9123a428b2", func := "bezel/bezellaw05.TypesMake", spec := "typesMake", unfollowed := true, recurses := true, loops := true, apart := false }
def TypesMakeSaid : Prop := typesMakeRow.holds Try.pinned (OpenSpec.ofChange typesMakeSpec)

/-- ITS FALSE NEIGHBOUR: 'it returns false'. Refute it at one input. -/
def typesMakeWrong : ChangeSpec := { name := "typesMake", fn := fun _ => fun
  | [d1, d2, d3] => { results := [.lit (.bool false)], args := [d1, d2, d3] }
  | _ => none }
def TypesMakeWrongFalsely : Prop := typesMakeRow.holds Try.pinned (OpenSpec.ofChange typesMakeWrong)

/-- 'bezellaw05.TypesOrder': WHATEVER THE INPUT: true; the input reads as it did. -/
def typesOrderSpec : ChangeSpec := { name := "typesOrder", fn := fun _ => fun
  | [d1, d2, d3] => { results := [.lit (.bool true)], args := [d1, d2, d3] }
  | _ => none }
def typesOrderRow : OpenClaim := { program := "ytpidcekngfnfjaa", sum := "3eb807c51abda46fc6f9b5559dbb99e7c231c5446c281f1cf7aeea9123a428b2", func := "bezel/bezellaw05.TypesOrder", spec := "typesOrder", unfollowed := true, recurses := true, loops := true, apart := false }
def TypesOrderSaid : Prop := typesOrderRow.holds Try.pinned (OpenSpec.ofChange typesOrderSpec)

/-- ITS FALSE NEIGHBOUR: 'it returns false'. Refute it at one input. -/
def typesOrderWrong : ChangeSpec := { name := "typesOrder", fn := fun _ => fun
  | [d1, d2, d3] => { results := [.lit (.bool false)], args := [d1, d2, d3] }
  | _ => none }
def TypesOrderWrongFalsely : Prop := typesOrderRow.holds Try.pinned (OpenSpec.ofChange typesOrderWrong)

/-- 'bezellaw05.TypesJoin': WHATEVER THE INPUT: true; the input reads as it did. -/
def typesJoinSpec : ChangeSpec := { name := "typesJoin", fn := fun _ => fun
  | [d1, d2] => { results := [.lit (.bool true)], args := [d1, d2] }
  | _ => none }
def typesJoinRow : OpenClaim := { program := "ytpidcekngfnfjaa", sum := "3eb807c51abda46fc6f9b5559dbb99e7c231c5446c281f1cf7aeea9123a428b2", func := "bezel/bezellaw05.TypesJoin", spec := "typesJoin", unfollowed := true, recurses := true, loops := true, apart := false }
def TypesJoinSaid : Prop := typesJoinRow.holds Try.pinned (OpenSpec.ofChange typesJoinSpec)

/-- ITS FALSE NEIGHBOUR: 'it returns false'. Refute it at one input. -/
def typesJoinWrong : ChangeSpec := { name := "typesJoin", fn := fun _ => fun
  | [d1, d2] => { results := [.lit (.bool false)], args := [d1, d2] }
  | _ => none }
def TypesJoinWrongFalsely : Prop := typesJoinRow.holds Try.pinned (OpenSpec.ofChange typesJoinWrong)

/-- 'bezellaw05.TypesBack': WHATEVER THE INPUT: true; the input reads as it did. -/
def typesBackSpec : ChangeSpec := { name := "typesBack", fn := fun _ => fun
  | [d] => { results := [.lit (.bool true)], args := [d] }
  | _ => none }
def typesBackRow : OpenClaim := { program := "ytpidcekngfnfjaa", sum := "3eb807c51abda46fc6f9b5559dbb99e7c231c5446c281f1cf7aeea9123a428b2", func := "bezel/bezellaw05.TypesBack", spec := "typesBack", unfollowed := true, recurses := true, loops := true, apart := false }
def TypesBackSaid : Prop := typesBackRow.holds Try.pinned (OpenSpec.ofChange typesBackSpec)

/-- ITS FALSE NEIGHBOUR: 'it returns false'. Refute it at one input. -/
def typesBackWrong : ChangeSpec := { name := "typesBack", fn := fun _ => fun
  | [d] => { results := [.lit (.bool false)], args := [d] }
  | _ => none }
def TypesBackWrongFalsely : Prop := typesBackRow.holds Try.pinned (OpenSpec.ofChange typesBackWrong)

/- THE SECOND FORM. 'bulk': how many values and letters a reading holds, each counted each time it is reached (what is shared counts as often as it is met; a slice's spare places count too). A statement '..UptoSaid' is the law's where the arguments, and the package variables that the reading takes, are together of bulk at most 1048576: NARROWER than '..Said'. Prove '..Said' where nothing that the law and all that it calls make is longer than what came in: it says more and counts as full. Else prove '..UptoSaid'. A law counts once. -/
mutual
def uptoBulk {H : Type} : DataW H → Nat
  | .lit (.string bytes) => bytes.length + 1
  | .lit _ => 1
  | .nil => 1
  | .ptr d => uptoBulk d + 1
  | .slice elems spare => uptoBulkAll elems + uptoBulkAll spare + 1
  | .agg parts => uptoBulkAll parts + 1
  | .iface _ d => uptoBulk d + 1
  | .map entries => uptoBulkEntries entries + 1
  | .held _ => 1
def uptoBulkAll {H : Type} : List (DataW H) → Nat
  | [] => 0
  | d :: r => uptoBulk d + uptoBulkAll r
def uptoBulkEntries {H : Type} : List (Lit × DataW H) → Nat
  | [] => 0
  | x :: r => uptoBulkEntry x + uptoBulkEntries r
def uptoBulkEntry {H : Type} : Lit × DataW H → Nat
  | (.string bytes, d) => bytes.length + uptoBulk d + 1
  | (_, d) => uptoBulk d + 1
 end
def uptoSmall : (H : Type) → List (DataW H) → Bool := fun _ ds => decide (uptoBulkAll ds ≤ 1048576)
def OpenSpec.upto (s : _root_.Go.ChangeSpec) : _root_.Go.OpenSpec := { _root_.Go.OpenSpec.ofChange s with cond := some uptoSmall }

/-- 'bezellaw05.TypesRelate', WHERE WHAT IT READS IS OF BULK AT MOST 1048576: true; the input reads as it did. -/
def typesRelateUptoRow : OpenClaim := { program := "ytpidcekngfnfjaa", sum := "3eb807c51abda46fc6f9b5559dbb99e7c231c5446c281f1cf7aeea9123a428b2", func := "bezel/bezellaw05.TypesRelate", spec := "typesRelate", unfollowed := true, recurses := true, loops := true, apart := false, narrowed := true }
def TypesRelateUptoSaid : Prop := typesRelateUptoRow.holds Try.pinned (OpenSpec.upto typesRelateSpec)

/-- 'bezellaw05.TypesMake', WHERE WHAT IT READS IS OF BULK AT MOST 1048576: true; the input reads as it did. -/
def typesMakeUptoRow : OpenClaim := { program := "ytpidcekngfnfjaa", sum := "3eb807c51abda46fc6f9b5559dbb99e7c231c5446c281f1cf7aeea9123a428b2", func := "bezel/bezellaw05.TypesMake", spec := "typesMake", unfollowed := true, recurses := true, loops := true, apart := false, narrowed := true }
def TypesMakeUptoSaid : Prop := typesMakeUptoRow.holds Try.pinned (OpenSpec.upto typesMakeSpec)

/-- 'bezellaw05.TypesOrder', WHERE WHAT IT READS IS OF BULK AT MOST 1048576: true; the input reads as it did. -/
def typesOrderUptoRow : OpenClaim := { program := "ytpidcekngfnfjaa", sum := "3eb807c51abda46fc6f9b5559dbb99e7c231c5446c281f1cf7aeea9123a428b2", func := "bezel/bezellaw05.TypesOrder", spec := "typesOrder", unfollowed := true, recurses := true, loops := true, apart := false, narrowed := true }
def TypesOrderUptoSaid : Prop := typesOrderUptoRow.holds Try.pinned (OpenSpec.upto typesOrderSpec)

/-- 'bezellaw05.TypesJoin', WHERE WHAT IT READS IS OF BULK AT MOST 1048576: true; the input reads as it did. -/
def typesJoinUptoRow : OpenClaim := { program := "ytpidcekngfnfjaa", sum := "3eb807c51abda46fc6f9b5559dbb99e7c231c5446c281f1cf7aeea9123a428b2", func := "bezel/bezellaw05.TypesJoin", spec := "typesJoin", unfollowed := true, recurses := true, loops := true, apart := false, narrowed := true }
def TypesJoinUptoSaid : Prop := typesJoinUptoRow.holds Try.pinned (OpenSpec.upto typesJoinSpec)

/-- 'bezellaw05.TypesBack', WHERE WHAT IT READS IS OF BULK AT MOST 1048576: true; the input reads as it did. -/
def typesBackUptoRow : OpenClaim := { program := "ytpidcekngfnfjaa", sum := "3eb807c51abda46fc6f9b5559dbb99e7c231c5446c281f1cf7aeea9123a428b2", func := "bezel/bezellaw05.TypesBack", spec := "typesBack", unfollowed := true, recurses := true, loops := true, apart := false, narrowed := true }
def TypesBackUptoSaid : Prop := typesBackUptoRow.holds Try.pinned (OpenSpec.upto typesBackSpec)

end Rows
end Go.Proofs.Ytpidcekngfnfjaa
