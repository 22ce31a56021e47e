/-
  The evaluator's table is the program's.
-/
import Derived.Test.YtbjoldcjbpngaaaCode
import Derived.Test.YtbjoldcjbpngaaaProg
import Derived.Test.YtbjoldcjbpngaaaEvT
import Derived.KernelRfl
namespace Go.Ev.Seat
open Go Go.Ev
theorem tie : chkTab Go.Proofs.Try.prog 0 tabL = true := by kernel_rfl
theorem fol : Go.Proofs.Try.prog.follows .mixedOrders = true := by kernel_rfl
end Go.Ev.Seat
