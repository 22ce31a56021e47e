/-
  The evaluator's table is the program's.
-/
import Derived.Test.YtpidcekngfnfjaaCode
import Derived.Test.YtpidcekngfnfjaaProg
import Derived.Test.YtpidcekngfnfjaaEvT
import Derived.KernelRfl
namespace Go.Ev.Seat
open Go Go.Ev
theorem tie : chkTab Go.Proofs.Try.prog 0 tabL = true := by kernel_rfl
theorem fol : Go.Proofs.Try.prog.follows .mixedOrders = true := by kernel_rfl
end Go.Ev.Seat
