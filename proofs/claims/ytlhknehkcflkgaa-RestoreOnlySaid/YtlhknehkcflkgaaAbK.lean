/- What all entries share. -/
import Derived.Test.YtlhknehkcflkgaaAbTab
import Derived.Test.YtlhknehkcflkgaaAbRegOk
set_option autoImplicit false
set_option maxRecDepth 100000
namespace Go.Proofs.Ytlhknehkcflkgaa
open Go Ab
/-- rounds enough for all that fits into a machine -/
def K : Nat := 1152921504606846976
theorem mixed : Go.Proofs.Try.prog.follows .mixedOrders = true := by kernel_rfl
end Go.Proofs.Ytlhknehkcflkgaa
