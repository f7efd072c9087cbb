/- Law 07's examples stand. -/
import Derived.Test.YtcpjmlcfjgbgeaaDoorMemoA
set_option linter.unusedVariables false
set_option linter.unusedSimpArgs false
set_option maxRecDepth 100000
namespace Go.Proofs.YtcpjmlcfjgbgeaaDoor
open Go Go.AL
theorem shown07 : AL.Fn Tryd.prog 14 [] (.bool true) := Fn.of_r (d := 30) mixed dsts E2_ok (by kernel_rfl) (by kernel_rfl)
end Go.Proofs.YtcpjmlcfjgbgeaaDoor
