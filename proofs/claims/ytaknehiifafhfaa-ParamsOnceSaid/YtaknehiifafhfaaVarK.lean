/- The laws of layer 1: what their functions answer. -/
import Derived.Test.YtaknehiifafhfaaVarJ
namespace Go.Proofs.Ytaknehiifafhfaa
open Go.Proofs
set_option maxRecDepth 10000

theorem vput_awake : vput 15293 = [123, 189] := by decide +kernel
theorem vget_awake : vget [64, 37] 0 = (37, 2, 0) := by decide +kernel

end Go.Proofs.Ytaknehiifafhfaa
