/- ParamsDecodes is true of every input; no condition. -/
import Derived.Test.YtaknehiifafhfaaRead
import Derived.Test.YtaknehiifafhfaaParK
namespace Go.Proofs.Ytaknehiifafhfaa
open Go.ChangeShapes Go.WideShapes Go.ChangeAt Go.RowKit

end Go.Proofs.Ytaknehiifafhfaa
