/- The contract of Few: it answers. Condition: none. -/
import Derived.Test.YtpbppgfogepjeaaFive
import Derived.Deep.Cut
namespace Go.Proofs.Ytpbppgfogepjeaa
open Go.ChangeShapes Go.WideShapes Go.ChangeAt Go.RowKit Go.Deep

end Go.Proofs.Ytpbppgfogepjeaa
