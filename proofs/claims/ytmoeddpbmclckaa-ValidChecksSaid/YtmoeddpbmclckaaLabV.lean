/- Labels and asks as values. No condition. -/
import Derived.Test.YtmoeddpbmclckaaRows
import Derived.Test.YtmoeddpbmclckaaBase
import Derived.Test.YtmoeddpbmclckaaList
namespace Go.Proofs.Ytmoeddpbmclckaa
open Go.ChangeShapes Go.WideShapes Go.ChangeAt Go.RowKit Go.Deep

structure Label where
  key : ByteArray
  val : ByteArray
deriving Inhabited

structure Require where
  key : ByteArray
  val : ByteArray
  op : Int
deriving Inhabited

def Label.cells (l : Label) : List Value := [.string l.key, .string l.val]
def Require.cells (r : Require) : List Value := [.string r.key, .string r.val, .int .i64 r.op]

theorem aggLabel : AggOK Try.prog 54 2 := .mk' (by kernel_rfl) (by kernel_rfl)
theorem aggRequire : AggOK Try.prog 57 3 := .mk' (by kernel_rfl) (by kernel_rfl)
end Go.Proofs.Ytmoeddpbmclckaa
