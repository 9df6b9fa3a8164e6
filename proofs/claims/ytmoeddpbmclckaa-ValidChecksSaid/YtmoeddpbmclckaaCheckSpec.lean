/- What an object's check tells. No condition. -/
import Derived.Test.YtmoeddpbmclckaaEmptySpec
import Derived.Test.YtmoeddpbmclckaaObjSta
import Derived.Test.YtmoeddpbmclckaaChain5
import Derived.Laws.Rows
namespace Go.Proofs.Ytmoeddpbmclckaa
open Go.ChangeShapes Go.WideShapes Go.ChangeAt Go.RowKit Go.Deep

noncomputable def mayOk (kd : Int) (o : ShapesV) : Bool := if kd = 0 then wlOk o.w else if kd = 1 then podOk o.p else if kd = 2 then nodeOk o.n else if kd = 3 then groupOk o.g else hpaOk o.h
noncomputable def checkOf (kd : Int) (nm : ByteArray) (o : ShapesV) : Int := if kd < 0 ∨ 4 < kd then 17 else if nameOf nm.data.toList = false then 6 else if (mayOk kd o && emptiesOk kd o) = true then 0 else 2
end Go.Proofs.Ytmoeddpbmclckaa
