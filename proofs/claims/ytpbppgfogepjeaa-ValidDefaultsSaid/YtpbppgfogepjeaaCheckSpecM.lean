/- Which shapes are empty. No condition. || What an object's check tells. No condition. -/
import Derived.Test.YtpbppgfogepjeaaFew
import Derived.Test.YtpbppgfogepjeaaValid3
import Derived.Test.YtpbppgfogepjeaaCutListM
import Derived.Deep.CutRange
import Derived.Test.YtpbppgfogepjeaaObjSta
import Derived.Test.YtpbppgfogepjeaaOwnStM
import Derived.Laws.Rows
namespace Go.Proofs.Ytpbppgfogepjeaa
open Go.ChangeShapes Go.WideShapes Go.ChangeAt Go.RowKit Go.Deep

def wlNo (x : WlV) : Bool := ((((x.rep == 0) && ((x.cpu == 0) && (x.mem == 0))) && (wrap64 (wrap64 ((x.L.la : Int) + (x.S.la : Int)) + (x.T.la : Int)) == 0)) && (x.warm == 0))
def podNo (x : PodV) : Bool := ((((((x.owner.toList.isEmpty && x.node.toList.isEmpty) && (x.phase == 0)) && (x.since == 0)) && ((x.cpu == 0) && (x.mem == 0))) && (wrap64 (wrap64 ((x.L.la : Int) + (x.S.la : Int)) + (x.T.la : Int)) == 0)) && (x.warm == 0))
def nodeNo (x : NodeV) : Bool := ((((x.group.toList.isEmpty && ((x.cpu == 0) && (x.mem == 0))) && (wrap64 ((x.L.la : Int) + (x.T.la : Int)) == 0)) && (x.since == 0)) && (!x.closed))
def groupNo (x : GroupV) : Bool := ((((((x.min == 0) && (x.max == 0)) && (x.target == 0)) && ((x.cpu == 0) && (x.mem == 0))) && (wrap64 ((x.L.la : Int) + (x.T.la : Int)) == 0)) && (x.prio == 0))
def hpaNo (x : HpaV) : Bool := ((((((((((x.target.toList.isEmpty && (x.min == 0)) && (x.max == 0)) && (wrap64 ((x.M.la : Int) + (x.past.la : Int)) == 0)) && (x.tol == 0)) && (x.up.win == 0)) && (x.up.pick == 0)) && ((x.up.P.la : Int) == 0)) && (x.down.win == 0)) && (x.down.pick == 0)) && ((x.down.P.la : Int) == 0))
def emptiesOk (kd : Int) (o : ShapesV) : Bool := ((((wlNo o.w || (kd == 0)) && (podNo o.p || (kd == 1))) && (nodeNo o.n || (kd == 2))) && (groupNo o.g || (kd == 3))) && (hpaNo o.h || (kd == 4))

end Go.Proofs.Ytpbppgfogepjeaa
namespace Go.Proofs.Ytpbppgfogepjeaa
open Go.ChangeShapes Go.WideShapes Go.ChangeAt Go.RowKit Go.Deep

noncomputable def mayOk (kd : Int) (o : ShapesV) : Bool := if kd = 0 then wlOk o.w else if kd = 1 then podOk o.p else if kd = 2 then nodeOk o.n else if kd = 3 then groupOk o.g else hpaOk o.h
noncomputable def checkOf (kd : Int) (nm : ByteArray) (o : ShapesV) : Int := if kd < 0 ∨ 4 < kd then 17 else if nameOf nm.data.toList = false then 6 else if (mayOk kd o && emptiesOk kd o) = true then 0 else 2
end Go.Proofs.Ytpbppgfogepjeaa
