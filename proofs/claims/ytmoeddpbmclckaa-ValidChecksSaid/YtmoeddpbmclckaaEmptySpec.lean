/- Which shapes are empty. No condition. -/
import Derived.Test.YtmoeddpbmclckaaFew
import Derived.Test.YtmoeddpbmclckaaValid3
import Derived.Test.YtmoeddpbmclckaaCutList
import Derived.Deep.CutRange
namespace Go.Proofs.Ytmoeddpbmclckaa
open Go.ChangeShapes Go.WideShapes Go.ChangeAt Go.RowKit Go.Deep

def wlNo (x : WlV) : Bool := ((((x.rep == 0) && ((x.cpu == 0) && (x.mem == 0))) && (wrap64 (wrap64 ((x.L.la : Int) + (x.S.la : Int)) + (x.T.la : Int)) == 0)) && (x.warm == 0))
def podNo (x : PodV) : Bool := ((((((x.owner.toList.isEmpty && x.node.toList.isEmpty) && (x.phase == 0)) && (x.since == 0)) && ((x.cpu == 0) && (x.mem == 0))) && (wrap64 (wrap64 ((x.L.la : Int) + (x.S.la : Int)) + (x.T.la : Int)) == 0)) && (x.warm == 0))
def nodeNo (x : NodeV) : Bool := ((((x.group.toList.isEmpty && ((x.cpu == 0) && (x.mem == 0))) && (wrap64 ((x.L.la : Int) + (x.T.la : Int)) == 0)) && (x.since == 0)) && (!x.closed))
def groupNo (x : GroupV) : Bool := ((((((x.min == 0) && (x.max == 0)) && (x.target == 0)) && ((x.cpu == 0) && (x.mem == 0))) && (wrap64 ((x.L.la : Int) + (x.T.la : Int)) == 0)) && (x.prio == 0))
def hpaNo (x : HpaV) : Bool := ((((((((((x.target.toList.isEmpty && (x.min == 0)) && (x.max == 0)) && (wrap64 ((x.M.la : Int) + (x.past.la : Int)) == 0)) && (x.tol == 0)) && (x.up.win == 0)) && (x.up.pick == 0)) && ((x.up.P.la : Int) == 0)) && (x.down.win == 0)) && (x.down.pick == 0)) && ((x.down.P.la : Int) == 0))
def emptiesOk (kd : Int) (o : ShapesV) : Bool := ((((wlNo o.w || (kd == 0)) && (podNo o.p || (kd == 1))) && (nodeNo o.n || (kd == 2))) && (groupNo o.g || (kd == 3))) && (hpaNo o.h || (kd == 4))

end Go.Proofs.Ytmoeddpbmclckaa
