/- What text the reference makes of an object. No program. -/
import Derived.Test.YtmoeddpbmclckaaRefRows
namespace Go.Proofs.Ytmoeddpbmclckaa
open Go.ChangeShapes Go.WideShapes Go.ChangeAt Go.RowKit Go.Deep

def metS (out : ByteArray) (x : Metric) : ByteArray := ((out ++ intS x.kind) ++ textS x.name) ++ intS x.target
def scS (out : ByteArray) (x : Scaled) : ByteArray := ((out ++ intS x.at_) ++ intS x.from_) ++ intS x.to_
theorem metS_le (out : ByteArray) (x : Metric) : out.size ≤ (metS out x).size := by unfold metS; rw [ByteArray.size_append, ByteArray.size_append, ByteArray.size_append]; omega
theorem scS_le (out : ByteArray) (x : Scaled) : out.size ≤ (scS out x).size := by unfold scS; rw [ByteArray.size_append, ByteArray.size_append, ByteArray.size_append]; omega
def headS (kd : Int) (nm : ByteArray) (ver : Int) : ByteArray := ((putS (u64 kd) 1 ++ textS nm) ++ putS ver 8)
def wlS (h : ByteArray) (x : WlV) : ByteArray := ((((((h ++ intS x.rep) ++ resS x.cpu x.mem) ++ labelsS x.L.xs) ++ asksS x.S.xs) ++ labelsS x.T.xs) ++ intS x.warm)
def podS (h : ByteArray) (x : PodV) : ByteArray := (((((((((h ++ textS x.owner) ++ textS x.node) ++ intS x.phase) ++ intS x.since) ++ resS x.cpu x.mem) ++ labelsS x.L.xs) ++ asksS x.S.xs) ++ labelsS x.T.xs) ++ intS x.warm)
def nodeS (h : ByteArray) (x : NodeV) : ByteArray := ((((((h ++ textS x.group) ++ resS x.cpu x.mem) ++ labelsS x.L.xs) ++ labelsS x.T.xs) ++ intS x.since) ++ truthS x.closed)
def groupS (h : ByteArray) (x : GroupV) : ByteArray := (((((((h ++ intS x.min) ++ intS x.max) ++ intS x.target) ++ resS x.cpu x.mem) ++ labelsS x.L.xs) ++ labelsS x.T.xs) ++ intS x.prio)
def hpa1S (h : ByteArray) (x : HpaV) : ByteArray := (((h ++ textS x.target) ++ intS x.min) ++ intS x.max) ++ putS (u64 (x.M.la : Int)) 1
def hpa2S (h : ByteArray) (x : HpaV) : ByteArray := (((h ++ intS x.tol) ++ behS x.up.win x.up.pick x.up.P.xs) ++ behS x.down.win x.down.pick x.down.P.xs) ++ putS (u64 (x.past.la : Int)) 1
def hpaS (h : ByteArray) (x : HpaV) : ByteArray := x.past.xs.foldl scS (hpa2S (x.M.xs.foldl metS (hpa1S h x)) x)
theorem hpa2S_le (h : ByteArray) (x : HpaV) : h.size ≤ (hpa2S h x).size := by unfold hpa2S; rw [ByteArray.size_append, ByteArray.size_append, ByteArray.size_append, ByteArray.size_append]; omega
theorem hpaS_2 (h : ByteArray) (x : HpaV) : (hpa2S (x.M.xs.foldl metS (hpa1S h x)) x).size ≤ (hpaS h x).size := foldl_le scS_le _ _
theorem hpaS_1 (h : ByteArray) (x : HpaV) : (hpa1S h x).size ≤ (hpaS h x).size := Nat.le_trans (Nat.le_trans (foldl_le metS_le _ _) (hpa2S_le _ _)) (hpaS_2 h x)
def objS (kd : Int) (nm : ByteArray) (ver : Int) (o : ShapesV) : ByteArray :=
  if kd = 0 then wlS (headS kd nm ver) o.w else if kd = 1 then podS (headS kd nm ver) o.p else if kd = 2 then nodeS (headS kd nm ver) o.n else if kd = 3 then groupS (headS kd nm ver) o.g else hpaS (headS kd nm ver) o.h
theorem headS_size (kd : Int) (nm : ByteArray) (ver : Int) : (headS kd nm ver).size = 10 + nm.size := by
  unfold headS
  rw [ByteArray.size_append, ByteArray.size_append, putS_size, putS_size, textS_size]
  omega
end Go.Proofs.Ytmoeddpbmclckaa
