/-
  WHAT FUNCTIONS OF THE PROGRAM COME TO, told by the machine, and plain laws of it. No condition but what each theorem says of its arguments.
-/
import Derived.Test.YtgflabpmiknpfaaGreatDoorProg
import Derived.Test.YtgflabpmiknpfaaGreatDoorMo5
namespace Go.AM
open Go.Proofs
set_option maxRecDepth 100000
set_option maxHeartbeats 4000000
def Xb1:T Bool:=(.n (.n (.n (.n (.n (.n (.n (.n (.n .e true .e) true .e) false (.n .e true .e)) true (.n (.n .e true .e) true (.n .e true .e))) true (.n (.n (.n (.n .e true .e) true .e) true (.n .e true .e)) true (.n (.n .e true .e) true (.n .e true .e)))) false (.n (.n (.n (.n .e true .e) true (.n .e true .e)) true (.n (.n (.n .e true .e) true .e) true .e)) false (.n .e false (.n (.n (.n .e true .e) true .e) false .e)))) false (.n (.n (.n (.n (.n .e true .e) true (.n .e true .e)) true (.n (.n .e true .e) true (.n .e true .e))) false (.n (.n (.n .e true .e) true .e) false (.n (.n .e true .e) true (.n .e true .e)))) false (.n (.n (.n (.n (.n .e true .e) true .e) true (.n .e true .e)) true (.n (.n (.n .e true .e) true .e) true (.n .e true .e))) false (.n (.n (.n (.n .e true .e) true .e) false .e) false (.n (.n .e true .e) false .e))))) false (.n (.n (.n (.n (.n (.n .e true .e) false (.n .e true .e)) true (.n (.n .e true .e) true (.n .e true .e))) false (.n (.n .e true .e) true (.n .e true .e))) false (.n (.n (.n (.n .e true .e) false (.n .e true .e)) true (.n (.n (.n .e true .e) true .e) true (.n .e true .e))) true (.n (.n (.n .e true .e) true .e) false (.n (.n (.n .e true .e) true .e) true (.n .e true .e))))) false (.n (.n (.n (.n (.n .e true .e) false .e) false (.n (.n (.n .e true .e) true .e) true .e)) false (.n (.n (.n .e true .e) true .e) false (.n (.n .e true .e) true .e))) false (.n (.n (.n (.n (.n .e true .e) false .e) true (.n .e true .e)) false (.n .e true .e)) true (.n (.n (.n (.n .e true .e) false .e) false (.n .e true .e)) true (.n (.n .e true .e) true (.n .e true .e))))))) false (.n (.n (.n (.n (.n (.n (.n (.n .e true .e) true .e) false (.n .e true .e)) true (.n (.n (.n .e true .e) true .e) true (.n .e true .e))) false (.n (.n .e true (.n .e true .e)) true (.n .e true .e))) false (.n (.n (.n (.n (.n .e true .e) true .e) true (.n .e true .e)) true (.n (.n (.n .e true .e) true .e) true .e)) false (.n (.n (.n .e true .e) false .e) false (.n (.n (.n .e true .e) true .e) false (.n .e true .e))))) false (.n (.n (.n (.n (.n .e true .e) true .e) false (.n (.n .e true .e) false (.n .e true .e))) false (.n (.n (.n .e true .e) true .e) false (.n .e true .e))) false (.n (.n (.n (.n (.n .e true .e) true .e) false (.n .e true .e)) true (.n (.n .e true .e) true (.n .e true .e))) true (.n (.n (.n (.n .e true .e) false .e) true .e) true (.n (.n .e true .e) false .e))))) false (.n (.n (.n (.n (.n (.n (.n .e true .e) true .e) true .e) true (.n (.n (.n .e true .e) true .e) true (.n .e true .e))) false (.n (.n .e true (.n .e true .e)) false (.n (.n .e true .e) true (.n .e true .e)))) false (.n (.n (.n (.n .e true .e) true (.n .e true .e)) false (.n (.n .e true .e) true .e)) false (.n (.n (.n (.n .e true .e) false .e) true (.n .e true .e)) true (.n (.n (.n .e true .e) true .e) false .e)))) false (.n (.n (.n (.n (.n .e true .e) true (.n .e true .e)) false (.n (.n .e true .e) true (.n .e true .e))) false (.n (.n (.n (.n .e true .e) false .e) false .e) true (.n (.n (.n .e true .e) false .e) false (.n .e true .e)))) false (.n (.n (.n (.n .e true .e) true (.n .e true .e)) false (.n (.n .e true .e) true (.n .e true .e))) true (.n (.n .e false (.n .e true .e)) false (.n (.n (.n .e true .e) true .e) true (.n .e true .e))))))))
def Jg1:T Bool:=(.n (.n (.n (.n (.n (.n (.n (.n (.n .e true .e) true .e) false (.n .e true .e)) false .e) false (.n (.n .e true (.n .e true .e)) false .e)) false (.n (.n (.n .e false (.n .e true .e)) false (.n (.n (.n .e true .e) false .e) false .e)) false .e)) false (.n (.n (.n (.n (.n .e true .e) false .e) false .e) false (.n .e false (.n .e false (.n .e true .e)))) false (.n (.n (.n (.n .e true .e) false .e) false .e) false (.n (.n (.n (.n .e true .e) false .e) false .e) false .e)))) false (.n (.n (.n (.n (.n (.n .e true .e) false .e) false .e) false .e) false (.n .e false (.n (.n .e true .e) false (.n (.n .e true .e) false .e)))) false (.n (.n (.n (.n (.n .e true .e) false .e) false .e) false .e) false (.n (.n (.n .e true .e) false .e) false (.n (.n (.n (.n .e true .e) false .e) false .e) false (.n (.n .e true .e) true (.n .e true .e))))))) false (.n (.n (.n (.n (.n (.n (.n (.n .e true .e) true .e) false .e) false .e) false (.n (.n .e false (.n .e true .e)) false .e)) false (.n (.n (.n (.n .e true .e) true .e) false .e) false (.n .e false (.n (.n .e true .e) false (.n .e true .e))))) false (.n (.n (.n (.n (.n .e true .e) false .e) false .e) false .e) false (.n (.n (.n .e false (.n .e true .e)) false .e) false (.n (.n (.n (.n .e true .e) false .e) false .e) true .e)))) false (.n (.n (.n (.n (.n (.n (.n .e true .e) true .e) false .e) false .e) false (.n .e false (.n .e false (.n .e true .e)))) false (.n (.n (.n (.n .e true .e) false (.n .e true .e)) false .e) false (.n (.n (.n (.n .e true .e) false .e) true .e) false (.n (.n .e true .e) false .e)))) false (.n (.n (.n (.n .e false (.n .e true .e)) false .e) false (.n .e false (.n .e false (.n .e true .e)))) false (.n (.n (.n .e true (.n .e true .e)) false .e) false (.n .e false (.n (.n .e true .e) true (.n .e true .e))))))))
def asciiZ:List Int:=[0,0,0,0,0,0,0,0,0,1,1,1,1,1,0,0,0,0,0,0,0,0,0,0,0,0,0,0,0,0,0,0,1,0,0,0,0,0,0,0,0,0,0,0,0,0,0,0,0,0,0,0,0,0,0,0,0,0,0,0,0,0,0,0,0,0,0,0,0,0,0,0,0,0,0,0,0,0,0,0,0,0,0,0,0,0,0,0,0,0,0,0,0,0,0,0,0,0,0,0,0,0,0,0,0,0,0,0,0,0,0,0,0,0,0,0,0,0,0,0,0,0,0,0,0,0,0,0,0,0,0,0,0,0,0,0,0,0,0,0,0,0,0,0,0,0,0,0,0,0,0,0,0,0,0,0,0,0,0,0,0,0,0,0,0,0,0,0,0,0,0,0,0,0,0,0,0,0,0,0,0,0,0,0,0,0,0,0,0,0,0,0,0,0,0,0,0,0,0,0,0,0,0,0,0,0,0,0,0,0,0,0,0,0,0,0,0,0,0,0,0,0,0,0,0,0,0,0,0,0,0,0,0,0,0,0,0,0,0,0,0,0,0,0,0,0,0,0,0,0,0,0,0,0,0,0]
def Gc0:List V:=[.int .u8 0,.int .u8 0,.int .u8 0,.int .u8 0,.int .u8 0,.int .u8 0,.int .u8 0,.int .u8 0,.int .u8 0,.int .u8 1,.int .u8 1,.int .u8 1,.int .u8 1,.int .u8 1,.int .u8 0,.int .u8 0,.int .u8 0,.int .u8 0,.int .u8 0,.int .u8 0,.int .u8 0,.int .u8 0,.int .u8 0,.int .u8 0,.int .u8 0,.int .u8 0,.int .u8 0,.int .u8 0,.int .u8 0,.int .u8 0,.int .u8 0,.int .u8 0,.int .u8 1,.int .u8 0,.int .u8 0,.int .u8 0,.int .u8 0,.int .u8 0,.int .u8 0,.int .u8 0,.int .u8 0,.int .u8 0,.int .u8 0,.int .u8 0,.int .u8 0,.int .u8 0,.int .u8 0,.int .u8 0,.int .u8 0,.int .u8 0,.int .u8 0,.int .u8 0,.int .u8 0,.int .u8 0,.int .u8 0,.int .u8 0,.int .u8 0,.int .u8 0,.int .u8 0,.int .u8 0,.int .u8 0,.int .u8 0,.int .u8 0,.int .u8 0,.int .u8 0,.int .u8 0,.int .u8 0,.int .u8 0,.int .u8 0,.int .u8 0,.int .u8 0,.int .u8 0,.int .u8 0,.int .u8 0,.int .u8 0,.int .u8 0,.int .u8 0,.int .u8 0,.int .u8 0,.int .u8 0,.int .u8 0,.int .u8 0,.int .u8 0,.int .u8 0,.int .u8 0,.int .u8 0,.int .u8 0,.int .u8 0,.int .u8 0,.int .u8 0,.int .u8 0,.int .u8 0,.int .u8 0,.int .u8 0,.int .u8 0,.int .u8 0,.int .u8 0,.int .u8 0,.int .u8 0,.int .u8 0,.int .u8 0,.int .u8 0,.int .u8 0,.int .u8 0,.int .u8 0,.int .u8 0,.int .u8 0,.int .u8 0,.int .u8 0,.int .u8 0,.int .u8 0,.int .u8 0,.int .u8 0,.int .u8 0,.int .u8 0,.int .u8 0,.int .u8 0,.int .u8 0,.int .u8 0,.int .u8 0,.int .u8 0,.int .u8 0,.int .u8 0,.int .u8 0,.int .u8 0,.int .u8 0,.int .u8 0,.int .u8 0,.int .u8 0,.int .u8 0,.int .u8 0,.int .u8 0,.int .u8 0,.int .u8 0,.int .u8 0,.int .u8 0,.int .u8 0,.int .u8 0,.int .u8 0,.int .u8 0,.int .u8 0,.int .u8 0,.int .u8 0,.int .u8 0,.int .u8 0,.int .u8 0,.int .u8 0,.int .u8 0,.int .u8 0,.int .u8 0,.int .u8 0,.int .u8 0,.int .u8 0,.int .u8 0,.int .u8 0,.int .u8 0,.int .u8 0,.int .u8 0,.int .u8 0,.int .u8 0,.int .u8 0,.int .u8 0,.int .u8 0,.int .u8 0,.int .u8 0,.int .u8 0,.int .u8 0,.int .u8 0,.int .u8 0,.int .u8 0,.int .u8 0,.int .u8 0,.int .u8 0,.int .u8 0,.int .u8 0,.int .u8 0,.int .u8 0,.int .u8 0,.int .u8 0,.int .u8 0,.int .u8 0,.int .u8 0,.int .u8 0,.int .u8 0,.int .u8 0,.int .u8 0,.int .u8 0,.int .u8 0,.int .u8 0,.int .u8 0,.int .u8 0,.int .u8 0,.int .u8 0,.int .u8 0,.int .u8 0,.int .u8 0,.int .u8 0,.int .u8 0,.int .u8 0,.int .u8 0,.int .u8 0,.int .u8 0,.int .u8 0,.int .u8 0,.int .u8 0,.int .u8 0,.int .u8 0,.int .u8 0,.int .u8 0,.int .u8 0,.int .u8 0,.int .u8 0,.int .u8 0,.int .u8 0,.int .u8 0,.int .u8 0,.int .u8 0,.int .u8 0,.int .u8 0,.int .u8 0,.int .u8 0,.int .u8 0,.int .u8 0,.int .u8 0,.int .u8 0,.int .u8 0,.int .u8 0,.int .u8 0,.int .u8 0,.int .u8 0,.int .u8 0,.int .u8 0,.int .u8 0,.int .u8 0,.int .u8 0,.int .u8 0,.int .u8 0,.int .u8 0,.int .u8 0,.int .u8 0,.int .u8 0,.int .u8 0,.int .u8 0,.int .u8 0,.int .u8 0,.int .u8 0,.int .u8 0,.int .u8 0,.int .u8 0,.int .u8 0,.int .u8 0,.int .u8 0,.int .u8 0,.int .u8 0,.int .u8 0,.int .u8 0]
def YD0 (g:Nat):Option V:=bif Nat.beq g 3 then some (.gptr 256 [.agg Gc0] 0) else none
noncomputable def E0:Env:={ shared:=T.get false Xb1,pubRet:=T.get false Jg1,prim:=fun _ _=>none,glob:=YD0 }
def pbT:T Bool:=(.n (.n (.n (.n (.n (.n (.n (.n (.n .e true .e) true .e) true (.n (.n .e true .e) true .e)) true (.n (.n (.n .e true .e) false .e) false .e)) true (.n (.n (.n .e true .e) true (.n .e true .e)) false (.n .e true .e))) true (.n (.n (.n (.n (.n .e true .e) true .e) false (.n .e true .e)) false (.n (.n (.n .e true .e) false .e) true (.n .e true .e))) true (.n (.n (.n (.n .e true .e) true .e) true (.n .e true .e)) true (.n .e true (.n .e true .e))))) true (.n (.n (.n (.n (.n (.n .e true .e) true .e) false (.n .e true .e)) false .e) true (.n (.n (.n (.n .e true .e) true .e) false (.n .e true .e)) false (.n .e false (.n .e true .e)))) true (.n (.n (.n (.n .e true .e) false (.n .e true .e)) false (.n (.n (.n .e true .e) false .e) true .e)) true (.n (.n (.n (.n .e true .e) true .e) true (.n .e true .e)) true (.n (.n (.n .e true .e) false .e) true (.n .e true .e)))))) false (.n (.n (.n (.n (.n (.n (.n .e true .e) true .e) true (.n .e true .e)) false (.n (.n (.n .e true .e) false .e) false .e)) true (.n (.n (.n (.n .e true .e) true .e) false (.n .e true .e)) false (.n (.n .e true .e) true (.n .e true .e)))) false (.n (.n (.n (.n (.n .e true .e) true .e) true (.n .e true .e)) false (.n (.n (.n .e true .e) false .e) true .e)) false (.n (.n (.n (.n .e true .e) true .e) true (.n .e true .e)) true (.n (.n .e true .e) true (.n .e true .e))))) true (.n (.n (.n (.n (.n (.n .e true .e) true .e) true (.n .e true .e)) true (.n .e true .e)) true (.n (.n (.n (.n .e true .e) true .e) false (.n .e true .e)) true (.n .e true (.n .e true .e)))) true (.n (.n (.n (.n .e true .e) true (.n .e true .e)) true (.n (.n (.n .e true .e) true .e) true (.n .e true .e))) true (.n (.n (.n (.n .e true .e) true .e) true .e) false (.n (.n (.n .e true .e) true .e) true (.n .e true .e))))))) false (.n (.n (.n (.n (.n (.n (.n (.n .e true .e) true .e) true .e) true (.n .e true .e)) true (.n (.n (.n (.n .e true .e) true .e) false (.n .e true .e)) false (.n (.n (.n .e true .e) true .e) true (.n .e true .e)))) true (.n (.n (.n (.n .e true .e) true .e) false (.n .e true (.n .e true .e))) true (.n (.n (.n (.n .e true .e) true .e) true (.n .e true .e)) true (.n (.n (.n .e true .e) true .e) false (.n .e true .e))))) true (.n (.n (.n (.n (.n (.n .e true .e) true .e) false (.n .e true .e)) true (.n (.n (.n .e true .e) false .e) true .e)) true (.n (.n (.n (.n .e true .e) true .e) false (.n .e true .e)) true (.n (.n (.n .e true .e) true .e) true (.n .e true .e)))) true (.n (.n (.n .e false (.n .e true .e)) false (.n (.n (.n .e true .e) false .e) true .e)) false (.n (.n (.n (.n .e true .e) true .e) false (.n .e true .e)) true (.n .e true (.n .e true .e)))))) false (.n (.n (.n (.n (.n (.n (.n .e true .e) true .e) false (.n .e true .e)) false .e) true (.n (.n (.n (.n .e true .e) true .e) false (.n .e true .e)) true (.n (.n (.n .e true .e) false .e) false (.n .e true .e)))) true (.n (.n (.n (.n (.n .e true .e) true .e) false (.n .e true .e)) true (.n (.n (.n .e true .e) false .e) true (.n .e true .e))) true (.n (.n (.n (.n .e true .e) true .e) true .e) false (.n (.n (.n .e true .e) true .e) true (.n .e true .e))))) true (.n (.n (.n (.n (.n (.n .e true .e) true .e) false (.n .e true .e)) true (.n (.n (.n .e true .e) false .e) true .e)) true (.n (.n (.n .e true .e) true (.n .e true .e)) true (.n (.n (.n .e true .e) true .e) true (.n .e true .e)))) false (.n (.n (.n (.n (.n .e true .e) true .e) true (.n .e true .e)) true (.n (.n (.n .e true .e) false .e) true .e)) false (.n (.n (.n (.n .e true .e) true .e) true .e) true (.n (.n .e true .e) true (.n .e true .e))))))))
def drowT:T Bool:=(.n (.n (.n (.n .e false (.n .e false (.n (.n .e true .e) true .e))) true (.n (.n (.n .e true .e) false .e) false (.n .e false (.n (.n .e true .e) false .e)))) false (.n (.n (.n (.n .e true .e) false .e) true (.n .e true (.n .e false (.n (.n .e true .e) false .e)))) true (.n (.n .e true .e) false (.n .e false (.n (.n .e true .e) false .e))))) false (.n (.n (.n (.n (.n .e true .e) false .e) false .e) true (.n (.n .e false (.n (.n .e false (.n .e true .e)) false .e)) false .e)) true (.n (.n .e false (.n (.n (.n .e true .e) false .e) false .e)) false (.n .e false (.n (.n .e false (.n .e false (.n .e true .e))) false .e)))))
def liveT:List (Nat×Nat×List Nat×List Nat×List Nat):=[(3,4,[1,2,7,8,9],[0,1,2,7,8],[0,1,2]),(5,2,[0,5,6],[0,2],[0]),(6,6,[0,3,4,15,16,17],[0,4],[0]),(7,6,[0,1,7,16,17,18],[0,1,7],[0,1]),(9,3,[0,3,7,8,9],[0,3],[0]),(12,2,[0,19,20,21],[0,1,4,5],[0,1]),(13,5,[0,4,5],[0,5],[0]),(15,2,[2,3,4,12,13,14],[0,1,2,3,4,6],[0,1,2,3,4]),(22,3,[0,1,5,11,12,13],[0,1,5],[0,1]),(23,6,[5,6,7,8,9],[0,1,6],[0,1]),(24,3,[2,3,6,7,11,12,13],[0,1,2,3,6,7],[0,1,2]),(25,11,[6,25,26,27],[0,6],[0]),(25,3,[0,3,9,10,11],[0,3],[0]),(30,2,[0,1,7,8],[0,1,4],[0,1]),(36,4,[1,23,24,25],[0,1,4],[0,1]),(38,2,[0,6],[0,2],[0]),(47,1,[0,1,4],[0,1],[0,1]),(50,38,[7,8,9],[0,1,9],[0,1]),(51,3,[1,2,5,10,11,12],[0,1,5],[0,1]),(53,3,[2,3,9],[0,1,2,3],[0,1,2,3]),(64,2,[0,1,5],[0,1,4],[0,1]),(65,12,[0,1,5,6,7,9,11],[0,1,4],[0,1]),(65,6,[0,1,5,6,7,8,9,10],[0,1,5,6,7,8,9],[0,1]),(66,2,[0,1,7,8],[0,1,4],[0,1]),(67,2,[0,1,7,8],[0,1,4],[0,1]),(68,7,[0,3,4,5,12,13,14,36,37,38],[0,1,3,4,5,12,13,14],[0,1]),(68,2,[0,12,13,14],[0,1],[0,1]),(69,3,[4,7,8,9],[0,2,3],[0]),(72,2,[0,2,3],[0,2,3],[0]),(75,1,[0,1,3],[0,1],[0,1]),(79,3,[0,4,5,19,20,21],[0,1,4],[0,1]),(81,2,[0,3,6,7,8],[0,1],[0,1]),(82,1,[0,2,6,7,8],[0,1,2],[0,1,2]),(88,4,[1,2,4,5,6,16,17,18],[0,1,2,4,6],[0,1]),(89,3,[1,2,4,5,9,10,11],[0,1,2,4,5],[0,1]),(93,3,[3,5],[0,3],[0]),(105,6,[0,3,5,6,7],[0,1,3,5,6],[0,1]),(107,3,[0,3,5,6],[0,1,3,5],[0,1]),(108,6,[0,3,5,6,7],[0,1,5,6],[0,1]),(111,3,[0,5,9,10,11],[0,1,5],[0,1]),(114,5,[0,1,5,6],[0,1,5],[0,1]),(119,1,[0,1],[0,1],[0,1]),(120,2,[0,2,4],[0,2,3],[0]),(121,1,[0,1],[0,1],[0,1]),(122,1,[0,1],[0,1],[0,1]),(123,8,[4,6,7,8],[0,4,6],[0]),(123,3,[0,4,5],[0,4],[0]),(130,3,[0,2,3,4],[0,2,3],[0]),(143,2,[0,1,5],[0,1,5],[0,1]),(145,4,[0,3],[0,2],[0]),(146,2,[0,3],[0,3],[0]),(158,2,[0,3],[0,2,3],[0]),(161,2,[2,6,7,8,13],[0,1],[0,1]),(164,3,[3,5,10,11,12],[0,1,3,5],[0,1]),(168,3,[3,16,17,18],[0,3],[0]),(169,2,[1,3],[0,1,3],[0]),(172,26,[1,3,114,115],[0,3],[0]),(174,3,[1,2],[1],[]),(179,4,[2,13,14,15,21],[0,1],[0,1]),(182,3,[3,6,7,8],[0,3],[0]),(185,13,[0,2,4,101,102,103],[0,2,4],[0]),(188,5,[2,3,5,14,15],[0,1,2,5],[0,1]),(192,2,[0,1,7,8],[0,1,4],[0,1]),(193,6,[0,5,22,23,24],[0,1,5],[0,1]),(196,10,[0,4,5,6],[0,4,5],[0]),(199,5,[0,2,3],[0,2,3],[0]),(201,2,[0,1,2,3,9],[0,1,2,3,9],[0,1,2,3]),(204,3,[0,2,3],[0,2,3],[0]),(208,3,[0,1,4,5,6],[0,1,4],[0,1]),(215,2,[0,1,5],[0,1,5],[0,1]),(219,18,[1,45],[0,1,4],[0,1]),(219,12,[0,6,8],[0,1,4],[0,1]),(225,3,[1,5,8,9,10],[0,1,5],[0,1]),(241,15,[0,1,5,6,7,8,9,10],[0,1,4],[0,1]),(249,3,[0,2,7,10,11,12],[0,1,2,7],[0,1,2]),(252,38,[175],[0,1,4],[0,1]),(252,29,[0,7,8,9,14,15,16],[0,1,7,8,9,14,15],[0,1]),(252,25,[0,7,8,9,14,15],[0,1,4],[0,1]),(252,12,[0,7,8,9,12],[0,1,8,9],[0,1]),(252,5,[0,7,8,9],[0,1,4],[0,1]),(255,3,[0,2,3],[0,2],[0]),(267,1,[0,1,2,4],[0,1,2],[0,1,2]),(275,11,[0,1,5,6,7,8,10],[0,1,4],[0,1]),(275,5,[0,1,5,6,7,8,9],[0,1,5,6,7,8],[0,1]),(278,4,[0,1,12,13],[0,1,4],[0,1]),(288,5,[0,1,2,3],[0,1,2,3],[0,1,2,3]),(288,1,[0,2],[0,1,2,3],[0,1,2,3]),(290,4,[0,2,3,6,7,8,15,16,17],[0,6,7,8],[0]),(290,1,[0,6,7,8],[0],[0]),(292,27,[0,9,10,12],[0,9,10,12],[0]),(292,21,[0,9,10,11,12],[0,9,10,11],[0]),(292,18,[0,9,10,12],[0,9,10,12],[0]),(292,5,[0,3,4,5,6],[0,3,5],[0]),(293,2,[0,1,7,8],[0,1,4],[0,1]),(294,8,[4,6,7,8],[0,4,6],[0]),(294,3,[0,4,5],[0,4],[0]),(296,3,[1,5,6,7],[1],[]),(297,16,[0,9,47,48,49],[0,1,9],[0,1]),(297,4,[0,1,5,6,14],[0,1,5,6],[0,1]),(300,14,[0,1,7,8],[0,1,4],[0,1]),(300,3,[0,1,19,20],[0,1,4],[0,1]),(301,14,[0,1,7,8],[0,1,4],[0,1]),(301,3,[0,1,15,16],[0,1,4],[0,1])]
noncomputable def liveO (f:FuncId) (c:Code):Option (List Nat×List Nat×List Nat) :=
 match c with
 | .loop _=>none
 | c=>(match yE0 c with
  | some i=>List.rec none (fun p _ ih=>bif Nat.beq p.1 f&&Nat.beq p.2.1 i then some p.2.2 else ih) liveT
  | none=>none)
noncomputable def PP:Program:=Tryz.prog
def Km0:List (FuncId×V):=[(8,.bool true)]
def tabP:List (FuncId×List (List UInt8×V)):=[(16,[([46],.tup [.agg [.int .i64 1,.str [],.nils],.int .u16 0,.int .i64 0])])]
noncomputable def EP:Env:={ E0 with prim:=QM0 tabP Km0,shared:=fun f=>E0.shared f||Nat.beq f 6||Nat.beq f 7||Nat.beq f 14||Nat.beq f 9||Nat.beq f 10||Nat.beq f 15,borrow:=fun f=>Nat.beq f 5,lit:=fun _=>true,pubRet:=fun _=>false }
noncomputable def unrO (_:FuncId) (_:Code) (_:Nat):Bool:=false
noncomputable def naF (f:FuncId) (a:List V):List V:=bif Nat.beq f 5 then (match a with
 | [x]=>[gslO x]
 | a=>a) else a
theorem naF_ok (f:FuncId) (a:List V):Wks a (naF f a):=by
 unfold naF
 cases Nat.beq f 5 with
 | false=>simp only [cond_false];exact ⟨rfl,fun i x y p q=>by rw [p] at q;cases q;exact .refl _⟩
 | true =>
  simp only [cond_true]
  split
  ·refine ⟨rfl,fun i x y p q=>?_⟩
   match i,p,q with
   | 0,p,q=>cases p;cases q;exact qk1 _
   | i+1,p,q=>cases p
  ·exact ⟨rfl,fun i x y p q=>by rw [p] at q;cases q;exact .refl _⟩
noncomputable def CP:Cf:={ na:=naF,naok:=naF_ok,unr:=unrO,inl:=T.get false ((.n .e false (.n (.n .e true .e) false .e))),drow:=T.get false drowT,live:=liveO,pb:=T.get false pbT,cb:=fun t=>Nat.beq t 25,srow:=fun t=>Nat.beq t 25,norm:=fun f v=>Bool.rec v (Xb0 PP f v) (T.get false pbT f),ok:=fun f x=>by cases T.get false pbT f <;> first | exact Wk.refl x | exact jp1 PP f x }
/-- WHAT CALLS COME TO. -/
noncomputable def rI (a:Int):Res:=.ret (.int .i64 a) Heap.empty
noncomputable def rO (a:Bool):Res:=.ret (.bool a) Heap.empty
noncomputable def rW (a:List UInt8):Res:=.ret (.str a) Heap.empty
noncomputable def qN (e:Int):Res:=.dret true (hp [.row 0 0 0 0 none [.int .i64 e]])
noncomputable abbrev nI {β:Type} (bot:β) (a:Int) (x:β):β:=need bot ((-9223372036854775808≤a)∧(a≤9223372036854775807)) x
noncomputable abbrev nX {β:Type} (bot:β) (i:Int) (n:Nat) (x:β):β:=need bot (((0:Int)≤i)∧(i<(n:Int))) x
noncomputable abbrev nG {β:Type} (bot:β) (v n:Nat) (l:List V) (x:β):β:=need bot ((v=v)∧((0=0)∧((n=List.length l)∧(GndR l)))) x
def yn0:Code→List Code
 | .seq a b=>yn0 a++yn0 b
 | .cond _ a b=>yn0 a++yn0 b
 | .block _ b=>yn0 b
 | .loop b=>b::yn0 b
 | .rangeFunc _ _ a b=>yn0 a++yn0 b
 | .scope b=>yn0 b
 | _=>[]
def lpB (P:Program) (f i:Nat):Code :=
 match P.funcs[f]? with
 | some fn=>(match fn.body with
  | some b=>((yn0 b)[i]?).getD .skip
  | none=>.skip)
 | none=>.skip
def jn {β:Type} (s:β) (F:β→β):β:=F s
def ent2 {α ε:Type} (x:PR α ε) (s:α→Bool) (R:Bool→α→Res) (Q:ε→Res):Ent:=⟨α,ε,x,s,fun _=>true,fun b _=>R b,Q⟩
structure Fl where
 v:Nat
 n:Nat
 l:List V
noncomputable abbrev rwF (v:Nat) (l:List V):Obj:=.row v 25 2 0 none l
noncomputable def rDg (a:List V×Nat×List V):Res:=.ret (.osl 3 a.1) (hp [rwF a.2.1 a.2.2])
noncomputable def rFm (a:(List V×List V)×Nat×List V):Res:=.ret (.tup [.osl 2 a.1.1,.osl 3 a.1.2]) (hp [rwF a.2.1 a.2.2])
noncomputable def rLw (fr:Fr) (a:(Int×Bool×Int)×Nat×Nat×List V):Res:=.code (.exit 0) ((base fr.fn fr.n).on [(1,.int .u8 a.1.1),(2,.bool a.1.2.1),(7,.int .i64 a.1.2.2),(8,.sl 0 a.2.1 0 a.2.2.1 none)]) (hp [rwF a.2.1 a.2.2.2])
noncomputable def rSo (fr:Fr) (b:Bool) (a:Bool×List V):Res:=Bool.rec (.code .ret ((base fr.fn fr.n).on [(0,.osl 2 a.2),(2,.bool false)]) Heap.empty) (.code (.exit 0) ((base fr.fn fr.n).on [(0,.osl 2 a.2)]) Heap.empty) b
noncomputable def rPa (a:Int):Res:=.panic (.int .i64 a) Heap.empty
noncomputable def rPl (fr:Fr) (a:Int):Res:=.code (.panic (.int .i64 a)) (base fr.fn fr.n) Heap.empty
structure MoX where
 So:Task→PR (Bool×List V) Int
 Pa:Task→PR Int Int
 Lw:Task→PR ((Int×Bool×Int)×Nat×Nat×List V) Int
 Dg:Task→PR (List V×Nat×List V) Int
 Fm:Task→PR ((List V×List V)×Nat×List V) Int
 I:Task→PR Int Int
 O:Task→PR Bool Int
 W:Task→PR (List UInt8) Int
noncomputable def tbMoK (X:MoX) (t:Task) (k:Nat):Option Ent :=
 match k with
 | 1=>some (ent (X.I t) rI qN)
 | 2=>some (ent (X.O t) rO qN)
 | 3=>some (ent (X.W t) rW qN)
 | 4=>some (ent (X.Dg t) rDg qN)
 | 5=>some (ent (X.Fm t) rFm qN)
 | 6=>some (ent (X.Pa t) rPa qN)
 | _=>none
def kindMo:T Nat:=(.n (.n (.n (.n .e 5 .e) 0 .e) 0 (.n (.n .e 6 .e) 2 .e)) 0 (.n (.n .e 3 .e) 0 (.n .e 4 .e)))
def Zr1:T Nat:=(.n (.n (.n (.n .e 3 .e) 1 .e) 0 (.n .e 2 .e)) 0 .e)
noncomputable def tbMoL (X:MoX) (t:Task) (fr:Fr):Option Ent :=
 match T.get 0 Zr1 fr.fn with
 | 1=>some (ent (X.Lw t) (rLw fr) qN)
 | 2=>some (ent2 (X.So t) (fun a=>a.1) (rSo fr) qN)
 | 3=>some (ent (X.Pa t) (rPl fr) qN)
 | _=>none
noncomputable def ye0 (X:MoX) (t:Task):Option Ent :=
 match t with
 | .call f _ _=>tbMoK X t (T.get 0 kindMo f)
 | .code c fr _=>(match c with
  | .loop _=>tbMoL X t fr
  | _=>none)
 | _=>none
theorem Qb1 (X:MoX) (ih:Task→Res) {β:Type} (bot:β) (k:Res→β) (n i:Int) (same:Bool):evN PP EP CP (ye0 X) ih bot (.call 3 [.int .u8 n,.int .u8 i,.bool same] Heap.empty) k =
 need bot (((0:Int)≤(n))∧((0:Int)<60)) (nI bot (n%60) (nI bot (2+n%60) (PR.bnd bot (X.3 (.code (.loop (lpB PP 3 0)) ((base 3 110).on [(1,(.int .u8 (i))),(2,(.bool (same))),(7,(.int .i64 (2+n%60))),(8,.nils),(9,(.int .i64 0))]) Heap.empty)) (fun a3 =>
 nG bot a3.2.1 (a3.2.2.1) a3.2.2.2 (PR.bnd bot (X.7 (.call 5 [(.osl 2 (a3.2.2.2))] Heap.empty)) (fun a5 =>
 bif a5 then (need bot (GndR (a3.2.2.2)) (PR.bnd bot (X.4 (.call 6 [(.sl 0 (a3.2.1) 0 (a3.2.2.1) none)] (hp [.row (a3.2.1) 25 2 0 none (a3.2.2.2)]))) (fun a8 =>
 need bot (GndR (a8.2.2)) (nI bot (a3.1.1) (nI bot (a3.1.2.2-1) (need bot (((0:Int)≤(a3.1.1))∧((0:Int)<(a3.1.2.2-1))) (nI bot (a3.1.1%(a3.1.2.2-1)+1) (need bot (((0:Int)≤(a3.1.1%(a3.1.2.2-1)))∧((a3.1.1%(a3.1.2.2-1))<((↑a3.2.2.1:Int)))) (need bot (((a3.2.1)=(a8.2.1))∧(ldX PP 9 2 (a8.2.2) ((0+Int.toNat (a3.1.1%(a3.1.2.2-1)))*2))) (need bot (((0:Int)≤(a3.1.1%(a3.1.2.2-1)+1))∧((a3.1.1%(a3.1.2.2-1)+1)<((↑a3.2.2.1:Int)))) (need bot ((a3.2.1)=(a8.2.1)) (need bot (stX PP 9 (V.str (gS 2 a8.2.2 (Nat.add ((0+Int.toNat (a3.1.1%(a3.1.2.2-(1:Int))))*2) 0) 0)) 0 2 a8.2.2 (Nat.add ((0+Int.toNat (a3.1.1%(a3.1.2.2-(1:Int))+(1:Int)))*2) 0)) (bif a3.1.2.1 then (need bot (GndR (qR0 2 a8.2.2 (Nat.add ((0+Int.toNat (a3.1.1%(a3.1.2.2-1)+1))*2) 0) (V.str (gS 2 a8.2.2 (Nat.add ((0+Int.toNat (a3.1.1%(a3.1.2.2-1)))*2) 0) 0)))) (PR.bnd bot (X.4 (.call 6 [(.sl 0 (a3.2.1) 0 (a3.2.2.1) none)] (hp [.row (a3.2.1) 25 2 0 none (qR0 2 a8.2.2 (Nat.add ((0+Int.toNat (a3.1.1%(a3.1.2.2-1)+1))*2) 0) (V.str (gS 2 a8.2.2 (Nat.add ((0+Int.toNat (a3.1.1%(a3.1.2.2-1)))*2) 0) 0)))]))) (fun a21 =>
 need bot (GndR (a21.2.2)) (need bot (GndR (a21.2.2)) (PR.bnd bot (X.5 (.call 7 [(.sl 0 (a3.2.1) 0 (a3.2.2.1) none),(.int .i64 5)] (hp [.row (a21.2.1) 25 2 0 none (a21.2.2)]))) (fun a24 =>
 need bot (GndR (a24.2.2)) (bif decide (a3.1.2.2≤50) then (bif decide ((↑(List.length a8.1):Int)=0) then (bif decide ((↑(List.length a21.1):Int)=1) then (nX bot 0 (List.length a21.1) (need bot (ldC PP 33 3 (a21.1) 1) (bif decide (gI 3 a21.1 1 0=42) then (nX bot 0 (List.length a21.1) (need bot (ldC PP 9 3 (a21.1) 0) (bif decide (gS 3 a21.1 0 0=[]) then (bif decide ((↑(List.length a24.1.1):Int)=0) then (bif decide ((↑(List.length a24.1.2):Int)=1) then (k (.ret (.bool true) Heap.empty))
 else (k (.ret (.bool false) Heap.empty)))
 else (k (.ret (.bool false) Heap.empty)))
 else (k (.ret (.bool false) Heap.empty)))))
 else (k (.ret (.bool false) Heap.empty)))))
 else (k (.ret (.bool false) Heap.empty)))
 else (k (.ret (.bool false) Heap.empty)))
 else (k (.ret (.bool false) Heap.empty))))
 (fun _=>bot))))
 (fun _=>bot)))
 else (need bot (((0:Int)≤(a3.1.1%(a3.1.2.2-1)))∧((a3.1.1%(a3.1.2.2-1))<((↑a3.2.2.1:Int)))) (need bot ((a3.2.1)=(a3.2.1)) (need bot (stX PP 9 (V.str [(122:UInt8),(122:UInt8)]) 0 2 (qR0 2 a8.2.2 (Nat.add ((0+Int.toNat (a3.1.1%(a3.1.2.2-(1:Int))+(1:Int)))*2) 0) (V.str (gS 2 a8.2.2 (Nat.add ((0+Int.toNat (a3.1.1%(a3.1.2.2-(1:Int))))*2) 0) 0))) (Nat.add ((0+Int.toNat (a3.1.1%(a3.1.2.2-(1:Int))))*2) 0)) (need bot (GndR (qR0 2 (qR0 2 a8.2.2 (Nat.add ((0+Int.toNat (a3.1.1%(a3.1.2.2-1)+1))*2) 0) (V.str (gS 2 a8.2.2 (Nat.add ((0+Int.toNat (a3.1.1%(a3.1.2.2-1)))*2) 0) 0))) (Nat.add ((0+Int.toNat (a3.1.1%(a3.1.2.2-1)))*2) 0) (V.str [122,122]))) (PR.bnd bot (X.4 (.call 6 [(.sl 0 (a3.2.1) 0 (a3.2.2.1) none)] (hp [.row (a3.2.1) 25 2 0 none (qR0 2 (qR0 2 a8.2.2 (Nat.add ((0+Int.toNat (a3.1.1%(a3.1.2.2-1)+1))*2) 0) (V.str (gS 2 a8.2.2 (Nat.add ((0+Int.toNat (a3.1.1%(a3.1.2.2-1)))*2) 0) 0))) (Nat.add ((0+Int.toNat (a3.1.1%(a3.1.2.2-1)))*2) 0) (V.str [122,122]))]))) (fun a24 =>
 need bot (GndR (a24.2.2)) (need bot (GndR (a24.2.2)) (PR.bnd bot (X.5 (.call 7 [(.sl 0 (a3.2.1) 0 (a3.2.2.1) none),(.int .i64 5)] (hp [.row (a24.2.1) 25 2 0 none (a24.2.2)]))) (fun a27 =>
 need bot (GndR (a27.2.2)) (bif decide (a3.1.2.2≤50) then (bif decide ((↑(List.length a8.1):Int)=0) then (bif decide ((↑(List.length a24.1):Int)=1) then (nX bot 0 (List.length a24.1) (need bot (ldC PP 33 3 (a24.1) 1) (bif decide (gI 3 a24.1 1 0=42) then (nX bot 0 (List.length a24.1) (need bot (ldC PP 9 3 (a24.1) 0) (bif decide (gS 3 a24.1 0 0=[]) then (bif decide ((↑(List.length a27.1.1):Int)=0) then (bif decide ((↑(List.length a27.1.2):Int)=1) then (k (.ret (.bool true) Heap.empty))
 else (k (.ret (.bool false) Heap.empty)))
 else (k (.ret (.bool false) Heap.empty)))
 else (k (.ret (.bool false) Heap.empty)))))
 else (k (.ret (.bool false) Heap.empty)))))
 else (k (.ret (.bool false) Heap.empty)))
 else (k (.ret (.bool false) Heap.empty)))
 else (k (.ret (.bool false) Heap.empty))))
 (fun _=>bot))))
 (fun _=>bot)))))))))))))))))
 (fun _=>bot)))
 else (need bot (GndR (a3.2.2.2)) (PR.bnd bot (X.4 (.call 6 [(.sl 0 (a3.2.1) 0 (a3.2.2.1) none)] (hp [.row (a3.2.1) 25 2 0 none (a3.2.2.2)]))) (fun a8 =>
 need bot (GndR (a8.2.2)) (nI bot (a3.1.1) (nI bot (a3.1.2.2-1) (need bot (((0:Int)≤(a3.1.1))∧((0:Int)<(a3.1.2.2-1))) (nI bot (a3.1.1%(a3.1.2.2-1)+1) (need bot (((0:Int)≤(a3.1.1%(a3.1.2.2-1)))∧((a3.1.1%(a3.1.2.2-1))<((↑a3.2.2.1:Int)))) (need bot (((a3.2.1)=(a8.2.1))∧(ldX PP 9 2 (a8.2.2) ((0+Int.toNat (a3.1.1%(a3.1.2.2-1)))*2))) (need bot (((0:Int)≤(a3.1.1%(a3.1.2.2-1)+1))∧((a3.1.1%(a3.1.2.2-1)+1)<((↑a3.2.2.1:Int)))) (need bot ((a3.2.1)=(a8.2.1)) (need bot (stX PP 9 (V.str (gS 2 a8.2.2 (Nat.add ((0+Int.toNat (a3.1.1%(a3.1.2.2-(1:Int))))*2) 0) 0)) 0 2 a8.2.2 (Nat.add ((0+Int.toNat (a3.1.1%(a3.1.2.2-(1:Int))+(1:Int)))*2) 0)) (bif a3.1.2.1 then (need bot (GndR (qR0 2 a8.2.2 (Nat.add ((0+Int.toNat (a3.1.1%(a3.1.2.2-1)+1))*2) 0) (V.str (gS 2 a8.2.2 (Nat.add ((0+Int.toNat (a3.1.1%(a3.1.2.2-1)))*2) 0) 0)))) (PR.bnd bot (X.4 (.call 6 [(.sl 0 (a3.2.1) 0 (a3.2.2.1) none)] (hp [.row (a3.2.1) 25 2 0 none (qR0 2 a8.2.2 (Nat.add ((0+Int.toNat (a3.1.1%(a3.1.2.2-1)+1))*2) 0) (V.str (gS 2 a8.2.2 (Nat.add ((0+Int.toNat (a3.1.1%(a3.1.2.2-1)))*2) 0) 0)))]))) (fun a21 =>
 need bot (GndR (a21.2.2)) (need bot (GndR (a21.2.2)) (PR.bnd bot (X.5 (.call 7 [(.sl 0 (a3.2.1) 0 (a3.2.2.1) none),(.int .i64 5)] (hp [.row (a21.2.1) 25 2 0 none (a21.2.2)]))) (fun a24 =>
 need bot (GndR (a24.2.2)) (bif decide (a3.1.2.2≤50) then (k (.ret (.bool false) Heap.empty))
 else (bif decide ((↑(List.length a8.1):Int)=0) then (k (.ret (.bool false) Heap.empty))
 else (bif decide ((↑(List.length a21.1):Int)=1) then (nX bot 0 (List.length a21.1) (need bot (ldC PP 33 3 (a21.1) 1) (bif decide (gI 3 a21.1 1 0=42) then (nX bot 0 (List.length a21.1) (need bot (ldC PP 9 3 (a21.1) 0) (bif decide (gS 3 a21.1 0 0=[]) then (bif decide ((↑(List.length a24.1.1):Int)=0) then (bif decide ((↑(List.length a24.1.2):Int)=1) then (k (.ret (.bool true) Heap.empty))
 else (k (.ret (.bool false) Heap.empty)))
 else (k (.ret (.bool false) Heap.empty)))
 else (k (.ret (.bool false) Heap.empty)))))
 else (k (.ret (.bool false) Heap.empty)))))
 else (k (.ret (.bool false) Heap.empty))))))
 (fun _=>bot))))
 (fun _=>bot)))
 else (need bot (((0:Int)≤(a3.1.1%(a3.1.2.2-1)))∧((a3.1.1%(a3.1.2.2-1))<((↑a3.2.2.1:Int)))) (need bot ((a3.2.1)=(a3.2.1)) (need bot (stX PP 9 (V.str [(122:UInt8),(122:UInt8)]) 0 2 (qR0 2 a8.2.2 (Nat.add ((0+Int.toNat (a3.1.1%(a3.1.2.2-(1:Int))+(1:Int)))*2) 0) (V.str (gS 2 a8.2.2 (Nat.add ((0+Int.toNat (a3.1.1%(a3.1.2.2-(1:Int))))*2) 0) 0))) (Nat.add ((0+Int.toNat (a3.1.1%(a3.1.2.2-(1:Int))))*2) 0)) (need bot (GndR (qR0 2 (qR0 2 a8.2.2 (Nat.add ((0+Int.toNat (a3.1.1%(a3.1.2.2-1)+1))*2) 0) (V.str (gS 2 a8.2.2 (Nat.add ((0+Int.toNat (a3.1.1%(a3.1.2.2-1)))*2) 0) 0))) (Nat.add ((0+Int.toNat (a3.1.1%(a3.1.2.2-1)))*2) 0) (V.str [122,122]))) (PR.bnd bot (X.4 (.call 6 [(.sl 0 (a3.2.1) 0 (a3.2.2.1) none)] (hp [.row (a3.2.1) 25 2 0 none (qR0 2 (qR0 2 a8.2.2 (Nat.add ((0+Int.toNat (a3.1.1%(a3.1.2.2-1)+1))*2) 0) (V.str (gS 2 a8.2.2 (Nat.add ((0+Int.toNat (a3.1.1%(a3.1.2.2-1)))*2) 0) 0))) (Nat.add ((0+Int.toNat (a3.1.1%(a3.1.2.2-1)))*2) 0) (V.str [122,122]))]))) (fun a24 =>
 need bot (GndR (a24.2.2)) (need bot (GndR (a24.2.2)) (PR.bnd bot (X.5 (.call 7 [(.sl 0 (a3.2.1) 0 (a3.2.2.1) none),(.int .i64 5)] (hp [.row (a24.2.1) 25 2 0 none (a24.2.2)]))) (fun a27 =>
 need bot (GndR (a27.2.2)) (bif decide (a3.1.2.2≤50) then (k (.ret (.bool false) Heap.empty))
 else (bif decide ((↑(List.length a8.1):Int)=0) then (k (.ret (.bool false) Heap.empty))
 else (bif decide ((↑(List.length a24.1):Int)=1) then (nX bot 0 (List.length a24.1) (need bot (ldC PP 33 3 (a24.1) 1) (bif decide (gI 3 a24.1 1 0=42) then (nX bot 0 (List.length a24.1) (need bot (ldC PP 9 3 (a24.1) 0) (bif decide (gS 3 a24.1 0 0=[]) then (bif decide ((↑(List.length a27.1.1):Int)=0) then (bif decide ((↑(List.length a27.1.2):Int)=1) then (k (.ret (.bool true) Heap.empty))
 else (k (.ret (.bool false) Heap.empty)))
 else (k (.ret (.bool false) Heap.empty)))
 else (k (.ret (.bool false) Heap.empty)))))
 else (k (.ret (.bool false) Heap.empty)))))
 else (k (.ret (.bool false) Heap.empty))))))
 (fun _=>bot))))
 (fun _=>bot)))))))))))))))))
 (fun _=>bot))))
 (fun _=>bot)))
 (fun e3=>k (qN e3))))):=by kernel_rfl
theorem GG0 (X:MoX) (ih:Task→Res) {β:Type} (bot:β) (k:Res→β) (i m:Int) (same:Bool) (v n:Nat) (es:List V) (j:Int):evN PP EP CP (ye0 X) ih bot (.code (.loop (lpB PP 3 0)) ((base 3 110).on [(1,.int .u8 i),(2,.bool same),(7,.int .i64 m),(8,.sl 0 v 0 n none),(9,.int .i64 j)]) (hp [.row v 25 2 0 none es])) k =
 bif decide (j<m) then (need bot (((0:Int)≤(j))∧(((0:Int)<10)∧((-9223372036854775808≤(j/10))∧((j/10)≤9223372036854775807)))) (need bot (((0:Int)≤(j/10))∧((0:Int)<10)) (need bot (((0:Int)≤(j/10%10))∧((j/10%10)≤255)) (need bot (((0:Int)≤(48+j/10%10))∧((48+j/10%10)≤255)) (need bot (((0:Int)≤(j))∧((0:Int)<10)) (need bot (((0:Int)≤(j%10))∧((j%10)≤255)) (need bot (((0:Int)≤(48+j%10))∧((48+j%10)≤255)) (need bot (2≤1099511627776) (need bot (((v)=(v))∧(([V.agg [V.str ([UInt8.ofNat (Int.toNat ((48:Int)+j/(10:Int)%(10:Int)))]++[UInt8.ofNat (Int.toNat ((48:Int)+j%(10:Int)))]),V.str [(46:UInt8)]]]≠[])∧(((n)=(List.length es))∧((0≤(n))∧(((n+List.length [V.agg [V.str ([UInt8.ofNat (Int.toNat (48+j/10%10))]++[UInt8.ofNat (Int.toNat (48+j%10))]),V.str [46]]])≤1099511627776)∧(((n+List.length [V.agg [V.str ([UInt8.ofNat (Int.toNat (48+j/10%10))]++[UInt8.ofNat (Int.toNat (48+j%10))]),V.str [46]]])*32)≤1099511627776)))))) (nI bot (j+1) (need bot (GndR (es++[V.agg [V.str ([UInt8.ofNat (Int.toNat (48+j/10%10))]++[UInt8.ofNat (Int.toNat (48+j%10))]),V.str [46]]])) (PR.bnd bot (X.3 (.code (.loop (lpB PP 3 0)) ((base 3 110).on [(1,(.int .u8 (i))),(2,(.bool (same))),(7,(.int .i64 (m))),(8,(.sl 0 (Nat.succ v) 0 (n+List.length [V.agg [V.str ([UInt8.ofNat (Int.toNat (48+j/10%10))]++[UInt8.ofNat (Int.toNat (48+j%10))]),V.str [46]]]) none)),(9,(.int .i64 (j+1)))]) (hp [.row (Nat.succ v) 25 2 0 none (es++[V.agg [V.str ([UInt8.ofNat (Int.toNat (48+j/10%10))]++[UInt8.ofNat (Int.toNat (48+j%10))]),V.str [46]]])]))) (fun a12 =>
 need bot (GndR (a12.2.2.2)) (k (.code (.exit 0) ((base 3 110).on [(1,(.int .u8 (a12.1.1))),(2,(.bool (a12.1.2.1))),(7,(.int .i64 (a12.1.2.2))),(8,(.sl 0 (a12.2.1) 0 (a12.2.2.1) none))]) (hp [.row (a12.2.1) 25 2 0 none (a12.2.2.2)]))))
 (fun e12=>k (qN e12))))))))))))))
 else (need bot (GndR (es)) (need bot (GndR (es)) (k (.code (.exit 0) ((base 3 110).on [(1,(.int .u8 (i))),(2,(.bool (same))),(7,(.int .i64 (m))),(8,(.sl 0 (v) 0 (n) none))]) (hp [.row (v) 25 2 0 none (es)]))))):=by kernel_rfl
theorem Qc1 (X:MoX) (ih:Task→Res) {β:Type} (bot:β) (k:Res→β) (i m:Int) (same:Bool):evN PP EP CP (ye0 X) ih bot (.code (.loop (lpB PP 3 0)) ((base 3 110).on [(1,.int .u8 i),(2,.bool same),(7,.int .i64 m),(8,.nils),(9,.int .i64 0)]) Heap.empty) k =
 bif decide (0<m) then (need bot (((0:Int)≤0)∧(((0:Int)<10)∧((-9223372036854775808≤0)∧((0:Int)≤9223372036854775807)))) (need bot (((0:Int)≤0)∧((0:Int)<10)) (need bot (((0:Int)≤0)∧((0:Int)≤255)) (need bot (((0:Int)≤48)∧((48:Int)≤255)) (need bot (((0:Int)≤0)∧((0:Int)<10)) (need bot (((0:Int)≤0)∧((0:Int)≤255)) (need bot (((0:Int)≤48)∧((48:Int)≤255)) (need bot (2≤1099511627776) (need bot (([V.agg [V.str [(48:UInt8),(48:UInt8)],V.str [(46:UInt8)]]]≠[])∧((1≤1099511627776)∧(32≤1099511627776))) (need bot ((-9223372036854775808≤1)∧((1:Int)≤9223372036854775807)) (need bot (GndR [(.agg [(.str [48,48]),(.str [46])])]) (PR.bnd bot (X.3 (.code (.loop (lpB PP 3 0)) ((base 3 110).on [(1,(.int .u8 (i))),(2,(.bool (same))),(7,(.int .i64 (m))),(8,(.sl 0 0 0 1 none)),(9,(.int .i64 1))]) (hp [.row 0 25 2 0 none [(.agg [(.str [48,48]),(.str [46])])]]))) (fun a12 =>
 need bot (GndR (a12.2.2.2)) (k (.code (.exit 0) ((base 3 110).on [(1,(.int .u8 (a12.1.1))),(2,(.bool (a12.1.2.1))),(7,(.int .i64 (a12.1.2.2))),(8,(.sl 0 (a12.2.1) 0 (a12.2.2.1) none))]) (hp [.row (a12.2.1) 25 2 0 none (a12.2.2.2)]))))
 (fun e12=>k (qN e12))))))))))))))
 else (k (.code (.exit 0) ((base 3 110).on [(1,(.int .u8 (i))),(2,(.bool (same))),(7,(.int .i64 (m))),(8,.nils)]) Heap.empty)):=by kernel_rfl
theorem Yz0 (X:MoX) (ih:Task→Res) {β:Type} (bot:β) (k:Res→β) (es:List V) (i:Int):evN PP EP CP (ye0 X) ih bot (.code (.loop (lpB PP 5 0)) ((base 5 29).on [(0,.osl 2 es),(5,.int .i64 es.length),(6,.int .i64 i)]) Heap.empty) k =
 bif decide (i<(↑(List.length es):Int)) then (jn (nI bot (i+1) (PR.bnd bot (X.1 (.code (.loop (lpB PP 5 0)) ((base 5 29).on [(0,(.osl 2 (es))),(5,(.int .i64 ((↑(List.length es):Int)))),(6,(.int .i64 (i+1)))]) Heap.empty)) (fun a9 =>
 bif a9.1 then (k (.code (.exit 0) ((base 5 29).on [(0,(.osl 2 (a9.2)))]) Heap.empty))
 else (k (.code .ret ((base 5 29).on [(0,(.osl 2 (a9.2))),(2,(.bool false))]) Heap.empty)))
 (fun e9=>k (qN e9))))
 (fun j1:β=>bif decide (0<i) then (nX bot (i) (List.length es) (need bot (ldX PP 9 2 (es) (Int.toNat i*2)) (nI bot (i-1) (nX bot (i-1) (List.length es) (need bot (ldX PP 9 2 (es) (Int.toNat (i-1)*2)) (bif !qU0 (gS 2 es (Nat.add (Int.toNat (i-1)*2) 0) 0) (gS 2 es (Nat.add (Int.toNat i*2) 0) 0) then (k (.code .ret ((base 5 29).on [(0,(.osl 2 (es))),(2,(.bool false))]) Heap.empty))
 else (j1)))))))
 else (j1)))
 else (k (.code (.exit 0) ((base 5 29).on [(0,(.osl 2 (es)))]) Heap.empty)):=by kernel_rfl
theorem GH0 (X:MoX) (ih:Task→Res) {β:Type} (bot:β) (k:Res→β) (es:List V):evN PP EP CP (ye0 X) ih bot (.call 5 [.osl 2 es] Heap.empty) k =
 PR.bnd bot (X.1 (.code (.loop (lpB PP 5 0)) ((base 5 29).on [(0,(.osl 2 (es))),(5,(.int .i64 ((↑(List.length es):Int)))),(6,(.int .i64 0))]) Heap.empty)) (fun a0 =>
 bif a0.1 then (bif decide ((↑(List.length a0.2):Int)≤50) then (k (.ret (.bool true) Heap.empty))
 else (k (.ret (.bool false) Heap.empty)))
 else (k (.ret (.bool false) Heap.empty)))
 (fun e0=>k (qN e0)):=by kernel_rfl
theorem jZ1 (X:MoX) (ih:Task→Res) {β:Type} (bot:β) (k:Res→β) (v n:Nat) (es:List V):evN PP EP CP (ye0 X) ih bot (.call 6 [.sl 0 v 0 n none] (hp [.row v 25 2 0 none es])) k =
 nG bot v (n) es (PR.bnd bot (X.7 (.call 5 [(.osl 2 (es))] Heap.empty)) (fun a1 =>
 bif a1 then (need bot (GndR (es)) (PR.bnd bot (X.2 (.call 9 [(.sl 0 (v) 0 (n) none)] (hp [.row (v) 25 2 0 none (es)]))) (fun a4 =>
 bot)
 (fun _=>bot)))
 else (need bot (GndR (es)) (k (.ret (.osl 3 [(.agg [(.str []),(.int .u16 42),(.int .i64 0)])]) (hp [.row (v) 25 2 0 none (es)])))))
 (fun _=>bot)):=by kernel_rfl
theorem Qa1 (X:MoX) (ih:Task→Res) {β:Type} (bot:β) (k:Res→β) (v n:Nat) (es:List V):evN PP EP CP (ye0 X) ih bot (.call 7 [.sl 0 v 0 n none,.int .i64 5] (hp [.row v 25 2 0 none es])) k =
 need bot (GndR (es)) (PR.bnd bot (X.4 (.call 6 [(.sl 0 (v) 0 (n) none)] (hp [.row (v) 25 2 0 none (es)]))) (fun a1 =>
 need bot (GndR (a1.2.2)) (bif decide (0<(↑(List.length a1.1):Int)) then (need bot (GndR (a1.2.2)) (k (.ret (.tup [(.osl 2 []),(.osl 3 (a1.1))]) (hp [.row (a1.2.1) 25 2 0 none (a1.2.2)]))))
 else (PR.bnd bot (X.2 (.code (.loop (lpB PP 7 0)) ((base 7 37).on [(0,(.sl 0 (v) 0 (n) none)),(1,(.int .i64 5)),(7,.nils),(16,(.sl 0 (v) 0 (n) none)),(17,(.int .i64 ((↑n:Int)))),(18,(.int .i64 0))]) (hp [.row (a1.2.1) 25 2 0 none (a1.2.2)]))) (fun a4 =>
 k (.panic (.int .i64 (a4)) Heap.empty))
 (fun e4=>k (qN e4)))))
 (fun _=>bot)):=by kernel_rfl
/-- FROM SOME NUMBER ON. -/
def Evt (p:Nat→Prop):Prop:=∃ n0,∀ n,n0≤n→p n
theorem Evt.and {p q:Nat→Prop} (h1:Evt p) (h2:Evt q):Evt fun n=>p n∧q n:=by
 obtain ⟨a,h1⟩:=h1
 obtain ⟨b,h2⟩:=h2
 exact ⟨max a b,fun n hn=>⟨h1 n (by omega),h2 n (by omega)⟩⟩
theorem Evt.mono {p q:Nat→Prop} (h1:Evt p) (h:∀ n,p n→q n):Evt q:=by
 obtain ⟨a,h1⟩:=h1
 exact ⟨a,fun n hn=>h n (h1 n hn)⟩
theorem Evt.of {p:Nat→Prop} (h:∀ n,p n):Evt p:=⟨0,fun n _=>h n⟩
def Rn (e:Nat→Option Res) (Q:Res→Prop):Prop:=∃ r,Q r∧Evt fun n=>e n=some r
theorem Rn.ret {Q:Res→Prop} {r:Res} (h:Q r):Rn (fun _=>some r) Q:=⟨r,h,.of fun _=>rfl⟩
theorem Rn.need {φ:Prop} {e:Nat→Option Res} {Q:Res→Prop} (hφ:φ) (h:Rn e Q):Rn (fun n=>need none φ (e n)) Q:=by
 obtain ⟨r,hr,hE⟩:=h
 exact ⟨r,hr,hE.mono fun n h=>by show AM.need none φ (e n)=some r;unfold AM.need;rw [if_pos hφ];exact h⟩
theorem Rn.cond {c:Bool} {a b:Nat→Option Res} {Q:Res→Prop} (h1:c=true→Rn a Q) (h2:c=false→Rn b Q):Rn (fun n=>bif c then a n else b n) Q:=by
 cases c with
 | true=>exact h1 rfl
 | false=>exact h2 rfl
theorem Rn.dec {p:Prop} [Decidable p] {a b:Nat→Option Res} {Q:Res→Prop} (h1:p→Rn a Q) (h2:¬ p→Rn b Q):Rn (fun n=>bif decide p then a n else b n) Q :=
 .cond (fun h=>h1 (of_decide_eq_true h)) (fun h=>h2 (of_decide_eq_false h))
theorem Rn.bnd {α ε:Type} {x:Nat→PR α ε} {v:α} {f:α→Nat→Option Res} {g:ε→Nat→Option Res} {Q:Res→Prop} (hx:Evt fun n=>x n=.ok v) (hf:Rn (f v) Q):Rn (fun n=>PR.bnd none (x n) (fun a=>f a n) (fun e=>g e n)) Q:=by
 obtain ⟨r,hr,hE⟩:=hf
 exact ⟨r,hr,(hx.and hE).mono fun n ⟨h1,h2⟩=>by show PR.bnd none (x n) _ _=_;rw [show x n=_ from h1];exact h2⟩
theorem Rn.nI {a:Int} {e:Nat→Option Res} {Q:Res→Prop} (h:-9223372036854775808≤a∧a≤9223372036854775807) (h2:Rn e Q):Rn (fun n=>AM.nI none a (e n)) Q:=.need h h2
theorem Rn.nX {i:Int} {m:Nat} {e:Nat→Option Res} {Q:Res→Prop} (h:0≤i∧i<(m:Int)) (h2:Rn e Q):Rn (fun n=>AM.nX none i m (e n)) Q:=.need h h2
theorem Rn.nG {v m:Nat} {l:List V} {e:Nat→Option Res} {Q:Res→Prop} (h:m=l.length) (h1:GndR l) (h2:Rn e Q):Rn (fun n=>AM.nG none v m l (e n)) Q:=.need ⟨rfl,rfl,h,h1⟩ h2
noncomputable def frO:Task→Fr
 | .code _ fr _=>fr
 | _=>base 0 0
theorem Rn.of {e e':Nat→Option Res} {Q:Res→Prop} (h:∀ n,e n=e' n) (h2:Rn e' Q):Rn e Q:=by
 rw [show e=e' from funext h];exact h2
def Tk (t:Task) (r:Res):Prop:=Evt fun n=>rn PP EP CP n t=r
theorem Xq0 {α ε:Type} {R:α→Res} {Q:ε→Res} {r:Res} {e:Ent} (he:ent (exR R Q r) R Q=e):e.x=.no∨e.res=r:=by
 subst he
 exact GM0 (fun _=>true) (fun _=>true) (fun _ _=>R) Q r
theorem GE0 {α ε:Type} {s:α→Bool} {R:Bool→α→Res} {Q:ε→Res} {r:Res} {e:Ent} (he:ent2 (exR (fun a=>R (s a) a) Q r) s R Q=e):e.x=.no∨e.res=r:=by
 subst he
 exact GM0 s (fun _=>true) (fun b _=>R b) Q r
theorem Qj1 {α ε:Type} {R:α→Res} {Q:ε→Res} (a:α):∃ a',R a'=R a∧exR R Q (R a)=.ok a':=by
 unfold exR
 have h1:∃ b,R a=R b:=⟨a,rfl⟩
 rw [dif_pos h1]
 exact ⟨_,(Classical.choose_spec h1).symm,rfl⟩
noncomputable def XO (n:Nat):MoX where
 So:=fun t=>exR (fun a=>rSo (frO t) a.1 a) qN (rn PP EP CP n t)
 Pa:=fun t=>match t with
  | .call _ _ _=>exR rPa qN (rn PP EP CP n t)
  | t=>exR (rPl (frO t)) qN (rn PP EP CP n t)
 Lw:=fun t=>exR (rLw (frO t)) qN (rn PP EP CP n t)
 Dg:=fun t=>exR rDg qN (rn PP EP CP n t)
 Fm:=fun t=>exR rFm qN (rn PP EP CP n t)
 I:=fun t=>exR rI qN (rn PP EP CP n t)
 O:=fun t=>exR rO qN (rn PP EP CP n t)
 W:=fun t=>exR rW qN (rn PP EP CP n t)
theorem tblXO (n:Nat):Ze0 (rn PP EP CP n) (ye0 (XO n)):=by
 intro t e he
 unfold ye0 at he
 split at he
 ·unfold tbMoK at he
  split at he <;> first | (cases he;done) | exact Xq0 (Option.some.inj he) | exact GE0 (Option.some.inj he)
 ·rename_i c fr h
  split at he
  ·unfold tbMoL at he
   split at he <;> first | (cases he;done) | exact Xq0 (R:=rLw fr) (Option.some.inj he) | exact GE0 (R:=rSo fr) (Option.some.inj he) | exact Xq0 (R:=rPl fr) (Option.some.inj he)
  ·cases he
 ·cases he
def OkO {α ε:Type} (K:MoX→PR α ε) (P:α→Prop):Prop:=∃ a,P a∧Evt fun n=>K (XO n)=.ok a
theorem Rn.bndO {α ε:Type} {K:MoX→PR α ε} {P:α→Prop} {f:α→Nat→Option Res} {g:ε→Nat→Option Res} {Q:Res→Prop} (h:OkO K P) (hf:∀ a,P a→Rn (f a) Q):Rn (fun n=>PR.bnd none (K (XO n)) (fun a=>f a n) (fun e=>g e n)) Q:=by
 obtain ⟨a,hP,hE⟩:=h
 exact .bnd hE (hf a hP)
theorem Rn.got {α ε:Type} {K:MoX→PR α ε} {v:α} {f:α→Nat→Option Res} {g:ε→Nat→Option Res} {Q:Res→Prop} (h:OkO K fun a=>a=v) (hf:Rn (f v) Q):Rn (fun n=>PR.bnd none (K (XO n)) (fun a=>f a n) (fun e=>g e n)) Q:=Rn.bndO h (fun a e=>by subst e;exact hf)
theorem Tk.byO {t:Task} {Q:Res→Prop} (h:Rn (fun n=>evN PP EP CP (ye0 (XO n)) (rn PP EP CP n) none t some) Q):∃ r,Q r∧Tk t r:=by
 obtain ⟨r,hr,a,hE⟩:=h
 refine ⟨r,hr,a+1,fun n hn=>?_⟩
 obtain ⟨n,rfl⟩:∃ m,n=m+1:=⟨n-1,by omega⟩
 have h1:=evN_ok (bot:=(none:Option Res)) (tblXO n) t some
 have h2:evN PP EP CP (ye0 (XO n)) (rn PP EP CP n) none t some=some r:=hE n (by omega)
 rw [h2] at h1
 rcases h1 with h1 | h1
 ·cases h1
 ·exact (Option.some.inj h1).symm
theorem OkO.nrm {α ε:Type} {K:MoX→PR α ε} {R:α→Res} {Q:ε→Res} {L:Res→α} {N:α→α} {t:Task} {P:α→Prop} (hK:∀ n,K (XO n)=exR R Q (rn PP EP CP n t)) (hL:∀ a,L (R a)=N a) (hN:∀ a,P (N a)→P a) (h:∃ r,(∃ a,r=R a∧P (N a))∧Tk t r):OkO K P:=by
 obtain ⟨r,⟨a,rfl,hP⟩,hT⟩:=h
 obtain ⟨a',h1,h2⟩:=Qj1 (R:=R) (Q:=Q) a
 refine ⟨a',hN _ ?_,hT.mono fun n h=>by show K (XO n)=_;rw [hK,show rn PP EP CP n t=R a from h,h2]⟩
 rw [← hL,h1,hL]
 exact hP
theorem OkO.tk {α ε:Type} {K:MoX→PR α ε} {R:α→Res} {Q:ε→Res} {L:Res→α} {t:Task} {P:α→Prop} (hK:∀ n,K (XO n)=exR R Q (rn PP EP CP n t)) (hL:∀ a,L (R a)=a) (h:∃ r,(∃ a,r=R a∧P a)∧Tk t r):OkO K P :=
 .nrm (N:=fun a=>a) hK hL (fun _ h=>h) h
theorem Rn.decT {p:Prop} [Decidable p] {a b:Nat→Option Res} {Q:Res→Prop} (h:p) (ha:Rn a Q):Rn (fun n=>bif decide p then a n else b n) Q:=.dec (fun _=>ha) (fun e=>absurd h e)
theorem Rn.decF {p:Prop} [Decidable p] {a b:Nat→Option Res} {Q:Res→Prop} (h:¬ p) (hb:Rn b Q):Rn (fun n=>bif decide p then a n else b n) Q:=.dec (fun e=>absurd e h) (fun _=>hb)
theorem Rn.jo {s:Nat→Option Res} {F:Option Res→Nat→Option Res} {Q:Res→Prop} (h:Rn (fun n=>F (s n) n) Q):Rn (fun n=>jn (s n) (fun j=>F j n)) Q:=h
theorem Rn.cf {a b:Nat→Option Res} {Q:Res→Prop} (h:Rn b Q):Rn (fun n=>bif false then a n else b n) Q:=h
theorem Rn.ct {a b:Nat→Option Res} {Q:Res→Prop} (h:Rn a Q):Rn (fun n=>bif true then a n else b n) Q:=h
/-- FILES as data. -/
theorem jq1 {sz:Nat} {es:List V} {i j q:Nat} {e:V} (hz:j<sz) (he:es[i]?=some e):Qk0 sz es (i*sz+j) q=e.cells.getD (j+q) undef:=by
 have h1:(i*sz+j)/sz=i:=by rw [Nat.add_comm,Nat.add_mul_div_right _ _ (by omega),Nat.div_eq_of_lt hz,Nat.zero_add]
 have h2:(i*sz+j)%sz=j:=by rw [Nat.add_comm,Nat.add_mul_mod_self_right,Nat.mod_eq_of_lt hz]
 unfold Qk0
 rw [h1,h2,show es.getD i undef=e by rw [List.getD_eq_getElem?_getD,he];rfl]
theorem jr1 {sz:Nat} {es:List V} {i j k:Nat} {e:V} (hz:2≤sz) (hj:j<sz) (hk:j+k≤e.cells.length) (he:es[i]?=some e):yZ0 sz es (i*sz+j) k=some ((e.cells.drop j).take k):=by
 have h1:(i*sz+j)/sz=i:=by rw [Nat.add_comm,Nat.add_mul_div_right _ _ (by omega),Nat.div_eq_of_lt hj,Nat.zero_add]
 have h2:(i*sz+j)%sz=j:=by rw [Nat.add_comm,Nat.add_mul_mod_self_right,Nat.mod_eq_of_lt hj]
 unfold yZ0
 rw [show Nat.beq sz 1=false by
  cases hb:Nat.beq sz 1 with
  | false=>rfl
  | true=>have:=Nat.eq_of_beq_eq_true hb;omega]
 simp only [cond_false]
 rw [show Nat.div (i*sz+j) sz=i from h1,show Nat.mod (i*sz+j) sz=j from h2,List.at_eq,he]
 simp only [List.len_eq,List.takeN_eq,List.dropN_eq]
 rw [show Nat.ble (Nat.add j k) e.cells.length=true by rw [Nat.ble_eq];exact hk]
 rfl
def qp0 (j:Nat):List UInt8:=[UInt8.ofNat (48+j/10%10),UInt8.ofNat (48+j%10)]
def qe0 (p:List UInt8):V:=.agg [.str p,.str [46]]
def qa0 (k:Nat):List V:=(List.range k).map fun j=>qe0 (qp0 j)
section f
variable {es:List V} {i:Nat} {p:List UInt8} (h:es[i]?=some (qe0 p))
 include h
theorem f_g:gS 2 es (i*2) 0=p:=by unfold gS;rw [show i*2=i*2+0 from rfl,jq1 (by omega) h];rfl
theorem jL0:ldX PP 9 2 es (i*2):=by
 have g1:=f_g h
 have c1:yZ0 2 es (i*2+0) 1=some [.str p]:=by rw [jr1 (by omega) (by omega) (show 0+1≤2 by omega) h];rfl
 have he:zY0 PP 9 2 es (i*2)=some (.str (gS 2 es (i*2) 0)):=by kernel_rfl
 unfold ldX;rw [he,g1]
 change Jh0 PP 9 (yZ0 2 es (i*2+0) 1)=_
 rw [c1];first | kernel_rfl | rfl
theorem f_set (q:List UInt8):qR0 2 es (i*2) (.str q)=es.set i (qe0 q):=by
 unfold qR0
 rw [Nat.mul_div_cancel _ (by omega:0<2),Nat.mul_mod_left,show es.getD i undef=qe0 p by rw [List.getD_eq_getElem?_getD,h];rfl,List.setN_eq]
 rfl
theorem f_st (q:List UInt8):stX PP 9 (.str q) 0 2 es (i*2):=by
 have hi:=qc0 h
 refine ⟨rfl,by kernel_rfl,Nat.zero_le _,by decide,by rw [Nat.mul_div_cancel _ (by omega:0<2)];exact hi,?_⟩
 rw [Nat.mul_div_cancel _ (by omega:0<2),Nat.mul_mod_left,show es.getD i undef=qe0 p by rw [List.getD_eq_getElem?_getD,h];rfl]
 intro e;cases e
end f
theorem zA0 (ps:List (List UInt8)):GndR (ps.map qe0):=fun e he=>by
 obtain ⟨x,_,rfl⟩:=List.mem_map.1 he
 rfl
theorem Qs1 (k:Nat):qa0 k=((List.range k).map qp0).map qe0:=by unfold qa0;rw [List.map_map];rfl
/-- SORTED, CHECK, FORMAT. -/
def wB:V→Bool
 | .bool b=>b
 | _=>false
def wI:V→Int
 | .int _ a=>a
 | _=>0
def wE:V→List V
 | .osl _ es=>es
 | _=>[]
noncomputable def nO:Res→Bool
 | .ret v _=>wB v
 | _=>false
noncomputable def slO:Res→Nat→V
 | .code _ fr _,i=>fr.tm.get undef i
 | _,_=>undef
noncomputable def nSo (r:Res):Bool×List V:=(match r with
 | .code .ret _ _=>false
 | _=>true,wE (slO r 0))
theorem OkO.bool {f:FuncId} {es:List V} {v:Bool} (h:∃ r,r=.ret (.bool v) Heap.empty∧Tk (.call f es Heap.empty) r):OkO (fun X=>X.O (.call f es Heap.empty)) fun a=>a=v:=by
 obtain ⟨r,rfl,h⟩:=h
 exact .tk (R:=rO) (L:=nO) (fun _=>rfl) (fun _=>rfl) ⟨_,⟨v,rfl,rfl⟩,h⟩
section s
variable (ps:List (List UInt8))
noncomputable abbrev frS (es:List V) (i:Int):Fr:=(base 5 29).on [(0,.osl 2 es),(5,.int .i64 es.length),(6,.int .i64 i)]
theorem zr0 {t:Nat} (h:t<ps.length):(ps.map qe0)[t]?=some (qe0 ps[t]):=by rw [List.getElem?_map,List.getElem?_eq_getElem h];rfl
theorem Xn1 (hr:∀ t (h:t<ps.length),0<t→qU0 (ps[t-1]'(by omega)) ps[t]=true) (hl:ps.length≤1000000):∀ (d i:Nat),ps.length-i≤d→OkO (fun X=>X.So (.code (.loop (lpB PP 5 0)) (frS (ps.map qe0) i) Heap.empty)) fun a=>a=(true,ps.map qe0):=by
 intro d
 have hln:(ps.map qe0).length=ps.length:=List.length_map ..
 induction d with
 | zero =>
  intro i hd
  refine .tk (R:=fun a=>rSo (base 5 29) a.1 a) (L:=nSo) (fun _=>rfl) (fun ⟨b,l⟩=>by cases b <;> kernel_rfl) (Tk.byO (.of (fun m=>Yz0 (XO m) _ none some (ps.map qe0) i) ?_))
  exact Rn.decF (by omega) (Rn.ret ⟨(true,ps.map qe0),rfl,rfl⟩)
 | succ d IH =>
  intro i hd
  refine .tk (R:=fun a=>rSo (base 5 29) a.1 a) (L:=nSo) (fun _=>rfl) (fun ⟨b,l⟩=>by cases b <;> kernel_rfl) (Tk.byO (.of (fun m=>Yz0 (XO m) _ none some (ps.map qe0) i) ?_))
  refine Rn.dec (fun hlt=>Rn.jo ?_) (fun _=>Rn.ret ⟨(true,ps.map qe0),rfl,rfl⟩)
  have hi:i<ps.length:=by omega
  have nx:=IH (i+1) (by omega)
  have go:Rn (fun m=>nI none ((i:Int)+1) (PR.bnd none ((XO m).So (.code (.loop (lpB PP 5 0)) (frS (ps.map qe0) ((i:Int)+1)) Heap.empty)) (fun a9=>bif a9.1 then some (.code (.exit 0) ((base 5 29).on [(0,.osl 2 a9.2)]) Heap.empty) else some (.code .ret ((base 5 29).on [(0,.osl 2 a9.2),(2,.bool false)]) Heap.empty)) (fun e9=>some (qN e9)))) (fun r=>∃ a:Bool×List V,r=rSo (base 5 29) a.1 a∧a=(true,ps.map qe0)) :=
   Rn.nI (by omega) (Rn.got nx (Rn.ct (Rn.ret ⟨(true,ps.map qe0),rfl,rfl⟩)))
  refine Rn.dec (fun h0=>?_) (fun _=>go)
  have h0:0<i:=by omega
  have e1:((i:Int)-1)=((i-1:Nat):Int):=by omega
  have g1:=f_g (zr0 ps hi)
  have g0:=f_g (zr0 ps (t:=i-1) (by omega))
  have l1:=jL0 (zr0 ps hi)
  have l0:=jL0 (zr0 ps (t:=i-1) (by omega))
  have hb:=hr i hi h0
  simp only [e1,Int.toNat_natCast,Nat.add_eq,Nat.add_zero,g0,g1,hb]
  exact Rn.nX (by omega) (Rn.need l1 (Rn.nI (by omega) (Rn.nX (by omega) (Rn.need l0 (Rn.cf go)))))
theorem Xm1 (t:Nat) (ht:t<ps.length) (t0:0<t) (hb:qU0 (ps[t-1]'(by omega)) ps[t]=false) (hl:ps.length≤1000000):∀ (d i:Nat),t-i≤d→i≤t→OkO (fun X=>X.So (.code (.loop (lpB PP 5 0)) (frS (ps.map qe0) i) Heap.empty)) fun a=>a.1=false:=by
 intro d
 have hln:(ps.map qe0).length=ps.length:=List.length_map ..
 have stop:∀ i:Nat,i=t→OkO (fun X=>X.So (.code (.loop (lpB PP 5 0)) (frS (ps.map qe0) i) Heap.empty)) fun a=>a.1=false:=fun i e=>by
  subst e
  refine .tk (R:=fun a=>rSo (base 5 29) a.1 a) (L:=nSo) (fun _=>rfl) (fun ⟨b,l⟩=>by cases b <;> kernel_rfl) (Tk.byO (.of (fun m=>Yz0 (XO m) _ none some (ps.map qe0) i) ?_))
  refine Rn.decT (by omega) (Rn.jo (Rn.decT (by omega) ?_))
  have e1:((i:Int)-1)=((i-1:Nat):Int):=by omega
  have g1:=f_g (zr0 ps ht)
  have g0:=f_g (zr0 ps (t:=i-1) (by omega))
  have l1:=jL0 (zr0 ps ht)
  have l0:=jL0 (zr0 ps (t:=i-1) (by omega))
  simp only [e1,Int.toNat_natCast,Nat.add_eq,Nat.add_zero,g0,g1,hb]
  exact Rn.nX (by omega) (Rn.need l1 (Rn.nI (by omega) (Rn.nX (by omega) (Rn.need l0 (Rn.ct (Rn.ret ⟨(false,ps.map qe0),rfl,rfl⟩))))))
 induction d with
 | zero=>exact fun i hd hi=>stop i (by omega)
 | succ d IH =>
  intro i hd hi
  rcases Nat.lt_or_ge i t with h | h
  ·refine .tk (R:=fun a=>rSo (base 5 29) a.1 a) (L:=nSo) (fun _=>rfl) (fun ⟨b,l⟩=>by cases b <;> kernel_rfl) (Tk.byO (.of (fun m=>Yz0 (XO m) _ none some (ps.map qe0) i) ?_))
   refine Rn.decT (by omega) (Rn.jo ?_)
   have nx:=IH (i+1) (by omega) (by omega)
   have go:Rn (fun m=>nI none ((i:Int)+1) (PR.bnd none ((XO m).So (.code (.loop (lpB PP 5 0)) (frS (ps.map qe0) ((i:Int)+1)) Heap.empty)) (fun a9=>bif a9.1 then some (.code (.exit 0) ((base 5 29).on [(0,.osl 2 a9.2)]) Heap.empty) else some (.code .ret ((base 5 29).on [(0,.osl 2 a9.2),(2,.bool false)]) Heap.empty)) (fun e9=>some (qN e9)))) (fun r=>∃ a:Bool×List V,r=rSo (base 5 29) a.1 a∧a.1=false) :=
    Rn.nI (by omega) (Rn.bndO nx (fun a ha=>by
     obtain ⟨b,l⟩:=a
     have ha:b=false:=ha
     subst ha
     exact Rn.cf (Rn.ret ⟨(false,l),rfl,rfl⟩)))
   refine Rn.dec (fun h0=>?_) (fun _=>go)
   have hi:i<ps.length:=by omega
   have e1:((i:Int)-1)=((i-1:Nat):Int):=by omega
   have g1:=f_g (zr0 ps hi)
   have g0:=f_g (zr0 ps (t:=i-1) (by omega))
   have l1:=jL0 (zr0 ps hi)
   have l0:=jL0 (zr0 ps (t:=i-1) (by omega))
   simp only [e1,Int.toNat_natCast,Nat.add_eq,Nat.add_zero,g0,g1]
   refine Rn.nX (by omega) (Rn.need l1 (Rn.nI (by omega) (Rn.nX (by omega) (Rn.need l0 ?_))))
   cases hbb:qU0 (ps[i-1]'(by omega)) ps[i] with
   | true=>exact Rn.cf go
   | false=>exact Rn.ct (Rn.ret ⟨(false,ps.map qe0),rfl,rfl⟩)
  ·exact stop i (by omega)
theorem zV1 (hr:∀ t (h:t<ps.length),0<t→qU0 (ps[t-1]'(by omega)) ps[t]=true) (hl:ps.length≤1000000):OkO (fun X=>X.O (.call 5 [.osl 2 (ps.map qe0)] Heap.empty)) fun a=>a=decide (ps.length≤50):=by
 refine .bool (Tk.byO (.of (fun m=>GH0 (XO m) _ none some (ps.map qe0)) ?_))
 refine Rn.got (Xn1 ps hr hl ps.length 0 (by omega)) (Rn.ct ?_)
 have hln:(ps.map qe0).length=ps.length:=List.length_map ..
 rcases Nat.lt_or_ge 50 ps.length with h | h
 ·exact Rn.decF (by show ¬ (((ps.map qe0).length:Int)≤50);omega) (Rn.ret (by rw [decide_eq_false (by omega)]))
 ·exact Rn.decT (by show (((ps.map qe0).length:Int)≤50);omega) (Rn.ret (by rw [decide_eq_true h]))
theorem zU1 (t:Nat) (ht:t<ps.length) (t0:0<t) (hb:qU0 (ps[t-1]'(by omega)) ps[t]=false) (hl:ps.length≤1000000):OkO (fun X=>X.O (.call 5 [.osl 2 (ps.map qe0)] Heap.empty)) fun a=>a=false:=by
 refine .bool (Tk.byO (.of (fun m=>GH0 (XO m) _ none some (ps.map qe0)) ?_))
 refine Rn.bndO (Xm1 ps t ht t0 hb hl t 0 (by omega) (by omega)) (fun a ha=>?_)
 obtain ⟨b,l⟩:=a
 have ha:b=false:=ha
 subst ha
 exact Rn.cf (Rn.ret rfl)
end s
abbrev dg42:List V:=[.agg [.str [],.int .u16 42,.int .i64 0]]
noncomputable def rowO:Heap→Nat×List V:=fun h=>match h.get 0 with
 | .row v _ _ _ _ es=>(v,es)
 | _=>(0,[])
noncomputable def nDg:Res→List V×Nat×List V
 | .ret v h=>(wE v,rowO h)
 | _=>([],0,[])
noncomputable def nFm:Res→(List V×List V)×Nat×List V
 | .ret v h=>(match v with
  | .tup [a,b]=>((wE a,wE b),rowO h)
  | _=>(([],[]),0,[]))
 | _=>(([],[]),0,[])
theorem Yq0 (ps:List (List UInt8)) (v:Nat) (hs:OkO (fun X=>X.O (.call 5 [.osl 2 (ps.map qe0)] Heap.empty)) fun a=>a=false):OkO (fun X=>X.Dg (.call 6 [.sl 0 v 0 ps.length none] (hp [rwF v (ps.map qe0)]))) fun a=>a=(dg42,v,ps.map qe0):=by
 refine .tk (R:=rDg) (L:=nDg) (fun _=>rfl) (fun _=>rfl) (Tk.byO (.of (fun m=>jZ1 (XO m) _ none some v ps.length (ps.map qe0)) ?_))
 exact Rn.nG (by rw [List.length_map]) (zA0 ps) (Rn.got hs (Rn.cf (Rn.need (zA0 ps) (Rn.ret ⟨(dg42,v,ps.map qe0),rfl,rfl⟩))))
theorem GW0 (ps:List (List UInt8)) (v:Nat) (hs:OkO (fun X=>X.O (.call 5 [.osl 2 (ps.map qe0)] Heap.empty)) fun a=>a=false):OkO (fun X=>X.Fm (.call 7 [.sl 0 v 0 ps.length none,.int .i64 5] (hp [rwF v (ps.map qe0)]))) fun a=>a=(([],dg42),v,ps.map qe0):=by
 refine .tk (R:=rFm) (L:=nFm) (fun _=>rfl) (fun _=>rfl) (Tk.byO (.of (fun m=>Qa1 (XO m) _ none some v ps.length (ps.map qe0)) ?_))
 exact Rn.need (zA0 ps) (Rn.got (Yq0 ps v hs) (Rn.need (zA0 ps) (Rn.decT (by show (0:Int)<1;omega) (Rn.need (zA0 ps) (Rn.ret ⟨(([],dg42),v,ps.map qe0),rfl,rfl⟩)))))
/-- THE LAW's FILES, AND WHAT IS WRONG WITH THEM. -/
theorem jd1:∀ (a:List UInt8),qU0 a a=false:=by
 intro a
 induction a with
 | nil=>rfl
 | cons x a IH =>
  show (bif Nat.blt x.toNat x.toNat then true else bif za0 x x then qU0 a a else false)=false
  rw [IH]
  have h:Nat.blt x.toNat x.toNat=false:=by
   rw [Bool.eq_false_iff];intro q;rw [Nat.blt_eq] at q;omega
  rw [h]
  cases za0 x x <;> rfl
theorem JE1:(List.range 62).all (fun t=>t == 0||qU0 (qp0 (t-1)) (qp0 t))=true:=by kernel_rfl
theorem rise (t:Nat) (h0:0<t) (h:t<62):qU0 (qp0 (t-1)) (qp0 t)=true:=by
 have:=List.all_eq_true.1 JE1 t (List.mem_range.2 h)
 rw [Bool.or_eq_true] at this
 rcases this with q | q
 ·rw [beq_iff_eq] at q;omega
 ·exact q
theorem zz_all:(List.range 62).all (fun t=>!qU0 [122,122] (qp0 t))=true:=by kernel_rfl
theorem zz (t:Nat) (h:t<62):qU0 [122,122] (qp0 t)=false:=by
 have:=List.all_eq_true.1 zz_all t (List.mem_range.2 h)
 simpa using this
def qy0 (k:Nat):List (List UInt8):=(List.range k).map qp0
theorem zp1 (k:Nat):(qy0 k).length=k:=by unfold qy0;rw [List.length_map,List.length_range]
theorem QU0 {k t:Nat} (h:t<(qy0 k).length):(qy0 k)[t]=qp0 t:=by simp [qy0]
theorem zN0 (k:Nat):qa0 k=(qy0 k).map qe0:=Qs1 k
theorem GO0 (k:Nat):qa0 (k+1)=qa0 k++[qe0 (qp0 k)]:=by unfold qa0;rw [List.range_succ,List.map_append];rfl
theorem pth_eq (j:Nat) (h:j<100):[UInt8.ofNat (Int.toNat ((48:Int)+(j:Int)/(10:Int)%(10:Int)))]++[UInt8.ofNat (Int.toNat ((48:Int)+(j:Int)%(10:Int)))]=qp0 j:=by
 have e1:Int.toNat ((48:Int)+(j:Int)/(10:Int)%(10:Int))=48+j/10%10:=by omega
 have e2:Int.toNat ((48:Int)+(j:Int)%(10:Int))=48+j%10:=by omega
 rw [e1,e2];rfl
noncomputable def nLw (r:Res):(Int×Bool×Int)×Nat×Nat×List V:=((wI (slO r 1),wB (slO r 2),wI (slO r 7)),(match slO r 8 with
 | .sl _ v _ n _=>(v,n,(match r with
  | .code _ _ h=>(rowO h).2
  | _=>[]))
 | _=>(0,0,[])))
noncomputable abbrev frW (i m:Int) (same:Bool) (l:V) (j:Int):Fr:=(base 3 110).on [(1,.int .u8 i),(2,.bool same),(7,.int .i64 m),(8,l),(9,.int .i64 j)]
theorem lawL (i:Int) (k:Nat) (hk:k≤61) (same:Bool):∀ (d j:Nat),k-j≤d→1≤j→j≤k→OkO (fun X=>X.Lw (.code (.loop (lpB PP 3 0)) (frW i k same (.sl 0 (j-1) 0 j none) j) (hp [rwF (j-1) (qa0 j)]))) fun a=>a=((i,same,(k:Int)),k-1,k,qa0 k):=by
 intro d
 have stop:∀ j:Nat,j=k→OkO (fun X=>X.Lw (.code (.loop (lpB PP 3 0)) (frW i k same (.sl 0 (j-1) 0 j none) j) (hp [rwF (j-1) (qa0 j)]))) fun a=>a=((i,same,(k:Int)),k-1,k,qa0 k):=fun j e=>by
  subst e
  refine .tk (R:=rLw (base 3 110)) (L:=nLw) (fun _=>rfl) (fun a=>by kernel_rfl) (Tk.byO (.of (fun m=>GG0 (XO m) _ none some i j same (j-1) j (qa0 j) j) ?_))
  have g:GndR (qa0 j):=by rw [zN0];exact zA0 _
  exact Rn.decF (by omega) (Rn.need g (Rn.need g (Rn.ret ⟨_,rfl,rfl⟩)))
 induction d with
 | zero=>exact fun j hd h1 h2=>stop j (by omega)
 | succ d IH =>
  intro j hd h1 h2
  rcases Nat.lt_or_ge j k with h | h
  ·have nx:=IH (j+1) (by omega) (by omega) (by omega)
   rw [GO0] at nx
   refine .tk (R:=rLw (base 3 110)) (L:=nLw) (fun _=>rfl) (fun a=>by kernel_rfl) (Tk.byO (.of (fun m=>GG0 (XO m) _ none some i k same (j-1) j (qa0 j) j) ?_))
   have hlen:(qa0 j).length=j:=by rw [zN0,List.length_map,zp1]
   have g:GndR (qa0 j++[qe0 (qp0 j)]):=by rw [← GO0,zN0];exact zA0 _
   have gk:GndR (qa0 k):=by rw [zN0];exact zA0 _
   have ev:Nat.succ (j-1)=j:=by omega
   simp only [pth_eq j (by omega),ev]
   refine Rn.decT (by omega) (Rn.need (by omega) (Rn.need (by omega) (Rn.need (by omega) (Rn.need (by omega) (Rn.need (by omega) (Rn.need (by omega) (Rn.need (by omega) (Rn.need (by omega) (Rn.need ⟨trivial,(by intro h;cases h),hlen.symm,Nat.zero_le _,by simp only [List.length_cons,List.length_nil];omega,by simp only [List.length_cons,List.length_nil];omega⟩ (Rn.nI (by omega) (Rn.need g (Rn.got nx (Rn.need gk (Rn.ret ⟨_,rfl,rfl⟩))))))))))))))
  ·exact stop j (by omega)
theorem lawL0 (i:Int) (k:Nat) (hk:k≤61) (h2:2≤k) (same:Bool):OkO (fun X=>X.Lw (.code (.loop (lpB PP 3 0)) (frW i k same .nils 0) Heap.empty)) fun a=>a=((i,same,(k:Int)),k-1,k,qa0 k):=by
 have nx:=lawL i k hk same k 1 (by omega) (by omega) (by omega)
 refine .tk (R:=rLw (base 3 110)) (L:=nLw) (fun _=>rfl) (fun a=>by kernel_rfl) (Tk.byO (.of (fun m=>Qc1 (XO m) _ none some i k same) ?_))
 have gk:GndR (qa0 k):=by rw [zN0];exact zA0 _
 exact Rn.decT (by omega) (Rn.need (by omega) (Rn.need (by omega) (Rn.need (by omega) (Rn.need (by omega) (Rn.need (by omega) (Rn.need (by omega) (Rn.need (by omega) (Rn.need (by omega) (Rn.need ⟨(by intro h;cases h),by omega,by omega⟩ (Rn.need (by omega) (Rn.need (zA0 [qp0 0]) (Rn.got nx (Rn.need gk (Rn.ret ⟨_,rfl,rfl⟩))))))))))))))
end Go.AM
