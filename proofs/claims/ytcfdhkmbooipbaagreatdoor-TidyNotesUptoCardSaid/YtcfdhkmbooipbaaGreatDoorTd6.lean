/-
  WHAT FUNCTIONS OF THE PROGRAM COME TO, told by the machine, and plain laws of it. No condition but what each theorem says of its arguments.
-/
import Derived.Test.YtcfdhkmbooipbaaGreatDoorProg
import Derived.Test.YtcfdhkmbooipbaaGreatDoorTd5
namespace Go.AM
open Go.Proofs
set_option maxRecDepth 100000
set_option maxHeartbeats 4000000
def Kz1:T Bool:=(.n (.n (.n (.n (.n (.n (.n (.n (.n .e true .e) false .e) false (.n .e true .e)) false (.n (.n (.n .e true .e) true .e) true .e)) false (.n (.n (.n (.n .e true .e) true .e) false (.n (.n .e true .e) true .e)) false (.n (.n .e true .e) true .e))) false (.n (.n (.n (.n (.n .e true .e) true .e) false .e) true (.n .e false (.n .e true .e))) false (.n (.n (.n .e true .e) true (.n (.n .e true .e) true .e)) true .e))) false (.n (.n (.n (.n (.n .e true .e) true (.n .e true .e)) false (.n (.n .e true .e) true (.n .e true .e))) false (.n (.n (.n .e true .e) false (.n (.n .e true .e) true .e)) false (.n (.n (.n .e true .e) true .e) true .e))) false (.n (.n (.n (.n .e true .e) false .e) false (.n .e true (.n .e true .e))) true (.n (.n (.n (.n .e true .e) true .e) false (.n .e true .e)) false (.n (.n (.n .e true .e) true .e) true (.n .e true .e)))))) false (.n (.n (.n (.n (.n (.n (.n .e true .e) true .e) false (.n (.n .e true .e) true .e)) false (.n (.n .e true .e) true (.n .e true .e))) false (.n (.n (.n .e true .e) true (.n (.n .e true .e) true .e)) false (.n (.n (.n .e true .e) false .e) false .e))) false (.n (.n (.n (.n (.n .e true .e) true .e) false (.n .e true .e)) false (.n (.n (.n .e true .e) true .e) true (.n .e true .e))) false (.n (.n (.n .e true .e) false (.n .e true .e)) true (.n (.n (.n .e true .e) true .e) false (.n .e true .e))))) false (.n (.n (.n (.n (.n .e true .e) true (.n .e true .e)) true (.n (.n (.n .e true .e) true .e) true (.n .e true .e))) false (.n (.n (.n (.n .e true .e) false .e) false (.n .e true .e)) true (.n (.n (.n .e true .e) true .e) false (.n .e true .e)))) false (.n (.n (.n (.n .e true .e) false .e) false (.n (.n .e true .e) true (.n .e true .e))) false (.n (.n (.n (.n .e true .e) true .e) false (.n .e true .e)) true (.n (.n .e true .e) true (.n .e true .e))))))) false (.n (.n (.n (.n (.n (.n (.n .e true .e) true (.n (.n .e true .e) true .e)) false (.n (.n .e true .e) false .e)) false (.n (.n (.n .e true .e) true (.n (.n .e true .e) false .e)) false .e)) false (.n (.n (.n (.n .e true .e) false (.n .e true .e)) false (.n (.n (.n .e true .e) true .e) true (.n .e true .e))) false (.n (.n (.n .e true .e) false (.n .e true .e)) true (.n .e false (.n .e true .e))))) false (.n (.n (.n (.n (.n (.n .e true .e) true .e) true (.n (.n .e true .e) true .e)) false (.n (.n .e true .e) false (.n .e true .e))) false (.n (.n (.n (.n .e true .e) false .e) false (.n .e true .e)) false (.n (.n (.n .e true .e) false .e) true .e))) false (.n (.n (.n (.n .e true .e) false .e) false (.n (.n (.n .e true .e) false .e) true .e)) true (.n (.n (.n (.n .e true .e) true .e) false (.n .e true .e)) true (.n (.n .e true .e) true (.n .e true .e)))))) false (.n (.n (.n (.n (.n (.n .e true .e) false (.n (.n .e true .e) true .e)) false (.n (.n .e true .e) true (.n .e true .e))) true (.n (.n (.n (.n .e true .e) false .e) false (.n (.n .e true .e) false .e)) false (.n (.n .e true .e) false .e))) false (.n (.n (.n (.n (.n .e true .e) true .e) true .e) false (.n (.n (.n .e true .e) false .e) true (.n .e true .e))) true (.n (.n (.n (.n .e true .e) true .e) false (.n .e true .e)) false (.n (.n .e true .e) true (.n .e true .e))))) false (.n (.n (.n (.n (.n (.n .e true .e) true .e) false (.n .e true .e)) false (.n (.n .e true .e) true (.n .e true .e))) false (.n (.n .e false (.n .e true .e)) true (.n (.n (.n .e true .e) false .e) true .e))) false (.n (.n (.n (.n (.n .e true .e) true .e) true (.n .e true .e)) false (.n (.n .e true .e) true .e)) false (.n (.n (.n .e true .e) true .e) true (.n (.n (.n .e true .e) true .e) true (.n .e true .e))))))))
def XC1:T Bool:=(.n (.n (.n (.n (.n (.n .e false (.n (.n (.n .e true .e) true .e) false .e)) false (.n (.n (.n (.n .e true .e) false .e) false .e) false .e)) false (.n (.n .e false (.n .e false (.n .e true .e))) false (.n (.n (.n .e true .e) false .e) false .e))) false (.n (.n (.n .e false (.n .e true .e)) false (.n .e false (.n (.n (.n .e true .e) false .e) true .e))) false (.n (.n .e false (.n .e false (.n .e true .e))) false (.n (.n (.n (.n .e true .e) true .e) false (.n .e true .e)) false .e)))) false (.n (.n (.n (.n .e false (.n .e false (.n .e true .e))) false .e) false (.n (.n .e false (.n .e true (.n .e true .e))) false (.n (.n (.n .e true .e) false (.n .e true .e)) false .e))) false (.n (.n (.n .e false (.n (.n .e true .e) false (.n .e true .e))) false (.n (.n .e false (.n .e true .e)) false (.n (.n (.n .e true .e) false .e) false .e))) false (.n .e false (.n (.n (.n (.n .e true .e) true .e) false .e) false .e))))) false (.n (.n (.n (.n (.n (.n .e false (.n (.n .e true .e) false .e)) false .e) false (.n (.n .e true .e) false .e)) false (.n (.n .e false (.n .e true .e)) false (.n (.n (.n .e true .e) false .e) false .e))) false (.n (.n (.n .e false (.n (.n .e true .e) false .e)) false (.n (.n (.n (.n .e true .e) false .e) false (.n .e true .e)) false (.n (.n (.n .e true .e) false .e) true .e))) false (.n .e false (.n (.n (.n (.n .e true .e) true .e) false .e) false .e)))) false (.n (.n (.n (.n .e false (.n (.n .e true .e) false (.n .e true .e))) false (.n (.n (.n (.n .e true .e) false .e) false .e) false .e)) false (.n (.n .e false (.n .e true (.n .e true .e))) false (.n (.n (.n (.n .e true .e) true .e) false (.n .e true .e)) false .e))) false (.n (.n .e false (.n (.n .e false (.n .e true .e)) false (.n (.n (.n .e true .e) false .e) false .e))) false (.n (.n (.n (.n (.n .e true .e) false .e) false .e) false .e) false (.n (.n (.n .e true .e) false .e) false .e))))))
def asciiZ:List Int:=[0,0,0,0,0,0,0,0,0,1,1,1,1,1,0,0,0,0,0,0,0,0,0,0,0,0,0,0,0,0,0,0,1,0,0,0,0,0,0,0,0,0,0,0,0,0,0,0,0,0,0,0,0,0,0,0,0,0,0,0,0,0,0,0,0,0,0,0,0,0,0,0,0,0,0,0,0,0,0,0,0,0,0,0,0,0,0,0,0,0,0,0,0,0,0,0,0,0,0,0,0,0,0,0,0,0,0,0,0,0,0,0,0,0,0,0,0,0,0,0,0,0,0,0,0,0,0,0,0,0,0,0,0,0,0,0,0,0,0,0,0,0,0,0,0,0,0,0,0,0,0,0,0,0,0,0,0,0,0,0,0,0,0,0,0,0,0,0,0,0,0,0,0,0,0,0,0,0,0,0,0,0,0,0,0,0,0,0,0,0,0,0,0,0,0,0,0,0,0,0,0,0,0,0,0,0,0,0,0,0,0,0,0,0,0,0,0,0,0,0,0,0,0,0,0,0,0,0,0,0,0,0,0,0,0,0,0,0,0,0,0,0,0,0,0,0,0,0,0,0,0,0,0,0,0,0]
def qg1:List V:=[.int .u8 0,.int .u8 0,.int .u8 0,.int .u8 0,.int .u8 0,.int .u8 0,.int .u8 0,.int .u8 0,.int .u8 0,.int .u8 1,.int .u8 1,.int .u8 1,.int .u8 1,.int .u8 1,.int .u8 0,.int .u8 0,.int .u8 0,.int .u8 0,.int .u8 0,.int .u8 0,.int .u8 0,.int .u8 0,.int .u8 0,.int .u8 0,.int .u8 0,.int .u8 0,.int .u8 0,.int .u8 0,.int .u8 0,.int .u8 0,.int .u8 0,.int .u8 0,.int .u8 1,.int .u8 0,.int .u8 0,.int .u8 0,.int .u8 0,.int .u8 0,.int .u8 0,.int .u8 0,.int .u8 0,.int .u8 0,.int .u8 0,.int .u8 0,.int .u8 0,.int .u8 0,.int .u8 0,.int .u8 0,.int .u8 0,.int .u8 0,.int .u8 0,.int .u8 0,.int .u8 0,.int .u8 0,.int .u8 0,.int .u8 0,.int .u8 0,.int .u8 0,.int .u8 0,.int .u8 0,.int .u8 0,.int .u8 0,.int .u8 0,.int .u8 0,.int .u8 0,.int .u8 0,.int .u8 0,.int .u8 0,.int .u8 0,.int .u8 0,.int .u8 0,.int .u8 0,.int .u8 0,.int .u8 0,.int .u8 0,.int .u8 0,.int .u8 0,.int .u8 0,.int .u8 0,.int .u8 0,.int .u8 0,.int .u8 0,.int .u8 0,.int .u8 0,.int .u8 0,.int .u8 0,.int .u8 0,.int .u8 0,.int .u8 0,.int .u8 0,.int .u8 0,.int .u8 0,.int .u8 0,.int .u8 0,.int .u8 0,.int .u8 0,.int .u8 0,.int .u8 0,.int .u8 0,.int .u8 0,.int .u8 0,.int .u8 0,.int .u8 0,.int .u8 0,.int .u8 0,.int .u8 0,.int .u8 0,.int .u8 0,.int .u8 0,.int .u8 0,.int .u8 0,.int .u8 0,.int .u8 0,.int .u8 0,.int .u8 0,.int .u8 0,.int .u8 0,.int .u8 0,.int .u8 0,.int .u8 0,.int .u8 0,.int .u8 0,.int .u8 0,.int .u8 0,.int .u8 0,.int .u8 0,.int .u8 0,.int .u8 0,.int .u8 0,.int .u8 0,.int .u8 0,.int .u8 0,.int .u8 0,.int .u8 0,.int .u8 0,.int .u8 0,.int .u8 0,.int .u8 0,.int .u8 0,.int .u8 0,.int .u8 0,.int .u8 0,.int .u8 0,.int .u8 0,.int .u8 0,.int .u8 0,.int .u8 0,.int .u8 0,.int .u8 0,.int .u8 0,.int .u8 0,.int .u8 0,.int .u8 0,.int .u8 0,.int .u8 0,.int .u8 0,.int .u8 0,.int .u8 0,.int .u8 0,.int .u8 0,.int .u8 0,.int .u8 0,.int .u8 0,.int .u8 0,.int .u8 0,.int .u8 0,.int .u8 0,.int .u8 0,.int .u8 0,.int .u8 0,.int .u8 0,.int .u8 0,.int .u8 0,.int .u8 0,.int .u8 0,.int .u8 0,.int .u8 0,.int .u8 0,.int .u8 0,.int .u8 0,.int .u8 0,.int .u8 0,.int .u8 0,.int .u8 0,.int .u8 0,.int .u8 0,.int .u8 0,.int .u8 0,.int .u8 0,.int .u8 0,.int .u8 0,.int .u8 0,.int .u8 0,.int .u8 0,.int .u8 0,.int .u8 0,.int .u8 0,.int .u8 0,.int .u8 0,.int .u8 0,.int .u8 0,.int .u8 0,.int .u8 0,.int .u8 0,.int .u8 0,.int .u8 0,.int .u8 0,.int .u8 0,.int .u8 0,.int .u8 0,.int .u8 0,.int .u8 0,.int .u8 0,.int .u8 0,.int .u8 0,.int .u8 0,.int .u8 0,.int .u8 0,.int .u8 0,.int .u8 0,.int .u8 0,.int .u8 0,.int .u8 0,.int .u8 0,.int .u8 0,.int .u8 0,.int .u8 0,.int .u8 0,.int .u8 0,.int .u8 0,.int .u8 0,.int .u8 0,.int .u8 0,.int .u8 0,.int .u8 0,.int .u8 0,.int .u8 0,.int .u8 0,.int .u8 0,.int .u8 0,.int .u8 0,.int .u8 0,.int .u8 0,.int .u8 0,.int .u8 0,.int .u8 0,.int .u8 0,.int .u8 0,.int .u8 0,.int .u8 0,.int .u8 0,.int .u8 0,.int .u8 0,.int .u8 0,.int .u8 0,.int .u8 0]
def Jn0 (g:Nat):Option V:=bif Nat.beq g 3 then some (.gptr 256 [.agg qg1] 0) else none
noncomputable def E0:Env:={ shared:=T.get false Kz1,pubRet:=T.get false XC1,prim:=fun _ _=>none,glob:=Jn0 }
def pbT:T Bool:=(.n (.n (.n (.n (.n (.n (.n (.n .e true .e) true (.n (.n .e true .e) false .e)) true (.n (.n (.n .e true .e) true .e) true (.n .e true .e))) true (.n (.n (.n (.n .e true .e) true .e) true (.n (.n .e true .e) false .e)) true (.n (.n (.n .e true .e) true .e) false (.n .e true .e)))) true (.n (.n (.n (.n .e true .e) false (.n (.n .e true .e) true .e)) false (.n (.n (.n .e true .e) true .e) false (.n .e true .e))) true (.n (.n (.n (.n .e true .e) true .e) true .e) true (.n (.n (.n .e true .e) true .e) true (.n .e true .e))))) true (.n (.n (.n (.n (.n (.n .e true .e) true .e) false (.n (.n .e true .e) false .e)) true (.n (.n (.n .e true .e) true .e) true .e)) true (.n (.n (.n (.n .e true .e) true .e) true (.n (.n .e true .e) false .e)) true (.n (.n (.n .e true .e) true .e) true (.n .e true .e)))) true (.n (.n (.n (.n (.n .e true .e) true .e) true (.n (.n .e true .e) true .e)) true (.n (.n (.n .e true .e) true .e) false (.n .e true .e))) true (.n (.n (.n (.n .e true .e) true .e) true (.n .e true .e)) true (.n .e true .e))))) false (.n (.n (.n (.n (.n (.n .e true .e) true .e) true (.n (.n (.n .e true .e) true .e) false (.n .e true .e))) true (.n (.n (.n (.n .e true .e) false .e) false (.n (.n .e true .e) false .e)) true (.n (.n .e true .e) true (.n .e true .e)))) true (.n (.n (.n (.n .e true .e) true (.n (.n .e true .e) false .e)) true (.n (.n .e true .e) true (.n .e true .e))) true (.n (.n (.n (.n .e true .e) true .e) true (.n .e true .e)) true (.n .e true .e)))) true (.n (.n (.n (.n (.n (.n .e true .e) true .e) false (.n (.n .e true .e) false .e)) false (.n (.n .e true .e) false (.n .e true .e))) true (.n (.n (.n (.n .e true .e) true .e) true (.n .e true .e)) true (.n (.n (.n .e true .e) true .e) true .e))) false (.n (.n (.n (.n (.n .e true .e) false .e) true (.n (.n .e true .e) true .e)) true (.n (.n (.n .e true .e) true .e) false (.n .e true .e))) true (.n (.n (.n (.n .e true .e) true .e) true (.n .e true .e)) false (.n (.n (.n .e true .e) false .e) false .e)))))) false (.n (.n (.n (.n (.n (.n (.n .e true .e) false (.n (.n .e true .e) false .e)) true (.n (.n (.n .e true .e) true .e) true (.n .e true .e))) true (.n (.n (.n (.n .e true .e) true .e) true (.n .e true .e)) true (.n (.n (.n .e true .e) true .e) true (.n .e true .e)))) true (.n (.n (.n (.n (.n .e true .e) true .e) true .e) true (.n (.n .e true .e) true (.n .e true .e))) false (.n (.n (.n (.n .e true .e) true .e) true (.n (.n .e true .e) false .e)) true (.n (.n (.n .e true .e) true .e) true .e)))) true (.n (.n (.n (.n (.n .e true .e) false (.n (.n .e true .e) false .e)) true (.n (.n (.n .e true .e) true .e) true (.n .e true .e))) true (.n (.n (.n (.n .e true .e) true .e) true (.n (.n .e true .e) true .e)) true (.n (.n (.n .e true .e) true .e) true (.n .e true .e)))) true (.n (.n (.n (.n (.n .e true .e) true .e) true (.n .e true .e)) true (.n (.n .e true .e) false (.n .e true .e))) false (.n (.n (.n (.n .e true .e) true .e) true .e) false .e)))) false (.n (.n (.n (.n (.n (.n (.n .e true .e) true .e) true (.n (.n .e true .e) false .e)) true (.n (.n (.n .e true .e) true .e) false (.n .e true .e))) false (.n (.n (.n (.n .e true .e) true .e) true (.n .e true .e)) true (.n (.n (.n .e true .e) true .e) true (.n .e true .e)))) true (.n (.n (.n (.n .e true .e) true (.n .e true .e)) true (.n (.n .e true .e) true (.n .e true .e))) true (.n (.n (.n (.n .e true .e) true .e) true (.n .e true .e)) true (.n (.n (.n .e true .e) false .e) false .e)))) true (.n (.n (.n (.n (.n .e true .e) true (.n (.n .e true .e) false .e)) true (.n (.n (.n .e true .e) false .e) false (.n .e true .e))) true (.n (.n (.n (.n .e true .e) true .e) false (.n (.n .e true .e) true .e)) true (.n (.n (.n .e true .e) true .e) false (.n .e true .e)))) false (.n (.n (.n (.n (.n .e true .e) false .e) false .e) true (.n (.n (.n .e true .e) true .e) false (.n .e true .e))) true (.n (.n (.n (.n .e true .e) true .e) true (.n .e true .e)) false .e))))))
def drowT:T Bool:=(.n (.n (.n (.n .e false (.n (.n (.n .e true .e) true .e) false (.n .e true .e))) true .e) false (.n (.n .e true (.n (.n .e true .e) false (.n (.n .e true .e) false .e))) true (.n (.n (.n .e false (.n .e false (.n .e true .e))) true .e) false .e))) false (.n (.n (.n .e false (.n .e false (.n .e true .e))) true .e) true (.n (.n (.n (.n .e false (.n .e false (.n .e true .e))) false (.n (.n .e true .e) false .e)) false .e) false (.n .e false (.n (.n .e true .e) false .e)))))
def liveT:List (Nat×Nat×List Nat×List Nat×List Nat):=[(3,8,[13,15,16],[0,1,2,6],[0,1,2]),(4,26,[9,11,14],[0,1,4],[0,1]),(4,18,[0,1,8,9,11,12,13],[0,1,8,9,11,12],[0,1]),(4,12,[0,1,8,9,10],[0,1,8,9],[0,1]),(4,3,[0,1,5,6],[0,1,5],[0,1]),(5,7,[0,6],[0,6],[0]),(6,8,[1,6,9,10,11],[0,1,10],[0,1]),(7,5,[0,4,5,6,7],[0,4,5],[0]),(9,4,[0,1,6,7,8],[0,1,6,7],[0,1]),(10,4,[0,1,5],[0,1,4],[0,1]),(12,2,[0,3],[0,2],[0]),(22,8,[0,3,4,5],[0,2,3,4],[0]),(23,2,[0,3],[0,2,3],[0]),(28,1,[0,2,6,7,8],[0,1,2],[0,1,2]),(34,3,[0,1,5,11,12,13],[0,1,5],[0,1]),(35,6,[5,6,7,8,9],[0,1,6],[0,1]),(36,3,[2,3,6,7,11,12,13],[0,1,2,3,6,7],[0,1,2]),(37,11,[6,25,26,27],[0,6],[0]),(37,3,[0,3,9,10,11],[0,3],[0]),(39,4,[0,1,12,13],[0,1,4],[0,1]),(44,4,[0,3],[0,2],[0]),(46,2,[0,3],[0,3],[0]),(47,3,[0,3,4],[0,2,3],[0]),(48,2,[0,3],[0,3],[0]),(50,2,[0,3],[0,3],[0]),(52,3,[0,3,4],[0,2],[0]),(59,2,[0,6],[0,2],[0]),(67,1,[0,1,4],[0,1],[0,1]),(70,38,[7,8,9],[0,1,9],[0,1]),(71,3,[1,2,5,10,11,12],[0,1,5],[0,1]),(73,3,[2,3,9],[0,1,2,3],[0,1,2,3]),(83,3,[3,12,13,14],[0,3],[0]),(85,1,[0,1],[0,1],[0,1]),(86,2,[0,2,4],[0,2,3],[0]),(87,1,[0,1],[0,1],[0,1]),(88,1,[0,1],[0,1],[0,1]),(90,4,[0,3],[0,3],[0]),(92,2,[0,3],[0,3],[0]),(94,4,[0,1,5,6,7],[0,1,5],[0,1]),(96,3,[4,7,8,9],[0,2,3],[0]),(99,2,[0,2,3],[0,2,3],[0]),(102,1,[0,1,3],[0,1],[0,1]),(106,3,[0,4,5,19,20,21],[0,1,4],[0,1]),(108,2,[0,3,6,7,8],[0,1],[0,1]),(114,4,[1,2,4,5,6,16,17,18],[0,1,2,4,6],[0,1]),(115,3,[1,2,4,5,9,10,11],[0,1,2,4,5],[0,1]),(120,3,[3,5],[0,3],[0]),(132,6,[0,3,5,6,7],[0,1,3,5,6],[0,1]),(134,3,[0,3,5,6],[0,1,3,5],[0,1]),(135,6,[0,3,5,6,7],[0,1,5,6],[0,1]),(138,3,[0,5,9,10,11],[0,1,5],[0,1]),(141,5,[0,1,5,6],[0,1,5],[0,1]),(145,4,[1,2,15,16,17],[0,1,2,6],[0,1,2]),(148,10,[0,4,5,6],[0,4,5],[0]),(156,3,[0,2,3,4],[0,2,3],[0]),(169,2,[0,1,5],[0,1,5],[0,1]),(171,4,[0,3],[0,2],[0]),(172,2,[0,3],[0,3],[0]),(184,2,[0,3],[0,2,3],[0]),(187,2,[2,6,7,8,13],[0,1],[0,1]),(190,3,[3,5,10,11,12],[0,1,3,5],[0,1]),(194,3,[3,16,17,18],[0,3],[0]),(195,2,[1,3],[0,1,3],[0]),(198,26,[1,3,114,115],[0,3],[0]),(200,3,[1,2],[1],[]),(202,2,[0,1,5],[0,1,4],[0,1]),(203,12,[0,1,5,6,7,9,11],[0,1,4],[0,1]),(203,6,[0,1,5,6,7,8,9,10],[0,1,5,6,7,8,9],[0,1]),(207,4,[2,13,14,15,21],[0,1],[0,1]),(210,3,[3,6,7,8],[0,3],[0]),(213,13,[0,2,4,101,102,103],[0,2,4],[0]),(216,5,[2,3,5,14,15],[0,1,2,5],[0,1]),(220,2,[0,1,7,8],[0,1,4],[0,1]),(221,6,[0,5,22,23,24],[0,1,5],[0,1]),(224,38,[175],[0,1,4],[0,1]),(224,29,[0,7,8,9,14,15,16],[0,1,7,8,9,14,15],[0,1]),(224,25,[0,7,8,9,14,15],[0,1,4],[0,1]),(224,12,[0,7,8,9,12],[0,1,8,9],[0,1]),(224,5,[0,7,8,9],[0,1,4],[0,1]),(226,5,[0,2,3],[0,2,3],[0]),(228,2,[0,1,2,3,9],[0,1,2,3,9],[0,1,2,3]),(231,3,[0,2,3],[0,2,3],[0]),(235,3,[0,1,4,5,6],[0,1,4],[0,1]),(242,2,[0,1,5],[0,1,5],[0,1]),(246,18,[1,45],[0,1,4],[0,1]),(246,12,[0,6,8],[0,1,4],[0,1]),(252,3,[1,5,8,9,10],[0,1,5],[0,1]),(267,8,[4,6,7,8],[0,4,6],[0]),(267,3,[0,4,5],[0,4],[0]),(269,15,[0,1,5,6,7,8,9,10],[0,1,4],[0,1]),(277,3,[0,2,7,10,11,12],[0,1,2,7],[0,1,2]),(284,3,[0,2,3],[0,2],[0]),(296,1,[0,1,2,4],[0,1,2],[0,1,2]),(302,11,[0,1,5,6,7,8,10],[0,1,4],[0,1]),(302,5,[0,1,5,6,7,8,9],[0,1,5,6,7,8],[0,1]),(305,4,[0,1,12,13],[0,1,4],[0,1]),(313,5,[0,1,2,3],[0,1,2,3],[0,1,2,3]),(313,1,[0,2],[0,1,2,3],[0,1,2,3]),(315,4,[0,2,3,6,7,8,15,16,17],[0,6,7,8],[0]),(315,1,[0,6,7,8],[0],[0]),(317,27,[0,9,10,12],[0,9,10,12],[0]),(317,21,[0,9,10,11,12],[0,9,10,11],[0]),(317,18,[0,9,10,12],[0,9,10,12],[0]),(317,5,[0,3,4,5,6],[0,3,5],[0]),(318,2,[0,1,7,8],[0,1,4],[0,1]),(319,8,[4,6,7,8],[0,4,6],[0]),(319,3,[0,4,5],[0,4],[0]),(321,3,[1,5,6,7],[1],[]),(322,16,[0,9,47,48,49],[0,1,9],[0,1]),(322,4,[0,1,5,6,14],[0,1,5,6],[0,1]),(325,14,[0,1,7,8],[0,1,4],[0,1]),(325,3,[0,1,19,20],[0,1,4],[0,1]),(326,14,[0,1,7,8],[0,1,4],[0,1]),(326,3,[0,1,15,16],[0,1,4],[0,1])]
noncomputable def liveO (f:FuncId) (c:Code):Option (List Nat×List Nat×List Nat) :=
 match c with
 | .loop _=>none
 | c=>(match yx0 c with
  | some i=>List.rec none (fun p _ ih=>bif Nat.beq p.1 f&&Nat.beq p.2.1 i then some p.2.2 else ih) liveT
  | none=>none)
noncomputable def PP:Program:=Tryz.prog
def Gi0:List (FuncId×V):=[(11,.bool true)]
noncomputable def EP:Env:={ E0 with prim:=Yk0 [] Gi0,shared:=fun f=>E0.shared f||Nat.beq f 13||Nat.beq f 14||Nat.beq f 24,lit:=fun _=>true,pubRet:=fun _=>false }
noncomputable def unrO (f:FuncId) (_:Code) (n:Nat):Bool:=(Nat.beq f 5&&Nat.blt n 2)
def psF (f:FuncId) (t:TypeId):Option Bool :=
 bif Nat.beq t 44&&(Nat.beq f 13||Nat.beq f 14) then some true
 else bif Nat.beq t 28&&(Nat.beq f 7||Nat.beq f 9) then some true
 else bif Nat.beq t 46&&Nat.beq f 5 then some false else none
noncomputable def nzF (_:FuncId) (t:TypeId) (v:V):V :=
 bif Nat.beq t 46 then (match v with
  | .agg cs=>(match cs with
   | [a,b,c,d,e,f]=>.agg [a,b,c,Xq0 1 d,e,f]
   | cs=>.agg cs)
  | v=>v) else zO0 PP t v
theorem nzF_ok (f:FuncId) (t:TypeId) (v:V):Wk v (nzF f t v):=by
 unfold nzF
 cases Nat.beq t 46 with
 | false=>exact ZP0 PP t v
 | true =>
  simp only [cond_true]
  split
  ·split
   ·exact .aggs (.cons (.refl _) (.cons (.refl _) (.cons (.refl _) (.cons (jC1 _ _) (.cons (.refl _) (.cons (.refl _) .nil))))))
   ·exact .refl _
  ·exact .refl _
noncomputable def CP:Cf:={ unr:=unrO,inl:=T.get false ((.n .e false (.n (.n .e false (.n .e false (.n .e true .e))) false (.n (.n (.n .e true .e) false .e) false .e)))),drow:=fun t=>T.get false drowT t||Nat.beq t 28,sn:=fun t=>Nat.beq t 28,lf:=fun f=>Nat.beq f 28,live:=liveO,pb:=T.get false pbT,ps:=psF,nz:=nzF,nzok:=nzF_ok,cb:=fun t=>Nat.beq t 41,apf:=fun f=>Nat.beq f 13||Nat.beq f 7||Nat.beq f 8||Nat.beq f 9||Nat.beq f 4,shf:=fun f=>Nat.beq f 22,srow:=fun t=>Nat.beq t 3||Nat.beq t 41||Nat.beq t 9,norm:=fun f v=>Bool.rec v (XM0 PP f v) (T.get false pbT f),ok:=fun f x=>by cases T.get false pbT f <;> first | exact Wk.refl x | exact QI1 PP f x }
/-- WHAT CALLS COME TO. -/
def vEq (a b:V):Prop:=a=b
noncomputable def rI (a:Int):Res:=.ret (.int .i64 a) Heap.empty
noncomputable def rO (a:Bool):Res:=.ret (.bool a) Heap.empty
noncomputable def rW (a:List UInt8):Res:=.ret (.str a) Heap.empty
noncomputable def qN (e:Int):Res:=.dret true (hp [.row 0 0 0 0 none [.int .i64 e]])
noncomputable abbrev nI {β:Type} (bot:β) (a:Int) (x:β):β:=need bot ((-9223372036854775808≤a)∧(a≤9223372036854775807)) x
noncomputable abbrev nX {β:Type} (bot:β) (i:Int) (n:Nat) (x:β):β:=need bot (((0:Int)≤i)∧(i<(n:Int))) x
noncomputable abbrev nG {β:Type} (bot:β) (v n:Nat) (l:List V) (x:β):β:=need bot ((v=v)∧((0=0)∧((n=List.length l)∧(GndR l)))) x
def yD0:Code→List Code
 | .seq a b=>yD0 a++yD0 b
 | .cond _ a b=>yD0 a++yD0 b
 | .block _ b=>yD0 b
 | .loop b=>b::yD0 b
 | .rangeFunc _ _ a b=>yD0 a++yD0 b
 | .scope b=>yD0 b
 | _=>[]
def lpB (P:Program) (f i:Nat):Code :=
 match P.funcs[f]? with
 | some fn=>(match fn.body with
  | some b=>((yD0 b)[i]?).getD .skip
  | none=>.skip)
 | none=>.skip
def jn {β:Type} (s:β) (F:β→β):β:=F s
noncomputable abbrev tmS0 (es ms:List V):T V:=T.set undef (V.func (Fn.func 28) [] [V.ptr 3 0 0,V.ptr 4 0 0]) (T.set undef (V.osl 1 ms) (T.set undef (V.osl 4 es) (T.set undef (V.ptr 2 0 0) (T.set undef (V.ptr 1 0 0) (T.set undef (V.ptr 0 0 0) (T.set undef V.nils (T.set undef V.nils (zX0 [V.osl 4 es,V.osl 1 ms] 0 (zP0 6)) 4) 5) 6) 7) 8) 11) 12) 13
noncomputable abbrev lpS0 (es ms:List V):Obj:=.loop .ready none 8 35 (tmS0 es ms) [14,15] (rAs PP 8 0) (rBd PP 8 0) 5
noncomputable abbrev lpS (es ms:List V):Obj:=.loop .ready none 8 35 (mkT 35 [(0,.osl 4 es),(1,.osl 1 ms),(2,.tup []),(3,.tup []),(4,.nils),(5,.nils),(6,.ptr 0 0 0),(7,.ptr 1 0 0),(8,.ptr 2 0 0),(9,.tup []),(10,.tup []),(11,.osl 4 es),(12,.osl 1 ms),(13,.func (.func 28) [] [.ptr 3 0 0,.ptr 4 0 0]),(14,.tup []),(15,.tup []),(16,.tup []),(17,.tup []),(18,.tup []),(19,.tup []),(20,.tup []),(21,.tup []),(22,.tup []),(23,.tup []),(24,.tup []),(25,.tup []),(26,.tup []),(27,.tup []),(28,.tup []),(29,.tup []),(30,.tup []),(31,.tup []),(32,.tup []),(33,.tup []),(34,.tup [])]) [14,15] (rAs PP 8 0) (rBd PP 8 0) 5
noncomputable abbrev hpS (es ms:List V) (lv ov to:V) (r:List Obj):Heap:=hp (.row 0 28 1 0 (some 1) [lv]::.row 0 32 1 0 (some 1) [ov]::.row 0 51 1 0 (some 1) [to]::.row 0 29 1 0 (some 1) [.osl 4 es]::.row 0 23 1 0 (some 1) [.osl 1 ms]::.defs::lpS es ms::r)
noncomputable abbrev rwT (v:Nat) (l:List V):Obj:=.row v 9 1 0 none l
noncomputable abbrev rwO (v:Nat) (l:List V) (x:V):Obj:=.rowS v 28 1 0 l x
structure Sp where
 u:Bool
 v1:Nat
 n1:Nat
 l1:List V
 s:Bool
 v2:Nat
 n2:Nat
 l2:List V
 o:Nat
 t:Bool
 v3:Nat
 n3:Nat
 l3:List V
 w:Bool
 v4:Nat
 p4:Nat
 l4:List V
 es:List V
 ms:List V
noncomputable abbrev rwG (v p:Nat) (l:List V):Obj:=.row v 9 1 p none l
noncomputable def rSp (fr:Fr) (s t u w:Bool) (a:Sp):Res:=.code (.exit 0) ((base fr.fn fr.n).on [(0,.func (.yield 6) [] []),(2,.ptr 4 0 0)])
 (Bool.rec (Bool.rec (hpS a.es a.ms .nils .nils (.ptr 0 0 0) []) (hpS a.es a.ms (.sl 7 a.v1 0 a.n1 none) .nils (.ptr 0 0 0) [rwT a.v1 a.l1]) u)
  (Bool.rec
   (Bool.rec
    (Bool.rec (hpS a.es a.ms .nils (.sl 7 a.v2 0 a.n2 none) (.ptr 7 a.v2 a.o) [rwO a.v2 a.l2 .nils]) (hpS a.es a.ms (.sl 7 a.v1 0 a.n1 none) (.sl 8 a.v2 0 a.n2 none) (.ptr 8 a.v2 a.o) [rwT a.v1 a.l1,rwO a.v2 a.l2 .nils]) u)
    (Bool.rec (hpS a.es a.ms .nils (.sl 7 a.v2 0 a.n2 none) (.ptr 7 a.v2 a.o) [rwO a.v2 a.l2 (.sl 8 a.v3 0 a.n3 none),rwT a.v3 a.l3]) (hpS a.es a.ms (.sl 7 a.v1 0 a.n1 none) (.sl 8 a.v2 0 a.n2 none) (.ptr 8 a.v2 a.o) [rwT a.v1 a.l1,rwO a.v2 a.l2 (.sl 9 a.v3 0 a.n3 none),rwT a.v3 a.l3]) u) t)
   (Bool.rec
    (Bool.rec (hpS a.es a.ms .nils (.sl 7 a.v2 0 a.n2 none) (.ptr 7 a.v2 a.o) [rwO a.v2 a.l2 .nils,rwG a.v4 a.p4 a.l4]) (hpS a.es a.ms (.sl 7 a.v1 0 a.n1 none) (.sl 8 a.v2 0 a.n2 none) (.ptr 8 a.v2 a.o) [rwT a.v1 a.l1,rwO a.v2 a.l2 .nils,rwG a.v4 a.p4 a.l4]) u)
    (Bool.rec (hpS a.es a.ms .nils (.sl 7 a.v2 0 a.n2 none) (.ptr 7 a.v2 a.o) [rwO a.v2 a.l2 (.sl 9 a.v3 0 a.n3 none),rwG a.v4 a.p4 a.l4,rwT a.v3 a.l3]) (hpS a.es a.ms (.sl 7 a.v1 0 a.n1 none) (.sl 8 a.v2 0 a.n2 none) (.ptr 8 a.v2 a.o) [rwT a.v1 a.l1,rwO a.v2 a.l2 (.sl 10 a.v3 0 a.n3 none),rwG a.v4 a.p4 a.l4,rwT a.v3 a.l3]) u) t) w) s)
noncomputable def rSS (a:List V×List V):Res:=.ret (.tup [.osl 1 a.1,.osl 1 a.2]) Heap.empty
structure Ap where
 es:List V
 ms:List V
 xs:List V
 u:Bool
 v1:Nat
 n1:Nat
 l1:List V
 s:Bool
 v2:Nat
 n2:Nat
 l2:List V
 m:Int
noncomputable def rA0 (fr:Fr) (a:Int×List V×List V):Res:=.code (.exit 0) ((base fr.fn fr.n).on [(0,.osl 4 a.2.1),(1,.osl 1 a.2.2),(5,.int .i64 a.1)]) Heap.empty
noncomputable def rA1 (fr:Fr) (u:Bool) (a:Ap):Res:=Bool.rec
 (.code (.exit 2) ((base fr.fn fr.n).on [(0,.osl 4 a.es),(1,.osl 1 a.ms),(8,.osl 1 a.xs),(9,.nils)]) Heap.empty)
 (.code (.exit 2) ((base fr.fn fr.n).on [(0,.osl 4 a.es),(1,.osl 1 a.ms),(8,.osl 1 a.xs),(9,.sl 0 a.v1 0 a.n1 none)]) (hp [rwT a.v1 a.l1])) u
def zF0:V→Bool
 | .sl _ _ _ _ _=>true
 | _=>false
noncomputable def rA2 (fr:Fr) (u s:Bool) (a:Ap):Res:=Bool.rec
 (Bool.rec
  (.code (.exit 4) ((base fr.fn fr.n).on [(0,.osl 4 a.es),(1,.osl 1 a.ms),(8,.osl 1 a.xs),(9,.nils),(11,.nils),(12,.int .i64 a.m)]) Heap.empty)
  (.code (.exit 4) ((base fr.fn fr.n).on [(0,.osl 4 a.es),(1,.osl 1 a.ms),(8,.osl 1 a.xs),(9,.nils),(11,.sl 0 a.v2 0 a.n2 none),(12,.int .i64 a.m)]) (hp [rwT a.v2 a.l2])) s)
 (Bool.rec
  (.code (.exit 4) ((base fr.fn fr.n).on [(0,.osl 4 a.es),(1,.osl 1 a.ms),(8,.osl 1 a.xs),(9,.sl 0 a.v1 0 a.n1 none),(11,.nils),(12,.int .i64 a.m)]) (hp [rwT a.v1 a.l1]))
  (.code (.exit 4) ((base fr.fn fr.n).on [(0,.osl 4 a.es),(1,.osl 1 a.ms),(8,.osl 1 a.xs),(9,.sl 0 a.v1 0 a.n1 none),(11,.sl 1 a.v2 0 a.n2 none),(12,.int .i64 a.m)]) (hp [rwT a.v1 a.l1,rwT a.v2 a.l2])) s) u
noncomputable def rA3 (fr:Fr) (s:Bool) (a:Bool×Nat×Nat):Res:=Bool.rec (.code (.exit 6) ((base fr.fn fr.n).on []) Heap.empty) (.code (.exit 6) ((base fr.fn fr.n).on []) (hp [rwT a.2.1 [],rwT a.2.2 []])) s
structure TdX where
 Sp:Task→PR Sp Int
 SS:Task→PR (List V×List V) Int
 I:Task→PR Int Int
 O:Task→PR Bool Int
 W:Task→PR (List UInt8) Int
 A0:Task→PR (Int×List V×List V) Int
 A1:Task→PR Ap Int
 A2:Task→PR Ap Int
 A3:Task→PR (Bool×Nat×Nat) Int
noncomputable def tbTdK (X:TdX) (t:Task) (k:Nat):Option Ent :=
 match k with
 | 1=>some (ent (X.I t) rI qN)
 | 2=>some (ent (X.O t) rO qN)
 | 3=>some (ent (X.W t) rW qN)
 | 4=>some (ent (X.SS t) rSS qN)
 | _=>none
def kindTd:T Nat:=(.n .e 0 (.n (.n (.n .e 4 .e) 0 .e) 0 .e))
def YK1:T Nat:=(.n .e 0 (.n (.n .e 2 (.n .e 0 (.n .e 1 .e))) 0 .e))
noncomputable def tbTdL (X:TdX) (t:Task) (b:Code) (fr:Fr):Option Ent :=
 match T.get 0 YK1 fr.fn with
 | 1=>some (ent16 (X.Sp t) (fun a=>a.s) (fun a=>a.t) (fun a=>a.u) (fun a=>a.w) (rSp fr) qN)
 | 2=>(match yx0 b with
  | some 3=>some (ent (X.A0 t) (rA0 fr) qN)
  | some 12=>some (ent2 (X.A1 t) (fun a=>a.u) (rA1 fr) qN)
  | some 18=>some (ent2 (X.A2 t) (fun a=>a.s) (rA2 fr (zF0 (T.get undef fr.tm 9))) qN)
  | some 26=>some (ent2 (X.A3 t) (fun a=>a.1) (rA3 fr) qN)
  | _=>none)
 | _=>none
noncomputable def qy0 (X:TdX) (t:Task):Option Ent :=
 match t with
 | .call f _ _=>tbTdK X t (T.get 0 kindTd f)
 | .code c fr _=>(match c with
  | .loop b=>tbTdL X t b fr
  | _=>none)
 | _=>none
/-- FROM SOME NUMBER ON. -/
def Evt (p:Nat→Prop):Prop:=∃ n0,∀ n,n0≤n→p n
theorem Evt.and {p q:Nat→Prop} (h1:Evt p) (h2:Evt q):Evt fun n=>p n∧q n:=by
 obtain ⟨a,h1⟩:=h1
 obtain ⟨b,h2⟩:=h2
 exact ⟨max a b,fun n hn=>⟨h1 n (by omega),h2 n (by omega)⟩⟩
theorem Evt.mono {p q:Nat→Prop} (h1:Evt p) (h:∀ n,p n→q n):Evt q:=by
 obtain ⟨a,h1⟩:=h1
 exact ⟨a,fun n hn=>h n (h1 n hn)⟩
theorem Evt.of {p:Nat→Prop} (h:∀ n,p n):Evt p:=⟨0,fun n _=>h n⟩
def Rn (e:Nat→Option Res) (Q:Res→Prop):Prop:=∃ r,Q r∧Evt fun n=>e n=some r
theorem Rn.ret {Q:Res→Prop} {r:Res} (h:Q r):Rn (fun _=>some r) Q:=⟨r,h,.of fun _=>rfl⟩
theorem Rn.need {φ:Prop} {e:Nat→Option Res} {Q:Res→Prop} (hφ:φ) (h:Rn e Q):Rn (fun n=>need none φ (e n)) Q:=by
 obtain ⟨r,hr,hE⟩:=h
 exact ⟨r,hr,hE.mono fun n h=>by show AM.need none φ (e n)=some r;unfold AM.need;rw [if_pos hφ];exact h⟩
theorem Rn.cond {c:Bool} {a b:Nat→Option Res} {Q:Res→Prop} (h1:c=true→Rn a Q) (h2:c=false→Rn b Q):Rn (fun n=>bif c then a n else b n) Q:=by
 cases c with
 | true=>exact h1 rfl
 | false=>exact h2 rfl
theorem Rn.dec {p:Prop} [Decidable p] {a b:Nat→Option Res} {Q:Res→Prop} (h1:p→Rn a Q) (h2:¬ p→Rn b Q):Rn (fun n=>bif decide p then a n else b n) Q :=
 .cond (fun h=>h1 (of_decide_eq_true h)) (fun h=>h2 (of_decide_eq_false h))
theorem Rn.ndec {p:Prop} [Decidable p] {a b:Nat→Option Res} {Q:Res→Prop} (h1:¬ p→Rn a Q) (h2:p→Rn b Q):Rn (fun n=>bif !decide p then a n else b n) Q :=
 .cond (fun h=>h1 (by simpa using h)) (fun h=>h2 (by simpa using h))
theorem Rn.bnd {α ε:Type} {x:Nat→PR α ε} {v:α} {f:α→Nat→Option Res} {g:ε→Nat→Option Res} {Q:Res→Prop} (hx:Evt fun n=>x n=.ok v) (hf:Rn (f v) Q):Rn (fun n=>PR.bnd none (x n) (fun a=>f a n) (fun e=>g e n)) Q:=by
 obtain ⟨r,hr,hE⟩:=hf
 exact ⟨r,hr,(hx.and hE).mono fun n ⟨h1,h2⟩=>by show PR.bnd none (x n) _ _=_;rw [show x n=_ from h1];exact h2⟩
theorem Rn.nI {a:Int} {e:Nat→Option Res} {Q:Res→Prop} (h:-9223372036854775808≤a∧a≤9223372036854775807) (h2:Rn e Q):Rn (fun n=>AM.nI none a (e n)) Q:=.need h h2
theorem Rn.nX {i:Int} {m:Nat} {e:Nat→Option Res} {Q:Res→Prop} (h:0≤i∧i<(m:Int)) (h2:Rn e Q):Rn (fun n=>AM.nX none i m (e n)) Q:=.need h h2
theorem Rn.nG {v m:Nat} {l:List V} {e:Nat→Option Res} {Q:Res→Prop} (h:m=l.length) (h1:GndR l) (h2:Rn e Q):Rn (fun n=>AM.nG none v m l (e n)) Q:=.need ⟨rfl,rfl,h,h1⟩ h2
noncomputable def frO:Task→Fr
 | .code _ fr _=>fr
 | _=>base 0 0
theorem Rn.of {e e':Nat→Option Res} {Q:Res→Prop} (h:∀ n,e n=e' n) (h2:Rn e' Q):Rn e Q:=by
 rw [show e=e' from funext h];exact h2
def Tk (t:Task) (r:Res):Prop:=Evt fun n=>rn PP EP CP n t=r
theorem Kh0 {α ε:Type} {R:α→Res} {Q:ε→Res} (a:α):∃ a',R a'=R a∧exR R Q (R a)=.ok a':=by
 unfold exR
 have h1:∃ b,R a=R b:=⟨a,rfl⟩
 rw [dif_pos h1]
 exact ⟨_,(Classical.choose_spec h1).symm,rfl⟩
noncomputable def XT (n:Nat):TdX where
 Sp:=fun t=>exR (fun a=>rSp (frO t) a.s a.t a.u a.w a) qN (rn PP EP CP n t)
 SS:=fun t=>exR rSS qN (rn PP EP CP n t)
 I:=fun t=>exR rI qN (rn PP EP CP n t)
 O:=fun t=>exR rO qN (rn PP EP CP n t)
 W:=fun t=>exR rW qN (rn PP EP CP n t)
 A0:=fun t=>exR (rA0 (frO t)) qN (rn PP EP CP n t)
 A1:=fun t=>exR (fun a=>rA1 (frO t) a.u a) qN (rn PP EP CP n t)
 A2:=fun t=>exR (fun a=>rA2 (frO t) (zF0 (T.get undef (frO t).tm 9)) a.s a) qN (rn PP EP CP n t)
 A3:=fun t=>exR (fun a=>rA3 (frO t) a.1 a) qN (rn PP EP CP n t)
theorem tblXT (n:Nat):ZD0 (rn PP EP CP n) (qy0 (XT n)):=by
 intro t e he
 unfold qy0 at he
 split at he
 ·unfold tbTdK at he
  split at he <;> first | (cases he;done) | exact qI1 (Option.some.inj he)
 ·rename_i c fr h
  split at he
  ·unfold tbTdL at he
   split at he <;> first | (cases he;done) | exact Zm1 (R:=rSp fr) (Option.some.inj he) | (split at he <;> first | (cases he;done) | exact qI1 (Option.some.inj he) | exact Kc0 (R:=rA1 _) (Option.some.inj he) | exact Kc0 (R:=rA3 _) (Option.some.inj he) | exact Kc0 (R:=rA2 _ _) (Option.some.inj he))
  ·cases he
 ·cases he
def OkT {α ε:Type} (K:TdX→PR α ε) (P:α→Prop):Prop:=∃ a,P a∧Evt fun n=>K (XT n)=.ok a
theorem Rn.bndT {α ε:Type} {K:TdX→PR α ε} {P:α→Prop} {f:α→Nat→Option Res} {g:ε→Nat→Option Res} {Q:Res→Prop} (h:OkT K P) (hf:∀ a,P a→Rn (f a) Q):Rn (fun n=>PR.bnd none (K (XT n)) (fun a=>f a n) (fun e=>g e n)) Q:=by
 obtain ⟨a,hP,hE⟩:=h
 exact .bnd hE (hf a hP)
theorem Tk.byT {t:Task} {Q:Res→Prop} (h:Rn (fun n=>evN PP EP CP (qy0 (XT n)) (rn PP EP CP n) none t some) Q):∃ r,Q r∧Tk t r:=by
 obtain ⟨r,hr,a,hE⟩:=h
 refine ⟨r,hr,a+1,fun n hn=>?_⟩
 obtain ⟨n,rfl⟩:∃ m,n=m+1:=⟨n-1,by omega⟩
 have h1:=evN_ok (bot:=(none:Option Res)) (tblXT n) t some
 have h2:evN PP EP CP (qy0 (XT n)) (rn PP EP CP n) none t some=some r:=hE n (by omega)
 rw [h2] at h1
 rcases h1 with h1 | h1
 ·cases h1
 ·exact (Option.some.inj h1).symm
theorem OkT.nrm {α ε:Type} {K:TdX→PR α ε} {R:α→Res} {Q:ε→Res} {L:Res→α} {N:α→α} {t:Task} {P:α→Prop} (hK:∀ n,K (XT n)=exR R Q (rn PP EP CP n t)) (hL:∀ a,L (R a)=N a) (hN:∀ a,P (N a)→P a) (h:∃ r,(∃ a,r=R a∧P (N a))∧Tk t r):OkT K P:=by
 obtain ⟨r,⟨a,rfl,hP⟩,hT⟩:=h
 obtain ⟨a',h1,h2⟩:=Kh0 (R:=R) (Q:=Q) a
 refine ⟨a',hN _ ?_,hT.mono fun n h=>by show K (XT n)=_;rw [hK,show rn PP EP CP n t=R a from h,h2]⟩
 rw [← hL,h1,hL]
 exact hP
theorem OkT.tk {α ε:Type} {K:TdX→PR α ε} {R:α→Res} {Q:ε→Res} {L:Res→α} {t:Task} {P:α→Prop} (hK:∀ n,K (XT n)=exR R Q (rn PP EP CP n t)) (hL:∀ a,L (R a)=a) (h:∃ r,(∃ a,r=R a∧P a)∧Tk t r):OkT K P :=
 .nrm (N:=fun a=>a) hK hL (fun _ h=>h) h
theorem Rn.decT {p:Prop} [Decidable p] {a b:Nat→Option Res} {Q:Res→Prop} (h:p) (ha:Rn a Q):Rn (fun n=>bif decide p then a n else b n) Q:=.dec (fun _=>ha) (fun e=>absurd h e)
theorem Rn.decF {p:Prop} [Decidable p] {a b:Nat→Option Res} {Q:Res→Prop} (h:¬ p) (hb:Rn b Q):Rn (fun n=>bif decide p then a n else b n) Q:=.dec (fun e=>absurd e h) (fun _=>hb)
theorem Rn.jo {s:Nat→Option Res} {F:Option Res→Nat→Option Res} {Q:Res→Prop} (h:Rn (fun n=>F (s n) n) Q):Rn (fun n=>jn (s n) (fun j=>F j n)) Q:=h
theorem Rn.cf {a b:Nat→Option Res} {Q:Res→Prop} (h:Rn b Q):Rn (fun n=>bif false then a n else b n) Q:=h
theorem Rn.ct {a b:Nat→Option Res} {Q:Res→Prop} (h:Rn a Q):Rn (fun n=>bif true then a n else b n) Q:=h
end Go.AM
