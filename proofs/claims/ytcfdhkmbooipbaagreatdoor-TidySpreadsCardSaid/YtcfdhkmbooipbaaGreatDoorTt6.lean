/-
  WHAT FUNCTIONS OF THE PROGRAM COME TO, told by the machine, and plain laws of it. No condition but what each theorem says of its arguments.
-/
import Derived.Test.YtcfdhkmbooipbaaGreatDoorProg
import Derived.Test.YtcfdhkmbooipbaaGreatDoorTt5
namespace Go.AM
open Go.Proofs
set_option maxRecDepth 100000
set_option maxHeartbeats 4000000
def zf2:T Bool:=(.n (.n (.n (.n (.n (.n (.n (.n (.n .e true .e) false .e) false (.n .e true .e)) false (.n (.n (.n .e true .e) true .e) true .e)) false (.n (.n (.n (.n .e true .e) true .e) false (.n (.n .e true .e) true .e)) false (.n (.n .e true .e) true .e))) false (.n (.n (.n (.n (.n .e true .e) true .e) false .e) true (.n .e false (.n .e true .e))) false (.n (.n (.n .e true .e) true (.n (.n .e true .e) true .e)) true .e))) false (.n (.n (.n (.n (.n .e true .e) true (.n .e true .e)) false (.n (.n .e true .e) true (.n .e true .e))) false (.n (.n (.n .e true .e) false (.n (.n .e true .e) true .e)) false (.n (.n (.n .e true .e) true .e) true .e))) false (.n (.n (.n (.n .e true .e) false .e) false (.n .e true (.n .e true .e))) true (.n (.n (.n (.n .e true .e) true .e) false (.n .e true .e)) false (.n (.n (.n .e true .e) true .e) true (.n .e true .e)))))) false (.n (.n (.n (.n (.n (.n (.n .e true .e) true .e) false (.n (.n .e true .e) true .e)) false (.n (.n .e true .e) true (.n .e true .e))) false (.n (.n (.n .e true .e) true (.n (.n .e true .e) true .e)) false (.n (.n (.n .e true .e) false .e) false .e))) false (.n (.n (.n (.n (.n .e true .e) true .e) false (.n .e true .e)) false (.n (.n (.n .e true .e) true .e) true (.n .e true .e))) false (.n (.n (.n .e true .e) false (.n .e true .e)) true (.n (.n (.n .e true .e) true .e) false (.n .e true .e))))) false (.n (.n (.n (.n (.n .e true .e) true (.n .e true .e)) true (.n (.n (.n .e true .e) true .e) true (.n .e true .e))) false (.n (.n (.n (.n .e true .e) false .e) false (.n .e true .e)) true (.n (.n (.n .e true .e) true .e) false (.n .e true .e)))) false (.n (.n (.n (.n .e true .e) false .e) false (.n (.n .e true .e) true (.n .e true .e))) false (.n (.n (.n (.n .e true .e) true .e) false (.n .e true .e)) true (.n (.n .e true .e) true (.n .e true .e))))))) false (.n (.n (.n (.n (.n (.n (.n .e true .e) true (.n (.n .e true .e) true .e)) false (.n (.n .e true .e) false .e)) false (.n (.n (.n .e true .e) true (.n (.n .e true .e) false .e)) false .e)) false (.n (.n (.n (.n .e true .e) false (.n .e true .e)) false (.n (.n (.n .e true .e) true .e) true (.n .e true .e))) false (.n (.n (.n .e true .e) false (.n .e true .e)) true (.n .e false (.n .e true .e))))) false (.n (.n (.n (.n (.n (.n .e true .e) true .e) true (.n (.n .e true .e) true .e)) false (.n (.n .e true .e) false (.n .e true .e))) false (.n (.n (.n (.n .e true .e) false .e) false (.n .e true .e)) false (.n (.n (.n .e true .e) false .e) true .e))) false (.n (.n (.n (.n .e true .e) false .e) false (.n (.n (.n .e true .e) false .e) true .e)) true (.n (.n (.n (.n .e true .e) true .e) false (.n .e true .e)) true (.n (.n .e true .e) true (.n .e true .e)))))) false (.n (.n (.n (.n (.n (.n .e true .e) false (.n (.n .e true .e) true .e)) false (.n (.n .e true .e) true (.n .e true .e))) true (.n (.n (.n (.n .e true .e) false .e) false (.n (.n .e true .e) false .e)) false (.n (.n .e true .e) false .e))) false (.n (.n (.n (.n (.n .e true .e) true .e) true .e) false (.n (.n (.n .e true .e) false .e) true (.n .e true .e))) true (.n (.n (.n (.n .e true .e) true .e) false (.n .e true .e)) false (.n (.n .e true .e) true (.n .e true .e))))) false (.n (.n (.n (.n (.n (.n .e true .e) true .e) false (.n .e true .e)) false (.n (.n .e true .e) true (.n .e true .e))) false (.n (.n .e false (.n .e true .e)) true (.n (.n (.n .e true .e) false .e) true .e))) false (.n (.n (.n (.n (.n .e true .e) true .e) true (.n .e true .e)) false (.n (.n .e true .e) true .e)) false (.n (.n (.n .e true .e) true .e) true (.n (.n (.n .e true .e) true .e) true (.n .e true .e))))))))
def qf2:T Bool:=(.n (.n (.n (.n (.n (.n .e false (.n (.n (.n .e true .e) true .e) false .e)) false (.n (.n (.n (.n .e true .e) false .e) false .e) false .e)) false (.n (.n .e false (.n .e false (.n .e true .e))) false (.n (.n (.n .e true .e) false .e) false .e))) false (.n (.n (.n .e false (.n .e true .e)) false (.n .e false (.n (.n (.n .e true .e) false .e) true .e))) false (.n (.n .e false (.n .e false (.n .e true .e))) false (.n (.n (.n (.n .e true .e) true .e) false (.n .e true .e)) false .e)))) false (.n (.n (.n (.n .e false (.n .e false (.n .e true .e))) false .e) false (.n (.n .e false (.n .e true (.n .e true .e))) false (.n (.n (.n .e true .e) false (.n .e true .e)) false .e))) false (.n (.n (.n .e false (.n (.n .e true .e) false (.n .e true .e))) false (.n (.n .e false (.n .e true .e)) false (.n (.n (.n .e true .e) false .e) false .e))) false (.n .e false (.n (.n (.n (.n .e true .e) true .e) false .e) false .e))))) false (.n (.n (.n (.n (.n (.n .e false (.n (.n .e true .e) false .e)) false .e) false (.n (.n .e true .e) false .e)) false (.n (.n .e false (.n .e true .e)) false (.n (.n (.n .e true .e) false .e) false .e))) false (.n (.n (.n .e false (.n (.n .e true .e) false .e)) false (.n (.n (.n (.n .e true .e) false .e) false (.n .e true .e)) false (.n (.n (.n .e true .e) false .e) true .e))) false (.n .e false (.n (.n (.n (.n .e true .e) true .e) false .e) false .e)))) false (.n (.n (.n (.n .e false (.n (.n .e true .e) false (.n .e true .e))) false (.n (.n (.n (.n .e true .e) false .e) false .e) false .e)) false (.n (.n .e false (.n .e true (.n .e true .e))) false (.n (.n (.n (.n .e true .e) true .e) false (.n .e true .e)) false .e))) false (.n (.n .e false (.n (.n .e false (.n .e true .e)) false (.n (.n (.n .e true .e) false .e) false .e))) false (.n (.n (.n (.n (.n .e true .e) false .e) false .e) false .e) false (.n (.n (.n .e true .e) false .e) false .e))))))
def asciiZ:List Int:=[0,0,0,0,0,0,0,0,0,1,1,1,1,1,0,0,0,0,0,0,0,0,0,0,0,0,0,0,0,0,0,0,1,0,0,0,0,0,0,0,0,0,0,0,0,0,0,0,0,0,0,0,0,0,0,0,0,0,0,0,0,0,0,0,0,0,0,0,0,0,0,0,0,0,0,0,0,0,0,0,0,0,0,0,0,0,0,0,0,0,0,0,0,0,0,0,0,0,0,0,0,0,0,0,0,0,0,0,0,0,0,0,0,0,0,0,0,0,0,0,0,0,0,0,0,0,0,0,0,0,0,0,0,0,0,0,0,0,0,0,0,0,0,0,0,0,0,0,0,0,0,0,0,0,0,0,0,0,0,0,0,0,0,0,0,0,0,0,0,0,0,0,0,0,0,0,0,0,0,0,0,0,0,0,0,0,0,0,0,0,0,0,0,0,0,0,0,0,0,0,0,0,0,0,0,0,0,0,0,0,0,0,0,0,0,0,0,0,0,0,0,0,0,0,0,0,0,0,0,0,0,0,0,0,0,0,0,0,0,0,0,0,0,0,0,0,0,0,0,0,0,0,0,0,0,0]
def qM1:List V:=[.int .u8 0,.int .u8 0,.int .u8 0,.int .u8 0,.int .u8 0,.int .u8 0,.int .u8 0,.int .u8 0,.int .u8 0,.int .u8 1,.int .u8 1,.int .u8 1,.int .u8 1,.int .u8 1,.int .u8 0,.int .u8 0,.int .u8 0,.int .u8 0,.int .u8 0,.int .u8 0,.int .u8 0,.int .u8 0,.int .u8 0,.int .u8 0,.int .u8 0,.int .u8 0,.int .u8 0,.int .u8 0,.int .u8 0,.int .u8 0,.int .u8 0,.int .u8 0,.int .u8 1,.int .u8 0,.int .u8 0,.int .u8 0,.int .u8 0,.int .u8 0,.int .u8 0,.int .u8 0,.int .u8 0,.int .u8 0,.int .u8 0,.int .u8 0,.int .u8 0,.int .u8 0,.int .u8 0,.int .u8 0,.int .u8 0,.int .u8 0,.int .u8 0,.int .u8 0,.int .u8 0,.int .u8 0,.int .u8 0,.int .u8 0,.int .u8 0,.int .u8 0,.int .u8 0,.int .u8 0,.int .u8 0,.int .u8 0,.int .u8 0,.int .u8 0,.int .u8 0,.int .u8 0,.int .u8 0,.int .u8 0,.int .u8 0,.int .u8 0,.int .u8 0,.int .u8 0,.int .u8 0,.int .u8 0,.int .u8 0,.int .u8 0,.int .u8 0,.int .u8 0,.int .u8 0,.int .u8 0,.int .u8 0,.int .u8 0,.int .u8 0,.int .u8 0,.int .u8 0,.int .u8 0,.int .u8 0,.int .u8 0,.int .u8 0,.int .u8 0,.int .u8 0,.int .u8 0,.int .u8 0,.int .u8 0,.int .u8 0,.int .u8 0,.int .u8 0,.int .u8 0,.int .u8 0,.int .u8 0,.int .u8 0,.int .u8 0,.int .u8 0,.int .u8 0,.int .u8 0,.int .u8 0,.int .u8 0,.int .u8 0,.int .u8 0,.int .u8 0,.int .u8 0,.int .u8 0,.int .u8 0,.int .u8 0,.int .u8 0,.int .u8 0,.int .u8 0,.int .u8 0,.int .u8 0,.int .u8 0,.int .u8 0,.int .u8 0,.int .u8 0,.int .u8 0,.int .u8 0,.int .u8 0,.int .u8 0,.int .u8 0,.int .u8 0,.int .u8 0,.int .u8 0,.int .u8 0,.int .u8 0,.int .u8 0,.int .u8 0,.int .u8 0,.int .u8 0,.int .u8 0,.int .u8 0,.int .u8 0,.int .u8 0,.int .u8 0,.int .u8 0,.int .u8 0,.int .u8 0,.int .u8 0,.int .u8 0,.int .u8 0,.int .u8 0,.int .u8 0,.int .u8 0,.int .u8 0,.int .u8 0,.int .u8 0,.int .u8 0,.int .u8 0,.int .u8 0,.int .u8 0,.int .u8 0,.int .u8 0,.int .u8 0,.int .u8 0,.int .u8 0,.int .u8 0,.int .u8 0,.int .u8 0,.int .u8 0,.int .u8 0,.int .u8 0,.int .u8 0,.int .u8 0,.int .u8 0,.int .u8 0,.int .u8 0,.int .u8 0,.int .u8 0,.int .u8 0,.int .u8 0,.int .u8 0,.int .u8 0,.int .u8 0,.int .u8 0,.int .u8 0,.int .u8 0,.int .u8 0,.int .u8 0,.int .u8 0,.int .u8 0,.int .u8 0,.int .u8 0,.int .u8 0,.int .u8 0,.int .u8 0,.int .u8 0,.int .u8 0,.int .u8 0,.int .u8 0,.int .u8 0,.int .u8 0,.int .u8 0,.int .u8 0,.int .u8 0,.int .u8 0,.int .u8 0,.int .u8 0,.int .u8 0,.int .u8 0,.int .u8 0,.int .u8 0,.int .u8 0,.int .u8 0,.int .u8 0,.int .u8 0,.int .u8 0,.int .u8 0,.int .u8 0,.int .u8 0,.int .u8 0,.int .u8 0,.int .u8 0,.int .u8 0,.int .u8 0,.int .u8 0,.int .u8 0,.int .u8 0,.int .u8 0,.int .u8 0,.int .u8 0,.int .u8 0,.int .u8 0,.int .u8 0,.int .u8 0,.int .u8 0,.int .u8 0,.int .u8 0,.int .u8 0,.int .u8 0,.int .u8 0,.int .u8 0,.int .u8 0,.int .u8 0,.int .u8 0,.int .u8 0,.int .u8 0,.int .u8 0,.int .u8 0,.int .u8 0,.int .u8 0,.int .u8 0,.int .u8 0,.int .u8 0,.int .u8 0,.int .u8 0,.int .u8 0,.int .u8 0,.int .u8 0]
def JY0 (g:Nat):Option V:=bif Nat.beq g 3 then some (.gptr 256 [.agg qM1] 0) else none
noncomputable def E0:Env:={ shared:=T.get false zf2,pubRet:=T.get false qf2,prim:=fun _ _=>none,glob:=JY0 }
def pbT:T Bool:=(.n (.n (.n (.n (.n (.n (.n (.n .e true .e) true (.n (.n .e true .e) false .e)) true (.n (.n (.n .e true .e) true .e) true (.n .e true .e))) true (.n (.n (.n (.n .e true .e) true .e) true (.n (.n .e true .e) false .e)) true (.n (.n (.n .e true .e) true .e) false (.n .e true .e)))) true (.n (.n (.n (.n .e true .e) false (.n (.n .e true .e) true .e)) false (.n (.n (.n .e true .e) true .e) false (.n .e true .e))) true (.n (.n (.n (.n .e true .e) true .e) true .e) true (.n (.n (.n .e true .e) true .e) true (.n .e true .e))))) true (.n (.n (.n (.n (.n (.n .e true .e) true .e) false (.n (.n .e true .e) false .e)) true (.n (.n (.n .e true .e) true .e) true .e)) true (.n (.n (.n (.n .e true .e) true .e) true (.n (.n .e true .e) false .e)) true (.n (.n (.n .e true .e) true .e) true (.n .e true .e)))) true (.n (.n (.n (.n (.n .e true .e) true .e) true (.n (.n .e true .e) true .e)) true (.n (.n (.n .e true .e) true .e) false (.n .e true .e))) true (.n (.n (.n (.n .e true .e) true .e) true (.n .e true .e)) true (.n .e true .e))))) false (.n (.n (.n (.n (.n (.n .e true .e) true .e) true (.n (.n (.n .e true .e) true .e) false (.n .e true .e))) true (.n (.n (.n (.n .e true .e) false .e) false (.n (.n .e true .e) false .e)) true (.n (.n .e true .e) true (.n .e true .e)))) true (.n (.n (.n (.n .e true .e) true (.n (.n .e true .e) false .e)) true (.n (.n .e true .e) true (.n .e true .e))) true (.n (.n (.n (.n .e true .e) true .e) true (.n .e true .e)) true (.n .e true .e)))) true (.n (.n (.n (.n (.n (.n .e true .e) true .e) false (.n (.n .e true .e) false .e)) false (.n (.n .e true .e) false (.n .e true .e))) true (.n (.n (.n (.n .e true .e) true .e) true (.n .e true .e)) true (.n (.n (.n .e true .e) true .e) true .e))) false (.n (.n (.n (.n (.n .e true .e) false .e) true (.n (.n .e true .e) true .e)) true (.n (.n (.n .e true .e) true .e) false (.n .e true .e))) true (.n (.n (.n (.n .e true .e) true .e) true (.n .e true .e)) false (.n (.n (.n .e true .e) false .e) false .e)))))) false (.n (.n (.n (.n (.n (.n (.n .e true .e) false (.n (.n .e true .e) false .e)) true (.n (.n (.n .e true .e) true .e) true (.n .e true .e))) true (.n (.n (.n (.n .e true .e) true .e) true (.n .e true .e)) true (.n (.n (.n .e true .e) true .e) true (.n .e true .e)))) true (.n (.n (.n (.n (.n .e true .e) true .e) true .e) true (.n (.n .e true .e) true (.n .e true .e))) false (.n (.n (.n (.n .e true .e) true .e) true (.n (.n .e true .e) false .e)) true (.n (.n (.n .e true .e) true .e) true .e)))) true (.n (.n (.n (.n (.n .e true .e) false (.n (.n .e true .e) false .e)) true (.n (.n (.n .e true .e) true .e) true (.n .e true .e))) true (.n (.n (.n (.n .e true .e) true .e) true (.n (.n .e true .e) true .e)) true (.n (.n (.n .e true .e) true .e) true (.n .e true .e)))) true (.n (.n (.n (.n (.n .e true .e) true .e) true (.n .e true .e)) true (.n (.n .e true .e) false (.n .e true .e))) false (.n (.n (.n (.n .e true .e) true .e) true .e) false .e)))) false (.n (.n (.n (.n (.n (.n (.n .e true .e) true .e) true (.n (.n .e true .e) false .e)) true (.n (.n (.n .e true .e) true .e) false (.n .e true .e))) false (.n (.n (.n (.n .e true .e) true .e) true (.n .e true .e)) true (.n (.n (.n .e true .e) true .e) true (.n .e true .e)))) true (.n (.n (.n (.n .e true .e) true (.n .e true .e)) true (.n (.n .e true .e) true (.n .e true .e))) true (.n (.n (.n (.n .e true .e) true .e) true (.n .e true .e)) true (.n (.n (.n .e true .e) false .e) false .e)))) true (.n (.n (.n (.n (.n .e true .e) true (.n (.n .e true .e) false .e)) true (.n (.n (.n .e true .e) false .e) false (.n .e true .e))) true (.n (.n (.n (.n .e true .e) true .e) false (.n (.n .e true .e) true .e)) true (.n (.n (.n .e true .e) true .e) false (.n .e true .e)))) false (.n (.n (.n (.n (.n .e true .e) false .e) false .e) true (.n (.n (.n .e true .e) true .e) false (.n .e true .e))) true (.n (.n (.n (.n .e true .e) true .e) true (.n .e true .e)) false .e))))))
def drowT:T Bool:=(.n (.n (.n (.n .e false (.n (.n (.n .e true .e) true .e) false (.n .e true .e))) true .e) false (.n (.n .e true (.n (.n .e true .e) false (.n (.n .e true .e) false .e))) true (.n (.n (.n .e false (.n .e false (.n .e true .e))) true .e) false .e))) false (.n (.n (.n .e false (.n .e false (.n .e true .e))) true .e) true (.n (.n (.n (.n .e false (.n .e false (.n .e true .e))) false (.n (.n .e true .e) false .e)) false .e) false (.n .e false (.n (.n .e true .e) false .e)))))
def liveT:List (Nat×Nat×List Nat×List Nat×List Nat):=[(3,8,[13,15,16],[0,1,2,6],[0,1,2]),(4,26,[9,11,14],[0,1,4],[0,1]),(4,18,[0,1,8,9,11,12,13],[0,1,8,9,11,12],[0,1]),(4,12,[0,1,8,9,10],[0,1,8,9],[0,1]),(4,3,[0,1,5,6],[0,1,5],[0,1]),(5,7,[0,6],[0,6],[0]),(6,8,[1,6,9,10,11],[0,1,10],[0,1]),(7,5,[0,4,5,6,7],[0,4,5],[0]),(9,4,[0,1,6,7,8],[0,1,6,7],[0,1]),(10,4,[0,1,5],[0,1,4],[0,1]),(12,2,[0,3],[0,2],[0]),(22,8,[0,3,4,5],[0,2,3,4],[0]),(23,2,[0,3],[0,2,3],[0]),(28,1,[0,2,6,7,8],[0,1,2],[0,1,2]),(34,3,[0,1,5,11,12,13],[0,1,5],[0,1]),(35,6,[5,6,7,8,9],[0,1,6],[0,1]),(36,3,[2,3,6,7,11,12,13],[0,1,2,3,6,7],[0,1,2]),(37,11,[6,25,26,27],[0,6],[0]),(37,3,[0,3,9,10,11],[0,3],[0]),(39,4,[0,1,12,13],[0,1,4],[0,1]),(44,4,[0,3],[0,2],[0]),(46,2,[0,3],[0,3],[0]),(47,3,[0,3,4],[0,2,3],[0]),(48,2,[0,3],[0,3],[0]),(50,2,[0,3],[0,3],[0]),(52,3,[0,3,4],[0,2],[0]),(59,2,[0,6],[0,2],[0]),(67,1,[0,1,4],[0,1],[0,1]),(70,38,[7,8,9],[0,1,9],[0,1]),(71,3,[1,2,5,10,11,12],[0,1,5],[0,1]),(73,3,[2,3,9],[0,1,2,3],[0,1,2,3]),(83,3,[3,12,13,14],[0,3],[0]),(85,1,[0,1],[0,1],[0,1]),(86,2,[0,2,4],[0,2,3],[0]),(87,1,[0,1],[0,1],[0,1]),(88,1,[0,1],[0,1],[0,1]),(90,4,[0,3],[0,3],[0]),(92,2,[0,3],[0,3],[0]),(94,4,[0,1,5,6,7],[0,1,5],[0,1]),(96,3,[4,7,8,9],[0,2,3],[0]),(99,2,[0,2,3],[0,2,3],[0]),(102,1,[0,1,3],[0,1],[0,1]),(106,3,[0,4,5,19,20,21],[0,1,4],[0,1]),(108,2,[0,3,6,7,8],[0,1],[0,1]),(114,4,[1,2,4,5,6,16,17,18],[0,1,2,4,6],[0,1]),(115,3,[1,2,4,5,9,10,11],[0,1,2,4,5],[0,1]),(120,3,[3,5],[0,3],[0]),(132,6,[0,3,5,6,7],[0,1,3,5,6],[0,1]),(134,3,[0,3,5,6],[0,1,3,5],[0,1]),(135,6,[0,3,5,6,7],[0,1,5,6],[0,1]),(138,3,[0,5,9,10,11],[0,1,5],[0,1]),(141,5,[0,1,5,6],[0,1,5],[0,1]),(145,4,[1,2,15,16,17],[0,1,2,6],[0,1,2]),(148,10,[0,4,5,6],[0,4,5],[0]),(156,3,[0,2,3,4],[0,2,3],[0]),(169,2,[0,1,5],[0,1,5],[0,1]),(171,4,[0,3],[0,2],[0]),(172,2,[0,3],[0,3],[0]),(184,2,[0,3],[0,2,3],[0]),(187,2,[2,6,7,8,13],[0,1],[0,1]),(190,3,[3,5,10,11,12],[0,1,3,5],[0,1]),(194,3,[3,16,17,18],[0,3],[0]),(195,2,[1,3],[0,1,3],[0]),(198,26,[1,3,114,115],[0,3],[0]),(200,3,[1,2],[1],[]),(202,2,[0,1,5],[0,1,4],[0,1]),(203,12,[0,1,5,6,7,9,11],[0,1,4],[0,1]),(203,6,[0,1,5,6,7,8,9,10],[0,1,5,6,7,8,9],[0,1]),(207,4,[2,13,14,15,21],[0,1],[0,1]),(210,3,[3,6,7,8],[0,3],[0]),(213,13,[0,2,4,101,102,103],[0,2,4],[0]),(216,5,[2,3,5,14,15],[0,1,2,5],[0,1]),(220,2,[0,1,7,8],[0,1,4],[0,1]),(221,6,[0,5,22,23,24],[0,1,5],[0,1]),(224,38,[175],[0,1,4],[0,1]),(224,29,[0,7,8,9,14,15,16],[0,1,7,8,9,14,15],[0,1]),(224,25,[0,7,8,9,14,15],[0,1,4],[0,1]),(224,12,[0,7,8,9,12],[0,1,8,9],[0,1]),(224,5,[0,7,8,9],[0,1,4],[0,1]),(226,5,[0,2,3],[0,2,3],[0]),(228,2,[0,1,2,3,9],[0,1,2,3,9],[0,1,2,3]),(231,3,[0,2,3],[0,2,3],[0]),(235,3,[0,1,4,5,6],[0,1,4],[0,1]),(242,2,[0,1,5],[0,1,5],[0,1]),(246,18,[1,45],[0,1,4],[0,1]),(246,12,[0,6,8],[0,1,4],[0,1]),(252,3,[1,5,8,9,10],[0,1,5],[0,1]),(267,8,[4,6,7,8],[0,4,6],[0]),(267,3,[0,4,5],[0,4],[0]),(269,15,[0,1,5,6,7,8,9,10],[0,1,4],[0,1]),(277,3,[0,2,7,10,11,12],[0,1,2,7],[0,1,2]),(284,3,[0,2,3],[0,2],[0]),(296,1,[0,1,2,4],[0,1,2],[0,1,2]),(302,11,[0,1,5,6,7,8,10],[0,1,4],[0,1]),(302,5,[0,1,5,6,7,8,9],[0,1,5,6,7,8],[0,1]),(305,4,[0,1,12,13],[0,1,4],[0,1]),(313,5,[0,1,2,3],[0,1,2,3],[0,1,2,3]),(313,1,[0,2],[0,1,2,3],[0,1,2,3]),(315,4,[0,2,3,6,7,8,15,16,17],[0,6,7,8],[0]),(315,1,[0,6,7,8],[0],[0]),(317,27,[0,9,10,12],[0,9,10,12],[0]),(317,21,[0,9,10,11,12],[0,9,10,11],[0]),(317,18,[0,9,10,12],[0,9,10,12],[0]),(317,5,[0,3,4,5,6],[0,3,5],[0]),(318,2,[0,1,7,8],[0,1,4],[0,1]),(319,8,[4,6,7,8],[0,4,6],[0]),(319,3,[0,4,5],[0,4],[0]),(321,3,[1,5,6,7],[1],[]),(322,16,[0,9,47,48,49],[0,1,9],[0,1]),(322,4,[0,1,5,6,14],[0,1,5,6],[0,1]),(325,14,[0,1,7,8],[0,1,4],[0,1]),(325,3,[0,1,19,20],[0,1,4],[0,1]),(326,14,[0,1,7,8],[0,1,4],[0,1]),(326,3,[0,1,15,16],[0,1,4],[0,1])]
noncomputable def liveO (f:FuncId) (c:Code):Option (List Nat×List Nat×List Nat) :=
 match c with
 | .loop _=>none
 | c=>(match yL0 c with
  | some i=>List.rec none (fun p _ ih=>bif Nat.beq p.1 f&&Nat.beq p.2.1 i then some p.2.2 else ih) liveT
  | none=>none)
noncomputable def PP:Program:=Tryz.prog
def GO0:List (FuncId×V):=[(11,.bool true)]
noncomputable def EP:Env:={ E0 with prim:=YS0 [] GO0,shared:=fun f=>E0.shared f||Nat.beq f 13||Nat.beq f 14||Nat.beq f 24,lit:=fun _=>true,pubRet:=fun _=>false }
noncomputable def unrO (f:FuncId) (_:Code) (n:Nat):Bool:=(Nat.beq f 5&&Nat.blt n 2)
def psF (f:FuncId) (t:TypeId):Option Bool :=
 bif Nat.beq t 44&&(Nat.beq f 13||Nat.beq f 14) then some true
 else bif Nat.beq t 28&&(Nat.beq f 7||Nat.beq f 9) then some true
 else bif Nat.beq t 46&&Nat.beq f 5 then some false else none
noncomputable def nzF (_:FuncId) (t:TypeId) (v:V):V :=
 bif Nat.beq t 46 then (match v with
  | .agg cs=>(match cs with
   | [a,b,c,d,e,f]=>.agg [a,b,c,Kd0 1 d,e,f]
   | cs=>.agg cs)
  | v=>v) else zW0 PP t v
theorem nzF_ok (f:FuncId) (t:TypeId) (v:V):Wk v (nzF f t v):=by
 unfold nzF
 cases Nat.beq t 46 with
 | false=>exact Yx0 PP t v
 | true =>
  simp only [cond_true]
  split
  ·split
   ·exact .aggs (.cons (.refl _) (.cons (.refl _) (.cons (.refl _) (.cons (QK1 _ _) (.cons (.refl _) (.cons (.refl _) .nil))))))
   ·exact .refl _
  ·exact .refl _
noncomputable def CP:Cf:={ unr:=unrO,inl:=T.get false ((.n .e false (.n (.n .e false (.n .e false (.n .e true .e))) false (.n (.n (.n .e true .e) false .e) false .e)))),drow:=fun t=>T.get false drowT t||Nat.beq t 28,sn:=fun t=>Nat.beq t 28,lf:=fun f=>Nat.beq f 28,live:=liveO,pb:=T.get false pbT,ps:=psF,nz:=nzF,nzok:=nzF_ok,cb:=fun t=>Nat.beq t 41,apf:=fun f=>Nat.beq f 13||Nat.beq f 7||Nat.beq f 8||Nat.beq f 9||Nat.beq f 4,shf:=fun f=>Nat.beq f 22,srow:=fun t=>Nat.beq t 3||Nat.beq t 41||Nat.beq t 9,norm:=fun f v=>Bool.rec v (Kx0 PP f v) (T.get false pbT f),ok:=fun f x=>by cases T.get false pbT f <;> first | exact Wk.refl x | exact ZX1 PP f x }
/-- WHAT CALLS COME TO. -/
def vEq (a b:V):Prop:=a=b
noncomputable def rI (a:Int):Res:=.ret (.int .i64 a) Heap.empty
noncomputable def rO (a:Bool):Res:=.ret (.bool a) Heap.empty
noncomputable def rW (a:List UInt8):Res:=.ret (.str a) Heap.empty
noncomputable def qN (e:Int):Res:=.dret true (hp [.row 0 0 0 0 none [.int .i64 e]])
noncomputable abbrev nI {β:Type} (bot:β) (a:Int) (x:β):β:=need bot ((-9223372036854775808≤a)∧(a≤9223372036854775807)) x
noncomputable abbrev nX {β:Type} (bot:β) (i:Int) (n:Nat) (x:β):β:=need bot (((0:Int)≤i)∧(i<(n:Int))) x
noncomputable abbrev nG {β:Type} (bot:β) (v n:Nat) (l:List V) (x:β):β:=need bot ((v=v)∧((0=0)∧((n=List.length l)∧(GndR l)))) x
def yR0:Code→List Code
 | .seq a b=>yR0 a++yR0 b
 | .cond _ a b=>yR0 a++yR0 b
 | .block _ b=>yR0 b
 | .loop b=>b::yR0 b
 | .rangeFunc _ _ a b=>yR0 a++yR0 b
 | .scope b=>yR0 b
 | _=>[]
def lpB (P:Program) (f i:Nat):Code :=
 match P.funcs[f]? with
 | some fn=>(match fn.body with
  | some b=>((yR0 b)[i]?).getD .skip
  | none=>.skip)
 | none=>.skip
def jn {β:Type} (s:β) (F:β→β):β:=F s
noncomputable abbrev tmS0 (es ms:List V):T V:=T.set undef (V.func (Fn.func 28) [] [V.ptr 3 0 0,V.ptr 4 0 0]) (T.set undef (V.osl 1 ms) (T.set undef (V.osl 4 es) (T.set undef (V.ptr 2 0 0) (T.set undef (V.ptr 1 0 0) (T.set undef (V.ptr 0 0 0) (T.set undef V.nils (T.set undef V.nils (yg0 [V.osl 4 es,V.osl 1 ms] 0 (zX0 6)) 4) 5) 6) 7) 8) 11) 12) 13
noncomputable abbrev lpS0 (es ms:List V):Obj:=.loop .ready none 8 35 (tmS0 es ms) [14,15] (rAs PP 8 0) (rBd PP 8 0) 5
noncomputable abbrev lpS (es ms:List V):Obj:=.loop .ready none 8 35 (mkT 35 [(0,.osl 4 es),(1,.osl 1 ms),(2,.tup []),(3,.tup []),(4,.nils),(5,.nils),(6,.ptr 0 0 0),(7,.ptr 1 0 0),(8,.ptr 2 0 0),(9,.tup []),(10,.tup []),(11,.osl 4 es),(12,.osl 1 ms),(13,.func (.func 28) [] [.ptr 3 0 0,.ptr 4 0 0]),(14,.tup []),(15,.tup []),(16,.tup []),(17,.tup []),(18,.tup []),(19,.tup []),(20,.tup []),(21,.tup []),(22,.tup []),(23,.tup []),(24,.tup []),(25,.tup []),(26,.tup []),(27,.tup []),(28,.tup []),(29,.tup []),(30,.tup []),(31,.tup []),(32,.tup []),(33,.tup []),(34,.tup [])]) [14,15] (rAs PP 8 0) (rBd PP 8 0) 5
noncomputable abbrev hpS (es ms:List V) (lv ov to:V) (r:List Obj):Heap:=hp (.row 0 28 1 0 (some 1) [lv]::.row 0 32 1 0 (some 1) [ov]::.row 0 51 1 0 (some 1) [to]::.row 0 29 1 0 (some 1) [.osl 4 es]::.row 0 23 1 0 (some 1) [.osl 1 ms]::.defs::lpS es ms::r)
noncomputable abbrev rwT (v:Nat) (l:List V):Obj:=.row v 9 1 0 none l
noncomputable abbrev rwO (v:Nat) (l:List V) (x:V):Obj:=.rowS v 28 1 0 l x
structure Sp where
 u:Bool
 v1:Nat
 n1:Nat
 l1:List V
 s:Bool
 v2:Nat
 n2:Nat
 l2:List V
 o:Nat
 t:Bool
 v3:Nat
 n3:Nat
 l3:List V
 w:Bool
 v4:Nat
 p4:Nat
 l4:List V
 es:List V
 ms:List V
noncomputable abbrev rwG (v p:Nat) (l:List V):Obj:=.row v 9 1 p none l
noncomputable def rSp (fr:Fr) (s t u w:Bool) (a:Sp):Res:=.code (.exit 0) ((base fr.fn fr.n).on [(0,.func (.yield 6) [] []),(2,.ptr 4 0 0)])
 (Bool.rec (Bool.rec (hpS a.es a.ms .nils .nils (.ptr 0 0 0) []) (hpS a.es a.ms (.sl 7 a.v1 0 a.n1 none) .nils (.ptr 0 0 0) [rwT a.v1 a.l1]) u)
  (Bool.rec
   (Bool.rec
    (Bool.rec (hpS a.es a.ms .nils (.sl 7 a.v2 0 a.n2 none) (.ptr 7 a.v2 a.o) [rwO a.v2 a.l2 .nils]) (hpS a.es a.ms (.sl 7 a.v1 0 a.n1 none) (.sl 8 a.v2 0 a.n2 none) (.ptr 8 a.v2 a.o) [rwT a.v1 a.l1,rwO a.v2 a.l2 .nils]) u)
    (Bool.rec (hpS a.es a.ms .nils (.sl 7 a.v2 0 a.n2 none) (.ptr 7 a.v2 a.o) [rwO a.v2 a.l2 (.sl 8 a.v3 0 a.n3 none),rwT a.v3 a.l3]) (hpS a.es a.ms (.sl 7 a.v1 0 a.n1 none) (.sl 8 a.v2 0 a.n2 none) (.ptr 8 a.v2 a.o) [rwT a.v1 a.l1,rwO a.v2 a.l2 (.sl 9 a.v3 0 a.n3 none),rwT a.v3 a.l3]) u) t)
   (Bool.rec
    (Bool.rec (hpS a.es a.ms .nils (.sl 7 a.v2 0 a.n2 none) (.ptr 7 a.v2 a.o) [rwO a.v2 a.l2 .nils,rwG a.v4 a.p4 a.l4]) (hpS a.es a.ms (.sl 7 a.v1 0 a.n1 none) (.sl 8 a.v2 0 a.n2 none) (.ptr 8 a.v2 a.o) [rwT a.v1 a.l1,rwO a.v2 a.l2 .nils,rwG a.v4 a.p4 a.l4]) u)
    (Bool.rec (hpS a.es a.ms .nils (.sl 7 a.v2 0 a.n2 none) (.ptr 7 a.v2 a.o) [rwO a.v2 a.l2 (.sl 9 a.v3 0 a.n3 none),rwG a.v4 a.p4 a.l4,rwT a.v3 a.l3]) (hpS a.es a.ms (.sl 7 a.v1 0 a.n1 none) (.sl 8 a.v2 0 a.n2 none) (.ptr 8 a.v2 a.o) [rwT a.v1 a.l1,rwO a.v2 a.l2 (.sl 10 a.v3 0 a.n3 none),rwG a.v4 a.p4 a.l4,rwT a.v3 a.l3]) u) t) w) s)
noncomputable def rSS (a:List V×List V):Res:=.ret (.tup [.osl 1 a.1,.osl 1 a.2]) Heap.empty
structure Ap where
 es:List V
 ms:List V
 xs:List V
 u:Bool
 v1:Nat
 n1:Nat
 l1:List V
 s:Bool
 v2:Nat
 n2:Nat
 l2:List V
 m:Int
noncomputable def rA0 (fr:Fr) (a:Int×List V×List V):Res:=.code (.exit 0) ((base fr.fn fr.n).on [(0,.osl 4 a.2.1),(1,.osl 1 a.2.2),(5,.int .i64 a.1)]) Heap.empty
noncomputable def rA1 (fr:Fr) (u:Bool) (a:Ap):Res:=Bool.rec
 (.code (.exit 2) ((base fr.fn fr.n).on [(0,.osl 4 a.es),(1,.osl 1 a.ms),(8,.osl 1 a.xs),(9,.nils)]) Heap.empty)
 (.code (.exit 2) ((base fr.fn fr.n).on [(0,.osl 4 a.es),(1,.osl 1 a.ms),(8,.osl 1 a.xs),(9,.sl 0 a.v1 0 a.n1 none)]) (hp [rwT a.v1 a.l1])) u
def zS0:V→Bool
 | .sl _ _ _ _ _=>true
 | _=>false
noncomputable def rA2 (fr:Fr) (u s:Bool) (a:Ap):Res:=Bool.rec
 (Bool.rec
  (.code (.exit 4) ((base fr.fn fr.n).on [(0,.osl 4 a.es),(1,.osl 1 a.ms),(8,.osl 1 a.xs),(9,.nils),(11,.nils),(12,.int .i64 a.m)]) Heap.empty)
  (.code (.exit 4) ((base fr.fn fr.n).on [(0,.osl 4 a.es),(1,.osl 1 a.ms),(8,.osl 1 a.xs),(9,.nils),(11,.sl 0 a.v2 0 a.n2 none),(12,.int .i64 a.m)]) (hp [rwT a.v2 a.l2])) s)
 (Bool.rec
  (.code (.exit 4) ((base fr.fn fr.n).on [(0,.osl 4 a.es),(1,.osl 1 a.ms),(8,.osl 1 a.xs),(9,.sl 0 a.v1 0 a.n1 none),(11,.nils),(12,.int .i64 a.m)]) (hp [rwT a.v1 a.l1]))
  (.code (.exit 4) ((base fr.fn fr.n).on [(0,.osl 4 a.es),(1,.osl 1 a.ms),(8,.osl 1 a.xs),(9,.sl 0 a.v1 0 a.n1 none),(11,.sl 1 a.v2 0 a.n2 none),(12,.int .i64 a.m)]) (hp [rwT a.v1 a.l1,rwT a.v2 a.l2])) s) u
noncomputable def rA3 (fr:Fr) (s:Bool) (a:Bool×Nat×Nat):Res:=Bool.rec (.code (.exit 6) ((base fr.fn fr.n).on []) Heap.empty) (.code (.exit 6) ((base fr.fn fr.n).on []) (hp [rwT a.2.1 [],rwT a.2.2 []])) s
structure TdX where
 Sp:Task→PR Sp Int
 SS:Task→PR (List V×List V) Int
 I:Task→PR Int Int
 O:Task→PR Bool Int
 W:Task→PR (List UInt8) Int
 A0:Task→PR (Int×List V×List V) Int
 A1:Task→PR Ap Int
 A2:Task→PR Ap Int
 A3:Task→PR (Bool×Nat×Nat) Int
noncomputable def tbTdK (X:TdX) (t:Task) (k:Nat):Option Ent :=
 match k with
 | 1=>some (ent (X.I t) rI qN)
 | 2=>some (ent (X.O t) rO qN)
 | 3=>some (ent (X.W t) rW qN)
 | 4=>some (ent (X.SS t) rSS qN)
 | _=>none
def kindTd:T Nat:=(.n .e 0 (.n (.n (.n .e 4 .e) 0 .e) 0 .e))
def XT1:T Nat:=(.n .e 0 (.n (.n .e 2 (.n .e 0 (.n .e 1 .e))) 0 .e))
noncomputable def tbTdL (X:TdX) (t:Task) (b:Code) (fr:Fr):Option Ent :=
 match T.get 0 XT1 fr.fn with
 | 1=>some (ent16 (X.Sp t) (fun a=>a.s) (fun a=>a.t) (fun a=>a.u) (fun a=>a.w) (rSp fr) qN)
 | 2=>(match yL0 b with
  | some 3=>some (ent (X.A0 t) (rA0 fr) qN)
  | some 12=>some (ji0 (X.A1 t) (fun a=>a.u) (rA1 fr) qN)
  | some 18=>some (ji0 (X.A2 t) (fun a=>a.s) (rA2 fr (zS0 (T.get undef fr.tm 9))) qN)
  | some 26=>some (ji0 (X.A3 t) (fun a=>a.1) (rA3 fr) qN)
  | _=>none)
 | _=>none
noncomputable def zc0 (X:TdX) (t:Task):Option Ent :=
 match t with
 | .call f _ _=>tbTdK X t (T.get 0 kindTd f)
 | .code c fr _=>(match c with
  | .loop b=>tbTdL X t b fr
  | _=>none)
 | _=>none
/-- FROM SOME NUMBER ON. -/
def Evt (p:Nat→Prop):Prop:=∃ n0,∀ n,n0≤n→p n
theorem Evt.and {p q:Nat→Prop} (h1:Evt p) (h2:Evt q):Evt fun n=>p n∧q n:=by
 obtain ⟨a,h1⟩:=h1
 obtain ⟨b,h2⟩:=h2
 exact ⟨max a b,fun n hn=>⟨h1 n (by omega),h2 n (by omega)⟩⟩
theorem Evt.mono {p q:Nat→Prop} (h1:Evt p) (h:∀ n,p n→q n):Evt q:=by
 obtain ⟨a,h1⟩:=h1
 exact ⟨a,fun n hn=>h n (h1 n hn)⟩
theorem Evt.of {p:Nat→Prop} (h:∀ n,p n):Evt p:=⟨0,fun n _=>h n⟩
def Rn (e:Nat→Option Res) (Q:Res→Prop):Prop:=∃ r,Q r∧Evt fun n=>e n=some r
theorem Rn.ret {Q:Res→Prop} {r:Res} (h:Q r):Rn (fun _=>some r) Q:=⟨r,h,.of fun _=>rfl⟩
theorem Rn.need {φ:Prop} {e:Nat→Option Res} {Q:Res→Prop} (hφ:φ) (h:Rn e Q):Rn (fun n=>need none φ (e n)) Q:=by
 obtain ⟨r,hr,hE⟩:=h
 exact ⟨r,hr,hE.mono fun n h=>by show AM.need none φ (e n)=some r;unfold AM.need;rw [if_pos hφ];exact h⟩
theorem Rn.cond {c:Bool} {a b:Nat→Option Res} {Q:Res→Prop} (h1:c=true→Rn a Q) (h2:c=false→Rn b Q):Rn (fun n=>bif c then a n else b n) Q:=by
 cases c with
 | true=>exact h1 rfl
 | false=>exact h2 rfl
theorem Rn.dec {p:Prop} [Decidable p] {a b:Nat→Option Res} {Q:Res→Prop} (h1:p→Rn a Q) (h2:¬ p→Rn b Q):Rn (fun n=>bif decide p then a n else b n) Q :=
 .cond (fun h=>h1 (of_decide_eq_true h)) (fun h=>h2 (of_decide_eq_false h))
theorem Rn.ndec {p:Prop} [Decidable p] {a b:Nat→Option Res} {Q:Res→Prop} (h1:¬ p→Rn a Q) (h2:p→Rn b Q):Rn (fun n=>bif !decide p then a n else b n) Q :=
 .cond (fun h=>h1 (by simpa using h)) (fun h=>h2 (by simpa using h))
theorem Rn.bnd {α ε:Type} {x:Nat→PR α ε} {v:α} {f:α→Nat→Option Res} {g:ε→Nat→Option Res} {Q:Res→Prop} (hx:Evt fun n=>x n=.ok v) (hf:Rn (f v) Q):Rn (fun n=>PR.bnd none (x n) (fun a=>f a n) (fun e=>g e n)) Q:=by
 obtain ⟨r,hr,hE⟩:=hf
 exact ⟨r,hr,(hx.and hE).mono fun n ⟨h1,h2⟩=>by show PR.bnd none (x n) _ _=_;rw [show x n=_ from h1];exact h2⟩
theorem Rn.join {s:Nat→Option Res} {F:Option Res→Nat→Option Res} {Q:Res→Prop} (hs:Rn s Q) (hF:∀ (j:Nat→Option Res),Rn j Q→Rn (fun n=>F (j n) n) Q):Rn (fun n=>jn (s n) (fun j=>F j n)) Q:=hF s hs
theorem Rn.nI {a:Int} {e:Nat→Option Res} {Q:Res→Prop} (h:-9223372036854775808≤a∧a≤9223372036854775807) (h2:Rn e Q):Rn (fun n=>AM.nI none a (e n)) Q:=.need h h2
theorem Rn.nX {i:Int} {m:Nat} {e:Nat→Option Res} {Q:Res→Prop} (h:0≤i∧i<(m:Int)) (h2:Rn e Q):Rn (fun n=>AM.nX none i m (e n)) Q:=.need h h2
theorem Rn.nG {v m:Nat} {l:List V} {e:Nat→Option Res} {Q:Res→Prop} (h:m=l.length) (h1:GndR l) (h2:Rn e Q):Rn (fun n=>AM.nG none v m l (e n)) Q:=.need ⟨rfl,rfl,h,h1⟩ h2
noncomputable def frO:Task→Fr
 | .code _ fr _=>fr
 | _=>base 0 0
theorem Rn.of {e e':Nat→Option Res} {Q:Res→Prop} (h:∀ n,e n=e' n) (h2:Rn e' Q):Rn e Q:=by
 rw [show e=e' from funext h];exact h2
def Tk (t:Task) (r:Res):Prop:=Evt fun n=>rn PP EP CP n t=r
theorem exR_L {α ε:Type} {R:α→Res} {Q:ε→Res} {L:Res→α} (hL:∀ a,L (R a)=a) (a:α):exR R Q (R a)=.ok a:=exR_R (fun a b e=>by rw [← hL a,e,hL b]) a
theorem Zy0 {α ε:Type} {R:α→Res} {Q:ε→Res} (a:α):∃ a',R a'=R a∧exR R Q (R a)=.ok a':=by
 unfold exR
 have h1:∃ b,R a=R b:=⟨a,rfl⟩
 rw [dif_pos h1]
 exact ⟨_,(Classical.choose_spec h1).symm,rfl⟩
noncomputable def XT (n:Nat):TdX where
 Sp:=fun t=>exR (fun a=>rSp (frO t) a.s a.t a.u a.w a) qN (rn PP EP CP n t)
 SS:=fun t=>exR rSS qN (rn PP EP CP n t)
 I:=fun t=>exR rI qN (rn PP EP CP n t)
 O:=fun t=>exR rO qN (rn PP EP CP n t)
 W:=fun t=>exR rW qN (rn PP EP CP n t)
 A0:=fun t=>exR (rA0 (frO t)) qN (rn PP EP CP n t)
 A1:=fun t=>exR (fun a=>rA1 (frO t) a.u a) qN (rn PP EP CP n t)
 A2:=fun t=>exR (fun a=>rA2 (frO t) (zS0 (T.get undef (frO t).tm 9)) a.s a) qN (rn PP EP CP n t)
 A3:=fun t=>exR (fun a=>rA3 (frO t) a.1 a) qN (rn PP EP CP n t)
theorem tblXT (n:Nat):jE0 (rn PP EP CP n) (zc0 (XT n)):=by
 intro t e he
 unfold zc0 at he
 split at he
 ·unfold tbTdK at he
  split at he <;> first | (cases he;done) | exact jj0 (Option.some.inj he)
 ·rename_i c fr h
  split at he
  ·unfold tbTdL at he
   split at he <;> first | (cases he;done) | exact YF1 (R:=rSp fr) (Option.some.inj he) | (split at he <;> first | (cases he;done) | exact jj0 (Option.some.inj he) | exact jQ0 (R:=rA1 _) (Option.some.inj he) | exact jQ0 (R:=rA3 _) (Option.some.inj he) | exact jQ0 (R:=rA2 _ _) (Option.some.inj he))
  ·cases he
 ·cases he
def OkT {α ε:Type} (K:TdX→PR α ε) (P:α→Prop):Prop:=∃ a,P a∧Evt fun n=>K (XT n)=.ok a
theorem Rn.bndT {α ε:Type} {K:TdX→PR α ε} {P:α→Prop} {f:α→Nat→Option Res} {g:ε→Nat→Option Res} {Q:Res→Prop} (h:OkT K P) (hf:∀ a,P a→Rn (f a) Q):Rn (fun n=>PR.bnd none (K (XT n)) (fun a=>f a n) (fun e=>g e n)) Q:=by
 obtain ⟨a,hP,hE⟩:=h
 exact .bnd hE (hf a hP)
theorem Tk.byT {t:Task} {Q:Res→Prop} (h:Rn (fun n=>evN PP EP CP (zc0 (XT n)) (rn PP EP CP n) none t some) Q):∃ r,Q r∧Tk t r:=by
 obtain ⟨r,hr,a,hE⟩:=h
 refine ⟨r,hr,a+1,fun n hn=>?_⟩
 obtain ⟨n,rfl⟩:∃ m,n=m+1:=⟨n-1,by omega⟩
 have h1:=KN0 (bot:=(none:Option Res)) (tblXT n) t some
 have h2:evN PP EP CP (zc0 (XT n)) (rn PP EP CP n) none t some=some r:=hE n (by omega)
 rw [h2] at h1
 rcases h1 with h1 | h1
 ·cases h1
 ·exact (Option.some.inj h1).symm
theorem OkT.nrm {α ε:Type} {K:TdX→PR α ε} {R:α→Res} {Q:ε→Res} {L:Res→α} {N:α→α} {t:Task} {P:α→Prop} (hK:∀ n,K (XT n)=exR R Q (rn PP EP CP n t)) (hL:∀ a,L (R a)=N a) (hN:∀ a,P (N a)→P a) (h:∃ r,(∃ a,r=R a∧P (N a))∧Tk t r):OkT K P:=by
 obtain ⟨r,⟨a,rfl,hP⟩,hT⟩:=h
 obtain ⟨a',h1,h2⟩:=Zy0 (R:=R) (Q:=Q) a
 refine ⟨a',hN _ ?_,hT.mono fun n h=>by show K (XT n)=_;rw [hK,show rn PP EP CP n t=R a from h,h2]⟩
 rw [← hL,h1,hL]
 exact hP
theorem OkT.tk {α ε:Type} {K:TdX→PR α ε} {R:α→Res} {Q:ε→Res} {L:Res→α} {t:Task} {P:α→Prop} (hK:∀ n,K (XT n)=exR R Q (rn PP EP CP n t)) (hL:∀ a,L (R a)=a) (h:∃ r,(∃ a,r=R a∧P a)∧Tk t r):OkT K P :=
 .nrm (N:=fun a=>a) hK hL (fun _ h=>h) h
theorem Rn.decT {p:Prop} [Decidable p] {a b:Nat→Option Res} {Q:Res→Prop} (h:p) (ha:Rn a Q):Rn (fun n=>bif decide p then a n else b n) Q:=.dec (fun _=>ha) (fun e=>absurd h e)
theorem Rn.decF {p:Prop} [Decidable p] {a b:Nat→Option Res} {Q:Res→Prop} (h:¬ p) (hb:Rn b Q):Rn (fun n=>bif decide p then a n else b n) Q:=.dec (fun e=>absurd e h) (fun _=>hb)
theorem Rn.jo {s:Nat→Option Res} {F:Option Res→Nat→Option Res} {Q:Res→Prop} (h:Rn (fun n=>F (s n) n) Q):Rn (fun n=>jn (s n) (fun j=>F j n)) Q:=h
theorem Rn.ct {a b:Nat→Option Res} {Q:Res→Prop} (h:Rn a Q):Rn (fun n=>bif true then a n else b n) Q:=h
/-- The ends of Spread's loop. -/
noncomputable def fS1 {β:Type} (bot:β) (k:Res→β) (a:Sp):β :=
 bif a.s then (bif a.t then (bif a.u then (jn (need bot (GndR (a.l3)) (k (.code (.exit 0) ((base 28 29).on [(0,(.func (.yield 6) [] [])),(2,(.ptr 4 0 0))]) (hp [.row 0 28 1 0 (some 1) [(.sl 7 (a.v1) 0 (a.n1) none)],.row 0 32 1 0 (some 1) [(.sl 8 (a.v2) 0 (a.n2) none)],.row 0 51 1 0 (some 1) [(.ptr 8 (a.v2) (a.o))],.row 0 29 1 0 (some 1) [(.osl 4 (a.es))],.row 0 23 1 0 (some 1) [(.osl 1 (a.ms))],.defs,lpS a.es a.ms,.row (a.v1) 9 1 0 none (a.l1),.rowS (a.v2) 28 1 0 (a.l2) (.sl 9 (a.v3) 0 (a.n3) none),.row (a.v3) 9 1 0 none (a.l3)]))))
 (fun j0:β=>bif a.w then (need bot (GndR (a.l1)) (need bot (GndR (a.l2)) (need bot (GndR (a.l4)) (j0))))
 else (need bot (GndR (a.l1)) (need bot (GndR (a.l2)) (j0)))))
 else (jn (need bot (GndR (a.l3)) (k (.code (.exit 0) ((base 28 29).on [(0,(.func (.yield 6) [] [])),(2,(.ptr 4 0 0))]) (hp [.row 0 28 1 0 (some 1) [.nils],.row 0 32 1 0 (some 1) [(.sl 7 (a.v2) 0 (a.n2) none)],.row 0 51 1 0 (some 1) [(.ptr 7 (a.v2) (a.o))],.row 0 29 1 0 (some 1) [(.osl 4 (a.es))],.row 0 23 1 0 (some 1) [(.osl 1 (a.ms))],.defs,lpS a.es a.ms,.rowS (a.v2) 28 1 0 (a.l2) (.sl 8 (a.v3) 0 (a.n3) none),.row (a.v3) 9 1 0 none (a.l3)]))))
 (fun j1:β=>bif a.w then (need bot (GndR (a.l2)) (need bot (GndR (a.l4)) (j1)))
 else (need bot (GndR (a.l2)) (j1)))))
 else (bif a.u then (bif a.w then (need bot (GndR (a.l1)) (need bot (GndR (a.l2)) (need bot (GndR (a.l4)) (k (.code (.exit 0) ((base 28 29).on [(0,(.func (.yield 6) [] [])),(2,(.ptr 4 0 0))]) (hp [.row 0 28 1 0 (some 1) [(.sl 7 (a.v1) 0 (a.n1) none)],.row 0 32 1 0 (some 1) [(.sl 8 (a.v2) 0 (a.n2) none)],.row 0 51 1 0 (some 1) [(.ptr 8 (a.v2) (a.o))],.row 0 29 1 0 (some 1) [(.osl 4 (a.es))],.row 0 23 1 0 (some 1) [(.osl 1 (a.ms))],.defs,lpS a.es a.ms,.row (a.v1) 9 1 0 none (a.l1),.rowS (a.v2) 28 1 0 (a.l2) .nils]))))))
 else (need bot (GndR (a.l1)) (need bot (GndR (a.l2)) (k (.code (.exit 0) ((base 28 29).on [(0,(.func (.yield 6) [] [])),(2,(.ptr 4 0 0))]) (hp [.row 0 28 1 0 (some 1) [(.sl 7 (a.v1) 0 (a.n1) none)],.row 0 32 1 0 (some 1) [(.sl 8 (a.v2) 0 (a.n2) none)],.row 0 51 1 0 (some 1) [(.ptr 8 (a.v2) (a.o))],.row 0 29 1 0 (some 1) [(.osl 4 (a.es))],.row 0 23 1 0 (some 1) [(.osl 1 (a.ms))],.defs,lpS a.es a.ms,.row (a.v1) 9 1 0 none (a.l1),.rowS (a.v2) 28 1 0 (a.l2) .nils]))))))
 else (bif a.w then (need bot (GndR (a.l2)) (need bot (GndR (a.l4)) (k (.code (.exit 0) ((base 28 29).on [(0,(.func (.yield 6) [] [])),(2,(.ptr 4 0 0))]) (hp [.row 0 28 1 0 (some 1) [.nils],.row 0 32 1 0 (some 1) [(.sl 7 (a.v2) 0 (a.n2) none)],.row 0 51 1 0 (some 1) [(.ptr 7 (a.v2) (a.o))],.row 0 29 1 0 (some 1) [(.osl 4 (a.es))],.row 0 23 1 0 (some 1) [(.osl 1 (a.ms))],.defs,lpS a.es a.ms,.rowS (a.v2) 28 1 0 (a.l2) .nils])))))
 else (need bot (GndR (a.l2)) (k (.code (.exit 0) ((base 28 29).on [(0,(.func (.yield 6) [] [])),(2,(.ptr 4 0 0))]) (hp [.row 0 28 1 0 (some 1) [.nils],.row 0 32 1 0 (some 1) [(.sl 7 (a.v2) 0 (a.n2) none)],.row 0 51 1 0 (some 1) [(.ptr 7 (a.v2) (a.o))],.row 0 29 1 0 (some 1) [(.osl 4 (a.es))],.row 0 23 1 0 (some 1) [(.osl 1 (a.ms))],.defs,lpS a.es a.ms,.rowS (a.v2) 28 1 0 (a.l2) .nils])))))))
 else (jn (bif a.u then (jn (need bot (GndR (a.l1)) (k (.code (.exit 0) ((base 28 29).on [(0,(.func (.yield 6) [] [])),(2,(.ptr 4 0 0))]) (hp [.row 0 28 1 0 (some 1) [(.sl 7 (a.v1) 0 (a.n1) none)],.row 0 32 1 0 (some 1) [.nils],.row 0 51 1 0 (some 1) [(.ptr 0 0 0)],.row 0 29 1 0 (some 1) [(.osl 4 (a.es))],.row 0 23 1 0 (some 1) [(.osl 1 (a.ms))],.defs,lpS a.es a.ms,.row (a.v1) 9 1 0 none (a.l1)]))))
 (fun j2:β=>bif a.w then (j2)
 else (j2)))
 else (bif a.w then (k (.code (.exit 0) ((base 28 29).on [(0,(.func (.yield 6) [] [])),(2,(.ptr 4 0 0))]) (hp [.row 0 28 1 0 (some 1) [.nils],.row 0 32 1 0 (some 1) [.nils],.row 0 51 1 0 (some 1) [(.ptr 0 0 0)],.row 0 29 1 0 (some 1) [(.osl 4 (a.es))],.row 0 23 1 0 (some 1) [(.osl 1 (a.ms))],.defs,lpS a.es a.ms])))
 else (k (.code (.exit 0) ((base 28 29).on [(0,(.func (.yield 6) [] [])),(2,(.ptr 4 0 0))]) (hp [.row 0 28 1 0 (some 1) [.nils],.row 0 32 1 0 (some 1) [.nils],.row 0 51 1 0 (some 1) [(.ptr 0 0 0)],.row 0 29 1 0 (some 1) [(.osl 4 (a.es))],.row 0 23 1 0 (some 1) [(.osl 1 (a.ms))],.defs,lpS a.es a.ms])))))
 (fun j3:β=>bif a.t then (j3)
 else (j3)))
noncomputable def fS3 {β:Type} (bot:β) (k:Res→β) (a:Sp):β :=
 bif a.s then (bif a.t then (bif a.u then (jn (need bot (GndR (a.l3)) (k (.code (.exit 0) ((base 28 29).on [(0,(.func (.yield 6) [] [])),(2,(.ptr 4 0 0))]) (hp [.row 0 28 1 0 (some 1) [(.sl 7 (a.v1) 0 (a.n1) none)],.row 0 32 1 0 (some 1) [(.sl 8 (a.v2) 0 (a.n2) none)],.row 0 51 1 0 (some 1) [(.ptr 8 (a.v2) (a.o))],.row 0 29 1 0 (some 1) [(.osl 4 (a.es))],.row 0 23 1 0 (some 1) [(.osl 1 (a.ms))],.defs,lpS a.es a.ms,.row (a.v1) 9 1 0 none (a.l1),.rowS (a.v2) 28 1 0 (a.l2) (.sl 9 (a.v3) 0 (a.n3) none),.row (a.v3) 9 1 0 none (a.l3)]))))
 (fun j0:β=>bif a.w then (need bot (GndR (a.l1)) (need bot (GndR (a.l2)) (need bot (GndR (a.l4)) (j0))))
 else (need bot (GndR (a.l1)) (need bot (GndR (a.l2)) (j0)))))
 else (bif a.w then (need bot (GndR (a.l2)) (need bot (GndR (a.l4)) (need bot (GndR (a.l3)) (k (.code (.exit 0) ((base 28 29).on [(0,(.func (.yield 6) [] [])),(2,(.ptr 4 0 0))]) (hp [.row 0 28 1 0 (some 1) [.nils],.row 0 32 1 0 (some 1) [(.sl 7 (a.v2) 0 (a.n2) none)],.row 0 51 1 0 (some 1) [(.ptr 7 (a.v2) (a.o))],.row 0 29 1 0 (some 1) [(.osl 4 (a.es))],.row 0 23 1 0 (some 1) [(.osl 1 (a.ms))],.defs,lpS a.es a.ms,.rowS (a.v2) 28 1 0 (a.l2) (.sl 9 (a.v3) 0 (a.n3) none),.row (a.v4) 9 1 (a.p4) none (bif Nat.beq a.p4 0 then [] else List.takeN a.l4 a.p4),.row (a.v3) 9 1 0 none (a.l3)]))))))
 else (need bot (GndR (a.l2)) (need bot (GndR (a.l3)) (k (.code (.exit 0) ((base 28 29).on [(0,(.func (.yield 6) [] [])),(2,(.ptr 4 0 0))]) (hp [.row 0 28 1 0 (some 1) [.nils],.row 0 32 1 0 (some 1) [(.sl 7 (a.v2) 0 (a.n2) none)],.row 0 51 1 0 (some 1) [(.ptr 7 (a.v2) (a.o))],.row 0 29 1 0 (some 1) [(.osl 4 (a.es))],.row 0 23 1 0 (some 1) [(.osl 1 (a.ms))],.defs,lpS a.es a.ms,.rowS (a.v2) 28 1 0 (a.l2) (.sl 8 (a.v3) 0 (a.n3) none),.row (a.v3) 9 1 0 none (a.l3)])))))))
 else (bif a.u then (bif a.w then (need bot (GndR (a.l1)) (need bot (GndR (a.l2)) (need bot (GndR (a.l4)) (k (.code (.exit 0) ((base 28 29).on [(0,(.func (.yield 6) [] [])),(2,(.ptr 4 0 0))]) (hp [.row 0 28 1 0 (some 1) [(.sl 7 (a.v1) 0 (a.n1) none)],.row 0 32 1 0 (some 1) [(.sl 8 (a.v2) 0 (a.n2) none)],.row 0 51 1 0 (some 1) [(.ptr 8 (a.v2) (a.o))],.row 0 29 1 0 (some 1) [(.osl 4 (a.es))],.row 0 23 1 0 (some 1) [(.osl 1 (a.ms))],.defs,lpS a.es a.ms,.row (a.v1) 9 1 0 none (a.l1),.rowS (a.v2) 28 1 0 (a.l2) .nils]))))))
 else (need bot (GndR (a.l1)) (need bot (GndR (a.l2)) (k (.code (.exit 0) ((base 28 29).on [(0,(.func (.yield 6) [] [])),(2,(.ptr 4 0 0))]) (hp [.row 0 28 1 0 (some 1) [(.sl 7 (a.v1) 0 (a.n1) none)],.row 0 32 1 0 (some 1) [(.sl 8 (a.v2) 0 (a.n2) none)],.row 0 51 1 0 (some 1) [(.ptr 8 (a.v2) (a.o))],.row 0 29 1 0 (some 1) [(.osl 4 (a.es))],.row 0 23 1 0 (some 1) [(.osl 1 (a.ms))],.defs,lpS a.es a.ms,.row (a.v1) 9 1 0 none (a.l1),.rowS (a.v2) 28 1 0 (a.l2) .nils]))))))
 else (bif a.w then (need bot (GndR (a.l2)) (need bot (GndR (a.l4)) (k (.code (.exit 0) ((base 28 29).on [(0,(.func (.yield 6) [] [])),(2,(.ptr 4 0 0))]) (hp [.row 0 28 1 0 (some 1) [.nils],.row 0 32 1 0 (some 1) [(.sl 7 (a.v2) 0 (a.n2) none)],.row 0 51 1 0 (some 1) [(.ptr 7 (a.v2) (a.o))],.row 0 29 1 0 (some 1) [(.osl 4 (a.es))],.row 0 23 1 0 (some 1) [(.osl 1 (a.ms))],.defs,lpS a.es a.ms,.rowS (a.v2) 28 1 0 (a.l2) .nils,.row (a.v4) 9 1 (a.p4) none (bif Nat.beq a.p4 0 then [] else List.takeN a.l4 a.p4)])))))
 else (need bot (GndR (a.l2)) (k (.code (.exit 0) ((base 28 29).on [(0,(.func (.yield 6) [] [])),(2,(.ptr 4 0 0))]) (hp [.row 0 28 1 0 (some 1) [.nils],.row 0 32 1 0 (some 1) [(.sl 7 (a.v2) 0 (a.n2) none)],.row 0 51 1 0 (some 1) [(.ptr 7 (a.v2) (a.o))],.row 0 29 1 0 (some 1) [(.osl 4 (a.es))],.row 0 23 1 0 (some 1) [(.osl 1 (a.ms))],.defs,lpS a.es a.ms,.rowS (a.v2) 28 1 0 (a.l2) .nils])))))))
 else (jn (bif a.u then (jn (need bot (GndR (a.l1)) (k (.code (.exit 0) ((base 28 29).on [(0,(.func (.yield 6) [] [])),(2,(.ptr 4 0 0))]) (hp [.row 0 28 1 0 (some 1) [(.sl 7 (a.v1) 0 (a.n1) none)],.row 0 32 1 0 (some 1) [.nils],.row 0 51 1 0 (some 1) [(.ptr 0 0 0)],.row 0 29 1 0 (some 1) [(.osl 4 (a.es))],.row 0 23 1 0 (some 1) [(.osl 1 (a.ms))],.defs,lpS a.es a.ms,.row (a.v1) 9 1 0 none (a.l1)]))))
 (fun j1:β=>bif a.w then (j1)
 else (j1)))
 else (bif a.w then (k (.code (.exit 0) ((base 28 29).on [(0,(.func (.yield 6) [] [])),(2,(.ptr 4 0 0))]) (hp [.row 0 28 1 0 (some 1) [.nils],.row 0 32 1 0 (some 1) [.nils],.row 0 51 1 0 (some 1) [(.ptr 0 0 0)],.row 0 29 1 0 (some 1) [(.osl 4 (a.es))],.row 0 23 1 0 (some 1) [(.osl 1 (a.ms))],.defs,lpS a.es a.ms])))
 else (k (.code (.exit 0) ((base 28 29).on [(0,(.func (.yield 6) [] [])),(2,(.ptr 4 0 0))]) (hp [.row 0 28 1 0 (some 1) [.nils],.row 0 32 1 0 (some 1) [.nils],.row 0 51 1 0 (some 1) [(.ptr 0 0 0)],.row 0 29 1 0 (some 1) [(.osl 4 (a.es))],.row 0 23 1 0 (some 1) [(.osl 1 (a.ms))],.defs,lpS a.es a.ms])))))
 (fun j2:β=>bif a.t then (j2)
 else (j2)))
theorem YS1 (X:TdX) (ih:Task→Res) {β:Type} (bot:β) (k:Res→β) (es ms:List V):evN PP EP CP (zc0 X) ih bot (.call 8 [.osl 4 es,.osl 1 ms] Heap.empty) k =
 PR.bnd bot (X.1 (.code (.loop (lpB PP 28 0)) ((base 28 29).on [(0,(.func (.yield 6) [] [])),(2,(.ptr 4 0 0)),(6,(.osl 4 (es))),(7,(.int .i64 ((↑(List.length es):Int)))),(8,(.int .i64 0))]) (hp [.row 0 28 1 0 (some 1) [.nils],.row 0 32 1 0 (some 1) [.nils],.row 0 51 1 0 (some 1) [(.ptr 0 0 0)],.row 0 29 1 0 (some 1) [(.osl 4 (es))],.row 0 23 1 0 (some 1) [(.osl 1 (ms))],.defs,lpS0 es ms]))) (fun a0 =>
 bif a0.s then (bif a0.t then (bif a0.u then (jn (nG bot a0.v3 (a0.n3) a0.l3 (nG bot a0.v1 (a0.n1) a0.l1 (need bot (((a0.v2)=(a0.v2))∧((0=0)∧(((a0.n2)=(List.length (a0.l2++[V.osl 1 a0.l3])))∧(GndR (a0.l2++[V.osl 1 a0.l3]))))) (k (.ret (.tup [(.osl 1 (a0.l1)),(.osl 1 (a0.l2++[V.osl 1 a0.l3]))]) Heap.empty)))))
 (fun j1:β=>bif a0.w then (j1)
 else (j1)))
 else (jn (nG bot a0.v3 (a0.n3) a0.l3 (need bot (((a0.v2)=(a0.v2))∧((0=0)∧(((a0.n2)=(List.length (a0.l2++[V.osl 1 a0.l3])))∧(GndR (a0.l2++[V.osl 1 a0.l3]))))) (k (.ret (.tup [(.osl 1 []),(.osl 1 (a0.l2++[V.osl 1 a0.l3]))]) Heap.empty))))
 (fun j2:β=>bif a0.w then (j2)
 else (j2))))
 else (bif a0.u then (jn (nG bot a0.v1 (a0.n1) a0.l1 (need bot (((a0.v2)=(a0.v2))∧((0=0)∧(((a0.n2)=(List.length (a0.l2++[V.osl 1 []])))∧(GndR (a0.l2++[V.osl 1 []]))))) (k (.ret (.tup [(.osl 1 (a0.l1)),(.osl 1 (a0.l2++[V.osl 1 []]))]) Heap.empty))))
 (fun j3:β=>bif a0.w then (j3)
 else (j3)))
 else (jn (need bot (((a0.v2)=(a0.v2))∧((0=0)∧(((a0.n2)=(List.length (a0.l2++[V.osl 1 []])))∧(GndR (a0.l2++[V.osl 1 []]))))) (k (.ret (.tup [(.osl 1 []),(.osl 1 (a0.l2++[V.osl 1 []]))]) Heap.empty)))
 (fun j4:β=>bif a0.w then (j4)
 else (j4)))))
 else (jn (bif a0.u then (bif a0.w then (nG bot a0.v1 (a0.n1) a0.l1 (k (.ret (.tup [(.osl 1 (a0.l1)),(.osl 1 [])]) Heap.empty)))
 else (nG bot a0.v1 (a0.n1) a0.l1 (k (.ret (.tup [(.osl 1 (a0.l1)),(.osl 1 [])]) Heap.empty))))
 else (bif a0.w then (k (.ret (.tup [(.osl 1 []),(.osl 1 [])]) Heap.empty))
 else (k (.ret (.tup [(.osl 1 []),(.osl 1 [])]) Heap.empty))))
 (fun j5:β=>bif a0.t then (j5)
 else (j5))))
 (fun _=>bot):=by kernel_rfl
theorem zE1 (X:TdX) (ih:Task→Res) {β:Type} (bot:β) (k:Res→β) (es ms:List V) (n:Int):evN PP EP CP (zc0 X) ih bot (.code (.loop (lpB PP 28 0)) ((base 28 29).on [(0,.func (.yield 6) [] []),(2,.ptr 4 0 0),(6,.osl 4 es),(7,.int .i64 es.length),(8,.int .i64 n)]) (hp [.row 0 28 1 0 (some 1) [.nils],.row 0 32 1 0 (some 1) [.nils],.row 0 51 1 0 (some 1) [.ptr 0 0 0],.row 0 29 1 0 (some 1) [.osl 4 es],.row 0 23 1 0 (some 1) [.osl 1 ms],.defs,lpS0 es ms])) k =
 bif decide (n<(↑(List.length es):Int)) then (nX bot (n) (List.length es) (need bot (ldC PP 41 4 (es) (Int.toNat n*4)) (jn (need bot (([V.nils]≠[])∧((1≤1099511627776)∧(24≤1099511627776))) (need bot ((-9223372036854775808≤0)∧((0:Int)≤9223372036854775807)) (need bot (((0:Int)≤0)∧((0:Int)<1)) (need bot ((0=0)∧(0=0)) (bif qb0 (gE 4 es (Int.toNat n*4) 3) then (need bot ((0=0)∧((0=0)∧(0≤0))) (need bot (vEq (.ptr 9 0 0) (.ptr 9 0 0)) (nI bot (n+1) (need bot (GndR []) (need bot (GndR []) (PR.bnd bot (X.1 (.code (.loop (lpB PP 28 0)) ((base 28 29).on [(0,(.func (.yield 6) [] [])),(2,(.ptr 4 0 0)),(6,(.osl 4 (es))),(7,(.int .i64 ((↑(List.length es):Int)))),(8,(.int .i64 (n+1)))]) (hp [.row 0 28 1 0 (some 1) [.nils],.row 0 32 1 0 (some 1) [(.sl 7 0 0 1 none)],.row 0 51 1 0 (some 1) [(.ptr 7 0 0)],.row 0 29 1 0 (some 1) [(.osl 4 (es))],.row 0 23 1 0 (some 1) [(.osl 1 (ms))],.defs,lpS es ms,.rowS 0 28 1 0 [] .nils]))) (fun a14=>fS1 bot k a14)
 (fun e14=>k (qN e14))))))))
 else (need bot ((gE 4 es (Int.toNat n*4) 3≠[])∧(((List.length (gE 4 es (Int.toNat n*4) 3))≤1099511627776)∧((List.length (gE 4 es (Int.toNat n*4) 3)*16)≤1099511627776))) (need bot ((0=0)∧((0=0)∧(0≤0))) (need bot (vEq (.ptr 9 0 0) (.ptr 9 0 0)) (nI bot (n+1) (need bot (GndR []) (need bot (GndR (gE 4 es (Int.toNat n*4) 3)) (need bot (GndR []) (need bot (GndR (gE 4 es (Int.toNat n*4) 3)) (PR.bnd bot (X.1 (.code (.loop (lpB PP 28 0)) ((base 28 29).on [(0,(.func (.yield 6) [] [])),(2,(.ptr 4 0 0)),(6,(.osl 4 (es))),(7,(.int .i64 ((↑(List.length es):Int)))),(8,(.int .i64 (n+1)))]) (hp [.row 0 28 1 0 (some 1) [.nils],.row 0 32 1 0 (some 1) [(.sl 7 0 0 1 none)],.row 0 51 1 0 (some 1) [(.ptr 7 0 0)],.row 0 29 1 0 (some 1) [(.osl 4 (es))],.row 0 23 1 0 (some 1) [(.osl 1 (ms))],.defs,lpS es ms,.rowS 0 28 1 0 [] (.sl 8 0 0 (List.length (gE 4 es (Int.toNat n*4) 3)) none),.row 0 9 1 0 none (gE 4 es (Int.toNat n*4) 3)]))) (fun a17=>fS1 bot k a17)
 (fun e17=>k (qN e17))))))))))))))))
 (fun j1:β=>bif decide ((↑(List.length ms):Int)≤n) then (j1)
 else (nX bot (n) (List.length ms) (need bot (ldX PP 4 1 (ms) (Int.toNat n*1)) (bif gB 1 ms (Int.toNat n*1) 0 then (bif qb0 (gE 4 es (Int.toNat n*4) 3) then (need bot (vEq (.ptr 0 0 0) (.ptr 0 0 0)) (nI bot (n+1) (PR.bnd bot (X.1 (.code (.loop (lpB PP 28 0)) ((base 28 29).on [(0,(.func (.yield 6) [] [])),(2,(.ptr 4 0 0)),(6,(.osl 4 (es))),(7,(.int .i64 ((↑(List.length es):Int)))),(8,(.int .i64 (n+1)))]) (hp [.row 0 28 1 0 (some 1) [.nils],.row 0 32 1 0 (some 1) [.nils],.row 0 51 1 0 (some 1) [(.ptr 0 0 0)],.row 0 29 1 0 (some 1) [(.osl 4 (es))],.row 0 23 1 0 (some 1) [(.osl 1 (ms))],.defs,lpS es ms]))) (fun a10=>fS1 bot k a10)
 (fun e10=>k (qN e10)))))
 else (need bot ((gE 4 es (Int.toNat n*4) 3≠[])∧(((List.length (gE 4 es (Int.toNat n*4) 3))≤1099511627776)∧((List.length (gE 4 es (Int.toNat n*4) 3)*16)≤1099511627776))) (need bot (vEq (.ptr 0 0 0) (.ptr 0 0 0)) (nI bot (n+1) (need bot (GndR (gE 4 es (Int.toNat n*4) 3)) (need bot (GndR (gE 4 es (Int.toNat n*4) 3)) (PR.bnd bot (X.1 (.code (.loop (lpB PP 28 0)) ((base 28 29).on [(0,(.func (.yield 6) [] [])),(2,(.ptr 4 0 0)),(6,(.osl 4 (es))),(7,(.int .i64 ((↑(List.length es):Int)))),(8,(.int .i64 (n+1)))]) (hp [.row 0 28 1 0 (some 1) [(.sl 7 0 0 (List.length (gE 4 es (Int.toNat n*4) 3)) none)],.row 0 32 1 0 (some 1) [.nils],.row 0 51 1 0 (some 1) [(.ptr 0 0 0)],.row 0 29 1 0 (some 1) [(.osl 4 (es))],.row 0 23 1 0 (some 1) [(.osl 1 (ms))],.defs,lpS es ms,.row 0 9 1 0 none (gE 4 es (Int.toNat n*4) 3)]))) (fun a13=>fS1 bot k a13)
 (fun e13=>k (qN e13)))))))))
 else (j1))))))))
 else (k (.code (.exit 0) ((base 28 29).on [(0,(.func (.yield 6) [] [])),(2,(.ptr 4 0 0))]) (hp [.row 0 28 1 0 (some 1) [.nils],.row 0 32 1 0 (some 1) [.nils],.row 0 51 1 0 (some 1) [(.ptr 0 0 0)],.row 0 29 1 0 (some 1) [(.osl 4 (es))],.row 0 23 1 0 (some 1) [(.osl 1 (ms))],.defs,lpS es ms]))):=by kernel_rfl
theorem zF1 (X:TdX) (ih:Task→Res) {β:Type} (bot:β) (k:Res→β) (es ms:List V) (n:Int):evN PP EP CP (zc0 X) ih bot (.code (.loop (lpB PP 28 0)) ((base 28 29).on [(0,.func (.yield 6) [] []),(2,.ptr 4 0 0),(6,.osl 4 es),(7,.int .i64 es.length),(8,.int .i64 n)]) (hpS es ms .nils .nils (.ptr 0 0 0) [])) k =
 bif decide (n<(↑(List.length es):Int)) then (nX bot (n) (List.length es) (need bot (ldC PP 41 4 (es) (Int.toNat n*4)) (jn (need bot (([V.nils]≠[])∧((1≤1099511627776)∧(24≤1099511627776))) (need bot ((-9223372036854775808≤0)∧((0:Int)≤9223372036854775807)) (need bot (((0:Int)≤0)∧((0:Int)<1)) (need bot ((0=0)∧(0=0)) (bif qb0 (gE 4 es (Int.toNat n*4) 3) then (need bot ((0=0)∧((0=0)∧(0≤0))) (need bot (vEq (.ptr 9 0 0) (.ptr 9 0 0)) (nI bot (n+1) (need bot (GndR []) (need bot (GndR []) (PR.bnd bot (X.1 (.code (.loop (lpB PP 28 0)) ((base 28 29).on [(0,(.func (.yield 6) [] [])),(2,(.ptr 4 0 0)),(6,(.osl 4 (es))),(7,(.int .i64 ((↑(List.length es):Int)))),(8,(.int .i64 (n+1)))]) (hp [.row 0 28 1 0 (some 1) [.nils],.row 0 32 1 0 (some 1) [(.sl 7 0 0 1 none)],.row 0 51 1 0 (some 1) [(.ptr 7 0 0)],.row 0 29 1 0 (some 1) [(.osl 4 (es))],.row 0 23 1 0 (some 1) [(.osl 1 (ms))],.defs,lpS es ms,.rowS 0 28 1 0 [] .nils]))) (fun a14=>fS1 bot k a14)
 (fun e14=>k (qN e14))))))))
 else (need bot ((gE 4 es (Int.toNat n*4) 3≠[])∧(((List.length (gE 4 es (Int.toNat n*4) 3))≤1099511627776)∧((List.length (gE 4 es (Int.toNat n*4) 3)*16)≤1099511627776))) (need bot ((0=0)∧((0=0)∧(0≤0))) (need bot (vEq (.ptr 9 0 0) (.ptr 9 0 0)) (nI bot (n+1) (need bot (GndR []) (need bot (GndR (gE 4 es (Int.toNat n*4) 3)) (need bot (GndR []) (need bot (GndR (gE 4 es (Int.toNat n*4) 3)) (PR.bnd bot (X.1 (.code (.loop (lpB PP 28 0)) ((base 28 29).on [(0,(.func (.yield 6) [] [])),(2,(.ptr 4 0 0)),(6,(.osl 4 (es))),(7,(.int .i64 ((↑(List.length es):Int)))),(8,(.int .i64 (n+1)))]) (hp [.row 0 28 1 0 (some 1) [.nils],.row 0 32 1 0 (some 1) [(.sl 7 0 0 1 none)],.row 0 51 1 0 (some 1) [(.ptr 7 0 0)],.row 0 29 1 0 (some 1) [(.osl 4 (es))],.row 0 23 1 0 (some 1) [(.osl 1 (ms))],.defs,lpS es ms,.rowS 0 28 1 0 [] (.sl 8 0 0 (List.length (gE 4 es (Int.toNat n*4) 3)) none),.row 0 9 1 0 none (gE 4 es (Int.toNat n*4) 3)]))) (fun a17=>fS1 bot k a17)
 (fun e17=>k (qN e17))))))))))))))))
 (fun j1:β=>bif decide ((↑(List.length ms):Int)≤n) then (j1)
 else (nX bot (n) (List.length ms) (need bot (ldX PP 4 1 (ms) (Int.toNat n*1)) (bif gB 1 ms (Int.toNat n*1) 0 then (bif qb0 (gE 4 es (Int.toNat n*4) 3) then (need bot (vEq (.ptr 0 0 0) (.ptr 0 0 0)) (nI bot (n+1) (PR.bnd bot (X.1 (.code (.loop (lpB PP 28 0)) ((base 28 29).on [(0,(.func (.yield 6) [] [])),(2,(.ptr 4 0 0)),(6,(.osl 4 (es))),(7,(.int .i64 ((↑(List.length es):Int)))),(8,(.int .i64 (n+1)))]) (hp [.row 0 28 1 0 (some 1) [.nils],.row 0 32 1 0 (some 1) [.nils],.row 0 51 1 0 (some 1) [(.ptr 0 0 0)],.row 0 29 1 0 (some 1) [(.osl 4 (es))],.row 0 23 1 0 (some 1) [(.osl 1 (ms))],.defs,lpS es ms]))) (fun a10=>fS1 bot k a10)
 (fun e10=>k (qN e10)))))
 else (need bot ((gE 4 es (Int.toNat n*4) 3≠[])∧(((List.length (gE 4 es (Int.toNat n*4) 3))≤1099511627776)∧((List.length (gE 4 es (Int.toNat n*4) 3)*16)≤1099511627776))) (need bot (vEq (.ptr 0 0 0) (.ptr 0 0 0)) (nI bot (n+1) (need bot (GndR (gE 4 es (Int.toNat n*4) 3)) (need bot (GndR (gE 4 es (Int.toNat n*4) 3)) (PR.bnd bot (X.1 (.code (.loop (lpB PP 28 0)) ((base 28 29).on [(0,(.func (.yield 6) [] [])),(2,(.ptr 4 0 0)),(6,(.osl 4 (es))),(7,(.int .i64 ((↑(List.length es):Int)))),(8,(.int .i64 (n+1)))]) (hp [.row 0 28 1 0 (some 1) [(.sl 7 0 0 (List.length (gE 4 es (Int.toNat n*4) 3)) none)],.row 0 32 1 0 (some 1) [.nils],.row 0 51 1 0 (some 1) [(.ptr 0 0 0)],.row 0 29 1 0 (some 1) [(.osl 4 (es))],.row 0 23 1 0 (some 1) [(.osl 1 (ms))],.defs,lpS es ms,.row 0 9 1 0 none (gE 4 es (Int.toNat n*4) 3)]))) (fun a13=>fS1 bot k a13)
 (fun e13=>k (qN e13)))))))))
 else (j1))))))))
 else (k (.code (.exit 0) ((base 28 29).on [(0,(.func (.yield 6) [] [])),(2,(.ptr 4 0 0))]) (hp [.row 0 28 1 0 (some 1) [.nils],.row 0 32 1 0 (some 1) [.nils],.row 0 51 1 0 (some 1) [(.ptr 0 0 0)],.row 0 29 1 0 (some 1) [(.osl 4 (es))],.row 0 23 1 0 (some 1) [(.osl 1 (ms))],.defs,lpS es ms]))):=by kernel_rfl
theorem zG1 (X:TdX) (ih:Task→Res) {β:Type} (bot:β) (k:Res→β) (es ms:List V) (n:Int) (v1 n1:Nat) (l1:List V):evN PP EP CP (zc0 X) ih bot (.code (.loop (lpB PP 28 0)) ((base 28 29).on [(0,.func (.yield 6) [] []),(2,.ptr 4 0 0),(6,.osl 4 es),(7,.int .i64 es.length),(8,.int .i64 n)]) (hpS es ms (.sl 7 v1 0 n1 none) .nils (.ptr 0 0 0) [rwT v1 l1])) k =
 bif decide (n<(↑(List.length es):Int)) then (nX bot (n) (List.length es) (need bot (ldC PP 41 4 (es) (Int.toNat n*4)) (jn (need bot (([V.nils]≠[])∧((1≤1099511627776)∧(24≤1099511627776))) (need bot ((-9223372036854775808≤0)∧((0:Int)≤9223372036854775807)) (need bot (((0:Int)≤0)∧((0:Int)<1)) (need bot ((0=0)∧(0=0)) (bif qb0 (gE 4 es (Int.toNat n*4) 3) then (need bot ((0=0)∧((0=0)∧(0≤0))) (need bot (vEq (.ptr 10 0 0) (.ptr 10 0 0)) (nI bot (n+1) (need bot (GndR (l1)) (need bot (GndR []) (need bot (GndR (l1)) (need bot (GndR []) (PR.bnd bot (X.1 (.code (.loop (lpB PP 28 0)) ((base 28 29).on [(0,(.func (.yield 6) [] [])),(2,(.ptr 4 0 0)),(6,(.osl 4 (es))),(7,(.int .i64 ((↑(List.length es):Int)))),(8,(.int .i64 (n+1)))]) (hp [.row 0 28 1 0 (some 1) [(.sl 7 (v1) 0 (n1) none)],.row 0 32 1 0 (some 1) [(.sl 8 0 0 1 none)],.row 0 51 1 0 (some 1) [(.ptr 8 0 0)],.row 0 29 1 0 (some 1) [(.osl 4 (es))],.row 0 23 1 0 (some 1) [(.osl 1 (ms))],.defs,lpS es ms,.row (v1) 9 1 0 none (l1),.rowS 0 28 1 0 [] .nils]))) (fun a16=>fS1 bot k a16)
 (fun e16=>k (qN e16))))))))))
 else (need bot ((gE 4 es (Int.toNat n*4) 3≠[])∧(((List.length (gE 4 es (Int.toNat n*4) 3))≤1099511627776)∧((List.length (gE 4 es (Int.toNat n*4) 3)*16)≤1099511627776))) (need bot ((0=0)∧((0=0)∧(0≤0))) (need bot (vEq (.ptr 10 0 0) (.ptr 10 0 0)) (nI bot (n+1) (need bot (GndR (l1)) (need bot (GndR []) (need bot (GndR (gE 4 es (Int.toNat n*4) 3)) (need bot (GndR (l1)) (need bot (GndR []) (need bot (GndR (gE 4 es (Int.toNat n*4) 3)) (PR.bnd bot (X.1 (.code (.loop (lpB PP 28 0)) ((base 28 29).on [(0,(.func (.yield 6) [] [])),(2,(.ptr 4 0 0)),(6,(.osl 4 (es))),(7,(.int .i64 ((↑(List.length es):Int)))),(8,(.int .i64 (n+1)))]) (hp [.row 0 28 1 0 (some 1) [(.sl 7 (v1) 0 (n1) none)],.row 0 32 1 0 (some 1) [(.sl 8 0 0 1 none)],.row 0 51 1 0 (some 1) [(.ptr 8 0 0)],.row 0 29 1 0 (some 1) [(.osl 4 (es))],.row 0 23 1 0 (some 1) [(.osl 1 (ms))],.defs,lpS es ms,.row (v1) 9 1 0 none (l1),.rowS 0 28 1 0 [] (.sl 9 0 0 (List.length (gE 4 es (Int.toNat n*4) 3)) none),.row 0 9 1 0 none (gE 4 es (Int.toNat n*4) 3)]))) (fun a19=>fS1 bot k a19)
 (fun e19=>k (qN e19))))))))))))))))))
 (fun j1:β=>bif decide ((↑(List.length ms):Int)≤n) then (j1)
 else (nX bot (n) (List.length ms) (need bot (ldX PP 4 1 (ms) (Int.toNat n*1)) (bif gB 1 ms (Int.toNat n*1) 0 then (bif qb0 (gE 4 es (Int.toNat n*4) 3) then (need bot (vEq (.ptr 0 0 0) (.ptr 0 0 0)) (nI bot (n+1) (need bot (GndR (l1)) (need bot (GndR (l1)) (PR.bnd bot (X.1 (.code (.loop (lpB PP 28 0)) ((base 28 29).on [(0,(.func (.yield 6) [] [])),(2,(.ptr 4 0 0)),(6,(.osl 4 (es))),(7,(.int .i64 ((↑(List.length es):Int)))),(8,(.int .i64 (n+1)))]) (hp [.row 0 28 1 0 (some 1) [(.sl 7 (v1) 0 (n1) none)],.row 0 32 1 0 (some 1) [.nils],.row 0 51 1 0 (some 1) [(.ptr 0 0 0)],.row 0 29 1 0 (some 1) [(.osl 4 (es))],.row 0 23 1 0 (some 1) [(.osl 1 (ms))],.defs,lpS es ms,.row (v1) 9 1 0 none (l1)]))) (fun a12=>fS1 bot k a12)
 (fun e12=>k (qN e12)))))))
 else (need bot (((v1)=(v1))∧((gE 4 es (Int.toNat n*4) 3≠[])∧(((n1)=(List.length l1))∧((0≤(n1))∧(((n1+List.length (gE 4 es (Int.toNat n*4) 3))≤1099511627776)∧(((n1+List.length (gE 4 es (Int.toNat n*4) 3))*16)≤1099511627776)))))) (need bot (vEq (.ptr 0 0 0) (.ptr 0 0 0)) (nI bot (n+1) (need bot (GndR (l1++gE 4 es (Int.toNat n*4) 3)) (need bot (GndR (l1++gE 4 es (Int.toNat n*4) 3)) (PR.bnd bot (X.1 (.code (.loop (lpB PP 28 0)) ((base 28 29).on [(0,(.func (.yield 6) [] [])),(2,(.ptr 4 0 0)),(6,(.osl 4 (es))),(7,(.int .i64 ((↑(List.length es):Int)))),(8,(.int .i64 (n+1)))]) (hp [.row 0 28 1 0 (some 1) [(.sl 7 (Nat.succ v1) 0 (n1+List.length (gE 4 es (Int.toNat n*4) 3)) none)],.row 0 32 1 0 (some 1) [.nils],.row 0 51 1 0 (some 1) [(.ptr 0 0 0)],.row 0 29 1 0 (some 1) [(.osl 4 (es))],.row 0 23 1 0 (some 1) [(.osl 1 (ms))],.defs,lpS es ms,.row (Nat.succ v1) 9 1 0 none (l1++gE 4 es (Int.toNat n*4) 3)]))) (fun a13=>fS1 bot k a13)
 (fun e13=>k (qN e13)))))))))
 else (j1))))))))
 else (need bot (GndR (l1)) (need bot (GndR (l1)) (k (.code (.exit 0) ((base 28 29).on [(0,(.func (.yield 6) [] [])),(2,(.ptr 4 0 0))]) (hp [.row 0 28 1 0 (some 1) [(.sl 7 (v1) 0 (n1) none)],.row 0 32 1 0 (some 1) [.nils],.row 0 51 1 0 (some 1) [(.ptr 0 0 0)],.row 0 29 1 0 (some 1) [(.osl 4 (es))],.row 0 23 1 0 (some 1) [(.osl 1 (ms))],.defs,lpS es ms,.row (v1) 9 1 0 none (l1)]))))):=by kernel_rfl
theorem zH1 (X:TdX) (ih:Task→Res) {β:Type} (bot:β) (k:Res→β) (es ms:List V) (n:Int) (v2 n2 o:Nat) (l2:List V):evN PP EP CP (zc0 X) ih bot (.code (.loop (lpB PP 28 0)) ((base 28 29).on [(0,.func (.yield 6) [] []),(2,.ptr 4 0 0),(6,.osl 4 es),(7,.int .i64 es.length),(8,.int .i64 n)]) (hpS es ms .nils (.sl 7 v2 0 n2 none) (.ptr 7 v2 o) [rwO v2 l2 .nils])) k =
 bif decide (n<(↑(List.length es):Int)) then (nX bot (n) (List.length es) (need bot (ldC PP 41 4 (es) (Int.toNat n*4)) (jn (need bot (((v2)=(v2))∧((0=0)∧(((n2)=(List.length l2+1))∧((0≤(n2))∧(((n2+1)≤1099511627776)∧(((n2+1)*24)≤1099511627776)))))) (nI bot ((↑(Nat.add n2 1):Int)-1) (need bot (((0:Int)≤((↑(Nat.add n2 1):Int)-1))∧(((↑(Nat.add n2 1):Int)-1)<((↑(Nat.add n2 1):Int)))) (need bot (((Nat.succ v2)=(Nat.succ v2))∧(((0+Int.toNat ((↑(Nat.add n2 1):Int)-1))*1)=(List.length (l2++[V.osl 1 []])*1+0))) (bif qb0 (gE 4 es (Int.toNat n*4) 3) then (need bot (((Nat.succ v2)=(Nat.succ v2))∧((((0+Int.toNat ((↑(Nat.add n2 1):Int)-1))*1)=(List.length (l2++[V.osl 1 []])*1+0))∧(0≤(List.length (l2++[V.osl 1 []]))))) (need bot (vEq (.ptr 7 (Nat.succ v2) ((0+Int.toNat ((↑(Nat.add n2 1):Int)-1))*1)) (.ptr 7 (Nat.succ v2) ((0+Int.toNat ((↑(Nat.add n2 1):Int)-1))*1))) (nI bot (n+1) (need bot (GndR (l2++[V.osl 1 []])) (need bot (GndR (l2++[V.osl 1 []])) (PR.bnd bot (X.1 (.code (.loop (lpB PP 28 0)) ((base 28 29).on [(0,(.func (.yield 6) [] [])),(2,(.ptr 4 0 0)),(6,(.osl 4 (es))),(7,(.int .i64 ((↑(List.length es):Int)))),(8,(.int .i64 (n+1)))]) (hp [.row 0 28 1 0 (some 1) [.nils],.row 0 32 1 0 (some 1) [(.sl 7 (Nat.succ v2) 0 (Nat.add n2 1) none)],.row 0 51 1 0 (some 1) [(.ptr 7 (Nat.succ v2) ((0+Int.toNat ((↑(Nat.add n2 1):Int)-1))*1))],.row 0 29 1 0 (some 1) [(.osl 4 (es))],.row 0 23 1 0 (some 1) [(.osl 1 (ms))],.defs,lpS es ms,.rowS (Nat.succ v2) 28 1 0 (l2++[V.osl 1 []]) .nils]))) (fun a14=>fS1 bot k a14)
 (fun e14=>k (qN e14))))))))
 else (need bot ((gE 4 es (Int.toNat n*4) 3≠[])∧(((List.length (gE 4 es (Int.toNat n*4) 3))≤1099511627776)∧((List.length (gE 4 es (Int.toNat n*4) 3)*16)≤1099511627776))) (need bot (((Nat.succ v2)=(Nat.succ v2))∧((((0+Int.toNat ((↑(Nat.add n2 1):Int)-1))*1)=(List.length (l2++[V.osl 1 []])*1+0))∧(0≤(List.length (l2++[V.osl 1 []]))))) (need bot (vEq (.ptr 7 (Nat.succ v2) ((0+Int.toNat ((↑(Nat.add n2 1):Int)-1))*1)) (.ptr 7 (Nat.succ v2) ((0+Int.toNat ((↑(Nat.add n2 1):Int)-1))*1))) (nI bot (n+1) (need bot (GndR (l2++[V.osl 1 []])) (need bot (GndR (gE 4 es (Int.toNat n*4) 3)) (need bot (GndR (l2++[V.osl 1 []])) (need bot (GndR (gE 4 es (Int.toNat n*4) 3)) (PR.bnd bot (X.1 (.code (.loop (lpB PP 28 0)) ((base 28 29).on [(0,(.func (.yield 6) [] [])),(2,(.ptr 4 0 0)),(6,(.osl 4 (es))),(7,(.int .i64 ((↑(List.length es):Int)))),(8,(.int .i64 (n+1)))]) (hp [.row 0 28 1 0 (some 1) [.nils],.row 0 32 1 0 (some 1) [(.sl 7 (Nat.succ v2) 0 (Nat.add n2 1) none)],.row 0 51 1 0 (some 1) [(.ptr 7 (Nat.succ v2) ((0+Int.toNat ((↑(Nat.add n2 1):Int)-1))*1))],.row 0 29 1 0 (some 1) [(.osl 4 (es))],.row 0 23 1 0 (some 1) [(.osl 1 (ms))],.defs,lpS es ms,.rowS (Nat.succ v2) 28 1 0 (l2++[V.osl 1 []]) (.sl 8 0 0 (List.length (gE 4 es (Int.toNat n*4) 3)) none),.row 0 9 1 0 none (gE 4 es (Int.toNat n*4) 3)]))) (fun a17=>fS1 bot k a17)
 (fun e17=>k (qN e17))))))))))))))))
 (fun j1:β=>bif decide ((↑(List.length ms):Int)≤n) then (j1)
 else (nX bot (n) (List.length ms) (need bot (ldX PP 4 1 (ms) (Int.toNat n*1)) (bif gB 1 ms (Int.toNat n*1) 0 then (need bot (((v2)=(v2))∧((o)=(List.length l2*1+0))) (bif qb0 (gE 4 es (Int.toNat n*4) 3) then (need bot (((v2)=(v2))∧(((o)=(List.length l2*1+0))∧(0≤(List.length l2)))) (need bot (vEq (.ptr 7 (v2) (o)) (.ptr 7 (v2) (o))) (nI bot (n+1) (need bot (GndR (l2)) (need bot (GndR (l2)) (PR.bnd bot (X.1 (.code (.loop (lpB PP 28 0)) ((base 28 29).on [(0,(.func (.yield 6) [] [])),(2,(.ptr 4 0 0)),(6,(.osl 4 (es))),(7,(.int .i64 ((↑(List.length es):Int)))),(8,(.int .i64 (n+1)))]) (hp [.row 0 28 1 0 (some 1) [.nils],.row 0 32 1 0 (some 1) [(.sl 7 (v2) 0 (n2) none)],.row 0 51 1 0 (some 1) [(.ptr 7 (v2) (o))],.row 0 29 1 0 (some 1) [(.osl 4 (es))],.row 0 23 1 0 (some 1) [(.osl 1 (ms))],.defs,lpS es ms,.rowS (v2) 28 1 0 (l2) .nils]))) (fun a14=>fS1 bot k a14)
 (fun e14=>k (qN e14))))))))
 else (need bot ((gE 4 es (Int.toNat n*4) 3≠[])∧(((List.length (gE 4 es (Int.toNat n*4) 3))≤1099511627776)∧((List.length (gE 4 es (Int.toNat n*4) 3)*16)≤1099511627776))) (need bot (((v2)=(v2))∧(((o)=(List.length l2*1+0))∧(0≤(List.length l2)))) (need bot (vEq (.ptr 7 (v2) (o)) (.ptr 7 (v2) (o))) (nI bot (n+1) (need bot (GndR (l2)) (need bot (GndR (gE 4 es (Int.toNat n*4) 3)) (need bot (GndR (l2)) (need bot (GndR (gE 4 es (Int.toNat n*4) 3)) (PR.bnd bot (X.1 (.code (.loop (lpB PP 28 0)) ((base 28 29).on [(0,(.func (.yield 6) [] [])),(2,(.ptr 4 0 0)),(6,(.osl 4 (es))),(7,(.int .i64 ((↑(List.length es):Int)))),(8,(.int .i64 (n+1)))]) (hp [.row 0 28 1 0 (some 1) [.nils],.row 0 32 1 0 (some 1) [(.sl 7 (v2) 0 (n2) none)],.row 0 51 1 0 (some 1) [(.ptr 7 (v2) (o))],.row 0 29 1 0 (some 1) [(.osl 4 (es))],.row 0 23 1 0 (some 1) [(.osl 1 (ms))],.defs,lpS es ms,.rowS (v2) 28 1 0 (l2) (.sl 8 0 0 (List.length (gE 4 es (Int.toNat n*4) 3)) none),.row 0 9 1 0 none (gE 4 es (Int.toNat n*4) 3)]))) (fun a17=>fS1 bot k a17)
 (fun e17=>k (qN e17)))))))))))))
 else (j1))))))))
 else (need bot (GndR (l2)) (need bot (GndR (l2)) (k (.code (.exit 0) ((base 28 29).on [(0,(.func (.yield 6) [] [])),(2,(.ptr 4 0 0))]) (hp [.row 0 28 1 0 (some 1) [.nils],.row 0 32 1 0 (some 1) [(.sl 7 (v2) 0 (n2) none)],.row 0 51 1 0 (some 1) [(.ptr 7 (v2) (o))],.row 0 29 1 0 (some 1) [(.osl 4 (es))],.row 0 23 1 0 (some 1) [(.osl 1 (ms))],.defs,lpS es ms,.rowS (v2) 28 1 0 (l2) .nils]))))):=by kernel_rfl
theorem zI1 (X:TdX) (ih:Task→Res) {β:Type} (bot:β) (k:Res→β) (es ms:List V) (n:Int) (v2 n2 o:Nat) (l2:List V) (v3 n3:Nat) (l3:List V):evN PP EP CP (zc0 X) ih bot (.code (.loop (lpB PP 28 0)) ((base 28 29).on [(0,.func (.yield 6) [] []),(2,.ptr 4 0 0),(6,.osl 4 es),(7,.int .i64 es.length),(8,.int .i64 n)]) (hpS es ms .nils (.sl 7 v2 0 n2 none) (.ptr 7 v2 o) [rwO v2 l2 (.sl 8 v3 0 n3 none),rwT v3 l3])) k =
 bif decide (n<(↑(List.length es):Int)) then (nX bot (n) (List.length es) (need bot (ldC PP 41 4 (es) (Int.toNat n*4)) (jn (nG bot v3 (n3) l3 (need bot (((v2)=(v2))∧((0=0)∧(((n2)=(List.length l2+1))∧((0≤(n2))∧(((n2+1)≤1099511627776)∧(((n2+1)*24)≤1099511627776)))))) (nI bot ((↑(Nat.add n2 1):Int)-1) (need bot (((0:Int)≤((↑(Nat.add n2 1):Int)-1))∧(((↑(Nat.add n2 1):Int)-1)<((↑(Nat.add n2 1):Int)))) (need bot (((Nat.succ v2)=(Nat.succ v2))∧(((0+Int.toNat ((↑(Nat.add n2 1):Int)-1))*1)=(List.length (l2++[V.osl 1 l3])*1+0))) (bif qb0 (gE 4 es (Int.toNat n*4) 3) then (need bot (((Nat.succ v2)=(Nat.succ v2))∧((((0+Int.toNat ((↑(Nat.add n2 1):Int)-1))*1)=(List.length (l2++[V.osl 1 l3])*1+0))∧(0≤(List.length (l2++[V.osl 1 l3]))))) (need bot (vEq (.ptr 7 (Nat.succ v2) ((0+Int.toNat ((↑(Nat.add n2 1):Int)-1))*1)) (.ptr 7 (Nat.succ v2) ((0+Int.toNat ((↑(Nat.add n2 1):Int)-1))*1))) (nI bot (n+1) (need bot (GndR (l2++[V.osl 1 l3])) (need bot (GndR (l3)) (need bot (GndR (l2++[V.osl 1 l3])) (need bot (GndR (bif Nat.beq (Nat.max 0 n3) 0 then [] else List.takeN l3 (Nat.max 0 n3))) (PR.bnd bot (X.1 (.code (.loop (lpB PP 28 0)) ((base 28 29).on [(0,(.func (.yield 6) [] [])),(2,(.ptr 4 0 0)),(6,(.osl 4 (es))),(7,(.int .i64 ((↑(List.length es):Int)))),(8,(.int .i64 (n+1)))]) (hp [.row 0 28 1 0 (some 1) [.nils],.row 0 32 1 0 (some 1) [(.sl 7 (Nat.succ v2) 0 (Nat.add n2 1) none)],.row 0 51 1 0 (some 1) [(.ptr 7 (Nat.succ v2) ((0+Int.toNat ((↑(Nat.add n2 1):Int)-1))*1))],.row 0 29 1 0 (some 1) [(.osl 4 (es))],.row 0 23 1 0 (some 1) [(.osl 1 (ms))],.defs,lpS es ms,.rowS (Nat.succ v2) 28 1 0 (l2++[V.osl 1 l3]) .nils]))) (fun a17 =>
 bif a17.s then (bif a17.t then (bif a17.u then (jn (need bot (GndR (a17.l3)) (k (.code (.exit 0) ((base 28 29).on [(0,(.func (.yield 6) [] [])),(2,(.ptr 4 0 0))]) (hp [.row 0 28 1 0 (some 1) [(.sl 7 (a17.v1) 0 (a17.n1) none)],.row 0 32 1 0 (some 1) [(.sl 9 (a17.v2) 0 (a17.n2) none)],.row 0 51 1 0 (some 1) [(.ptr 9 (a17.v2) (a17.o))],.row 0 29 1 0 (some 1) [(.osl 4 (a17.es))],.row 0 23 1 0 (some 1) [(.osl 1 (a17.ms))],.defs,lpS a17.es a17.ms,.row (a17.v1) 9 1 0 none (a17.l1),.row (v3) 9 1 (Nat.max 0 n3) none (bif Nat.beq (Nat.max 0 n3) 0 then [] else List.takeN (bif Nat.beq (Nat.max 0 n3) 0 then [] else List.takeN l3 (Nat.max 0 n3)) (Nat.max 0 n3)),.rowS (a17.v2) 28 1 0 (a17.l2) (.sl 10 (a17.v3) 0 (a17.n3) none),.row (a17.v3) 9 1 0 none (a17.l3)]))))
 (fun j8:β=>bif a17.w then (need bot (GndR (a17.l1)) (need bot (GndR (a17.l2)) (need bot (GndR (a17.l4)) (need bot (GndR (a17.l3)) (need bot (GndR (a17.l1)) (need bot (GndR (bif Nat.beq (Nat.max 0 n3) 0 then [] else List.takeN l3 (Nat.max 0 n3))) (need bot (GndR (a17.l2)) (need bot (GndR (a17.l4)) (j8)))))))))
 else (need bot (GndR (a17.l1)) (need bot (GndR (a17.l2)) (need bot (GndR (a17.l3)) (need bot (GndR (a17.l1)) (need bot (GndR (bif Nat.beq (Nat.max 0 n3) 0 then [] else List.takeN l3 (Nat.max 0 n3))) (need bot (GndR (a17.l2)) (j8)))))))))
 else (jn (need bot (GndR (a17.l3)) (k (.code (.exit 0) ((base 28 29).on [(0,(.func (.yield 6) [] [])),(2,(.ptr 4 0 0))]) (hp [.row 0 28 1 0 (some 1) [.nils],.row 0 32 1 0 (some 1) [(.sl 7 (a17.v2) 0 (a17.n2) none)],.row 0 51 1 0 (some 1) [(.ptr 7 (a17.v2) (a17.o))],.row 0 29 1 0 (some 1) [(.osl 4 (a17.es))],.row 0 23 1 0 (some 1) [(.osl 1 (a17.ms))],.defs,lpS a17.es a17.ms,.rowS (a17.v2) 28 1 0 (a17.l2) (.sl 9 (a17.v3) 0 (a17.n3) none),.row (v3) 9 1 (Nat.max 0 n3) none (bif Nat.beq (Nat.max 0 n3) 0 then [] else List.takeN (bif Nat.beq (Nat.max 0 n3) 0 then [] else List.takeN l3 (Nat.max 0 n3)) (Nat.max 0 n3)),.row (a17.v3) 9 1 0 none (a17.l3)]))))
 (fun j9:β=>bif a17.w then (need bot (GndR (a17.l2)) (need bot (GndR (a17.l4)) (need bot (GndR (a17.l3)) (need bot (GndR (a17.l2)) (need bot (GndR (bif Nat.beq (Nat.max 0 n3) 0 then [] else List.takeN l3 (Nat.max 0 n3))) (need bot (GndR (a17.l4)) (j9)))))))
 else (need bot (GndR (a17.l2)) (need bot (GndR (a17.l3)) (need bot (GndR (a17.l2)) (need bot (GndR (bif Nat.beq (Nat.max 0 n3) 0 then [] else List.takeN l3 (Nat.max 0 n3))) (j9))))))))
 else (bif a17.u then (bif a17.w then (need bot (GndR (a17.l1)) (need bot (GndR (a17.l2)) (need bot (GndR (a17.l4)) (need bot (GndR (a17.l1)) (need bot (GndR (bif Nat.beq (Nat.max 0 n3) 0 then [] else List.takeN l3 (Nat.max 0 n3))) (need bot (GndR (a17.l2)) (need bot (GndR (a17.l4)) (k (.code (.exit 0) ((base 28 29).on [(0,(.func (.yield 6) [] [])),(2,(.ptr 4 0 0))]) (hp [.row 0 28 1 0 (some 1) [(.sl 7 (a17.v1) 0 (a17.n1) none)],.row 0 32 1 0 (some 1) [(.sl 9 (a17.v2) 0 (a17.n2) none)],.row 0 51 1 0 (some 1) [(.ptr 9 (a17.v2) (a17.o))],.row 0 29 1 0 (some 1) [(.osl 4 (a17.es))],.row 0 23 1 0 (some 1) [(.osl 1 (a17.ms))],.defs,lpS a17.es a17.ms,.row (a17.v1) 9 1 0 none (a17.l1),.row (v3) 9 1 (Nat.max 0 n3) none (bif Nat.beq (Nat.max 0 n3) 0 then [] else List.takeN (bif Nat.beq (Nat.max 0 n3) 0 then [] else List.takeN l3 (Nat.max 0 n3)) (Nat.max 0 n3)),.rowS (a17.v2) 28 1 0 (a17.l2) .nils]))))))))))
 else (need bot (GndR (a17.l1)) (need bot (GndR (a17.l2)) (need bot (GndR (a17.l1)) (need bot (GndR (bif Nat.beq (Nat.max 0 n3) 0 then [] else List.takeN l3 (Nat.max 0 n3))) (need bot (GndR (a17.l2)) (k (.code (.exit 0) ((base 28 29).on [(0,(.func (.yield 6) [] [])),(2,(.ptr 4 0 0))]) (hp [.row 0 28 1 0 (some 1) [(.sl 7 (a17.v1) 0 (a17.n1) none)],.row 0 32 1 0 (some 1) [(.sl 9 (a17.v2) 0 (a17.n2) none)],.row 0 51 1 0 (some 1) [(.ptr 9 (a17.v2) (a17.o))],.row 0 29 1 0 (some 1) [(.osl 4 (a17.es))],.row 0 23 1 0 (some 1) [(.osl 1 (a17.ms))],.defs,lpS a17.es a17.ms,.row (a17.v1) 9 1 0 none (a17.l1),.row (v3) 9 1 (Nat.max 0 n3) none (bif Nat.beq (Nat.max 0 n3) 0 then [] else List.takeN (bif Nat.beq (Nat.max 0 n3) 0 then [] else List.takeN l3 (Nat.max 0 n3)) (Nat.max 0 n3)),.rowS (a17.v2) 28 1 0 (a17.l2) .nils])))))))))
 else (bif a17.w then (need bot (GndR (a17.l2)) (need bot (GndR (a17.l4)) (need bot (GndR (a17.l2)) (need bot (GndR (bif Nat.beq (Nat.max 0 n3) 0 then [] else List.takeN l3 (Nat.max 0 n3))) (need bot (GndR (a17.l4)) (k (.code (.exit 0) ((base 28 29).on [(0,(.func (.yield 6) [] [])),(2,(.ptr 4 0 0))]) (hp [.row 0 28 1 0 (some 1) [.nils],.row 0 32 1 0 (some 1) [(.sl 7 (a17.v2) 0 (a17.n2) none)],.row 0 51 1 0 (some 1) [(.ptr 7 (a17.v2) (a17.o))],.row 0 29 1 0 (some 1) [(.osl 4 (a17.es))],.row 0 23 1 0 (some 1) [(.osl 1 (a17.ms))],.defs,lpS a17.es a17.ms,.rowS (a17.v2) 28 1 0 (a17.l2) .nils,.row (v3) 9 1 (Nat.max 0 n3) none (bif Nat.beq (Nat.max 0 n3) 0 then [] else List.takeN (bif Nat.beq (Nat.max 0 n3) 0 then [] else List.takeN l3 (Nat.max 0 n3)) (Nat.max 0 n3))]))))))))
 else (need bot (GndR (a17.l2)) (need bot (GndR (a17.l2)) (need bot (GndR (bif Nat.beq (Nat.max 0 n3) 0 then [] else List.takeN l3 (Nat.max 0 n3))) (k (.code (.exit 0) ((base 28 29).on [(0,(.func (.yield 6) [] [])),(2,(.ptr 4 0 0))]) (hp [.row 0 28 1 0 (some 1) [.nils],.row 0 32 1 0 (some 1) [(.sl 7 (a17.v2) 0 (a17.n2) none)],.row 0 51 1 0 (some 1) [(.ptr 7 (a17.v2) (a17.o))],.row 0 29 1 0 (some 1) [(.osl 4 (a17.es))],.row 0 23 1 0 (some 1) [(.osl 1 (a17.ms))],.defs,lpS a17.es a17.ms,.rowS (a17.v2) 28 1 0 (a17.l2) .nils,.row (v3) 9 1 (Nat.max 0 n3) none (bif Nat.beq (Nat.max 0 n3) 0 then [] else List.takeN (bif Nat.beq (Nat.max 0 n3) 0 then [] else List.takeN l3 (Nat.max 0 n3)) (Nat.max 0 n3))])))))))))
 else (jn (bif a17.u then (jn (need bot (GndR (a17.l1)) (need bot (GndR (a17.l1)) (need bot (GndR (bif Nat.beq (Nat.max 0 n3) 0 then [] else List.takeN l3 (Nat.max 0 n3))) (k (.code (.exit 0) ((base 28 29).on [(0,(.func (.yield 6) [] [])),(2,(.ptr 4 0 0))]) (hp [.row 0 28 1 0 (some 1) [(.sl 7 (a17.v1) 0 (a17.n1) none)],.row 0 32 1 0 (some 1) [.nils],.row 0 51 1 0 (some 1) [(.ptr 0 0 0)],.row 0 29 1 0 (some 1) [(.osl 4 (a17.es))],.row 0 23 1 0 (some 1) [(.osl 1 (a17.ms))],.defs,lpS a17.es a17.ms,.row (a17.v1) 9 1 0 none (a17.l1),.row (v3) 9 1 (Nat.max 0 n3) none (bif Nat.beq (Nat.max 0 n3) 0 then [] else List.takeN (bif Nat.beq (Nat.max 0 n3) 0 then [] else List.takeN l3 (Nat.max 0 n3)) (Nat.max 0 n3))]))))))
 (fun j11:β=>bif a17.w then (j11)
 else (j11)))
 else (bif a17.w then (bot)
 else (bot)))
 (fun j10:β=>bif a17.t then (j10)
 else (j10))))
 (fun _=>bot)))))))))
 else (need bot ((gE 4 es (Int.toNat n*4) 3≠[])∧(((List.length (gE 4 es (Int.toNat n*4) 3))≤1099511627776)∧((List.length (gE 4 es (Int.toNat n*4) 3)*16)≤1099511627776))) (need bot (((Nat.succ v2)=(Nat.succ v2))∧((((0+Int.toNat ((↑(Nat.add n2 1):Int)-1))*1)=(List.length (l2++[V.osl 1 l3])*1+0))∧(0≤(List.length (l2++[V.osl 1 l3]))))) (need bot (vEq (.ptr 7 (Nat.succ v2) ((0+Int.toNat ((↑(Nat.add n2 1):Int)-1))*1)) (.ptr 7 (Nat.succ v2) ((0+Int.toNat ((↑(Nat.add n2 1):Int)-1))*1))) (nI bot (n+1) (need bot (GndR (l2++[V.osl 1 l3])) (need bot (GndR (l3)) (need bot (GndR (gE 4 es (Int.toNat n*4) 3)) (need bot (GndR (l2++[V.osl 1 l3])) (need bot (GndR (bif Nat.beq (Nat.max 0 n3) 0 then [] else List.takeN l3 (Nat.max 0 n3))) (need bot (GndR (gE 4 es (Int.toNat n*4) 3)) (PR.bnd bot (X.1 (.code (.loop (lpB PP 28 0)) ((base 28 29).on [(0,(.func (.yield 6) [] [])),(2,(.ptr 4 0 0)),(6,(.osl 4 (es))),(7,(.int .i64 ((↑(List.length es):Int)))),(8,(.int .i64 (n+1)))]) (hp [.row 0 28 1 0 (some 1) [.nils],.row 0 32 1 0 (some 1) [(.sl 7 (Nat.succ v2) 0 (Nat.add n2 1) none)],.row 0 51 1 0 (some 1) [(.ptr 7 (Nat.succ v2) ((0+Int.toNat ((↑(Nat.add n2 1):Int)-1))*1))],.row 0 29 1 0 (some 1) [(.osl 4 (es))],.row 0 23 1 0 (some 1) [(.osl 1 (ms))],.defs,lpS es ms,.rowS (Nat.succ v2) 28 1 0 (l2++[V.osl 1 l3]) (.sl 8 0 0 (List.length (gE 4 es (Int.toNat n*4) 3)) none),.row 0 9 1 0 none (gE 4 es (Int.toNat n*4) 3)]))) (fun a20 =>
 bif a20.s then (bif a20.t then (bif a20.u then (jn (need bot (GndR (a20.l3)) (k (.code (.exit 0) ((base 28 29).on [(0,(.func (.yield 6) [] [])),(2,(.ptr 4 0 0))]) (hp [.row 0 28 1 0 (some 1) [(.sl 7 (a20.v1) 0 (a20.n1) none)],.row 0 32 1 0 (some 1) [(.sl 9 (a20.v2) 0 (a20.n2) none)],.row 0 51 1 0 (some 1) [(.ptr 9 (a20.v2) (a20.o))],.row 0 29 1 0 (some 1) [(.osl 4 (a20.es))],.row 0 23 1 0 (some 1) [(.osl 1 (a20.ms))],.defs,lpS a20.es a20.ms,.row (a20.v1) 9 1 0 none (a20.l1),.row (v3) 9 1 (Nat.max 0 n3) none (bif Nat.beq (Nat.max 0 n3) 0 then [] else List.takeN (bif Nat.beq (Nat.max 0 n3) 0 then [] else List.takeN l3 (Nat.max 0 n3)) (Nat.max 0 n3)),.rowS (a20.v2) 28 1 0 (a20.l2) (.sl 10 (a20.v3) 0 (a20.n3) none),.row (a20.v3) 9 1 0 none (a20.l3)]))))
 (fun j12:β=>bif a20.w then (need bot (GndR (a20.l1)) (need bot (GndR (a20.l2)) (need bot (GndR (a20.l4)) (need bot (GndR (a20.l3)) (need bot (GndR (a20.l1)) (need bot (GndR (bif Nat.beq (Nat.max 0 n3) 0 then [] else List.takeN l3 (Nat.max 0 n3))) (need bot (GndR (a20.l2)) (need bot (GndR (a20.l4)) (j12)))))))))
 else (need bot (GndR (a20.l1)) (need bot (GndR (a20.l2)) (need bot (GndR (a20.l3)) (need bot (GndR (a20.l1)) (need bot (GndR (bif Nat.beq (Nat.max 0 n3) 0 then [] else List.takeN l3 (Nat.max 0 n3))) (need bot (GndR (a20.l2)) (j12)))))))))
 else (jn (need bot (GndR (a20.l3)) (k (.code (.exit 0) ((base 28 29).on [(0,(.func (.yield 6) [] [])),(2,(.ptr 4 0 0))]) (hp [.row 0 28 1 0 (some 1) [.nils],.row 0 32 1 0 (some 1) [(.sl 7 (a20.v2) 0 (a20.n2) none)],.row 0 51 1 0 (some 1) [(.ptr 7 (a20.v2) (a20.o))],.row 0 29 1 0 (some 1) [(.osl 4 (a20.es))],.row 0 23 1 0 (some 1) [(.osl 1 (a20.ms))],.defs,lpS a20.es a20.ms,.rowS (a20.v2) 28 1 0 (a20.l2) (.sl 9 (a20.v3) 0 (a20.n3) none),.row (v3) 9 1 (Nat.max 0 n3) none (bif Nat.beq (Nat.max 0 n3) 0 then [] else List.takeN (bif Nat.beq (Nat.max 0 n3) 0 then [] else List.takeN l3 (Nat.max 0 n3)) (Nat.max 0 n3)),.row (a20.v3) 9 1 0 none (a20.l3)]))))
 (fun j13:β=>bif a20.w then (need bot (GndR (a20.l2)) (need bot (GndR (a20.l4)) (need bot (GndR (a20.l3)) (need bot (GndR (a20.l2)) (need bot (GndR (bif Nat.beq (Nat.max 0 n3) 0 then [] else List.takeN l3 (Nat.max 0 n3))) (need bot (GndR (a20.l4)) (j13)))))))
 else (need bot (GndR (a20.l2)) (need bot (GndR (a20.l3)) (need bot (GndR (a20.l2)) (need bot (GndR (bif Nat.beq (Nat.max 0 n3) 0 then [] else List.takeN l3 (Nat.max 0 n3))) (j13))))))))
 else (bif a20.u then (bif a20.w then (need bot (GndR (a20.l1)) (need bot (GndR (a20.l2)) (need bot (GndR (a20.l4)) (need bot (GndR (a20.l1)) (need bot (GndR (bif Nat.beq (Nat.max 0 n3) 0 then [] else List.takeN l3 (Nat.max 0 n3))) (need bot (GndR (a20.l2)) (need bot (GndR (a20.l4)) (k (.code (.exit 0) ((base 28 29).on [(0,(.func (.yield 6) [] [])),(2,(.ptr 4 0 0))]) (hp [.row 0 28 1 0 (some 1) [(.sl 7 (a20.v1) 0 (a20.n1) none)],.row 0 32 1 0 (some 1) [(.sl 9 (a20.v2) 0 (a20.n2) none)],.row 0 51 1 0 (some 1) [(.ptr 9 (a20.v2) (a20.o))],.row 0 29 1 0 (some 1) [(.osl 4 (a20.es))],.row 0 23 1 0 (some 1) [(.osl 1 (a20.ms))],.defs,lpS a20.es a20.ms,.row (a20.v1) 9 1 0 none (a20.l1),.row (v3) 9 1 (Nat.max 0 n3) none (bif Nat.beq (Nat.max 0 n3) 0 then [] else List.takeN (bif Nat.beq (Nat.max 0 n3) 0 then [] else List.takeN l3 (Nat.max 0 n3)) (Nat.max 0 n3)),.rowS (a20.v2) 28 1 0 (a20.l2) .nils]))))))))))
 else (need bot (GndR (a20.l1)) (need bot (GndR (a20.l2)) (need bot (GndR (a20.l1)) (need bot (GndR (bif Nat.beq (Nat.max 0 n3) 0 then [] else List.takeN l3 (Nat.max 0 n3))) (need bot (GndR (a20.l2)) (k (.code (.exit 0) ((base 28 29).on [(0,(.func (.yield 6) [] [])),(2,(.ptr 4 0 0))]) (hp [.row 0 28 1 0 (some 1) [(.sl 7 (a20.v1) 0 (a20.n1) none)],.row 0 32 1 0 (some 1) [(.sl 9 (a20.v2) 0 (a20.n2) none)],.row 0 51 1 0 (some 1) [(.ptr 9 (a20.v2) (a20.o))],.row 0 29 1 0 (some 1) [(.osl 4 (a20.es))],.row 0 23 1 0 (some 1) [(.osl 1 (a20.ms))],.defs,lpS a20.es a20.ms,.row (a20.v1) 9 1 0 none (a20.l1),.row (v3) 9 1 (Nat.max 0 n3) none (bif Nat.beq (Nat.max 0 n3) 0 then [] else List.takeN (bif Nat.beq (Nat.max 0 n3) 0 then [] else List.takeN l3 (Nat.max 0 n3)) (Nat.max 0 n3)),.rowS (a20.v2) 28 1 0 (a20.l2) .nils])))))))))
 else (bif a20.w then (need bot (GndR (a20.l2)) (need bot (GndR (a20.l4)) (need bot (GndR (a20.l2)) (need bot (GndR (bif Nat.beq (Nat.max 0 n3) 0 then [] else List.takeN l3 (Nat.max 0 n3))) (need bot (GndR (a20.l4)) (k (.code (.exit 0) ((base 28 29).on [(0,(.func (.yield 6) [] [])),(2,(.ptr 4 0 0))]) (hp [.row 0 28 1 0 (some 1) [.nils],.row 0 32 1 0 (some 1) [(.sl 7 (a20.v2) 0 (a20.n2) none)],.row 0 51 1 0 (some 1) [(.ptr 7 (a20.v2) (a20.o))],.row 0 29 1 0 (some 1) [(.osl 4 (a20.es))],.row 0 23 1 0 (some 1) [(.osl 1 (a20.ms))],.defs,lpS a20.es a20.ms,.rowS (a20.v2) 28 1 0 (a20.l2) .nils,.row (v3) 9 1 (Nat.max 0 n3) none (bif Nat.beq (Nat.max 0 n3) 0 then [] else List.takeN (bif Nat.beq (Nat.max 0 n3) 0 then [] else List.takeN l3 (Nat.max 0 n3)) (Nat.max 0 n3))]))))))))
 else (need bot (GndR (a20.l2)) (bot)))))
 else (bif a20.t then (bif a20.u then (bif a20.w then (need bot (GndR (a20.l1)) (bot))
 else (need bot (GndR (a20.l1)) (bot)))
 else (bif a20.w then (bot)
 else (bot)))
 else (bif a20.u then (bif a20.w then (need bot (GndR (a20.l1)) (bot))
 else (need bot (GndR (a20.l1)) (bot)))
 else (bif a20.w then (bot)
 else (bot)))))
 (fun _=>bot))))))))))))))))))
 (fun j1:β=>bif decide ((↑(List.length ms):Int)≤n) then (j1)
 else (nX bot (n) (List.length ms) (need bot (ldX PP 4 1 (ms) (Int.toNat n*1)) (bif gB 1 ms (Int.toNat n*1) 0 then (need bot (((v2)=(v2))∧((o)=(List.length l2*1+0))) (bif qb0 (gE 4 es (Int.toNat n*4) 3) then (need bot (((v2)=(v2))∧(((o)=(List.length l2*1+0))∧(0≤(List.length l2)))) (need bot (vEq (.ptr 7 (v2) (o)) (.ptr 7 (v2) (o))) (nI bot (n+1) (need bot (GndR (l2)) (need bot (GndR (l3)) (need bot (GndR (l2)) (need bot (GndR (l3)) (PR.bnd bot (X.1 (.code (.loop (lpB PP 28 0)) ((base 28 29).on [(0,(.func (.yield 6) [] [])),(2,(.ptr 4 0 0)),(6,(.osl 4 (es))),(7,(.int .i64 ((↑(List.length es):Int)))),(8,(.int .i64 (n+1)))]) (hp [.row 0 28 1 0 (some 1) [.nils],.row 0 32 1 0 (some 1) [(.sl 7 (v2) 0 (n2) none)],.row 0 51 1 0 (some 1) [(.ptr 7 (v2) (o))],.row 0 29 1 0 (some 1) [(.osl 4 (es))],.row 0 23 1 0 (some 1) [(.osl 1 (ms))],.defs,lpS es ms,.rowS (v2) 28 1 0 (l2) (.sl 8 (v3) 0 (n3) none),.row (v3) 9 1 0 none (l3)]))) (fun a16 =>
 bif a16.s then (bif a16.t then (bif a16.u then (jn (need bot (GndR (a16.l3)) (k (.code (.exit 0) ((base 28 29).on [(0,(.func (.yield 6) [] [])),(2,(.ptr 4 0 0))]) (hp [.row 0 28 1 0 (some 1) [(.sl 7 (a16.v1) 0 (a16.n1) none)],.row 0 32 1 0 (some 1) [(.sl 8 (a16.v2) 0 (a16.n2) none)],.row 0 51 1 0 (some 1) [(.ptr 8 (a16.v2) (a16.o))],.row 0 29 1 0 (some 1) [(.osl 4 (a16.es))],.row 0 23 1 0 (some 1) [(.osl 1 (a16.ms))],.defs,lpS a16.es a16.ms,.row (a16.v1) 9 1 0 none (a16.l1),.rowS (a16.v2) 28 1 0 (a16.l2) (.sl 9 (a16.v3) 0 (a16.n3) none),.row (a16.v3) 9 1 0 none (a16.l3)]))))
 (fun j2:β=>bif a16.w then (need bot (GndR (a16.l1)) (need bot (GndR (a16.l2)) (need bot (GndR (a16.l4)) (j2))))
 else (need bot (GndR (a16.l1)) (need bot (GndR (a16.l2)) (j2)))))
 else (bif a16.w then (need bot (GndR (a16.l2)) (need bot (GndR (a16.l4)) (need bot (GndR (a16.l3)) (k (.code (.exit 0) ((base 28 29).on [(0,(.func (.yield 6) [] [])),(2,(.ptr 4 0 0))]) (hp [.row 0 28 1 0 (some 1) [.nils],.row 0 32 1 0 (some 1) [(.sl 7 (a16.v2) 0 (a16.n2) none)],.row 0 51 1 0 (some 1) [(.ptr 7 (a16.v2) (a16.o))],.row 0 29 1 0 (some 1) [(.osl 4 (a16.es))],.row 0 23 1 0 (some 1) [(.osl 1 (a16.ms))],.defs,lpS a16.es a16.ms,.rowS (a16.v2) 28 1 0 (a16.l2) (.sl 9 (a16.v3) 0 (a16.n3) none),.row (a16.v4) 9 1 (a16.p4) none (bif Nat.beq a16.p4 0 then [] else List.takeN a16.l4 a16.p4),.row (a16.v3) 9 1 0 none (a16.l3)]))))))
 else (need bot (GndR (a16.l2)) (need bot (GndR (a16.l3)) (k (.code (.exit 0) ((base 28 29).on [(0,(.func (.yield 6) [] [])),(2,(.ptr 4 0 0))]) (hp [.row 0 28 1 0 (some 1) [.nils],.row 0 32 1 0 (some 1) [(.sl 7 (a16.v2) 0 (a16.n2) none)],.row 0 51 1 0 (some 1) [(.ptr 7 (a16.v2) (a16.o))],.row 0 29 1 0 (some 1) [(.osl 4 (a16.es))],.row 0 23 1 0 (some 1) [(.osl 1 (a16.ms))],.defs,lpS a16.es a16.ms,.rowS (a16.v2) 28 1 0 (a16.l2) (.sl 8 (a16.v3) 0 (a16.n3) none),.row (a16.v3) 9 1 0 none (a16.l3)])))))))
 else (bif a16.u then (bif a16.w then (need bot (GndR (a16.l1)) (need bot (GndR (a16.l2)) (need bot (GndR (a16.l4)) (k (.code (.exit 0) ((base 28 29).on [(0,(.func (.yield 6) [] [])),(2,(.ptr 4 0 0))]) (hp [.row 0 28 1 0 (some 1) [(.sl 7 (a16.v1) 0 (a16.n1) none)],.row 0 32 1 0 (some 1) [(.sl 8 (a16.v2) 0 (a16.n2) none)],.row 0 51 1 0 (some 1) [(.ptr 8 (a16.v2) (a16.o))],.row 0 29 1 0 (some 1) [(.osl 4 (a16.es))],.row 0 23 1 0 (some 1) [(.osl 1 (a16.ms))],.defs,lpS a16.es a16.ms,.row (a16.v1) 9 1 0 none (a16.l1),.rowS (a16.v2) 28 1 0 (a16.l2) .nils]))))))
 else (need bot (GndR (a16.l1)) (need bot (GndR (a16.l2)) (k (.code (.exit 0) ((base 28 29).on [(0,(.func (.yield 6) [] [])),(2,(.ptr 4 0 0))]) (hp [.row 0 28 1 0 (some 1) [(.sl 7 (a16.v1) 0 (a16.n1) none)],.row 0 32 1 0 (some 1) [(.sl 8 (a16.v2) 0 (a16.n2) none)],.row 0 51 1 0 (some 1) [(.ptr 8 (a16.v2) (a16.o))],.row 0 29 1 0 (some 1) [(.osl 4 (a16.es))],.row 0 23 1 0 (some 1) [(.osl 1 (a16.ms))],.defs,lpS a16.es a16.ms,.row (a16.v1) 9 1 0 none (a16.l1),.rowS (a16.v2) 28 1 0 (a16.l2) .nils]))))))
 else (bif a16.w then (need bot (GndR (a16.l2)) (need bot (GndR (a16.l4)) (k (.code (.exit 0) ((base 28 29).on [(0,(.func (.yield 6) [] [])),(2,(.ptr 4 0 0))]) (hp [.row 0 28 1 0 (some 1) [.nils],.row 0 32 1 0 (some 1) [(.sl 7 (a16.v2) 0 (a16.n2) none)],.row 0 51 1 0 (some 1) [(.ptr 7 (a16.v2) (a16.o))],.row 0 29 1 0 (some 1) [(.osl 4 (a16.es))],.row 0 23 1 0 (some 1) [(.osl 1 (a16.ms))],.defs,lpS a16.es a16.ms,.rowS (a16.v2) 28 1 0 (a16.l2) .nils,.row (a16.v4) 9 1 (a16.p4) none (bif Nat.beq a16.p4 0 then [] else List.takeN a16.l4 a16.p4)])))))
 else (need bot (GndR (a16.l2)) (k (.code (.exit 0) ((base 28 29).on [(0,(.func (.yield 6) [] [])),(2,(.ptr 4 0 0))]) (hp [.row 0 28 1 0 (some 1) [.nils],.row 0 32 1 0 (some 1) [(.sl 7 (a16.v2) 0 (a16.n2) none)],.row 0 51 1 0 (some 1) [(.ptr 7 (a16.v2) (a16.o))],.row 0 29 1 0 (some 1) [(.osl 4 (a16.es))],.row 0 23 1 0 (some 1) [(.osl 1 (a16.ms))],.defs,lpS a16.es a16.ms,.rowS (a16.v2) 28 1 0 (a16.l2) .nils])))))))
 else (jn (bif a16.u then (jn (need bot (GndR (a16.l1)) (k (.code (.exit 0) ((base 28 29).on [(0,(.func (.yield 6) [] [])),(2,(.ptr 4 0 0))]) (hp [.row 0 28 1 0 (some 1) [(.sl 7 (a16.v1) 0 (a16.n1) none)],.row 0 32 1 0 (some 1) [.nils],.row 0 51 1 0 (some 1) [(.ptr 0 0 0)],.row 0 29 1 0 (some 1) [(.osl 4 (a16.es))],.row 0 23 1 0 (some 1) [(.osl 1 (a16.ms))],.defs,lpS a16.es a16.ms,.row (a16.v1) 9 1 0 none (a16.l1)]))))
 (fun j4:β=>bif a16.w then (j4)
 else (j4)))
 else (bif a16.w then (k (.code (.exit 0) ((base 28 29).on [(0,(.func (.yield 6) [] [])),(2,(.ptr 4 0 0))]) (hp [.row 0 28 1 0 (some 1) [.nils],.row 0 32 1 0 (some 1) [.nils],.row 0 51 1 0 (some 1) [(.ptr 0 0 0)],.row 0 29 1 0 (some 1) [(.osl 4 (a16.es))],.row 0 23 1 0 (some 1) [(.osl 1 (a16.ms))],.defs,lpS a16.es a16.ms])))
 else (k (.code (.exit 0) ((base 28 29).on [(0,(.func (.yield 6) [] [])),(2,(.ptr 4 0 0))]) (hp [.row 0 28 1 0 (some 1) [.nils],.row 0 32 1 0 (some 1) [.nils],.row 0 51 1 0 (some 1) [(.ptr 0 0 0)],.row 0 29 1 0 (some 1) [(.osl 4 (a16.es))],.row 0 23 1 0 (some 1) [(.osl 1 (a16.ms))],.defs,lpS a16.es a16.ms])))))
 (fun j3:β=>bif a16.t then (j3)
 else (j3))))
 (fun e16=>k (qN e16))))))))))
 else (need bot (((v3)=(v3))∧((gE 4 es (Int.toNat n*4) 3≠[])∧(((n3)=(List.length l3))∧((0≤(n3))∧(((n3+List.length (gE 4 es (Int.toNat n*4) 3))≤1099511627776)∧(((n3+List.length (gE 4 es (Int.toNat n*4) 3))*16)≤1099511627776)))))) (need bot (((v2)=(v2))∧(((o)=(List.length l2*1+0))∧(0≤(List.length l2)))) (need bot (vEq (.ptr 7 (v2) (o)) (.ptr 7 (v2) (o))) (nI bot (n+1) (need bot (GndR (l2)) (need bot (GndR (l3++gE 4 es (Int.toNat n*4) 3)) (need bot (GndR (l2)) (need bot (GndR (l3++gE 4 es (Int.toNat n*4) 3)) (PR.bnd bot (X.1 (.code (.loop (lpB PP 28 0)) ((base 28 29).on [(0,(.func (.yield 6) [] [])),(2,(.ptr 4 0 0)),(6,(.osl 4 (es))),(7,(.int .i64 ((↑(List.length es):Int)))),(8,(.int .i64 (n+1)))]) (hp [.row 0 28 1 0 (some 1) [.nils],.row 0 32 1 0 (some 1) [(.sl 7 (v2) 0 (n2) none)],.row 0 51 1 0 (some 1) [(.ptr 7 (v2) (o))],.row 0 29 1 0 (some 1) [(.osl 4 (es))],.row 0 23 1 0 (some 1) [(.osl 1 (ms))],.defs,lpS es ms,.rowS (v2) 28 1 0 (l2) (.sl 8 (Nat.succ v3) 0 (n3+List.length (gE 4 es (Int.toNat n*4) 3)) none),.row (Nat.succ v3) 9 1 0 none (l3++gE 4 es (Int.toNat n*4) 3)]))) (fun a17=>fS3 bot k a17)
 (fun e17=>k (qN e17)))))))))))))
 else (j1))))))))
 else (need bot (GndR (l2)) (need bot (GndR (l3)) (need bot (GndR (l2)) (need bot (GndR (l3)) (k (.code (.exit 0) ((base 28 29).on [(0,(.func (.yield 6) [] [])),(2,(.ptr 4 0 0))]) (hp [.row 0 28 1 0 (some 1) [.nils],.row 0 32 1 0 (some 1) [(.sl 7 (v2) 0 (n2) none)],.row 0 51 1 0 (some 1) [(.ptr 7 (v2) (o))],.row 0 29 1 0 (some 1) [(.osl 4 (es))],.row 0 23 1 0 (some 1) [(.osl 1 (ms))],.defs,lpS es ms,.rowS (v2) 28 1 0 (l2) (.sl 8 (v3) 0 (n3) none),.row (v3) 9 1 0 none (l3)]))))))):=by kernel_rfl
theorem zJ1 (X:TdX) (ih:Task→Res) {β:Type} (bot:β) (k:Res→β) (es ms:List V) (n:Int) (v1 n1:Nat) (l1:List V) (v2 n2 o:Nat) (l2:List V):evN PP EP CP (zc0 X) ih bot (.code (.loop (lpB PP 28 0)) ((base 28 29).on [(0,.func (.yield 6) [] []),(2,.ptr 4 0 0),(6,.osl 4 es),(7,.int .i64 es.length),(8,.int .i64 n)]) (hpS es ms (.sl 7 v1 0 n1 none) (.sl 8 v2 0 n2 none) (.ptr 8 v2 o) [rwT v1 l1,rwO v2 l2 .nils])) k =
 bif decide (n<(↑(List.length es):Int)) then (nX bot (n) (List.length es) (need bot (ldC PP 41 4 (es) (Int.toNat n*4)) (jn (need bot (((v2)=(v2))∧((0=0)∧(((n2)=(List.length l2+1))∧((0≤(n2))∧(((n2+1)≤1099511627776)∧(((n2+1)*24)≤1099511627776)))))) (nI bot ((↑(Nat.add n2 1):Int)-1) (need bot (((0:Int)≤((↑(Nat.add n2 1):Int)-1))∧(((↑(Nat.add n2 1):Int)-1)<((↑(Nat.add n2 1):Int)))) (need bot (((Nat.succ v2)=(Nat.succ v2))∧(((0+Int.toNat ((↑(Nat.add n2 1):Int)-1))*1)=(List.length (l2++[V.osl 1 []])*1+0))) (bif qb0 (gE 4 es (Int.toNat n*4) 3) then (need bot (((Nat.succ v2)=(Nat.succ v2))∧((((0+Int.toNat ((↑(Nat.add n2 1):Int)-1))*1)=(List.length (l2++[V.osl 1 []])*1+0))∧(0≤(List.length (l2++[V.osl 1 []]))))) (need bot (vEq (.ptr 8 (Nat.succ v2) ((0+Int.toNat ((↑(Nat.add n2 1):Int)-1))*1)) (.ptr 8 (Nat.succ v2) ((0+Int.toNat ((↑(Nat.add n2 1):Int)-1))*1))) (nI bot (n+1) (need bot (GndR (l1)) (need bot (GndR (l2++[V.osl 1 []])) (need bot (GndR (l1)) (need bot (GndR (l2++[V.osl 1 []])) (PR.bnd bot (X.1 (.code (.loop (lpB PP 28 0)) ((base 28 29).on [(0,(.func (.yield 6) [] [])),(2,(.ptr 4 0 0)),(6,(.osl 4 (es))),(7,(.int .i64 ((↑(List.length es):Int)))),(8,(.int .i64 (n+1)))]) (hp [.row 0 28 1 0 (some 1) [(.sl 7 (v1) 0 (n1) none)],.row 0 32 1 0 (some 1) [(.sl 8 (Nat.succ v2) 0 (Nat.add n2 1) none)],.row 0 51 1 0 (some 1) [(.ptr 8 (Nat.succ v2) ((0+Int.toNat ((↑(Nat.add n2 1):Int)-1))*1))],.row 0 29 1 0 (some 1) [(.osl 4 (es))],.row 0 23 1 0 (some 1) [(.osl 1 (ms))],.defs,lpS es ms,.row (v1) 9 1 0 none (l1),.rowS (Nat.succ v2) 28 1 0 (l2++[V.osl 1 []]) .nils]))) (fun a16=>fS3 bot k a16)
 (fun e16=>k (qN e16))))))))))
 else (need bot ((gE 4 es (Int.toNat n*4) 3≠[])∧(((List.length (gE 4 es (Int.toNat n*4) 3))≤1099511627776)∧((List.length (gE 4 es (Int.toNat n*4) 3)*16)≤1099511627776))) (need bot (((Nat.succ v2)=(Nat.succ v2))∧((((0+Int.toNat ((↑(Nat.add n2 1):Int)-1))*1)=(List.length (l2++[V.osl 1 []])*1+0))∧(0≤(List.length (l2++[V.osl 1 []]))))) (need bot (vEq (.ptr 8 (Nat.succ v2) ((0+Int.toNat ((↑(Nat.add n2 1):Int)-1))*1)) (.ptr 8 (Nat.succ v2) ((0+Int.toNat ((↑(Nat.add n2 1):Int)-1))*1))) (nI bot (n+1) (need bot (GndR (l1)) (need bot (GndR (l2++[V.osl 1 []])) (need bot (GndR (gE 4 es (Int.toNat n*4) 3)) (need bot (GndR (l1)) (need bot (GndR (l2++[V.osl 1 []])) (need bot (GndR (gE 4 es (Int.toNat n*4) 3)) (PR.bnd bot (X.1 (.code (.loop (lpB PP 28 0)) ((base 28 29).on [(0,(.func (.yield 6) [] [])),(2,(.ptr 4 0 0)),(6,(.osl 4 (es))),(7,(.int .i64 ((↑(List.length es):Int)))),(8,(.int .i64 (n+1)))]) (hp [.row 0 28 1 0 (some 1) [(.sl 7 (v1) 0 (n1) none)],.row 0 32 1 0 (some 1) [(.sl 8 (Nat.succ v2) 0 (Nat.add n2 1) none)],.row 0 51 1 0 (some 1) [(.ptr 8 (Nat.succ v2) ((0+Int.toNat ((↑(Nat.add n2 1):Int)-1))*1))],.row 0 29 1 0 (some 1) [(.osl 4 (es))],.row 0 23 1 0 (some 1) [(.osl 1 (ms))],.defs,lpS es ms,.row (v1) 9 1 0 none (l1),.rowS (Nat.succ v2) 28 1 0 (l2++[V.osl 1 []]) (.sl 9 0 0 (List.length (gE 4 es (Int.toNat n*4) 3)) none),.row 0 9 1 0 none (gE 4 es (Int.toNat n*4) 3)]))) (fun a19=>fS3 bot k a19)
 (fun e19=>k (qN e19))))))))))))))))))
 (fun j1:β=>bif decide ((↑(List.length ms):Int)≤n) then (j1)
 else (nX bot (n) (List.length ms) (need bot (ldX PP 4 1 (ms) (Int.toNat n*1)) (bif gB 1 ms (Int.toNat n*1) 0 then (need bot (((v2)=(v2))∧((o)=(List.length l2*1+0))) (bif qb0 (gE 4 es (Int.toNat n*4) 3) then (need bot (((v2)=(v2))∧(((o)=(List.length l2*1+0))∧(0≤(List.length l2)))) (need bot (vEq (.ptr 8 (v2) (o)) (.ptr 8 (v2) (o))) (nI bot (n+1) (need bot (GndR (l1)) (need bot (GndR (l2)) (need bot (GndR (l1)) (need bot (GndR (l2)) (PR.bnd bot (X.1 (.code (.loop (lpB PP 28 0)) ((base 28 29).on [(0,(.func (.yield 6) [] [])),(2,(.ptr 4 0 0)),(6,(.osl 4 (es))),(7,(.int .i64 ((↑(List.length es):Int)))),(8,(.int .i64 (n+1)))]) (hp [.row 0 28 1 0 (some 1) [(.sl 7 (v1) 0 (n1) none)],.row 0 32 1 0 (some 1) [(.sl 8 (v2) 0 (n2) none)],.row 0 51 1 0 (some 1) [(.ptr 8 (v2) (o))],.row 0 29 1 0 (some 1) [(.osl 4 (es))],.row 0 23 1 0 (some 1) [(.osl 1 (ms))],.defs,lpS es ms,.row (v1) 9 1 0 none (l1),.rowS (v2) 28 1 0 (l2) .nils]))) (fun a16=>fS3 bot k a16)
 (fun e16=>k (qN e16))))))))))
 else (need bot ((gE 4 es (Int.toNat n*4) 3≠[])∧(((List.length (gE 4 es (Int.toNat n*4) 3))≤1099511627776)∧((List.length (gE 4 es (Int.toNat n*4) 3)*16)≤1099511627776))) (need bot (((v2)=(v2))∧(((o)=(List.length l2*1+0))∧(0≤(List.length l2)))) (need bot (vEq (.ptr 8 (v2) (o)) (.ptr 8 (v2) (o))) (nI bot (n+1) (need bot (GndR (l1)) (need bot (GndR (l2)) (need bot (GndR (gE 4 es (Int.toNat n*4) 3)) (need bot (GndR (l1)) (need bot (GndR (l2)) (need bot (GndR (gE 4 es (Int.toNat n*4) 3)) (PR.bnd bot (X.1 (.code (.loop (lpB PP 28 0)) ((base 28 29).on [(0,(.func (.yield 6) [] [])),(2,(.ptr 4 0 0)),(6,(.osl 4 (es))),(7,(.int .i64 ((↑(List.length es):Int)))),(8,(.int .i64 (n+1)))]) (hp [.row 0 28 1 0 (some 1) [(.sl 7 (v1) 0 (n1) none)],.row 0 32 1 0 (some 1) [(.sl 8 (v2) 0 (n2) none)],.row 0 51 1 0 (some 1) [(.ptr 8 (v2) (o))],.row 0 29 1 0 (some 1) [(.osl 4 (es))],.row 0 23 1 0 (some 1) [(.osl 1 (ms))],.defs,lpS es ms,.row (v1) 9 1 0 none (l1),.rowS (v2) 28 1 0 (l2) (.sl 9 0 0 (List.length (gE 4 es (Int.toNat n*4) 3)) none),.row 0 9 1 0 none (gE 4 es (Int.toNat n*4) 3)]))) (fun a19=>fS3 bot k a19)
 (fun e19=>k (qN e19)))))))))))))))
 else (j1))))))))
 else (need bot (GndR (l1)) (need bot (GndR (l2)) (need bot (GndR (l1)) (need bot (GndR (l2)) (k (.code (.exit 0) ((base 28 29).on [(0,(.func (.yield 6) [] [])),(2,(.ptr 4 0 0))]) (hp [.row 0 28 1 0 (some 1) [(.sl 7 (v1) 0 (n1) none)],.row 0 32 1 0 (some 1) [(.sl 8 (v2) 0 (n2) none)],.row 0 51 1 0 (some 1) [(.ptr 8 (v2) (o))],.row 0 29 1 0 (some 1) [(.osl 4 (es))],.row 0 23 1 0 (some 1) [(.osl 1 (ms))],.defs,lpS es ms,.row (v1) 9 1 0 none (l1),.rowS (v2) 28 1 0 (l2) .nils]))))))):=by kernel_rfl
theorem zK1 (X:TdX) (ih:Task→Res) {β:Type} (bot:β) (k:Res→β) (es ms:List V) (n:Int) (v1 n1:Nat) (l1:List V) (v2 n2 o:Nat) (l2:List V) (v3 n3:Nat) (l3:List V):evN PP EP CP (zc0 X) ih bot (.code (.loop (lpB PP 28 0)) ((base 28 29).on [(0,.func (.yield 6) [] []),(2,.ptr 4 0 0),(6,.osl 4 es),(7,.int .i64 es.length),(8,.int .i64 n)]) (hpS es ms (.sl 7 v1 0 n1 none) (.sl 8 v2 0 n2 none) (.ptr 8 v2 o) [rwT v1 l1,rwO v2 l2 (.sl 9 v3 0 n3 none),rwT v3 l3])) k =
 bif decide (n<(↑(List.length es):Int)) then (nX bot (n) (List.length es) (need bot (ldC PP 41 4 (es) (Int.toNat n*4)) (jn (nG bot v3 (n3) l3 (need bot (((v2)=(v2))∧((0=0)∧(((n2)=(List.length l2+1))∧((0≤(n2))∧(((n2+1)≤1099511627776)∧(((n2+1)*24)≤1099511627776)))))) (nI bot ((↑(Nat.add n2 1):Int)-1) (need bot (((0:Int)≤((↑(Nat.add n2 1):Int)-1))∧(((↑(Nat.add n2 1):Int)-1)<((↑(Nat.add n2 1):Int)))) (need bot (((Nat.succ v2)=(Nat.succ v2))∧(((0+Int.toNat ((↑(Nat.add n2 1):Int)-1))*1)=(List.length (l2++[V.osl 1 l3])*1+0))) (bif qb0 (gE 4 es (Int.toNat n*4) 3) then (need bot (((Nat.succ v2)=(Nat.succ v2))∧((((0+Int.toNat ((↑(Nat.add n2 1):Int)-1))*1)=(List.length (l2++[V.osl 1 l3])*1+0))∧(0≤(List.length (l2++[V.osl 1 l3]))))) (need bot (vEq (.ptr 8 (Nat.succ v2) ((0+Int.toNat ((↑(Nat.add n2 1):Int)-1))*1)) (.ptr 8 (Nat.succ v2) ((0+Int.toNat ((↑(Nat.add n2 1):Int)-1))*1))) (nI bot (n+1) (need bot (GndR (l1)) (need bot (GndR (l2++[V.osl 1 l3])) (need bot (GndR (l3)) (need bot (GndR (l1)) (need bot (GndR (l2++[V.osl 1 l3])) (need bot (GndR (bif Nat.beq (Nat.max 0 n3) 0 then [] else List.takeN l3 (Nat.max 0 n3))) (PR.bnd bot (X.1 (.code (.loop (lpB PP 28 0)) ((base 28 29).on [(0,(.func (.yield 6) [] [])),(2,(.ptr 4 0 0)),(6,(.osl 4 (es))),(7,(.int .i64 ((↑(List.length es):Int)))),(8,(.int .i64 (n+1)))]) (hp [.row 0 28 1 0 (some 1) [(.sl 7 (v1) 0 (n1) none)],.row 0 32 1 0 (some 1) [(.sl 8 (Nat.succ v2) 0 (Nat.add n2 1) none)],.row 0 51 1 0 (some 1) [(.ptr 8 (Nat.succ v2) ((0+Int.toNat ((↑(Nat.add n2 1):Int)-1))*1))],.row 0 29 1 0 (some 1) [(.osl 4 (es))],.row 0 23 1 0 (some 1) [(.osl 1 (ms))],.defs,lpS es ms,.row (v1) 9 1 0 none (l1),.rowS (Nat.succ v2) 28 1 0 (l2++[V.osl 1 l3]) .nils]))) (fun a19 =>
 bif a19.s then (bif a19.t then (bif a19.u then (jn (need bot (GndR (a19.l3)) (k (.code (.exit 0) ((base 28 29).on [(0,(.func (.yield 6) [] [])),(2,(.ptr 4 0 0))]) (hp [.row 0 28 1 0 (some 1) [(.sl 7 (a19.v1) 0 (a19.n1) none)],.row 0 32 1 0 (some 1) [(.sl 8 (a19.v2) 0 (a19.n2) none)],.row 0 51 1 0 (some 1) [(.ptr 8 (a19.v2) (a19.o))],.row 0 29 1 0 (some 1) [(.osl 4 (a19.es))],.row 0 23 1 0 (some 1) [(.osl 1 (a19.ms))],.defs,lpS a19.es a19.ms,.row (a19.v1) 9 1 0 none (a19.l1),.rowS (a19.v2) 28 1 0 (a19.l2) (.sl 10 (a19.v3) 0 (a19.n3) none),.row (v3) 9 1 (Nat.max 0 n3) none (bif Nat.beq (Nat.max 0 n3) 0 then [] else List.takeN (bif Nat.beq (Nat.max 0 n3) 0 then [] else List.takeN l3 (Nat.max 0 n3)) (Nat.max 0 n3)),.row (a19.v3) 9 1 0 none (a19.l3)]))))
 (fun j6:β=>bif a19.w then (need bot (GndR (a19.l1)) (need bot (GndR (a19.l2)) (need bot (GndR (a19.l4)) (need bot (GndR (a19.l3)) (need bot (GndR (a19.l1)) (need bot (GndR (a19.l2)) (need bot (GndR (bif Nat.beq (Nat.max 0 n3) 0 then [] else List.takeN l3 (Nat.max 0 n3))) (need bot (GndR (a19.l4)) (j6)))))))))
 else (need bot (GndR (a19.l1)) (need bot (GndR (a19.l2)) (need bot (GndR (a19.l3)) (need bot (GndR (a19.l1)) (need bot (GndR (a19.l2)) (need bot (GndR (bif Nat.beq (Nat.max 0 n3) 0 then [] else List.takeN l3 (Nat.max 0 n3))) (j6)))))))))
 else (bif a19.w then (need bot (GndR (a19.l2)) (need bot (GndR (a19.l4)) (need bot (GndR (a19.l3)) (need bot (GndR (a19.l2)) (need bot (GndR (a19.l4)) (need bot (GndR (bif Nat.beq (Nat.max 0 n3) 0 then [] else List.takeN l3 (Nat.max 0 n3))) (need bot (GndR (a19.l3)) (k (.code (.exit 0) ((base 28 29).on [(0,(.func (.yield 6) [] [])),(2,(.ptr 4 0 0))]) (hp [.row 0 28 1 0 (some 1) [.nils],.row 0 32 1 0 (some 1) [(.sl 7 (a19.v2) 0 (a19.n2) none)],.row 0 51 1 0 (some 1) [(.ptr 7 (a19.v2) (a19.o))],.row 0 29 1 0 (some 1) [(.osl 4 (a19.es))],.row 0 23 1 0 (some 1) [(.osl 1 (a19.ms))],.defs,lpS a19.es a19.ms,.rowS (a19.v2) 28 1 0 (a19.l2) (.sl 10 (a19.v3) 0 (a19.n3) none),.row (a19.v4) 9 1 (a19.p4) none (bif Nat.beq a19.p4 0 then [] else List.takeN a19.l4 a19.p4),.row (v3) 9 1 (Nat.max 0 n3) none (bif Nat.beq (Nat.max 0 n3) 0 then [] else List.takeN (bif Nat.beq (Nat.max 0 n3) 0 then [] else List.takeN l3 (Nat.max 0 n3)) (Nat.max 0 n3)),.row (a19.v3) 9 1 0 none (a19.l3)]))))))))))
 else (need bot (GndR (a19.l2)) (need bot (GndR (a19.l3)) (need bot (GndR (a19.l2)) (need bot (GndR (a19.l3)) (need bot (GndR (bif Nat.beq (Nat.max 0 n3) 0 then [] else List.takeN l3 (Nat.max 0 n3))) (k (.code (.exit 0) ((base 28 29).on [(0,(.func (.yield 6) [] [])),(2,(.ptr 4 0 0))]) (hp [.row 0 28 1 0 (some 1) [.nils],.row 0 32 1 0 (some 1) [(.sl 7 (a19.v2) 0 (a19.n2) none)],.row 0 51 1 0 (some 1) [(.ptr 7 (a19.v2) (a19.o))],.row 0 29 1 0 (some 1) [(.osl 4 (a19.es))],.row 0 23 1 0 (some 1) [(.osl 1 (a19.ms))],.defs,lpS a19.es a19.ms,.rowS (a19.v2) 28 1 0 (a19.l2) (.sl 8 (a19.v3) 0 (a19.n3) none),.row (a19.v3) 9 1 0 none (a19.l3),.row (v3) 9 1 (Nat.max 0 n3) none (bif Nat.beq (Nat.max 0 n3) 0 then [] else List.takeN (bif Nat.beq (Nat.max 0 n3) 0 then [] else List.takeN l3 (Nat.max 0 n3)) (Nat.max 0 n3))]))))))))))
 else (bif a19.u then (bif a19.w then (need bot (GndR (a19.l1)) (need bot (GndR (a19.l2)) (need bot (GndR (a19.l4)) (need bot (GndR (a19.l1)) (need bot (GndR (a19.l2)) (need bot (GndR (bif Nat.beq (Nat.max 0 n3) 0 then [] else List.takeN l3 (Nat.max 0 n3))) (need bot (GndR (a19.l4)) (k (.code (.exit 0) ((base 28 29).on [(0,(.func (.yield 6) [] [])),(2,(.ptr 4 0 0))]) (hp [.row 0 28 1 0 (some 1) [(.sl 7 (a19.v1) 0 (a19.n1) none)],.row 0 32 1 0 (some 1) [(.sl 8 (a19.v2) 0 (a19.n2) none)],.row 0 51 1 0 (some 1) [(.ptr 8 (a19.v2) (a19.o))],.row 0 29 1 0 (some 1) [(.osl 4 (a19.es))],.row 0 23 1 0 (some 1) [(.osl 1 (a19.ms))],.defs,lpS a19.es a19.ms,.row (a19.v1) 9 1 0 none (a19.l1),.rowS (a19.v2) 28 1 0 (a19.l2) .nils,.row (v3) 9 1 (Nat.max 0 n3) none (bif Nat.beq (Nat.max 0 n3) 0 then [] else List.takeN (bif Nat.beq (Nat.max 0 n3) 0 then [] else List.takeN l3 (Nat.max 0 n3)) (Nat.max 0 n3))]))))))))))
 else (need bot (GndR (a19.l1)) (need bot (GndR (a19.l2)) (need bot (GndR (a19.l1)) (need bot (GndR (a19.l2)) (need bot (GndR (bif Nat.beq (Nat.max 0 n3) 0 then [] else List.takeN l3 (Nat.max 0 n3))) (k (.code (.exit 0) ((base 28 29).on [(0,(.func (.yield 6) [] [])),(2,(.ptr 4 0 0))]) (hp [.row 0 28 1 0 (some 1) [(.sl 7 (a19.v1) 0 (a19.n1) none)],.row 0 32 1 0 (some 1) [(.sl 8 (a19.v2) 0 (a19.n2) none)],.row 0 51 1 0 (some 1) [(.ptr 8 (a19.v2) (a19.o))],.row 0 29 1 0 (some 1) [(.osl 4 (a19.es))],.row 0 23 1 0 (some 1) [(.osl 1 (a19.ms))],.defs,lpS a19.es a19.ms,.row (a19.v1) 9 1 0 none (a19.l1),.rowS (a19.v2) 28 1 0 (a19.l2) .nils,.row (v3) 9 1 (Nat.max 0 n3) none (bif Nat.beq (Nat.max 0 n3) 0 then [] else List.takeN (bif Nat.beq (Nat.max 0 n3) 0 then [] else List.takeN l3 (Nat.max 0 n3)) (Nat.max 0 n3))])))))))))
 else (bif a19.w then (need bot (GndR (a19.l2)) (need bot (GndR (a19.l4)) (need bot (GndR (a19.l2)) (need bot (GndR (a19.l4)) (need bot (GndR (bif Nat.beq (Nat.max 0 n3) 0 then [] else List.takeN l3 (Nat.max 0 n3))) (k (.code (.exit 0) ((base 28 29).on [(0,(.func (.yield 6) [] [])),(2,(.ptr 4 0 0))]) (hp [.row 0 28 1 0 (some 1) [.nils],.row 0 32 1 0 (some 1) [(.sl 7 (a19.v2) 0 (a19.n2) none)],.row 0 51 1 0 (some 1) [(.ptr 7 (a19.v2) (a19.o))],.row 0 29 1 0 (some 1) [(.osl 4 (a19.es))],.row 0 23 1 0 (some 1) [(.osl 1 (a19.ms))],.defs,lpS a19.es a19.ms,.rowS (a19.v2) 28 1 0 (a19.l2) .nils,.row (a19.v4) 9 1 (a19.p4) none (bif Nat.beq a19.p4 0 then [] else List.takeN a19.l4 a19.p4),.row (v3) 9 1 (Nat.max 0 n3) none (bif Nat.beq (Nat.max 0 n3) 0 then [] else List.takeN (bif Nat.beq (Nat.max 0 n3) 0 then [] else List.takeN l3 (Nat.max 0 n3)) (Nat.max 0 n3))]))))))))
 else (need bot (GndR (a19.l2)) (bot)))))
 else (bif a19.t then (bif a19.u then (bif a19.w then (need bot (GndR (a19.l1)) (bot))
 else (need bot (GndR (a19.l1)) (bot)))
 else (bif a19.w then (bot)
 else (bot)))
 else (bif a19.u then (bif a19.w then (need bot (GndR (a19.l1)) (bot))
 else (need bot (GndR (a19.l1)) (bot)))
 else (bif a19.w then (bot)
 else (bot)))))
 (fun _=>bot)))))))))))
 else (need bot ((gE 4 es (Int.toNat n*4) 3≠[])∧(((List.length (gE 4 es (Int.toNat n*4) 3))≤1099511627776)∧((List.length (gE 4 es (Int.toNat n*4) 3)*16)≤1099511627776))) (need bot (((Nat.succ v2)=(Nat.succ v2))∧((((0+Int.toNat ((↑(Nat.add n2 1):Int)-1))*1)=(List.length (l2++[V.osl 1 l3])*1+0))∧(0≤(List.length (l2++[V.osl 1 l3]))))) (need bot (vEq (.ptr 8 (Nat.succ v2) ((0+Int.toNat ((↑(Nat.add n2 1):Int)-1))*1)) (.ptr 8 (Nat.succ v2) ((0+Int.toNat ((↑(Nat.add n2 1):Int)-1))*1))) (nI bot (n+1) (need bot (GndR (l1)) (need bot (GndR (l2++[V.osl 1 l3])) (need bot (GndR (l3)) (need bot (GndR (gE 4 es (Int.toNat n*4) 3)) (need bot (GndR (l1)) (need bot (GndR (l2++[V.osl 1 l3])) (need bot (GndR (bif Nat.beq (Nat.max 0 n3) 0 then [] else List.takeN l3 (Nat.max 0 n3))) (need bot (GndR (gE 4 es (Int.toNat n*4) 3)) (PR.bnd bot (X.1 (.code (.loop (lpB PP 28 0)) ((base 28 29).on [(0,(.func (.yield 6) [] [])),(2,(.ptr 4 0 0)),(6,(.osl 4 (es))),(7,(.int .i64 ((↑(List.length es):Int)))),(8,(.int .i64 (n+1)))]) (hp [.row 0 28 1 0 (some 1) [(.sl 7 (v1) 0 (n1) none)],.row 0 32 1 0 (some 1) [(.sl 8 (Nat.succ v2) 0 (Nat.add n2 1) none)],.row 0 51 1 0 (some 1) [(.ptr 8 (Nat.succ v2) ((0+Int.toNat ((↑(Nat.add n2 1):Int)-1))*1))],.row 0 29 1 0 (some 1) [(.osl 4 (es))],.row 0 23 1 0 (some 1) [(.osl 1 (ms))],.defs,lpS es ms,.row (v1) 9 1 0 none (l1),.rowS (Nat.succ v2) 28 1 0 (l2++[V.osl 1 l3]) (.sl 9 0 0 (List.length (gE 4 es (Int.toNat n*4) 3)) none),.row 0 9 1 0 none (gE 4 es (Int.toNat n*4) 3)]))) (fun a22 =>
 bif a22.s then (bif a22.t then (bif a22.u then (jn (need bot (GndR (a22.l3)) (k (.code (.exit 0) ((base 28 29).on [(0,(.func (.yield 6) [] [])),(2,(.ptr 4 0 0))]) (hp [.row 0 28 1 0 (some 1) [(.sl 7 (a22.v1) 0 (a22.n1) none)],.row 0 32 1 0 (some 1) [(.sl 8 (a22.v2) 0 (a22.n2) none)],.row 0 51 1 0 (some 1) [(.ptr 8 (a22.v2) (a22.o))],.row 0 29 1 0 (some 1) [(.osl 4 (a22.es))],.row 0 23 1 0 (some 1) [(.osl 1 (a22.ms))],.defs,lpS a22.es a22.ms,.row (a22.v1) 9 1 0 none (a22.l1),.rowS (a22.v2) 28 1 0 (a22.l2) (.sl 10 (a22.v3) 0 (a22.n3) none),.row (v3) 9 1 (Nat.max 0 n3) none (bif Nat.beq (Nat.max 0 n3) 0 then [] else List.takeN (bif Nat.beq (Nat.max 0 n3) 0 then [] else List.takeN l3 (Nat.max 0 n3)) (Nat.max 0 n3)),.row (a22.v3) 9 1 0 none (a22.l3)]))))
 (fun j7:β=>bif a22.w then (need bot (GndR (a22.l1)) (need bot (GndR (a22.l2)) (need bot (GndR (a22.l4)) (need bot (GndR (a22.l3)) (need bot (GndR (a22.l1)) (need bot (GndR (a22.l2)) (need bot (GndR (bif Nat.beq (Nat.max 0 n3) 0 then [] else List.takeN l3 (Nat.max 0 n3))) (need bot (GndR (a22.l4)) (j7)))))))))
 else (need bot (GndR (a22.l1)) (need bot (GndR (a22.l2)) (need bot (GndR (a22.l3)) (need bot (GndR (a22.l1)) (need bot (GndR (a22.l2)) (need bot (GndR (bif Nat.beq (Nat.max 0 n3) 0 then [] else List.takeN l3 (Nat.max 0 n3))) (j7)))))))))
 else (bif a22.w then (need bot (GndR (a22.l2)) (need bot (GndR (a22.l4)) (need bot (GndR (a22.l3)) (need bot (GndR (a22.l2)) (need bot (GndR (a22.l4)) (need bot (GndR (bif Nat.beq (Nat.max 0 n3) 0 then [] else List.takeN l3 (Nat.max 0 n3))) (need bot (GndR (a22.l3)) (k (.code (.exit 0) ((base 28 29).on [(0,(.func (.yield 6) [] [])),(2,(.ptr 4 0 0))]) (hp [.row 0 28 1 0 (some 1) [.nils],.row 0 32 1 0 (some 1) [(.sl 7 (a22.v2) 0 (a22.n2) none)],.row 0 51 1 0 (some 1) [(.ptr 7 (a22.v2) (a22.o))],.row 0 29 1 0 (some 1) [(.osl 4 (a22.es))],.row 0 23 1 0 (some 1) [(.osl 1 (a22.ms))],.defs,lpS a22.es a22.ms,.rowS (a22.v2) 28 1 0 (a22.l2) (.sl 10 (a22.v3) 0 (a22.n3) none),.row (a22.v4) 9 1 (a22.p4) none (bif Nat.beq a22.p4 0 then [] else List.takeN a22.l4 a22.p4),.row (v3) 9 1 (Nat.max 0 n3) none (bif Nat.beq (Nat.max 0 n3) 0 then [] else List.takeN (bif Nat.beq (Nat.max 0 n3) 0 then [] else List.takeN l3 (Nat.max 0 n3)) (Nat.max 0 n3)),.row (a22.v3) 9 1 0 none (a22.l3)]))))))))))
 else (need bot (GndR (a22.l2)) (need bot (GndR (a22.l3)) (bot)))))
 else (bif a22.u then (bif a22.w then (need bot (GndR (a22.l1)) (need bot (GndR (a22.l2)) (need bot (GndR (a22.l4)) (need bot (GndR (a22.l1)) (need bot (GndR (a22.l2)) (need bot (GndR (bif Nat.beq (Nat.max 0 n3) 0 then [] else List.takeN l3 (Nat.max 0 n3))) (need bot (GndR (a22.l4)) (k (.code (.exit 0) ((base 28 29).on [(0,(.func (.yield 6) [] [])),(2,(.ptr 4 0 0))]) (hp [.row 0 28 1 0 (some 1) [(.sl 7 (a22.v1) 0 (a22.n1) none)],.row 0 32 1 0 (some 1) [(.sl 8 (a22.v2) 0 (a22.n2) none)],.row 0 51 1 0 (some 1) [(.ptr 8 (a22.v2) (a22.o))],.row 0 29 1 0 (some 1) [(.osl 4 (a22.es))],.row 0 23 1 0 (some 1) [(.osl 1 (a22.ms))],.defs,lpS a22.es a22.ms,.row (a22.v1) 9 1 0 none (a22.l1),.rowS (a22.v2) 28 1 0 (a22.l2) .nils,.row (v3) 9 1 (Nat.max 0 n3) none (bif Nat.beq (Nat.max 0 n3) 0 then [] else List.takeN (bif Nat.beq (Nat.max 0 n3) 0 then [] else List.takeN l3 (Nat.max 0 n3)) (Nat.max 0 n3))]))))))))))
 else (need bot (GndR (a22.l1)) (need bot (GndR (a22.l2)) (bot))))
 else (bif a22.w then (need bot (GndR (a22.l2)) (need bot (GndR (a22.l4)) (bot)))
 else (need bot (GndR (a22.l2)) (bot)))))
 else (bif a22.t then (bif a22.u then (bif a22.w then (need bot (GndR (a22.l1)) (bot))
 else (need bot (GndR (a22.l1)) (bot)))
 else (bif a22.w then (bot)
 else (bot)))
 else (bif a22.u then (bif a22.w then (need bot (GndR (a22.l1)) (bot))
 else (need bot (GndR (a22.l1)) (bot)))
 else (bif a22.w then (bot)
 else (bot)))))
 (fun _=>bot))))))))))))))))))))
 (fun j1:β=>bif decide ((↑(List.length ms):Int)≤n) then (j1)
 else (nX bot (n) (List.length ms) (need bot (ldX PP 4 1 (ms) (Int.toNat n*1)) (bif gB 1 ms (Int.toNat n*1) 0 then (need bot (((v2)=(v2))∧((o)=(List.length l2*1+0))) (bif qb0 (gE 4 es (Int.toNat n*4) 3) then (need bot (((v2)=(v2))∧(((o)=(List.length l2*1+0))∧(0≤(List.length l2)))) (need bot (vEq (.ptr 8 (v2) (o)) (.ptr 8 (v2) (o))) (nI bot (n+1) (need bot (GndR (l1)) (need bot (GndR (l2)) (need bot (GndR (l3)) (need bot (GndR (l1)) (need bot (GndR (l2)) (need bot (GndR (l3)) (PR.bnd bot (X.1 (.code (.loop (lpB PP 28 0)) ((base 28 29).on [(0,(.func (.yield 6) [] [])),(2,(.ptr 4 0 0)),(6,(.osl 4 (es))),(7,(.int .i64 ((↑(List.length es):Int)))),(8,(.int .i64 (n+1)))]) (hp [.row 0 28 1 0 (some 1) [(.sl 7 (v1) 0 (n1) none)],.row 0 32 1 0 (some 1) [(.sl 8 (v2) 0 (n2) none)],.row 0 51 1 0 (some 1) [(.ptr 8 (v2) (o))],.row 0 29 1 0 (some 1) [(.osl 4 (es))],.row 0 23 1 0 (some 1) [(.osl 1 (ms))],.defs,lpS es ms,.row (v1) 9 1 0 none (l1),.rowS (v2) 28 1 0 (l2) (.sl 9 (v3) 0 (n3) none),.row (v3) 9 1 0 none (l3)]))) (fun a18 =>
 bif a18.s then (bif a18.t then (bif a18.u then (bif a18.w then (need bot (GndR (a18.l1)) (need bot (GndR (a18.l2)) (need bot (GndR (a18.l4)) (need bot (GndR (a18.l3)) (k (.code (.exit 0) ((base 28 29).on [(0,(.func (.yield 6) [] [])),(2,(.ptr 4 0 0))]) (hp [.row 0 28 1 0 (some 1) [(.sl 7 (a18.v1) 0 (a18.n1) none)],.row 0 32 1 0 (some 1) [(.sl 8 (a18.v2) 0 (a18.n2) none)],.row 0 51 1 0 (some 1) [(.ptr 8 (a18.v2) (a18.o))],.row 0 29 1 0 (some 1) [(.osl 4 (a18.es))],.row 0 23 1 0 (some 1) [(.osl 1 (a18.ms))],.defs,lpS a18.es a18.ms,.row (a18.v1) 9 1 0 none (a18.l1),.rowS (a18.v2) 28 1 0 (a18.l2) (.sl 10 (a18.v3) 0 (a18.n3) none),.row (a18.v4) 9 1 (a18.p4) none (bif Nat.beq a18.p4 0 then [] else List.takeN a18.l4 a18.p4),.row (a18.v3) 9 1 0 none (a18.l3)])))))))
 else (need bot (GndR (a18.l1)) (need bot (GndR (a18.l2)) (need bot (GndR (a18.l3)) (k (.code (.exit 0) ((base 28 29).on [(0,(.func (.yield 6) [] [])),(2,(.ptr 4 0 0))]) (hp [.row 0 28 1 0 (some 1) [(.sl 7 (a18.v1) 0 (a18.n1) none)],.row 0 32 1 0 (some 1) [(.sl 8 (a18.v2) 0 (a18.n2) none)],.row 0 51 1 0 (some 1) [(.ptr 8 (a18.v2) (a18.o))],.row 0 29 1 0 (some 1) [(.osl 4 (a18.es))],.row 0 23 1 0 (some 1) [(.osl 1 (a18.ms))],.defs,lpS a18.es a18.ms,.row (a18.v1) 9 1 0 none (a18.l1),.rowS (a18.v2) 28 1 0 (a18.l2) (.sl 9 (a18.v3) 0 (a18.n3) none),.row (a18.v3) 9 1 0 none (a18.l3)])))))))
 else (bif a18.w then (need bot (GndR (a18.l2)) (need bot (GndR (a18.l4)) (need bot (GndR (a18.l3)) (k (.code (.exit 0) ((base 28 29).on [(0,(.func (.yield 6) [] [])),(2,(.ptr 4 0 0))]) (hp [.row 0 28 1 0 (some 1) [.nils],.row 0 32 1 0 (some 1) [(.sl 7 (a18.v2) 0 (a18.n2) none)],.row 0 51 1 0 (some 1) [(.ptr 7 (a18.v2) (a18.o))],.row 0 29 1 0 (some 1) [(.osl 4 (a18.es))],.row 0 23 1 0 (some 1) [(.osl 1 (a18.ms))],.defs,lpS a18.es a18.ms,.rowS (a18.v2) 28 1 0 (a18.l2) (.sl 9 (a18.v3) 0 (a18.n3) none),.row (a18.v4) 9 1 (a18.p4) none (bif Nat.beq a18.p4 0 then [] else List.takeN a18.l4 a18.p4),.row (a18.v3) 9 1 0 none (a18.l3)]))))))
 else (need bot (GndR (a18.l2)) (need bot (GndR (a18.l3)) (k (.code (.exit 0) ((base 28 29).on [(0,(.func (.yield 6) [] [])),(2,(.ptr 4 0 0))]) (hp [.row 0 28 1 0 (some 1) [.nils],.row 0 32 1 0 (some 1) [(.sl 7 (a18.v2) 0 (a18.n2) none)],.row 0 51 1 0 (some 1) [(.ptr 7 (a18.v2) (a18.o))],.row 0 29 1 0 (some 1) [(.osl 4 (a18.es))],.row 0 23 1 0 (some 1) [(.osl 1 (a18.ms))],.defs,lpS a18.es a18.ms,.rowS (a18.v2) 28 1 0 (a18.l2) (.sl 8 (a18.v3) 0 (a18.n3) none),.row (a18.v3) 9 1 0 none (a18.l3)])))))))
 else (bif a18.u then (bif a18.w then (need bot (GndR (a18.l1)) (need bot (GndR (a18.l2)) (need bot (GndR (a18.l4)) (k (.code (.exit 0) ((base 28 29).on [(0,(.func (.yield 6) [] [])),(2,(.ptr 4 0 0))]) (hp [.row 0 28 1 0 (some 1) [(.sl 7 (a18.v1) 0 (a18.n1) none)],.row 0 32 1 0 (some 1) [(.sl 8 (a18.v2) 0 (a18.n2) none)],.row 0 51 1 0 (some 1) [(.ptr 8 (a18.v2) (a18.o))],.row 0 29 1 0 (some 1) [(.osl 4 (a18.es))],.row 0 23 1 0 (some 1) [(.osl 1 (a18.ms))],.defs,lpS a18.es a18.ms,.row (a18.v1) 9 1 0 none (a18.l1),.rowS (a18.v2) 28 1 0 (a18.l2) .nils,.row (a18.v4) 9 1 (a18.p4) none (bif Nat.beq a18.p4 0 then [] else List.takeN a18.l4 a18.p4)]))))))
 else (need bot (GndR (a18.l1)) (need bot (GndR (a18.l2)) (k (.code (.exit 0) ((base 28 29).on [(0,(.func (.yield 6) [] [])),(2,(.ptr 4 0 0))]) (hp [.row 0 28 1 0 (some 1) [(.sl 7 (a18.v1) 0 (a18.n1) none)],.row 0 32 1 0 (some 1) [(.sl 8 (a18.v2) 0 (a18.n2) none)],.row 0 51 1 0 (some 1) [(.ptr 8 (a18.v2) (a18.o))],.row 0 29 1 0 (some 1) [(.osl 4 (a18.es))],.row 0 23 1 0 (some 1) [(.osl 1 (a18.ms))],.defs,lpS a18.es a18.ms,.row (a18.v1) 9 1 0 none (a18.l1),.rowS (a18.v2) 28 1 0 (a18.l2) .nils]))))))
 else (bif a18.w then (need bot (GndR (a18.l2)) (need bot (GndR (a18.l4)) (k (.code (.exit 0) ((base 28 29).on [(0,(.func (.yield 6) [] [])),(2,(.ptr 4 0 0))]) (hp [.row 0 28 1 0 (some 1) [.nils],.row 0 32 1 0 (some 1) [(.sl 7 (a18.v2) 0 (a18.n2) none)],.row 0 51 1 0 (some 1) [(.ptr 7 (a18.v2) (a18.o))],.row 0 29 1 0 (some 1) [(.osl 4 (a18.es))],.row 0 23 1 0 (some 1) [(.osl 1 (a18.ms))],.defs,lpS a18.es a18.ms,.rowS (a18.v2) 28 1 0 (a18.l2) .nils,.row (a18.v4) 9 1 (a18.p4) none (a18.l4)])))))
 else (need bot (GndR (a18.l2)) (k (.code (.exit 0) ((base 28 29).on [(0,(.func (.yield 6) [] [])),(2,(.ptr 4 0 0))]) (hp [.row 0 28 1 0 (some 1) [.nils],.row 0 32 1 0 (some 1) [(.sl 7 (a18.v2) 0 (a18.n2) none)],.row 0 51 1 0 (some 1) [(.ptr 7 (a18.v2) (a18.o))],.row 0 29 1 0 (some 1) [(.osl 4 (a18.es))],.row 0 23 1 0 (some 1) [(.osl 1 (a18.ms))],.defs,lpS a18.es a18.ms,.rowS (a18.v2) 28 1 0 (a18.l2) .nils])))))))
 else (jn (bif a18.u then (jn (need bot (GndR (a18.l1)) (k (.code (.exit 0) ((base 28 29).on [(0,(.func (.yield 6) [] [])),(2,(.ptr 4 0 0))]) (hp [.row 0 28 1 0 (some 1) [(.sl 7 (a18.v1) 0 (a18.n1) none)],.row 0 32 1 0 (some 1) [.nils],.row 0 51 1 0 (some 1) [(.ptr 0 0 0)],.row 0 29 1 0 (some 1) [(.osl 4 (a18.es))],.row 0 23 1 0 (some 1) [(.osl 1 (a18.ms))],.defs,lpS a18.es a18.ms,.row (a18.v1) 9 1 0 none (a18.l1)]))))
 (fun j3:β=>bif a18.w then (j3)
 else (j3)))
 else (bif a18.w then (k (.code (.exit 0) ((base 28 29).on [(0,(.func (.yield 6) [] [])),(2,(.ptr 4 0 0))]) (hp [.row 0 28 1 0 (some 1) [.nils],.row 0 32 1 0 (some 1) [.nils],.row 0 51 1 0 (some 1) [(.ptr 0 0 0)],.row 0 29 1 0 (some 1) [(.osl 4 (a18.es))],.row 0 23 1 0 (some 1) [(.osl 1 (a18.ms))],.defs,lpS a18.es a18.ms])))
 else (k (.code (.exit 0) ((base 28 29).on [(0,(.func (.yield 6) [] [])),(2,(.ptr 4 0 0))]) (hp [.row 0 28 1 0 (some 1) [.nils],.row 0 32 1 0 (some 1) [.nils],.row 0 51 1 0 (some 1) [(.ptr 0 0 0)],.row 0 29 1 0 (some 1) [(.osl 4 (a18.es))],.row 0 23 1 0 (some 1) [(.osl 1 (a18.ms))],.defs,lpS a18.es a18.ms])))))
 (fun j2:β=>bif a18.t then (j2)
 else (j2))))
 (fun e18=>k (qN e18))))))))))))
 else (need bot (((v3)=(v3))∧((gE 4 es (Int.toNat n*4) 3≠[])∧(((n3)=(List.length l3))∧((0≤(n3))∧(((n3+List.length (gE 4 es (Int.toNat n*4) 3))≤1099511627776)∧(((n3+List.length (gE 4 es (Int.toNat n*4) 3))*16)≤1099511627776)))))) (need bot (((v2)=(v2))∧(((o)=(List.length l2*1+0))∧(0≤(List.length l2)))) (need bot (vEq (.ptr 8 (v2) (o)) (.ptr 8 (v2) (o))) (nI bot (n+1) (need bot (GndR (l1)) (need bot (GndR (l2)) (need bot (GndR (l3++gE 4 es (Int.toNat n*4) 3)) (need bot (GndR (l1)) (need bot (GndR (l2)) (need bot (GndR (l3++gE 4 es (Int.toNat n*4) 3)) (PR.bnd bot (X.1 (.code (.loop (lpB PP 28 0)) ((base 28 29).on [(0,(.func (.yield 6) [] [])),(2,(.ptr 4 0 0)),(6,(.osl 4 (es))),(7,(.int .i64 ((↑(List.length es):Int)))),(8,(.int .i64 (n+1)))]) (hp [.row 0 28 1 0 (some 1) [(.sl 7 (v1) 0 (n1) none)],.row 0 32 1 0 (some 1) [(.sl 8 (v2) 0 (n2) none)],.row 0 51 1 0 (some 1) [(.ptr 8 (v2) (o))],.row 0 29 1 0 (some 1) [(.osl 4 (es))],.row 0 23 1 0 (some 1) [(.osl 1 (ms))],.defs,lpS es ms,.row (v1) 9 1 0 none (l1),.rowS (v2) 28 1 0 (l2) (.sl 9 (Nat.succ v3) 0 (n3+List.length (gE 4 es (Int.toNat n*4) 3)) none),.row (Nat.succ v3) 9 1 0 none (l3++gE 4 es (Int.toNat n*4) 3)]))) (fun a19 =>
 bif a19.s then (bif a19.t then (bif a19.u then (bif a19.w then (need bot (GndR (a19.l1)) (need bot (GndR (a19.l2)) (need bot (GndR (a19.l4)) (need bot (GndR (a19.l3)) (k (.code (.exit 0) ((base 28 29).on [(0,(.func (.yield 6) [] [])),(2,(.ptr 4 0 0))]) (hp [.row 0 28 1 0 (some 1) [(.sl 7 (a19.v1) 0 (a19.n1) none)],.row 0 32 1 0 (some 1) [(.sl 8 (a19.v2) 0 (a19.n2) none)],.row 0 51 1 0 (some 1) [(.ptr 8 (a19.v2) (a19.o))],.row 0 29 1 0 (some 1) [(.osl 4 (a19.es))],.row 0 23 1 0 (some 1) [(.osl 1 (a19.ms))],.defs,lpS a19.es a19.ms,.row (a19.v1) 9 1 0 none (a19.l1),.rowS (a19.v2) 28 1 0 (a19.l2) (.sl 10 (a19.v3) 0 (a19.n3) none),.row (a19.v4) 9 1 (a19.p4) none (bif Nat.beq a19.p4 0 then [] else List.takeN a19.l4 a19.p4),.row (a19.v3) 9 1 0 none (a19.l3)])))))))
 else (need bot (GndR (a19.l1)) (need bot (GndR (a19.l2)) (need bot (GndR (a19.l3)) (k (.code (.exit 0) ((base 28 29).on [(0,(.func (.yield 6) [] [])),(2,(.ptr 4 0 0))]) (hp [.row 0 28 1 0 (some 1) [(.sl 7 (a19.v1) 0 (a19.n1) none)],.row 0 32 1 0 (some 1) [(.sl 8 (a19.v2) 0 (a19.n2) none)],.row 0 51 1 0 (some 1) [(.ptr 8 (a19.v2) (a19.o))],.row 0 29 1 0 (some 1) [(.osl 4 (a19.es))],.row 0 23 1 0 (some 1) [(.osl 1 (a19.ms))],.defs,lpS a19.es a19.ms,.row (a19.v1) 9 1 0 none (a19.l1),.rowS (a19.v2) 28 1 0 (a19.l2) (.sl 9 (a19.v3) 0 (a19.n3) none),.row (a19.v3) 9 1 0 none (a19.l3)])))))))
 else (bif a19.w then (need bot (GndR (a19.l2)) (need bot (GndR (a19.l4)) (need bot (GndR (a19.l3)) (k (.code (.exit 0) ((base 28 29).on [(0,(.func (.yield 6) [] [])),(2,(.ptr 4 0 0))]) (hp [.row 0 28 1 0 (some 1) [.nils],.row 0 32 1 0 (some 1) [(.sl 7 (a19.v2) 0 (a19.n2) none)],.row 0 51 1 0 (some 1) [(.ptr 7 (a19.v2) (a19.o))],.row 0 29 1 0 (some 1) [(.osl 4 (a19.es))],.row 0 23 1 0 (some 1) [(.osl 1 (a19.ms))],.defs,lpS a19.es a19.ms,.rowS (a19.v2) 28 1 0 (a19.l2) (.sl 9 (a19.v3) 0 (a19.n3) none),.row (a19.v4) 9 1 (a19.p4) none (bif Nat.beq a19.p4 0 then [] else List.takeN a19.l4 a19.p4),.row (a19.v3) 9 1 0 none (a19.l3)]))))))
 else (need bot (GndR (a19.l2)) (need bot (GndR (a19.l3)) (k (.code (.exit 0) ((base 28 29).on [(0,(.func (.yield 6) [] [])),(2,(.ptr 4 0 0))]) (hp [.row 0 28 1 0 (some 1) [.nils],.row 0 32 1 0 (some 1) [(.sl 7 (a19.v2) 0 (a19.n2) none)],.row 0 51 1 0 (some 1) [(.ptr 7 (a19.v2) (a19.o))],.row 0 29 1 0 (some 1) [(.osl 4 (a19.es))],.row 0 23 1 0 (some 1) [(.osl 1 (a19.ms))],.defs,lpS a19.es a19.ms,.rowS (a19.v2) 28 1 0 (a19.l2) (.sl 8 (a19.v3) 0 (a19.n3) none),.row (a19.v3) 9 1 0 none (a19.l3)])))))))
 else (bif a19.u then (bif a19.w then (need bot (GndR (a19.l1)) (need bot (GndR (a19.l2)) (need bot (GndR (a19.l4)) (k (.code (.exit 0) ((base 28 29).on [(0,(.func (.yield 6) [] [])),(2,(.ptr 4 0 0))]) (hp [.row 0 28 1 0 (some 1) [(.sl 7 (a19.v1) 0 (a19.n1) none)],.row 0 32 1 0 (some 1) [(.sl 8 (a19.v2) 0 (a19.n2) none)],.row 0 51 1 0 (some 1) [(.ptr 8 (a19.v2) (a19.o))],.row 0 29 1 0 (some 1) [(.osl 4 (a19.es))],.row 0 23 1 0 (some 1) [(.osl 1 (a19.ms))],.defs,lpS a19.es a19.ms,.row (a19.v1) 9 1 0 none (a19.l1),.rowS (a19.v2) 28 1 0 (a19.l2) .nils,.row (a19.v4) 9 1 (a19.p4) none (bif Nat.beq a19.p4 0 then [] else List.takeN a19.l4 a19.p4)]))))))
 else (need bot (GndR (a19.l1)) (need bot (GndR (a19.l2)) (k (.code (.exit 0) ((base 28 29).on [(0,(.func (.yield 6) [] [])),(2,(.ptr 4 0 0))]) (hp [.row 0 28 1 0 (some 1) [(.sl 7 (a19.v1) 0 (a19.n1) none)],.row 0 32 1 0 (some 1) [(.sl 8 (a19.v2) 0 (a19.n2) none)],.row 0 51 1 0 (some 1) [(.ptr 8 (a19.v2) (a19.o))],.row 0 29 1 0 (some 1) [(.osl 4 (a19.es))],.row 0 23 1 0 (some 1) [(.osl 1 (a19.ms))],.defs,lpS a19.es a19.ms,.row (a19.v1) 9 1 0 none (a19.l1),.rowS (a19.v2) 28 1 0 (a19.l2) .nils]))))))
 else (bif a19.w then (need bot (GndR (a19.l2)) (need bot (GndR (a19.l4)) (k (.code (.exit 0) ((base 28 29).on [(0,(.func (.yield 6) [] [])),(2,(.ptr 4 0 0))]) (hp [.row 0 28 1 0 (some 1) [.nils],.row 0 32 1 0 (some 1) [(.sl 7 (a19.v2) 0 (a19.n2) none)],.row 0 51 1 0 (some 1) [(.ptr 7 (a19.v2) (a19.o))],.row 0 29 1 0 (some 1) [(.osl 4 (a19.es))],.row 0 23 1 0 (some 1) [(.osl 1 (a19.ms))],.defs,lpS a19.es a19.ms,.rowS (a19.v2) 28 1 0 (a19.l2) .nils,.row (a19.v4) 9 1 (a19.p4) none (a19.l4)])))))
 else (need bot (GndR (a19.l2)) (k (.code (.exit 0) ((base 28 29).on [(0,(.func (.yield 6) [] [])),(2,(.ptr 4 0 0))]) (hp [.row 0 28 1 0 (some 1) [.nils],.row 0 32 1 0 (some 1) [(.sl 7 (a19.v2) 0 (a19.n2) none)],.row 0 51 1 0 (some 1) [(.ptr 7 (a19.v2) (a19.o))],.row 0 29 1 0 (some 1) [(.osl 4 (a19.es))],.row 0 23 1 0 (some 1) [(.osl 1 (a19.ms))],.defs,lpS a19.es a19.ms,.rowS (a19.v2) 28 1 0 (a19.l2) .nils])))))))
 else (jn (bif a19.u then (jn (need bot (GndR (a19.l1)) (k (.code (.exit 0) ((base 28 29).on [(0,(.func (.yield 6) [] [])),(2,(.ptr 4 0 0))]) (hp [.row 0 28 1 0 (some 1) [(.sl 7 (a19.v1) 0 (a19.n1) none)],.row 0 32 1 0 (some 1) [.nils],.row 0 51 1 0 (some 1) [(.ptr 0 0 0)],.row 0 29 1 0 (some 1) [(.osl 4 (a19.es))],.row 0 23 1 0 (some 1) [(.osl 1 (a19.ms))],.defs,lpS a19.es a19.ms,.row (a19.v1) 9 1 0 none (a19.l1)]))))
 (fun j5:β=>bif a19.w then (j5)
 else (j5)))
 else (bif a19.w then (k (.code (.exit 0) ((base 28 29).on [(0,(.func (.yield 6) [] [])),(2,(.ptr 4 0 0))]) (hp [.row 0 28 1 0 (some 1) [.nils],.row 0 32 1 0 (some 1) [.nils],.row 0 51 1 0 (some 1) [(.ptr 0 0 0)],.row 0 29 1 0 (some 1) [(.osl 4 (a19.es))],.row 0 23 1 0 (some 1) [(.osl 1 (a19.ms))],.defs,lpS a19.es a19.ms])))
 else (k (.code (.exit 0) ((base 28 29).on [(0,(.func (.yield 6) [] [])),(2,(.ptr 4 0 0))]) (hp [.row 0 28 1 0 (some 1) [.nils],.row 0 32 1 0 (some 1) [.nils],.row 0 51 1 0 (some 1) [(.ptr 0 0 0)],.row 0 29 1 0 (some 1) [(.osl 4 (a19.es))],.row 0 23 1 0 (some 1) [(.osl 1 (a19.ms))],.defs,lpS a19.es a19.ms])))))
 (fun j4:β=>bif a19.t then (j4)
 else (j4))))
 (fun e19=>k (qN e19)))))))))))))))
 else (j1))))))))
 else (need bot (GndR (l1)) (need bot (GndR (l2)) (need bot (GndR (l3)) (need bot (GndR (l1)) (need bot (GndR (l2)) (need bot (GndR (l3)) (k (.code (.exit 0) ((base 28 29).on [(0,(.func (.yield 6) [] [])),(2,(.ptr 4 0 0))]) (hp [.row 0 28 1 0 (some 1) [(.sl 7 (v1) 0 (n1) none)],.row 0 32 1 0 (some 1) [(.sl 8 (v2) 0 (n2) none)],.row 0 51 1 0 (some 1) [(.ptr 8 (v2) (o))],.row 0 29 1 0 (some 1) [(.osl 4 (es))],.row 0 23 1 0 (some 1) [(.osl 1 (ms))],.defs,lpS es ms,.row (v1) 9 1 0 none (l1),.rowS (v2) 28 1 0 (l2) (.sl 9 (v3) 0 (n3) none),.row (v3) 9 1 0 none (l3)]))))))))):=by kernel_rfl
/-- WHAT tidy.Spread COMES TO. -/
abbrev Sq:=List V×Option (List V×List V)
noncomputable def nt (es:List V) (n:Nat):List V:=gE 4 es (n*4) 3
noncomputable def cnt (ms:List V) (n:Nat):Bool:=decide (ms.length≤n)||!(gB 1 ms (n*1) 0)
def qe0 (N:List V) (c:Bool):Sq→Sq
 | (ld,none)=>bif c then (ld,some ([],N)) else (ld++N,none)
 | (ld,some (o,l))=>bif c then (ld,some (o++[.osl 1 l],N)) else (ld,some (o,l++N))
noncomputable def qa0 (es ms:List V):Nat→Nat→Sq→Sq
 | 0,_,q=>q
 | d+1,n,q=>qa0 es ms d (n+1) (qe0 (nt es n) (cnt ms n) q)
theorem zA2 {N:List V} {c:Bool} {ld:List V} {p:List V×List V}:∃ p',qe0 N c (ld,some p)=(ld,some p'):=by
 obtain ⟨o,l⟩:=p
 cases c
 ·exact ⟨_,rfl⟩
 ·exact ⟨_,rfl⟩
theorem yg1 (es ms:List V) (d:Nat):∀ (n:Nat) (ld:List V) (p:List V×List V),∃ p',qa0 es ms d n (ld,some p)=(ld,some p'):=by
 induction d with
 | zero=>intro n ld p;exact ⟨p,rfl⟩
 | succ d IH =>
  intro n ld p
  obtain ⟨p',h⟩:=zA2 (N:=nt es n) (c:=cnt ms n) (ld:=ld) (p:=p)
  show ∃ p',qa0 es ms d (n+1) (qe0 _ _ _)=_
  rw [h]
  exact IH _ _ _
structure Out (es ms:List V) (q0 q:Sq) (a:Sp):Prop where
 es:a.es=es
 ms:a.ms=ms
 u:a.u=!qb0 q.1
 l1:a.u=true→a.l1=q.1∧a.n1=q.1.length
 s:a.s=q.2.isSome
 o:∀ o l,q.2=some (o,l)→a.l2=o∧a.n2=o.length+1∧a.o=o.length∧a.t=!qb0 l∧(a.t=true→a.l3=l∧a.n3=l.length)
 w:a.s=true→a.w=true→∃ o l,q0.2=some (o,l)∧l≠[]
 g1:GndR q.1
 g2:∀ o l,q.2=some (o,l)→GndR o∧GndR l
 g4:a.s=true→a.w=true→GndR a.l4
 v:∀ o l,q0.2=some (o,l)→l≠[]→a.t=false→a.w=true
theorem Out.now {es ms:List V} {q0 q1 q:Sq} {a:Sp} (h:Out es ms q1 q a) (hv:∀ o l,q0.2=some (o,l)→l≠[]→a.t=true):Out es ms q0 q { a with w:=false } :=
 ⟨h.es,h.ms,h.u,h.l1,h.s,h.o,(fun _ e=>by cases e),h.g1,h.g2,(fun _ e=>by cases e),(fun o l e hl ht=>by have:=hv o l e hl;exact absurd (this.symm.trans ht) (by decide))⟩
theorem Out.gl1 {es ms:List V} {q0 q:Sq} {a:Sp} (h:Out es ms q0 q a) (hu:a.u=true):GndR a.l1:=by rw [(h.l1 hu).1];exact h.g1
theorem Out.gl2 {es ms:List V} {q0 q:Sq} {a:Sp} (h:Out es ms q0 q a) (hs:a.s=true):GndR a.l2:=by
 have:=h.s
 rw [hs] at this
 obtain ⟨ld,x⟩:=q
 cases x with
 | none=>cases this
 | some p=>rw [(h.o p.1 p.2 rfl).1];exact (h.g2 p.1 p.2 rfl).1
theorem Out.gl3 {es ms:List V} {q0 q:Sq} {a:Sp} (h:Out es ms q0 q a) (hs:a.s=true) (ht:a.t=true):GndR a.l3:=by
 have:=h.s
 rw [hs] at this
 obtain ⟨ld,x⟩:=q
 cases x with
 | none=>cases this
 | some p=>rw [((h.o p.1 p.2 rfl).2.2.2.2 ht).1];exact (h.g2 p.1 p.2 rfl).2
def QS (fr:Fr) (P:Sp→Prop) (r:Res):Prop:=∃ a,r=rSp fr a.s a.t a.u a.w a∧P a
theorem QS.mk {fr:Fr} {P:Sp→Prop} {r:Res} (a:Sp) (h:r=rSp fr a.s a.t a.u a.w a) (hP:P a):QS fr P r:=⟨a,h,hP⟩
noncomputable def lpT (es:List V) (n:Int) (h:Heap):Task:=.code (.loop (lpB PP 28 0)) ((base 28 29).on [(0,.func (.yield 6) [] []),(2,.ptr 4 0 0),(6,.osl 4 es),(7,.int .i64 es.length),(8,.int .i64 n)]) h
noncomputable def szQ (es:List V):Nat→Nat→Nat
 | 0,_=>0
 | d+1,n=>(nt es n).length+szQ es d (n+1)
structure En (es ms:List V):Prop where
 len:es.length≤1073741824
 ldc:∀ n,n<es.length→ldC PP 41 4 es (n*4)
 ldx:∀ n,n<ms.length→ldX PP 4 1 ms (n*1)
 gnt:∀ n,n<es.length→GndR (nt es n)
def qG0:Sq→Nat
 | (_,none)=>0
 | (_,some (_,l))=>l.length
def qx0:Sq→Nat
 | (_,none)=>0
 | (_,some (o,_))=>o.length+1
structure OkQ (es:List V) (d n:Nat) (q:Sq):Prop where
 at':n+d=es.length
 sum:q.1.length+qG0 q+szQ es d n≤68719476736
 out:qx0 q≤n
 g1:GndR q.1
 g2:∀ o l,q.2=some (o,l)→GndR o∧GndR l
theorem GndR.app {a b:List V} (ha:GndR a) (hb:GndR b):GndR (a++b):=fun e he=>(List.mem_append.1 he).elim (ha e) (hb e)
theorem GndR.nil:GndR []:=fun e he=>by cases he
theorem jk0 (l:List V):GndR [V.osl 1 l]:=fun e he=>by
 rw [List.mem_singleton] at he
 subst he
 rfl
noncomputable def hS (es ms:List V) (v1 n1 v2 n2 k v3 n3:Nat):Sq→Heap
 | ([],none)=>hpS es ms .nils .nils (.ptr 0 0 0) []
 | (a::b,none)=>hpS es ms (.sl 7 v1 0 n1 none) .nils (.ptr 0 0 0) [rwT v1 (a::b)]
 | ([],some (o,[]))=>hpS es ms .nils (.sl 7 v2 0 n2 none) (.ptr 7 v2 k) [rwO v2 o .nils]
 | (a::b,some (o,[]))=>hpS es ms (.sl 7 v1 0 n1 none) (.sl 8 v2 0 n2 none) (.ptr 8 v2 k) [rwT v1 (a::b),rwO v2 o .nils]
 | ([],some (o,c::l))=>hpS es ms .nils (.sl 7 v2 0 n2 none) (.ptr 7 v2 k) [rwO v2 o (.sl 8 v3 0 n3 none),rwT v3 (c::l)]
 | (a::b,some (o,c::l))=>hpS es ms (.sl 7 v1 0 n1 none) (.sl 8 v2 0 n2 none) (.ptr 8 v2 k) [rwT v1 (a::b),rwO v2 o (.sl 9 v3 0 n3 none),rwT v3 (c::l)]
theorem Rn.joinC {c:Prop} {s:Nat→Option Res} {F:Option Res→Nat→Option Res} {Q:Res→Prop} (hs:c→Rn s Q) (hF:∀ (j:Nat→Option Res),(c→Rn j Q)→Rn (fun n=>F (j n) n) Q):Rn (fun n=>jn (s n) (fun j=>F j n)) Q:=hF s hs
def Nx (es ms:List V) (d n:Nat):Prop:=∀ (v1 n1 v2 n2 k v3 n3:Nat) (q:Sq),OkQ es d n q→n1=q.1.length→n2=qx0 q→k=qx0 q-1→n3=qG0 q→OkT (fun X=>X.Sp (lpT es (n:Nat) (hS es ms v1 n1 v2 n2 k v3 n3 q))) (Out es ms q (qa0 es ms d n q))
theorem qI0 {α:Type} {l:List α} (h:qb0 l=true):l=[]:=by cases l with | nil=>rfl | cons _ _=>cases h
theorem yy0 {α:Type} {l:List α} (h:qb0 l=false):l≠[]:=by cases l with | nil=>cases h | cons _ _=>exact fun e=>by cases e
theorem OkQ.next {es ms:List V} (E:En es ms) {d n:Nat} {q:Sq} (h:OkQ es (d+1) n q) (c:Bool):OkQ es d (n+1) (qe0 (nt es n) c q):=by
 have hlt:n<es.length:=by have:=h.at';omega
 have hg:=E.gnt n hlt
 have h0:=h.at'
 have h1:=h.sum
 have h2:=h.out
 obtain ⟨ld,x⟩:=q
 change ld.length+qG0 (ld,x)+((nt es n).length+szQ es d (n+1))≤_ at h1
 cases x with
 | none =>
  cases c with
  | true =>
   refine ⟨by omega,?_,?_,h.g1,fun o l e=>?_⟩
   ·show ld.length+(nt es n).length+szQ es d (n+1)≤_
    simp only [qG0] at h1;omega
   ·show 0+1≤n+1;omega
   ·cases e;exact ⟨GndR.nil,hg⟩
  | false =>
   refine ⟨by omega,?_,?_,h.g1.app hg,fun o l e=>by cases e⟩
   ·show (ld++nt es n).length+0+szQ es d (n+1)≤_
    simp only [qG0,List.length_append] at h1 ⊢;omega
   ·show 0≤n+1;omega
 | some p =>
  obtain ⟨o,l⟩:=p
  obtain ⟨g1,g2⟩:=h.g2 o l rfl
  simp only [qG0,qx0] at h1 h2
  cases c with
  | true =>
   refine ⟨by omega,?_,?_,h.g1,fun o' l' e=>?_⟩
   ·show ld.length+(nt es n).length+szQ es d (n+1)≤_
    omega
   ·show (o++[V.osl 1 l]).length+1≤n+1
    simp only [List.length_append,List.length_cons,List.length_nil];omega
   ·cases e;exact ⟨g1.app (jk0 l),hg⟩
  | false =>
   refine ⟨by omega,?_,?_,h.g1,fun o' l' e=>?_⟩
   ·show ld.length+(l++nt es n).length+szQ es d (n+1)≤_
    simp only [List.length_append];omega
   ·show o.length+1≤n+1;omega
   ·cases e;exact ⟨g1,g2.app hg⟩
theorem zF0 {es ms:List V} {L:List (Nat×V)} {q0 q1 q:Sq} {a:Sp} (ha:Out es ms q1 q a) (hv:∀ o l,q0.2=some (o,l)→l≠[]→a.t=true):Rn (fun _=>fS1 none some a) (QS ((base 28 29).on L) (Out es ms q0 q)):=by
 unfold fS1
 repeat' (with_reducible first | refine Rn.need (Out.gl1 ha (by assumption)) ?_ | refine Rn.need (Out.gl2 ha (by assumption)) ?_ | refine Rn.need (Out.gl3 ha (by assumption) (by assumption)) ?_ | refine Rn.need (Out.g4 ha (by assumption) (by assumption)) ?_ | refine Rn.cond (fun _=>?_) (fun _=>?_) | refine Rn.jo ?_)
 all_goals (refine Rn.ret (QS.mk { a with w:=false } ?_ (Out.now ha hv));show _=rSp _ (Sp.s a) (Sp.t a) (Sp.u a) false _;(first | (rw [‹Sp.s a=true›,‹Sp.t a=true›,‹Sp.u a=true›];rfl) | (rw [‹Sp.s a=true›,‹Sp.t a=true›,‹Sp.u a=false›];rfl) | (rw [‹Sp.s a=true›,‹Sp.t a=false›,‹Sp.u a=true›];rfl) | (rw [‹Sp.s a=true›,‹Sp.t a=false›,‹Sp.u a=false›];rfl) | (rw [‹Sp.s a=false›,‹Sp.t a=true›,‹Sp.u a=true›];rfl) | (rw [‹Sp.s a=false›,‹Sp.t a=true›,‹Sp.u a=false›];rfl) | (rw [‹Sp.s a=false›,‹Sp.t a=false›,‹Sp.u a=true›];rfl) | (rw [‹Sp.s a=false›,‹Sp.t a=false›,‹Sp.u a=false›];rfl)))
theorem rC {es ms:List V} (E:En es ms) {d n v1 n1 v2 n2 k v3 n3:Nat} {o:List V} (h:OkQ es (d+1) n ([],some (o,[]))) (IH:Nx es ms d (n+1)) (h2:n2=o.length+1) (hk:k=o.length) :
 Rn (fun m=>evN PP EP CP (zc0 (XT m)) (rn PP EP CP m) none (lpT es n (hS es ms v1 n1 v2 n2 k v3 n3 ([],some (o,[])))) some) (QS ((base 28 29).on [(0,.func (.yield 6) [] []),(2,.ptr 4 0 0),(6,.osl 4 es),(7,.int .i64 es.length),(8,.int .i64 n)]) (Out es ms ([],some (o,[])) (qa0 es ms (d+1) n ([],some (o,[]))))):=by
 subst h2 hk
 refine .of (fun m=>zH1 (XT m) _ none some es ms n v2 (o.length+1) o.length o) ?_
 have e0:Nat.add (o.length+1) 1=o.length+1+1:=rfl
 have e1:(0+Int.toNat ((↑(o.length+1+1):Int)-1))*1=o.length+1:=by omega
 have e2:(o++[V.osl 1 []]).length=o.length+1:=by simp
 have hN:gE 4 es (Int.toNat (n:Int)*4) 3=nt es n:=rfl
 have hlt:n<es.length:=by have:=h.at';omega
 have hl:=E.len
 have ho:o.length+1≤n:=h.out
 simp only [e0,e1,e2,hN]
 refine .decT (by omega) (.nX ⟨by omega,by omega⟩ (.need (E.ldc n hlt) ?_))
 have hgo:GndR (o++[V.osl 1 []]):=(h.g2 o [] rfl).1.app (jk0 [])
 refine .joinC (c:=cnt ms n=true) (fun hc=>?_) (fun j hj=>?_)
 ·have hf:qa0 es ms (d+1) n ([],some (o,[]))=qa0 es ms d (n+1) ([],some (o++[V.osl 1 []],nt es n)):=by
   show qa0 es ms d (n+1) (qe0 _ (cnt ms n) _)=_
   rw [hc];rfl
  have hq:OkQ es d (n+1) ([],some (o++[V.osl 1 []],nt es n)):=h.next E true
  rw [hf]
  have hsz:(nt es n).length≤68719476736:=by have:=hq.sum;simp only [qG0] at this;omega
  have hgN:=E.gnt n hlt
  refine .need ⟨trivial,trivial,trivial,by omega,by omega,by omega⟩ (.nI ⟨by omega,by omega⟩ (.need ⟨by omega,by omega⟩ (.need ⟨trivial,by omega⟩ ?_)))
  refine .cond (fun hn=>?_) (fun hn=>?_)
  ·have hn:=qI0 hn
   rw [hn] at hq ⊢
   refine .need ⟨trivial,by omega,by omega⟩ (.need rfl (.nI ⟨by omega,by omega⟩ (.need hgo (.need hgo ?_))))
   exact .bndT (IH 0 0 (v2+1) (o.length+1+1) (o.length+1) 0 0 _ hq rfl (by simp [qx0]) (by simp [qx0]) rfl) (fun a ha=>zF0 ha (fun _ _ e hl=>by cases e;exact absurd rfl hl))
  ·obtain ⟨c,l,hcl⟩:∃ c l,nt es n=c::l:=by
    cases hx:nt es n with
    | nil=>rw [hx] at hn;cases hn
    | cons c l=>exact ⟨c,l,rfl⟩
   rw [hcl] at hq hsz hgN ⊢
   refine .need ⟨(fun e=>by cases e),by omega,by omega⟩ (.need ⟨trivial,by omega,by omega⟩ (.need rfl (.nI ⟨by omega,by omega⟩ (.need hgo (.need hgN (.need hgo (.need hgN ?_)))))))
   exact .bndT (IH 0 0 (v2+1) (o.length+1+1) (o.length+1) 0 (c::l).length _ hq rfl (by simp [qx0]) (by simp [qx0]) rfl) (fun a ha=>zF0 ha (fun _ _ e hl=>by cases e;exact absurd rfl hl))
 ·refine .dec (fun hc=>hj ?_) (fun hc=>.nX ⟨by omega,by omega⟩ (.need (E.ldx n (by omega)) (.cond (fun hb=>?_) (fun hb=>hj ?_))))
  ·unfold cnt;rw [decide_eq_true (by omega)];rfl
  ·have hc:cnt ms n=false:=by
    unfold cnt
    rw [decide_eq_false (by omega),show gB 1 ms (n*1) 0=true from hb];rfl
   have hf:qa0 es ms (d+1) n ([],some (o,[]))=qa0 es ms d (n+1) ([],some (o,nt es n)):=by
    show qa0 es ms d (n+1) (qe0 _ (cnt ms n) _)=_
    rw [hc];rfl
   have hq:OkQ es d (n+1) ([],some (o,nt es n)):=h.next E false
   rw [hf]
   have hsz:(nt es n).length≤68719476736:=by have:=hq.sum;simp only [qG0] at this;omega
   have hgN:=E.gnt n hlt
   have hgo:=(h.g2 o [] rfl).1
   refine .need ⟨trivial,by omega⟩ ?_
   refine .cond (fun hn=>?_) (fun hn=>?_)
   ·have hn:=qI0 hn
    rw [hn] at hq ⊢
    refine .need ⟨trivial,by omega,by omega⟩ (.need rfl (.nI ⟨by omega,by omega⟩ (.need hgo (.need hgo ?_))))
    exact .bndT (IH 0 0 v2 (o.length+1) o.length 0 0 _ hq rfl rfl rfl rfl) (fun a ha=>zF0 ha (fun _ _ e hl=>by cases e;exact absurd rfl hl))
   ·obtain ⟨c,l,hcl⟩:∃ c l,nt es n=c::l:=by
     cases hx:nt es n with
     | nil=>rw [hx] at hn;cases hn
     | cons c l=>exact ⟨c,l,rfl⟩
    rw [hcl] at hq hsz hgN ⊢
    refine .need ⟨(fun e=>by cases e),by omega,by omega⟩ (.need ⟨trivial,by omega,by omega⟩ (.need rfl (.nI ⟨by omega,by omega⟩ (.need hgo (.need hgN (.need hgo (.need hgN ?_)))))))
    exact .bndT (IH 0 0 v2 (o.length+1) o.length 0 (c::l).length _ hq rfl rfl rfl rfl) (fun a ha=>zF0 ha (fun _ _ e hl=>by cases e;exact absurd rfl hl))
  ·unfold cnt;rw [show gB 1 ms (n*1) 0=false from hb];simp
theorem Out.us {es ms:List V} {q0:Sq} {d n:Nat} {ld:List V} {p:List V×List V} {a:Sp} (h:Out es ms q0 (qa0 es ms d n (ld,some p)) a):a.u=!qb0 ld∧a.s=true:=by
 obtain ⟨p',e⟩:=yg1 es ms d n ld p
 rw [e] at h
 exact ⟨h.u,h.s⟩
theorem Rn.abs {e:Nat→Option Res} {Q:Res→Prop} {b:Bool} (h1:b=true) (h2:b=false):Rn e Q:=absurd (h1.symm.trans h2) (by decide)
theorem JS0 {es ms:List V} {L:List (Nat×V)} {x:V} {y:List V} {q0 q1 q:Sq} {a:Sp} (ha:Out es ms q1 q a) (hv:∀ o l,q0.2=some (o,l)→l≠[]→a.t=true) (hu:a.u=!qb0 (x::y)) (hs:a.s=true):Rn (fun _=>fS3 none some a) (QS ((base 28 29).on L) (Out es ms q0 q)):=by
 unfold fS3
 repeat' (with_reducible first | refine Rn.need (Out.gl1 ha (by assumption)) ?_ | refine Rn.need (Out.gl2 ha (by assumption)) ?_ | refine Rn.need (Out.gl3 ha (by assumption) (by assumption)) ?_ | refine Rn.need (Out.g4 ha (by assumption) (by assumption)) ?_ | refine Rn.cond (fun _=>?_) (fun _=>?_) | refine Rn.jo ?_)
 all_goals first
 | exact Rn.abs hu (by assumption)
 | exact Rn.abs hs (by assumption)
 | (refine Rn.ret (QS.mk { a with w:=false } ?_ (Out.now ha hv));show _=rSp _ (Sp.s a) (Sp.t a) (Sp.u a) false _;(first | (rw [‹Sp.s a=true›,‹Sp.t a=true›,‹Sp.u a=true›];rfl) | (rw [‹Sp.s a=true›,‹Sp.t a=true›,‹Sp.u a=false›];rfl) | (rw [‹Sp.s a=true›,‹Sp.t a=false›,‹Sp.u a=true›];rfl) | (rw [‹Sp.s a=true›,‹Sp.t a=false›,‹Sp.u a=false›];rfl) | (rw [‹Sp.s a=false›,‹Sp.t a=true›,‹Sp.u a=true›];rfl) | (rw [‹Sp.s a=false›,‹Sp.t a=true›,‹Sp.u a=false›];rfl) | (rw [‹Sp.s a=false›,‹Sp.t a=false›,‹Sp.u a=true›];rfl) | (rw [‹Sp.s a=false›,‹Sp.t a=false›,‹Sp.u a=false›];rfl)))
theorem rE {es ms:List V} (E:En es ms) {d n v1 n1 v2 n2 k v3 n3:Nat} {x:V} {y o:List V} (h:OkQ es (d+1) n (x::y,some (o,[]))) (IH:Nx es ms d (n+1)) (h1:n1=(x::y).length) (h2:n2=o.length+1) (hk:k=o.length) :
 Rn (fun m=>evN PP EP CP (zc0 (XT m)) (rn PP EP CP m) none (lpT es n (hS es ms v1 n1 v2 n2 k v3 n3 (x::y,some (o,[])))) some) (QS ((base 28 29).on [(0,.func (.yield 6) [] []),(2,.ptr 4 0 0),(6,.osl 4 es),(7,.int .i64 es.length),(8,.int .i64 n)]) (Out es ms (x::y,some (o,[])) (qa0 es ms (d+1) n (x::y,some (o,[]))))):=by
 subst h1 h2 hk
 refine .of (fun m=>zJ1 (XT m) _ none some es ms n v1 (x::y).length (x::y) v2 (o.length+1) o.length o) ?_
 have e0:Nat.add (o.length+1) 1=o.length+1+1:=rfl
 have e1:(0+Int.toNat ((↑(o.length+1+1):Int)-1))*1=o.length+1:=by omega
 have e2:(o++[V.osl 1 []]).length=o.length+1:=by simp
 have hN:gE 4 es (Int.toNat (n:Int)*4) 3=nt es n:=rfl
 have hgl:GndR (x::y):=h.g1
 have hlt:n<es.length:=by have:=h.at';omega
 have hl:=E.len
 have ho:o.length+1≤n:=h.out
 simp only [e0,e1,e2,hN]
 refine .decT (by omega) (.nX ⟨by omega,by omega⟩ (.need (E.ldc n hlt) ?_))
 have hgo:GndR (o++[V.osl 1 []]):=(h.g2 o [] rfl).1.app (jk0 [])
 refine .joinC (c:=cnt ms n=true) (fun hc=>?_) (fun j hj=>?_)
 ·have hf:qa0 es ms (d+1) n (x::y,some (o,[]))=qa0 es ms d (n+1) (x::y,some (o++[V.osl 1 []],nt es n)):=by
   show qa0 es ms d (n+1) (qe0 _ (cnt ms n) _)=_
   rw [hc];rfl
  have hq:OkQ es d (n+1) (x::y,some (o++[V.osl 1 []],nt es n)):=h.next E true
  rw [hf]
  have hsz:(nt es n).length≤68719476736:=by have:=hq.sum;simp only [qG0] at this;omega
  have hgN:=E.gnt n hlt
  refine .need ⟨trivial,trivial,trivial,by omega,by omega,by omega⟩ (.nI ⟨by omega,by omega⟩ (.need ⟨by omega,by omega⟩ (.need ⟨trivial,by omega⟩ ?_)))
  refine .cond (fun hn=>?_) (fun hn=>?_)
  ·have hn:=qI0 hn
   rw [hn] at hq ⊢
   refine .need ⟨trivial,by omega,by omega⟩ (.need rfl (.nI ⟨by omega,by omega⟩ ?_))
   (repeat (with_reducible refine Rn.need (show GndR _ by assumption) ?_))
   exact .bndT (IH v1 (x::y).length (v2+1) (o.length+1+1) (o.length+1) 0 0 _ hq rfl (by simp [qx0]) (by simp [qx0]) rfl) (fun a ha=>JS0 ha (fun _ _ e hl=>by cases e;exact absurd rfl hl) (Out.us ha).1 (Out.us ha).2)
  ·obtain ⟨c,l,hcl⟩:∃ c l,nt es n=c::l:=by
    cases hx:nt es n with
    | nil=>rw [hx] at hn;cases hn
    | cons c l=>exact ⟨c,l,rfl⟩
   rw [hcl] at hq hsz hgN ⊢
   refine .need ⟨(fun e=>by cases e),by omega,by omega⟩ (.need ⟨trivial,by omega,by omega⟩ (.need rfl (.nI ⟨by omega,by omega⟩ ?_)))
   (repeat (with_reducible refine Rn.need (show GndR _ by assumption) ?_))
   exact .bndT (IH v1 (x::y).length (v2+1) (o.length+1+1) (o.length+1) 0 (c::l).length _ hq rfl (by simp [qx0]) (by simp [qx0]) rfl) (fun a ha=>JS0 ha (fun _ _ e hl=>by cases e;exact absurd rfl hl) (Out.us ha).1 (Out.us ha).2)
 ·refine .dec (fun hc=>hj ?_) (fun hc=>.nX ⟨by omega,by omega⟩ (.need (E.ldx n (by omega)) (.cond (fun hb=>?_) (fun hb=>hj ?_))))
  ·unfold cnt;rw [decide_eq_true (by omega)];rfl
  ·have hc:cnt ms n=false:=by
    unfold cnt
    rw [decide_eq_false (by omega),show gB 1 ms (n*1) 0=true from hb];rfl
   have hf:qa0 es ms (d+1) n (x::y,some (o,[]))=qa0 es ms d (n+1) (x::y,some (o,nt es n)):=by
    show qa0 es ms d (n+1) (qe0 _ (cnt ms n) _)=_
    rw [hc];rfl
   have hq:OkQ es d (n+1) (x::y,some (o,nt es n)):=h.next E false
   rw [hf]
   have hsz:(nt es n).length≤68719476736:=by have:=hq.sum;simp only [qG0] at this;omega
   have hgN:=E.gnt n hlt
   have hgo:=(h.g2 o [] rfl).1
   refine .need ⟨trivial,by omega⟩ ?_
   refine .cond (fun hn=>?_) (fun hn=>?_)
   ·have hn:=qI0 hn
    rw [hn] at hq ⊢
    refine .need ⟨trivial,by omega,by omega⟩ (.need rfl (.nI ⟨by omega,by omega⟩ ?_))
    (repeat (with_reducible refine Rn.need (show GndR _ by assumption) ?_))
    exact .bndT (IH v1 (x::y).length v2 (o.length+1) o.length 0 0 _ hq rfl rfl rfl rfl) (fun a ha=>JS0 ha (fun _ _ e hl=>by cases e;exact absurd rfl hl) (Out.us ha).1 (Out.us ha).2)
   ·obtain ⟨c,l,hcl⟩:∃ c l,nt es n=c::l:=by
     cases hx:nt es n with
     | nil=>rw [hx] at hn;cases hn
     | cons c l=>exact ⟨c,l,rfl⟩
    rw [hcl] at hq hsz hgN ⊢
    refine .need ⟨(fun e=>by cases e),by omega,by omega⟩ (.need ⟨trivial,by omega,by omega⟩ (.need rfl (.nI ⟨by omega,by omega⟩ ?_)))
    (repeat (with_reducible refine Rn.need (show GndR _ by assumption) ?_))
    exact .bndT (IH v1 (x::y).length v2 (o.length+1) o.length 0 (c::l).length _ hq rfl rfl rfl rfl) (fun a ha=>JS0 ha (fun _ _ e hl=>by cases e;exact absurd rfl hl) (Out.us ha).1 (Out.us ha).2)
  ·unfold cnt;rw [show gB 1 ms (n*1) 0=false from hb];simp
end Go.AM
