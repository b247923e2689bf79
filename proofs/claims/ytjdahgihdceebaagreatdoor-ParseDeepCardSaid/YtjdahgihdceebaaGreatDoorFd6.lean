/-
  WHAT FUNCTIONS OF THE PROGRAM COME TO, told by the machine, and plain laws of it. No condition but what each theorem says of its arguments.
-/
import Derived.Test.YtjdahgihdceebaaGreatDoorProg
import Derived.Test.YtjdahgihdceebaaGreatDoorFd5
namespace Go.AM
open Go.Proofs
set_option maxRecDepth 100000
set_option maxHeartbeats 4000000
def jX2:T Bool:=(.n (.n (.n (.n (.n (.n (.n .e true (.n .e true .e)) false (.n (.n .e true .e) false .e)) false (.n (.n .e true .e) true (.n .e true .e))) false (.n (.n (.n (.n .e true .e) true .e) false .e) false (.n .e true (.n (.n .e true .e) false .e)))) false (.n (.n (.n (.n .e false (.n .e true .e)) true (.n .e true .e)) false (.n (.n (.n .e true .e) true (.n .e true .e)) true (.n .e false (.n .e true .e)))) false (.n (.n (.n (.n .e true .e) true .e) true .e) false (.n (.n (.n .e true .e) false .e) false .e)))) false (.n (.n (.n (.n (.n (.n .e true .e) true .e) false (.n .e true (.n .e true .e))) false (.n (.n .e true .e) true (.n (.n .e true .e) true (.n .e true .e)))) false (.n (.n (.n .e true (.n .e true .e)) true .e) true (.n (.n (.n .e true .e) false (.n .e true .e)) false .e))) false (.n (.n (.n .e true .e) true (.n .e true (.n (.n .e true .e) false .e))) false (.n (.n (.n .e true .e) true .e) false (.n (.n .e true .e) false .e))))) false (.n (.n (.n (.n (.n (.n .e true .e) false (.n .e true .e)) false (.n (.n .e true .e) true (.n .e true (.n .e true .e)))) false (.n (.n (.n (.n .e true .e) true .e) false (.n (.n .e true .e) false .e)) true (.n .e true (.n (.n .e true .e) false .e)))) false (.n (.n (.n .e true (.n .e true .e)) true (.n .e true (.n (.n .e true .e) true (.n .e true .e)))) false (.n (.n (.n (.n .e true .e) true .e) true .e) false (.n (.n (.n .e true .e) false .e) false .e)))) false (.n (.n (.n (.n (.n (.n .e true .e) false .e) true (.n .e true .e)) false (.n (.n (.n .e true .e) true .e) true (.n .e true (.n .e true .e)))) false (.n (.n (.n .e true .e) true .e) true (.n (.n (.n .e true .e) false .e) false .e))) false (.n (.n (.n (.n (.n .e true .e) false (.n .e true .e)) true .e) false (.n .e true .e)) false (.n (.n (.n (.n .e true .e) true .e) true .e) false (.n (.n .e true .e) false .e))))))
def yn2:T Bool:=(.n (.n (.n (.n (.n .e false (.n (.n .e true .e) true (.n .e true .e))) false (.n .e false (.n .e true .e))) false (.n (.n .e false (.n (.n .e true .e) false .e)) false (.n (.n .e true .e) false (.n (.n (.n .e true .e) false .e) false .e)))) false (.n (.n (.n (.n .e false (.n .e true .e)) false (.n (.n .e true .e) true (.n .e true .e))) false (.n (.n (.n .e true .e) true .e) false (.n (.n (.n .e true .e) false .e) false .e))) false (.n (.n .e false (.n .e false (.n (.n .e true .e) false .e))) false (.n (.n (.n .e true .e) true .e) false .e)))) false (.n (.n (.n (.n (.n .e false (.n .e true .e)) false (.n .e true (.n .e true .e))) false .e) false (.n (.n .e false (.n .e true (.n .e true .e))) false (.n (.n .e true .e) false (.n (.n (.n .e true .e) false .e) false .e)))) false (.n (.n (.n (.n .e false (.n .e true .e)) false (.n (.n .e true .e) false (.n .e true .e))) false (.n (.n (.n .e true .e) true .e) true (.n (.n (.n .e true .e) false .e) false .e))) false (.n (.n .e false (.n .e true .e)) false (.n (.n .e true .e) false .e)))))
def asciiZ:List Int:=[0,0,0,0,0,0,0,0,0,1,1,1,1,1,0,0,0,0,0,0,0,0,0,0,0,0,0,0,0,0,0,0,1,0,0,0,0,0,0,0,0,0,0,0,0,0,0,0,0,0,0,0,0,0,0,0,0,0,0,0,0,0,0,0,0,0,0,0,0,0,0,0,0,0,0,0,0,0,0,0,0,0,0,0,0,0,0,0,0,0,0,0,0,0,0,0,0,0,0,0,0,0,0,0,0,0,0,0,0,0,0,0,0,0,0,0,0,0,0,0,0,0,0,0,0,0,0,0,0,0,0,0,0,0,0,0,0,0,0,0,0,0,0,0,0,0,0,0,0,0,0,0,0,0,0,0,0,0,0,0,0,0,0,0,0,0,0,0,0,0,0,0,0,0,0,0,0,0,0,0,0,0,0,0,0,0,0,0,0,0,0,0,0,0,0,0,0,0,0,0,0,0,0,0,0,0,0,0,0,0,0,0,0,0,0,0,0,0,0,0,0,0,0,0,0,0,0,0,0,0,0,0,0,0,0,0,0,0,0,0,0,0,0,0,0,0,0,0,0,0,0,0,0,0,0,0]
def yS1:List V:=[.int .u8 0,.int .u8 0,.int .u8 0,.int .u8 0,.int .u8 0,.int .u8 0,.int .u8 0,.int .u8 0,.int .u8 0,.int .u8 1,.int .u8 1,.int .u8 1,.int .u8 1,.int .u8 1,.int .u8 0,.int .u8 0,.int .u8 0,.int .u8 0,.int .u8 0,.int .u8 0,.int .u8 0,.int .u8 0,.int .u8 0,.int .u8 0,.int .u8 0,.int .u8 0,.int .u8 0,.int .u8 0,.int .u8 0,.int .u8 0,.int .u8 0,.int .u8 0,.int .u8 1,.int .u8 0,.int .u8 0,.int .u8 0,.int .u8 0,.int .u8 0,.int .u8 0,.int .u8 0,.int .u8 0,.int .u8 0,.int .u8 0,.int .u8 0,.int .u8 0,.int .u8 0,.int .u8 0,.int .u8 0,.int .u8 0,.int .u8 0,.int .u8 0,.int .u8 0,.int .u8 0,.int .u8 0,.int .u8 0,.int .u8 0,.int .u8 0,.int .u8 0,.int .u8 0,.int .u8 0,.int .u8 0,.int .u8 0,.int .u8 0,.int .u8 0,.int .u8 0,.int .u8 0,.int .u8 0,.int .u8 0,.int .u8 0,.int .u8 0,.int .u8 0,.int .u8 0,.int .u8 0,.int .u8 0,.int .u8 0,.int .u8 0,.int .u8 0,.int .u8 0,.int .u8 0,.int .u8 0,.int .u8 0,.int .u8 0,.int .u8 0,.int .u8 0,.int .u8 0,.int .u8 0,.int .u8 0,.int .u8 0,.int .u8 0,.int .u8 0,.int .u8 0,.int .u8 0,.int .u8 0,.int .u8 0,.int .u8 0,.int .u8 0,.int .u8 0,.int .u8 0,.int .u8 0,.int .u8 0,.int .u8 0,.int .u8 0,.int .u8 0,.int .u8 0,.int .u8 0,.int .u8 0,.int .u8 0,.int .u8 0,.int .u8 0,.int .u8 0,.int .u8 0,.int .u8 0,.int .u8 0,.int .u8 0,.int .u8 0,.int .u8 0,.int .u8 0,.int .u8 0,.int .u8 0,.int .u8 0,.int .u8 0,.int .u8 0,.int .u8 0,.int .u8 0,.int .u8 0,.int .u8 0,.int .u8 0,.int .u8 0,.int .u8 0,.int .u8 0,.int .u8 0,.int .u8 0,.int .u8 0,.int .u8 0,.int .u8 0,.int .u8 0,.int .u8 0,.int .u8 0,.int .u8 0,.int .u8 0,.int .u8 0,.int .u8 0,.int .u8 0,.int .u8 0,.int .u8 0,.int .u8 0,.int .u8 0,.int .u8 0,.int .u8 0,.int .u8 0,.int .u8 0,.int .u8 0,.int .u8 0,.int .u8 0,.int .u8 0,.int .u8 0,.int .u8 0,.int .u8 0,.int .u8 0,.int .u8 0,.int .u8 0,.int .u8 0,.int .u8 0,.int .u8 0,.int .u8 0,.int .u8 0,.int .u8 0,.int .u8 0,.int .u8 0,.int .u8 0,.int .u8 0,.int .u8 0,.int .u8 0,.int .u8 0,.int .u8 0,.int .u8 0,.int .u8 0,.int .u8 0,.int .u8 0,.int .u8 0,.int .u8 0,.int .u8 0,.int .u8 0,.int .u8 0,.int .u8 0,.int .u8 0,.int .u8 0,.int .u8 0,.int .u8 0,.int .u8 0,.int .u8 0,.int .u8 0,.int .u8 0,.int .u8 0,.int .u8 0,.int .u8 0,.int .u8 0,.int .u8 0,.int .u8 0,.int .u8 0,.int .u8 0,.int .u8 0,.int .u8 0,.int .u8 0,.int .u8 0,.int .u8 0,.int .u8 0,.int .u8 0,.int .u8 0,.int .u8 0,.int .u8 0,.int .u8 0,.int .u8 0,.int .u8 0,.int .u8 0,.int .u8 0,.int .u8 0,.int .u8 0,.int .u8 0,.int .u8 0,.int .u8 0,.int .u8 0,.int .u8 0,.int .u8 0,.int .u8 0,.int .u8 0,.int .u8 0,.int .u8 0,.int .u8 0,.int .u8 0,.int .u8 0,.int .u8 0,.int .u8 0,.int .u8 0,.int .u8 0,.int .u8 0,.int .u8 0,.int .u8 0,.int .u8 0,.int .u8 0,.int .u8 0,.int .u8 0,.int .u8 0,.int .u8 0,.int .u8 0,.int .u8 0,.int .u8 0,.int .u8 0,.int .u8 0,.int .u8 0,.int .u8 0,.int .u8 0,.int .u8 0,.int .u8 0,.int .u8 0,.int .u8 0]
def KJ0 (g:Nat):Option V:=bif Nat.beq g 0 then some (.gptr 256 [.agg yS1] 0) else none
noncomputable def E0:Env:={ shared:=T.get false jX2,pubRet:=T.get false yn2,prim:=fun _ _=>none,glob:=KJ0 }
def pbT:T Bool:=(.n (.n (.n (.n (.n (.n (.n (.n .e true .e) false (.n .e true .e)) true (.n (.n .e true .e) false (.n .e true .e))) true (.n (.n (.n .e true .e) true (.n .e true .e)) true (.n (.n .e true .e) true .e))) true (.n (.n (.n (.n .e true .e) true (.n .e true .e)) true (.n (.n .e true .e) true (.n .e true .e))) true (.n (.n (.n .e true .e) true (.n .e true .e)) true (.n (.n .e true .e) true (.n .e true .e))))) true (.n (.n (.n (.n (.n .e true .e) true .e) true (.n (.n .e true .e) false (.n .e true .e))) true (.n (.n .e true .e) true (.n (.n .e true .e) true .e))) true (.n (.n (.n (.n .e true .e) false (.n .e true .e)) true (.n (.n .e true .e) true .e)) true (.n (.n (.n .e true .e) true (.n .e true .e)) true (.n (.n .e true .e) true .e))))) false (.n (.n (.n (.n (.n (.n .e true .e) false (.n .e true .e)) false (.n (.n .e true .e) true (.n .e true .e))) true (.n (.n (.n .e true .e) true (.n .e true .e)) true (.n .e true .e))) true (.n (.n (.n (.n .e true .e) true .e) true (.n (.n .e true .e) true .e)) false (.n (.n (.n .e true .e) true (.n .e true .e)) true (.n (.n .e true .e) true .e)))) true (.n (.n (.n (.n (.n .e true .e) false (.n .e true .e)) true (.n (.n .e true .e) true (.n .e true .e))) true (.n (.n (.n .e true .e) true (.n .e true .e)) true (.n (.n .e true .e) true (.n .e true .e)))) true (.n (.n (.n (.n .e true .e) true (.n .e true .e)) true (.n (.n .e true .e) true .e)) true (.n (.n (.n .e true .e) false (.n .e true .e)) true (.n (.n .e true .e) true .e)))))) false (.n (.n (.n (.n (.n (.n (.n .e true .e) false (.n .e true .e)) false (.n (.n .e true .e) true (.n .e true .e))) true (.n (.n (.n .e true .e) true (.n .e true .e)) true (.n (.n .e true .e) true (.n .e true .e)))) true (.n (.n (.n (.n .e true .e) true (.n .e true .e)) true (.n (.n .e true .e) true (.n .e true .e))) false (.n (.n (.n .e true .e) true (.n .e true .e)) false (.n .e true (.n .e true .e))))) true (.n (.n (.n (.n (.n .e true .e) true (.n .e true .e)) true (.n (.n .e true .e) false (.n .e true .e))) true (.n (.n (.n .e true .e) true (.n .e true .e)) true (.n .e true (.n .e true .e)))) true (.n (.n (.n (.n .e true .e) false (.n .e true .e)) true (.n (.n .e true .e) true (.n .e true .e))) true (.n (.n (.n .e true .e) true (.n .e true .e)) true (.n (.n .e true .e) true .e))))) false (.n (.n (.n (.n (.n (.n .e true .e) true (.n .e true .e)) true (.n (.n .e true .e) true (.n .e true .e))) true (.n (.n .e true (.n .e true .e)) true (.n (.n .e true .e) true (.n .e true .e)))) true (.n (.n (.n (.n .e true .e) true .e) true (.n (.n .e true .e) true (.n .e true .e))) true (.n (.n (.n .e true .e) true (.n .e true .e)) true (.n (.n .e true .e) true .e)))) true (.n (.n (.n (.n (.n .e true .e) true (.n .e true .e)) true (.n (.n .e true .e) true (.n .e true .e))) true (.n (.n (.n .e true .e) true (.n .e true .e)) true (.n (.n .e true .e) true .e))) true (.n (.n (.n (.n .e true .e) false (.n .e true .e)) true (.n (.n .e true .e) true (.n .e true .e))) true (.n (.n (.n .e true .e) false (.n .e true .e)) true (.n .e true .e)))))))
def drowT:T Bool:=(.n (.n (.n .e true (.n (.n (.n (.n .e false (.n .e true .e)) false .e) false .e) false (.n .e false (.n .e true .e)))) false (.n (.n (.n (.n .e true .e) false (.n (.n .e true .e) true .e)) true (.n (.n (.n .e true .e) false .e) false .e)) true (.n (.n .e true .e) false (.n .e false (.n .e false (.n .e true .e)))))) false (.n (.n (.n (.n (.n .e true .e) false .e) false .e) true .e) true (.n (.n (.n (.n .e true .e) false .e) false .e) false .e)))
def liveT:List (Nat×Nat×List Nat×List Nat×List Nat):=[(6,5,[1,5,6,7,8],[0,1,5,6,7],[0,1]),(7,8,[1,5,6,9,10,11],[0,1,5,9],[0,1]),(12,4,[0,3,4,5],[0,4],[0]),(13,7,[1,9,14,15,16],[0,1,15],[0,1]),(16,4,[2,3,5],[0,1,4],[0,1]),(18,7,[0,6],[0,6],[0]),(22,5,[0,4,5,6,7],[0,4,5],[0]),(23,3,[4,7,8,9],[0,2,3],[0]),(26,2,[0,2,3],[0,2,3],[0]),(27,3,[0,3,4],[0,2],[0]),(28,2,[1,2,3,4],[0,1,2,3,4],[0]),(31,2,[0,3],[0,2],[0]),(46,3,[0,2,3,4],[0,2,3],[0]),(58,6,[2,3,4,5,6],[0,2,3,4,5],[0]),(62,2,[0,6],[0,2],[0]),(67,8,[0,3,4,5],[0,2,3,4],[0]),(68,2,[0,3],[0,2,3],[0]),(71,4,[0,1,5,6,7],[0,1,5],[0,1]),(74,5,[0,2,3],[0,2,3],[0]),(76,2,[0,1,2,3,9],[0,1,2,3,9],[0,1,2,3]),(79,3,[0,2,3],[0,2,3],[0]),(83,3,[0,1,4,5,6],[0,1,4],[0,1]),(86,6,[1,2,3,4],[0,1,2,3,4],[0]),(90,2,[1,2,4],[0,2,3],[0]),(91,3,[1,2,4,5,6,7],[0,1,2,4,5,6],[0,1]),(94,1,[0,1,3],[0,1],[0,1]),(98,3,[0,4,5,19,20,21],[0,1,4],[0,1]),(100,2,[0,3,6,7,8],[0,1],[0,1]),(102,4,[0,3],[0,2],[0]),(104,2,[0,3],[0,3],[0]),(105,3,[0,3,4],[0,2,3],[0]),(106,2,[0,3],[0,3],[0]),(108,2,[0,3],[0,3],[0]),(110,3,[0,3,4],[0,2],[0]),(113,3,[0,2,3],[0,2],[0]),(125,6,[0,3,4,5],[0,2,3,4],[0]),(125,3,[0,3,4],[0,2],[0]),(130,2,[0,1,5],[0,1,5],[0,1]),(132,4,[0,3],[0,2],[0]),(133,2,[0,3],[0,3],[0]),(145,2,[0,3],[0,2,3],[0]),(149,4,[0,3],[0,3],[0]),(151,2,[0,3],[0,3],[0]),(162,3,[0,3,4],[0,2],[0]),(163,2,[1,2,3,4],[0,1,2,3,4],[0]),(164,10,[1,2,3,4,5],[0,2,3],[0]),(174,2,[0,1,5],[0,1,5],[0,1]),(178,18,[1,45],[0,1,4],[0,1]),(178,12,[0,6,8],[0,1,4],[0,1]),(183,3,[1,5,6,7],[1],[]),(189,1,[0,1],[0,1],[0,1]),(190,2,[0,2,4],[0,2,3],[0]),(191,1,[0,1],[0,1],[0,1]),(192,1,[0,1],[0,1],[0,1]),(196,38,[175],[0,1,4],[0,1]),(196,29,[0,7,8,9,14,15,16],[0,1,7,8,9,14,15],[0,1]),(196,25,[0,7,8,9,14,15],[0,1,4],[0,1]),(196,12,[0,7,8,9,12],[0,1,8,9],[0,1]),(196,5,[0,7,8,9],[0,1,4],[0,1]),(200,27,[0,9,10,12],[0,9,10,12],[0]),(200,21,[0,9,10,11,12],[0,9,10,11],[0]),(200,18,[0,9,10,12],[0,9,10,12],[0]),(200,5,[0,3,4,5,6],[0,3,5],[0]),(201,4,[0,2,3,6,7,8,15,16,17],[0,6,7,8],[0]),(201,1,[0,6,7,8],[0],[0]),(204,16,[1,2,3,9],[0,2,3],[0]),(205,20,[1,2,3,12],[0,2,3],[0]),(208,10,[0,4,5,6],[0,4,5],[0]),(211,5,[0,1,2,3],[0,1,2,3],[0,1,2,3]),(211,1,[0,2],[0,1,2,3],[0,1,2,3]),(217,16,[0,9,47,48,49],[0,1,9],[0,1]),(217,4,[0,1,5,6,14],[0,1,5,6],[0,1]),(220,2,[1,2,3,4],[0,1,2,3,4],[0]),(224,15,[0,1,5,6,7,8,9,10],[0,1,4],[0,1]),(227,11,[0,1,5,6,7,8,10],[0,1,4],[0,1]),(227,5,[0,1,5,6,7,8,9],[0,1,5,6,7,8],[0,1]),(228,14,[0,1,7,8],[0,1,4],[0,1]),(228,3,[0,1,19,20],[0,1,4],[0,1]),(229,14,[0,1,7,8],[0,1,4],[0,1]),(229,3,[0,1,15,16],[0,1,4],[0,1]),(231,8,[4,6,7,8],[0,4,6],[0]),(231,3,[0,4,5],[0,4],[0])]
noncomputable def liveO (f:FuncId) (c:Code):Option (List Nat×List Nat×List Nat) :=
 match c with
 | .loop _=>none
 | c=>(match QQ0 c with
  | some i=>List.rec none (fun p _ ih=>bif Nat.beq p.1 f&&Nat.beq p.2.1 i then some p.2.2 else ih) liveT
  | none=>none)
noncomputable def PP:Program:=Tryz.prog
def precV:V:=.gmap [.str [124],.str [44],.str [47,47],.str [61],.str [124,61],.str [43,61],.str [45,61],.str [42,61],.str [47,61],.str [37,61],.str [47,47,61],.str [111,114],.str [97,110,100],.str [61,61],.str [33,61],.str [60],.str [60,61],.str [62],.str [62,61],.str [43],.str [45],.str [42],.str [47],.str [37]] [.agg [.int .i64 1,.int .i64 2],.agg [.int .i64 2,.int .i64 1],.agg [.int .i64 3,.int .i64 2],.agg [.int .i64 4,.int .i64 0],.agg [.int .i64 4,.int .i64 0],.agg [.int .i64 4,.int .i64 0],.agg [.int .i64 4,.int .i64 0],.agg [.int .i64 4,.int .i64 0],.agg [.int .i64 4,.int .i64 0],.agg [.int .i64 4,.int .i64 0],.agg [.int .i64 4,.int .i64 0],.agg [.int .i64 5,.int .i64 1],.agg [.int .i64 6,.int .i64 1],.agg [.int .i64 7,.int .i64 0],.agg [.int .i64 7,.int .i64 0],.agg [.int .i64 7,.int .i64 0],.agg [.int .i64 7,.int .i64 0],.agg [.int .i64 7,.int .i64 0],.agg [.int .i64 7,.int .i64 0],.agg [.int .i64 8,.int .i64 1],.agg [.int .i64 8,.int .i64 1],.agg [.int .i64 9,.int .i64 1],.agg [.int .i64 9,.int .i64 1],.agg [.int .i64 9,.int .i64 1]]
def keysV:V:=.gmap [.str [97,110,100],.str [97,115],.str [98,114,101,97,107],.str [99,97,116,99,104],.str [100,101,102],.str [101,108,105,102],.str [101,108,115,101],.str [101,110,100],.str [102,111,114,101,97,99,104],.str [105,102],.str [105,109,112,111,114,116],.str [105,110,99,108,117,100,101],.str [108,97,98,101,108],.str [109,111,100,117,108,101],.str [111,114],.str [114,101,100,117,99,101],.str [116,104,101,110],.str [116,114,121]] [.bool true,.bool true,.bool true,.bool true,.bool true,.bool true,.bool true,.bool true,.bool true,.bool true,.bool true,.bool true,.bool true,.bool true,.bool true,.bool true,.bool true,.bool true]
def Gv0:List (FuncId×V):=[(159,precV),(183,keysV),(8,.bool true)]
noncomputable def EP:Env:={ E0 with prim:=XD0 [] Gv0,shared:=fun f=>bif Nat.beq f 159||Nat.beq f 183 then false else E0.shared f||Nat.beq f 32||Nat.beq f 33||Nat.beq f 69,lit:=fun f=>!(Nat.beq f 155),pubRet:=fun _=>false }
noncomputable def unrO (f:FuncId) (_:Code) (n:Nat):Bool:=(Nat.beq f 74&&Nat.blt n 6)||(Nat.beq f 18&&Nat.blt n 2)||(Nat.beq f 46&&Nat.blt n 6)||(Nat.beq f 76&&Nat.blt n 4)||(Nat.beq f 79&&Nat.blt n 6)||(Nat.beq f 26&&Nat.blt n 5)||(Nat.beq f 125&&Nat.blt n 30)||(Nat.beq f 162&&Nat.blt n 20)||(Nat.beq f 178&&Nat.blt n 40)||(Nat.beq f 190&&Nat.blt n 40)||(Nat.beq f 144&&Nat.blt n 60)||(Nat.beq f 211&&Nat.blt n 60)||(Nat.beq f 98&&Nat.blt n 40)||(Nat.beq f 94&&Nat.blt n 7)
def psF (f:FuncId) (t:TypeId):Option Bool :=
 bif Nat.beq t 79&&(Nat.beq f 32||Nat.beq f 33) then some true
 else bif Nat.beq t 42&&Nat.beq f 22 then some true
 else bif Nat.beq t 32&&(Nat.beq f 91||Nat.beq f 163||Nat.beq f 186||Nat.beq f 59) then some false
 else bif Nat.beq t 81&&Nat.beq f 18 then some false else none
noncomputable def nzF (_:FuncId) (t:TypeId) (v:V):V :=
 bif Nat.beq t 81 then (match v with
  | .agg cs=>(match cs with
   | [a,b,c,d,e,f]=>.agg [a,b,c,GZ0 1 d,e,f]
   | cs=>.agg cs)
  | v=>v) else yi0 PP t v
theorem nzF_ok (f:FuncId) (t:TypeId) (v:V):Wk v (nzF f t v):=by
 unfold nzF
 cases Nat.beq t 81 with
 | false=>exact Xe0 PP t v
 | true =>
  simp only [cond_true]
  split
  ·split
   ·exact .aggs (.cons (.refl _) (.cons (.refl _) (.cons (.refl _) (.cons (Yz1 _ _) (.cons (.refl _) (.cons (.refl _) .nil))))))
   ·exact .refl _
  ·exact .refl _
noncomputable def naF (f:FuncId) (a:List V):List V:=bif Nat.beq f 14 then Kv0 PP [28] a else bif Nat.beq f 13 then Kv0 PP [22,22] a else bif Nat.beq f 98 then (match a with
 | [x,y]=>[x,gslO y]
 | a=>a) else a
theorem naF_ok (f:FuncId) (a:List V):Wks a (naF f a):=by
 unfold naF
 cases Nat.beq f 14 with
 | true=>simp only [cond_true];exact qw1 PP _ a
 | false =>
  simp only [cond_false]
  cases Nat.beq f 13 with
  | true=>simp only [cond_true];exact qw1 PP _ a
  | false =>
   simp only [cond_false]
   cases Nat.beq f 98 with
   | false=>simp only [cond_false];exact ⟨rfl,fun i x y p q=>by rw [p] at q;cases q;exact .refl _⟩
   | true =>
    simp only [cond_true]
    split
    ·refine ⟨rfl,fun i x y p q=>?_⟩
     match i,p,q with
     | 0,p,q=>cases p;cases q;exact .refl _
     | 1,p,q=>cases p;cases q;exact Qo1 _
     | i+2,p,q=>cases p
    ·exact ⟨rfl,fun i x y p q=>by rw [p] at q;cases q;exact .refl _⟩
noncomputable def CP:Cf:={ unr:=unrO,inl:=T.get false ((.n (.n (.n (.n (.n (.n (.n .e true .e) false (.n .e true .e)) false (.n (.n (.n .e true .e) false (.n .e true .e)) false .e)) false (.n (.n .e false (.n (.n .e true .e) false .e)) false .e)) false (.n (.n (.n (.n .e false (.n .e true .e)) false (.n .e true .e)) false (.n (.n (.n .e true .e) false (.n .e true .e)) false .e)) false (.n (.n .e false (.n (.n .e true .e) false .e)) false .e))) false (.n (.n (.n (.n (.n .e true (.n .e true .e)) false (.n .e true .e)) false (.n (.n .e false (.n .e true .e)) true (.n (.n .e true .e) false .e))) false (.n (.n .e true .e) true .e)) false (.n (.n (.n (.n .e false (.n .e true .e)) false .e) false (.n (.n .e false (.n .e true .e)) false .e)) false (.n .e false (.n (.n .e true .e) false (.n (.n .e true .e) false .e)))))) false (.n (.n (.n (.n (.n (.n (.n .e true .e) true .e) false (.n (.n .e true .e) false (.n .e true .e))) false (.n .e false (.n (.n .e true .e) false .e))) false (.n .e false (.n (.n .e false (.n .e true .e)) true .e))) false (.n (.n (.n (.n .e false (.n .e true .e)) false .e) false (.n .e false (.n (.n .e true .e) false .e))) false (.n .e false (.n .e false (.n (.n .e true .e) false .e))))) false (.n (.n (.n (.n (.n .e false (.n .e true .e)) false .e) false (.n (.n (.n .e true .e) false (.n .e true .e)) false .e)) false (.n (.n .e false (.n (.n .e true .e) false .e)) false .e)) false (.n (.n (.n (.n .e false (.n .e true .e)) false (.n (.n .e true .e) false .e)) false .e) false (.n (.n (.n .e true .e) false .e) false (.n .e false (.n (.n .e true .e) false .e)))))))),drow:=T.get false drowT,live:=liveO,pb:=T.get false pbT,na:=naF,naok:=naF_ok,ps:=psF,nz:=nzF,nzok:=nzF_ok,cb:=fun t=>Nat.beq t 59,apf:=fun f=>Nat.beq f 32||Nat.beq f 22||Nat.beq f 5,shf:=fun f=>Nat.beq f 67,nxt:=T.get false ((.n (.n (.n (.n (.n .e false (.n .e false (.n (.n .e true .e) false .e))) false (.n (.n (.n .e false (.n .e true .e)) false .e) false .e)) false .e) false .e) false (.n .e false (.n (.n (.n .e false (.n .e false (.n (.n .e true .e) false .e))) false .e) false (.n .e false (.n .e false (.n .e true .e))))))),srow:=fun t=>Nat.beq t 3||Nat.beq t 59,norm:=fun f v=>Bool.rec v (qx1 PP f v) (T.get false pbT f),ok:=fun f x=>by cases T.get false pbT f <;> first | exact Wk.refl x | exact JY1 PP f x }
def kindT:T Nat:=(.n (.n (.n (.n (.n .e 0 (.n (.n .e 1 .e) 1 (.n .e 6 .e))) 0 (.n .e 11 (.n .e 1 (.n .e 8 .e)))) 0 (.n (.n .e 0 (.n (.n .e 1 .e) 2 (.n .e 9 .e))) 0 (.n (.n (.n .e 3 .e) 1 .e) 0 (.n (.n (.n .e 1 .e) 0 .e) 0 .e)))) 0 (.n (.n (.n .e 0 (.n (.n .e 1 .e) 1 (.n .e 1 .e))) 0 (.n (.n (.n (.n .e 9 .e) 5 .e) 0 .e) 0 (.n (.n (.n .e 1 .e) 0 .e) 0 .e))) 0 (.n (.n .e 0 (.n .e 2 (.n (.n .e 1 .e) 10 .e))) 0 (.n (.n (.n .e 1 .e) 1 (.n (.n .e 9 .e) 0 .e)) 0 (.n (.n (.n .e 8 .e) 0 .e) 0 .e))))) 0 (.n (.n (.n (.n .e 0 (.n (.n .e 4 .e) 1 (.n .e 1 .e))) 0 (.n (.n .e 8 .e) 0 (.n .e 0 (.n .e 8 .e)))) 0 (.n (.n .e 0 (.n .e 1 (.n .e 1 .e))) 0 (.n (.n (.n .e 7 .e) 1 .e) 0 (.n (.n (.n .e 1 .e) 0 .e) 0 .e)))) 0 (.n (.n (.n .e 0 (.n (.n .e 1 .e) 4 (.n .e 1 .e))) 0 (.n (.n (.n .e 1 .e) 1 .e) 1 (.n (.n (.n .e 1 .e) 0 .e) 0 .e))) 0 (.n (.n .e 0 (.n .e 1 (.n (.n .e 9 .e) 8 .e))) 0 (.n (.n .e 1 (.n (.n .e 8 .e) 0 .e)) 0 (.n (.n (.n .e 9 .e) 0 .e) 0 .e))))))
structure Nd where
 k:Int
 t:List UInt8
 ks:List V
def qa0 (n:Nd):V:=.agg [.int .i64 n.k,.str n.t,.osl 3 n.ks]
def pmV (f:Nat):V:=.func (.func f) [.ptr 0 0 0] []
def pfV (f:Nat):V:=.func (.func f) [] [.ptr 2 0 0]
def Yw1:List (V×V):=[(.str [46,46],.func (.func 41) [] []),(.str [46],pmV 42),(.str [91],pmV 43),(.str [40],pmV 44),(.str [123],pmV 45),(.str [105,102],pmV 46),(.str [114,101,100,117,99,101],pmV 47),(.str [102,111,114,101,97,99,104],pmV 48),(.str [98,114,101,97,107],pfV 49)]
def pRow (es:List V) (a:Int):Obj:=.row 0 68 3 0 (some 1) [.agg [.osl 4 es,.int .i64 a,.map 1]]
def bRow:Obj:=.row 0 65 1 0 (some 1) [.ptr 0 0 0]
noncomputable def hpP (es:List V) (a:Int):Heap:=hp [pRow es a,.map Yw1,bRow]
noncomputable def hpR (es:List V) (a:Int) (os:List Obj):Heap:=hp (pRow es a::.map Yw1::bRow::os)
def vN (k:Int) (t:List UInt8) (ks:V):Obj:=.row 0 32 3 0 (some 1) [.agg [.int .i64 k,.str t,ks]]
def vNo:Obj:=.row 0 32 3 0 (some 1) []
def lN (ver:Nat) (acc:List V):Obj:=.row ver 32 3 0 none acc
def sN (r ver n:Nat):V:=.sl r ver 0 n none
def jp0:Code→List Code
 | .seq a b=>jp0 a++jp0 b
 | .cond _ a b=>jp0 a++jp0 b
 | .block _ b=>jp0 b
 | .loop b=>b::jp0 b
 | .rangeFunc _ _ a b=>jp0 a++jp0 b
 | .scope b=>jp0 b
 | _=>[]
def lpB (P:Program) (f i:Nat):Code :=
 match P.funcs[f]? with
 | some fn=>(match fn.body with
  | some b=>((jp0 b)[i]?).getD .skip
  | none=>.skip)
 | none=>.skip
noncomputable def zY0 (h:Heap) (a:Int):Heap :=
 match h.get 0 with
 | .row v ty sz pb c es=>(match es with
  | e::_=>(match e with
   | .agg cs=>(match cs with
    | l::_::m=>h.set 0 (.row v ty sz pb c [.agg (l::.int .i64 a::m)])
    | _=>h)
   | _=>h)
  | _=>h)
 | _=>h
noncomputable def dP (h:Heap):Option (List V×Int) :=
 match h.get 0 with
 | .row _ _ _ _ _ es=>(match es with
  | e::_=>(match e with
   | .agg cs=>(match cs with
    | l::p::_=>(match l with
     | .osl _ es=>(match p with
      | .int _ a=>some (es,a)
      | _=>none)
     | _=>none)
    | _=>none)
   | _=>none)
  | _=>none)
 | _=>none
noncomputable def rN (h:Heap) (a:Nd×Int):Res:=.ret (qa0 a.1) (zY0 h a.2)
noncomputable def rB (h:Heap) (a:Bool×Int):Res:=.ret (.bool a.1) (zY0 h a.2)
noncomputable def rU (h:Heap) (a:Int):Res:=.ret (.tup []) (zY0 h a)
noncomputable def rS (h:Heap) (a:List UInt8×Int):Res:=.ret (.str a.1) (zY0 h a.2)
noncomputable def rT (h:Heap) (a:Int×List UInt8):Res:=.ret (.agg [.int .i64 a.1,.str a.2]) h
noncomputable def rK (h:Heap) (a:(Nd×Bool)×Int):Res:=.ret (.tup [qa0 a.1.1,.bool a.1.2]) (zY0 h a.2)
abbrev Rw:=List V×Nat×Nat×Int
abbrev Rx:=Bool×Rw
noncomputable def rR (h:Heap) (b:Bool) (x:Rx):Res:=Bool.rec (.ret (.sl h.n x.2.2.2.1 0 x.2.2.1 none) ((zY0 h x.2.2.2.2).new (.row x.2.2.2.1 32 3 0 none x.2.1))) (.ret (.gsl 3 x.2.1 (some 1)) (zY0 h x.2.2.2.2)) b
noncomputable def rRx (h:Heap) (x:Rx):Res:=rR h x.1 x
noncomputable def rI (a:Int):Res:=.ret (.int .i64 a) Heap.empty
noncomputable def rO (a:Bool):Res:=.ret (.bool a) Heap.empty
noncomputable def rW (a:List UInt8):Res:=.ret (.str a) Heap.empty
noncomputable def rD (a:Int×Bool):Res:=.ret (.tup [.int .i64 a.1,.bool a.2]) Heap.empty
noncomputable def qP (h:Heap) (e:Int):Res:=.panic (.iface 63 (.agg [.int .i64 e])) (zY0 h e)
noncomputable def qN (e:Int):Res:=.dret true (hp [.row 0 0 0 0 none [.int .i64 e]])
def tHp:Task→Heap
 | .call _ _ h=>h
 | _=>Heap.empty
structure PsX where
 N:Task→PR (Nd×Int) Int
 B:Task→PR (Bool×Int) Int
 U:Task→PR Int Int
 S:Task→PR (List UInt8×Int) Int
 T:Task→PR (Int×List UInt8) Int
 K:Task→PR ((Nd×Bool)×Int) Int
 R:Task→PR Rx Int
 I:Task→PR Int Int
 O:Task→PR Bool Int
 W:Task→PR (List UInt8) Int
 D:Task→PR (Int×Bool) Int
 G:Task→PR Unit Int
 V:Task→PR Rw (Int×Nat)
 J:Task→PR Int Int
noncomputable def tbK (X:PsX) (t:Task) (h:Heap) (k:Nat):Option Ent :=
 match k with
 | 0=>none
 | 1=>some (ent (X.N t) (rN h) (qP h))
 | 2=>some (ent (X.B t) (rB h) (qP h))
 | 3=>some (ent (X.U t) (rU h) (qP h))
 | 4=>some (ent (X.S t) (rS h) (qP h))
 | 5=>some (ent (X.T t) (rT h) (qP h))
 | 6=>some (ent (X.K t) (rK h) (qP h))
 | 7=>some ⟨_,_,X.R t,fun a=>a.1,fun _=>true,fun b _=>rR h b,qP h⟩
 | 8=>some (ent (X.I t) (rI) (qN))
 | 9=>some (ent (X.O t) (rO) (qN))
 | 10=>some (ent (X.W t) (rW) (qN))
 | 11=>some (ent (X.D t) (rD) (qN))
 | _=>none
noncomputable def setKs (h:Heap) (r:Nat) (v:V):Heap :=
 match h.get r with
 | .row ver ty sz pb c es=>(match es with
  | e::_=>(match e with
   | .agg cs=>(match cs with
    | k::t::_=>h.set r (.row ver ty sz pb c [.agg [k,t,v]])
    | _=>h)
   | _=>h)
  | _=>h)
 | _=>h
noncomputable def yF0 (ks:List Nat) (fr:Fr) (h:Heap) (a:Nd×Int):Res:=.code .ret (fr.on (KX0 fr ks)) (((zY0 h a.2).set 3 (vN a.1.k a.1.t (.osl 3 a.1.ks))).set 4 vNo)
noncomputable def yE0 (fr:Fr) (h:Heap) (e:Int):Res:=.code (.panic (.iface 63 (.agg [.int .i64 e]))) (fr.on []) (((zY0 h e).set 3 vNo).set 4 vNo)
noncomputable def zX0 (ks:List Nat) (fr:Fr) (h:Heap) (a:Rw):Res:=.code (.exit 0) (fr.on (KX0 fr ks)) ((setKs (zY0 h a.2.2.2) 4 (sN 5 a.2.2.1 a.2.1)).set 5 (lN a.2.2.1 a.1))
noncomputable def zW0 (fr:Fr) (h:Heap) (e:Int×Nat):Res:=.code (.panic (.iface 63 (.agg [.int .i64 e.1]))) (fr.on []) ((((zY0 h e.1).set 3 vNo).set 4 vNo).set 5 (lN e.2 []))
noncomputable def qY0 (ks:List Nat) (s r:Nat) (fr:Fr) (h:Heap) (a:Rw):Res:=.code (.exit 0) (fr.on (List.app (KX0 fr ks) [(s,sN r a.2.2.1 a.2.1)])) ((zY0 h a.2.2.2).set r (lN a.2.2.1 a.1))
noncomputable def qX0 (r:Nat) (fr:Fr) (h:Heap) (e:Int×Nat):Res:=.code (.panic (.iface 63 (.agg [.int .i64 e.1]))) (fr.on []) (bif Nat.beq r 4 then ((zY0 h e.1).set 3 vNo).set r (lN e.2 []) else (zY0 h e.1).set r (lN e.2 []))
noncomputable def rDL (fr:Fr) (h:Heap) (_:Unit):Res:=.code (.exit 0) (fr.on []) h
noncomputable def qDL (fr:Fr) (h:Heap) (i:Int):Res:=.code .ret (fr.on [(2,.int .i64 i),(3,.bool true)]) h
noncomputable def rRun (fr:Fr) (h:Heap) (a:Int):Res:=.code (.exit 0) (fr.on (List.app (KX0 fr [0,1]) [(5,.int .i64 a)])) h
noncomputable def tbL (X:PsX) (t:Task) (fr:Fr) (h:Heap):Option Ent :=
 bif Nat.beq fr.fn 83 then some (ent (X.N t) (yF0 [0,1,4] fr h) (yE0 fr h))
 else bif Nat.beq fr.fn 113 then some (ent (X.N t) (yF0 [0,2] fr h) (yE0 fr h))
 else bif Nat.beq fr.fn 74||Nat.beq fr.fn 79||Nat.beq fr.fn 46 then some (ent (X.V t) (zX0 [0,2,3] fr h) (zW0 fr h))
 else bif Nat.beq fr.fn 76 then some (ent (X.V t) (qY0 [0,1,2,3] 9 3 fr h) (qX0 3 fr h))
 else bif Nat.beq fr.fn 26 then some (ent (X.V t) (qY0 [0,2] 3 4 fr h) (qX0 4 fr h))
 else bif Nat.beq fr.fn 23 then some (ent (X.G t) (rDL fr h) (qDL fr h))
 else bif Nat.beq fr.fn 174 then some (ent (X.J t) (rRun fr h) qN)
 else none
noncomputable def tbP (X:PsX) (t:Task):Option Ent :=
 match t with
 | .call f _ h=>tbK X t h (T.get 0 kindT f)
 | .code c fr h=>(match c with
  | .loop _=>tbL X t fr h
  | _=>none)
 | _=>none
structure PsF where
 tok:List V→Int→PR (Int×List UInt8) Int
 is:List V→List UInt8→Int→PR (Bool×Int) Int
 has:List V→List UInt8→Int→PR (Bool×Int) Int
 need:List V→List UInt8→Int→PR Int Int
 take:List V→Int→Int→PR (List UInt8×Int) Int
 name:List V→Int→PR (List UInt8×Int) Int
 key:List V→Int→PR ((Nd×Bool)×Int) Int
 exp:List V→Int→Int→PR (Nd×Int) Int
 within:List V→Nd→List UInt8→Int→PR (Nd×Int) Int
 N:Nat→List V→Int→PR (Nd×Int) Int
 dfn:List V→Bool→Int→PR (Nd×Int) Int
 rest:List V→Bool→Int→PR (Nd×Int) Int
 rows:Nat→List V→List UInt8→List UInt8→Int→PR Rx Int
 rowsL:Nat→List V→List UInt8→List UInt8→Nat→Nat→List V→Int→PR Rw (Int×Nat)
 expL:List V→Int→Int→Nd→Int→PR (Nd×Int) Int
 postL:List V→Nd→Int→PR (Nd×Int) Int
 textL:List V→List UInt8→Nat→Nat→List V→Int→PR Rw (Int×Nat)
 plainL:List V→Nat→Nat→List V→Int→PR Rw (Int×Nat)
 ifsL:List V→Bool→Nat→Nat→List V→Int→PR Rw (Int×Nat)
 progL:List V→Nat→Nat→List V→Int→PR Rw (Int×Nat)
 level:List UInt8→PR Int Int
 right:List UInt8→PR Int Int
 side:List UInt8→PR Int Int
 of:Int→List UInt8→PR (List UInt8) Int
 change:Int→List UInt8→PR Int Int
 word:List UInt8→PR Bool Int
 plain:List UInt8→PR Bool Int
 simple:List UInt8→PR Int Int
 runW:List UInt8→PR Int Int
 runL:List UInt8→Int→PR Int Int
 part:Int→PR Bool Int
 letter:Int→PR Bool Int
 digit:Int→PR Bool Int
 deep:List V→PR (Int×Bool) Int
 deepL:List V→Int→Int→PR Unit Int
noncomputable def FX (X:PsX):PsF where
 tok:=fun es p=>X.T (.call 73 [.ptr 0 0 0] (hpP es p))
 is:=fun es s p=>X.B (.call 51 [.ptr 0 0 0,.str s] (hpP es p))
 has:=fun es s p=>X.B (.call 53 [.ptr 0 0 0,.str s] (hpP es p))
 need:=fun es s p=>X.U (.call 75 [.ptr 0 0 0,.str s] (hpP es p))
 take:=fun es c p=>X.S (.call 50 [.ptr 0 0 0,.int .i64 c] (hpP es p))
 name:=fun es p=>X.S (.call 80 [.ptr 0 0 0] (hpP es p))
 key:=fun es p=>X.K (.call 111 [.ptr 0 0 0] (hpP es p))
 exp:=fun es l p=>X.N (.call 83 [.ptr 0 0 0,.int .i64 l] (hpP es p))
 within:=fun es n d p=>X.N (.call 155 [.ptr 0 0 0,qa0 n,.str d] (hpP es p))
 N:=fun j es p=>X.N (.call j [.ptr 0 0 0] (hpP es p))
 dfn:=fun es q p=>X.N (.call 54 [.ptr 0 0 0,.bool q] (hpP es p))
 rest:=fun es q p=>X.N (.call 82 [.ptr 0 0 0,.bool q] (hpP es p))
 rows:=fun j es a b p=>X.R (.call 76 [.ptr 0 0 0,.str a,.str b,.func (.func j) [.ptr 0 0 0] []] (hpP es p))
 rowsL:=fun j es a b ver len acc p=>X.V (.code (.loop (lpB PP 76 0)) ((base 76 25).on [(0,.ptr 0 0 0),(1,.str a),(2,.str b),(3,.func (.func j) [.ptr 0 0 0] []),(9,sN 3 ver len)]) (hpR es p [lN ver acc]))
 expL:=fun es l c n p=>X.N (.code (.loop (lpB PP 83 0)) ((base 83 50).on [(0,.ptr 0 0 0),(1,.int .i64 l),(4,.ptr 3 0 0),(5,.ptr 4 0 0),(6,.int .i64 c)]) (hpR es p [vN 0 [] .nils,vN n.k n.t (.osl 3 n.ks)]))
 postL:=fun es n p=>X.N (.code (.loop (lpB PP 113 0)) ((base 113 45).on [(0,.ptr 0 0 0),(2,.ptr 3 0 0),(3,.ptr 4 0 0)]) (hpR es p [vN 0 [] .nils,vN n.k n.t (.osl 3 n.ks)]))
 textL:=fun es t ver len acc p=>X.V (.code (.loop (lpB PP 74 0)) ((base 74 44).on [(0,.ptr 0 0 0),(2,.ptr 3 0 0),(3,.ptr 4 0 0)]) (hpR es p [vN 0 [] .nils,vN 6 t (sN 5 ver len),lN ver acc]))
 plainL:=fun es ver len acc p=>X.V (.code (.loop (lpB PP 79 0)) ((base 79 22).on [(0,.ptr 0 0 0),(2,.ptr 3 0 0),(3,.ptr 4 0 0)]) (hpR es p [vN 0 [] .nils,vN 6 [] (sN 5 ver len),lN ver acc]))
 ifsL:=fun es q ver len acc p=>X.V (.code (.loop (lpB PP 46 0)) ((base 46 38).on [(0,.ptr 0 0 0),(2,.ptr 3 0 0),(3,.ptr 4 0 0),(4,.bool q)]) (hpR es p [vN 0 [] .nils,vN 14 [] (sN 5 ver len),lN ver acc]))
 progL:=fun es ver len acc p=>X.V (.code (.loop (lpB PP 26 0)) ((base 26 60).on [(0,.ptr 0 0 0),(2,.ptr 3 0 0),(3,sN 4 ver len)]) (hpR es p [vN 0 [] .nils,lN ver acc]))
 level:=fun w=>X.I (.call 118 [.str w] Heap.empty)
 right:=fun w=>X.I (.call 119 [.str w] Heap.empty)
 side:=fun w=>X.I (.call 120 [.str w] Heap.empty)
 of:=fun kk w=>X.W (.call 117 [.agg [.int .i64 kk,.str w]] Heap.empty)
 change:=fun kk w=>X.I (.call 40 [.agg [.int .i64 kk,.str w]] Heap.empty)
 word:=fun w=>X.O (.call 158 [.str w] Heap.empty)
 plain:=fun w=>X.O (.call 115 [.str w] Heap.empty)
 simple:=fun w=>X.I (.call 157 [.str w] Heap.empty)
 runW:=fun w=>X.I (.call 174 [.func (.func 182) [] [],.str w] Heap.empty)
 runL:=fun w i=>X.J (.code (.loop (lpB PP 174 0)) ((base 174 20).on [(0,.func (.func 182) [] []),(1,.str w),(5,.int .i64 i)]) (Heap.empty))
 part:=fun c=>X.O (.call 182 [.int .u8 c] Heap.empty)
 letter:=fun c=>X.O (.call 137 [.int .u8 c] Heap.empty)
 digit:=fun c=>X.O (.call 173 [.int .u8 c] Heap.empty)
 deep:=fun es=>X.D (.call 23 [.osl 4 es] Heap.empty)
 deepL:=fun es m i=>X.G (.code (.loop (lpB PP 23 0)) ((base 23 24).on [(4,.int .i64 m),(7,.osl 4 es),(8,.int .i64 es.length),(9,.int .i64 i)]) (Heap.empty))
abbrev nV0 (k:Int) (t:List UInt8):V:=.agg [.int .i64 k,.str t,.nils]
def vEq (a b:V):Prop:=a=b
abbrev inI (a:Int):Prop:=((-9223372036854775808):Int)≤a∧a≤9223372036854775807
noncomputable def QH0 {β:Type} (bot:β) (ok:Int×List UInt8→β) (er:Int→β) (F:PsF) (es:List V)  (p:Int):β :=
 bif decide ((↑(List.length es):Int)≤p) then
  (ok (0,[]))
 else
  (need bot (((0:Int)≤p)∧(p<((↑(List.length es):Int)))) (need bot (ldX PP 49 4 (es) (Int.toNat p*4)) (ok ((gI 4 es (Nat.add (Int.toNat p*4) 0) 0),(gS 4 es (Nat.add (Int.toNat p*4) 0) 1)))))
noncomputable def Qb0 {β:Type} (bot:β) (ok:Bool×Int→β) (er:Int→β) (F:PsF) (es:List V) (s:List UInt8) (p:Int):β :=
 PR.bnd bot (F.tok es p) (fun a0 =>
  bif decide (a0.1=13) then
   (bif decide (a0.2=s) then
    (ok (true,p))
   else
    (ok (false,p)))
  else
   (bif decide (a0.1=3) then
    (bif decide (a0.2=s) then
     (ok (true,p))
    else
     (ok (false,p)))
   else
    (ok (false,p))))
  (fun e0=>er e0)
noncomputable def jX0 {β:Type} (bot:β) (ok:Bool×Int→β) (er:Int→β) (F:PsF) (es:List V) (s:List UInt8) (p:Int):β :=
 PR.bnd bot (F.is es s p) (fun a0 =>
  bif a0.1 then
   (need bot (inI (a0.2+1)) (ok (true,(a0.2+1))))
  else
   (ok (false,a0.2)))
  (fun e0=>er e0)
noncomputable def Qg0 {β:Type} (bot:β) (ok:Int→β) (er:Int→β) (F:PsF) (es:List V) (s:List UInt8) (p:Int):β :=
 PR.bnd bot (F.has es s p) (fun a0 =>
  bif a0.1 then
   (ok a0.2)
  else
   (er a0.2))
  (fun e0=>er e0)
noncomputable def QE0 {β:Type} (bot:β) (ok:List UInt8×Int→β) (er:Int→β) (F:PsF) (es:List V) (c:Int) (p:Int):β :=
 PR.bnd bot (F.tok es p) (fun a0 =>
  bif !decide (a0.1=c) then
   (er p)
  else
   (need bot (inI (p+1)) (ok (a0.2,(p+1)))))
  (fun e0=>er e0)
noncomputable def Qf0 {β:Type} (bot:β) (ok:List UInt8×Int→β) (er:Int→β) (F:PsF) (es:List V)  (p:Int):β :=
 PR.bnd bot (F.tok es p) (fun a0 =>
  bif !decide (a0.1=3) then
   (er p)
  else
   (PR.bnd bot (F.plain a0.2) (fun a2 =>
    bif a2 then
     (PR.bnd bot (F.take es 3 p) (fun a4 =>
      ok (a4.1,a4.2))
      (fun e4=>er e4))
    else
     (er p))
    (fun _=>bot)))
  (fun e0=>er e0)
noncomputable def Qc0 {β:Type} (bot:β) (ok:(Nd×Bool)×Int→β) (er:Int→β) (F:PsF) (es:List V)  (p:Int):β :=
 (PR.bnd bot (F.tok es p) (fun a0=>bif decide (a0.1=5) then (PR.bnd bot (F.take es a0.1 p) (fun a2=>need bot (((0:Int)≤1)∧((1:Int)≤((↑(List.length a2.1):Int)))) (ok ((⟨4,List.drop 1 a2.1,[]⟩,true),a2.2))) (fun e2=>er e2)) else (bif decide (a0.1=3) then (PR.bnd bot (F.take es a0.1 p) (fun a3=>ok ((⟨31,a3.1,[]⟩,false),a3.2)) (fun e3=>er e3)) else (bif decide (a0.1=7) then (PR.bnd bot (F.N 74 es p)
 (fun a4=>ok ((a4.1,false),a4.2)) (fun e4=>er e4)) else (bif decide (a0.1=12) then (PR.bnd bot (F.N 74 es p) (fun a5=>ok ((a5.1,false),a5.2)) (fun e5=>er e5)) else (PR.bnd bot (F.need es [40] p) (fun a5=>PR.bnd bot (F.N 55 es a5) (fun a6=>PR.bnd bot (F.need es [41] a6.2) (fun a7=>ok ((⟨32,[],[(qa0 a6.1)]⟩,false),a7)) (fun e7=>er e7)) (fun e6=>er e6)) (fun e5=>er e5)))))) (fun e0=>er e0))
noncomputable def Qj0 {β:Type} (bot:β) (ok:Nd×Int→β) (er:Int→β) (F:PsF) (es:List V)  (p:Int):β :=
 (PR.bnd bot (F.has es [45] p) (fun a0=>bif a0.1 then (PR.bnd bot (F.level [42]) (fun a2=>PR.bnd bot (F.exp es a2 a0.2) (fun a3=>ok (⟨25,[],[(qa0 a3.1)]⟩,a3.2)) (fun e3=>er e3)) (fun _=>bot)) else (PR.bnd bot (F.has es [100,101,102] a0.2) (fun a2=>bif a2.1 then (PR.bnd bot (F.dfn es false a2.2) (fun a4=>ok (a4.1,a4.2)) (fun e4=>er e4)) else (PR.bnd bot (F.has es [108,97,98,101,108] a2.2) (fun
 a4=>bif a4.1 then (PR.bnd bot (F.take es 5 a4.2) (fun a6=>need bot (((0:Int)≤1)∧((1:Int)≤((↑(List.length a6.1):Int)))) (PR.bnd bot (F.need es [124] a6.2) (fun a8=>PR.bnd bot (F.N 55 es a8) (fun a9=>ok (⟨27,List.drop 1 a6.1,[(qa0 a9.1)]⟩,a9.2)) (fun e9=>er e9)) (fun e8=>er e8))) (fun e6=>er e6)) else (PR.bnd bot (F.has es [116,114,121] a4.2) (fun a6=>bif a6.1 then (PR.bnd bot (F.N 113 es a6.2)
 (fun a8=>PR.bnd bot (F.has es [99,97,116,99,104] a8.2) (fun a9=>bif a9.1 then (PR.bnd bot (F.N 113 es a9.2) (fun a11=>letI z1:=[(qa0 a8.1),(qa0 a11.1)];need bot (([qa0 a11.1]≠[])∧((1<2)∧((2≤1099511627776)∧(96≤1099511627776)))) (need bot ((0=0)∧((0=0)∧((2=2)∧(GndR z1)))) (ok (⟨15,[],z1⟩,a11.2)))) (fun e11=>er e11)) else (ok (⟨15,[],[(qa0 a8.1)]⟩,a9.2))) (fun e9=>er e9)) (fun e8=>er e8))
 else (PR.bnd bot (F.N 113 es a6.2) (fun a8=>PR.bnd bot (F.has es [97,115] a8.2) (fun a9=>bif a9.1 then (PR.bnd bot (F.N 114 es a9.2) (fun a11=>need bot (vEq (qa0 a8.1) (qa0 a8.1)) (PR.bnd bot (F.need es [124] a11.2) (fun a13=>PR.bnd bot (F.N 55 es a13) (fun a14=>letI z2:=[(qa0 a8.1),(qa0 a11.1),(qa0 a14.1)];need bot (([qa0 a14.1]≠[])∧((2<3)∧((3≤1099511627776)∧(144≤1099511627776))))
 (need bot ((0=0)∧((0=0)∧((3=3)∧(GndR z2)))) (ok (⟨26,[],z2⟩,a14.2)))) (fun e14=>er e14)) (fun e13=>er e13))) (fun e11=>er e11)) else (ok (a8.1,a9.2))) (fun e9=>er e9)) (fun e8=>er e8))) (fun e6=>er e6))) (fun e4=>er e4))) (fun e2=>er e2))) (fun e0=>er e0))
noncomputable def Qs0 {β:Type} (bot:β) (ok:Nd×Int→β) (er:Int→β) (F:PsF) (es:List V)  (p:Int):β :=
 PR.bnd bot (F.N 154 es p) (fun a0 =>
  PR.bnd bot (F.postL es a0.1 a0.2) (fun a1 =>
   ok (a1.1,a1.2))
   (fun e1=>er e1))
  (fun e0=>er e0)
noncomputable def QF0 {β:Type} (bot:β) (ok:Nd×Int→β) (er:Int→β) (F:PsF) (es:List V)  (p:Int):β :=
 (letI z1:=(need bot (inI (p+1)) (ok (⟨2,[],[]⟩,(p+1))));letI z2:=[102,111,114,101,97,99,104];letI z3:=(F.N 181 es p);letI z4:=(↑(List.length es):Int);letI z5:=[114,101,100,117,99,101];PR.bnd bot (F.tok es p) (fun a0=>letI z6:=(F.take es a0.1 p);letI z7:=(a0.2=[98,114,101,97,107]);bif decide (a0.1=4) then (PR.bnd bot z6 (fun a2=>need bot (((0:Int)≤1)∧((1:Int)≤((↑(List.length a2.1):Int)))) (ok
 (⟨3,List.drop 1 a2.1,[]⟩,a2.2))) (fun e2=>er e2)) else (bif decide (a0.1=5) then (PR.bnd bot z6 (fun a3=>need bot (((0:Int)≤1)∧((1:Int)≤((↑(List.length a3.1):Int)))) (ok (⟨4,List.drop 1 a3.1,[]⟩,a3.2))) (fun e3=>er e3)) else (bif decide (a0.1=6) then (PR.bnd bot z6 (fun a4=>ok (⟨5,a4.1,[]⟩,a4.2)) (fun e4=>er e4)) else (bif decide (a0.1=7) then (PR.bnd bot (F.N 74 es p) (fun a5=>ok (a5.1,a5.2))
 (fun e5=>er e5)) else (bif decide (a0.1=12) then (need bot (inI (p+1)) (bif decide (p+1<z4) then (need bot (inI (p+1)) (need bot (((0:Int)≤(p+1))∧((p+1)<(z4))) (need bot (ldX PP 3 4 (es) (Int.toNat (p+1)*4)) (bif decide (gI 4 es (Nat.add (Nat.add (Int.toNat (p+1)*4) 0) 0) 0=7) then (PR.bnd bot (F.N 74 es p) (fun a12=>ok (a12.1,a12.2)) (fun e12=>er e12)) else (PR.bnd bot z6 (fun a12=>ok
 (⟨8,a12.1,[]⟩,a12.2)) (fun e12=>er e12)))))) else (PR.bnd bot z6 (fun a8=>ok (⟨8,a8.1,[]⟩,a8.2)) (fun e8=>er e8)))) else (bif decide (a0.1=3) then (bif decide (a0.2=[46,46]) then z1 else (bif decide (a0.2=[46]) then (need bot (inI (p+1)) (PR.bnd bot (F.N 42 es (p+1)) (fun a10=>ok (a10.1,a10.2)) (fun e10=>er e10))) else (bif decide (a0.2=[91]) then (need bot (inI (p+1)) (PR.bnd bot (F.N 43 es
 (p+1)) (fun a11=>ok (a11.1,a11.2)) (fun e11=>er e11))) else (bif decide (a0.2=[40]) then (need bot (inI (p+1)) (PR.bnd bot (F.N 44 es (p+1)) (fun a12=>ok (a12.1,a12.2)) (fun e12=>er e12))) else (bif decide (a0.2=[123]) then (need bot (inI (p+1)) (PR.bnd bot (F.N 45 es (p+1)) (fun a13=>ok (a13.1,a13.2)) (fun e13=>er e13))) else (bif decide (a0.2=[105,102]) then (need bot (inI (p+1)) (PR.bnd bot
 (F.N 46 es (p+1)) (fun a14=>ok (a14.1,a14.2)) (fun e14=>er e14))) else (bif decide (a0.2=z5) then (need bot (inI (p+1)) (PR.bnd bot (F.N 47 es (p+1)) (fun a15=>ok (a15.1,a15.2)) (fun e15=>er e15))) else (bif decide (a0.2=z2) then (need bot (inI (p+1)) (PR.bnd bot (F.N 48 es (p+1)) (fun a16=>ok (a16.1,a16.2)) (fun e16=>er e16))) else (bif decide z7 then (need bot (inI (p+1)) (PR.bnd bot (F.take es
 5 (p+1)) (fun a17=>need bot (((0:Int)≤1)∧((1:Int)≤((↑(List.length a17.1):Int)))) (ok (⟨28,List.drop 1 a17.1,[]⟩,a17.2))) (fun e17=>er e17))) else (bif !decide (a0.1=3) then (er p) else (PR.bnd bot (F.word a0.2) (fun a17=>bif a17 then (er p) else (PR.bnd bot z3 (fun a19=>ok (a19.1,a19.2)) (fun e19=>er e19))) (fun _=>bot)))))))))))) else (bif decide (a0.1=13) then (bif decide (a0.2=[46,46]) then z1
 else (bif decide (a0.2=[46]) then (need bot (inI (p+1)) (PR.bnd bot (F.N 42 es (p+1)) (fun a11=>ok (a11.1,a11.2)) (fun e11=>er e11))) else (bif decide (a0.2=[91]) then (need bot (inI (p+1)) (PR.bnd bot (F.N 43 es (p+1)) (fun a12=>ok (a12.1,a12.2)) (fun e12=>er e12))) else (bif decide (a0.2=[40]) then (need bot (inI (p+1)) (PR.bnd bot (F.N 44 es (p+1)) (fun a13=>ok (a13.1,a13.2)) (fun e13=>er
 e13))) else (bif decide (a0.2=[123]) then (need bot (inI (p+1)) (PR.bnd bot (F.N 45 es (p+1)) (fun a14=>ok (a14.1,a14.2)) (fun e14=>er e14))) else (bif decide (a0.2=[105,102]) then (need bot (inI (p+1)) (PR.bnd bot (F.N 46 es (p+1)) (fun a15=>ok (a15.1,a15.2)) (fun e15=>er e15))) else (bif decide (a0.2=z5) then (need bot (inI (p+1)) (PR.bnd bot (F.N 47 es (p+1)) (fun a16=>ok (a16.1,a16.2)) (fun
 e16=>er e16))) else (bif decide (a0.2=z2) then (need bot (inI (p+1)) (PR.bnd bot (F.N 48 es (p+1)) (fun a17=>ok (a17.1,a17.2)) (fun e17=>er e17))) else (bif decide z7 then (need bot (inI (p+1)) (PR.bnd bot (F.take es 5 (p+1)) (fun a18=>need bot (((0:Int)≤1)∧((1:Int)≤((↑(List.length a18.1):Int)))) (ok (⟨28,List.drop 1 a18.1,[]⟩,a18.2))) (fun e18=>er e18))) else (bif !decide (a0.1=3) then (er p)
 else (PR.bnd bot (F.word a0.2) (fun a18=>bif a18 then (er p) else (PR.bnd bot z3 (fun a20=>ok (a20.1,a20.2)) (fun e20=>er e20))) (fun _=>bot)))))))))))) else (bif !decide (a0.1=3) then (er p) else (PR.bnd bot (F.word a0.2) (fun a9=>bif a9 then (er p) else (PR.bnd bot z3 (fun a11=>ok (a11.1,a11.2)) (fun e11=>er e11))) (fun _=>bot)))))))))) (fun e0=>er e0))
noncomputable def yO0 {β:Type} (bot:β) (ok:Nd×Int→β) (er:Int→β) (F:PsF) (es:List V)  (p:Int):β :=
 (letI z1:=((1≤1099511627776)∧(48≤1099511627776));letI z2:=(vEq (.ptr 4 0 2) (.ptr 4 0 2));letI z3:=(vEq .nils .nils);PR.bnd bot (F.tok es p) (fun a0=>bif decide (a0.1=12) then (PR.bnd bot (F.take es 12 p) (fun a2=>PR.bnd bot (F.take es 7 a2.2) (fun a3=>PR.bnd bot (F.tok es a3.2) (fun a4=>bif !decide (a4.1=11) then (PR.bnd bot (F.tok es a3.2) (fun a6=>bif decide (a6.1=8) then (PR.bnd bot (F.take es
 8 a3.2) (fun a8=>need bot (([nV0 7 a8.1]≠[])∧z1) (need bot z3 (need bot z2 (need bot (GndR [(nV0 7 a8.1)]) (PR.bnd bot (F.textL es a2.1 0 1 [(nV0 7 a8.1)] a8.2) (fun a13=>PR.bnd bot (F.take es 11 a13.2.2.2) (fun a14=>need bot ((a13.2.2.1=a13.2.2.1)∧((0=0)∧((a13.2.1=(List.length a13.1))∧(GndR a13.1)))) (ok (⟨6,a2.1,a13.1⟩,a14.2))) (fun e14=>er e14)) (fun e13=>er e13.1)))))) (fun e8=>er e8)) else
 (PR.bnd bot (F.take es 9 a3.2) (fun a8=>PR.bnd bot (F.N 55 es a8.2) (fun a9=>letI z4:=[(qa0 a9.1)];need bot (([qa0 a9.1]≠[])∧z1) (need bot z3 (need bot z2 (PR.bnd bot (F.take es 10 a9.2) (fun a13=>need bot (GndR z4) (PR.bnd bot (F.textL es a2.1 0 1 z4 a13.2) (fun a15=>PR.bnd bot (F.take es 11 a15.2.2.2) (fun a16=>need bot ((a15.2.2.1=a15.2.2.1)∧((0=0)∧((a15.2.1=(List.length a15.1))∧(GndR
 a15.1)))) (ok (⟨6,a2.1,a15.1⟩,a16.2))) (fun e16=>er e16)) (fun e15=>er e15.1))) (fun e13=>need bot (GndR z4) (er e13)))))) (fun e9=>er e9)) (fun e8=>er e8))) (fun e6=>er e6)) else (PR.bnd bot (F.take es 11 a3.2) (fun a6=>ok (⟨6,a2.1,[]⟩,a6.2)) (fun e6=>er e6))) (fun e4=>er e4)) (fun e3=>er e3)) (fun e2=>er e2)) else (PR.bnd bot (F.take es 7 p) (fun a2=>PR.bnd bot (F.tok es a2.2) (fun a3=>bif
 !decide (a3.1=11) then (PR.bnd bot (F.tok es a2.2) (fun a5=>bif decide (a5.1=8) then (PR.bnd bot (F.take es 8 a2.2) (fun a7=>need bot (([nV0 7 a7.1]≠[])∧z1) (need bot z3 (need bot z2 (need bot (GndR [(nV0 7 a7.1)]) (PR.bnd bot (F.textL es [] 0 1 [(nV0 7 a7.1)] a7.2) (fun a12=>PR.bnd bot (F.take es 11 a12.2.2.2) (fun a13=>need bot ((a12.2.2.1=a12.2.2.1)∧((0=0)∧((a12.2.1=(List.length a12.1))∧(GndR
 a12.1)))) (ok (⟨6,[],a12.1⟩,a13.2))) (fun e13=>er e13)) (fun e12=>er e12.1)))))) (fun e7=>er e7)) else (PR.bnd bot (F.take es 9 a2.2) (fun a7=>PR.bnd bot (F.N 55 es a7.2) (fun a8=>letI z5:=[(qa0 a8.1)];need bot (([qa0 a8.1]≠[])∧z1) (need bot z3 (need bot z2 (PR.bnd bot (F.take es 10 a8.2) (fun a12=>need bot (GndR z5) (PR.bnd bot (F.textL es [] 0 1 z5 a12.2) (fun a14=>PR.bnd bot (F.take es 11
 a14.2.2.2) (fun a15=>need bot ((a14.2.2.1=a14.2.2.1)∧((0=0)∧((a14.2.1=(List.length a14.1))∧(GndR a14.1)))) (ok (⟨6,[],a14.1⟩,a15.2))) (fun e15=>er e15)) (fun e14=>er e14.1))) (fun e12=>need bot (GndR z5) (er e12)))))) (fun e8=>er e8)) (fun e7=>er e7))) (fun e5=>er e5)) else (PR.bnd bot (F.take es 11 a2.2) (fun a5=>ok (⟨6,[],[]⟩,a5.2)) (fun e5=>er e5))) (fun e3=>er e3)) (fun e2=>er e2))) (fun
 e0=>er e0))
noncomputable def Qv0 {β:Type} (bot:β) (ok:Nd×Int→β) (er:Int→β) (F:PsF) (es:List V)  (p:Int):β :=
 (letI z1:=(↑(List.length es):Int);letI z2:=((1≤1099511627776)∧(48≤1099511627776));PR.bnd bot (F.is es [105,109,112,111,114,116] p) (fun a0=>bif a0.1 then (PR.bnd bot (F.N 52 es a0.2) (fun a2=>need bot (([qa0 a2.1]≠[])∧z2) (need bot (GndR [(qa0 a2.1)]) (PR.bnd bot (F.progL es 0 1 [(qa0 a2.1)] a2.2) (fun a5=>letI z3:=((Nat.succ a5.2.2.1)=(Nat.succ a5.2.2.1));letI z4:=(a5.2.1=(List.length
 a5.1));letI z5:=((↑a5.2.1:Int)=0);letI z6:=(a5.2.2.1=a5.2.2.1);letI z7:=(a5.2.1+List.length [nV0 0 []]);letI z8:=(F.has es [100,101,102] a5.2.2.2);bif decide (0<(↑a5.2.1:Int)) then (bif decide (a5.2.2.2=z1) then (bif decide (a5.2.2.2<z1) then (er a5.2.2.2) else (bif decide z5 then (ok (⟨0,[],[]⟩,a5.2.2.2)) else (need bot (z6∧(([nV0 0
 []]≠[])∧(z4∧((0≤a5.2.1)∧((z7≤1099511627776)∧((z7*48)≤1099511627776)))))) (need bot (z3∧((0=0)∧((z7=(List.length (a5.1++[nV0 0 []])))∧(GndR (a5.1++[nV0 0 []]))))) (ok (⟨34,[],a5.1++[nV0 0 []]⟩,a5.2.2.2)))))) else (PR.bnd bot z8 (fun a8=>bif a8.1 then (PR.bnd bot (F.dfn es true a8.2) (fun a10=>letI z9:=(a5.2.1+List.length [qa0 a10.1]);letI z10:=(a5.1++[qa0 a10.1]);bif decide (a10.2<z1) then (er
 a10.2) else (bif decide z5 then (ok (a10.1,a10.2)) else (need bot (z6∧(([qa0 a10.1]≠[])∧(z4∧((0≤a5.2.1)∧((z9≤1099511627776)∧((z9*48)≤1099511627776)))))) (need bot (z3∧((0=0)∧((z9=(List.length z10))∧(GndR z10)))) (ok (⟨34,[],a5.1++[qa0 a10.1]⟩,a10.2)))))) (fun e10=>er e10)) else (PR.bnd bot (F.N 55 es a8.2) (fun a10=>letI z11:=(a5.2.1+List.length [qa0 a10.1]);letI z12:=(a5.1++[qa0
 a10.1]);bif decide (a10.2<z1) then (er a10.2) else (bif decide z5 then (ok (a10.1,a10.2)) else (need bot (z6∧(([qa0 a10.1]≠[])∧(z4∧((0≤a5.2.1)∧((z11≤1099511627776)∧((z11*48)≤1099511627776)))))) (need bot (z3∧((0=0)∧((z11=(List.length z12))∧(GndR z12)))) (ok (⟨34,[],a5.1++[qa0 a10.1]⟩,a10.2)))))) (fun e10=>er e10))) (fun e8=>er e8))) else (PR.bnd bot z8 (fun a7=>bif a7.1 then (PR.bnd bot (F.dfn
 es true a7.2) (fun a9=>letI z13:=(a5.2.1+List.length [qa0 a9.1]);letI z14:=(a5.1++[qa0 a9.1]);bif decide (a9.2<z1) then (er a9.2) else (bif decide z5 then (ok (a9.1,a9.2)) else (need bot (z6∧(([qa0 a9.1]≠[])∧(z4∧((0≤a5.2.1)∧((z13≤1099511627776)∧((z13*48)≤1099511627776)))))) (need bot (z3∧((0=0)∧((z13=(List.length z14))∧(GndR z14)))) (ok (⟨34,[],a5.1++[qa0 a9.1]⟩,a9.2)))))) (fun e9=>er e9))
 else (PR.bnd bot (F.N 55 es a7.2) (fun a9=>letI z15:=(a5.2.1+List.length [qa0 a9.1]);letI z16:=(a5.1++[qa0 a9.1]);bif decide (a9.2<z1) then (er a9.2) else (bif decide z5 then (ok (a9.1,a9.2)) else (need bot (z6∧(([qa0 a9.1]≠[])∧(z4∧((0≤a5.2.1)∧((z15≤1099511627776)∧((z15*48)≤1099511627776)))))) (need bot (z3∧((0=0)∧((z15=(List.length z16))∧(GndR z16)))) (ok (⟨34,[],a5.1++[qa0
 a9.1]⟩,a9.2)))))) (fun e9=>er e9))) (fun e7=>er e7))) (fun e5=>er e5.1)))) (fun e2=>er e2)) else (PR.bnd bot (F.is es [105,110,99,108,117,100,101] a0.2) (fun a2=>bif a2.1 then (PR.bnd bot (F.N 52 es a2.2) (fun a4=>need bot (([qa0 a4.1]≠[])∧z2) (need bot (GndR [(qa0 a4.1)]) (PR.bnd bot (F.progL es 0 1 [(qa0 a4.1)] a4.2) (fun a7=>letI z17:=((Nat.succ a7.2.2.1)=(Nat.succ a7.2.2.1));letI
 z18:=(a7.2.1=(List.length a7.1));letI z19:=((↑a7.2.1:Int)=0);letI z20:=(a7.2.2.1=a7.2.2.1);letI z21:=(a7.2.1+List.length [nV0 0 []]);letI z22:=(F.has es [100,101,102] a7.2.2.2);bif decide (0<(↑a7.2.1:Int)) then (bif decide (a7.2.2.2=z1) then (bif decide (a7.2.2.2<z1) then (er a7.2.2.2) else (bif decide z19 then (ok (⟨0,[],[]⟩,a7.2.2.2)) else (need bot (z20∧(([nV0 0
 []]≠[])∧(z18∧((0≤a7.2.1)∧((z21≤1099511627776)∧((z21*48)≤1099511627776)))))) (need bot (z17∧((0=0)∧((z21=(List.length (a7.1++[nV0 0 []])))∧(GndR (a7.1++[nV0 0 []]))))) (ok (⟨34,[],a7.1++[nV0 0 []]⟩,a7.2.2.2)))))) else (PR.bnd bot z22 (fun a10=>bif a10.1 then (PR.bnd bot (F.dfn es true a10.2) (fun a12=>letI z23:=(a7.2.1+List.length [qa0 a12.1]);letI z24:=(a7.1++[qa0 a12.1]);bif decide (a12.2<z1)
 then (er a12.2) else (bif decide z19 then (ok (a12.1,a12.2)) else (need bot (z20∧(([qa0 a12.1]≠[])∧(z18∧((0≤a7.2.1)∧((z23≤1099511627776)∧((z23*48)≤1099511627776)))))) (need bot (z17∧((0=0)∧((z23=(List.length z24))∧(GndR z24)))) (ok (⟨34,[],a7.1++[qa0 a12.1]⟩,a12.2)))))) (fun e12=>er e12)) else (PR.bnd bot (F.N 55 es a10.2) (fun a12=>letI z25:=(a7.2.1+List.length [qa0 a12.1]);letI
 z26:=(a7.1++[qa0 a12.1]);bif decide (a12.2<z1) then (er a12.2) else (bif decide z19 then (ok (a12.1,a12.2)) else (need bot (z20∧(([qa0 a12.1]≠[])∧(z18∧((0≤a7.2.1)∧((z25≤1099511627776)∧((z25*48)≤1099511627776)))))) (need bot (z17∧((0=0)∧((z25=(List.length z26))∧(GndR z26)))) (ok (⟨34,[],a7.1++[qa0 a12.1]⟩,a12.2)))))) (fun e12=>er e12))) (fun e10=>er e10))) else (PR.bnd bot z22 (fun a9=>bif
 a9.1 then (PR.bnd bot (F.dfn es true a9.2) (fun a11=>letI z27:=(a7.2.1+List.length [qa0 a11.1]);letI z28:=(a7.1++[qa0 a11.1]);bif decide (a11.2<z1) then (er a11.2) else (bif decide z19 then (ok (a11.1,a11.2)) else (need bot (z20∧(([qa0 a11.1]≠[])∧(z18∧((0≤a7.2.1)∧((z27≤1099511627776)∧((z27*48)≤1099511627776)))))) (need bot (z17∧((0=0)∧((z27=(List.length z28))∧(GndR z28)))) (ok
 (⟨34,[],a7.1++[qa0 a11.1]⟩,a11.2)))))) (fun e11=>er e11)) else (PR.bnd bot (F.N 55 es a9.2) (fun a11=>letI z29:=(a7.2.1+List.length [qa0 a11.1]);letI z30:=(a7.1++[qa0 a11.1]);bif decide (a11.2<z1) then (er a11.2) else (bif decide z19 then (ok (a11.1,a11.2)) else (need bot (z20∧(([qa0 a11.1]≠[])∧(z18∧((0≤a7.2.1)∧((z29≤1099511627776)∧((z29*48)≤1099511627776)))))) (need bot
 (z17∧((0=0)∧((z29=(List.length z30))∧(GndR z30)))) (ok (⟨34,[],a7.1++[qa0 a11.1]⟩,a11.2)))))) (fun e11=>er e11))) (fun e9=>er e9))) (fun e7=>er e7.1)))) (fun e4=>er e4)) else (PR.bnd bot (F.has es [100,101,102] a2.2) (fun a4=>bif a4.1 then (PR.bnd bot (F.dfn es true a4.2) (fun a6=>bif decide (a6.2<z1) then (er a6.2) else (ok (a6.1,a6.2))) (fun e6=>er e6)) else (PR.bnd bot (F.N 55 es a4.2) (fun
 a6=>bif decide (a6.2<z1) then (er a6.2) else (ok (a6.1,a6.2))) (fun e6=>er e6))) (fun e4=>er e4))) (fun e2=>er e2))) (fun e0=>er e0))
noncomputable def Qp0 {β:Type} (bot:β) (ok:Nd×Int→β) (er:Int→β) (F:PsF) (es:List V)  (p:Int):β :=
 (PR.bnd bot (F.take es 7 p) (fun a0=>PR.bnd bot (F.tok es a0.2) (fun a1=>bif decide (a1.1=8) then (PR.bnd bot (F.take es 8 a0.2) (fun a3=>need bot (([nV0 7 a3.1]≠[])∧((1≤1099511627776)∧(48≤1099511627776))) (need bot (vEq .nils .nils) (need bot (vEq (.ptr 4 0 2) (.ptr 4 0 2)) (need bot (GndR [(nV0 7 a3.1)]) (PR.bnd bot (F.plainL es 0 1 [(nV0 7 a3.1)] a3.2) (fun a8=>PR.bnd bot (F.take es 11
 a8.2.2.2) (fun a9=>need bot ((a8.2.2.1=a8.2.2.1)∧((0=0)∧((a8.2.1=(List.length a8.1))∧(GndR a8.1)))) (ok (⟨6,[],a8.1⟩,a9.2))) (fun e9=>er e9)) (fun e8=>er e8.1)))))) (fun e3=>er e3)) else (PR.bnd bot (F.take es 11 a0.2) (fun a3=>ok (⟨6,[],[]⟩,a3.2)) (fun e3=>er e3))) (fun e1=>er e1)) (fun e0=>er e0))
noncomputable def jO0 {β:Type} (bot:β) (ok:Nd×Int→β) (er:Int→β) (F:PsF) (es:List V)  (p:Int):β :=
 (letI z1:=((1=1)∧((0≤1)∧((2≤1099511627776)∧(96≤1099511627776))));letI z2:=(vEq (.ptr 4 0 2) (.ptr 4 0 2));letI z3:=(vEq (.sl 5 0 0 1 none) (.sl 5 0 0 1 none));PR.bnd bot (F.take es 3 p) (fun a0=>PR.bnd bot (F.N 79 es a0.2) (fun a1=>need bot (([qa0 a1.1]≠[])∧((1≤1099511627776)∧(48≤1099511627776))) (need bot (vEq .nils .nils) (need bot z2 (bif decide (a0.1=[105,109,112,111,114,116]) then (PR.bnd
 bot (F.need es [97,115] a1.2) (fun a6=>PR.bnd bot (F.tok es a6) (fun a7=>bif decide (a7.1=5) then (PR.bnd bot (F.take es 5 a6) (fun a9=>letI z4:=[(qa0 a1.1),(nV0 4 (List.drop 1 a9.1))];need bot (((0:Int)≤1)∧((1:Int)≤((↑(List.length a9.1):Int)))) (need bot ((0=0)∧(([V.agg [V.int IntKind.i64 (4:Int),V.str (List.drop (1:Nat) a9.1),V.nils]]≠[])∧z1)) (need bot z3 (need bot z2 (PR.bnd bot (F.need es
 [59] a9.2) (fun a14=>need bot ((1=1)∧((0=0)∧((2=2)∧(GndR z4)))) (ok (⟨33,a0.1,z4⟩,a14))) (fun e14=>er e14)))))) (fun e9=>er e9)) else (PR.bnd bot (F.name es a6) (fun a9=>letI z5:=[(qa0 a1.1),(nV0 31 a9.1)];need bot ((0=0)∧(([nV0 31 a9.1]≠[])∧z1)) (need bot z3 (need bot z2 (PR.bnd bot (F.need es [59] a9.2) (fun a13=>need bot ((1=1)∧((0=0)∧((2=2)∧(GndR z5)))) (ok (⟨33,a0.1,z5⟩,a13))) (fun e13=>er
 e13))))) (fun e9=>er e9))) (fun e7=>er e7)) (fun e6=>er e6)) else (PR.bnd bot (F.need es [59] a1.2) (fun a6=>need bot ((0=0)∧((0=0)∧((1=1)∧(GndR [(qa0 a1.1)])))) (ok (⟨33,a0.1,[(qa0 a1.1)]⟩,a6))) (fun e6=>er e6)))))) (fun e1=>er e1)) (fun e0=>er e0))
noncomputable def QA0 {β:Type} (bot:β) (ok:Nd×Int→β) (er:Int→β) (F:PsF) (es:List V)  (p:Int):β :=
 PR.bnd bot (F.tok es p) (fun a0 =>
  bif !decide (a0.1=7) then
   (bif !decide (a0.1=12) then
    (ok (⟨1,[],[]⟩,p))
   else
    (PR.bnd bot (F.N 74 es p) (fun a3 =>
     ok (⟨22,[],[(nV0 0 []),(qa0 a3.1)]⟩,a3.2))
     (fun e3=>er e3)))
  else
   (PR.bnd bot (F.N 74 es p) (fun a2 =>
    ok (⟨22,[],[(nV0 0 []),(qa0 a2.1)]⟩,a2.2))
    (fun e2=>er e2)))
  (fun e0=>er e0)
noncomputable def jN0 {β:Type} (bot:β) (ok:Nd×Int→β) (er:Int→β) (F:PsF) (es:List V)  (p:Int):β :=
 PR.bnd bot (F.has es [93] p) (fun a0 =>
  bif a0.1 then
   (ok (⟨9,[],[]⟩,a0.2))
  else
   (PR.bnd bot (F.N 55 es a0.2) (fun a2 =>
    PR.bnd bot (F.need es [93] a2.2) (fun a3 =>
     ok (⟨9,[],[(qa0 a2.1)]⟩,a3))
     (fun e3=>er e3))
    (fun e2=>er e2)))
  (fun e0=>er e0)
noncomputable def Qm0 {β:Type} (bot:β) (ok:Nd×Int→β) (er:Int→β) (F:PsF) (es:List V)  (p:Int):β :=
 PR.bnd bot (F.N 55 es p) (fun a0 =>
  PR.bnd bot (F.need es [41] a0.2) (fun a1 =>
   ok (⟨12,[],[(qa0 a0.1)]⟩,a1))
   (fun e1=>er e1))
  (fun e0=>er e0)
noncomputable def Qh0 {β:Type} (bot:β) (ok:Nd×Int→β) (er:Int→β) (F:PsF) (es:List V)  (p:Int):β :=
 (PR.bnd bot (F.has es [125] p) (fun a0=>bif a0.1 then (ok (⟨10,[],[]⟩,a0.2)) else (PR.bnd bot (F.rows 77 es [44] [125] a0.2) (fun a2=>letI z1:=(ok (⟨10,[],a2.2.1⟩,a2.2.2.2.2));bif a2.1 then z1 else (need bot (GndR a2.2.1) (need bot ((a2.2.2.2.1=a2.2.2.2.1)∧((0=0)∧((a2.2.2.1=(List.length a2.2.1))∧(GndR a2.2.1)))) z1))) (fun e2=>er e2))) (fun e0=>er e0))
noncomputable def jY0 {β:Type} (bot:β) (ok:Nd×Int→β) (er:Int→β) (F:PsF) (es:List V)  (p:Int):β :=
 (letI z1:=(vEq (.ptr 4 0 2) (.ptr 4 0 2));letI z2:=[101,108,115,101];PR.bnd bot (F.N 55 es p) (fun a0=>letI z3:=(GndR [(qa0 a0.1)]);need bot (([qa0 a0.1]≠[])∧((1≤1099511627776)∧(48≤1099511627776))) (need bot (vEq .nils .nils) (need bot z1 (PR.bnd bot (F.need es [116,104,101,110] a0.2) (fun a4=>PR.bnd bot (F.N 55 es a4) (fun a5=>letI z4:=[(qa0 a0.1),(qa0 a5.1)];need bot ((0=0)∧(([qa0
 a5.1]≠[])∧((1=1)∧((0≤1)∧((2≤1099511627776)∧(96≤1099511627776)))))) (need bot (vEq (.sl 5 0 0 1 none) (.sl 5 0 0 1 none)) (need bot z1 (PR.bnd bot (F.has es [101,108,105,102] a5.2) (fun a9=>bif a9.1 then (need bot (GndR z4) (PR.bnd bot (F.ifsL es true 1 2 z4 a9.2) (fun a12=>letI z5:=(a12.2.1=(List.length a12.1));letI z6:=(a12.2.2.1=a12.2.2.1);letI z7:=(Nat.succ a12.2.2.1);PR.bnd bot (F.has es z2
 a12.2.2.2) (fun a13=>bif a13.1 then (PR.bnd bot (F.N 55 es a13.2) (fun a15=>letI z8:=(a12.2.1+List.length [qa0 a15.1]);letI z9:=(a12.1++[qa0 a15.1]);need bot (z6∧(([qa0 a15.1]≠[])∧(z5∧((0≤a12.2.1)∧((z8≤1099511627776)∧((z8*48)≤1099511627776)))))) (need bot (vEq (.sl 5 a12.2.2.1 0 a12.2.1 none) (.sl 5 a12.2.2.1 0 a12.2.1 none)) (need bot z1 (PR.bnd bot (F.need es [101,110,100] a15.2) (fun
 a19=>need bot ((z7=z7)∧((0=0)∧((z8=(List.length z9))∧(GndR z9)))) (ok (⟨14,z2,a12.1++[qa0 a15.1]⟩,a19))) (fun e19=>er e19))))) (fun e15=>er e15)) else (PR.bnd bot (F.need es [101,110,100] a13.2) (fun a15=>need bot (z6∧((0=0)∧(z5∧(GndR a12.1)))) (ok (⟨14,[],a12.1⟩,a15))) (fun e15=>er e15))) (fun e13=>er e13)) (fun e12=>er e12.1))) else (need bot (GndR z4) (PR.bnd bot (F.ifsL es false 1 2 z4 a9.2)
 (fun a12=>letI z10:=(a12.2.1=(List.length a12.1));letI z11:=(a12.2.2.1=a12.2.2.1);letI z12:=(Nat.succ a12.2.2.1);PR.bnd bot (F.has es z2 a12.2.2.2) (fun a13=>bif a13.1 then (PR.bnd bot (F.N 55 es a13.2) (fun a15=>letI z13:=(a12.2.1+List.length [qa0 a15.1]);letI z14:=(a12.1++[qa0 a15.1]);need bot (z11∧(([qa0 a15.1]≠[])∧(z10∧((0≤a12.2.1)∧((z13≤1099511627776)∧((z13*48)≤1099511627776)))))) (need
 bot (vEq (.sl 5 a12.2.2.1 0 a12.2.1 none) (.sl 5 a12.2.2.1 0 a12.2.1 none)) (need bot z1 (PR.bnd bot (F.need es [101,110,100] a15.2) (fun a19=>need bot ((z12=z12)∧((0=0)∧((z13=(List.length z14))∧(GndR z14)))) (ok (⟨14,z2,a12.1++[qa0 a15.1]⟩,a19))) (fun e19=>er e19))))) (fun e15=>er e15)) else (PR.bnd bot (F.need es [101,110,100] a13.2) (fun a15=>need bot (z11∧((0=0)∧(z10∧(GndR a12.1)))) (ok
 (⟨14,[],a12.1⟩,a15))) (fun e15=>er e15))) (fun e13=>er e13)) (fun e12=>er e12.1)))) (fun e9=>need bot (GndR z4) (er e9)))))) (fun e5=>need bot z3 (er e5))) (fun e4=>need bot z3 (er e4)))))) (fun e0=>er e0))
noncomputable def Qw0 {β:Type} (bot:β) (ok:Nd×Int→β) (er:Int→β) (F:PsF) (es:List V)  (p:Int):β :=
 (PR.bnd bot (F.N 113 es p) (fun a0=>PR.bnd bot (F.need es [97,115] a0.2) (fun a1=>PR.bnd bot (F.N 114 es a1) (fun a2=>need bot (vEq (qa0 a0.1) (qa0 a0.1)) (PR.bnd bot (F.need es [40] a2.2) (fun a4=>PR.bnd bot (F.N 55 es a4) (fun a5=>need bot (([qa0 a5.1]≠[])∧((2<3)∧((3≤1099511627776)∧(144≤1099511627776)))) (PR.bnd bot (F.need es [59] a5.2) (fun a7=>PR.bnd bot (F.N 55 es a7) (fun a8=>letI
 z1:=[(qa0 a0.1),(qa0 a2.1),(qa0 a5.1),(qa0 a8.1)];need bot ((0=0)∧(([qa0 a8.1]≠[])∧((3=3)∧((0≤3)∧((4≤1099511627776)∧(192≤1099511627776)))))) (PR.bnd bot (F.need es [41] a8.2) (fun a10=>need bot ((1=1)∧((0=0)∧((4=4)∧(GndR z1)))) (ok (⟨16,[],z1⟩,a10))) (fun e10=>er e10))) (fun e8=>er e8)) (fun e7=>er e7))) (fun e5=>er e5)) (fun e4=>er e4))) (fun e2=>er e2)) (fun e1=>er e1)) (fun e0=>er e0))
noncomputable def jU0 {β:Type} (bot:β) (ok:Nd×Int→β) (er:Int→β) (F:PsF) (es:List V)  (p:Int):β :=
 (PR.bnd bot (F.N 113 es p) (fun a0=>PR.bnd bot (F.need es [97,115] a0.2) (fun a1=>PR.bnd bot (F.N 114 es a1) (fun a2=>need bot (vEq (qa0 a0.1) (qa0 a0.1)) (PR.bnd bot (F.need es [40] a2.2) (fun a4=>PR.bnd bot (F.N 55 es a4) (fun a5=>need bot (([qa0 a5.1]≠[])∧((2<3)∧((3≤1099511627776)∧(144≤1099511627776)))) (PR.bnd bot (F.need es [59] a5.2) (fun a7=>PR.bnd bot (F.N 55 es a7) (fun a8=>letI
 z1:=[(qa0 a0.1),(qa0 a2.1),(qa0 a5.1),(qa0 a8.1)];need bot ((0=0)∧(([qa0 a8.1]≠[])∧((3=3)∧((0≤3)∧((4≤1099511627776)∧(192≤1099511627776)))))) (PR.bnd bot (F.has es [59] a8.2) (fun a10=>bif a10.1 then (PR.bnd bot (F.N 55 es a10.2) (fun a12=>letI z2:=[(qa0 a0.1),(qa0 a2.1),(qa0 a5.1),(qa0 a8.1),(qa0 a12.1)];need bot ((1=1)∧(([qa0
 a12.1]≠[])∧((4=4)∧((0≤4)∧((5≤1099511627776)∧(240≤1099511627776)))))) (need bot (vEq (.sl 5 1 0 4 none) (.sl 5 1 0 4 none)) (need bot (vEq (.ptr 6 0 2) (.ptr 6 0 2)) (PR.bnd bot (F.need es [41] a12.2) (fun a16=>need bot ((2=2)∧((0=0)∧((5=5)∧(GndR z2)))) (ok (⟨17,[],z2⟩,a16))) (fun e16=>er e16))))) (fun e12=>er e12)) else (PR.bnd bot (F.need es [41] a10.2) (fun a12=>need bot
 ((1=1)∧((0=0)∧((4=4)∧(GndR z1)))) (ok (⟨17,[],z1⟩,a12))) (fun e12=>er e12))) (fun e10=>er e10))) (fun e8=>er e8)) (fun e7=>er e7))) (fun e5=>er e5)) (fun e4=>er e4))) (fun e2=>er e2)) (fun e1=>er e1)) (fun e0=>er e0))
noncomputable def jP0 {β:Type} (bot:β) (ok:Nd×Int→β) (er:Int→β) (F:PsF) (es:List V)  (p:Int):β :=
 (PR.bnd bot (F.take es 3 p) (fun a0=>PR.bnd bot (F.has es [40] a0.2) (fun a1=>bif a1.1 then (PR.bnd bot (F.rows 55 es [59] [41] a1.2) (fun a3=>letI z1:=(ok (⟨13,a0.1,a3.2.1⟩,a3.2.2.2.2));bif a3.1 then z1 else (need bot (GndR a3.2.1) (need bot ((a3.2.2.2.1=a3.2.2.2.1)∧((0=0)∧((a3.2.2.1=(List.length a3.2.1))∧(GndR a3.2.1)))) z1))) (fun e3=>er e3)) else (ok (⟨13,a0.1,[]⟩,a1.2))) (fun e1=>er e1)) (fun
 e0=>er e0))
noncomputable def Qk0 {β:Type} (bot:β) (ok:Nd×Int→β) (er:Int→β) (F:PsF) (es:List V)  (p:Int):β :=
 (letI z1:=((1<2)∧((2≤1099511627776)∧(96≤1099511627776)));letI z2:=(vEq (.ptr 5 0 2) (.ptr 5 0 2));PR.bnd bot (F.key es p) (fun a0=>letI z4:=(qa0 a0.1.1);letI z3:=(vEq (.gsl 3 [z4] (some 1)) (.gsl 3 [z4] (some 1)));letI z5:=(F.need es [58] a0.2);bif a0.1.2 then (bif !decide (a0.1.1.k=32) then (PR.bnd bot (F.is es [58] a0.2) (fun a3=>bif a3.1 then (PR.bnd bot (F.need es [58] a3.2) (fun a5=>PR.bnd
 bot (F.N 112 es a5) (fun a6=>need bot (([qa0 a6.1]≠[])∧z1) (need bot z3 (need bot z2 (need bot ((0=0)∧((0=0)∧((2=2)∧(GndR [z4,(qa0 a6.1)])))) (ok (⟨11,[],[z4,(qa0 a6.1)]⟩,a6.2)))))) (fun e6=>er e6)) (fun e5=>er e5)) else (ok (⟨11,[],[z4]⟩,a3.2))) (fun e3=>er e3)) else (PR.bnd bot z5 (fun a3=>PR.bnd bot (F.N 112 es a3) (fun a4=>need bot (([qa0 a4.1]≠[])∧z1) (need bot z3 (need bot z2 (need
 bot ((0=0)∧((0=0)∧((2=2)∧(GndR [z4,(qa0 a4.1)])))) (ok (⟨11,[],[z4,(qa0 a4.1)]⟩,a4.2)))))) (fun e4=>er e4)) (fun e3=>er e3))) else (bif !decide (a0.1.1.k=32) then (PR.bnd bot (F.is es [58] a0.2) (fun a3=>bif a3.1 then (PR.bnd bot (F.need es [58] a3.2) (fun a5=>PR.bnd bot (F.N 112 es a5) (fun a6=>need bot (([qa0 a6.1]≠[])∧z1) (need bot z3 (need bot z2 (need bot ((0=0)∧((0=0)∧((2=2)∧(GndR
 [z4,(qa0 a6.1)])))) (ok (⟨11,[],[z4,(qa0 a6.1)]⟩,a6.2)))))) (fun e6=>er e6)) (fun e5=>er e5)) else (ok (⟨11,[],[z4]⟩,a3.2))) (fun e3=>er e3)) else (PR.bnd bot z5 (fun a3=>PR.bnd bot (F.N 112 es a3) (fun a4=>need bot (([qa0 a4.1]≠[])∧z1) (need bot z3 (need bot z2 (need bot ((0=0)∧((0=0)∧((2=2)∧(GndR [z4,(qa0 a4.1)])))) (ok (⟨11,[],[z4,(qa0 a4.1)]⟩,a4.2)))))) (fun e4=>er e4)) (fun e3=>er
 e3)))) (fun e0=>er e0))
noncomputable def QJ0 {β:Type} (bot:β) (ok:Nd×Int→β) (er:Int→β) (F:PsF) (es:List V)  (p:Int):β :=
 PR.bnd bot (F.N 153 es p) (fun a0 =>
  PR.bnd bot (F.has es [124] a0.2) (fun a1 =>
   bif a1.1 then
    (PR.bnd bot (F.N 112 es a1.2) (fun a3 =>
     need bot (vEq (qa0 a0.1) (qa0 a0.1)) (ok (⟨24,[124],[(qa0 a0.1),(qa0 a3.1)]⟩,a3.2)))
     (fun e3=>er e3))
   else
    (ok (a0.1,a1.2)))
   (fun e1=>er e1))
  (fun e0=>er e0)
noncomputable def QI0 {β:Type} (bot:β) (ok:Nd×Int→β) (er:Int→β) (F:PsF) (es:List V)  (p:Int):β :=
 PR.bnd bot (F.has es [45] p) (fun a0 =>
  bif a0.1 then
   (PR.bnd bot (F.N 153 es a0.2) (fun a2 =>
    ok (⟨25,[],[(qa0 a2.1)]⟩,a2.2))
    (fun e2=>er e2))
  else
   (PR.bnd bot (F.N 113 es a0.2) (fun a2 =>
    ok (a2.1,a2.2))
    (fun e2=>er e2)))
  (fun e0=>er e0)
noncomputable def Qd0 {β:Type} (bot:β) (ok:Nd×Int→β) (er:Int→β) (F:PsF) (es:List V)  (p:Int):β :=
 (letI z1:=((1<2)∧((2≤1099511627776)∧(96≤1099511627776)));letI z2:=(vEq (.ptr 5 0 2) (.ptr 5 0 2));PR.bnd bot (F.key es p) (fun a0=>letI z3:=(qa0 a0.1.1);letI z4:=(vEq (.gsl 3 [z3] (some 1)) (.gsl 3 [z3] (some 1)));bif a0.1.2 then (PR.bnd bot (F.is es [58] a0.2) (fun a2=>bif a2.1 then (PR.bnd bot (F.need es [58] a2.2) (fun a4=>PR.bnd bot (F.N 114 es a4) (fun a5=>need bot (([qa0 a5.1]≠[])∧z1)
 (need bot z4 (need bot z2 (need bot ((0=0)∧((0=0)∧((2=2)∧(GndR [z3,(qa0 a5.1)])))) (ok (⟨37,[],[z3,(qa0 a5.1)]⟩,a5.2)))))) (fun e5=>er e5)) (fun e4=>er e4)) else (ok (⟨37,[],[z3]⟩,a2.2))) (fun e2=>er e2)) else (PR.bnd bot (F.need es [58] a0.2) (fun a2=>PR.bnd bot (F.N 114 es a2) (fun a3=>need bot (([qa0 a3.1]≠[])∧z1) (need bot z4 (need bot z2 (need bot ((0=0)∧((0=0)∧((2=2)∧(GndR [z3,(qa0
 a3.1)])))) (ok (⟨37,[],[z3,(qa0 a3.1)]⟩,a3.2)))))) (fun e3=>er e3)) (fun e2=>er e2))) (fun e0=>er e0))
noncomputable def Qo0 {β:Type} (bot:β) (ok:Nd×Int→β) (er:Int→β) (F:PsF) (es:List V)  (p:Int):β :=
 (PR.bnd bot (F.tok es p) (fun a0=>bif decide (a0.1=5) then (PR.bnd bot (F.take es 5 p) (fun a2=>need bot (((0:Int)≤1)∧((1:Int)≤((↑(List.length a2.1):Int)))) (ok (⟨4,List.drop 1 a2.1,[]⟩,a2.2))) (fun e2=>er e2)) else (PR.bnd bot (F.has es [91] p) (fun a2=>bif a2.1 then (PR.bnd bot (F.rows 114 es [44] [93] a2.2) (fun a4=>letI z1:=(ok (⟨35,[],a4.2.1⟩,a4.2.2.2.2));bif a4.1 then z1 else (need bot (GndR
 a4.2.1) (need bot ((a4.2.2.2.1=a4.2.2.2.1)∧((0=0)∧((a4.2.2.1=(List.length a4.2.1))∧(GndR a4.2.1)))) z1))) (fun e4=>er e4)) else (PR.bnd bot (F.need es [123] a2.2) (fun a4=>PR.bnd bot (F.rows 156 es [44] [125] a4) (fun a5=>letI z2:=(ok (⟨36,[],a5.2.1⟩,a5.2.2.2.2));bif a5.1 then z2 else (need bot (GndR a5.2.1) (need bot ((a5.2.2.2.1=a5.2.2.2.1)∧((0=0)∧((a5.2.2.1=(List.length a5.2.1))∧(GndR
 a5.2.1)))) z2))) (fun e5=>er e5)) (fun e4=>er e4))) (fun e2=>er e2))) (fun e0=>er e0))
noncomputable def Ql0 {β:Type} (bot:β) (ok:Nd×Int→β) (er:Int→β) (F:PsF) (es:List V)  (p:Int):β :=
 PR.bnd bot (F.tok es p) (fun a0 =>
  bif decide (a0.1=5) then
   (PR.bnd bot (F.take es 5 p) (fun a2 =>
    ok (⟨30,a2.1,[]⟩,a2.2))
    (fun e2=>er e2))
  else
   (PR.bnd bot (F.name es p) (fun a2 =>
    ok (⟨30,a2.1,[]⟩,a2.2))
    (fun e2=>er e2)))
  (fun e0=>er e0)
noncomputable def ZZ0 {β:Type} (bot:β) (ok:Nd×Int→β) (er:Int→β) (F:PsF) (es:List V)  (p:Int):β :=
 PR.bnd bot (F.exp es 1 p) (fun a0 =>
  ok (a0.1,a0.2))
  (fun e0=>er e0)
noncomputable def jV0 {β:Type} (bot:β) (ok:Nd×Int→β) (er:Int→β) (F:PsF) (es:List V) (l:Int) (p:Int):β :=
 PR.bnd bot (F.N 116 es p) (fun a0 =>
  PR.bnd bot (F.expL es l 0 a0.1 a0.2) (fun a1 =>
   ok (a1.1,a1.2))
   (fun e1=>er e1))
  (fun e0=>er e0)
noncomputable def jT0 {β:Type} (bot:β) (ok:Nd×Int→β) (er:Int→β) (F:PsF) (es:List V)  (p:Int):β :=
 (letI z1:=(vEq (.int .i64 29) (.int .i64 29));letI z2:=(vEq (.ptr 4 0 2) (.ptr 4 0 2));letI z3:=(vEq (.ptr 4 0 1) (.ptr 4 0 1));letI z4:=(vEq (.ptr 4 0 0) (.ptr 4 0 0));PR.bnd bot (F.name es p) (fun a0=>letI z5:=(vEq (.str a0.1) (.str a0.1));PR.bnd bot (F.has es [40] a0.2) (fun a1=>bif a1.1 then (PR.bnd bot (F.rows 81 es [59] [41] a1.2) (fun a3=>letI z6:=(Nat.succ a3.2.2.2.1);letI z7:=(F.need es
 [58] a3.2.2.2.2);bif a3.1 then (PR.bnd bot z7 (fun a5=>PR.bnd bot (F.N 55 es a5) (fun a6=>letI z8:=(List.length a3.2.1+List.length [qa0 a6.1]);need bot (([qa0 a6.1]≠[])∧((1<z8)∧((z8≤1099511627776)∧((z8*48)≤1099511627776)))) (need bot (vEq (.gsl 3 a3.2.1 (some 1)) (.gsl 3 a3.2.1 (some 1))) (need bot z2 (PR.bnd bot (F.need es [59] a6.2) (fun a10=>PR.bnd bot (F.rest es true a10) (fun a11=>letI
 z9:=(List.length a3.2.1+List.length [qa0 a6.1]+List.length [qa0 a11.1]);letI z10:=(a3.2.1++[qa0 a6.1]++[qa0 a11.1]);need bot ((0=0)∧(([qa0 a11.1]≠[])∧((z8=(List.length (a3.2.1++[qa0 a6.1])))∧((0≤z8)∧((z9≤1099511627776)∧((z9*48)≤1099511627776)))))) (need bot (vEq (.sl 5 0 0 z8 none) (.sl 5 0 0 z8 none)) (need bot z2 (need bot z5 (need bot z5 (need bot z3 (need bot z3 (need bot z1 (need
 bot z1 (need bot z4 (need bot z4 (need bot ((1=1)∧((0=0)∧((z9=(List.length z10))∧(GndR z10)))) (ok (⟨29,a0.1,a3.2.1++[qa0 a6.1]++[qa0 a11.1]⟩,a11.2)))))))))))))) (fun e11=>er e11)) (fun e10=>er e10))))) (fun e6=>er e6)) (fun e5=>er e5)) else (need bot (GndR a3.2.1) (PR.bnd bot z7 (fun a6=>PR.bnd bot (F.N 55 es a6) (fun a7=>letI z11:=(a3.2.2.1+List.length [qa0 a7.1]);need bot
 ((a3.2.2.2.1=a3.2.2.2.1)∧(([qa0 a7.1]≠[])∧((a3.2.2.1=(List.length a3.2.1))∧((0≤a3.2.2.1)∧((z11≤1099511627776)∧((z11*48)≤1099511627776)))))) (need bot (vEq (.sl 5 a3.2.2.2.1 0 a3.2.2.1 none) (.sl 5 a3.2.2.2.1 0 a3.2.2.1 none)) (need bot z2 (PR.bnd bot (F.need es [59] a7.2) (fun a11=>PR.bnd bot (F.rest es true a11) (fun a12=>letI z12:=(a3.2.2.1+List.length [qa0 a7.1]+List.length [qa0
 a12.1]);letI z13:=(a3.2.1++[qa0 a7.1]++[qa0 a12.1]);need bot ((z6=z6)∧(([qa0 a12.1]≠[])∧((z11=(List.length (a3.2.1++[qa0 a7.1])))∧((0≤z11)∧((z12≤1099511627776)∧((z12*48)≤1099511627776)))))) (need bot (vEq (.sl 5 z6 0 z11 none) (.sl 5 z6 0 z11 none)) (need bot z2 (need bot z5 (need bot z5 (need bot z3 (need bot z3 (need bot z1 (need bot z1 (need bot z4 (need bot z4 (need bot (((Nat.succ
 z6)=(Nat.succ z6))∧((0=0)∧((z12=(List.length z13))∧(GndR z13)))) (ok (⟨29,a0.1,a3.2.1++[qa0 a7.1]++[qa0 a12.1]⟩,a12.2)))))))))))))) (fun e12=>er e12)) (fun e11=>er e11))))) (fun e7=>er e7)) (fun e6=>er e6)))) (fun e3=>er e3)) else (PR.bnd bot (F.need es [58] a1.2) (fun a3=>PR.bnd bot (F.N 55 es a3) (fun a4=>need bot (([qa0 a4.1]≠[])∧((1≤1099511627776)∧(48≤1099511627776))) (need bot (vEq
 .nils .nils) (need bot z2 (PR.bnd bot (F.need es [59] a4.2) (fun a8=>PR.bnd bot (F.rest es true a8) (fun a9=>letI z14:=[(qa0 a4.1),(qa0 a9.1)];need bot ((0=0)∧(([qa0 a9.1]≠[])∧((1=1)∧((0≤1)∧((2≤1099511627776)∧(96≤1099511627776)))))) (need bot (vEq (.sl 5 0 0 1 none) (.sl 5 0 0 1 none)) (need bot z2 (need bot z5 (need bot z5 (need bot z3 (need bot z3 (need bot z1 (need bot z1 (need bot z4
 (need bot z4 (need bot ((1=1)∧((0=0)∧((2=2)∧(GndR z14)))) (ok (⟨29,a0.1,z14⟩,a9.2)))))))))))))) (fun e9=>er e9)) (fun e8=>er e8))))) (fun e4=>er e4)) (fun e3=>er e3))) (fun e1=>er e1)) (fun e0=>er e0))
noncomputable def jS0 {β:Type} (bot:β) (ok:Nd×Int→β) (er:Int→β) (F:PsF) (es:List V)  (p:Int):β :=
 (letI z1:=(vEq (.int .i64 29) (.int .i64 29));letI z2:=(vEq (.ptr 4 0 2) (.ptr 4 0 2));letI z3:=(vEq (.ptr 4 0 1) (.ptr 4 0 1));letI z4:=(vEq (.ptr 4 0 0) (.ptr 4 0 0));PR.bnd bot (F.name es p) (fun a0=>letI z5:=(vEq (.str a0.1) (.str a0.1));PR.bnd bot (F.has es [40] a0.2) (fun a1=>bif a1.1 then (PR.bnd bot (F.rows 81 es [59] [41] a1.2) (fun a3=>letI z6:=(Nat.succ a3.2.2.2.1);letI z7:=(F.need es
 [58] a3.2.2.2.2);bif a3.1 then (PR.bnd bot z7 (fun a5=>PR.bnd bot (F.N 55 es a5) (fun a6=>letI z8:=(List.length a3.2.1+List.length [qa0 a6.1]);need bot (([qa0 a6.1]≠[])∧((1<z8)∧((z8≤1099511627776)∧((z8*48)≤1099511627776)))) (need bot (vEq (.gsl 3 a3.2.1 (some 1)) (.gsl 3 a3.2.1 (some 1))) (need bot z2 (PR.bnd bot (F.need es [59] a6.2) (fun a10=>PR.bnd bot (F.rest es false a10) (fun a11=>letI
 z9:=(List.length a3.2.1+List.length [qa0 a6.1]+List.length [qa0 a11.1]);letI z10:=(a3.2.1++[qa0 a6.1]++[qa0 a11.1]);need bot ((0=0)∧(([qa0 a11.1]≠[])∧((z8=(List.length (a3.2.1++[qa0 a6.1])))∧((0≤z8)∧((z9≤1099511627776)∧((z9*48)≤1099511627776)))))) (need bot (vEq (.sl 5 0 0 z8 none) (.sl 5 0 0 z8 none)) (need bot z2 (need bot z5 (need bot z5 (need bot z3 (need bot z3 (need bot z1 (need
 bot z1 (need bot z4 (need bot z4 (need bot ((1=1)∧((0=0)∧((z9=(List.length z10))∧(GndR z10)))) (ok (⟨29,a0.1,a3.2.1++[qa0 a6.1]++[qa0 a11.1]⟩,a11.2)))))))))))))) (fun e11=>er e11)) (fun e10=>er e10))))) (fun e6=>er e6)) (fun e5=>er e5)) else (need bot (GndR a3.2.1) (PR.bnd bot z7 (fun a6=>PR.bnd bot (F.N 55 es a6) (fun a7=>letI z11:=(a3.2.2.1+List.length [qa0 a7.1]);need bot
 ((a3.2.2.2.1=a3.2.2.2.1)∧(([qa0 a7.1]≠[])∧((a3.2.2.1=(List.length a3.2.1))∧((0≤a3.2.2.1)∧((z11≤1099511627776)∧((z11*48)≤1099511627776)))))) (need bot (vEq (.sl 5 a3.2.2.2.1 0 a3.2.2.1 none) (.sl 5 a3.2.2.2.1 0 a3.2.2.1 none)) (need bot z2 (PR.bnd bot (F.need es [59] a7.2) (fun a11=>PR.bnd bot (F.rest es false a11) (fun a12=>letI z12:=(a3.2.2.1+List.length [qa0 a7.1]+List.length [qa0
 a12.1]);letI z13:=(a3.2.1++[qa0 a7.1]++[qa0 a12.1]);need bot ((z6=z6)∧(([qa0 a12.1]≠[])∧((z11=(List.length (a3.2.1++[qa0 a7.1])))∧((0≤z11)∧((z12≤1099511627776)∧((z12*48)≤1099511627776)))))) (need bot (vEq (.sl 5 z6 0 z11 none) (.sl 5 z6 0 z11 none)) (need bot z2 (need bot z5 (need bot z5 (need bot z3 (need bot z3 (need bot z1 (need bot z1 (need bot z4 (need bot z4 (need bot (((Nat.succ
 z6)=(Nat.succ z6))∧((0=0)∧((z12=(List.length z13))∧(GndR z13)))) (ok (⟨29,a0.1,a3.2.1++[qa0 a7.1]++[qa0 a12.1]⟩,a12.2)))))))))))))) (fun e12=>er e12)) (fun e11=>er e11))))) (fun e7=>er e7)) (fun e6=>er e6)))) (fun e3=>er e3)) else (PR.bnd bot (F.need es [58] a1.2) (fun a3=>PR.bnd bot (F.N 55 es a3) (fun a4=>need bot (([qa0 a4.1]≠[])∧((1≤1099511627776)∧(48≤1099511627776))) (need bot (vEq
 .nils .nils) (need bot z2 (PR.bnd bot (F.need es [59] a4.2) (fun a8=>PR.bnd bot (F.rest es false a8) (fun a9=>letI z14:=[(qa0 a4.1),(qa0 a9.1)];need bot ((0=0)∧(([qa0 a9.1]≠[])∧((1=1)∧((0≤1)∧((2≤1099511627776)∧(96≤1099511627776)))))) (need bot (vEq (.sl 5 0 0 1 none) (.sl 5 0 0 1 none)) (need bot z2 (need bot z5 (need bot z5 (need bot z3 (need bot z3 (need bot z1 (need bot z1 (need bot z4
 (need bot z4 (need bot ((1=1)∧((0=0)∧((2=2)∧(GndR z14)))) (ok (⟨29,a0.1,z14⟩,a9.2)))))))))))))) (fun e9=>er e9)) (fun e8=>er e8))))) (fun e4=>er e4)) (fun e3=>er e3))) (fun e1=>er e1)) (fun e0=>er e0))
noncomputable def Qy0 {β:Type} (bot:β) (ok:Nd×Int→β) (er:Int→β) (F:PsF) (es:List V)  (p:Int):β :=
 bif decide (p=(↑(List.length es):Int)) then
  (ok (⟨0,[],[]⟩,p))
 else
  (PR.bnd bot (F.has es [100,101,102] p) (fun a1 =>
   bif a1.1 then
    (PR.bnd bot (F.dfn es true a1.2) (fun a3 =>
     ok (a3.1,a3.2))
     (fun e3=>er e3))
   else
    (PR.bnd bot (F.N 55 es a1.2) (fun a3 =>
     ok (a3.1,a3.2))
     (fun e3=>er e3)))
   (fun e1=>er e1))
noncomputable def Qx0 {β:Type} (bot:β) (ok:Nd×Int→β) (er:Int→β) (F:PsF) (es:List V)  (p:Int):β :=
 PR.bnd bot (F.N 55 es p) (fun a0 =>
  ok (a0.1,a0.2))
  (fun e0=>er e0)
noncomputable def QK0 {β:Type} (bot:β) (ok:Nd×Int→β) (er:Int→β) (F:PsF) (es:List V) (n:Nd) (d:List UInt8) (p:Int):β :=
 (letI z1:=(((0:Int)≤1)∧((1:Int)<3));letI z2:=(((0:Int)≤2)∧((2:Int)<3));PR.bnd bot (F.need es [91] p) (fun a0=>PR.bnd bot (F.has es [93] a0) (fun a1=>bif a1.1 then (ok (⟨20,d,[(qa0 n)]⟩,a1.2)) else (PR.bnd bot (F.is es [58] a1.2) (fun a3=>bif a3.1 then (PR.bnd bot (F.need es [58] a3.2) (fun a5=>need bot z1 (PR.bnd bot (F.N 55 es a5) (fun a7=>need bot z2 (PR.bnd bot (F.need es [93] a7.2) (fun
 a9=>ok (⟨19,d,[(qa0 n),(nV0 0 []),(qa0 a7.1)]⟩,a9)) (fun e9=>er e9))) (fun e7=>er e7))) (fun e5=>er e5)) else (PR.bnd bot (F.N 55 es a3.2) (fun a5=>need bot z1 (PR.bnd bot (F.has es [93] a5.2) (fun a7=>bif a7.1 then (need bot (((0:Int)≤2)∧((2:Int)≤3)) (ok (⟨18,d,[(qa0 n),(qa0 a5.1)]⟩,a7.2))) else (PR.bnd bot (F.need es [58] a7.2) (fun a9=>need bot z1 (bif decide (a5.1.k=0) then (PR.bnd bot
 (F.N 55 es a9) (fun a12=>need bot z2 (PR.bnd bot (F.need es [93] a12.2) (fun a14=>ok (⟨19,d,[(qa0 n),(qa0 a5.1),(qa0 a12.1)]⟩,a14)) (fun e14=>er e14))) (fun e12=>er e12)) else (PR.bnd bot (F.is es [93] a9) (fun a12=>bif a12.1 then (PR.bnd bot (F.need es [93] a12.2) (fun a14=>ok (⟨19,d,[(qa0 n),(qa0 a5.1),(nV0 0 [])]⟩,a14)) (fun e14=>er e14)) else (PR.bnd bot (F.N 55 es a12.2) (fun
 a14=>need bot z2 (PR.bnd bot (F.need es [93] a14.2) (fun a16=>ok (⟨19,d,[(qa0 n),(qa0 a5.1),(qa0 a14.1)]⟩,a16)) (fun e16=>er e16))) (fun e14=>er e14))) (fun e12=>er e12)))) (fun e9=>er e9))) (fun e7=>er e7))) (fun e5=>er e5))) (fun e3=>er e3))) (fun e1=>er e1)) (fun e0=>er e0))
noncomputable def qS0 {β:Type} (bot:β) (ok:Rx→β) (er:Int→β) (F:PsF) (es:List V) (i:Nat) (a b:List UInt8) (p:Int):β :=
 (PR.bnd bot (F.N i es p) (fun a0=>PR.bnd bot (F.has es a a0.2) (fun a1=>bif a1.1 then (PR.bnd bot (F.N i es a1.2) (fun a3=>letI z1:=[(qa0 a0.1),(qa0 a3.1)];need bot (([qa0 a3.1]≠[])∧((1<2)∧((2≤1099511627776)∧(96≤1099511627776)))) (need bot (GndR z1) (PR.bnd bot (F.rowsL i es a b 0 2 z1 a3.2) (fun a6=>PR.bnd bot (F.need es b a6.2.2.2) (fun a7=>need bot (GndR a6.1) (ok
 (false,a6.1,a6.2.1,a6.2.2.1,a7))) (fun e7=>er e7)) (fun e6=>er e6.1)))) (fun e3=>er e3)) else (PR.bnd bot (F.need es b a1.2) (fun a3=>ok (true,[(qa0 a0.1)],1,0,a3)) (fun e3=>er e3))) (fun e1=>er e1)) (fun e0=>er e0))
noncomputable def qA0 {β:Type} (bot:β) (ok:Rw→β) (er:Int×Nat→β) (F:PsF) (es:List V) (i:Nat) (a b:List UInt8) (ver len:Nat) (acc:List V) (p:Int):β :=
 (PR.bnd bot (F.has es a p) (fun a0=>bif a0.1 then (PR.bnd bot (F.N i es a0.2) (fun a2=>letI z1:=(len+List.length [qa0 a2.1]);need bot ((ver=ver)∧(([qa0 a2.1]≠[])∧((len=(List.length acc))∧((0≤len)∧((z1≤1099511627776)∧((z1*48)≤1099511627776)))))) (need bot (GndR (acc++[qa0 a2.1])) (PR.bnd bot (F.rowsL i es a b (Nat.succ ver) z1 (acc++[qa0 a2.1]) a2.2) (fun a5=>need bot (GndR a5.1) (ok
 (a5.1,a5.2.1,a5.2.2.1,a5.2.2.2))) (fun e5=>er (e5.1,e5.2))))) (fun e2=>need bot (GndR acc) (er (e2,ver)))) else (need bot (GndR acc) (need bot (GndR acc) (ok (acc,len,ver,a0.2))))) (fun e0=>need bot (GndR acc) (er (e0,ver))))
noncomputable def jW0 {β:Type} (bot:β) (ok:Nd×Int→β) (er:Int→β) (F:PsF) (es:List V) (l c:Int) (n:Nd) (p:Int):β :=
 (PR.bnd bot (F.tok es p) (fun a0=>PR.bnd bot (F.of a0.1 a0.2) (fun a1=>PR.bnd bot (F.level a1) (fun a2=>bif decide (a2=0) then (ok (n,p)) else (bif decide (a2<l) then (ok (n,p)) else (bif decide (a2=c) then (er p) else (need bot (inI (p+1)) (PR.bnd bot (F.right a1) (fun a7=>PR.bnd bot (F.exp es a7 (p+1)) (fun a8=>letI z1:=[(qa0 n),(qa0 a8.1)];need bot (vEq (qa0 n) (qa0 n)) (need bot (vEq
 (.str a1) (.str a1)) (PR.bnd bot (F.side a1) (fun a11=>bif decide (a11=0) then (PR.bnd bot (F.expL es l a2 ⟨24,a1,z1⟩ a8.2) (fun a13=>ok (a13.1,a13.2)) (fun e13=>er e13)) else (PR.bnd bot (F.expL es l 0 ⟨24,a1,z1⟩ a8.2) (fun a13=>ok (a13.1,a13.2)) (fun e13=>er e13))) (fun _=>bot)))) (fun e8=>er e8)) (fun _=>bot)))))) (fun _=>bot)) (fun _=>bot)) (fun e0=>er e0))
noncomputable def Qt0 {β:Type} (bot:β) (ok:Nd×Int→β) (er:Int→β) (F:PsF) (es:List V) (n:Nd) (p:Int):β :=
 (letI z1:=(vEq (.gsl 3 [(qa0 n)] (some 1)) (.gsl 3 [(qa0 n)] (some 1)));letI z2:=(vEq (qa0 n) (qa0 n));PR.bnd bot (F.tok es p) (fun a0=>bif decide (a0.1=4) then (PR.bnd bot (F.take es 4 p) (fun a2=>need bot (((0:Int)≤1)∧((1:Int)≤((↑(List.length a2.1):Int)))) (need bot z1 (need bot z2 (PR.bnd bot (F.postL es ⟨21,List.drop 1 a2.1,[(qa0 n)]⟩ a2.2) (fun a6=>ok (a6.1,a6.2)) (fun e6=>er
 e6))))) (fun e2=>need bot z1 (need bot z2 (er e2)))) else (PR.bnd bot (F.has es [63] p) (fun a2=>bif a2.1 then (PR.bnd bot (F.postL es ⟨23,[],[(qa0 n)]⟩ a2.2) (fun a4=>ok (a4.1,a4.2)) (fun e4=>er e4)) else (PR.bnd bot (F.is es [91] a2.2) (fun a4=>bif a4.1 then (PR.bnd bot (F.within es n [] a4.2) (fun a6=>PR.bnd bot (F.postL es a6.1 a6.2) (fun a7=>ok (a7.1,a7.2)) (fun e7=>er e7)) (fun e6=>er e6))
 else (PR.bnd bot (F.has es [46] a4.2) (fun a6=>bif a6.1 then (PR.bnd bot (F.is es [91] a6.2) (fun a8=>bif a8.1 then (PR.bnd bot (F.within es n [46] a8.2) (fun a10=>PR.bnd bot (F.postL es a10.1 a10.2) (fun a11=>ok (a11.1,a11.2)) (fun e11=>er e11)) (fun e10=>er e10)) else (PR.bnd bot (F.N 74 es a8.2) (fun a10=>need bot z2 (PR.bnd bot (F.postL es ⟨22,[],[(qa0 n),(qa0 a10.1)]⟩ a10.2) (fun a12=>ok
 (a12.1,a12.2)) (fun e12=>er e12))) (fun e10=>er e10))) (fun e8=>er e8)) else (ok (n,a6.2))) (fun e6=>er e6))) (fun e4=>er e4))) (fun e2=>er e2))) (fun e0=>er e0))
noncomputable def QG0 {β:Type} (bot:β) (ok:Rw→β) (er:Int×Nat→β) (F:PsF) (es:List V) (t:List UInt8) (ver len:Nat) (acc:List V) (p:Int):β :=
 (letI z1:=(vEq (.sl 5 ver 0 len none) (.sl 5 ver 0 len none));letI z2:=(vEq (.ptr 4 0 2) (.ptr 4 0 2));letI z3:=(Nat.succ ver);letI z4:=(len=(List.length acc));PR.bnd bot (F.tok es p) (fun a0=>bif !decide (a0.1=11) then (PR.bnd bot (F.tok es p) (fun a2=>bif decide (a2.1=8) then (PR.bnd bot (F.take es 8 p) (fun a4=>letI z5:=(len+List.length [nV0 7 a4.1]);need bot ((ver=ver)∧(([nV0 7
 a4.1]≠[])∧(z4∧((0≤len)∧((z5≤1099511627776)∧((z5*48)≤1099511627776)))))) (need bot z1 (need bot z2 (need bot (GndR (acc++[nV0 7 a4.1])) (PR.bnd bot (F.textL es t z3 z5 (acc++[nV0 7 a4.1]) a4.2) (fun a9=>need bot (GndR a9.1) (ok (a9.1,a9.2.1,a9.2.2.1,a9.2.2.2))) (fun e9=>er (e9.1,e9.2))))))) (fun e4=>need bot (GndR acc) (er (e4,ver)))) else (PR.bnd bot (F.take es 9 p) (fun a4=>PR.bnd bot (F.N 55 es
 a4.2) (fun a5=>letI z6:=(len+List.length [qa0 a5.1]);letI z7:=(acc++[qa0 a5.1]);need bot ((ver=ver)∧(([qa0 a5.1]≠[])∧(z4∧((0≤len)∧((z6≤1099511627776)∧((z6*48)≤1099511627776)))))) (need bot z1 (need bot z2 (PR.bnd bot (F.take es 10 a5.2) (fun a9=>need bot (GndR z7) (PR.bnd bot (F.textL es t z3 z6 z7 a9.2) (fun a11=>need bot (GndR a11.1) (ok (a11.1,a11.2.1,a11.2.2.1,a11.2.2.2))) (fun e11=>er
 (e11.1,e11.2)))) (fun e9=>need bot (GndR z7) (er (e9,z3))))))) (fun e5=>need bot (GndR acc) (er (e5,ver)))) (fun e4=>need bot (GndR acc) (er (e4,ver))))) (fun e2=>need bot (GndR acc) (er (e2,ver)))) else (need bot (GndR acc) (need bot (GndR acc) (ok (acc,len,ver,p))))) (fun e0=>need bot (GndR acc) (er (e0,ver))))
noncomputable def Qq0 {β:Type} (bot:β) (ok:Rw→β) (er:Int×Nat→β) (F:PsF) (es:List V) (ver len:Nat) (acc:List V) (p:Int):β :=
 (PR.bnd bot (F.tok es p) (fun a0=>bif decide (a0.1=8) then (PR.bnd bot (F.take es 8 p) (fun a2=>letI z1:=(len+List.length [nV0 7 a2.1]);need bot ((ver=ver)∧(([nV0 7 a2.1]≠[])∧((len=(List.length acc))∧((0≤len)∧((z1≤1099511627776)∧((z1*48)≤1099511627776)))))) (need bot (vEq (.sl 5 ver 0 len none) (.sl 5 ver 0 len none)) (need bot (vEq (.ptr 4 0 2) (.ptr 4 0 2)) (need bot (GndR (acc++[nV0 7 a2.1]))
 (PR.bnd bot (F.plainL es (Nat.succ ver) z1 (acc++[nV0 7 a2.1]) a2.2) (fun a7=>need bot (GndR a7.1) (ok (a7.1,a7.2.1,a7.2.2.1,a7.2.2.2))) (fun e7=>er (e7.1,e7.2))))))) (fun e2=>need bot (GndR acc) (er (e2,ver)))) else (need bot (GndR acc) (need bot (GndR acc) (ok (acc,len,ver,p))))) (fun e0=>need bot (GndR acc) (er (e0,ver))))
noncomputable def Qa0 {β:Type} (bot:β) (ok:Rw→β) (er:Int×Nat→β) (F:PsF) (es:List V) (ver len:Nat) (acc:List V) (p:Int):β :=
 (letI z1:=(Nat.succ ver);letI z2:=(vEq (.ptr 4 0 2) (.ptr 4 0 2));PR.bnd bot (F.N 55 es p) (fun a0=>letI z3:=(len+List.length [qa0 a0.1]);letI z4:=(acc++[qa0 a0.1]);need bot ((ver=ver)∧(([qa0 a0.1]≠[])∧((len=(List.length acc))∧((0≤len)∧((z3≤1099511627776)∧((z3*48)≤1099511627776)))))) (need bot (vEq (.sl 5 ver 0 len none) (.sl 5 ver 0 len none)) (need bot z2 (PR.bnd bot (F.need es
 [116,104,101,110] a0.2) (fun a4=>PR.bnd bot (F.N 55 es a4) (fun a5=>letI z5:=(len+List.length [qa0 a0.1]+List.length [qa0 a5.1]);letI z6:=(acc++[qa0 a0.1]++[qa0 a5.1]);need bot ((z1=z1)∧(([qa0 a5.1]≠[])∧((z3=(List.length z4))∧((0≤z3)∧((z5≤1099511627776)∧((z5*48)≤1099511627776)))))) (need bot (vEq (.sl 5 z1 0 z3 none) (.sl 5 z1 0 z3 none)) (need bot z2 (PR.bnd bot (F.has es
 [101,108,105,102] a5.2) (fun a9=>bif a9.1 then (need bot (GndR z6) (PR.bnd bot (F.ifsL es true (Nat.succ z1) z5 z6 a9.2) (fun a12=>need bot (GndR a12.1) (ok (a12.1,a12.2.1,a12.2.2.1,a12.2.2.2))) (fun e12=>er (e12.1,e12.2)))) else (need bot (GndR z6) (PR.bnd bot (F.ifsL es false (Nat.succ z1) z5 z6 a9.2) (fun a12=>need bot (GndR a12.1) (ok (a12.1,a12.2.1,a12.2.2.1,a12.2.2.2))) (fun e12=>er
 (e12.1,e12.2))))) (fun e9=>need bot (GndR z6) (er (e9,(Nat.succ z1)))))))) (fun e5=>need bot (GndR z4) (er (e5,z1)))) (fun e4=>need bot (GndR z4) (er (e4,z1))))))) (fun e0=>need bot (GndR acc) (er (e0,ver))))
noncomputable def jZ0 {β:Type} (bot:β) (ok:Rw→β) (er:Int×Nat→β) (F:PsF) (es:List V) (ver len:Nat) (acc:List V) (p:Int):β :=
 need bot (GndR acc) (need bot (GndR acc) (ok (acc,len,ver,p)))
noncomputable def Qu0 {β:Type} (bot:β) (ok:Rw→β) (er:Int×Nat→β) (F:PsF) (es:List V) (ver len:Nat) (acc:List V) (p:Int):β :=
 (letI z1:=(len=(List.length acc));PR.bnd bot (F.is es [105,109,112,111,114,116] p) (fun a0=>bif a0.1 then (PR.bnd bot (F.N 52 es a0.2) (fun a2=>letI z2:=(len+List.length [qa0 a2.1]);need bot ((ver=ver)∧(([qa0 a2.1]≠[])∧(z1∧((0≤len)∧((z2≤1099511627776)∧((z2*48)≤1099511627776)))))) (need bot (GndR (acc++[qa0 a2.1])) (PR.bnd bot (F.progL es (Nat.succ ver) z2 (acc++[qa0 a2.1]) a2.2) (fun
 a5=>need bot (GndR a5.1) (ok (a5.1,a5.2.1,a5.2.2.1,a5.2.2.2))) (fun e5=>er (e5.1,e5.2))))) (fun e2=>need bot (GndR acc) (er (e2,ver)))) else (PR.bnd bot (F.is es [105,110,99,108,117,100,101] a0.2) (fun a2=>bif a2.1 then (PR.bnd bot (F.N 52 es a2.2) (fun a4=>letI z3:=(len+List.length [qa0 a4.1]);need bot ((ver=ver)∧(([qa0 a4.1]≠[])∧(z1∧((0≤len)∧((z3≤1099511627776)∧((z3*48)≤1099511627776))))))
 (need bot (GndR (acc++[qa0 a4.1])) (PR.bnd bot (F.progL es (Nat.succ ver) z3 (acc++[qa0 a4.1]) a4.2) (fun a7=>need bot (GndR a7.1) (ok (a7.1,a7.2.1,a7.2.2.1,a7.2.2.2))) (fun e7=>er (e7.1,e7.2))))) (fun e4=>need bot (GndR acc) (er (e4,ver)))) else (need bot (GndR acc) (need bot (GndR acc) (ok (acc,len,ver,a2.2))))) (fun e2=>need bot (GndR acc) (er (e2,ver))))) (fun e0=>need bot (GndR acc) (er
 (e0,ver))))
noncomputable def Qe0 {β:Type} (bot:β) (ok:Int→β) (er:Int→β) (F:PsF) (w:List UInt8):β :=
 (bif decide (w=[124]) then (ok 1) else (bif decide (w=[44]) then (ok 2) else (bif decide (w=[47,47]) then (ok 3) else (bif decide (w=[61]) then (ok 4) else (bif decide (w=[124,61]) then (ok 4) else (bif decide (w=[43,61]) then (ok 4) else (bif decide (w=[45,61]) then (ok 4) else (bif decide (w=[42,61]) then (ok 4) else (bif decide (w=[47,61]) then (ok 4) else (bif decide (w=[37,61]) then (ok 4)
 else (bif decide (w=[47,47,61]) then (ok 4) else (bif decide (w=[111,114]) then (ok 5) else (bif decide (w=[97,110,100]) then (ok 6) else (bif decide (w=[61,61]) then (ok 7) else (bif decide (w=[33,61]) then (ok 7) else (bif decide (w=[60]) then (ok 7) else (bif decide (w=[60,61]) then (ok 7) else (bif decide (w=[62]) then (ok 7) else (bif decide (w=[62,61]) then (ok 7) else (bif decide (w=[43])
 then (ok 8) else (bif decide (w=[45]) then (ok 8) else (bif decide (w=[42]) then (ok 9) else (bif decide (w=[47]) then (ok 9) else (bif decide (w=[37]) then (ok 9) else (ok 0)))))))))))))))))))))))))
noncomputable def Qz0 {β:Type} (bot:β) (ok:Int→β) (er:Int→β) (F:PsF) (w:List UInt8):β :=
 (letI z3:=((-9223372036854775808):Int);letI z1:=(need bot ((z3≤5)∧((5:Int)≤9223372036854775807)) (ok 5));letI z2:=(need bot ((z3≤8)∧((8:Int)≤9223372036854775807)) (ok 8));letI z4:=(need bot ((z3≤10)∧((10:Int)≤9223372036854775807)) (ok 10));letI z5:=(need bot ((z3≤9)∧((9:Int)≤9223372036854775807)) (ok 9));bif decide (w=[124]) then (ok 1) else (bif decide (w=[44]) then (need bot
 ((z3≤3)∧((3:Int)≤9223372036854775807)) (ok 3)) else (bif decide (w=[47,47]) then (ok 3) else (bif decide (w=[61]) then z1 else (bif decide (w=[124,61]) then z1 else (bif decide (w=[43,61]) then z1 else (bif decide (w=[45,61]) then z1 else (bif decide (w=[42,61]) then z1 else (bif decide (w=[47,61]) then z1 else (bif decide (w=[37,61]) then z1 else (bif decide (w=[47,47,61]) then z1 else (bif
 decide (w=[111,114]) then (need bot ((z3≤6)∧((6:Int)≤9223372036854775807)) (ok 6)) else (bif decide (w=[97,110,100]) then (need bot ((z3≤7)∧((7:Int)≤9223372036854775807)) (ok 7)) else (bif decide (w=[61,61]) then z2 else (bif decide (w=[33,61]) then z2 else (bif decide (w=[60]) then z2 else (bif decide (w=[60,61]) then z2 else (bif decide (w=[62]) then z2 else (bif decide (w=[62,61]) then z2 else
 (bif decide (w=[43]) then z5 else (bif decide (w=[45]) then z5 else (bif decide (w=[42]) then z4 else (bif decide (w=[47]) then z4 else (bif decide (w=[37]) then z4 else (ok 0)))))))))))))))))))))))))
noncomputable def QC0 {β:Type} (bot:β) (ok:Int→β) (er:Int→β) (F:PsF) (w:List UInt8):β :=
 (bif decide (w=[124]) then (ok 2) else (bif decide (w=[44]) then (ok 1) else (bif decide (w=[47,47]) then (ok 2) else (bif decide (w=[61]) then (ok 0) else (bif decide (w=[124,61]) then (ok 0) else (bif decide (w=[43,61]) then (ok 0) else (bif decide (w=[45,61]) then (ok 0) else (bif decide (w=[42,61]) then (ok 0) else (bif decide (w=[47,61]) then (ok 0) else (bif decide (w=[37,61]) then (ok 0)
 else (bif decide (w=[47,47,61]) then (ok 0) else (bif decide (w=[111,114]) then (ok 1) else (bif decide (w=[97,110,100]) then (ok 1) else (bif decide (w=[61,61]) then (ok 0) else (bif decide (w=[33,61]) then (ok 0) else (bif decide (w=[60]) then (ok 0) else (bif decide (w=[60,61]) then (ok 0) else (bif decide (w=[62]) then (ok 0) else (bif decide (w=[62,61]) then (ok 0) else (bif decide (w=[43])
 then (ok 1) else (bif decide (w=[45]) then (ok 1) else (bif decide (w=[42]) then (ok 1) else (bif decide (w=[47]) then (ok 1) else (bif decide (w=[37]) then (ok 1) else (ok 0)))))))))))))))))))))))))
noncomputable def Qi0 {β:Type} (bot:β) (ok:List UInt8→β) (er:Int→β) (F:PsF) (kk:Int) (w:List UInt8):β :=
 bif !decide (kk=3) then
  (bif !decide (kk=13) then
   (ok [])
  else
   (PR.bnd bot (F.level w) (fun a2 =>
    bif decide (a2=0) then
     (ok [])
    else
     (ok w))
    (fun _=>bot)))
 else
  (PR.bnd bot (F.level w) (fun a1 =>
   bif decide (a1=0) then
    (ok [])
   else
    (ok w))
   (fun _=>bot))
noncomputable def jQ0 {β:Type} (bot:β) (ok:Int→β) (er:Int→β) (F:PsF) (kk:Int) (w:List UInt8):β :=
 (bif decide (kk=9) then (ok 1) else (bif decide (kk=10) then (ok (-1)) else (bif !decide (kk=13) then (ok 0) else (bif decide (w=[40]) then (ok 1) else (bif decide (w=[91]) then (ok 1) else (bif decide (w=[123]) then (ok 1) else (bif decide (w=[41]) then (ok (-1)) else (bif decide (w=[93]) then (ok (-1)) else (bif decide (w=[125]) then (ok (-1)) else (ok 0))))))))))
noncomputable def QL0 {β:Type} (bot:β) (ok:Bool→β) (er:Int→β) (F:PsF) (w:List UInt8):β :=
 (bif decide (w=[97,110,100]) then (ok true) else (bif decide (w=[97,115]) then (ok true) else (bif decide (w=[98,114,101,97,107]) then (ok true) else (bif decide (w=[99,97,116,99,104]) then (ok true) else (bif decide (w=[100,101,102]) then (ok true) else (bif decide (w=[101,108,105,102]) then (ok true) else (bif decide (w=[101,108,115,101]) then (ok true) else (bif decide (w=[101,110,100]) then
 (ok true) else (bif decide (w=[102,111,114,101,97,99,104]) then (ok true) else (bif decide (w=[105,102]) then (ok true) else (bif decide (w=[105,109,112,111,114,116]) then (ok true) else (bif decide (w=[105,110,99,108,117,100,101]) then (ok true) else (bif decide (w=[108,97,98,101,108]) then (ok true) else (bif decide (w=[109,111,100,117,108,101]) then (ok true) else (bif decide (w=[111,114]) then
 (ok true) else (bif decide (w=[114,101,100,117,99,101]) then (ok true) else (bif decide (w=[116,104,101,110]) then (ok true) else (bif decide (w=[116,114,121]) then (ok true) else (ok false)))))))))))))))))))
noncomputable def Qr0 {β:Type} (bot:β) (ok:Bool→β) (er:Int→β) (F:PsF) (w:List UInt8):β :=
 bif !decide (w=[]) then
  (PR.bnd bot (F.simple w) (fun a1 =>
   bif decide (a1=(↑(List.length w):Int)) then
    (PR.bnd bot (F.word w) (fun a3 =>
     bif a3 then
      (ok false)
     else
      (ok true))
     (fun _=>bot))
   else
    (ok false))
   (fun _=>bot))
 else
  (ok false)
noncomputable def QD0 {β:Type} (bot:β) (ok:Int→β) (er:Int→β) (F:PsF) (w:List UInt8):β :=
 bif decide (w=[]) then
  (ok 0)
 else
  (need bot (((0:Int)≤0)∧((0:Int)<((↑(List.length w):Int)))) (PR.bnd bot (F.letter (qO0 w 0)) (fun a2 =>
   bif a2 then
    (PR.bnd bot (F.runW w) (fun a4 =>
     ok a4)
     (fun _=>bot))
   else
    (ok 0))
   (fun _=>bot)))
noncomputable def QB0 {β:Type} (bot:β) (ok:Int→β) (er:Int→β) (F:PsF) (w:List UInt8):β :=
 PR.bnd bot (F.runL w 0) (fun a0 =>
  ok a0)
  (fun e0=>er e0)
noncomputable def Qn0 {β:Type} (bot:β) (ok:Bool→β) (er:Int→β) (F:PsF) (c:Int):β :=
 PR.bnd bot (F.letter c) (fun a0 =>
  bif a0 then
   (ok true)
  else
   (PR.bnd bot (F.digit c) (fun a2 =>
    bif a2 then
     (ok true)
    else
     (ok false))
    (fun _=>bot)))
  (fun _=>bot)
noncomputable def yN0 {β:Type} (bot:β) (ok:Int→β) (er:Int→β) (F:PsF) (w:List UInt8) (n:Int):β :=
 bif decide (n<(↑(List.length w):Int)) then
  (need bot (((0:Int)≤(n))∧((n)<((↑(List.length w):Int)))) (PR.bnd bot (F.part (qO0 w n)) (fun a2 =>
   bif a2 then
    (need bot (inI (n+1)) (PR.bnd bot (F.runL w (n+1)) (fun a5 =>
     ok a5)
     (fun e5=>er e5)))
   else
    (ok n))
   (fun _=>bot)))
 else
  (ok n)
noncomputable def jR0 {β:Type} (bot:β) (ok:Int×Bool→β) (er:Int→β) (F:PsF) (es:List V) :β :=
 PR.bnd bot (F.deepL es 0 0) (fun a0 =>
  ok (0,false))
  (fun e0=>ok (e0,true))
noncomputable def yM0 {β:Type} (bot:β) (ok:Unit→β) (er:Int→β) (F:PsF) (es:List V) (n i:Int):β :=
 (letI z1:=(Int.toNat i*4);letI z2:=(↑(List.length es):Int);bif decide (i<z2) then (need bot (((0:Int)≤(i))∧((i)<(z2))) (need bot (ldC PP 59 4 (es) z1) (PR.bnd bot (F.change (gI 4 es z1 0) (gS 4 es z1 1)) (fun a3=>need bot (inI (n+a3)) (bif decide (256<max (n+a3) 0) then (er i) else (need bot (inI (i+1)) (PR.bnd bot (F.deepL es (max (n+a3) 0) (i+1)) (fun a7=>ok ()) (fun e7=>er e7))))) (fun
 _=>bot)))) else (ok ()))
section
variable (X:PsX) (ih:Task→Res) {β:Type} (bot:β) (k:Res→β)
theorem e_tok (es:List V) (p:Int) :evN PP EP CP (tbP X) ih bot (.call 73 [.ptr 0 0 0] (hpP es p)) k=QH0 bot (fun v_=>k (rT (hpP es p) v_)) (fun e_=>k (qP (hpP es p) e_)) (FX X) es  p:=by kernel_rfl
theorem e_is (es:List V) (p:Int) (s:List UInt8):evN PP EP CP (tbP X) ih bot (.call 51 [.ptr 0 0 0,.str s] (hpP es p)) k=Qb0 bot (fun v_=>k (rB (hpP es p) v_)) (fun e_=>k (qP (hpP es p) e_)) (FX X) es s p:=by kernel_rfl
theorem e_has (es:List V) (p:Int) (s:List UInt8):evN PP EP CP (tbP X) ih bot (.call 53 [.ptr 0 0 0,.str s] (hpP es p)) k=jX0 bot (fun v_=>k (rB (hpP es p) v_)) (fun e_=>k (qP (hpP es p) e_)) (FX X) es s p:=by kernel_rfl
theorem e_need (es:List V) (p:Int) (s:List UInt8):evN PP EP CP (tbP X) ih bot (.call 75 [.ptr 0 0 0,.str s] (hpP es p)) k=Qg0 bot (fun v_=>k (rU (hpP es p) v_)) (fun e_=>k (qP (hpP es p) e_)) (FX X) es s p:=by kernel_rfl
theorem e_take (es:List V) (p:Int) (c:Int):evN PP EP CP (tbP X) ih bot (.call 50 [.ptr 0 0 0,.int .i64 c] (hpP es p)) k=QE0 bot (fun v_=>k (rS (hpP es p) v_)) (fun e_=>k (qP (hpP es p) e_)) (FX X) es c p:=by kernel_rfl
theorem e_name (es:List V) (p:Int) :evN PP EP CP (tbP X) ih bot (.call 80 [.ptr 0 0 0] (hpP es p)) k=Qf0 bot (fun v_=>k (rS (hpP es p) v_)) (fun e_=>k (qP (hpP es p) e_)) (FX X) es  p:=by kernel_rfl
theorem e_key (es:List V) (p:Int) :evN PP EP CP (tbP X) ih bot (.call 111 [.ptr 0 0 0] (hpP es p)) k=Qc0 bot (fun v_=>k (rK (hpP es p) v_)) (fun e_=>k (qP (hpP es p) e_)) (FX X) es  p:=by kernel_rfl
theorem XL1 (es:List V) (p:Int) :evN PP EP CP (tbP X) ih bot (.call 116 [.ptr 0 0 0] (hpP es p)) k=Qj0 bot (fun v_=>k (rN (hpP es p) v_)) (fun e_=>k (qP (hpP es p) e_)) (FX X) es  p:=by kernel_rfl
theorem e_post (es:List V) (p:Int) :evN PP EP CP (tbP X) ih bot (.call 113 [.ptr 0 0 0] (hpP es p)) k=Qs0 bot (fun v_=>k (rN (hpP es p) v_)) (fun e_=>k (qP (hpP es p) e_)) (FX X) es  p:=by kernel_rfl
theorem e_term (es:List V) (p:Int) :evN PP EP CP (tbP X) ih bot (.call 154 [.ptr 0 0 0] (hpP es p)) k=QF0 bot (fun v_=>k (rN (hpP es p) v_)) (fun e_=>k (qP (hpP es p) e_)) (FX X) es  p:=by kernel_rfl
theorem e_text (es:List V) (p:Int) :evN PP EP CP (tbP X) ih bot (.call 74 [.ptr 0 0 0] (hpP es p)) k=yO0 bot (fun v_=>k (rN (hpP es p) v_)) (fun e_=>k (qP (hpP es p) e_)) (FX X) es  p:=by kernel_rfl
theorem XU1 (es:List V) (p:Int) :evN PP EP CP (tbP X) ih bot (.call 26 [.ptr 0 0 0] (hpP es p)) k=Qv0 bot (fun v_=>k (rN (hpP es p) v_)) (fun e_=>k (qP (hpP es p) e_)) (FX X) es  p:=by kernel_rfl
theorem XP1 (es:List V) (p:Int) :evN PP EP CP (tbP X) ih bot (.call 79 [.ptr 0 0 0] (hpP es p)) k=Qp0 bot (fun v_=>k (rN (hpP es p) v_)) (fun e_=>k (qP (hpP es p) e_)) (FX X) es  p:=by kernel_rfl
theorem XD1 (es:List V) (p:Int) :evN PP EP CP (tbP X) ih bot (.call 52 [.ptr 0 0 0] (hpP es p)) k=jO0 bot (fun v_=>k (rN (hpP es p) v_)) (fun e_=>k (qP (hpP es p) e_)) (FX X) es  p:=by kernel_rfl
theorem e_root (es:List V) (p:Int) :evN PP EP CP (tbP X) ih bot (.call 42 [.ptr 0 0 0] (hpP es p)) k=QA0 bot (fun v_=>k (rN (hpP es p) v_)) (fun e_=>k (qP (hpP es p) e_)) (FX X) es  p:=by kernel_rfl
theorem XC1 (es:List V) (p:Int) :evN PP EP CP (tbP X) ih bot (.call 43 [.ptr 0 0 0] (hpP es p)) k=jN0 bot (fun v_=>k (rN (hpP es p) v_)) (fun e_=>k (qP (hpP es p) e_)) (FX X) es  p:=by kernel_rfl
theorem XN1 (es:List V) (p:Int) :evN PP EP CP (tbP X) ih bot (.call 44 [.ptr 0 0 0] (hpP es p)) k=Qm0 bot (fun v_=>k (rN (hpP es p) v_)) (fun e_=>k (qP (hpP es p) e_)) (FX X) es  p:=by kernel_rfl
theorem XK1 (es:List V) (p:Int) :evN PP EP CP (tbP X) ih bot (.call 45 [.ptr 0 0 0] (hpP es p)) k=Qh0 bot (fun v_=>k (rN (hpP es p) v_)) (fun e_=>k (qP (hpP es p) e_)) (FX X) es  p:=by kernel_rfl
theorem e_ifs (es:List V) (p:Int) :evN PP EP CP (tbP X) ih bot (.call 46 [.ptr 0 0 0] (hpP es p)) k=jY0 bot (fun v_=>k (rN (hpP es p) v_)) (fun e_=>k (qP (hpP es p) e_)) (FX X) es  p:=by kernel_rfl
theorem XV1 (es:List V) (p:Int) :evN PP EP CP (tbP X) ih bot (.call 47 [.ptr 0 0 0] (hpP es p)) k=Qw0 bot (fun v_=>k (rN (hpP es p) v_)) (fun e_=>k (qP (hpP es p) e_)) (FX X) es  p:=by kernel_rfl
theorem e_each (es:List V) (p:Int) :evN PP EP CP (tbP X) ih bot (.call 48 [.ptr 0 0 0] (hpP es p)) k=jU0 bot (fun v_=>k (rN (hpP es p) v_)) (fun e_=>k (qP (hpP es p) e_)) (FX X) es  p:=by kernel_rfl
theorem e_call (es:List V) (p:Int) :evN PP EP CP (tbP X) ih bot (.call 181 [.ptr 0 0 0] (hpP es p)) k=jP0 bot (fun v_=>k (rN (hpP es p) v_)) (fun e_=>k (qP (hpP es p) e_)) (FX X) es  p:=by kernel_rfl
theorem e_pair (es:List V) (p:Int) :evN PP EP CP (tbP X) ih bot (.call 77 [.ptr 0 0 0] (hpP es p)) k=Qk0 bot (fun v_=>k (rN (hpP es p) v_)) (fun e_=>k (qP (hpP es p) e_)) (FX X) es  p:=by kernel_rfl
theorem Kl1 (es:List V) (p:Int) :evN PP EP CP (tbP X) ih bot (.call 112 [.ptr 0 0 0] (hpP es p)) k=QJ0 bot (fun v_=>k (rN (hpP es p) v_)) (fun e_=>k (qP (hpP es p) e_)) (FX X) es  p:=by kernel_rfl
theorem e_unit (es:List V) (p:Int) :evN PP EP CP (tbP X) ih bot (.call 153 [.ptr 0 0 0] (hpP es p)) k=QI0 bot (fun v_=>k (rN (hpP es p) v_)) (fun e_=>k (qP (hpP es p) e_)) (FX X) es  p:=by kernel_rfl
theorem XI1 (es:List V) (p:Int) :evN PP EP CP (tbP X) ih bot (.call 156 [.ptr 0 0 0] (hpP es p)) k=Qd0 bot (fun v_=>k (rN (hpP es p) v_)) (fun e_=>k (qP (hpP es p) e_)) (FX X) es  p:=by kernel_rfl
theorem XO1 (es:List V) (p:Int) :evN PP EP CP (tbP X) ih bot (.call 114 [.ptr 0 0 0] (hpP es p)) k=Qo0 bot (fun v_=>k (rN (hpP es p) v_)) (fun e_=>k (qP (hpP es p) e_)) (FX X) es  p:=by kernel_rfl
theorem XM1 (es:List V) (p:Int) :evN PP EP CP (tbP X) ih bot (.call 81 [.ptr 0 0 0] (hpP es p)) k=Ql0 bot (fun v_=>k (rN (hpP es p) v_)) (fun e_=>k (qP (hpP es p) e_)) (FX X) es  p:=by kernel_rfl
theorem e_pipe (es:List V) (p:Int) :evN PP EP CP (tbP X) ih bot (.call 55 [.ptr 0 0 0] (hpP es p)) k=ZZ0 bot (fun v_=>k (rN (hpP es p) v_)) (fun e_=>k (qP (hpP es p) e_)) (FX X) es  p:=by kernel_rfl
theorem e_exp (es:List V) (p:Int) (l:Int):evN PP EP CP (tbP X) ih bot (.call 83 [.ptr 0 0 0,.int .i64 l] (hpP es p)) k=jV0 bot (fun v_=>k (rN (hpP es p) v_)) (fun e_=>k (qP (hpP es p) e_)) (FX X) es l p:=by kernel_rfl
theorem e_defT (es:List V) (p:Int) :evN PP EP CP (tbP X) ih bot (.call 54 [.ptr 0 0 0,.bool true] (hpP es p)) k=jT0 bot (fun v_=>k (rN (hpP es p) v_)) (fun e_=>k (qP (hpP es p) e_)) (FX X) es  p:=by kernel_rfl
theorem e_defF (es:List V) (p:Int) :evN PP EP CP (tbP X) ih bot (.call 54 [.ptr 0 0 0,.bool false] (hpP es p)) k=jS0 bot (fun v_=>k (rN (hpP es p) v_)) (fun e_=>k (qP (hpP es p) e_)) (FX X) es  p:=by kernel_rfl
theorem XX1 (es:List V) (p:Int) :evN PP EP CP (tbP X) ih bot (.call 82 [.ptr 0 0 0,.bool true] (hpP es p)) k=Qy0 bot (fun v_=>k (rN (hpP es p) v_)) (fun e_=>k (qP (hpP es p) e_)) (FX X) es  p:=by kernel_rfl
theorem XW1 (es:List V) (p:Int) :evN PP EP CP (tbP X) ih bot (.call 82 [.ptr 0 0 0,.bool false] (hpP es p)) k=Qx0 bot (fun v_=>k (rN (hpP es p) v_)) (fun e_=>k (qP (hpP es p) e_)) (FX X) es  p:=by kernel_rfl
theorem Km1 (es:List V) (p:Int) (n:Nd) (d:List UInt8):evN PP EP CP (tbP X) ih bot (.call 155 [.ptr 0 0 0,qa0 n,.str d] (hpP es p)) k=QK0 bot (fun v_=>k (rN (hpP es p) v_)) (fun e_=>k (qP (hpP es p) e_)) (FX X) es n d p:=by kernel_rfl
theorem Kd1 (es:List V) (p:Int) (a b:List UInt8):evN PP EP CP (tbP X) ih bot (.call 76 [.ptr 0 0 0,.str a,.str b,.func (.func 81) [.ptr 0 0 0] []] (hpP es p)) k=qS0 bot (fun v_=>k (rRx (hpP es p) v_)) (fun e_=>k (qP (hpP es p) e_)) (FX X) es 81 a b p:=by kernel_rfl
theorem Ki1 (es:List V) (p:Int) (a b:List UInt8) (ver len:Nat) (acc:List V):evN PP EP CP (tbP X) ih bot (.code (.loop (lpB PP 76 0)) ((base 76 25).on [(0,.ptr 0 0 0),(1,.str a),(2,.str b),(3,.func (.func 81) [.ptr 0 0 0] []),(9,sN 3 ver len)]) (hpR es p [lN ver acc])) k=qA0 bot (fun v_=>k (qY0 [0,1,2,3] 9 3 ((base 76 25).on [(0,.ptr 0 0 0),(1,.str a),(2,.str b),(3,.func (.func 81) [.ptr 0 0 0] []),(9,sN 3 ver len)]) (hpR es p [lN ver acc]) v_)) (fun e_=>k (qX0 3 ((base 76 25).on [(0,.ptr 0 0 0),(1,.str a),(2,.str b),(3,.func (.func 81) [.ptr 0 0 0] []),(9,sN 3 ver len)]) (hpR es p [lN ver acc]) e_)) (FX X) es 81 a b ver len acc p:=by kernel_rfl
theorem Kc1 (es:List V) (p:Int) (a b:List UInt8):evN PP EP CP (tbP X) ih bot (.call 76 [.ptr 0 0 0,.str a,.str b,.func (.func 77) [.ptr 0 0 0] []] (hpP es p)) k=qS0 bot (fun v_=>k (rRx (hpP es p) v_)) (fun e_=>k (qP (hpP es p) e_)) (FX X) es 77 a b p:=by kernel_rfl
theorem Kh1 (es:List V) (p:Int) (a b:List UInt8) (ver len:Nat) (acc:List V):evN PP EP CP (tbP X) ih bot (.code (.loop (lpB PP 76 0)) ((base 76 25).on [(0,.ptr 0 0 0),(1,.str a),(2,.str b),(3,.func (.func 77) [.ptr 0 0 0] []),(9,sN 3 ver len)]) (hpR es p [lN ver acc])) k=qA0 bot (fun v_=>k (qY0 [0,1,2,3] 9 3 ((base 76 25).on [(0,.ptr 0 0 0),(1,.str a),(2,.str b),(3,.func (.func 77) [.ptr 0 0 0] []),(9,sN 3 ver len)]) (hpR es p [lN ver acc]) v_)) (fun e_=>k (qX0 3 ((base 76 25).on [(0,.ptr 0 0 0),(1,.str a),(2,.str b),(3,.func (.func 77) [.ptr 0 0 0] []),(9,sN 3 ver len)]) (hpR es p [lN ver acc]) e_)) (FX X) es 77 a b ver len acc p:=by kernel_rfl
theorem Kb1 (es:List V) (p:Int) (a b:List UInt8):evN PP EP CP (tbP X) ih bot (.call 76 [.ptr 0 0 0,.str a,.str b,.func (.func 55) [.ptr 0 0 0] []] (hpP es p)) k=qS0 bot (fun v_=>k (rRx (hpP es p) v_)) (fun e_=>k (qP (hpP es p) e_)) (FX X) es 55 a b p:=by kernel_rfl
theorem Kg1 (es:List V) (p:Int) (a b:List UInt8) (ver len:Nat) (acc:List V):evN PP EP CP (tbP X) ih bot (.code (.loop (lpB PP 76 0)) ((base 76 25).on [(0,.ptr 0 0 0),(1,.str a),(2,.str b),(3,.func (.func 55) [.ptr 0 0 0] []),(9,sN 3 ver len)]) (hpR es p [lN ver acc])) k=qA0 bot (fun v_=>k (qY0 [0,1,2,3] 9 3 ((base 76 25).on [(0,.ptr 0 0 0),(1,.str a),(2,.str b),(3,.func (.func 55) [.ptr 0 0 0] []),(9,sN 3 ver len)]) (hpR es p [lN ver acc]) v_)) (fun e_=>k (qX0 3 ((base 76 25).on [(0,.ptr 0 0 0),(1,.str a),(2,.str b),(3,.func (.func 55) [.ptr 0 0 0] []),(9,sN 3 ver len)]) (hpR es p [lN ver acc]) e_)) (FX X) es 55 a b ver len acc p:=by kernel_rfl
theorem Ka1 (es:List V) (p:Int) (a b:List UInt8):evN PP EP CP (tbP X) ih bot (.call 76 [.ptr 0 0 0,.str a,.str b,.func (.func 156) [.ptr 0 0 0] []] (hpP es p)) k=qS0 bot (fun v_=>k (rRx (hpP es p) v_)) (fun e_=>k (qP (hpP es p) e_)) (FX X) es 156 a b p:=by kernel_rfl
theorem Kf1 (es:List V) (p:Int) (a b:List UInt8) (ver len:Nat) (acc:List V):evN PP EP CP (tbP X) ih bot (.code (.loop (lpB PP 76 0)) ((base 76 25).on [(0,.ptr 0 0 0),(1,.str a),(2,.str b),(3,.func (.func 156) [.ptr 0 0 0] []),(9,sN 3 ver len)]) (hpR es p [lN ver acc])) k=qA0 bot (fun v_=>k (qY0 [0,1,2,3] 9 3 ((base 76 25).on [(0,.ptr 0 0 0),(1,.str a),(2,.str b),(3,.func (.func 156) [.ptr 0 0 0] []),(9,sN 3 ver len)]) (hpR es p [lN ver acc]) v_)) (fun e_=>k (qX0 3 ((base 76 25).on [(0,.ptr 0 0 0),(1,.str a),(2,.str b),(3,.func (.func 156) [.ptr 0 0 0] []),(9,sN 3 ver len)]) (hpR es p [lN ver acc]) e_)) (FX X) es 156 a b ver len acc p:=by kernel_rfl
theorem XZ1 (es:List V) (p:Int) (a b:List UInt8):evN PP EP CP (tbP X) ih bot (.call 76 [.ptr 0 0 0,.str a,.str b,.func (.func 114) [.ptr 0 0 0] []] (hpP es p)) k=qS0 bot (fun v_=>k (rRx (hpP es p) v_)) (fun e_=>k (qP (hpP es p) e_)) (FX X) es 114 a b p:=by kernel_rfl
theorem Ke1 (es:List V) (p:Int) (a b:List UInt8) (ver len:Nat) (acc:List V):evN PP EP CP (tbP X) ih bot (.code (.loop (lpB PP 76 0)) ((base 76 25).on [(0,.ptr 0 0 0),(1,.str a),(2,.str b),(3,.func (.func 114) [.ptr 0 0 0] []),(9,sN 3 ver len)]) (hpR es p [lN ver acc])) k=qA0 bot (fun v_=>k (qY0 [0,1,2,3] 9 3 ((base 76 25).on [(0,.ptr 0 0 0),(1,.str a),(2,.str b),(3,.func (.func 114) [.ptr 0 0 0] []),(9,sN 3 ver len)]) (hpR es p [lN ver acc]) v_)) (fun e_=>k (qX0 3 ((base 76 25).on [(0,.ptr 0 0 0),(1,.str a),(2,.str b),(3,.func (.func 114) [.ptr 0 0 0] []),(9,sN 3 ver len)]) (hpR es p [lN ver acc]) e_)) (FX X) es 114 a b ver len acc p:=by kernel_rfl
theorem e_expL (es:List V) (p:Int) (l c:Int) (n:Nd):evN PP EP CP (tbP X) ih bot (.code (.loop (lpB PP 83 0)) ((base 83 50).on [(0,.ptr 0 0 0),(1,.int .i64 l),(4,.ptr 3 0 0),(5,.ptr 4 0 0),(6,.int .i64 c)]) (hpR es p [vN 0 [] .nils,vN n.k n.t (.osl 3 n.ks)])) k=jW0 bot (fun v_=>k (yF0 [0,1,4] ((base 83 50).on [(0,.ptr 0 0 0),(1,.int .i64 l),(4,.ptr 3 0 0),(5,.ptr 4 0 0),(6,.int .i64 c)]) (hpR es p [vN 0 [] .nils,vN n.k n.t (.osl 3 n.ks)]) v_)) (fun e_=>k (yE0 ((base 83 50).on [(0,.ptr 0 0 0),(1,.int .i64 l),(4,.ptr 3 0 0),(5,.ptr 4 0 0),(6,.int .i64 c)]) (hpR es p [vN 0 [] .nils,vN n.k n.t (.osl 3 n.ks)]) e_)) (FX X) es l c n p:=by kernel_rfl
theorem XS1 (es:List V) (p:Int) (n:Nd):evN PP EP CP (tbP X) ih bot (.code (.loop (lpB PP 113 0)) ((base 113 45).on [(0,.ptr 0 0 0),(2,.ptr 3 0 0),(3,.ptr 4 0 0)]) (hpR es p [vN 0 [] .nils,vN n.k n.t (.osl 3 n.ks)])) k=Qt0 bot (fun v_=>k (yF0 [0,2] ((base 113 45).on [(0,.ptr 0 0 0),(2,.ptr 3 0 0),(3,.ptr 4 0 0)]) (hpR es p [vN 0 [] .nils,vN n.k n.t (.osl 3 n.ks)]) v_)) (fun e_=>k (yE0 ((base 113 45).on [(0,.ptr 0 0 0),(2,.ptr 3 0 0),(3,.ptr 4 0 0)]) (hpR es p [vN 0 [] .nils,vN n.k n.t (.osl 3 n.ks)]) e_)) (FX X) es n p:=by kernel_rfl
theorem Kk1 (es:List V) (p:Int) (t:List UInt8) (ver len:Nat) (acc:List V):evN PP EP CP (tbP X) ih bot (.code (.loop (lpB PP 74 0)) ((base 74 44).on [(0,.ptr 0 0 0),(2,.ptr 3 0 0),(3,.ptr 4 0 0)]) (hpR es p [vN 0 [] .nils,vN 6 t (sN 5 ver len),lN ver acc])) k=QG0 bot (fun v_=>k (zX0 [0,2,3] ((base 74 44).on [(0,.ptr 0 0 0),(2,.ptr 3 0 0),(3,.ptr 4 0 0)]) (hpR es p [vN 0 [] .nils,vN 6 t (sN 5 ver len),lN ver acc]) v_)) (fun e_=>k (zW0 ((base 74 44).on [(0,.ptr 0 0 0),(2,.ptr 3 0 0),(3,.ptr 4 0 0)]) (hpR es p [vN 0 [] .nils,vN 6 t (sN 5 ver len),lN ver acc]) e_)) (FX X) es t ver len acc p:=by kernel_rfl
theorem XQ1 (es:List V) (p:Int) (ver len:Nat) (acc:List V):evN PP EP CP (tbP X) ih bot (.code (.loop (lpB PP 79 0)) ((base 79 22).on [(0,.ptr 0 0 0),(2,.ptr 3 0 0),(3,.ptr 4 0 0)]) (hpR es p [vN 0 [] .nils,vN 6 [] (sN 5 ver len),lN ver acc])) k=Qq0 bot (fun v_=>k (zX0 [0,2,3] ((base 79 22).on [(0,.ptr 0 0 0),(2,.ptr 3 0 0),(3,.ptr 4 0 0)]) (hpR es p [vN 0 [] .nils,vN 6 [] (sN 5 ver len),lN ver acc]) v_)) (fun e_=>k (zW0 ((base 79 22).on [(0,.ptr 0 0 0),(2,.ptr 3 0 0),(3,.ptr 4 0 0)]) (hpR es p [vN 0 [] .nils,vN 6 [] (sN 5 ver len),lN ver acc]) e_)) (FX X) es ver len acc p:=by kernel_rfl
theorem XH1 (es:List V) (p:Int) (ver len:Nat) (acc:List V):evN PP EP CP (tbP X) ih bot (.code (.loop (lpB PP 46 0)) ((base 46 38).on [(0,.ptr 0 0 0),(2,.ptr 3 0 0),(3,.ptr 4 0 0),(4,.bool true)]) (hpR es p [vN 0 [] .nils,vN 14 [] (sN 5 ver len),lN ver acc])) k=Qa0 bot (fun v_=>k (zX0 [0,2,3] ((base 46 38).on [(0,.ptr 0 0 0),(2,.ptr 3 0 0),(3,.ptr 4 0 0),(4,.bool true)]) (hpR es p [vN 0 [] .nils,vN 14 [] (sN 5 ver len),lN ver acc]) v_)) (fun e_=>k (zW0 ((base 46 38).on [(0,.ptr 0 0 0),(2,.ptr 3 0 0),(3,.ptr 4 0 0),(4,.bool true)]) (hpR es p [vN 0 [] .nils,vN 14 [] (sN 5 ver len),lN ver acc]) e_)) (FX X) es ver len acc p:=by kernel_rfl
theorem XG1 (es:List V) (p:Int) (ver len:Nat) (acc:List V):evN PP EP CP (tbP X) ih bot (.code (.loop (lpB PP 46 0)) ((base 46 38).on [(0,.ptr 0 0 0),(2,.ptr 3 0 0),(3,.ptr 4 0 0),(4,.bool false)]) (hpR es p [vN 0 [] .nils,vN 14 [] (sN 5 ver len),lN ver acc])) k=jZ0 bot (fun v_=>k (zX0 [0,2,3] ((base 46 38).on [(0,.ptr 0 0 0),(2,.ptr 3 0 0),(3,.ptr 4 0 0),(4,.bool false)]) (hpR es p [vN 0 [] .nils,vN 14 [] (sN 5 ver len),lN ver acc]) v_)) (fun e_=>k (zW0 ((base 46 38).on [(0,.ptr 0 0 0),(2,.ptr 3 0 0),(3,.ptr 4 0 0),(4,.bool false)]) (hpR es p [vN 0 [] .nils,vN 14 [] (sN 5 ver len),lN ver acc]) e_)) (FX X) es ver len acc p:=by kernel_rfl
theorem XT1 (es:List V) (p:Int) (ver len:Nat) (acc:List V):evN PP EP CP (tbP X) ih bot (.code (.loop (lpB PP 26 0)) ((base 26 60).on [(0,.ptr 0 0 0),(2,.ptr 3 0 0),(3,sN 4 ver len)]) (hpR es p [vN 0 [] .nils,lN ver acc])) k=Qu0 bot (fun v_=>k (qY0 [0,2] 3 4 ((base 26 60).on [(0,.ptr 0 0 0),(2,.ptr 3 0 0),(3,sN 4 ver len)]) (hpR es p [vN 0 [] .nils,lN ver acc]) v_)) (fun e_=>k (qX0 4 ((base 26 60).on [(0,.ptr 0 0 0),(2,.ptr 3 0 0),(3,sN 4 ver len)]) (hpR es p [vN 0 [] .nils,lN ver acc]) e_)) (FX X) es ver len acc p:=by kernel_rfl
theorem XJ1 (es:List V) (p:Int) (w:List UInt8):evN PP EP CP (tbP X) ih bot (.call 118 [.str w] Heap.empty) k=Qe0 bot (fun v_=>k (rI v_)) (fun e_=>k (qN e_)) (FX X) w:=by kernel_rfl
theorem XY1 (es:List V) (p:Int) (w:List UInt8):evN PP EP CP (tbP X) ih bot (.call 119 [.str w] Heap.empty) k=Qz0 bot (fun v_=>k (rI v_)) (fun e_=>k (qN e_)) (FX X) w:=by kernel_rfl
theorem e_side (es:List V) (p:Int) (w:List UInt8):evN PP EP CP (tbP X) ih bot (.call 120 [.str w] Heap.empty) k=QC0 bot (fun v_=>k (rI v_)) (fun e_=>k (qN e_)) (FX X) w:=by kernel_rfl
theorem e_of (es:List V) (p:Int) (kk:Int) (w:List UInt8):evN PP EP CP (tbP X) ih bot (.call 117 [.agg [.int .i64 kk,.str w]] Heap.empty) k=Qi0 bot (fun v_=>k (rW v_)) (fun e_=>k (qN e_)) (FX X) kk w:=by kernel_rfl
theorem XE1 (es:List V) (p:Int) (kk:Int) (w:List UInt8):evN PP EP CP (tbP X) ih bot (.call 40 [.agg [.int .i64 kk,.str w]] Heap.empty) k=jQ0 bot (fun v_=>k (rI v_)) (fun e_=>k (qN e_)) (FX X) kk w:=by kernel_rfl
theorem e_word (es:List V) (p:Int) (w:List UInt8):evN PP EP CP (tbP X) ih bot (.call 158 [.str w] Heap.empty) k=QL0 bot (fun v_=>k (rO v_)) (fun e_=>k (qN e_)) (FX X) w:=by kernel_rfl
theorem XR1 (es:List V) (p:Int) (w:List UInt8):evN PP EP CP (tbP X) ih bot (.call 115 [.str w] Heap.empty) k=Qr0 bot (fun v_=>k (rO v_)) (fun e_=>k (qN e_)) (FX X) w:=by kernel_rfl
theorem Kj1 (es:List V) (p:Int) (w:List UInt8):evN PP EP CP (tbP X) ih bot (.call 157 [.str w] Heap.empty) k=QD0 bot (fun v_=>k (rI v_)) (fun e_=>k (qN e_)) (FX X) w:=by kernel_rfl
theorem e_runW (es:List V) (p:Int) (w:List UInt8):evN PP EP CP (tbP X) ih bot (.call 174 [.func (.func 182) [] [],.str w] Heap.empty) k=QB0 bot (fun v_=>k (rI v_)) (fun e_=>k (qN e_)) (FX X) w:=by kernel_rfl
theorem e_part (es:List V) (p:Int) (c:Int):evN PP EP CP (tbP X) ih bot (.call 182 [.int .u8 c] Heap.empty) k=Qn0 bot (fun v_=>k (rO v_)) (fun e_=>k (qN e_)) (FX X) c:=by kernel_rfl
theorem e_runL (es:List V) (p:Int) (w:List UInt8) (n:Int):evN PP EP CP (tbP X) ih bot (.code (.loop (lpB PP 174 0)) ((base 174 20).on [(0,.func (.func 182) [] []),(1,.str w),(5,.int .i64 n)]) (Heap.empty)) k=yN0 bot (fun v_=>k (rRun ((base 174 20).on [(0,.func (.func 182) [] []),(1,.str w),(5,.int .i64 n)]) (Heap.empty) v_)) (fun e_=>k (qN e_)) (FX X) w n:=by kernel_rfl
theorem e_deep (es:List V) (p:Int) :evN PP EP CP (tbP X) ih bot (.call 23 [.osl 4 es] Heap.empty) k=jR0 bot (fun v_=>k (rD v_)) (fun e_=>k (qN e_)) (FX X) es :=by kernel_rfl
theorem XF1 (es:List V) (p:Int) (n i:Int):evN PP EP CP (tbP X) ih bot (.code (.loop (lpB PP 23 0)) ((base 23 24).on [(4,.int .i64 n),(7,.osl 4 es),(8,.int .i64 es.length),(9,.int .i64 i)]) (Heap.empty)) k=yM0 bot (fun v_=>k (rDL ((base 23 24).on [(4,.int .i64 n),(7,.osl 4 es),(8,.int .i64 es.length),(9,.int .i64 i)]) (Heap.empty) v_)) (fun e_=>k (qDL ((base 23 24).on [(4,.int .i64 n),(7,.osl 4 es),(8,.int .i64 es.length),(9,.int .i64 i)]) (Heap.empty) e_)) (FX X) es n i:=by kernel_rfl
end
/-- THE PARSER, PLAIN: what it asks of its tokens, function by function. -/
inductive NT where
 | exp (l:Int)
 | expL (l c:Int) (n:Nd)
 | operand | post | term | text | program | plain | bring | root | array | paren | object | ifs | reduce | each | callw | key | pair | value | unit | keyPat | pattern | param
 | postL (n:Nd)
 | dfn (b:Bool)
 | rest (b:Bool)
 | within (n:Nd) (d:List UInt8)
 | rows (one:NT) (a b:List UInt8)
 | rowsL (one:NT) (a b:List UInt8) (acc:List V)
 | textL (acc:List V)
 | textF (w:List UInt8)
 | plainL (acc:List V)
 | ifsL (acc:List V)
 | progL (acc:List V)
inductive Pg where
 | ret (n:Nd)
 | err
 | stop
 | look (f:Option (Int×List UInt8)→Pg)
 | adv (k:Pg)
 | call (x:NT) (f:Nd→Pg)
namespace Pg
abbrev pipe:NT:=.exp 1
def is (s:List UInt8) (f:Bool→Pg):Pg:=look fun t=>f (match t with
 | some (k,w)=>(decide (k=13)||decide (k=3))&&decide (w=s)
 | none=>false)
def has (s:List UInt8) (a b:Pg):Pg:=is s fun x=>bif x then adv a else b
def need (s:List UInt8) (k:Pg):Pg:=is s fun x=>bif x then adv k else err
def take (c:Int) (f:List UInt8→Pg):Pg:=look fun t=>match t with
 | some (k,w)=>bif decide (k=c) then adv (f w) else err
 | none=>err
def tail (w:List UInt8) (f:List UInt8→Pg):Pg:=match w with
 | []=>stop
 | _::w=>f w
def atEnd (a b:Pg):Pg:=look fun t=>match t with
 | some _=>b
 | none=>a
def call1 (x:NT):Pg:=call x ret
end Pg
def Ys0:List (List UInt8×Int×Int):=[([124],1,2),([44],2,1),([47,47],3,2),([61],4,0),([124,61],4,0),([43,61],4,0),([45,61],4,0),([42,61],4,0),([47,61],4,0),([37,61],4,0),([47,47,61],4,0),([111,114],5,1),([97,110,100],6,1),([61,61],7,0),([33,61],7,0),([60],7,0),([60,61],7,0),([62],7,0),([62,61],7,0),([43],8,1),([45],8,1),([42],9,1),([47],9,1),([37],9,1)]
def zx1:List (List UInt8):=[[97,110,100],[97,115],[98,114,101,97,107],[99,97,116,99,104],[100,101,102],[101,108,105,102],[101,108,115,101],[101,110,100],[102,111,114,101,97,99,104],[105,102],[105,109,112,111,114,116],[105,110,99,108,117,100,101],[108,97,98,101,108],[109,111,100,117,108,101],[111,114],[114,101,100,117,99,101],[116,104,101,110],[116,114,121]]
def ZQ0 (w:List UInt8):List (List UInt8×Int×Int)→Option (Int×Int)
 | []=>none
 | r::l=>bif decide (w=r.1) then some r.2 else ZQ0 w l
def zV1 (w:List UInt8):Option (Int×Int):=ZQ0 w Ys0
def lvl (w:List UInt8):Int:=match zV1 w with
 | some r=>r.1
 | none=>0
def GN0 (w:List UInt8):Int:=match zV1 w with
 | some r=>r.2
 | none=>0
def yi1 (w:List UInt8):Int:=match zV1 w with
 | some r=>bif decide (r.2=2) then r.1 else r.1+1
 | none=>0
def Go0 (w:List UInt8):List (List UInt8)→Bool
 | []=>false
 | r::l=>bif decide (w=r) then true else Go0 w l
def Jg0 (w:List UInt8):Bool:=Go0 w zx1
def zt0 (c:UInt8):Bool:=c == 95||(97≤(c ||| 32)&&(c ||| 32)≤122)
def yC0 (c:UInt8):Bool:=zt0 c||(48≤c&&c≤57)
def Jh0 (w:List UInt8):Bool:=(match w with
 | []=>false
 | c::_=>zt0 c)&&w.all yC0&&!Jg0 w
def jy0 (t:Option (Int×List UInt8)):List UInt8:=match t with
 | some (k,w)=>bif decide (k=13)||decide (k=3) then (bif decide (lvl w=0) then [] else w) else []
 | none=>[]
def sub (c:Int) (t:Option (Int×List UInt8)):Bool:=match t with
 | some (k,_)=>decide (k=c)
 | none=>false
namespace Pg
def name (f:List UInt8→Pg):Pg:=look fun t=>match t with
 | some (k,w)=>bif decide (k=3)&&Jh0 w then adv (f w) else err
 | none=>err
def textQ (w:List UInt8):Pg:=take 7 fun _=>call (.textL []) fun a=>take 11 fun _=>ret ⟨6,w,a.ks⟩
def one1 (k:Int) (w:List UInt8):Pg:=tail w fun w=>ret ⟨k,w,[]⟩
def byWord (w:List UInt8) (no:Pg):Pg :=
 bif decide (w=[46,46]) then adv (ret ⟨2,[],[]⟩)
 else bif decide (w=[46]) then adv (call1 .root)
 else bif decide (w=[91]) then adv (call1 .array)
 else bif decide (w=[40]) then adv (call1 .paren)
 else bif decide (w=[123]) then adv (call1 .object)
 else bif decide (w=[105,102]) then adv (call1 .ifs)
 else bif decide (w=[114,101,100,117,99,101]) then adv (call1 .reduce)
 else bif decide (w=[102,111,114,101,97,99,104]) then adv (call1 .each)
 else bif decide (w=[98,114,101,97,107]) then adv (take 5 fun w=>one1 28 w)
 else no
def term:Pg:=look fun t=>match t with
 | some (k,w) =>
  bif decide (k=4) then adv (one1 3 w)
  else bif decide (k=5) then adv (one1 4 w)
  else bif decide (k=6) then adv (ret ⟨5,w,[]⟩)
  else bif decide (k=7) then call1 .text
  else bif decide (k=12) then adv (look fun t=>bif sub 7 t then call1 (.textF w) else ret ⟨8,w,[]⟩)
  else bif decide (k=3) then byWord w (bif Jg0 w then err else call1 .callw)
  else bif decide (k=13) then byWord w err
  else err
 | none=>err
def source (f:List V→Pg):Pg:=call .post fun n=>need [97,115] (call .pattern fun q=>need [40] (call pipe fun a=>need [59] (call pipe fun b=>f [qa0 n,qa0 q,qa0 a,qa0 b])))
def finish (l:List V) (n:Nd):Pg:=atEnd (match l with
 | []=>ret n
 | _=>ret ⟨34,[],l++[qa0 n]⟩) err
def body:NT→Pg
 | .exp l=>call .operand fun n=>call1 (.expL l 0 n)
 | .expL l c n=>look fun t=>bif decide (lvl (jy0 t)=0) then ret n else bif decide (lvl (jy0 t)<l) then ret n else bif decide (lvl (jy0 t)=c) then err else
  adv (call (.exp (yi1 (jy0 t))) fun m=>call1 (.expL l (bif decide (GN0 (jy0 t)=0) then lvl (jy0 t) else 0) ⟨24,jy0 t,[qa0 n,qa0 m]⟩))
 | .operand=>has [45] (call (.exp 9) fun n=>ret ⟨25,[],[qa0 n]⟩)
  (has [100,101,102] (call1 (.dfn false))
  (has [108,97,98,101,108] (take 5 fun s=>tail s fun s=>need [124] (call pipe fun n=>ret ⟨27,s,[qa0 n]⟩))
  (has [116,114,121] (call .post fun n=>has [99,97,116,99,104] (call .post fun m=>ret ⟨15,[],[qa0 n,qa0 m]⟩) (ret ⟨15,[],[qa0 n]⟩))
  (call .post fun n=>has [97,115] (call .pattern fun q=>need [124] (call pipe fun m=>ret ⟨26,[],[qa0 n,qa0 q,qa0 m]⟩)) (ret n)))))
 | .param=>look fun t=>bif sub 5 t then take 5 (fun w=>ret ⟨30,w,[]⟩) else name fun w=>ret ⟨30,w,[]⟩
 | .dfn b=>name fun w =>
  has [40] (call (.rows .param [59] [41]) fun a=>need [58] (call pipe fun x=>need [59] (call (.rest b) fun y=>ret ⟨29,w,a.ks++[qa0 x]++[qa0 y]⟩)))
  (need [58] (call pipe fun x=>need [59] (call (.rest b) fun y=>ret ⟨29,w,[qa0 x]++[qa0 y]⟩)))
 | .rest b=>bif b then atEnd (ret ⟨0,[],[]⟩) (has [100,101,102] (call1 (.dfn true)) (call1 pipe)) else call1 pipe
 | .within n d=>need [91] (has [93] (ret ⟨20,d,[qa0 n]⟩)
  (is [58] fun c=>bif c then need [58] (call pipe fun z=>need [93] (ret ⟨19,d,[qa0 n,nV0 0 [],qa0 z]⟩))
  else call pipe fun y=>has [93] (ret ⟨18,d,[qa0 n,qa0 y]⟩) (need [58] (bif decide (y.k=0) then call pipe fun z=>need [93] (ret ⟨19,d,[qa0 n,qa0 y,qa0 z]⟩)
   else is [93] fun e=>bif e then need [93] (ret ⟨19,d,[qa0 n,qa0 y,nV0 0 []]⟩) else call pipe fun z=>need [93] (ret ⟨19,d,[qa0 n,qa0 y,qa0 z]⟩)))))
 | .post=>call .term fun n=>call1 (.postL n)
 | .postL n=>look fun t=>bif sub 4 t then take 4 (fun w=>tail w fun w=>call1 (.postL ⟨21,w,[qa0 n]⟩)) else
  has [63] (call1 (.postL ⟨23,[],[qa0 n]⟩))
  (is [91] fun c=>bif c then call (.within n []) fun m=>call1 (.postL m) else
  has [46] (is [91] fun c=>bif c then call (.within n [46]) fun m=>call1 (.postL m) else call .text fun m=>call1 (.postL ⟨22,[],[qa0 n,qa0 m]⟩)) (ret n))
 | .text=>look fun t=>bif sub 12 t then take 12 textQ else textQ []
 | .textF w=>textQ w
 | .textL acc=>look fun t=>bif sub 11 t then ret ⟨0,[],acc⟩ else bif sub 8 t then take 8 (fun w=>call1 (.textL (acc++[nV0 7 w]))) else
  take 9 fun _=>call pipe fun m=>take 10 fun _=>call1 (.textL (acc++[qa0 m]))
 | .plain=>take 7 fun _=>call (.plainL []) fun a=>take 11 fun _=>ret ⟨6,[],a.ks⟩
 | .plainL acc=>look fun t=>bif sub 8 t then take 8 (fun w=>call1 (.plainL (acc++[nV0 7 w]))) else ret ⟨0,[],acc⟩
 | .rows one a b=>call one fun x=>call (.rowsL one a b [qa0 x]) fun r=>need b (ret r)
 | .rowsL one a b acc=>has a (call one fun x=>call1 (.rowsL one a b (acc++[qa0 x]))) (ret ⟨0,[],acc⟩)
 | .ifs=>call (.ifsL []) fun r=>has [101,108,115,101] (call pipe fun x=>need [101,110,100] (ret ⟨14,[101,108,115,101],r.ks++[qa0 x]⟩)) (need [101,110,100] (ret ⟨14,[],r.ks⟩))
 | .ifsL acc=>call pipe fun a=>need [116,104,101,110] (call pipe fun b=>has [101,108,105,102] (call1 (.ifsL (acc++[qa0 a]++[qa0 b]))) (ret ⟨0,[],acc++[qa0 a]++[qa0 b]⟩))
 | .root=>look fun t=>bif sub 7 t||sub 12 t then call .text (fun x=>ret ⟨22,[],[nV0 0 [],qa0 x]⟩) else ret ⟨1,[],[]⟩
 | .array=>has [93] (ret ⟨9,[],[]⟩) (call pipe fun x=>need [93] (ret ⟨9,[],[qa0 x]⟩))
 | .paren=>call pipe fun x=>need [41] (ret ⟨12,[],[qa0 x]⟩)
 | .object=>has [125] (ret ⟨10,[],[]⟩) (call (.rows .pair [44] [125]) fun r=>ret ⟨10,[],r.ks⟩)
 | .reduce=>source fun l=>need [41] (ret ⟨16,[],l⟩)
 | .each=>source fun l=>has [59] (call pipe fun c=>need [41] (ret ⟨17,[],l++[qa0 c]⟩)) (need [41] (ret ⟨17,[],l⟩))
 | .callw=>take 3 fun w=>has [40] (call (.rows pipe [59] [41]) fun r=>ret ⟨13,w,r.ks⟩) (ret ⟨13,w,[]⟩)
 | .key=>look fun t=>bif sub 5 t then take 5 (one1 4) else bif sub 3 t then take 3 (fun w=>ret ⟨31,w,[]⟩) else bif sub 7 t||sub 12 t then call1 .text else
  need [40] (call pipe fun x=>need [41] (ret ⟨32,[],[qa0 x]⟩))
 | .pair=>call .key fun x=>bif decide (x.k=32) then need [58] (call .value fun y=>ret ⟨11,[],[qa0 x,qa0 y]⟩) else is [58] fun c=>bif c then need [58] (call .value fun y=>ret ⟨11,[],[qa0 x,qa0 y]⟩) else ret ⟨11,[],[qa0 x]⟩
 | .value=>call .unit fun x=>has [124] (call .value fun y=>ret ⟨24,[124],[qa0 x,qa0 y]⟩) (ret x)
 | .unit=>has [45] (call .unit fun x=>ret ⟨25,[],[qa0 x]⟩) (call1 .post)
 | .keyPat=>call .key fun x=>bif decide (x.k=4) then (is [58] fun c=>bif c then need [58] (call .pattern fun y=>ret ⟨37,[],[qa0 x,qa0 y]⟩) else ret ⟨37,[],[qa0 x]⟩) else need [58] (call .pattern fun y=>ret ⟨37,[],[qa0 x,qa0 y]⟩)
 | .pattern=>look fun t=>bif sub 5 t then take 5 (one1 4) else has [91] (call (.rows .pattern [44] [93]) fun r=>ret ⟨35,[],r.ks⟩) (need [123] (call (.rows .keyPat [44] [125]) fun r=>ret ⟨36,[],r.ks⟩))
 | .term=>term
 | .bring=>take 3 fun w=>call .plain fun x=>bif decide (w=[105,109,112,111,114,116]) then need [97,115] (look fun t=>bif sub 5 t then take 5 (fun v=>tail v fun v=>need [59] (ret ⟨33,w,[qa0 x]++[nV0 4 v]⟩)) else name fun v=>need [59] (ret ⟨33,w,[qa0 x]++[nV0 31 v]⟩))
  else need [59] (ret ⟨33,w,[qa0 x]⟩)
 | .progL acc=>is [105,109,112,111,114,116] fun c=>bif c then call .bring (fun x=>call1 (.progL (acc++[qa0 x]))) else is [105,110,99,108,117,100,101] fun c=>bif c then call .bring (fun x=>call1 (.progL (acc++[qa0 x]))) else ret ⟨0,[],acc⟩
 | .program=>call (.progL []) fun r=>match r.ks with
  | []=>has [100,101,102] (call (.dfn true) fun n=>finish [] n) (call pipe fun n=>finish [] n)
  | l=>atEnd (ret ⟨34,[],l++[nV0 0 []]⟩) (has [100,101,102] (call (.dfn true) fun n=>finish l n) (call pipe fun n=>finish l n))
end Pg
def qt0 (rec:NT→Nat→Option (PR (Nd×Nat) Nat)) (l:List (Int×List UInt8)):Pg→Nat→Option (PR (Nd×Nat) Nat)
 | .ret n,p=>some (.ok (n,p))
 | .err,p=>some (.er p)
 | .stop,_=>none
 | .look f,p=>qt0 rec l (f l[p]?) p
 | .adv k,p=>if p<l.length then qt0 rec l k (p+1) else none
 | .call x f,p=>match rec x p with
  | some (.ok a)=>qt0 rec l (f a.1) a.2
  | some (.er e)=>some (.er e)
  | _=>none
def qb0 (l:List (Int×List UInt8)):Nat→NT→Nat→Option (PR (Nd×Nat) Nat)
 | 0=>fun _ _=>none
 | n+1=>fun x=>qt0 (qb0 l n) l (Pg.body x)
/-- What results tell. -/
def Gj0:V→Nd
 | .agg [.int _ k,.str t,.osl _ ks]=>⟨k,t,ks⟩
 | _=>⟨0,[],[]⟩
noncomputable def jf0 (h:Heap):Int:=match dP h with
 | some p=>p.2
 | none=>0
noncomputable def row0 (h:Heap) (r:Nat):V:=match h.get r with
 | .row _ _ _ _ _ (e::_)=>e
 | _=>undef
noncomputable def rowE (h:Heap) (r:Nat):List V:=match h.get r with
 | .row _ _ _ _ _ es=>es
 | _=>[]
noncomputable def rowV (h:Heap) (r:Nat):Nat:=match h.get r with
 | .row v _ _ _ _ _=>v
 | _=>0
def QT0:V→Int
 | .int _ a=>a
 | .iface _ (.agg [.int _ a])=>a
 | _=>0
def yx1:V→List UInt8
 | .str s=>s
 | _=>[]
def Kp0:V→Bool
 | .bool b=>b
 | _=>false
def slLen:V→Nat
 | .sl _ _ _ n _=>n
 | .agg [_,_,.sl _ _ _ n _]=>n
 | _=>0
noncomputable def LN:Res→Nd×Int
 | .ret v h=>(Gj0 v,jf0 h)
 | .code _ _ h=>(Gj0 (row0 h 3),jf0 h)
 | _=>(⟨0,[],[]⟩,0)
noncomputable def LB:Res→Bool×Int
 | .ret v h=>(Kp0 v,jf0 h)
 | _=>(false,0)
noncomputable def LU:Res→Int
 | .ret _ h=>jf0 h
 | _=>0
noncomputable def LS:Res→List UInt8×Int
 | .ret v h=>(yx1 v,jf0 h)
 | _=>([],0)
def LT:Res→Int×List UInt8
 | .ret (.agg [a,b]) _=>(QT0 a,yx1 b)
 | _=>(0,[])
noncomputable def LK:Res→(Nd×Bool)×Int
 | .ret (.tup [v,b]) h=>((Gj0 v,Kp0 b),jf0 h)
 | _=>((⟨0,[],[]⟩,false),0)
noncomputable def LI:Res→Int
 | .ret v _=>QT0 v
 | _=>0
def LO:Res→Bool
 | .ret v _=>Kp0 v
 | _=>false
def LW:Res→List UInt8
 | .ret v _=>yx1 v
 | _=>[]
def LD:Res→Int×Bool
 | .ret (.tup [a,b]) _=>(QT0 a,Kp0 b)
 | _=>(0,false)
def LG:Res→Unit:=fun _=>()
noncomputable def LVk:Res→Rw
 | .code _ _ h=>(rowE h 5,slLen (row0 h 4),rowV h 5,jf0 h)
 | _=>([],0,0,0)
noncomputable def LVr (s r:Nat):Res→Rw
 | .code _ fr h=>(rowE h r,slLen (T.get undef fr.tm s),rowV h r,jf0 h)
 | _=>([],0,0,0)
def LQ:Res→Int
 | .panic v _=>QT0 v
 | .code (.panic v) _ _=>QT0 v
 | _=>0
noncomputable def LJ:Res→Int
 | .code _ fr _=>QT0 (T.get undef fr.tm 5)
 | _=>0
noncomputable def LQN:Res→Int
 | .dret _ h=>QT0 (row0 h 0)
 | _=>0
noncomputable def ql2 (h:Heap):Nat:=rowV h (h.n-1)
noncomputable def LQV:Res→Int×Nat
 | .code (.panic v) _ h=>(QT0 v,ql2 h)
 | _=>(0,0)
noncomputable def LQG:Res→Int
 | .code _ fr _=>QT0 (T.get undef fr.tm 2)
 | _=>0
def qo0:Res→Bool
 | .panic _ _=>false
 | .code (.panic _) _ _=>false
 | _=>true
def isDn:Res→Bool
 | .code .ret _ _=>false
 | _=>true
def isCode:Res→Bool
 | .code _ _ _=>true
 | _=>false
def yV0:Res→Bool
 | .ret _ _=>true
 | _=>false
noncomputable def LR:Res→Rx
 | .ret (.sl _ ver _ len _) h=>(false,rowE h 3,len,ver,jf0 h)
 | .ret (.gsl _ es _) h=>(true,es,1,0,jf0 h)
 | _=>(false,[],0,0,0)
def nrmR (x:Rx):Rx:=bif x.1 then (true,x.2.1,1,0,x.2.2.2.2) else x
noncomputable def exN (h:Heap) (r:Res):PR Rx Int:=match exR (rRx h) (qP h) r with
 | .ok _=>@ite (PR Rx Int) (rRx h (LR r)=r) (Classical.propDecidable _) (.ok (LR r)) .no
 | .er e=>.er e
 | .no=>.no
theorem exN_ok (h:Heap) (r:Res):exN h r=.no∨Ent.res ⟨Rx,Int,exN h r,fun a=>a.1,fun _=>true,fun b _=>rR h b,qP h⟩=r:=by
 have hx:=YX0 (fun (a:Rx)=>a.1) (fun _=>true) (fun b _=>rR h b) (qP h) r
 unfold exN
 change exR (rRx h) (qP h) r=.no∨_ at hx
 cases hr:exR (rRx h) (qP h) r with
 | no=>exact .inl rfl
 | ok a =>
  simp only
  by_cases c:rRx h (LR r)=r
  ·rw [if_pos c];exact .inr c
  ·rw [if_neg c];exact .inl rfl
 | er e =>
  rcases hx with hx | hx
  ·rw [hr] at hx;cases hx
  ·right
   change Ent.res ⟨Rx,Int,exR (rRx h) (qP h) r,fun a=>a.1,fun _=>true,fun b _=>rR h b,qP h⟩=r at hx
   rw [hr] at hx
   exact hx
theorem exN_R (es:List V) (p:Int) (a:Rx):exN (hpP es p) (rRx (hpP es p) a)=.ok (nrmR a):=by
 have h1:LR (rRx (hpP es p) a)=nrmR a:=by obtain ⟨b,a⟩:=a;cases b <;> kernel_rfl
 have h2:rRx (hpP es p) (nrmR a)=rRx (hpP es p) a:=by obtain ⟨b,a⟩:=a;cases b <;> kernel_rfl
 unfold exN exR
 rw [dif_pos ⟨a,rfl⟩]
 have h3:rRx (hpP es p) (LR (rRx (hpP es p) a))=rRx (hpP es p) a:=by rw [h1,h2]
 simp only
 rw [if_pos h3,h1]
theorem exN_Q (es:List V) (p:Int) (e:Int):exN (hpP es p) (qP (hpP es p) e)=.er e:=by
 have hD:∀ a:Rx,qo0 (rRx (hpP es p) a)=true:=fun a=>by obtain ⟨b,a⟩:=a;cases b <;> kernel_rfl
 have h:exR (rRx (hpP es p)) (qP (hpP es p)) (qP (hpP es p) e)=.er e:=exR_Q (fun a b w=>by
  have ha:LQ (qP (hpP es p) a)=a:=by kernel_rfl
  have hb:LQ (qP (hpP es p) b)=b:=by kernel_rfl
  rw [← ha,w,hb]) (fun a n w=>by
  have h0:qo0 (qP (hpP es p) n)=false:=by kernel_rfl
  rw [w,hD] at h0
  cases h0) e
 unfold exN
 rw [h]
noncomputable def XF (n:Nat):PsX where
 N:=fun t=>match t with
  | .call _ _ h=>exR (rN h) (qP h) (rn PP EP CP n t)
  | .code _ fr h=>bif Nat.beq fr.fn 83 then exR (yF0 [0,1,4] fr h) (yE0 fr h) (rn PP EP CP n t) else exR (yF0 [0,2] fr h) (yE0 fr h) (rn PP EP CP n t)
  | _=>.no
 B:=fun t=>exR (rB (tHp t)) (qP (tHp t)) (rn PP EP CP n t)
 U:=fun t=>exR (rU (tHp t)) (qP (tHp t)) (rn PP EP CP n t)
 S:=fun t=>exR (rS (tHp t)) (qP (tHp t)) (rn PP EP CP n t)
 T:=fun t=>exR (rT (tHp t)) (qP (tHp t)) (rn PP EP CP n t)
 K:=fun t=>exR (rK (tHp t)) (qP (tHp t)) (rn PP EP CP n t)
 R:=fun t=>exN (tHp t) (rn PP EP CP n t)
 I:=fun t=>exR rI qN (rn PP EP CP n t)
 O:=fun t=>exR rO qN (rn PP EP CP n t)
 W:=fun t=>exR rW qN (rn PP EP CP n t)
 D:=fun t=>exR rD qN (rn PP EP CP n t)
 G:=fun t=>match t with
  | .code _ fr h=>exR (rDL fr h) (qDL fr h) (rn PP EP CP n t)
  | _=>.no
 J:=fun t=>match t with
  | .code _ fr h=>exR (rRun fr h) qN (rn PP EP CP n t)
  | _=>.no
 V:=fun t=>match t with
  | .code _ fr h=>bif Nat.beq fr.fn 76 then exR (qY0 [0,1,2,3] 9 3 fr h) (qX0 3 fr h) (rn PP EP CP n t) else bif Nat.beq fr.fn 26 then exR (qY0 [0,2] 3 4 fr h) (qX0 4 fr h) (rn PP EP CP n t) else exR (zX0 [0,2,3] fr h) (zW0 fr h) (rn PP EP CP n t)
  | _=>.no
theorem zE0 {α ε:Type} (R:α→Res) (Q:ε→Res) (r:Res) {e:Ent} (h:some (ent (exR R Q r) R Q)=some e):e.x=.no∨e.res=r:=by
 cases h
 exact YX0 (fun _=>true) (fun _=>true) (fun _ _=>R) Q r
theorem yz1 (n:Nat):Zk0 (rn PP EP CP n) (tbP (XF n)):=by
 intro t e h
 cases t with
 | call f args hh =>
  change tbK (XF n) (.call f args hh) hh (T.get 0 kindT f)=some e at h
  unfold tbK at h
  split at h
  ·cases h
  ·exact zE0 _ _ _ h
  ·exact zE0 _ _ _ h
  ·exact zE0 _ _ _ h
  ·exact zE0 _ _ _ h
  ·exact zE0 _ _ _ h
  ·exact zE0 _ _ _ h
  ·cases h;exact exN_ok hh _
  ·exact zE0 _ _ _ h
  ·exact zE0 _ _ _ h
  ·exact zE0 _ _ _ h
  ·exact zE0 _ _ _ h
  ·cases h
 | code c fr hh =>
  cases c with
  | loop b =>
   change tbL (XF n) (.code (.loop b) fr hh) fr hh=some e at h
   unfold tbL at h
   cases h1:Nat.beq fr.fn 83 with
   | true =>
    rw [h1] at h
    have:(XF n).N (.code (.loop b) fr hh)=exR (yF0 [0,1,4] fr hh) (yE0 fr hh) (rn PP EP CP n (.code (.loop b) fr hh)):=by
     change (bif Nat.beq fr.fn 83 then _ else _)=_
     rw [h1];rfl
    rw [this] at h
    exact zE0 _ _ _ h
   | false =>
    rw [h1] at h
    cases h2:Nat.beq fr.fn 113 with
    | true =>
     rw [h2] at h
     have:(XF n).N (.code (.loop b) fr hh)=exR (yF0 [0,2] fr hh) (yE0 fr hh) (rn PP EP CP n (.code (.loop b) fr hh)):=by
      change (bif Nat.beq fr.fn 83 then _ else _)=_
      rw [h1];rfl
     rw [this] at h
     exact zE0 _ _ _ h
    | false =>
     rw [h2] at h
     cases h3:(Nat.beq fr.fn 74||Nat.beq fr.fn 79||Nat.beq fr.fn 46) with
     | true =>
      rw [h3] at h
      have:(XF n).V (.code (.loop b) fr hh)=exR (zX0 [0,2,3] fr hh) (zW0 fr hh) (rn PP EP CP n (.code (.loop b) fr hh)):=by
       change (bif Nat.beq fr.fn 76 then _ else bif Nat.beq fr.fn 26 then _ else _)=_
       have k:fr.fn=74∨fr.fn=79∨fr.fn=46:=by
        rcases (Bool.or_eq_true _ _ ▸ h3:_∨_) with h3 | h3
        ·rcases (Bool.or_eq_true _ _ ▸ h3:_∨_) with h3 | h3
         ·exact .inl (Nat.eq_of_beq_eq_true h3)
         ·exact .inr (.inl (Nat.eq_of_beq_eq_true h3))
        ·exact .inr (.inr (Nat.eq_of_beq_eq_true h3))
       rcases k with k | k | k <;> rw [k] <;> rfl
      rw [this] at h
      exact zE0 _ _ _ h
     | false =>
      rw [h3] at h
      cases h4:Nat.beq fr.fn 76 with
      | true =>
       rw [h4] at h
       have:(XF n).V (.code (.loop b) fr hh)=exR (qY0 [0,1,2,3] 9 3 fr hh) (qX0 3 fr hh) (rn PP EP CP n (.code (.loop b) fr hh)):=by
        change (bif Nat.beq fr.fn 76 then _ else _)=_
        rw [h4];rfl
       rw [this] at h
       exact zE0 _ _ _ h
      | false =>
       rw [h4] at h
       cases h5:Nat.beq fr.fn 26 with
       | true =>
        rw [h5] at h
        have:(XF n).V (.code (.loop b) fr hh)=exR (qY0 [0,2] 3 4 fr hh) (qX0 4 fr hh) (rn PP EP CP n (.code (.loop b) fr hh)):=by
         change (bif Nat.beq fr.fn 76 then _ else bif Nat.beq fr.fn 26 then _ else _)=_
         rw [h4,h5];rfl
        rw [this] at h
        exact zE0 _ _ _ h
       | false =>
        rw [h5] at h
        cases h6:Nat.beq fr.fn 23 with
        | true=>rw [h6] at h;exact zE0 _ _ _ h
        | false =>
         rw [h6] at h
         cases h7:Nat.beq fr.fn 174 with
         | true=>rw [h7] at h;exact zE0 _ _ _ h
         | false=>rw [h7] at h;cases h
  | _=>cases h
 | _=>cases h
def le1 {α ε:Type} (x y:PR α ε):Prop:=x=.no∨x=y
theorem qg0 {α ε:Type} {x:PR α ε}:le1 x x:=.inr rfl
theorem qr0 {α ε:Type} {b:Bool} {x y x' y':PR α ε} (h:le1 x y) (h':le1 x' y'):le1 (bif b then x else x') (bif b then y else y'):=by cases b <;> assumption
theorem qM0 {α ε:Type} {φ:Prop} {x y:PR α ε} (h:le1 x y):le1 (need .no φ x) (need .no φ y):=by
 unfold need
 by_cases c:φ
 ·rw [if_pos c,if_pos c];exact h
 ·rw [if_neg c];exact .inl rfl
theorem qk0 {α ε γ δ:Type} {x y:PR α ε} {f g:α→PR γ δ} {f' g':ε→PR γ δ} (h:le1 x y) (hf:∀ a,le1 (f a) (g a)) (hg:∀ e,le1 (f' e) (g' e)):le1 (PR.bnd .no x f f') (PR.bnd .no y g g'):=by
 rcases h with h | h
 ·rw [h];exact .inl rfl
 ·rw [h]
  cases y with
  | no=>exact .inl rfl
  | ok a=>exact hf a
  | er e=>exact hg e
def yB0 (c:UInt8):Bool:=48≤c&&c≤57
def Zo0 (f:UInt8→Bool) (c:Int):PR Bool Int:=bif decide (0≤c)&&decide (c<256) then .ok (f (UInt8.ofNat c.toNat)) else .no
noncomputable def ckB (r:Res) (b:Bool):Bool:=match r with
 | .ret v h=>(match v with
  | .bool x=>(match h with
   | ⟨t,n⟩=>(match t with
    | .e=>Nat.beq n 0&&(bif x then b else !b)
    | _=>false))
  | _=>false)
 | _=>false
theorem ckB_eq {r:Res} {b:Bool} (h:ckB r b=true):r=rO b:=by
 unfold ckB at h
 split at h
 ·rename_i v hh
  split at h
  ·rename_i x
   obtain ⟨t,n⟩:=hh
   cases t with
   | e =>
    simp only [Bool.and_eq_true] at h
    have hn:=Nat.eq_of_beq_eq_true h.1
    subst hn
    cases x <;> cases b <;> first | rfl | (have:=h.2;cases this)
   | n _ _ _=>cases h
  ·cases h
 ·cases h
noncomputable def allB (t:Nat→Res) (f:Nat→Bool):Nat→Bool:=Nat.rec true (fun k ih=>ckB (t k) (f k)&&ih)
theorem yL1 {t:Nat→Res} {f:Nat→Bool}:∀ {n:Nat},allB t f n=true→∀ k,k<n→t k=rO (f k)
 | 0,_,k,hk=>absurd hk (Nat.not_lt_zero k)
 | n+1,h,k,hk=>by
  have h:(ckB (t n) (f n)&&allB t f n)=true:=h
  rw [Bool.and_eq_true] at h
  rcases Nat.lt_succ_iff_lt_or_eq.1 hk with h1 | h1
  ·exact yL1 h.2 k h1
  ·subst h1;exact ckB_eq h.1
theorem jc1 {n g:Nat} {f:UInt8→Bool} (h:allB (fun k=>rn PP EP CP (n+1) (.call g [.int .u8 (Int.ofNat k)] Heap.empty)) (fun k=>f (UInt8.ofNat k)) 256=true) (c:Int):le1 (Zo0 f c) (exR rO qN (rn PP EP CP (n+1) (.call g [.int .u8 c] Heap.empty))):=by
 unfold Zo0
 cases hc:(decide (0≤c)&&decide (c<256)) with
 | false=>exact .inl rfl
 | true =>
  rw [Bool.and_eq_true] at hc
  have h0:=of_decide_eq_true hc.1
  have h1:=of_decide_eq_true hc.2
  obtain ⟨k,rfl⟩:∃ k:Nat,c=k:=⟨c.toNat,by omega⟩
  right
  have hk:=yL1 h k (by omega)
  change rn PP EP CP (n+1) (.call g [.int .u8 (k:Int)] Heap.empty)=_ at hk
  rw [hk,exR_R (fun a b e=>by have:=congrArg LO e;exact this)]
  rfl
theorem jk2 {n:Nat} (c:Int):le1 (Zo0 zt0 c) (exR rO qN (rn PP EP CP (n+1) (.call 137 [.int .u8 c] Heap.empty))):=jc1 (by kernel_rfl) c
theorem Yc1 {n:Nat} (c:Int):le1 (Zo0 yB0 c) (exR rO qN (rn PP EP CP (n+1) (.call 173 [.int .u8 c] Heap.empty))):=jc1 (by kernel_rfl) c
theorem qj0 {α ε:Type} {n:Nat} {t:Task} {R:α→Res} {Q:ε→Res} (L:Res→α) (LQ:Res→ε) (D:Res→Bool) {x:PR α ε} (b:(α→PR α ε)→(ε→PR α ε)→PR α ε) (h1:le1 x (b .ok .er))
 (he:evN PP EP CP (tbP (XF n)) (rn PP EP CP n) .no t (exR R Q)=b (fun v=>exR R Q (R v)) (fun e=>exR R Q (Q e))) (hL:∀ a,L (R a)=a) (hQ:∀ e,LQ (Q e)=e) (hD:∀ a,D (R a)=true) (hDQ:∀ e,D (Q e)=false) :
 le1 x (exR R Q (rn PP EP CP (n+1) t)):=by
 have hR:(fun v=>exR R Q (R v))=PR.ok:=funext fun v=>exR_R (fun a b e=>by rw [← hL a,e,hL]) v
 have hQ':(fun e=>exR R Q (Q e))=PR.er:=funext fun e=>exR_Q (fun a b e=>by rw [← hQ a,e,hQ]) (fun a n e=>by
  have h:=hDQ n
  rw [e,hD] at h
  cases h) e
 rw [hR,hQ'] at he
 rcases h1 with h1 | h1
 ·exact .inl h1
 ·have h2:=Xm0 (bot:=(.no:PR α ε)) (yz1 n) t (exR R Q)
  rw [he] at h2
  rcases h2 with h2 | h2
  ·left;rw [h1,h2]
  ·right;rw [h1,h2]
theorem XY0 {n:Nat} {t:Task} {es:List V} {p:Int} {x:PR Rx Int} (b:(Rx→PR Rx Int)→(Int→PR Rx Int)→PR Rx Int) (h1:le1 x (b (fun v=>.ok (nrmR v)) .er))
 (he:evN PP EP CP (tbP (XF n)) (rn PP EP CP n) .no t (exN (hpP es p))=b (fun v=>exN (hpP es p) (rRx (hpP es p) v)) (fun e=>exN (hpP es p) (qP (hpP es p) e))) :
 le1 x (exN (hpP es p) (rn PP EP CP (n+1) t)):=by
 have hR:(fun v=>exN (hpP es p) (rRx (hpP es p) v))=fun v=>PR.ok (nrmR v):=funext fun v=>exN_R es p v
 have hQ':(fun e=>exN (hpP es p) (qP (hpP es p) e))=PR.er:=funext fun e=>exN_Q es p e
 rw [hR,hQ'] at he
 rcases h1 with h1 | h1
 ·exact .inl h1
 ·have h2:=Xm0 (bot:=(.no:PR Rx Int)) (yz1 n) t (exN (hpP es p))
  rw [he] at h2
  rcases h2 with h2 | h2
  ·left;rw [h1,h2]
  ·right;rw [h1,h2]
end Go.AM
