/-
  WHAT FUNCTIONS OF THE PROGRAM COME TO, told by the machine, and plain laws of it. No condition but what each theorem says of its arguments.
-/
import Derived.Test.YtjdahgihdceebaaGreatDoorFe8
namespace Go.AM
open Go.Proofs
set_option maxRecDepth 100000
set_option maxHeartbeats 4000000
section
variable (X:PmX) (ih:Task→Res) {β:Type} (bot:β) (k:Res→β)
theorem KJ1 (s:List UInt8) (at1:Int) (o:List V) (e:Int):evN PP EP CP (qg0 X) ih bot (.call 33 [.agg [.str s,.int .i64 at1,.nils,.osl 1 o,.bool false,.int .i64 e]] Heap.empty) k =
 (letI z6:=(List.length o);letI z1:=(↑z6:Int);letI z2:=((0+Int.toNat (z1-1))*1);letI z3:=(qY0 1 o z2 (V.int IntKind.i64 (gI 1 o z2 0+1)));letI z4:=(qY0 1 o z2 (V.int IntKind.i64 (gI 1 o z2 0-1)));letI z5:=((0+Int.toNat (z1-(1:Int)))*1);letI z7:=((0=0)∧(ldX PP 3 1 (o) z2));letI z8:=((o≠[])∧((z6≤1099511627776)∧((List.length o*8)≤1099511627776)));letI z9:=(stX PP 3 (V.int IntKind.i64 (gI 1 o z5
 0+(1:Int))) 0 1 o z5);letI z10:=(stX PP 3 (V.int IntKind.i64 (gI 1 o z5 0-(1:Int))) 0 1 o z5);letI z11:=(Int.toNat (z1-1)*1);letI z12:=((0=0)∧((0=0)∧((z6=(List.length z3))∧(GndR z3))));letI z13:=((0=0)∧((0=0)∧((z6=(List.length z4))∧(GndR z4))));letI z14:=(ldC PP 3 1 (o) z11);need bot (((0:Int)≤(at1))∧((at1)≤((↑(List.length s):Int)))) (PR.bnd bot (X.5 (.call 70 [(.str (List.drop (Int.toNat at1)
 s))] Heap.empty)) (fun a1=>bif decide (a1.2=[]) then (k (.ret (.agg [(.str (s)),(.int .i64 (at1)),.nils,(.osl 1 (o)),(.bool false),(.int .i64 11)]) Heap.empty)) else (nI bot (z1-1) (jn (need bot (((0:Int)≤(z1-1))∧((z1-1)≤(z1))) (PR.bnd bot (X.11 (.call 69 [(.agg [(.str (s)),(.int .i64 (at1)),.nils,(.osl 1 (List.take (Int.toNat (z1-1)) o)),(.bool true),(.int .i64 (e))]),(.agg [(.int .i64 10),(.str
 (a1.2))])] Heap.empty)) (fun a12=>letI z15:=(GndR (a12.l));letI z16:=(hpL (a12.ver) (a12.l));bif a12.9 then (need bot z15 (bif a12.i then (need bot z15 (k (.ret (.agg [(.str (a12.s)),(.int .i64 (a12.at1)),(.sl 0 (a12.ver) 0 (a12.n) none),(.osl 1 (a12.o)),(.bool true),(.int .i64 (a12.e))]) z16))) else (need bot z15 (k (.ret (.agg [(.str (a12.s)),(.int .i64 (a12.at1)),(.sl 0 (a12.ver) 0 (a12.n)
 none),(.osl 1 (a12.o)),(.bool false),(.int .i64 (a12.e))]) z16))))) else (bif a12.i then (k (.ret (.agg [(.str (a12.s)),(.int .i64 (a12.at1)),.nils,(.osl 1 (a12.o)),(.bool true),(.int .i64 11)]) Heap.empty)) else (k (.ret (.agg [(.str (a12.s)),(.int .i64 (a12.at1)),.nils,(.osl 1 (a12.o)),(.bool false),(.int .i64 11)]) Heap.empty)))) (fun e12=>bot))) (fun j1:β=>bif decide (a1.1=7) then (jn (jn
 (PR.bnd bot (X.11 (.call 69 [(.agg [(.str (s)),(.int .i64 (at1)),.nils,(.osl 1 (o)),(.bool true),(.int .i64 (e))]),(.agg [(.int .i64 (a1.1)),(.str (a1.2))])] Heap.empty)) (fun a15=>letI z17:=(GndR (a15.l));letI z18:=(hpL (a15.ver) (a15.l));bif a15.9 then (need bot z17 (bif a15.i then (need bot z17 (k (.ret (.agg [(.str (a15.s)),(.int .i64 (a15.at1)),(.sl 0 (a15.ver) 0 (a15.n) none),(.osl 1
 (a15.o)),(.bool true),(.int .i64 (a15.e))]) z18))) else (need bot z17 (k (.ret (.agg [(.str (a15.s)),(.int .i64 (a15.at1)),(.sl 0 (a15.ver) 0 (a15.n) none),(.osl 1 (a15.o)),(.bool false),(.int .i64 (a15.e))]) z18))))) else (bif a15.i then (k (.ret (.agg [(.str (a15.s)),(.int .i64 (a15.at1)),.nils,(.osl 1 (a15.o)),(.bool true),(.int .i64 11)]) Heap.empty)) else (k (.ret (.agg [(.str (a15.s)),(.int
 .i64 (a15.at1)),.nils,(.osl 1 (a15.o)),(.bool false),(.int .i64 11)]) Heap.empty)))) (fun e15=>bot)) (fun j3:β=>bif decide (0≤z1-1) then (bif decide (a1.1=13) then (jn (need bot z8 (bif decide (a1.2=[40]) then (nX bot (z1-1) z6 (need bot z7 (nI bot (gI 1 o z2 0+1) (nX bot (z1-1) z6 (need bot (0=0) (need bot z9 (need bot z12 (PR.bnd bot (X.11 (.call 69 [(.agg [(.str (s)),(.int .i64
 (at1)),.nils,(.osl 1 z3),(.bool true),(.int .i64 (e))]),(.agg [(.int .i64 (a1.1)),(.str (a1.2))])] Heap.empty)) (fun a23=>letI z19:=(GndR (a23.l));letI z20:=(hpL (a23.ver) (a23.l));bif a23.9 then (need bot z19 (bif a23.i then (need bot z19 (k (.ret (.agg [(.str (a23.s)),(.int .i64 (a23.at1)),(.sl 0 (a23.ver) 0 (a23.n) none),(.osl 1 (a23.o)),(.bool true),(.int .i64 (a23.e))]) z20))) else (need bot
 z19 (k (.ret (.agg [(.str (a23.s)),(.int .i64 (a23.at1)),(.sl 0 (a23.ver) 0 (a23.n) none),(.osl 1 (a23.o)),(.bool false),(.int .i64 (a23.e))]) z20))))) else (bif a23.i then (k (.ret (.agg [(.str (a23.s)),(.int .i64 (a23.at1)),.nils,(.osl 1 (a23.o)),(.bool true),(.int .i64 11)]) Heap.empty)) else (k (.ret (.agg [(.str (a23.s)),(.int .i64 (a23.at1)),.nils,(.osl 1 (a23.o)),(.bool false),(.int .i64
 11)]) Heap.empty)))) (fun e23=>bot))))))))) else (nX bot (z1-1) z6 (need bot z7 (nI bot (gI 1 o z2 0-1) (nX bot (z1-1) z6 (need bot (0=0) (need bot z10 (need bot z13 (PR.bnd bot (X.11 (.call 69 [(.agg [(.str (s)),(.int .i64 (at1)),.nils,(.osl 1 z4),(.bool true),(.int .i64 (e))]),(.agg [(.int .i64 (a1.1)),(.str (a1.2))])] Heap.empty)) (fun a23=>letI z21:=(GndR (a23.l));letI z22:=(hpL (a23.ver)
 (a23.l));bif a23.9 then (need bot z21 (bif a23.i then (need bot z21 (k (.ret (.agg [(.str (a23.s)),(.int .i64 (a23.at1)),(.sl 0 (a23.ver) 0 (a23.n) none),(.osl 1 (a23.o)),(.bool true),(.int .i64 (a23.e))]) z22))) else (need bot z21 (k (.ret (.agg [(.str (a23.s)),(.int .i64 (a23.at1)),(.sl 0 (a23.ver) 0 (a23.n) none),(.osl 1 (a23.o)),(.bool false),(.int .i64 (a23.e))]) z22))))) else (bif a23.i then
 (k (.ret (.agg [(.str (a23.s)),(.int .i64 (a23.at1)),.nils,(.osl 1 (a23.o)),(.bool true),(.int .i64 11)]) Heap.empty)) else (k (.ret (.agg [(.str (a23.s)),(.int .i64 (a23.at1)),.nils,(.osl 1 (a23.o)),(.bool false),(.int .i64 11)]) Heap.empty)))) (fun e23=>bot))))))))))) (fun j4:β=>bif decide (a1.2=[40]) then (j4) else (bif decide (a1.2=[41]) then (j4) else (j3)))) else (j3)) else (j3))) (fun
 j2:β=>bif decide (0≤z1-1) then (bif decide (a1.1=13) then (bif decide (a1.2=[41]) then (nX bot (z1-1) z6 (need bot z14 (bif decide (gI 1 o z11 0=0) then (j1) else (j2)))) else (j2)) else (j2)) else (j2))) else (jn (jn (PR.bnd bot (X.11 (.call 69 [(.agg [(.str (s)),(.int .i64 (at1)),.nils,(.osl 1 (o)),(.bool false),(.int .i64 (e))]),(.agg [(.int .i64 (a1.1)),(.str (a1.2))])] Heap.empty)) (fun
 a15=>letI z23:=(GndR (a15.l));letI z24:=(hpL (a15.ver) (a15.l));bif a15.9 then (need bot z23 (bif a15.i then (need bot z23 (k (.ret (.agg [(.str (a15.s)),(.int .i64 (a15.at1)),(.sl 0 (a15.ver) 0 (a15.n) none),(.osl 1 (a15.o)),(.bool true),(.int .i64 (a15.e))]) z24))) else (need bot z23 (k (.ret (.agg [(.str (a15.s)),(.int .i64 (a15.at1)),(.sl 0 (a15.ver) 0 (a15.n) none),(.osl 1 (a15.o)),(.bool
 false),(.int .i64 (a15.e))]) z24))))) else (bif a15.i then (k (.ret (.agg [(.str (a15.s)),(.int .i64 (a15.at1)),.nils,(.osl 1 (a15.o)),(.bool true),(.int .i64 11)]) Heap.empty)) else (k (.ret (.agg [(.str (a15.s)),(.int .i64 (a15.at1)),.nils,(.osl 1 (a15.o)),(.bool false),(.int .i64 11)]) Heap.empty)))) (fun e15=>bot)) (fun j6:β=>bif decide (0≤z1-1) then (bif decide (a1.1=13) then (jn (need bot z8
 (bif decide (a1.2=[40]) then (nX bot (z1-1) z6 (need bot z7 (nI bot (gI 1 o z2 0+1) (nX bot (z1-1) z6 (need bot (0=0) (need bot z9 (need bot z12 (PR.bnd bot (X.11 (.call 69 [(.agg [(.str (s)),(.int .i64 (at1)),.nils,(.osl 1 z3),(.bool false),(.int .i64 (e))]),(.agg [(.int .i64 (a1.1)),(.str (a1.2))])] Heap.empty)) (fun a23=>letI z25:=(GndR (a23.l));letI z26:=(hpL (a23.ver) (a23.l));bif a23.9 then
 (need bot z25 (bif a23.i then (need bot z25 (k (.ret (.agg [(.str (a23.s)),(.int .i64 (a23.at1)),(.sl 0 (a23.ver) 0 (a23.n) none),(.osl 1 (a23.o)),(.bool true),(.int .i64 (a23.e))]) z26))) else (need bot z25 (k (.ret (.agg [(.str (a23.s)),(.int .i64 (a23.at1)),(.sl 0 (a23.ver) 0 (a23.n) none),(.osl 1 (a23.o)),(.bool false),(.int .i64 (a23.e))]) z26))))) else (bif a23.i then (k (.ret (.agg [(.str
 (a23.s)),(.int .i64 (a23.at1)),.nils,(.osl 1 (a23.o)),(.bool true),(.int .i64 11)]) Heap.empty)) else (k (.ret (.agg [(.str (a23.s)),(.int .i64 (a23.at1)),.nils,(.osl 1 (a23.o)),(.bool false),(.int .i64 11)]) Heap.empty)))) (fun e23=>bot))))))))) else (nX bot (z1-1) z6 (need bot z7 (nI bot (gI 1 o z2 0-1) (nX bot (z1-1) z6 (need bot (0=0) (need bot z10 (need bot z13 (PR.bnd bot (X.11 (.call 69
 [(.agg [(.str (s)),(.int .i64 (at1)),.nils,(.osl 1 z4),(.bool false),(.int .i64 (e))]),(.agg [(.int .i64 (a1.1)),(.str (a1.2))])] Heap.empty)) (fun a23=>letI z27:=(GndR (a23.l));letI z28:=(hpL (a23.ver) (a23.l));bif a23.9 then (need bot z27 (bif a23.i then (need bot z27 (k (.ret (.agg [(.str (a23.s)),(.int .i64 (a23.at1)),(.sl 0 (a23.ver) 0 (a23.n) none),(.osl 1 (a23.o)),(.bool true),(.int .i64
 (a23.e))]) z28))) else (need bot z27 (k (.ret (.agg [(.str (a23.s)),(.int .i64 (a23.at1)),(.sl 0 (a23.ver) 0 (a23.n) none),(.osl 1 (a23.o)),(.bool false),(.int .i64 (a23.e))]) z28))))) else (bif a23.i then (k (.ret (.agg [(.str (a23.s)),(.int .i64 (a23.at1)),.nils,(.osl 1 (a23.o)),(.bool true),(.int .i64 11)]) Heap.empty)) else (k (.ret (.agg [(.str (a23.s)),(.int .i64 (a23.at1)),.nils,(.osl 1
 (a23.o)),(.bool false),(.int .i64 11)]) Heap.empty)))) (fun e23=>bot))))))))))) (fun j7:β=>bif decide (a1.2=[40]) then (j7) else (bif decide (a1.2=[41]) then (j7) else (j6)))) else (j6)) else (j6))) (fun j5:β=>bif decide (0≤z1-1) then (bif decide (a1.1=13) then (bif decide (a1.2=[41]) then (nX bot (z1-1) z6 (need bot z14 (bif decide (gI 1 o z11 0=0) then (j1) else (j5)))) else (j5)) else (j5))
 else (j5))))))) (fun e1=>bot))):=by kernel_rfl
theorem KK1 (s:List UInt8) (at1:Int) (ver n:Nat) (l o:List V) (e:Int):evN PP EP CP (qg0 X) ih bot (.call 33 [.agg [.str s,.int .i64 at1,.sl 0 ver 0 n none,.osl 1 o,.bool false,.int .i64 e]] (hpL ver l)) k =
 (letI z6:=(List.length o);letI z1:=(↑z6:Int);letI z2:=((0+Int.toNat (z1-1))*1);letI z3:=(qY0 1 o z2 (V.int IntKind.i64 (gI 1 o z2 0+1)));letI z4:=(qY0 1 o z2 (V.int IntKind.i64 (gI 1 o z2 0-1)));letI z5:=((0+Int.toNat (z1-(1:Int)))*1);letI z7:=(hpL (ver) (l));letI z8:=((0=0)∧(ldX PP 3 1 (o) z2));letI z9:=((o≠[])∧((z6≤1099511627776)∧((List.length o*8)≤1099511627776)));letI z10:=(stX PP 3 (V.int
 IntKind.i64 (gI 1 o z5 0+(1:Int))) 0 1 o z5);letI z11:=(stX PP 3 (V.int IntKind.i64 (gI 1 o z5 0-(1:Int))) 0 1 o z5);letI z12:=(Int.toNat (z1-1)*1);letI z13:=((0=0)∧((0=0)∧((z6=(List.length z3))∧(GndR z3))));letI z14:=((0=0)∧((0=0)∧((z6=(List.length z4))∧(GndR z4))));letI z15:=(ldC PP 3 1 (o) z12);need bot (((0:Int)≤(at1))∧((at1)≤((↑(List.length s):Int)))) (PR.bnd bot (X.5 (.call 70 [(.str
 (List.drop (Int.toNat at1) s))] Heap.empty)) (fun a1=>bif decide (a1.2=[]) then (need bot (GndR (l)) (k (.ret (.agg [(.str (s)),(.int .i64 (at1)),(.sl 0 (ver) 0 (n) none),(.osl 1 (o)),(.bool false),(.int .i64 11)]) z7))) else (nI bot (z1-1) (jn (need bot (((0:Int)≤(z1-1))∧((z1-1)≤(z1))) (need bot (GndR (l)) (PR.bnd bot (X.11 (.call 69 [(.agg [(.str (s)),(.int .i64 (at1)),(.sl 0 (ver) 0 (n)
 none),(.osl 1 (List.take (Int.toNat (z1-1)) o)),(.bool true),(.int .i64 (e))]),(.agg [(.int .i64 10),(.str (a1.2))])] z7)) (fun a13=>letI z16:=(GndR (a13.l));letI z17:=(hpL (a13.ver) (a13.l));bif a13.9 then (need bot z16 (bif a13.i then (need bot z16 (k (.ret (.agg [(.str (a13.s)),(.int .i64 (a13.at1)),(.sl 0 (a13.ver) 0 (a13.n) none),(.osl 1 (a13.o)),(.bool true),(.int .i64 (a13.e))]) z17))) else
 (need bot z16 (k (.ret (.agg [(.str (a13.s)),(.int .i64 (a13.at1)),(.sl 0 (a13.ver) 0 (a13.n) none),(.osl 1 (a13.o)),(.bool false),(.int .i64 (a13.e))]) z17))))) else (bot)) (fun e13=>bot)))) (fun j1:β=>bif decide (a1.1=7) then (jn (jn (need bot (GndR (l)) (PR.bnd bot (X.11 (.call 69 [(.agg [(.str (s)),(.int .i64 (at1)),(.sl 0 (ver) 0 (n) none),(.osl 1 (o)),(.bool true),(.int .i64 (e))]),(.agg
 [(.int .i64 (a1.1)),(.str (a1.2))])] z7)) (fun a16=>letI z18:=(GndR (a16.l));letI z19:=(hpL (a16.ver) (a16.l));bif a16.9 then (need bot z18 (bif a16.i then (need bot z18 (k (.ret (.agg [(.str (a16.s)),(.int .i64 (a16.at1)),(.sl 0 (a16.ver) 0 (a16.n) none),(.osl 1 (a16.o)),(.bool true),(.int .i64 (a16.e))]) z19))) else (need bot z18 (k (.ret (.agg [(.str (a16.s)),(.int .i64 (a16.at1)),(.sl 0
 (a16.ver) 0 (a16.n) none),(.osl 1 (a16.o)),(.bool false),(.int .i64 (a16.e))]) z19))))) else (bot)) (fun e16=>bot))) (fun j3:β=>bif decide (0≤z1-1) then (bif decide (a1.1=13) then (jn (need bot z9 (bif decide (a1.2=[40]) then (nX bot (z1-1) z6 (need bot z8 (nI bot (gI 1 o z2 0+1) (nX bot (z1-1) z6 (need bot (0=0) (need bot z10 (need bot z13 (need bot (GndR (l)) (PR.bnd bot (X.11 (.call 69 [(.agg
 [(.str (s)),(.int .i64 (at1)),(.sl 0 (ver) 0 (n) none),(.osl 1 z3),(.bool true),(.int .i64 (e))]),(.agg [(.int .i64 (a1.1)),(.str (a1.2))])] z7)) (fun a24=>letI z20:=(GndR (a24.l));letI z21:=(hpL (a24.ver) (a24.l));bif a24.9 then (need bot z20 (bif a24.i then (need bot z20 (k (.ret (.agg [(.str (a24.s)),(.int .i64 (a24.at1)),(.sl 0 (a24.ver) 0 (a24.n) none),(.osl 1 (a24.o)),(.bool true),(.int .i64
 (a24.e))]) z21))) else (need bot z20 (k (.ret (.agg [(.str (a24.s)),(.int .i64 (a24.at1)),(.sl 0 (a24.ver) 0 (a24.n) none),(.osl 1 (a24.o)),(.bool false),(.int .i64 (a24.e))]) z21))))) else (bot)) (fun e24=>bot)))))))))) else (nX bot (z1-1) z6 (need bot z8 (nI bot (gI 1 o z2 0-1) (nX bot (z1-1) z6 (need bot (0=0) (need bot z11 (need bot z14 (need bot (GndR (l)) (PR.bnd bot (X.11 (.call 69 [(.agg
 [(.str (s)),(.int .i64 (at1)),(.sl 0 (ver) 0 (n) none),(.osl 1 z4),(.bool true),(.int .i64 (e))]),(.agg [(.int .i64 (a1.1)),(.str (a1.2))])] z7)) (fun a24=>letI z22:=(GndR (a24.l));letI z23:=(hpL (a24.ver) (a24.l));bif a24.9 then (need bot z22 (bif a24.i then (need bot z22 (k (.ret (.agg [(.str (a24.s)),(.int .i64 (a24.at1)),(.sl 0 (a24.ver) 0 (a24.n) none),(.osl 1 (a24.o)),(.bool true),(.int .i64
 (a24.e))]) z23))) else (need bot z22 (k (.ret (.agg [(.str (a24.s)),(.int .i64 (a24.at1)),(.sl 0 (a24.ver) 0 (a24.n) none),(.osl 1 (a24.o)),(.bool false),(.int .i64 (a24.e))]) z23))))) else (bot)) (fun e24=>bot)))))))))))) (fun j4:β=>bif decide (a1.2=[40]) then (j4) else (bif decide (a1.2=[41]) then (j4) else (j3)))) else (j3)) else (j3))) (fun j2:β=>bif decide (0≤z1-1) then (bif decide (a1.1=13)
 then (bif decide (a1.2=[41]) then (nX bot (z1-1) z6 (need bot z15 (bif decide (gI 1 o z12 0=0) then (j1) else (j2)))) else (j2)) else (j2)) else (j2))) else (jn (jn (need bot (GndR (l)) (PR.bnd bot (X.11 (.call 69 [(.agg [(.str (s)),(.int .i64 (at1)),(.sl 0 (ver) 0 (n) none),(.osl 1 (o)),(.bool false),(.int .i64 (e))]),(.agg [(.int .i64 (a1.1)),(.str (a1.2))])] z7)) (fun a16=>letI z24:=(GndR
 (a16.l));letI z25:=(hpL (a16.ver) (a16.l));bif a16.9 then (need bot z24 (bif a16.i then (need bot z24 (k (.ret (.agg [(.str (a16.s)),(.int .i64 (a16.at1)),(.sl 0 (a16.ver) 0 (a16.n) none),(.osl 1 (a16.o)),(.bool true),(.int .i64 (a16.e))]) z25))) else (need bot z24 (k (.ret (.agg [(.str (a16.s)),(.int .i64 (a16.at1)),(.sl 0 (a16.ver) 0 (a16.n) none),(.osl 1 (a16.o)),(.bool false),(.int .i64
 (a16.e))]) z25))))) else (bot)) (fun e16=>bot))) (fun j6:β=>bif decide (0≤z1-1) then (bif decide (a1.1=13) then (jn (need bot z9 (bif decide (a1.2=[40]) then (nX bot (z1-1) z6 (need bot z8 (nI bot (gI 1 o z2 0+1) (nX bot (z1-1) z6 (need bot (0=0) (need bot z10 (need bot z13 (need bot (GndR (l)) (PR.bnd bot (X.11 (.call 69 [(.agg [(.str (s)),(.int .i64 (at1)),(.sl 0 (ver) 0 (n) none),(.osl 1
 z3),(.bool false),(.int .i64 (e))]),(.agg [(.int .i64 (a1.1)),(.str (a1.2))])] z7)) (fun a24=>letI z26:=(GndR (a24.l));letI z27:=(hpL (a24.ver) (a24.l));bif a24.9 then (need bot z26 (bif a24.i then (need bot z26 (k (.ret (.agg [(.str (a24.s)),(.int .i64 (a24.at1)),(.sl 0 (a24.ver) 0 (a24.n) none),(.osl 1 (a24.o)),(.bool true),(.int .i64 (a24.e))]) z27))) else (need bot z26 (k (.ret (.agg [(.str
 (a24.s)),(.int .i64 (a24.at1)),(.sl 0 (a24.ver) 0 (a24.n) none),(.osl 1 (a24.o)),(.bool false),(.int .i64 (a24.e))]) z27))))) else (bot)) (fun e24=>bot)))))))))) else (nX bot (z1-1) z6 (need bot z8 (nI bot (gI 1 o z2 0-1) (nX bot (z1-1) z6 (need bot (0=0) (need bot z11 (need bot z14 (need bot (GndR (l)) (PR.bnd bot (X.11 (.call 69 [(.agg [(.str (s)),(.int .i64 (at1)),(.sl 0 (ver) 0 (n) none),(.osl
 1 z4),(.bool false),(.int .i64 (e))]),(.agg [(.int .i64 (a1.1)),(.str (a1.2))])] z7)) (fun a24=>letI z28:=(GndR (a24.l));letI z29:=(hpL (a24.ver) (a24.l));bif a24.9 then (need bot z28 (bif a24.i then (need bot z28 (k (.ret (.agg [(.str (a24.s)),(.int .i64 (a24.at1)),(.sl 0 (a24.ver) 0 (a24.n) none),(.osl 1 (a24.o)),(.bool true),(.int .i64 (a24.e))]) z29))) else (need bot z28 (k (.ret (.agg [(.str
 (a24.s)),(.int .i64 (a24.at1)),(.sl 0 (a24.ver) 0 (a24.n) none),(.osl 1 (a24.o)),(.bool false),(.int .i64 (a24.e))]) z29))))) else (bot)) (fun e24=>bot)))))))))))) (fun j7:β=>bif decide (a1.2=[40]) then (j7) else (bif decide (a1.2=[41]) then (j7) else (j6)))) else (j6)) else (j6))) (fun j5:β=>bif decide (0≤z1-1) then (bif decide (a1.1=13) then (bif decide (a1.2=[41]) then (nX bot (z1-1) z6 (need
 bot z15 (bif decide (gI 1 o z12 0=0) then (j1) else (j5)))) else (j5)) else (j5)) else (j5))))))) (fun e1=>bot))):=by kernel_rfl
theorem jz1 (es:List V) (g i:Int):evN PP EP CP (qg0 X) ih bot (.code (.loop (lpB PP 22 0)) ((base 22 93).on [(0,.osl 2 es),(4,.nils),(5,.nils),(6,.int .i64 g),(7,.int .i64 i)]) Heap.empty) k =
 (letI z1:=(Int.toNat i*2);letI z2:=(gS 2 es (Nat.add z1 1) 0);letI z3:=(g+(↑(List.length z2):Int));letI z11:=(gI 2 es z1 0);letI z12:=(gS 2 es z1 1);letI z4:=[V.agg [V.int IntKind.i64 z11,V.str z12,V.int IntKind.i64 g,V.osl 1 []]];letI z5:=(List.length es);letI z6:=(ldC PP 9 2 (es) (Nat.add z1 1));letI z14:=(0,(.osl 2 (es)));letI z17:=(7,(.int .i64 (i+1)));letI z7:=((base 22 93).on
 [z14,(4,.nils),(5,(.sl 0 0 0 1 none)),(6,(.int .i64 z3)),z17]);letI z8:=(gI 2 es (Nat.add z1 0) 0=2);letI z9:=(ldC PP 3 2 (es) z1);letI z10:=(([V.str z2]≠[])∧((1≤1099511627776)∧(16≤1099511627776)));letI z13:=(GndR [(.str z2)]);letI z15:=(((0:Int)≤0)∧((0:Int)<1));letI z16:=(ldC PP 49 2 (es) z1);bif decide (i<(↑z5:Int)) then (nX bot (i) z5 (need bot z16 (PR.bnd bot (X.2 (.call 39 [(.agg [(.int .i64
 z11),(.str z12)])] Heap.empty)) (fun a3=>bif a3 then (nX bot (i) z5 (need bot z16 (need bot ((z4≠[])∧((1≤1099511627776)∧(56≤1099511627776))) (nX bot (i) z5 (need bot z9 (jn (nX bot (i) z5 (need bot z9 (bif decide z8 then (need bot ((-9223372036854775808≤0)∧((0:Int)≤9223372036854775807)) (need bot z15 (need bot ((0=0)∧(ldX PP 42 4 [(.agg [(.int .i64 z11),(.str z12),(.int .i64 (g)),(.osl 1 [])])]
 3)) (nX bot (i) z5 (need bot z6 (need bot z10 (need bot z15 (need bot ((0=0)∧((0=0)∧((1=1)∧z13))) (need bot (0=0) (need bot (stX PP 42 (V.osl 1 [V.str z2]) 0 4 z4 (Nat.add ((0+Int.toNat ((↑(List.length z4):Int)-(1:Int)))*4) 3)) (nX bot (i) z5 (need bot z6 (nI bot z3 (nI bot (i+1) (need bot (GndR [(.agg [(.int .i64 z11),(.str z12),(.int .i64 (g)),(.osl 1 [(.str z2)])])]) (need bot z13 (PR.bnd bot
 (X.18 (.code (.loop (lpB PP 22 0)) z7 (hp [.row 0 59 4 0 none [(.agg [(.int .i64 z11),(.str z12),(.int .i64 (g)),(.osl 1 [(.str z2)])])]]))) (fun a30=>letI z18:=(0,(.osl 2 (a30.es)));letI z19:=(4,(.sl 0 (a30.v1) 0 (a30.n1) none));bif a30.2 then (bif a30.6 then (need bot (GndR (a30.l1)) (need bot (GndR (a30.l2)) (k (.code (.exit 0) ((base 22 93).on [z18,z19,(5,(.sl 1 (a30.v2) 0 (a30.n2) none))])
 (hp [.row (a30.v1) 9 1 0 none (a30.l1),.row (a30.v2) 59 4 0 none (a30.l2)]))))) else (need bot (GndR (a30.l1)) (k (.code (.exit 0) ((base 22 93).on [z18,z19,(5,.nils)]) (hp [.row (a30.v1) 9 1 0 none (a30.l1)]))))) else (bif a30.6 then (need bot (GndR (a30.l2)) (k (.code (.exit 0) ((base 22 93).on [z18,(4,.nils),(5,(.sl 0 (a30.v2) 0 (a30.n2) none))]) (hp [.row (a30.v2) 59 4 0 none (a30.l2)]))))
 else (k (.code (.exit 0) ((base 22 93).on [z18,(4,.nils),(5,.nils)]) Heap.empty)))) (fun e30=>k (qN e30))))))))))))))))))) else (nX bot (i) z5 (need bot z6 (nI bot z3 (nI bot (i+1) (need bot (GndR [(.agg [(.int .i64 z11),(.str z12),(.int .i64 (g)),(.osl 1 [])])]) (PR.bnd bot (X.18 (.code (.loop (lpB PP 22 0)) z7 (hp [.row 0 59 4 0 none [(.agg [(.int .i64 z11),(.str z12),(.int .i64 (g)),(.osl 1
 [])])]]))) (fun a19=>letI z20:=(0,(.osl 2 (a19.es)));letI z21:=(4,(.sl 0 (a19.v1) 0 (a19.n1) none));bif a19.2 then (bif a19.6 then (need bot (GndR (a19.l1)) (need bot (GndR (a19.l2)) (k (.code (.exit 0) ((base 22 93).on [z20,z21,(5,(.sl 1 (a19.v2) 0 (a19.n2) none))]) (hp [.row (a19.v1) 9 1 0 none (a19.l1),.row (a19.v2) 59 4 0 none (a19.l2)]))))) else (need bot (GndR (a19.l1)) (k (.code (.exit 0)
 ((base 22 93).on [z20,z21,(5,.nils)]) (hp [.row (a19.v1) 9 1 0 none (a19.l1)]))))) else (bif a19.6 then (need bot (GndR (a19.l2)) (k (.code (.exit 0) ((base 22 93).on [z20,(4,.nils),(5,(.sl 0 (a19.v2) 0 (a19.n2) none))]) (hp [.row (a19.v2) 59 4 0 none (a19.l2)])))) else (k (.code (.exit 0) ((base 22 93).on [z20,(4,.nils),(5,.nils)]) Heap.empty)))) (fun e19=>k (qN e19))))))))))) (fun j1:β=>bif
 decide z8 then (j1) else (j1)))))))) else (nX bot (i) z5 (need bot z9 (bif decide z8 then (nX bot (i) z5 (need bot z6 (need bot z10 (nX bot (i) z5 (need bot z9 (jn (nX bot (i) z5 (need bot z6 (nI bot z3 (nI bot (i+1) (need bot z13 (PR.bnd bot (X.18 (.code (.loop (lpB PP 22 0)) ((base 22 93).on [z14,(4,(.sl 0 0 0 1 none)),(5,.nils),(6,(.int .i64 z3)),z17]) (hp [.row 0 9 1 0 none [(.str z2)]])))
 (fun a19=>letI z22:=(0,(.osl 2 (a19.es)));letI z23:=(4,(.sl 0 (a19.v1) 0 (a19.n1) none));bif a19.2 then (bif a19.6 then (need bot (GndR (a19.l1)) (need bot (GndR (a19.l2)) (k (.code (.exit 0) ((base 22 93).on [z22,z23,(5,(.sl 1 (a19.v2) 0 (a19.n2) none))]) (hp [.row (a19.v1) 9 1 0 none (a19.l1),.row (a19.v2) 59 4 0 none (a19.l2)]))))) else (need bot (GndR (a19.l1)) (k (.code (.exit 0) ((base 22
 93).on [z22,z23,(5,.nils)]) (hp [.row (a19.v1) 9 1 0 none (a19.l1)]))))) else (bif a19.6 then (need bot (GndR (a19.l2)) (k (.code (.exit 0) ((base 22 93).on [z22,(4,.nils),(5,(.sl 0 (a19.v2) 0 (a19.n2) none))]) (hp [.row (a19.v2) 59 4 0 none (a19.l2)])))) else (k (.code (.exit 0) ((base 22 93).on [z22,(4,.nils),(5,.nils)]) Heap.empty)))) (fun e19=>k (qN e19)))))))) (fun j2:β=>bif decide z8 then
 (j2) else (j2)))))))) else (nX bot (i) z5 (need bot z9 (jn (nX bot (i) z5 (need bot z6 (nI bot z3 (nI bot (i+1) (PR.bnd bot (X.18 (.code (.loop (lpB PP 22 0)) ((base 22 93).on [z14,(4,.nils),(5,.nils),(6,(.int .i64 z3)),z17]) Heap.empty)) (fun a15=>letI z24:=(0,(.osl 2 (a15.es)));letI z25:=(4,(.sl 0 (a15.v1) 0 (a15.n1) none));bif a15.2 then (bif a15.6 then (need bot (GndR (a15.l1)) (need bot (GndR
 (a15.l2)) (k (.code (.exit 0) ((base 22 93).on [z24,z25,(5,(.sl 1 (a15.v2) 0 (a15.n2) none))]) (hp [.row (a15.v1) 9 1 0 none (a15.l1),.row (a15.v2) 59 4 0 none (a15.l2)]))))) else (need bot (GndR (a15.l1)) (k (.code (.exit 0) ((base 22 93).on [z24,z25,(5,.nils)]) (hp [.row (a15.v1) 9 1 0 none (a15.l1)]))))) else (bif a15.6 then (need bot (GndR (a15.l2)) (k (.code (.exit 0) ((base 22 93).on
 [z24,(4,.nils),(5,(.sl 0 (a15.v2) 0 (a15.n2) none))]) (hp [.row (a15.v2) 59 4 0 none (a15.l2)])))) else (k (.code (.exit 0) ((base 22 93).on [z24,(4,.nils),(5,.nils)]) Heap.empty)))) (fun e15=>k (qN e15))))))) (fun j3:β=>bif decide z8 then (j3) else (j3))))))))) (fun e3=>bot)))) else (k (.code (.exit 0) ((base 22 93).on [z14,(4,.nils),(5,.nils)]) Heap.empty))):=by kernel_rfl
theorem jB1 (es:List V) (g i:Int) (v1 n1:Nat) (l1:List V):evN PP EP CP (qg0 X) ih bot (.code (.loop (lpB PP 22 0)) ((base 22 93).on [(0,.osl 2 es),(4,.sl 0 v1 0 n1 none),(5,.nils),(6,.int .i64 g),(7,.int .i64 i)]) (hp [strR v1 l1])) k =
 (letI z1:=(Int.toNat i*2);letI z2:=(gS 2 es (Nat.add z1 1) 0);letI z3:=(g+(↑(List.length z2):Int));letI z10:=(gI 2 es z1 0);letI z11:=(gS 2 es z1 1);letI z4:=[V.agg [V.int IntKind.i64 z10,V.str z11,V.int IntKind.i64 g,V.osl 1 []]];letI z5:=(List.length es);letI z6:=(ldC PP 9 2 (es) (Nat.add z1 1));letI z13:=(0,(.osl 2 (es)));letI z16:=(4,(.sl 0 (v1) 0 (n1) none));letI z18:=(7,(.int .i64
 (i+1)));letI z7:=((base 22 93).on [z13,z16,(5,(.sl 1 0 0 1 none)),(6,(.int .i64 z3)),z18]);letI z8:=(gI 2 es (Nat.add z1 0) 0=2);letI z9:=(ldC PP 3 2 (es) z1);letI z12:=(n1+List.length [V.str z2]);letI z14:=(hp [.row (v1) 9 1 0 none (l1)]);letI z15:=(((0:Int)≤0)∧((0:Int)<1));letI z17:=(ldC PP 49 2 (es) z1);bif decide (i<(↑z5:Int)) then (nX bot (i) z5 (need bot z17 (PR.bnd bot (X.2 (.call 39 [(.agg
 [(.int .i64 z10),(.str z11)])] Heap.empty)) (fun a3=>bif a3 then (nX bot (i) z5 (need bot z17 (need bot ((z4≠[])∧((1≤1099511627776)∧(56≤1099511627776))) (nX bot (i) z5 (need bot z9 (jn (nX bot (i) z5 (need bot z9 (bif decide z8 then (need bot ((-9223372036854775808≤0)∧((0:Int)≤9223372036854775807)) (need bot z15 (need bot ((0=0)∧(ldX PP 42 4 [(.agg [(.int .i64 z10),(.str z11),(.int .i64 (g)),(.osl
 1 [])])] 3)) (nX bot (i) z5 (need bot z6 (need bot (([V.str z2]≠[])∧((1≤1099511627776)∧(16≤1099511627776))) (need bot z15 (need bot ((0=0)∧((0=0)∧((1=1)∧(GndR [(.str z2)])))) (need bot (0=0) (need bot (stX PP 42 (V.osl 1 [V.str z2]) 0 4 z4 (Nat.add ((0+Int.toNat ((↑(List.length z4):Int)-(1:Int)))*4) 3)) (nX bot (i) z5 (need bot z6 (nI bot z3 (nI bot (i+1) (need bot (GndR (l1)) (need bot (GndR
 [(.agg [(.int .i64 z10),(.str z11),(.int .i64 (g)),(.osl 1 [(.str z2)])])]) (need bot (GndR [(.str z2)]) (PR.bnd bot (X.18 (.code (.loop (lpB PP 22 0)) z7 (hp [.row (v1) 9 1 0 none (l1),.row 0 59 4 0 none [(.agg [(.int .i64 z10),(.str z11),(.int .i64 (g)),(.osl 1 [(.str z2)])])]]))) (fun a31=>letI z19:=(0,(.osl 2 (a31.es)));letI z20:=(4,(.sl 0 (a31.v1) 0 (a31.n1) none));bif a31.2 then (bif a31.6
 then (need bot (GndR (a31.l1)) (need bot (GndR (a31.l2)) (k (.code (.exit 0) ((base 22 93).on [z19,z20,(5,(.sl 1 (a31.v2) 0 (a31.n2) none))]) (hp [.row (a31.v1) 9 1 0 none (a31.l1),.row (a31.v2) 59 4 0 none (a31.l2)]))))) else (need bot (GndR (a31.l1)) (k (.code (.exit 0) ((base 22 93).on [z19,z20,(5,.nils)]) (hp [.row (a31.v1) 9 1 0 none (a31.l1)]))))) else (bif a31.6 then (need bot (GndR
 (a31.l2)) (k (.code (.exit 0) ((base 22 93).on [z19,(4,.nils),(5,(.sl 0 (a31.v2) 0 (a31.n2) none))]) (hp [.row (a31.v2) 59 4 0 none (a31.l2)])))) else (k (.code (.exit 0) ((base 22 93).on [z19,(4,.nils),(5,.nils)]) Heap.empty)))) (fun e31=>k (qN e31)))))))))))))))))))) else (nX bot (i) z5 (need bot z6 (nI bot z3 (nI bot (i+1) (need bot (GndR (l1)) (need bot (GndR [(.agg [(.int .i64 z10),(.str
 z11),(.int .i64 (g)),(.osl 1 [])])]) (PR.bnd bot (X.18 (.code (.loop (lpB PP 22 0)) z7 (hp [.row (v1) 9 1 0 none (l1),.row 0 59 4 0 none [(.agg [(.int .i64 z10),(.str z11),(.int .i64 (g)),(.osl 1 [])])]]))) (fun a20=>letI z21:=(0,(.osl 2 (a20.es)));letI z22:=(4,(.sl 0 (a20.v1) 0 (a20.n1) none));bif a20.2 then (bif a20.6 then (need bot (GndR (a20.l1)) (need bot (GndR (a20.l2)) (k (.code (.exit 0)
 ((base 22 93).on [z21,z22,(5,(.sl 1 (a20.v2) 0 (a20.n2) none))]) (hp [.row (a20.v1) 9 1 0 none (a20.l1),.row (a20.v2) 59 4 0 none (a20.l2)]))))) else (need bot (GndR (a20.l1)) (k (.code (.exit 0) ((base 22 93).on [z21,z22,(5,.nils)]) (hp [.row (a20.v1) 9 1 0 none (a20.l1)]))))) else (bif a20.6 then (need bot (GndR (a20.l2)) (k (.code (.exit 0) ((base 22 93).on [z21,(4,.nils),(5,(.sl 0 (a20.v2) 0
 (a20.n2) none))]) (hp [.row (a20.v2) 59 4 0 none (a20.l2)])))) else (k (.code (.exit 0) ((base 22 93).on [z21,(4,.nils),(5,.nils)]) Heap.empty)))) (fun e20=>k (qN e20)))))))))))) (fun j1:β=>bif decide z8 then (j1) else (j1)))))))) else (nX bot (i) z5 (need bot z9 (bif decide z8 then (nX bot (i) z5 (need bot z6 (need bot (((v1)=(v1))∧(([V.str z2]≠[])∧(((n1)=(List.length
 l1))∧((0≤(n1))∧((z12≤1099511627776)∧((z12*16)≤1099511627776)))))) (nX bot (i) z5 (need bot z9 (jn (nX bot (i) z5 (need bot z6 (nI bot z3 (nI bot (i+1) (need bot (GndR (l1++[V.str z2])) (PR.bnd bot (X.18 (.code (.loop (lpB PP 22 0)) ((base 22 93).on [z13,(4,(.sl 0 (Nat.succ v1) 0 z12 none)),(5,.nils),(6,(.int .i64 z3)),z18]) (hp [.row (Nat.succ v1) 9 1 0 none (l1++[V.str z2])]))) (fun a19=>letI
 z23:=(0,(.osl 2 (a19.es)));letI z24:=(4,(.sl 0 (a19.v1) 0 (a19.n1) none));bif a19.2 then (bif a19.6 then (need bot (GndR (a19.l1)) (need bot (GndR (a19.l2)) (k (.code (.exit 0) ((base 22 93).on [z23,z24,(5,(.sl 1 (a19.v2) 0 (a19.n2) none))]) (hp [.row (a19.v1) 9 1 0 none (a19.l1),.row (a19.v2) 59 4 0 none (a19.l2)]))))) else (need bot (GndR (a19.l1)) (k (.code (.exit 0) ((base 22 93).on
 [z23,z24,(5,.nils)]) (hp [.row (a19.v1) 9 1 0 none (a19.l1)]))))) else (bif a19.6 then (need bot (GndR (a19.l2)) (k (.code (.exit 0) ((base 22 93).on [z23,(4,.nils),(5,(.sl 0 (a19.v2) 0 (a19.n2) none))]) (hp [.row (a19.v2) 59 4 0 none (a19.l2)])))) else (k (.code (.exit 0) ((base 22 93).on [z23,(4,.nils),(5,.nils)]) Heap.empty)))) (fun e19=>k (qN e19)))))))) (fun j2:β=>bif decide z8 then (j2) else
 (j2)))))))) else (nX bot (i) z5 (need bot z9 (jn (nX bot (i) z5 (need bot z6 (nI bot z3 (nI bot (i+1) (need bot (GndR (l1)) (PR.bnd bot (X.18 (.code (.loop (lpB PP 22 0)) ((base 22 93).on [z13,z16,(5,.nils),(6,(.int .i64 z3)),z18]) z14)) (fun a16=>letI z25:=(0,(.osl 2 (a16.es)));letI z26:=(4,(.sl 0 (a16.v1) 0 (a16.n1) none));bif a16.2 then (bif a16.6 then (need bot (GndR (a16.l1)) (need bot (GndR
 (a16.l2)) (k (.code (.exit 0) ((base 22 93).on [z25,z26,(5,(.sl 1 (a16.v2) 0 (a16.n2) none))]) (hp [.row (a16.v1) 9 1 0 none (a16.l1),.row (a16.v2) 59 4 0 none (a16.l2)]))))) else (need bot (GndR (a16.l1)) (k (.code (.exit 0) ((base 22 93).on [z25,z26,(5,.nils)]) (hp [.row (a16.v1) 9 1 0 none (a16.l1)]))))) else (bif a16.6 then (need bot (GndR (a16.l2)) (k (.code (.exit 0) ((base 22 93).on
 [z25,(4,.nils),(5,(.sl 0 (a16.v2) 0 (a16.n2) none))]) (hp [.row (a16.v2) 59 4 0 none (a16.l2)])))) else (k (.code (.exit 0) ((base 22 93).on [z25,(4,.nils),(5,.nils)]) Heap.empty)))) (fun e16=>k (qN e16)))))))) (fun j3:β=>bif decide z8 then (j3) else (j3))))))))) (fun e3=>bot)))) else (need bot (GndR (l1)) (need bot (GndR (l1)) (k (.code (.exit 0) ((base 22 93).on [z13,z16,(5,.nils)]) z14))))):=by kernel_rfl
theorem jA1 (es:List V) (g i:Int) (v2 n2:Nat) (l2:List V):evN PP EP CP (qg0 X) ih bot (.code (.loop (lpB PP 22 0)) ((base 22 93).on [(0,.osl 2 es),(4,.nils),(5,.sl 0 v2 0 n2 none),(6,.int .i64 g),(7,.int .i64 i)]) (hp [QO0 v2 l2])) k =
 (letI z17:=(Int.toNat i*2);letI z1:=[V.agg [V.int IntKind.i64 (gI 2 es z17 0),V.str (gS 2 es z17 1),V.int IntKind.i64 g,V.osl 1 []]];letI z2:=(gS 2 es (Nat.add z17 1) 0);letI z3:=(Nat.add ((0+Int.toNat ((↑n2:Int)-1))*4) 3);letI z7:=(↑(n2+List.length z1):Int);letI z4:=(Nat.add ((0+Int.toNat (z7-1))*4) 3);letI z5:=(ldC PP 9 2 (es) (Nat.add z17 1));letI z6:=(g+(↑(List.length z2):Int));letI
 z8:=(Nat.add ((0+Int.toNat ((↑n2:Int)-(1:Int)))*4) 3);letI z9:=(List.length es);letI z10:=(((0:Int)≤((↑n2:Int)-1))∧(((↑n2:Int)-1)<((↑n2:Int))));letI z11:=((0=0)∧(([V.str z2]≠[])∧(((List.length (gE 4 l2 z3 0))=(List.length (gE 4 l2 z3 0)))∧((0≤(List.length (gE 4 l2 z3 0)))∧(((List.length (gE 4 l2 z3 0)+List.length [V.str z2])≤1099511627776)∧(((List.length (gE 4 l2 z3 0)+List.length [V.str
 z2])*16)≤1099511627776))))));letI z12:=((base 22 93).on [(0,(.osl 2 (es))),(4,.nils),(5,(.sl 0 (Nat.succ v2) 0 (n2+List.length z1) none)),(6,(.int .i64 z6)),(7,(.int .i64 (i+1)))]);letI z13:=((base 22 93).on [(0,(.osl 2 (es))),(4,(.sl 1 0 0 1 none)),(5,(.sl 0 (v2) 0 (n2) none)),(6,(.int .i64 z6)),(7,(.int .i64 (i+1)))]);letI z14:=((base 22 93).on [(0,(.osl 2 (es))),(4,.nils),(5,(.sl 0 (v2) 0 (n2)
 none)),(6,(.int .i64 z6)),(7,(.int .i64 (i+1)))]);letI z15:=(gE 4 l2 z3 0++[V.str z2]);letI z16:=(([V.str z2]≠[])∧((1≤1099511627776)∧(16≤1099511627776)));letI z18:=(gE 4 (l2++z1) z4 0);letI z19:=(V.osl 1 [V.str z2]);letI z20:=(GndR [(.str z2)]);letI z21:=((gE 4 l2 z8 0≠[])∧(((List.length (gE 4 l2 z3 0))≤1099511627776)∧((List.length (gE 4 l2 z3 0)*16)≤1099511627776)));letI z22:=(Nat.add
 ((0+Int.toNat (z7-(1:Int)))*4) 3);letI z23:=(gE 4 (l2++z1) z4 0++[V.str z2]);letI z24:=(gI 2 es (Nat.add z17 0) 0=2);letI z25:=((1=1)∧((0=0)∧(((List.length (gE 4 l2 z3 0)+List.length [V.str z2])=(List.length z15))∧(GndR z15))));letI z26:=(qY0 4 l2 z3 (V.osl 1 z15));letI z27:=(ldC PP 3 2 (es) z17);letI z28:=(List.length z18+List.length [V.str z2]);letI z29:=(((0:Int)≤(z7-1))∧((z7-1)<(z7)));letI
 z30:=((0=0)∧((0=0)∧((1=1)∧z20)));letI z31:=(stX PP 42 (V.osl 1 (gE 4 l2 z8 0++[V.str z2])) 0 4 l2 z8);letI z32:=((Nat.succ v2)=(Nat.succ v2));letI z33:=(qY0 4 l2 z3 z19);letI z34:=(List.length z18);letI z35:=(((v2)=(v2))∧(ldX PP 42 4 (l2) z3));letI z36:=(qY0 4 (l2++z1) z4 (V.osl 1 z23));letI z37:=(hp [.row (v2) 59 4 0 none (l2)]);letI z38:=(stX PP 42 z19 0 4 l2 z8);letI z39:=(qY0 4 (l2++z1) z4
 z19);letI z40:=(ldC PP 49 2 (es) z17);bif decide (i<(↑z9:Int)) then (nX bot (i) z9 (need bot z40 (PR.bnd bot (X.2 (.call 39 [(.agg [(.int .i64 (gI 2 es z17 0)),(.str (gS 2 es z17 1))])] Heap.empty)) (fun a3=>bif a3 then (nX bot (i) z9 (need bot z40 (need bot (((v2)=(v2))∧((z1≠[])∧(((n2)=(List.length l2))∧((0≤(n2))∧(((n2+List.length z1)≤1099511627776)∧(((n2+List.length z1)*56)≤1099511627776))))))
 (nX bot (i) z9 (need bot z27 (jn (nX bot (i) z9 (need bot z27 (jn (nX bot (i) z9 (need bot z5 (nI bot z6 (nI bot (i+1) (need bot (GndR (l2++z1)) (PR.bnd bot (X.18 (.code (.loop (lpB PP 22 0)) z12 (hp [.row (Nat.succ v2) 59 4 0 none (l2++z1)]))) (fun a20=>letI z41:=(0,(.osl 2 (a20.es)));letI z42:=(4,(.sl 0 (a20.v1) 0 (a20.n1) none));bif a20.2 then (bif a20.6 then (need bot (GndR (a20.l1)) (need bot
 (GndR (a20.l2)) (k (.code (.exit 0) ((base 22 93).on [z41,z42,(5,(.sl 1 (a20.v2) 0 (a20.n2) none))]) (hp [.row (a20.v1) 9 1 0 none (a20.l1),.row (a20.v2) 59 4 0 none (a20.l2)]))))) else (need bot (GndR (a20.l1)) (k (.code (.exit 0) ((base 22 93).on [z41,z42,(5,.nils)]) (hp [.row (a20.v1) 9 1 0 none (a20.l1)]))))) else (bif a20.6 then (need bot (GndR (a20.l2)) (k (.code (.exit 0) ((base 22 93).on
 [z41,(4,.nils),(5,(.sl 0 (a20.v2) 0 (a20.n2) none))]) (hp [.row (a20.v2) 59 4 0 none (a20.l2)])))) else (k (.code (.exit 0) ((base 22 93).on [z41,(4,.nils),(5,.nils)]) Heap.empty)))) (fun e20=>k (qN e20)))))))) (fun j2:β=>bif decide z24 then (bif decide (0<z7) then (nI bot (z7-1) (need bot z29 (need bot (z32∧(ldX PP 42 4 (l2++z1) z4)) (bif qn0 z18 then (nX bot (i) z9 (need bot z5 (need bot z16
 (need bot z29 (need bot z30 (need bot z32 (need bot (stX PP 42 z19 0 4 (l2++z1) z22) (nX bot (i) z9 (need bot z5 (nI bot z6 (nI bot (i+1) (need bot (GndR z39) (need bot z20 (PR.bnd bot (X.18 (.code (.loop (lpB PP 22 0)) z12 (hp [.row (Nat.succ v2) 59 4 0 none z39]))) (fun a32=>letI z43:=(0,(.osl 2 (a32.es)));letI z44:=(4,(.sl 0 (a32.v1) 0 (a32.n1) none));bif a32.2 then (bif a32.6 then (need bot
 (GndR (a32.l1)) (need bot (GndR (a32.l2)) (k (.code (.exit 0) ((base 22 93).on [z43,z44,(5,(.sl 1 (a32.v2) 0 (a32.n2) none))]) (hp [.row (a32.v1) 9 1 0 none (a32.l1),.row (a32.v2) 59 4 0 none (a32.l2)]))))) else (need bot (GndR (a32.l1)) (k (.code (.exit 0) ((base 22 93).on [z43,z44,(5,.nils)]) (hp [.row (a32.v1) 9 1 0 none (a32.l1)]))))) else (bif a32.6 then (need bot (GndR (a32.l2)) (k (.code
 (.exit 0) ((base 22 93).on [z43,(4,.nils),(5,(.sl 0 (a32.v2) 0 (a32.n2) none))]) (hp [.row (a32.v2) 59 4 0 none (a32.l2)])))) else (k (.code (.exit 0) ((base 22 93).on [z43,(4,.nils),(5,.nils)]) Heap.empty)))) (fun e32=>k (qN e32)))))))))))))))) else (need bot ((gE 4 (l2++z1) z22 0≠[])∧((z34≤1099511627776)∧((List.length z18*16)≤1099511627776))) (nX bot (i) z9 (need bot z5 (need bot ((0=0)∧(([V.str
 z2]≠[])∧((z34=z34)∧((0≤z34)∧((z28≤1099511627776)∧((z28*16)≤1099511627776)))))) (need bot z29 (need bot ((1=1)∧((0=0)∧((z28=(List.length z23))∧(GndR z23)))) (need bot z32 (need bot (stX PP 42 (V.osl 1 (gE 4 (l2++z1) z22 0++[V.str z2])) 0 4 (l2++z1) z22) (nX bot (i) z9 (need bot z5 (nI bot z6 (nI bot (i+1) (need bot (GndR z36) (need bot (GndR z23) (PR.bnd bot (X.18 (.code (.loop (lpB PP 22 0)) z12
 (hp [.row (Nat.succ v2) 59 4 0 none z36]))) (fun a33=>letI z45:=(0,(.osl 2 (a33.es)));letI z46:=(4,(.sl 0 (a33.v1) 0 (a33.n1) none));bif a33.2 then (bif a33.6 then (need bot (GndR (a33.l1)) (need bot (GndR (a33.l2)) (k (.code (.exit 0) ((base 22 93).on [z45,z46,(5,(.sl 1 (a33.v2) 0 (a33.n2) none))]) (hp [.row (a33.v1) 9 1 0 none (a33.l1),.row (a33.v2) 59 4 0 none (a33.l2)]))))) else (need bot
 (GndR (a33.l1)) (k (.code (.exit 0) ((base 22 93).on [z45,z46,(5,.nils)]) (hp [.row (a33.v1) 9 1 0 none (a33.l1)]))))) else (bif a33.6 then (need bot (GndR (a33.l2)) (k (.code (.exit 0) ((base 22 93).on [z45,(4,.nils),(5,(.sl 0 (a33.v2) 0 (a33.n2) none))]) (hp [.row (a33.v2) 59 4 0 none (a33.l2)])))) else (k (.code (.exit 0) ((base 22 93).on [z45,(4,.nils),(5,.nils)]) Heap.empty)))) (fun e33=>k
 (qN e33))))))))))))))))))))) else (j2)) else (j2))))) (fun j1:β=>bif decide z24 then (j1) else (j1)))))))) else (nX bot (i) z9 (need bot z27 (jn (nX bot (i) z9 (need bot z27 (jn (nX bot (i) z9 (need bot z5 (nI bot z6 (nI bot (i+1) (need bot (GndR (l2)) (PR.bnd bot (X.18 (.code (.loop (lpB PP 22 0)) z14 z37)) (fun a18=>letI z47:=(0,(.osl 2 (a18.es)));letI z48:=(4,(.sl 0 (a18.v1) 0 (a18.n1)
 none));bif a18.2 then (bif a18.6 then (need bot (GndR (a18.l1)) (need bot (GndR (a18.l2)) (k (.code (.exit 0) ((base 22 93).on [z47,z48,(5,(.sl 1 (a18.v2) 0 (a18.n2) none))]) (hp [.row (a18.v1) 9 1 0 none (a18.l1),.row (a18.v2) 59 4 0 none (a18.l2)]))))) else (need bot (GndR (a18.l1)) (k (.code (.exit 0) ((base 22 93).on [z47,z48,(5,.nils)]) (hp [.row (a18.v1) 9 1 0 none (a18.l1)]))))) else (bif
 a18.6 then (need bot (GndR (a18.l2)) (k (.code (.exit 0) ((base 22 93).on [z47,(4,.nils),(5,(.sl 0 (a18.v2) 0 (a18.n2) none))]) (hp [.row (a18.v2) 59 4 0 none (a18.l2)])))) else (k (.code (.exit 0) ((base 22 93).on [z47,(4,.nils),(5,.nils)]) Heap.empty)))) (fun e18=>k (qN e18)))))))) (fun j5:β=>bif decide z24 then (bif decide (0<(↑n2:Int)) then (nI bot ((↑n2:Int)-1) (need bot z10 (need bot z35
 (bif qn0 (gE 4 l2 z3 0) then (nX bot (i) z9 (need bot z5 (need bot z16 (need bot z10 (need bot z30 (need bot ((v2)=(v2)) (need bot z38 (nX bot (i) z9 (need bot z5 (nI bot z6 (nI bot (i+1) (need bot (GndR z33) (need bot z20 (PR.bnd bot (X.18 (.code (.loop (lpB PP 22 0)) z14 (hp [.row (v2) 59 4 0 none z33]))) (fun a30=>letI z49:=(0,(.osl 2 (a30.es)));letI z50:=(4,(.sl 0 (a30.v1) 0 (a30.n1)
 none));bif a30.2 then (bif a30.6 then (need bot (GndR (a30.l1)) (need bot (GndR (a30.l2)) (k (.code (.exit 0) ((base 22 93).on [z49,z50,(5,(.sl 1 (a30.v2) 0 (a30.n2) none))]) (hp [.row (a30.v1) 9 1 0 none (a30.l1),.row (a30.v2) 59 4 0 none (a30.l2)]))))) else (need bot (GndR (a30.l1)) (k (.code (.exit 0) ((base 22 93).on [z49,z50,(5,.nils)]) (hp [.row (a30.v1) 9 1 0 none (a30.l1)]))))) else (bif
 a30.6 then (need bot (GndR (a30.l2)) (k (.code (.exit 0) ((base 22 93).on [z49,(4,.nils),(5,(.sl 0 (a30.v2) 0 (a30.n2) none))]) (hp [.row (a30.v2) 59 4 0 none (a30.l2)])))) else (k (.code (.exit 0) ((base 22 93).on [z49,(4,.nils),(5,.nils)]) Heap.empty)))) (fun e30=>k (qN e30)))))))))))))))) else (need bot z21 (nX bot (i) z9 (need bot z5 (need bot z11 (need bot z10 (need bot z25 (need bot
 ((v2)=(v2)) (need bot z31 (nX bot (i) z9 (need bot z5 (nI bot z6 (nI bot (i+1) (need bot (GndR z26) (need bot (GndR z15) (PR.bnd bot (X.18 (.code (.loop (lpB PP 22 0)) z14 (hp [.row (v2) 59 4 0 none z26]))) (fun a31=>letI z51:=(0,(.osl 2 (a31.es)));letI z52:=(4,(.sl 0 (a31.v1) 0 (a31.n1) none));bif a31.2 then (bif a31.6 then (need bot (GndR (a31.l1)) (need bot (GndR (a31.l2)) (k (.code (.exit 0)
 ((base 22 93).on [z51,z52,(5,(.sl 1 (a31.v2) 0 (a31.n2) none))]) (hp [.row (a31.v1) 9 1 0 none (a31.l1),.row (a31.v2) 59 4 0 none (a31.l2)]))))) else (need bot (GndR (a31.l1)) (k (.code (.exit 0) ((base 22 93).on [z51,z52,(5,.nils)]) (hp [.row (a31.v1) 9 1 0 none (a31.l1)]))))) else (bif a31.6 then (need bot (GndR (a31.l2)) (k (.code (.exit 0) ((base 22 93).on [z51,(4,.nils),(5,(.sl 0 (a31.v2) 0
 (a31.n2) none))]) (hp [.row (a31.v2) 59 4 0 none (a31.l2)])))) else (k (.code (.exit 0) ((base 22 93).on [z51,(4,.nils),(5,.nils)]) Heap.empty)))) (fun e31=>k (qN e31))))))))))))))))))))) else (j5)) else (j5))))) (fun j3:β=>bif decide z24 then (bif decide ((↑n2:Int)=0) then (nX bot (i) z9 (need bot z5 (need bot z16 (nX bot (i) z9 (need bot z27 (jn (nX bot (i) z9 (need bot z5 (nI bot z6 (nI bot
 (i+1) (need bot (GndR (l2)) (need bot z20 (PR.bnd bot (X.18 (.code (.loop (lpB PP 22 0)) z13 (hp [.row (v2) 59 4 0 none (l2),.row 0 9 1 0 none [(.str z2)]]))) (fun a22=>letI z53:=(0,(.osl 2 (a22.es)));letI z54:=(4,(.sl 0 (a22.v1) 0 (a22.n1) none));bif a22.2 then (bif a22.6 then (need bot (GndR (a22.l1)) (need bot (GndR (a22.l2)) (k (.code (.exit 0) ((base 22 93).on [z53,z54,(5,(.sl 1 (a22.v2) 0
 (a22.n2) none))]) (hp [.row (a22.v1) 9 1 0 none (a22.l1),.row (a22.v2) 59 4 0 none (a22.l2)]))))) else (need bot (GndR (a22.l1)) (k (.code (.exit 0) ((base 22 93).on [z53,z54,(5,.nils)]) (hp [.row (a22.v1) 9 1 0 none (a22.l1)]))))) else (bif a22.6 then (need bot (GndR (a22.l2)) (k (.code (.exit 0) ((base 22 93).on [z53,(4,.nils),(5,(.sl 0 (a22.v2) 0 (a22.n2) none))]) (hp [.row (a22.v2) 59 4 0 none
 (a22.l2)])))) else (k (.code (.exit 0) ((base 22 93).on [z53,(4,.nils),(5,.nils)]) Heap.empty)))) (fun e22=>k (qN e22))))))))) (fun j4:β=>bif decide z24 then (bif decide (0<(↑n2:Int)) then (nI bot ((↑n2:Int)-1) (need bot z10 (need bot z35 (bif qn0 (gE 4 l2 z3 0) then (nX bot (i) z9 (need bot z5 (need bot z16 (need bot z10 (need bot z30 (need bot ((v2)=(v2)) (need bot z38 (nX bot (i) z9 (need bot
 z5 (nI bot z6 (nI bot (i+1) (need bot (GndR z33) (need bot z20 (need bot z20 (PR.bnd bot (X.18 (.code (.loop (lpB PP 22 0)) z13 (hp [.row (v2) 59 4 0 none z33,.row 0 9 1 0 none [(.str z2)]]))) (fun a34=>letI z55:=(0,(.osl 2 (a34.es)));letI z56:=(4,(.sl 0 (a34.v1) 0 (a34.n1) none));bif a34.2 then (bif a34.6 then (need bot (GndR (a34.l1)) (need bot (GndR (a34.l2)) (k (.code (.exit 0) ((base 22
 93).on [z55,z56,(5,(.sl 1 (a34.v2) 0 (a34.n2) none))]) (hp [.row (a34.v1) 9 1 0 none (a34.l1),.row (a34.v2) 59 4 0 none (a34.l2)]))))) else (need bot (GndR (a34.l1)) (k (.code (.exit 0) ((base 22 93).on [z55,z56,(5,.nils)]) (hp [.row (a34.v1) 9 1 0 none (a34.l1)]))))) else (bif a34.6 then (need bot (GndR (a34.l2)) (k (.code (.exit 0) ((base 22 93).on [z55,(4,.nils),(5,(.sl 0 (a34.v2) 0 (a34.n2)
 none))]) (hp [.row (a34.v2) 59 4 0 none (a34.l2)])))) else (k (.code (.exit 0) ((base 22 93).on [z55,(4,.nils),(5,.nils)]) Heap.empty)))) (fun e34=>k (qN e34))))))))))))))))) else (need bot z21 (nX bot (i) z9 (need bot z5 (need bot z11 (need bot z10 (need bot z25 (need bot ((v2)=(v2)) (need bot z31 (nX bot (i) z9 (need bot z5 (nI bot z6 (nI bot (i+1) (need bot (GndR z26) (need bot z20 (need bot
 (GndR z15) (PR.bnd bot (X.18 (.code (.loop (lpB PP 22 0)) z13 (hp [.row (v2) 59 4 0 none z26,.row 0 9 1 0 none [(.str z2)]]))) (fun a35=>letI z57:=(0,(.osl 2 (a35.es)));letI z58:=(4,(.sl 0 (a35.v1) 0 (a35.n1) none));bif a35.2 then (bif a35.6 then (need bot (GndR (a35.l1)) (need bot (GndR (a35.l2)) (k (.code (.exit 0) ((base 22 93).on [z57,z58,(5,(.sl 1 (a35.v2) 0 (a35.n2) none))]) (hp [.row
 (a35.v1) 9 1 0 none (a35.l1),.row (a35.v2) 59 4 0 none (a35.l2)]))))) else (need bot (GndR (a35.l1)) (k (.code (.exit 0) ((base 22 93).on [z57,z58,(5,.nils)]) (hp [.row (a35.v1) 9 1 0 none (a35.l1)]))))) else (bif a35.6 then (need bot (GndR (a35.l2)) (k (.code (.exit 0) ((base 22 93).on [z57,(4,.nils),(5,(.sl 0 (a35.v2) 0 (a35.n2) none))]) (hp [.row (a35.v2) 59 4 0 none (a35.l2)])))) else (k
 (.code (.exit 0) ((base 22 93).on [z57,(4,.nils),(5,.nils)]) Heap.empty)))) (fun e35=>k (qN e35)))))))))))))))))))))) else (j4)) else (j4)))))))) else (j3)) else (j3)))))) (fun e3=>bot)))) else (need bot (GndR (l2)) (need bot (GndR (l2)) (k (.code (.exit 0) ((base 22 93).on [(0,(.osl 2 (es))),(4,.nils),(5,(.sl 0 (v2) 0 (n2) none))]) z37))))):=by kernel_rfl
theorem jC1 (es:List V) (g i:Int) (v1 n1:Nat) (l1:List V) (v2 n2:Nat) (l2:List V):evN PP EP CP (qg0 X) ih bot (.code (.loop (lpB PP 22 0)) ((base 22 93).on [(0,.osl 2 es),(4,.sl 0 v1 0 n1 none),(5,.sl 1 v2 0 n2 none),(6,.int .i64 g),(7,.int .i64 i)]) (hp [strR v1 l1,QO0 v2 l2])) k =
 (letI z16:=(Int.toNat i*2);letI z1:=[V.agg [V.int IntKind.i64 (gI 2 es z16 0),V.str (gS 2 es z16 1),V.int IntKind.i64 g,V.osl 1 []]];letI z2:=(gS 2 es (Nat.add z16 1) 0);letI z3:=(Nat.add ((0+Int.toNat ((↑n2:Int)-1))*4) 3);letI z7:=(↑(n2+List.length z1):Int);letI z4:=(Nat.add ((0+Int.toNat (z7-1))*4) 3);letI z5:=(ldC PP 9 2 (es) (Nat.add z16 1));letI z6:=(g+(↑(List.length z2):Int));letI
 z8:=(Nat.add ((0+Int.toNat ((↑n2:Int)-(1:Int)))*4) 3);letI z39:=(n1+List.length [V.str z2]);letI z9:=((base 22 93).on [(0,(.osl 2 (es))),(4,(.sl 0 (Nat.succ v1) 0 z39 none)),(5,(.sl 1 (v2) 0 (n2) none)),(6,(.int .i64 z6)),(7,(.int .i64 (i+1)))]);letI z10:=(List.length es);letI z11:=((base 22 93).on [(0,(.osl 2 (es))),(4,(.sl 0 (v1) 0 (n1) none)),(5,(.sl 1 (Nat.succ v2) 0 (n2+List.length z1)
 none)),(6,(.int .i64 z6)),(7,(.int .i64 (i+1)))]);letI z12:=(((0:Int)≤((↑n2:Int)-1))∧(((↑n2:Int)-1)<((↑n2:Int))));letI z13:=((0=0)∧(([V.str z2]≠[])∧(((List.length (gE 4 l2 z3 0))=(List.length (gE 4 l2 z3 0)))∧((0≤(List.length (gE 4 l2 z3 0)))∧(((List.length (gE 4 l2 z3 0)+List.length [V.str z2])≤1099511627776)∧(((List.length (gE 4 l2 z3 0)+List.length [V.str z2])*16)≤1099511627776))))));letI
 z14:=((base 22 93).on [(0,(.osl 2 (es))),(4,(.sl 0 (v1) 0 (n1) none)),(5,(.sl 1 (v2) 0 (n2) none)),(6,(.int .i64 z6)),(7,(.int .i64 (i+1)))]);letI z15:=(gE 4 l2 z3 0++[V.str z2]);letI z17:=(gE 4 (l2++z1) z4 0);letI z18:=(V.osl 1 [V.str z2]);letI z19:=(([V.str z2]≠[])∧((1≤1099511627776)∧(16≤1099511627776)));letI z20:=((gE 4 l2 z8 0≠[])∧(((List.length (gE 4 l2 z3 0))≤1099511627776)∧((List.length (gE
 4 l2 z3 0)*16)≤1099511627776)));letI z21:=(Nat.add ((0+Int.toNat (z7-(1:Int)))*4) 3);letI z22:=(gE 4 (l2++z1) z4 0++[V.str z2]);letI z23:=(gI 2 es (Nat.add z16 0) 0=2);letI z24:=((1=1)∧((0=0)∧(((List.length (gE 4 l2 z3 0)+List.length [V.str z2])=(List.length z15))∧(GndR z15))));letI z37:=(GndR [(.str z2)]);letI z25:=((0=0)∧((0=0)∧((1=1)∧z37)));letI z26:=(qY0 4 l2 z3 (V.osl 1 z15));letI z27:=(ldC
 PP 3 2 (es) z16);letI z28:=(List.length z17+List.length [V.str z2]);letI z29:=(l1++[V.str z2]);letI z30:=(((0:Int)≤(z7-1))∧((z7-1)<(z7)));letI z31:=(hp [.row (v1) 9 1 0 none (l1),.row (v2) 59 4 0 none (l2)]);letI z32:=(stX PP 42 (V.osl 1 (gE 4 l2 z8 0++[V.str z2])) 0 4 l2 z8);letI z33:=((Nat.succ v2)=(Nat.succ v2));letI z34:=(qY0 4 l2 z3 z18);letI z35:=(List.length z17);letI
 z36:=(((v2)=(v2))∧(ldX PP 42 4 (l2) z3));letI z38:=(qY0 4 (l2++z1) z4 (V.osl 1 z22));letI z40:=(stX PP 42 z18 0 4 l2 z8);letI z41:=(qY0 4 (l2++z1) z4 z18);letI z42:=(ldC PP 49 2 (es) z16);bif decide (i<(↑z10:Int)) then (nX bot (i) z10 (need bot z42 (PR.bnd bot (X.2 (.call 39 [(.agg [(.int .i64 (gI 2 es z16 0)),(.str (gS 2 es z16 1))])] Heap.empty)) (fun a3=>bif a3 then (nX bot (i) z10 (need bot
 z42 (need bot (((v2)=(v2))∧((z1≠[])∧(((n2)=(List.length l2))∧((0≤(n2))∧(((n2+List.length z1)≤1099511627776)∧(((n2+List.length z1)*56)≤1099511627776)))))) (nX bot (i) z10 (need bot z27 (jn (nX bot (i) z10 (need bot z27 (jn (nX bot (i) z10 (need bot z5 (nI bot z6 (nI bot (i+1) (need bot (GndR (l1)) (need bot (GndR (l2++z1)) (PR.bnd bot (X.18 (.code (.loop (lpB PP 22 0)) z11 (hp [.row (v1) 9 1 0 none
 (l1),.row (Nat.succ v2) 59 4 0 none (l2++z1)]))) (fun a21=>letI z43:=(0,(.osl 2 (a21.es)));letI z44:=(4,(.sl 0 (a21.v1) 0 (a21.n1) none));bif a21.2 then (bif a21.6 then (need bot (GndR (a21.l1)) (need bot (GndR (a21.l2)) (k (.code (.exit 0) ((base 22 93).on [z43,z44,(5,(.sl 1 (a21.v2) 0 (a21.n2) none))]) (hp [.row (a21.v1) 9 1 0 none (a21.l1),.row (a21.v2) 59 4 0 none (a21.l2)]))))) else (need bot
 (GndR (a21.l1)) (k (.code (.exit 0) ((base 22 93).on [z43,z44,(5,.nils)]) (hp [.row (a21.v1) 9 1 0 none (a21.l1)]))))) else (bif a21.6 then (need bot (GndR (a21.l2)) (k (.code (.exit 0) ((base 22 93).on [z43,(4,.nils),(5,(.sl 0 (a21.v2) 0 (a21.n2) none))]) (hp [.row (a21.v2) 59 4 0 none (a21.l2)])))) else (k (.code (.exit 0) ((base 22 93).on [z43,(4,.nils),(5,.nils)]) Heap.empty)))) (fun e21=>k
 (qN e21))))))))) (fun j2:β=>bif decide z23 then (bif decide (0<z7) then (nI bot (z7-1) (need bot z30 (need bot (z33∧(ldX PP 42 4 (l2++z1) z4)) (bif qn0 z17 then (nX bot (i) z10 (need bot z5 (need bot z19 (need bot z30 (need bot z25 (need bot z33 (need bot (stX PP 42 z18 0 4 (l2++z1) z21) (nX bot (i) z10 (need bot z5 (nI bot z6 (nI bot (i+1) (need bot (GndR (l1)) (need bot (GndR z41) (need bot
 z37 (PR.bnd bot (X.18 (.code (.loop (lpB PP 22 0)) z11 (hp [.row (v1) 9 1 0 none (l1),.row (Nat.succ v2) 59 4 0 none z41]))) (fun a33=>letI z45:=(0,(.osl 2 (a33.es)));letI z46:=(4,(.sl 0 (a33.v1) 0 (a33.n1) none));bif a33.2 then (bif a33.6 then (need bot (GndR (a33.l1)) (need bot (GndR (a33.l2)) (k (.code (.exit 0) ((base 22 93).on [z45,z46,(5,(.sl 1 (a33.v2) 0 (a33.n2) none))]) (hp [.row (a33.v1)
 9 1 0 none (a33.l1),.row (a33.v2) 59 4 0 none (a33.l2)]))))) else (need bot (GndR (a33.l1)) (k (.code (.exit 0) ((base 22 93).on [z45,z46,(5,.nils)]) (hp [.row (a33.v1) 9 1 0 none (a33.l1)]))))) else (bif a33.6 then (need bot (GndR (a33.l2)) (k (.code (.exit 0) ((base 22 93).on [z45,(4,.nils),(5,(.sl 0 (a33.v2) 0 (a33.n2) none))]) (hp [.row (a33.v2) 59 4 0 none (a33.l2)])))) else (k (.code (.exit
 0) ((base 22 93).on [z45,(4,.nils),(5,.nils)]) Heap.empty)))) (fun e33=>k (qN e33))))))))))))))))) else (need bot ((gE 4 (l2++z1) z21 0≠[])∧((z35≤1099511627776)∧((List.length z17*16)≤1099511627776))) (nX bot (i) z10 (need bot z5 (need bot ((0=0)∧(([V.str z2]≠[])∧((z35=z35)∧((0≤z35)∧((z28≤1099511627776)∧((z28*16)≤1099511627776)))))) (need bot z30 (need bot ((1=1)∧((0=0)∧((z28=(List.length
 z22))∧(GndR z22)))) (need bot z33 (need bot (stX PP 42 (V.osl 1 (gE 4 (l2++z1) z21 0++[V.str z2])) 0 4 (l2++z1) z21) (nX bot (i) z10 (need bot z5 (nI bot z6 (nI bot (i+1) (need bot (GndR (l1)) (need bot (GndR z38) (need bot (GndR z22) (PR.bnd bot (X.18 (.code (.loop (lpB PP 22 0)) z11 (hp [.row (v1) 9 1 0 none (l1),.row (Nat.succ v2) 59 4 0 none z38]))) (fun a34=>letI z47:=(0,(.osl 2
 (a34.es)));letI z48:=(4,(.sl 0 (a34.v1) 0 (a34.n1) none));bif a34.2 then (bif a34.6 then (need bot (GndR (a34.l1)) (need bot (GndR (a34.l2)) (k (.code (.exit 0) ((base 22 93).on [z47,z48,(5,(.sl 1 (a34.v2) 0 (a34.n2) none))]) (hp [.row (a34.v1) 9 1 0 none (a34.l1),.row (a34.v2) 59 4 0 none (a34.l2)]))))) else (need bot (GndR (a34.l1)) (k (.code (.exit 0) ((base 22 93).on [z47,z48,(5,.nils)]) (hp
 [.row (a34.v1) 9 1 0 none (a34.l1)]))))) else (bif a34.6 then (need bot (GndR (a34.l2)) (k (.code (.exit 0) ((base 22 93).on [z47,(4,.nils),(5,(.sl 0 (a34.v2) 0 (a34.n2) none))]) (hp [.row (a34.v2) 59 4 0 none (a34.l2)])))) else (k (.code (.exit 0) ((base 22 93).on [z47,(4,.nils),(5,.nils)]) Heap.empty)))) (fun e34=>k (qN e34)))))))))))))))))))))) else (j2)) else (j2))))) (fun j1:β=>bif decide z23
 then (j1) else (j1)))))))) else (nX bot (i) z10 (need bot z27 (jn (nX bot (i) z10 (need bot z27 (jn (nX bot (i) z10 (need bot z5 (nI bot z6 (nI bot (i+1) (need bot (GndR (l1)) (need bot (GndR (l2)) (PR.bnd bot (X.18 (.code (.loop (lpB PP 22 0)) z14 z31)) (fun a19=>letI z49:=(0,(.osl 2 (a19.es)));letI z50:=(4,(.sl 0 (a19.v1) 0 (a19.n1) none));bif a19.2 then (bif a19.6 then (need bot (GndR (a19.l1))
 (need bot (GndR (a19.l2)) (k (.code (.exit 0) ((base 22 93).on [z49,z50,(5,(.sl 1 (a19.v2) 0 (a19.n2) none))]) (hp [.row (a19.v1) 9 1 0 none (a19.l1),.row (a19.v2) 59 4 0 none (a19.l2)]))))) else (need bot (GndR (a19.l1)) (k (.code (.exit 0) ((base 22 93).on [z49,z50,(5,.nils)]) (hp [.row (a19.v1) 9 1 0 none (a19.l1)]))))) else (bif a19.6 then (need bot (GndR (a19.l2)) (k (.code (.exit 0) ((base
 22 93).on [z49,(4,.nils),(5,(.sl 0 (a19.v2) 0 (a19.n2) none))]) (hp [.row (a19.v2) 59 4 0 none (a19.l2)])))) else (k (.code (.exit 0) ((base 22 93).on [z49,(4,.nils),(5,.nils)]) Heap.empty)))) (fun e19=>k (qN e19))))))))) (fun j5:β=>bif decide z23 then (bif decide (0<(↑n2:Int)) then (nI bot ((↑n2:Int)-1) (need bot z12 (need bot z36 (bif qn0 (gE 4 l2 z3 0) then (nX bot (i) z10 (need bot z5 (need
 bot z19 (need bot z12 (need bot z25 (need bot ((v2)=(v2)) (need bot z40 (nX bot (i) z10 (need bot z5 (nI bot z6 (nI bot (i+1) (need bot (GndR (l1)) (need bot (GndR z34) (need bot z37 (PR.bnd bot (X.18 (.code (.loop (lpB PP 22 0)) z14 (hp [.row (v1) 9 1 0 none (l1),.row (v2) 59 4 0 none z34]))) (fun a31=>letI z51:=(0,(.osl 2 (a31.es)));letI z52:=(4,(.sl 0 (a31.v1) 0 (a31.n1) none));bif a31.2 then
 (bif a31.6 then (need bot (GndR (a31.l1)) (need bot (GndR (a31.l2)) (k (.code (.exit 0) ((base 22 93).on [z51,z52,(5,(.sl 1 (a31.v2) 0 (a31.n2) none))]) (hp [.row (a31.v1) 9 1 0 none (a31.l1),.row (a31.v2) 59 4 0 none (a31.l2)]))))) else (need bot (GndR (a31.l1)) (k (.code (.exit 0) ((base 22 93).on [z51,z52,(5,.nils)]) (hp [.row (a31.v1) 9 1 0 none (a31.l1)]))))) else (bif a31.6 then (need bot
 (GndR (a31.l2)) (k (.code (.exit 0) ((base 22 93).on [z51,(4,.nils),(5,(.sl 0 (a31.v2) 0 (a31.n2) none))]) (hp [.row (a31.v2) 59 4 0 none (a31.l2)])))) else (k (.code (.exit 0) ((base 22 93).on [z51,(4,.nils),(5,.nils)]) Heap.empty)))) (fun e31=>k (qN e31))))))))))))))))) else (need bot z20 (nX bot (i) z10 (need bot z5 (need bot z13 (need bot z12 (need bot z24 (need bot ((v2)=(v2)) (need bot z32
 (nX bot (i) z10 (need bot z5 (nI bot z6 (nI bot (i+1) (need bot (GndR (l1)) (need bot (GndR z26) (need bot (GndR z15) (PR.bnd bot (X.18 (.code (.loop (lpB PP 22 0)) z14 (hp [.row (v1) 9 1 0 none (l1),.row (v2) 59 4 0 none z26]))) (fun a32=>letI z53:=(0,(.osl 2 (a32.es)));letI z54:=(4,(.sl 0 (a32.v1) 0 (a32.n1) none));bif a32.2 then (bif a32.6 then (need bot (GndR (a32.l1)) (need bot (GndR
 (a32.l2)) (k (.code (.exit 0) ((base 22 93).on [z53,z54,(5,(.sl 1 (a32.v2) 0 (a32.n2) none))]) (hp [.row (a32.v1) 9 1 0 none (a32.l1),.row (a32.v2) 59 4 0 none (a32.l2)]))))) else (need bot (GndR (a32.l1)) (k (.code (.exit 0) ((base 22 93).on [z53,z54,(5,.nils)]) (hp [.row (a32.v1) 9 1 0 none (a32.l1)]))))) else (bif a32.6 then (need bot (GndR (a32.l2)) (k (.code (.exit 0) ((base 22 93).on
 [z53,(4,.nils),(5,(.sl 0 (a32.v2) 0 (a32.n2) none))]) (hp [.row (a32.v2) 59 4 0 none (a32.l2)])))) else (k (.code (.exit 0) ((base 22 93).on [z53,(4,.nils),(5,.nils)]) Heap.empty)))) (fun e32=>k (qN e32)))))))))))))))))))))) else (j5)) else (j5))))) (fun j3:β=>bif decide z23 then (bif decide ((↑n2:Int)=0) then (nX bot (i) z10 (need bot z5 (need bot (((v1)=(v1))∧(([V.str z2]≠[])∧(((n1)=(List.length
 l1))∧((0≤(n1))∧((z39≤1099511627776)∧((z39*16)≤1099511627776)))))) (nX bot (i) z10 (need bot z27 (jn (nX bot (i) z10 (need bot z5 (nI bot z6 (nI bot (i+1) (need bot (GndR z29) (need bot (GndR (l2)) (PR.bnd bot (X.18 (.code (.loop (lpB PP 22 0)) z9 (hp [.row (Nat.succ v1) 9 1 0 none z29,.row (v2) 59 4 0 none (l2)]))) (fun a22=>letI z55:=(0,(.osl 2 (a22.es)));letI z56:=(4,(.sl 0 (a22.v1) 0 (a22.n1)
 none));bif a22.2 then (bif a22.6 then (need bot (GndR (a22.l1)) (need bot (GndR (a22.l2)) (k (.code (.exit 0) ((base 22 93).on [z55,z56,(5,(.sl 1 (a22.v2) 0 (a22.n2) none))]) (hp [.row (a22.v1) 9 1 0 none (a22.l1),.row (a22.v2) 59 4 0 none (a22.l2)]))))) else (need bot (GndR (a22.l1)) (k (.code (.exit 0) ((base 22 93).on [z55,z56,(5,.nils)]) (hp [.row (a22.v1) 9 1 0 none (a22.l1)]))))) else (bif
 a22.6 then (need bot (GndR (a22.l2)) (k (.code (.exit 0) ((base 22 93).on [z55,(4,.nils),(5,(.sl 0 (a22.v2) 0 (a22.n2) none))]) (hp [.row (a22.v2) 59 4 0 none (a22.l2)])))) else (k (.code (.exit 0) ((base 22 93).on [z55,(4,.nils),(5,.nils)]) Heap.empty)))) (fun e22=>k (qN e22))))))))) (fun j4:β=>bif decide z23 then (bif decide (0<(↑n2:Int)) then (nI bot ((↑n2:Int)-1) (need bot z12 (need bot z36
 (bif qn0 (gE 4 l2 z3 0) then (nX bot (i) z10 (need bot z5 (need bot z19 (need bot z12 (need bot z25 (need bot ((v2)=(v2)) (need bot z40 (nX bot (i) z10 (need bot z5 (nI bot z6 (nI bot (i+1) (need bot (GndR z29) (need bot (GndR z34) (need bot z37 (PR.bnd bot (X.18 (.code (.loop (lpB PP 22 0)) z9 (hp [.row (Nat.succ v1) 9 1 0 none z29,.row (v2) 59 4 0 none z34]))) (fun a34=>letI z57:=(0,(.osl 2
 (a34.es)));letI z58:=(4,(.sl 0 (a34.v1) 0 (a34.n1) none));bif a34.2 then (bif a34.6 then (need bot (GndR (a34.l1)) (need bot (GndR (a34.l2)) (k (.code (.exit 0) ((base 22 93).on [z57,z58,(5,(.sl 1 (a34.v2) 0 (a34.n2) none))]) (hp [.row (a34.v1) 9 1 0 none (a34.l1),.row (a34.v2) 59 4 0 none (a34.l2)]))))) else (need bot (GndR (a34.l1)) (k (.code (.exit 0) ((base 22 93).on [z57,z58,(5,.nils)]) (hp
 [.row (a34.v1) 9 1 0 none (a34.l1)]))))) else (bif a34.6 then (need bot (GndR (a34.l2)) (k (.code (.exit 0) ((base 22 93).on [z57,(4,.nils),(5,(.sl 0 (a34.v2) 0 (a34.n2) none))]) (hp [.row (a34.v2) 59 4 0 none (a34.l2)])))) else (k (.code (.exit 0) ((base 22 93).on [z57,(4,.nils),(5,.nils)]) Heap.empty)))) (fun e34=>k (qN e34))))))))))))))))) else (need bot z20 (nX bot (i) z10 (need bot z5 (need
 bot z13 (need bot z12 (need bot z24 (need bot ((v2)=(v2)) (need bot z32 (nX bot (i) z10 (need bot z5 (nI bot z6 (nI bot (i+1) (need bot (GndR z29) (need bot (GndR z26) (need bot (GndR z15) (PR.bnd bot (X.18 (.code (.loop (lpB PP 22 0)) z9 (hp [.row (Nat.succ v1) 9 1 0 none z29,.row (v2) 59 4 0 none z26]))) (fun a35=>letI z59:=(0,(.osl 2 (a35.es)));letI z60:=(4,(.sl 0 (a35.v1) 0 (a35.n1) none));bif
 a35.2 then (bif a35.6 then (need bot (GndR (a35.l1)) (need bot (GndR (a35.l2)) (k (.code (.exit 0) ((base 22 93).on [z59,z60,(5,(.sl 1 (a35.v2) 0 (a35.n2) none))]) (hp [.row (a35.v1) 9 1 0 none (a35.l1),.row (a35.v2) 59 4 0 none (a35.l2)]))))) else (need bot (GndR (a35.l1)) (k (.code (.exit 0) ((base 22 93).on [z59,z60,(5,.nils)]) (hp [.row (a35.v1) 9 1 0 none (a35.l1)]))))) else (bif a35.6 then
 (need bot (GndR (a35.l2)) (k (.code (.exit 0) ((base 22 93).on [z59,(4,.nils),(5,(.sl 0 (a35.v2) 0 (a35.n2) none))]) (hp [.row (a35.v2) 59 4 0 none (a35.l2)])))) else (k (.code (.exit 0) ((base 22 93).on [z59,(4,.nils),(5,.nils)]) Heap.empty)))) (fun e35=>k (qN e35)))))))))))))))))))))) else (j4)) else (j4)))))))) else (j3)) else (j3)))))) (fun e3=>bot)))) else (need bot (GndR (l1)) (need bot
 (GndR (l2)) (need bot (GndR (l1)) (need bot (GndR (l2)) (k (.code (.exit 0) ((base 22 93).on [(0,(.osl 2 (es))),(4,(.sl 0 (v1) 0 (n1) none)),(5,(.sl 1 (v2) 0 (n2) none))]) z31))))))):=by kernel_rfl
theorem jD1 (ds xs ys:List V) (i:Int):evN PP EP CP (qg0 X) ih bot (.code (.loop (lpB PP 13 0)) ((base 13 98).on [(1,.osl 1 ds),(9,.osl 4 xs),(14,.osl 4 ys),(15,.nils),(16,.int .i64 i)]) Heap.empty) k =
 (letI z4:=(Int.toNat i*1);letI z11:=(↑(List.length ys):Int);letI z1:=(Int.toNat (gI 1 ds z4 0%z11)*4);letI z2:=(Int.toNat i*4);letI z5:=(gI 4 xs z2 0);letI z6:=(gS 4 xs z2 1);letI z7:=(gI 4 xs z2 2);letI z8:=(gE 4 xs z2 3);letI z3:=([V.agg [V.int IntKind.i64 z5,V.str z6,V.int IntKind.i64 z7,V.osl 1 z8]]≠[]);letI z19:=(gI 4 ys z1 0);letI z20:=(gS 4 ys z1 1);letI z21:=(gI 4 ys z1 2);letI z22:=(gE 4
 ys z1 3);letI z9:=([V.agg [V.int IntKind.i64 z19,V.str z20,V.int IntKind.i64 z21,V.osl 1 z22]]≠[]);letI z14:=(1,(.osl 1 (ds)));letI z24:=(9,(.osl 4 (xs)));letI z23:=(14,(.osl 4 (ys)));letI z17:=(16,(.int .i64 (i+1)));letI z10:=((base 13 98).on [z14,z24,z23,(15,(.sl 0 1 0 2 none)),z17]);letI z12:=((1=1)∧((0≤1)∧((2≤1099511627776)∧(112≤1099511627776))));letI
 z13:=(z3∧((1≤1099511627776)∧(56≤1099511627776)));letI z15:=(((0:Int)≤(gI 1 ds z4 0))∧((0:Int)<(z11)));letI z16:=(List.length xs);letI z18:=(ldC PP 59 4 (xs) z2);letI z25:=(ldC PP 59 4 (ys) z1);letI z26:=(gI 1 ds z4 0≤225);bif decide (i<(↑z16:Int)) then (jn (nI bot (i+1) (need bot (GndR [(.agg [(.int .i64 z5),(.str z6),(.int .i64 z7),(.osl 1 z8)])]) (PR.bnd bot (X.19 (.code (.loop (lpB PP 13 0))
 ((base 13 98).on [z14,z24,z23,(15,(.sl 0 0 0 1 none)),z17]) (hp [.row 0 59 4 0 none [(.agg [(.int .i64 z5),(.str z6),(.int .i64 z7),(.osl 1 z8)])]]))) (fun a15=>letI z27:=(1,(.osl 1 (a15.2.2.2.2)));bif a15.1 then (need bot (GndR (a15.2.2.2.1)) (k (.code (.exit 0) ((base 13 98).on [z27,(15,(.sl 0 (a15.2.1) 0 (a15.2.2.1) none))]) (hp [.row (a15.2.1) 59 4 0 none (a15.2.2.2.1)])))) else (k (.code
 (.exit 0) ((base 13 98).on [z27,(15,.nils)]) Heap.empty))) (fun e15=>k (qN e15))))) (fun j1:β=>bif decide (i<(↑(List.length ds):Int)) then (nX bot (i) (List.length ds) (need bot (ldC PP 5 1 (ds) z4) (nI bot (gI 1 ds z4 0) (bif decide (240<gI 1 ds z4 0) then (nI bot (i+1) (PR.bnd bot (X.19 (.code (.loop (lpB PP 13 0)) ((base 13 98).on [z14,z24,z23,(15,.nils),z17]) Heap.empty)) (fun a7=>letI
 z28:=(1,(.osl 1 (a7.2.2.2.2)));bif a7.1 then (need bot (GndR (a7.2.2.2.1)) (k (.code (.exit 0) ((base 13 98).on [z28,(15,(.sl 0 (a7.2.1) 0 (a7.2.2.1) none))]) (hp [.row (a7.2.1) 59 4 0 none (a7.2.2.2.1)])))) else (k (.code (.exit 0) ((base 13 98).on [z28,(15,.nils)]) Heap.empty))) (fun e7=>k (qN e7)))) else (nX bot (i) z16 (need bot z18 (need bot z13 (bif decide (225<gI 1 ds z4 0) then (nX bot (i)
 z16 (need bot z18 (need bot ((0=0)∧(z3∧z12)) (jn (nI bot (i+1) (need bot (GndR [(.agg [(.int .i64 z5),(.str z6),(.int .i64 z7),(.osl 1 z8)]),(.agg [(.int .i64 z5),(.str z6),(.int .i64 z7),(.osl 1 z8)])]) (PR.bnd bot (X.19 (.code (.loop (lpB PP 13 0)) z10 (hp [.row 1 59 4 0 none [(.agg [(.int .i64 z5),(.str z6),(.int .i64 z7),(.osl 1 z8)]),(.agg [(.int .i64 z5),(.str z6),(.int .i64 z7),(.osl 1
 z8)])]]))) (fun a18=>letI z29:=(1,(.osl 1 (a18.2.2.2.2)));bif a18.1 then (need bot (GndR (a18.2.2.2.1)) (k (.code (.exit 0) ((base 13 98).on [z29,(15,(.sl 0 (a18.2.1) 0 (a18.2.2.1) none))]) (hp [.row (a18.2.1) 59 4 0 none (a18.2.2.2.1)])))) else (k (.code (.exit 0) ((base 13 98).on [z29,(15,.nils)]) Heap.empty))) (fun e18=>k (qN e18))))) (fun j2:β=>bif decide (210<gI 1 ds z4 0) then (bif decide
 z26 then (bif decide (0<z11) then (need bot z15 (nX bot (gI 1 ds z4 0%z11) (List.length ys) (need bot z25 (need bot ((1=1)∧(z9∧((2=2)∧((0≤2)∧((3≤1099511627776)∧(168≤1099511627776)))))) (nI bot (i+1) (need bot (GndR [(.agg [(.int .i64 z5),(.str z6),(.int .i64 z7),(.osl 1 z8)]),(.agg [(.int .i64 z5),(.str z6),(.int .i64 z7),(.osl 1 z8)]),(.agg [(.int .i64 z19),(.str z20),(.int .i64 z21),(.osl 1
 z22)])]) (PR.bnd bot (X.19 (.code (.loop (lpB PP 13 0)) ((base 13 98).on [z14,z24,z23,(15,(.sl 0 2 0 3 none)),z17]) (hp [.row 2 59 4 0 none [(.agg [(.int .i64 z5),(.str z6),(.int .i64 z7),(.osl 1 z8)]),(.agg [(.int .i64 z5),(.str z6),(.int .i64 z7),(.osl 1 z8)]),(.agg [(.int .i64 z19),(.str z20),(.int .i64 z21),(.osl 1 z22)])]]))) (fun a22=>letI z30:=(1,(.osl 1 (a22.2.2.2.2)));bif a22.1 then (need
 bot (GndR (a22.2.2.2.1)) (k (.code (.exit 0) ((base 13 98).on [z30,(15,(.sl 0 (a22.2.1) 0 (a22.2.2.1) none))]) (hp [.row (a22.2.1) 59 4 0 none (a22.2.2.2.1)])))) else (k (.code (.exit 0) ((base 13 98).on [z30,(15,.nils)]) Heap.empty))) (fun e22=>k (qN e22))))))))) else (j2)) else (j2)) else (j2)))))) else (bif decide (210<gI 1 ds z4 0) then (bif decide z26 then (bif decide (0<z11) then (need bot
 z15 (nX bot (gI 1 ds z4 0%z11) (List.length ys) (need bot z25 (need bot ((0=0)∧(z9∧z12)) (nI bot (i+1) (need bot (GndR [(.agg [(.int .i64 z5),(.str z6),(.int .i64 z7),(.osl 1 z8)]),(.agg [(.int .i64 z19),(.str z20),(.int .i64 z21),(.osl 1 z22)])]) (PR.bnd bot (X.19 (.code (.loop (lpB PP 13 0)) z10 (hp [.row 1 59 4 0 none [(.agg [(.int .i64 z5),(.str z6),(.int .i64 z7),(.osl 1 z8)]),(.agg [(.int
 .i64 z19),(.str z20),(.int .i64 z21),(.osl 1 z22)])]]))) (fun a19=>letI z31:=(1,(.osl 1 (a19.2.2.2.2)));bif a19.1 then (need bot (GndR (a19.2.2.2.1)) (k (.code (.exit 0) ((base 13 98).on [z31,(15,(.sl 0 (a19.2.1) 0 (a19.2.2.1) none))]) (hp [.row (a19.2.1) 59 4 0 none (a19.2.2.2.1)])))) else (k (.code (.exit 0) ((base 13 98).on [z31,(15,.nils)]) Heap.empty))) (fun e19=>k (qN e19))))))))) else (j1))
 else (j1)) else (j1)))))))))) else (nX bot (i) z16 (need bot z18 (need bot z13 (j1)))))) else (k (.code (.exit 0) ((base 13 98).on [z14,(15,.nils)]) Heap.empty))):=by kernel_rfl
theorem jE1 (ds xs ys:List V) (i:Int) (v n:Nat) (l:List V):evN PP EP CP (qg0 X) ih bot (.code (.loop (lpB PP 13 0)) ((base 13 98).on [(1,.osl 1 ds),(9,.osl 4 xs),(14,.osl 4 ys),(15,.sl 0 v 0 n none),(16,.int .i64 i)]) (hp [QO0 v l])) k =
 (letI z1:=[V.agg [V.int IntKind.i64 (gI 4 xs (Int.toNat i*4) 0),V.str (gS 4 xs (Int.toNat i*4) 1),V.int IntKind.i64 (gI 4 xs (Int.toNat i*4) 2),V.osl 1 (gE 4 xs (Int.toNat i*4) 3)]];letI z3:=(Int.toNat i*1);letI z4:=(↑(List.length ys):Int);letI z2:=[V.agg [V.int IntKind.i64 (gI 4 ys (Int.toNat (gI 1 ds z3 0%z4)*4) 0),V.str (gS 4 ys (Int.toNat (gI 1 ds z3 0%z4)*4) 1),V.int IntKind.i64 (gI 4 ys
 (Int.toNat (gI 1 ds z3 0%z4)*4) 2),V.osl 1 (gE 4 ys (Int.toNat (gI 1 ds z3 0%z4)*4) 3)]];letI z12:=(n+List.length z1);letI z5:=(((v)=(v))∧((z1≠[])∧(((n)=(List.length l))∧((0≤(n))∧((z12≤1099511627776)∧((z12*56)≤1099511627776))))));letI z6:=(Nat.succ (Nat.succ v));letI z7:=(n+List.length z1+List.length z1);letI z8:=(n+List.length z1+List.length z1+List.length z2);letI z9:=(16,(.int .i64 (i+1)));letI
 z10:=(1,(.osl 1 (ds)));letI z11:=(14,(.osl 4 (ys)));letI z13:=(ldC PP 59 4 (xs) (Int.toNat i*4));letI z14:=(n+List.length z1+List.length z2);letI z15:=(9,(.osl 4 (xs)));letI z16:=(ldC PP 59 4 (ys) (Int.toNat (gI 1 ds z3 0%z4)*4));letI z17:=(((0:Int)≤(gI 1 ds z3 0))∧((0:Int)<(z4)));letI z18:=(List.length xs);letI z19:=(hp [.row (v) 59 4 0 none (l)]);letI z20:=(15,(.sl 0 (v) 0 (n) none));letI
 z21:=((Nat.succ v)=(Nat.succ v));letI z22:=(z12=(List.length (l++z1)));letI z23:=(gI 1 ds z3 0≤225);bif decide (i<(↑z18:Int)) then (jn (nI bot (i+1) (need bot (GndR (l++z1)) (PR.bnd bot (X.19 (.code (.loop (lpB PP 13 0)) ((base 13 98).on [z10,z15,z11,(15,(.sl 0 (Nat.succ v) 0 z12 none)),z9]) (hp [.row (Nat.succ v) 59 4 0 none (l++z1)]))) (fun a15=>letI z24:=(1,(.osl 1 (a15.2.2.2.2)));bif a15.1
 then (need bot (GndR (a15.2.2.2.1)) (k (.code (.exit 0) ((base 13 98).on [z24,(15,(.sl 0 (a15.2.1) 0 (a15.2.2.1) none))]) (hp [.row (a15.2.1) 59 4 0 none (a15.2.2.2.1)])))) else (k (.code (.exit 0) ((base 13 98).on [z24,(15,.nils)]) Heap.empty))) (fun e15=>k (qN e15))))) (fun j1:β=>bif decide (i<(↑(List.length ds):Int)) then (nX bot (i) (List.length ds) (need bot (ldC PP 5 1 (ds) z3) (nI bot (gI 1
 ds z3 0) (bif decide (240<gI 1 ds z3 0) then (nI bot (i+1) (need bot (GndR (l)) (PR.bnd bot (X.19 (.code (.loop (lpB PP 13 0)) ((base 13 98).on [z10,z15,z11,z20,z9]) z19)) (fun a8=>letI z25:=(1,(.osl 1 (a8.2.2.2.2)));bif a8.1 then (need bot (GndR (a8.2.2.2.1)) (k (.code (.exit 0) ((base 13 98).on [z25,(15,(.sl 0 (a8.2.1) 0 (a8.2.2.1) none))]) (hp [.row (a8.2.1) 59 4 0 none (a8.2.2.2.1)])))) else
 (k (.code (.exit 0) ((base 13 98).on [z25,(15,.nils)]) Heap.empty))) (fun e8=>k (qN e8))))) else (nX bot (i) z18 (need bot z13 (need bot z5 (bif decide (225<gI 1 ds z3 0) then (nX bot (i) z18 (need bot z13 (need bot (z21∧((z1≠[])∧(z22∧((0≤z12)∧((z7≤1099511627776)∧((z7*56)≤1099511627776)))))) (jn (nI bot (i+1) (need bot (GndR (l++z1++z1)) (PR.bnd bot (X.19 (.code (.loop (lpB PP 13 0)) ((base 13
 98).on [z10,z15,z11,(15,(.sl 0 z6 0 z7 none)),z9]) (hp [.row z6 59 4 0 none (l++z1++z1)]))) (fun a18=>letI z26:=(1,(.osl 1 (a18.2.2.2.2)));bif a18.1 then (need bot (GndR (a18.2.2.2.1)) (k (.code (.exit 0) ((base 13 98).on [z26,(15,(.sl 0 (a18.2.1) 0 (a18.2.2.1) none))]) (hp [.row (a18.2.1) 59 4 0 none (a18.2.2.2.1)])))) else (k (.code (.exit 0) ((base 13 98).on [z26,(15,.nils)]) Heap.empty))) (fun
 e18=>k (qN e18))))) (fun j2:β=>bif decide (210<gI 1 ds z3 0) then (bif decide z23 then (bif decide (0<z4) then (need bot z17 (nX bot (gI 1 ds z3 0%z4) (List.length ys) (need bot z16 (need bot ((z6=z6)∧((z2≠[])∧((z7=(List.length (l++z1++z1)))∧((0≤z7)∧((z8≤1099511627776)∧((z8*56)≤1099511627776)))))) (nI bot (i+1) (need bot (GndR (l++z1++z1++z2)) (PR.bnd bot (X.19 (.code (.loop (lpB PP 13 0)) ((base
 13 98).on [z10,z15,z11,(15,(.sl 0 (Nat.succ z6) 0 z8 none)),z9]) (hp [.row (Nat.succ z6) 59 4 0 none (l++z1++z1++z2)]))) (fun a22=>letI z27:=(1,(.osl 1 (a22.2.2.2.2)));bif a22.1 then (need bot (GndR (a22.2.2.2.1)) (k (.code (.exit 0) ((base 13 98).on [z27,(15,(.sl 0 (a22.2.1) 0 (a22.2.2.1) none))]) (hp [.row (a22.2.1) 59 4 0 none (a22.2.2.2.1)])))) else (k (.code (.exit 0) ((base 13 98).on
 [z27,(15,.nils)]) Heap.empty))) (fun e22=>k (qN e22))))))))) else (j2)) else (j2)) else (j2)))))) else (bif decide (210<gI 1 ds z3 0) then (bif decide z23 then (bif decide (0<z4) then (need bot z17 (nX bot (gI 1 ds z3 0%z4) (List.length ys) (need bot z16 (need bot (z21∧((z2≠[])∧(z22∧((0≤z12)∧((z14≤1099511627776)∧((z14*56)≤1099511627776)))))) (nI bot (i+1) (need bot (GndR (l++z1++z2)) (PR.bnd bot
 (X.19 (.code (.loop (lpB PP 13 0)) ((base 13 98).on [z10,z15,z11,(15,(.sl 0 z6 0 z14 none)),z9]) (hp [.row z6 59 4 0 none (l++z1++z2)]))) (fun a19=>letI z28:=(1,(.osl 1 (a19.2.2.2.2)));bif a19.1 then (need bot (GndR (a19.2.2.2.1)) (k (.code (.exit 0) ((base 13 98).on [z28,(15,(.sl 0 (a19.2.1) 0 (a19.2.2.1) none))]) (hp [.row (a19.2.1) 59 4 0 none (a19.2.2.2.1)])))) else (k (.code (.exit 0) ((base
 13 98).on [z28,(15,.nils)]) Heap.empty))) (fun e19=>k (qN e19))))))))) else (j1)) else (j1)) else (j1)))))))))) else (nX bot (i) z18 (need bot z13 (need bot z5 (j1)))))) else (need bot (GndR (l)) (need bot (GndR (l)) (k (.code (.exit 0) ((base 13 98).on [z10,z20]) z19))))):=by kernel_rfl
end
/-- DATA: tokens, items, texts, numbers as elements of rows. -/
theorem yy0 {sz:Nat} {es:List V} {i j q:Nat} {e:V} (hz:j<sz) (he:es[i]?=some e):YS0 sz es (i*sz+j) q=e.cells.getD (j+q) undef:=by
 have h1:(i*sz+j)/sz=i:=by rw [Nat.add_comm,Nat.add_mul_div_right _ _ (by omega),Nat.div_eq_of_lt hz,Nat.zero_add]
 have h2:(i*sz+j)%sz=j:=by rw [Nat.add_comm,Nat.add_mul_mod_self_right,Nat.mod_eq_of_lt hz]
 unfold YS0
 rw [h1,h2,show es.getD i undef=e by rw [List.getD_eq_getElem?_getD,he];rfl]
theorem Ya0 {sz:Nat} {es:List V} {i j k:Nat} {e:V} (hz:2≤sz) (hj:j<sz) (hk:j+k≤e.cells.length) (he:es[i]?=some e):zg0 sz es (i*sz+j) k=some ((e.cells.drop j).take k):=by
 have h1:(i*sz+j)/sz=i:=by rw [Nat.add_comm,Nat.add_mul_div_right _ _ (by omega),Nat.div_eq_of_lt hj,Nat.zero_add]
 have h2:(i*sz+j)%sz=j:=by rw [Nat.add_comm,Nat.add_mul_mod_self_right,Nat.mod_eq_of_lt hj]
 unfold zg0
 rw [show Nat.beq sz 1=false by
  cases hb:Nat.beq sz 1 with
  | false=>rfl
  | true=>have:=Nat.eq_of_beq_eq_true hb;omega]
 simp only [cond_false]
 rw [show Nat.div (i*sz+j) sz=i from h1,show Nat.mod (i*sz+j) sz=j from h2,List.at_eq,he]
 simp only [List.len_eq,List.takeN_eq,List.dropN_eq]
 rw [show Nat.ble (Nat.add j k) e.cells.length=true by rw [Nat.ble_eq];exact hk]
 rfl
theorem qq1 {es:List V} {i:Nat} {e:V} (he:es[i]?=some e):zg0 1 es (i*1) 1=some e.cells:=by
 rw [Nat.mul_one]
 unfold zg0
 change (match List.at es i with
  | none=>none
  | some e=>some e.cells)=_
 rw [List.at_eq,he]
section one
variable {es:List V} {i:Nat}
theorem zg1 {w:List UInt8} (h:es[i]?=some (.str w)):ldX PP 9 1 es (i*1)∧ldC PP 9 1 es (i*1)∧gS 1 es (i*1) 0=w:=by
 have hg:gS 1 es (i*1) 0=w:=by
  unfold gS
  rw [show i*1=i*1+0 from rfl,yy0 (by omega) h];rfl
 have he:zk0 PP 9 1 es (i*1)=some (.str (gS 1 es (i*1) 0)):=by kernel_rfl
 have hl:load PP Heap.empty 9 (.gptr 1 es (i*1))=some (.str w):=by
  change yt0 PP 9 (zg0 1 es (i*1) 1)=_
  rw [qq1 h]
  kernel_rfl
 refine ⟨?_,?_,hg⟩
 ·unfold ldX;rw [he,hg,hl]
 ·unfold ldC jm0;rw [he,hg,hl];first | kernel_rfl | rfl
theorem Yp0 {z:Int} (h:es[i]?=some (.int .i64 z)):ldX PP 3 1 es (i*1)∧ldC PP 3 1 es (i*1)∧gI 1 es (i*1) 0=z:=by
 have hg:gI 1 es (i*1) 0=z:=by
  unfold gI
  rw [show i*1=i*1+0 from rfl,yy0 (by omega) h];rfl
 have he:zk0 PP 3 1 es (i*1)=some (.int .i64 (gI 1 es (i*1) 0)):=by kernel_rfl
 have hl:load PP Heap.empty 3 (.gptr 1 es (i*1))=some (.int .i64 z):=by
  change yt0 PP 3 (zg0 1 es (i*1) 1)=_
  rw [qq1 h]
  kernel_rfl
 refine ⟨?_,?_,hg⟩
 ·unfold ldX;rw [he,hg,hl]
 ·unfold ldC jm0;rw [he,hg,hl];first | kernel_rfl | rfl
theorem Ga0 {z:Int} (h:es[i]?=some (.int .u8 z)):ldX PP 5 1 es (i*1)∧ldC PP 5 1 es (i*1)∧gI 1 es (i*1) 0=z:=by
 have hg:gI 1 es (i*1) 0=z:=by
  unfold gI
  rw [show i*1=i*1+0 from rfl,yy0 (by omega) h];rfl
 have he:zk0 PP 5 1 es (i*1)=some (.int .u8 (gI 1 es (i*1) 0)):=by kernel_rfl
 have hl:load PP Heap.empty 5 (.gptr 1 es (i*1))=some (.int .u8 z):=by
  change yt0 PP 5 (zg0 1 es (i*1) 1)=_
  rw [qq1 h]
  kernel_rfl
 refine ⟨?_,?_,hg⟩
 ·unfold ldX;rw [he,hg,hl]
 ·unfold ldC jm0;rw [he,hg,hl];first | kernel_rfl | rfl
end one
def qN0 (t:Int×List UInt8):V:=.agg [.int .i64 t.1,.str t.2]
structure It where
 k:Int
 w:List UInt8
 a:Int
 ns:List V
def itV (x:It):V:=.agg [.int .i64 x.k,.str x.w,.int .i64 x.a,.osl 1 x.ns]
section two
variable {es:List V} {i:Nat} {t:Int×List UInt8} (h:es[i]?=some (qN0 t))
 include h
theorem YK0:gI 2 es (i*2) 0=t.1∧gS 2 es (i*2) 1=t.2∧gS 2 es (i*2+1) 0=t.2:=by
 refine ⟨?_,?_,?_⟩
 ·unfold gI;rw [show i*2=i*2+0 from rfl,yy0 (by omega) h];rfl
 ·unfold gS;rw [show i*2=i*2+0 from rfl,yy0 (by omega) h];rfl
 ·unfold gS;rw [yy0 (by omega) h];rfl
theorem GU0:ldX PP 49 2 es (i*2)∧ldC PP 49 2 es (i*2):=by
 obtain ⟨g1,g2,_⟩:=YK0 h
 have he:zk0 PP 49 2 es (i*2)=some (.agg [.int .i64 (gI 2 es (i*2) 0),.str (gS 2 es (i*2) 1)]):=by kernel_rfl
 have hl:load PP Heap.empty 49 (.gptr 2 es (i*2))=some (.agg [.int .i64 t.1,.str t.2]):=by
  change yt0 PP 49 (zg0 2 es (i*2+0) 2)=_
  rw [Ya0 (by omega) (by omega) (show 0+2≤2 by omega) h]
  kernel_rfl
 constructor
 ·unfold ldX;rw [he,g1,g2,hl]
 ·unfold ldC jm0;rw [he,g1,g2,hl];first | kernel_rfl | rfl
theorem GT0:ldC PP 3 2 es (i*2):=by
 obtain ⟨g1,_,_⟩:=YK0 h
 have he:zk0 PP 3 2 es (i*2)=some (.int .i64 (gI 2 es (i*2) 0)):=by kernel_rfl
 have hl:load PP Heap.empty 3 (.gptr 2 es (i*2))=some (.int .i64 t.1):=by
  change yt0 PP 3 (zg0 2 es (i*2+0) 1)=_
  rw [Ya0 (by omega) (by omega) (show 0+1≤2 by omega) h]
  kernel_rfl
 unfold ldC jm0;rw [he,g1,hl];first | kernel_rfl | rfl
theorem GV0:ldC PP 9 2 es (i*2+1):=by
 obtain ⟨_,_,g1⟩:=YK0 h
 have he:zk0 PP 9 2 es (i*2+1)=some (.str (gS 2 es (i*2+1) 0)):=by kernel_rfl
 have hl:load PP Heap.empty 9 (.gptr 2 es (i*2+1))=some (.str t.2):=by
  change yt0 PP 9 (zg0 2 es (i*2+1) 1)=_
  rw [Ya0 (by omega) (by omega) (show 1+1≤2 by omega) h]
  kernel_rfl
 unfold ldC jm0;rw [he,g1,hl];first | kernel_rfl | rfl
end two
section four
variable {es:List V} {i:Nat} {t:It} (h:es[i]?=some (itV t))
 include h
theorem QM0:gI 4 es (i*4) 0=t.k∧gS 4 es (i*4) 1=t.w∧gI 4 es (i*4) 2=t.a∧gE 4 es (i*4) 3=t.ns∧gE 4 es (i*4+2+1) 0=t.ns:=by
 refine ⟨?_,?_,?_,?_,?_⟩
 ·unfold gI;rw [show i*4=i*4+0 from rfl,yy0 (by omega) h];rfl
 ·unfold gS;rw [show i*4=i*4+0 from rfl,yy0 (by omega) h];rfl
 ·unfold gI;rw [show i*4=i*4+0 from rfl,yy0 (by omega) h];rfl
 ·unfold gE;rw [show i*4=i*4+0 from rfl,yy0 (by omega) h];rfl
 ·unfold gE;rw [show i*4+2+1=i*4+3 from rfl,yy0 (by omega) h];rfl
theorem QN0:ldX PP 49 4 es (i*4)∧ldC PP 59 4 es (i*4)∧ldX PP 3 4 es (i*4):=by
 obtain ⟨g1,g2,g3,g4,_⟩:=QM0 h
 have c4:zg0 4 es (i*4+0) 4=some [.int .i64 t.k,.str t.w,.int .i64 t.a,.osl 1 t.ns]:=by rw [Ya0 (by omega) (by omega) (show 0+4≤4 by omega) h];rfl
 have c2:zg0 4 es (i*4+0) 2=some [.int .i64 t.k,.str t.w]:=by rw [Ya0 (by omega) (by omega) (show 0+2≤4 by omega) h];rfl
 have c1:zg0 4 es (i*4+0) 1=some [.int .i64 t.k]:=by rw [Ya0 (by omega) (by omega) (show 0+1≤4 by omega) h];rfl
 refine ⟨?_,?_,?_⟩
 ·have he:zk0 PP 49 4 es (i*4)=some (.agg [.int .i64 (gI 4 es (i*4) 0),.str (gS 4 es (i*4) 1)]):=by kernel_rfl
  unfold ldX;rw [he,g1,g2]
  change yt0 PP 49 (zg0 4 es (i*4+0) 2)=_
  rw [c2];first | kernel_rfl | rfl
 ·have he:zk0 PP 59 4 es (i*4)=some (.agg [.int .i64 (gI 4 es (i*4) 0),.str (gS 4 es (i*4) 1),.int .i64 (gI 4 es (i*4) 2),.osl 1 (gE 4 es (i*4) 3)]):=by kernel_rfl
  have hl:load PP Heap.empty 59 (.gptr 4 es (i*4))=some (.agg [.int .i64 t.k,.str t.w,.int .i64 t.a,.osl 1 t.ns]):=by
   change yt0 PP 59 (zg0 4 es (i*4+0) 4)=_
   rw [c4];first | kernel_rfl | rfl
  unfold ldC jm0;rw [he,g1,g2,g3,g4,hl];first | kernel_rfl | rfl
 ·have he:zk0 PP 3 4 es (i*4)=some (.int .i64 (gI 4 es (i*4) 0)):=by kernel_rfl
  unfold ldX;rw [he,g1]
  change yt0 PP 3 (zg0 4 es (i*4+0) 1)=_
  rw [c1];first | kernel_rfl | rfl
end four
theorem GL1 (l:List (Int×List UInt8)):GndR (l.map qN0):=fun e he=>by
 obtain ⟨t,_,rfl⟩:=List.mem_map.1 he
 rfl
theorem KK0 (l:List It):GndR (l.map itV):=fun e he=>by
 obtain ⟨t,_,rfl⟩:=List.mem_map.1 he
 rfl
theorem Yk0 (l:List (List UInt8)):GndR (l.map V.str):=fun e he=>by
 obtain ⟨t,_,rfl⟩:=List.mem_map.1 he
 rfl
theorem GI1 (l:List Int):GndR (l.map (V.int .i64)):=fun e he=>by
 obtain ⟨t,_,rfl⟩:=List.mem_map.1 he
 rfl
theorem zP0 {α:Type} {f:α→V} {l:List α} {i:Nat} (h:i<l.length):(l.map f)[i]?=some (f l[i]):=by rw [List.getElem?_map,List.getElem?_eq_getElem h];rfl
/-- What results tell. -/
def vI:V→Int
 | .int _ a=>a
 | _=>0
def vB:V→Bool
 | .bool b=>b
 | _=>false
def vS:V→List UInt8
 | .str s=>s
 | _=>[]
def lI:Res→Int
 | .ret v _=>vI v
 | _=>0
def lO:Res→Bool
 | .ret v _=>vB v
 | _=>false
def lW:Res→List UInt8
 | .ret v _=>vS v
 | _=>[]
noncomputable def slt:Res→Nat→V
 | .code _ fr _,i=>fr.tm.get undef i
 | _,_=>undef
noncomputable def lJ (r:Res):List UInt8×Int:=(vS (slt r 0),vI (slt r 3))
theorem ZX0 (c:Int):Ok1 (fun X=>X.O (.call 103 [.int .u8 c] Heap.empty)) fun _=>True :=
 .tk (R:=rO) (L:=lO) (fun _=>rfl) (fun _=>rfl) (Tk.by (.of (fun n=>Kp1 (XM n) _ none some c) (by
  (repeat' (first | refine Rn.dec (fun _=>?_) (fun _=>?_) | refine Rn.ndec (fun _=>?_) (fun _=>?_) | refine Rn.nI (by omega) ?_ | refine Rn.nX (by omega) ?_ | refine Rn.need (by omega) ?_ | refine Rn.join ?_ (fun _ hj=>?_) | assumption | refine Rn.cond (fun _=>?_) (fun _=>?_)))
  all_goals exact Rn.ret ⟨_,rfl,trivial⟩)))
theorem Yq0 (c:Int):Ok1 (fun X=>X.O (.call 107 [.int .u8 c] Heap.empty)) fun _=>True :=
 .tk (R:=rO) (L:=lO) (fun _=>rfl) (fun _=>rfl) (Tk.by (.of (fun n=>Kz1 (XM n) _ none some c) (by
  (repeat' (first | refine Rn.dec (fun _=>?_) (fun _=>?_) | refine Rn.ndec (fun _=>?_) (fun _=>?_) | refine Rn.nI (by omega) ?_ | refine Rn.nX (by omega) ?_ | refine Rn.need (by omega) ?_ | refine Rn.join ?_ (fun _ hj=>?_) | assumption | refine Rn.cond (fun _=>?_) (fun _=>?_)))
  all_goals exact Rn.ret ⟨_,rfl,trivial⟩)))
theorem Yc0 (c:Int):Ok1 (fun X=>X.O (.call 150 [.int .u8 c] Heap.empty)) fun _=>True :=
 .tk (R:=rO) (L:=lO) (fun _=>rfl) (fun _=>rfl) (Tk.by (.of (fun n=>Kt1 (XM n) _ none some c) (by
  (repeat' (first | refine Rn.dec (fun _=>?_) (fun _=>?_) | refine Rn.ndec (fun _=>?_) (fun _=>?_) | refine Rn.nI (by omega) ?_ | refine Rn.nX (by omega) ?_ | refine Rn.need (by omega) ?_ | refine Rn.join ?_ (fun _ hj=>?_) | assumption | refine Rn.cond (fun _=>?_) (fun _=>?_)))
  all_goals exact Rn.ret ⟨_,rfl,trivial⟩)))
theorem Jg0 (c:Int):Ok1 (fun X=>X.O (.call 148 [.int .u8 c] Heap.empty)) fun _=>True :=
 .tk (R:=rO) (L:=lO) (fun _=>rfl) (fun _=>rfl) (Tk.by (.of (fun n=>ev_hex (XM n) _ none some c) (by
  refine Rn.bndO (Yc0 c) fun a _=>?_
  (repeat' (first | refine Rn.dec (fun _=>?_) (fun _=>?_) | refine Rn.ndec (fun _=>?_) (fun _=>?_) | refine Rn.nI (by omega) ?_ | refine Rn.nX (by omega) ?_ | refine Rn.need (by omega) ?_ | refine Rn.join ?_ (fun _ hj=>?_) | assumption | refine Rn.cond (fun _=>?_) (fun _=>?_)))
  all_goals exact Rn.ret ⟨_,rfl,trivial⟩)))
theorem Jn1 (s:List UInt8) (hs:s.length≤1000000000000):∀ (d:Nat) (n:Int),0≤n→n≤s.length→(s.length:Int)-n≤d→Ok1 (fun X=>X.J (.code (.loop (lpB PP 104 0)) ((base 104 17).on [(0,.str s),(3,.int .i64 n)]) Heap.empty)) fun a=>a.1=s∧n≤a.2∧a.2≤s.length:=by
 intro d
 induction d with
 | zero =>
  intro n h0 h1 h2
  refine .tk (R:=rJ (base 104 17)) (L:=lJ) (fun _=>rfl) (fun a=>by kernel_rfl) (Tk.by (.of (fun m=>jv1 (XM m) _ none some s n) ?_))
  refine Rn.dec (fun h=>absurd h (by omega)) (fun _=>?_)
  all_goals exact Rn.ret ⟨(_,_),rfl,rfl,by omega,by omega⟩
 | succ d IH =>
  intro n h0 h1 h2
  refine .tk (R:=rJ (base 104 17)) (L:=lJ) (fun _=>rfl) (fun a=>by kernel_rfl) (Tk.by (.of (fun m=>jv1 (XM m) _ none some s n) ?_))
  repeat' (first | refine Rn.dec (fun _=>?_) (fun _=>?_) | refine Rn.ndec (fun _=>?_) (fun _=>?_) | refine Rn.nI (by omega) ?_ | refine Rn.nX (by omega) ?_ | refine Rn.need (by omega) ?_ | refine Rn.join ?_ (fun _ hj=>?_) | assumption | refine Rn.cond (fun _=>?_) (fun _=>?_) | refine Rn.bndO (Yq0 _) (fun _ _=>?_) | refine Rn.bndO (Yc0 _) (fun _ _=>?_) | refine Rn.bndO (ZX0 _) (fun _ _=>?_) | refine Rn.bndO (Jg0 _) (fun _ _=>?_) | refine Rn.bndO (IH (n+1) (by omega) (by omega) (by omega)) (fun a ⟨ha,_,_⟩=>Rn.ret ⟨(_,_),rfl,ha,by omega,by omega⟩))
  all_goals exact Rn.ret ⟨(_,_),rfl,rfl,by omega,by omega⟩
theorem Jo1 (s:List UInt8) (hs:s.length≤1000000000000):Ok1 (fun X=>X.I (.call 104 [.str s] Heap.empty)) fun a=>0≤a∧a≤s.length :=
 .tk (R:=rI) (L:=lI) (fun _=>rfl) (fun _=>rfl) (Tk.by (.of (fun m=>Kq1 (XM m) _ none some s) (by
  refine Rn.bndO (Jn1 s hs s.length 0 (by omega) (by omega) (by omega)) (fun a ⟨_,_,_⟩=>?_)
  all_goals exact Rn.ret ⟨_,rfl,by omega,by omega⟩)))
theorem ye2 (s:List UInt8) (hs:s.length≤1000000000000):∀ (d:Nat) (n:Int),0≤n→n≤s.length→(s.length:Int)-n≤d→Ok1 (fun X=>X.J (.code (.loop (lpB PP 108 0)) ((base 108 23).on [(0,.str s),(3,.int .i64 n)]) Heap.empty)) fun a=>a.1=s∧n≤a.2∧a.2≤s.length:=by
 intro d
 induction d with
 | zero =>
  intro n h0 h1 h2
  refine .tk (R:=rJ (base 108 23)) (L:=lJ) (fun _=>rfl) (fun a=>by kernel_rfl) (Tk.by (.of (fun m=>jJ1 (XM m) _ none some s n) ?_))
  refine Rn.dec (fun h=>absurd h (by omega)) (fun _=>?_)
  all_goals exact Rn.ret ⟨(_,_),rfl,rfl,by omega,by omega⟩
 | succ d IH =>
  intro n h0 h1 h2
  refine .tk (R:=rJ (base 108 23)) (L:=lJ) (fun _=>rfl) (fun a=>by kernel_rfl) (Tk.by (.of (fun m=>jJ1 (XM m) _ none some s n) ?_))
  repeat' (first | refine Rn.dec (fun _=>?_) (fun _=>?_) | refine Rn.ndec (fun _=>?_) (fun _=>?_) | refine Rn.nI (by omega) ?_ | refine Rn.nX (by omega) ?_ | refine Rn.need (by omega) ?_ | refine Rn.join ?_ (fun _ hj=>?_) | assumption | refine Rn.cond (fun _=>?_) (fun _=>?_) | refine Rn.bndO (Yq0 _) (fun _ _=>?_) | refine Rn.bndO (Yc0 _) (fun _ _=>?_) | refine Rn.bndO (ZX0 _) (fun _ _=>?_) | refine Rn.bndO (Jg0 _) (fun _ _=>?_) | refine Rn.bndO (IH (n+1) (by omega) (by omega) (by omega)) (fun a ⟨ha,_,_⟩=>Rn.ret ⟨(_,_),rfl,ha,by omega,by omega⟩))
  all_goals exact Rn.ret ⟨(_,_),rfl,rfl,by omega,by omega⟩
theorem yf2 (s:List UInt8) (hs:s.length≤1000000000000):Ok1 (fun X=>X.I (.call 108 [.str s] Heap.empty)) fun a=>0≤a∧a≤s.length :=
 .tk (R:=rI) (L:=lI) (fun _=>rfl) (fun _=>rfl) (Tk.by (.of (fun m=>KM1 (XM m) _ none some s) (by
  refine Rn.bndO (ye2 s hs s.length 0 (by omega) (by omega) (by omega)) (fun a ⟨_,_,_⟩=>?_)
  all_goals exact Rn.ret ⟨_,rfl,by omega,by omega⟩)))
theorem Xf1 (s:List UInt8) (hs:s.length≤1000000000000):∀ (d:Nat) (n:Int),0≤n→n≤s.length→(s.length:Int)-n≤d→Ok1 (fun X=>X.J (.code (.loop (lpB PP 151 0)) ((base 151 17).on [(0,.str s),(3,.int .i64 n)]) Heap.empty)) fun a=>a.1=s∧n≤a.2∧a.2≤s.length:=by
 intro d
 induction d with
 | zero =>
  intro n h0 h1 h2
  refine .tk (R:=rJ (base 151 17)) (L:=lJ) (fun _=>rfl) (fun a=>by kernel_rfl) (Tk.by (.of (fun m=>jx1 (XM m) _ none some s n) ?_))
  refine Rn.dec (fun h=>absurd h (by omega)) (fun _=>?_)
  all_goals exact Rn.ret ⟨(_,_),rfl,rfl,by omega,by omega⟩
 | succ d IH =>
  intro n h0 h1 h2
  refine .tk (R:=rJ (base 151 17)) (L:=lJ) (fun _=>rfl) (fun a=>by kernel_rfl) (Tk.by (.of (fun m=>jx1 (XM m) _ none some s n) ?_))
  repeat' (first | refine Rn.dec (fun _=>?_) (fun _=>?_) | refine Rn.ndec (fun _=>?_) (fun _=>?_) | refine Rn.nI (by omega) ?_ | refine Rn.nX (by omega) ?_ | refine Rn.need (by omega) ?_ | refine Rn.join ?_ (fun _ hj=>?_) | assumption | refine Rn.cond (fun _=>?_) (fun _=>?_) | refine Rn.bndO (Yq0 _) (fun _ _=>?_) | refine Rn.bndO (Yc0 _) (fun _ _=>?_) | refine Rn.bndO (ZX0 _) (fun _ _=>?_) | refine Rn.bndO (Jg0 _) (fun _ _=>?_) | refine Rn.bndO (IH (n+1) (by omega) (by omega) (by omega)) (fun a ⟨ha,_,_⟩=>Rn.ret ⟨(_,_),rfl,ha,by omega,by omega⟩))
  all_goals exact Rn.ret ⟨(_,_),rfl,rfl,by omega,by omega⟩
theorem ji1 (s:List UInt8) (hs:s.length≤1000000000000):Ok1 (fun X=>X.I (.call 151 [.str s] Heap.empty)) fun a=>0≤a∧a≤s.length :=
 .tk (R:=rI) (L:=lI) (fun _=>rfl) (fun _=>rfl) (Tk.by (.of (fun m=>Ku1 (XM m) _ none some s) (by
  refine Rn.bndO (Xf1 s hs s.length 0 (by omega) (by omega) (by omega)) (fun a ⟨_,_,_⟩=>?_)
  all_goals exact Rn.ret ⟨_,rfl,by omega,by omega⟩)))
theorem Qt2 (s:List UInt8) (hs:s.length≤1000000000000):∀ (d:Nat) (n:Int),0≤n→n≤s.length→(s.length:Int)-n≤d→Ok1 (fun X=>X.J (.code (.loop (lpB PP 149 0)) ((base 149 31).on [(0,.str s),(3,.int .i64 n)]) Heap.empty)) fun a=>a.1=s∧n≤a.2∧a.2≤s.length:=by
 intro d
 induction d with
 | zero =>
  intro n h0 h1 h2
  refine .tk (R:=rJ (base 149 31)) (L:=lJ) (fun _=>rfl) (fun a=>by kernel_rfl) (Tk.by (.of (fun m=>jN1 (XM m) _ none some s n) ?_))
  refine Rn.dec (fun h=>absurd h (by omega)) (fun _=>?_)
  all_goals exact Rn.ret ⟨(_,_),rfl,rfl,by omega,by omega⟩
 | succ d IH =>
  intro n h0 h1 h2
  refine .tk (R:=rJ (base 149 31)) (L:=lJ) (fun _=>rfl) (fun a=>by kernel_rfl) (Tk.by (.of (fun m=>jN1 (XM m) _ none some s n) ?_))
  repeat' (first | refine Rn.dec (fun _=>?_) (fun _=>?_) | refine Rn.ndec (fun _=>?_) (fun _=>?_) | refine Rn.nI (by omega) ?_ | refine Rn.nX (by omega) ?_ | refine Rn.need (by omega) ?_ | refine Rn.join ?_ (fun _ hj=>?_) | assumption | refine Rn.cond (fun _=>?_) (fun _=>?_) | refine Rn.bndO (Yq0 _) (fun _ _=>?_) | refine Rn.bndO (Yc0 _) (fun _ _=>?_) | refine Rn.bndO (ZX0 _) (fun _ _=>?_) | refine Rn.bndO (Jg0 _) (fun _ _=>?_) | refine Rn.bndO (IH (n+1) (by omega) (by omega) (by omega)) (fun a ⟨ha,_,_⟩=>Rn.ret ⟨(_,_),rfl,ha,by omega,by omega⟩))
  all_goals exact Rn.ret ⟨(_,_),rfl,rfl,by omega,by omega⟩
theorem Ye1 (s:List UInt8) (hs:s.length≤1000000000000):Ok1 (fun X=>X.I (.call 149 [.str s] Heap.empty)) fun a=>0≤a∧a≤s.length :=
 .tk (R:=rI) (L:=lI) (fun _=>rfl) (fun _=>rfl) (Tk.by (.of (fun m=>KU1 (XM m) _ none some s) (by
  refine Rn.dec (fun _=>?_) (fun hne=>?_)
  ·all_goals exact Rn.ret ⟨_,rfl,by omega,by omega⟩
  have:=List.length_pos_iff.2 hne
  repeat' (first | refine Rn.dec (fun _=>?_) (fun _=>?_) | refine Rn.ndec (fun _=>?_) (fun _=>?_) | refine Rn.nI (by omega) ?_ | refine Rn.nX (by omega) ?_ | refine Rn.need (by omega) ?_ | refine Rn.join ?_ (fun _ hj=>?_) | assumption | refine Rn.cond (fun _=>?_) (fun _=>?_) | refine Rn.bndO (Yq0 _) (fun _ _=>?_) | refine Rn.bndO (Yc0 _) (fun _ _=>?_) | refine Rn.bndO (ZX0 _) (fun _ _=>?_) | refine Rn.bndO (Jg0 _) (fun _ _=>?_) | refine Rn.bndO (Qt2 s hs s.length 1 (by omega) (by omega) (by omega)) (fun a ⟨_,_,_⟩=>?_))
  all_goals exact Rn.ret ⟨_,rfl,by omega,by omega⟩)))
theorem Yf0 {s:List UInt8} {n:Int} (h0:0≤n) (h1:n≤s.length):((List.drop n.toNat s).length:Int)=s.length-n:=by rw [List.length_drop];omega
theorem ZK2 (s:List UInt8) (hs:s.length≤1000000000000):∀ (d:Nat) (n:Int),0≤n→n≤s.length→(s.length:Int)-n≤d→Ok1 (fun X=>X.J (.code (.loop (lpB PP 106 0)) ((base 106 40).on [(0,.str s),(3,.int .i64 n)]) Heap.empty)) fun a=>a.1=s∧n≤a.2∧a.2≤s.length:=by
 intro d
 induction d with
 | zero =>
  intro n h0 h1 h2
  refine .tk (R:=rJ (base 106 40)) (L:=lJ) (fun _=>rfl) (fun a=>by kernel_rfl) (Tk.by (.of (fun m=>jQ1 (XM m) _ none some s n) ?_))
  refine Rn.dec (fun h=>?_) (fun _=>?_)
  ·refine Rn.nI (by omega) (Rn.dec (fun h=>absurd h (by omega)) (fun _=>?_))
   all_goals exact Rn.ret ⟨(_,_),rfl,rfl,by omega,by omega⟩
  all_goals exact Rn.ret ⟨(_,_),rfl,rfl,by omega,by omega⟩
 | succ d IH =>
  intro n h0 h1 h2
  refine .tk (R:=rJ (base 106 40)) (L:=lJ) (fun _=>rfl) (fun a=>by kernel_rfl) (Tk.by (.of (fun m=>jQ1 (XM m) _ none some s n) ?_))
  (repeat' (first | refine Rn.dec (fun _=>?_) (fun _=>?_) | refine Rn.ndec (fun _=>?_) (fun _=>?_) | refine Rn.nI (by omega) ?_ | refine Rn.nX (by omega) ?_ | refine Rn.need (by omega) ?_ | refine Rn.join ?_ (fun _ hj=>?_) | assumption | refine Rn.cond (fun _=>?_) (fun _=>?_)))
  ·have hd:=Yf0 (s:=s) (n:=n+2) (by omega) (by omega)
   obtain ⟨w,⟨hw0,hw1⟩,hw⟩:=Ye1 (s.drop (n+2).toNat) (by omega)
   refine Rn.bnd hw ?_
   refine Rn.dec (fun _=>?_) (fun _=>?_)
   ·(repeat' (first | refine Rn.dec (fun _=>?_) (fun _=>?_) | refine Rn.ndec (fun _=>?_) (fun _=>?_) | refine Rn.nI (by omega) ?_ | refine Rn.nX (by omega) ?_ | refine Rn.need (by omega) ?_ | refine Rn.join ?_ (fun _ hj=>?_) | assumption | refine Rn.cond (fun _=>?_) (fun _=>?_)))
    refine Rn.bnd hw ?_
    (repeat' (first | refine Rn.dec (fun _=>?_) (fun _=>?_) | refine Rn.ndec (fun _=>?_) (fun _=>?_) | refine Rn.nI (by omega) ?_ | refine Rn.nX (by omega) ?_ | refine Rn.need (by omega) ?_ | refine Rn.join ?_ (fun _ hj=>?_) | assumption | refine Rn.cond (fun _=>?_) (fun _=>?_)))
    exact Rn.bndO (IH (n+(2+w)) (by omega) (by omega) (by omega)) (fun a ⟨ha,_,_⟩=>Rn.ret ⟨(_,_),rfl,ha,by omega,by omega⟩)
   ·all_goals exact Rn.ret ⟨(_,_),rfl,rfl,by omega,by omega⟩
  all_goals exact Rn.ret ⟨(_,_),rfl,rfl,by omega,by omega⟩
theorem YA1 (s:List UInt8) (hs:s.length≤1000000000000):Ok1 (fun X=>X.I (.call 106 [.str s] Heap.empty)) fun a=>0≤a∧a≤s.length :=
 .tk (R:=rI) (L:=lI) (fun _=>rfl) (fun _=>rfl) (Tk.by (.of (fun m=>KY1 (XM m) _ none some s) (by
  refine Rn.bndO (Ye1 s hs) (fun w ⟨_,_⟩=>?_)
  refine Rn.bndO (ZK2 s hs s.length w (by omega) (by omega) (by omega)) (fun a ⟨_,_,_⟩=>?_)
  all_goals exact Rn.ret ⟨_,rfl,by omega,by omega⟩)))
/-- Results of which a part is not told. -/
theorem Ok1.nrm {α ε:Type} {K:PmX→PR α ε} {R:α→Res} {Q:ε→Res} {L:Res→α} {N:α→α} {t:Task} {P:α→Prop} (hK:∀ n,K (XM n)=exR R Q (rn PP EP CP n t)) (hL:∀ a,L (R a)=N a) (hN:∀ a,P (N a)→P a) (h:∃ r,(∃ a,r=R a∧P (N a))∧Tk t r):Ok1 K P:=by
 refine Ok1.any hK ?_
 obtain ⟨r,⟨a,rfl,hP⟩,hT⟩:=h
 exact ⟨_,⟨a,rfl,fun a' e=>hN a' (by rw [← hL a',e,hL];exact hP)⟩,hT⟩
def isEx:Res→Bool
 | .code .ret _ _=>false
 | _=>true
noncomputable def lJ2 (r:Res):Bool×List UInt8×Int×Int:=(isEx r,vS (slt r 0),vI (slt r 3),vI (slt r 2))
def nJ2 (a:Bool×List UInt8×Int×Int):Bool×List UInt8×Int×Int:=(a.1,a.2.1,a.2.2.1,bif a.1 then 0 else a.2.2.2)
noncomputable def lJ3 (r:Res):Bool×List UInt8×Int:=(isEx r,vS (slt r 0),vI (slt r 2))
def nJ3 (a:Bool×List UInt8×Int):Bool×List UInt8×Int:=(a.1,a.2.1,bif a.1 then 0 else a.2.2)
noncomputable def lJ4 (r:Res):Bool×List UInt8×Int×Int×Int:=(isEx r,vS (slt r 0),vI (slt r 3),vI (slt r 4),vI (slt r 2))
def nJ4 (a:Bool×List UInt8×Int×Int×Int):Bool×List UInt8×Int×Int×Int:=(a.1,a.2.1,a.2.2.1,a.2.2.2.1,bif a.1 then 0 else a.2.2.2.2)
def PJ2 (s:List UInt8) (a:Bool×List UInt8×Int×Int):Prop:=a.2.1=s∧(a.1=true→0≤a.2.2.1∧a.2.2.1≤s.length)∧(a.1=false→0≤a.2.2.2∧a.2.2.2≤s.length)
def PJ3 (s:List UInt8) (lo hi:Int) (a:Bool×List UInt8×Int):Prop:=a.2.1=s∧(a.1=false→lo≤a.2.2∧a.2.2≤hi)
theorem PJ2.n {s:List UInt8}:∀ a,PJ2 s (nJ2 a)→PJ2 s a:=fun ⟨b,w,n,r⟩ h=>by
 cases b with
 | true=>exact ⟨h.1,h.2.1,fun e=>by cases e⟩
 | false=>exact h
theorem PJ3.n {s:List UInt8} {lo hi:Int}:∀ a,PJ3 s lo hi (nJ3 a)→PJ3 s lo hi a:=fun ⟨b,w,r⟩ h=>by
 cases b with
 | true=>exact ⟨h.1,fun e=>by cases e⟩
 | false=>exact h
theorem PJ2.t {s:List UInt8} {n:Int} (h0:0≤n) (h1:n≤s.length):PJ2 s (nJ2 (true,s,n,0)):=⟨rfl,fun _=>⟨h0,h1⟩,fun e=>by cases e⟩
theorem PJ2.f {s:List UInt8} {n m:Int} (h0:0≤m) (h1:m≤s.length):PJ2 s (nJ2 (false,s,n,m)):=⟨rfl,(fun e=>by cases e),fun _=>⟨h0,h1⟩⟩
theorem PJ2.t' {s:List UInt8} {a:Bool×List UInt8×Int×Int} (h:PJ2 s a) (ha:a.1=true):PJ2 s (nJ2 (true,a.2.1,a.2.2.1,0)):=⟨h.1,fun _=>h.2.1 ha,fun e=>by cases e⟩
theorem PJ2.f' {s:List UInt8} {a:Bool×List UInt8×Int×Int} (h:PJ2 s a) (ha:a.1=false):PJ2 s (nJ2 (false,a.2.1,a.2.2.1,a.2.2.2)):=⟨h.1,(fun e=>by cases e),fun _=>h.2.2 ha⟩
theorem PJ3.t {s:List UInt8} {lo hi:Int}:PJ3 s lo hi (nJ3 (true,s,0)):=⟨rfl,fun e=>by cases e⟩
theorem PJ3.f {s:List UInt8} {lo hi m:Int} (h0:lo≤m) (h1:m≤hi):PJ3 s lo hi (nJ3 (false,s,m)):=⟨rfl,fun _=>⟨h0,h1⟩⟩
theorem PJ3.t' {s:List UInt8} {lo hi:Int} {a:Bool×List UInt8×Int} (h:PJ3 s lo hi a):PJ3 s lo hi (nJ3 (true,a.2.1,0)):=⟨h.1,fun e=>by cases e⟩
theorem PJ3.f' {s:List UInt8} {lo hi:Int} {a:Bool×List UInt8×Int} (h:PJ3 s lo hi a) (ha:a.1=false):PJ3 s lo hi (nJ3 (false,a.2.1,a.2.2)):=⟨h.1,fun _=>h.2 ha⟩
theorem zE2 (s:List UInt8) (hs:s.length≤1000000000000):∀ (d:Nat) (n q:Int),0≤q→q≤n→n≤s.length→(s.length:Int)-n≤d→Ok1 (fun X=>X.J2 (.code (.loop (lpB PP 105 0)) ((base 105 53).on [(0,.str s),(3,.int .i64 n),(4,.int .i64 q)]) Heap.empty)) (PJ2 s):=by
 intro d
 induction d with
 | zero =>
  intro n q h0 h1 h2 h3
  refine .nrm (R:=fun a=>rJ2 (base 105 53) a.1 a) (L:=lJ2) (N:=nJ2) (fun _=>rfl) (fun ⟨b,w,n,r⟩=>by cases b <;> kernel_rfl) PJ2.n (Tk.by (.of (fun m=>jF1 (XM m) _ none some s n q) ?_))
  refine Rn.dec (fun h=>absurd h (by omega)) (fun _=>?_)
  exact Rn.ret ⟨(true,_,_,0),rfl,PJ2.t (by omega) (by omega)⟩
 | succ d IH =>
  intro n q h0 h1 h2 h3
  refine .nrm (R:=fun a=>rJ2 (base 105 53) a.1 a) (L:=lJ2) (N:=nJ2) (fun _=>rfl) (fun ⟨b,w,n,r⟩=>by cases b <;> kernel_rfl) PJ2.n (Tk.by (.of (fun m=>jF1 (XM m) _ none some s n q) ?_))
  have fin:∀ a,PJ2 s a→Rn (fun _=>bif a.1 then some (.code (.exit 0) ((base 105 53).on [(0,.str a.2.1),(3,.int .i64 a.2.2.1)]) Heap.empty) else some (.code .ret ((base 105 53).on [(0,.str a.2.1),(2,.int .i64 a.2.2.2),(3,.int .i64 a.2.2.1)]) Heap.empty)) (fun r=>∃ a,r=rJ2 (base 105 53) a.1 a∧PJ2 s (nJ2 a)):=fun a ha=>Rn.cond (fun h=>Rn.ret ⟨(true,_,_,0),rfl,ha.t' h⟩) (fun h=>Rn.ret ⟨(false,_,_,_),rfl,ha.f' h⟩)
  repeat' (first | refine Rn.dec (fun _=>?_) (fun _=>?_) | refine Rn.ndec (fun _=>?_) (fun _=>?_) | refine Rn.nI (by omega) ?_ | refine Rn.nX (by omega) ?_ | refine Rn.need (by omega) ?_ | refine Rn.join ?_ (fun _ hj=>?_) | assumption | refine Rn.cond (fun _=>?_) (fun _=>?_) | (with_reducible refine Rn.bndO (IH (n+2) 0 ?_ ?_ ?_ ?_) fin) <;> omega | (with_reducible refine Rn.bndO (IH (n+1) (q+1) ?_ ?_ ?_ ?_) fin) <;> omega | (with_reducible refine Rn.bndO (IH (n+1) 0 ?_ ?_ ?_ ?_) fin) <;> omega | exact Rn.ret ⟨(true,_,_,0),rfl,PJ2.t (by omega) (by omega)⟩ | exact Rn.ret ⟨(false,_,_,_),rfl,PJ2.f (by omega) (by omega)⟩)
theorem zF2 (s:List UInt8) (hs:s.length≤1000000000000):Ok1 (fun X=>X.I (.call 105 [.str s] Heap.empty)) fun a=>0≤a∧a≤s.length :=
 .tk (R:=rI) (L:=lI) (fun _=>rfl) (fun _=>rfl) (Tk.by (.of (fun m=>KE1 (XM m) _ none some s) (by
  refine Rn.bndO (zE2 s hs s.length 0 0 (by omega) (by omega) (by omega) (by omega)) (fun a ha=>?_)
  refine Rn.cond (fun h=>Rn.ret ⟨_,rfl,ha.2.1 h⟩) (fun h=>Rn.ret ⟨_,rfl,ha.2.2 h⟩))))
theorem Km1 (s:List UInt8) (hs:2≤s.length):∀ (d:Nat) (i:Int),0≤i→8-i≤d→Ok1 (fun X=>X.J3 (.code (.loop (lpB PP 102 0)) ((base 102 53).on [(0,.str s),(3,.int .i64 i)]) Heap.empty)) (PJ3 s 0 2):=by
 intro d
 induction d with
 | zero =>
  intro i h0 h1
  refine .nrm (R:=fun a=>rJ3 (base 102 53) a.1 a) (L:=lJ3) (N:=nJ3) (fun _=>rfl) (fun ⟨b,w,r⟩=>by cases b <;> kernel_rfl) PJ3.n (Tk.by (.of (fun m=>jy1 (XM m) _ none some s i) ?_))
  refine Rn.dec (fun h=>absurd h (by omega)) (fun _=>?_)
  exact Rn.ret ⟨(true,_,0),rfl,PJ3.t⟩
 | succ d IH =>
  intro i h0 h1
  refine .nrm (R:=fun a=>rJ3 (base 102 53) a.1 a) (L:=lJ3) (N:=nJ3) (fun _=>rfl) (fun ⟨b,w,r⟩=>by cases b <;> kernel_rfl) PJ3.n (Tk.by (.of (fun m=>jy1 (XM m) _ none some s i) ?_))
  repeat' (first | refine Rn.dec (fun _=>?_) (fun _=>?_) | refine Rn.ndec (fun _=>?_) (fun _=>?_) | refine Rn.nI (by omega) ?_ | refine Rn.nX (by omega) ?_ | refine Rn.need (by omega) ?_ | refine Rn.join ?_ (fun _ hj=>?_) | assumption | refine Rn.cond (fun _=>?_) (fun _=>?_) | refine Rn.bndO (IH (i+1) (by omega) (by omega)) (fun a ha=>Rn.cond (fun h=>Rn.ret ⟨(true,_,0),rfl,ha.t'⟩) (fun h=>Rn.ret ⟨(false,_,_),rfl,ha.f' h⟩)) | exact Rn.ret ⟨(true,_,0),rfl,PJ3.t⟩ | exact Rn.ret ⟨(false,_,_),rfl,PJ3.f (by omega) (by omega)⟩)
theorem Kn1 (s:List UInt8):Ok1 (fun X=>X.I (.call 102 [.str s] Heap.empty)) fun a=>0≤a∧a≤s.length :=
 .tk (R:=rI) (L:=lI) (fun _=>rfl) (fun _=>rfl) (Tk.by (.of (fun m=>Kv1 (XM m) _ none some s) (by
  refine Rn.dec (fun _=>?_) (fun h2=>?_)
  ·all_goals exact Rn.ret ⟨_,rfl,by omega,by omega⟩
  refine Rn.nX (by omega) ?_
  refine Rn.ndec (fun _=>?_) (fun _=>?_)
  ·all_goals exact Rn.ret ⟨_,rfl,by omega,by omega⟩
  refine Rn.bndO (Km1 s (by omega) 8 0 (by omega) (by omega)) (fun ⟨b,w,r⟩ ha=>?_)
  obtain ⟨rfl,ha⟩:w=s∧(b=false→0≤r∧r≤2):=ha
  refine Rn.cond (fun _=>?_) (fun hb=>?_)
  ·dsimp only
   repeat' (first | refine Rn.dec (fun _=>?_) (fun _=>?_) | refine Rn.ndec (fun _=>?_) (fun _=>?_) | refine Rn.nI (by omega) ?_ | refine Rn.nX (by omega) ?_ | refine Rn.need (by omega) ?_ | refine Rn.join ?_ (fun _ hj=>?_) | assumption | refine Rn.cond (fun _=>?_) (fun _=>?_) | refine Rn.bndO (Yq0 _) (fun _ _=>?_) | refine Rn.bndO (Yc0 _) (fun _ _=>?_) | refine Rn.bndO (ZX0 _) (fun _ _=>?_) | refine Rn.bndO (Jg0 _) (fun _ _=>?_) | exact Rn.ret ⟨_,rfl,by omega,by omega⟩)
  ·have:=ha hb
   exact Rn.ret ⟨_,rfl,by show (0:Int)≤r;omega,by show r≤_;omega⟩)))
theorem yi2 (s:List UInt8) (hs:s.length≤1000000000000):∀ (d:Nat) (n:Int),0≤n→n≤s.length→(s.length:Int)-n≤d→Ok1 (fun X=>X.J2 (.code (.loop (lpB PP 68 0)) ((base 68 30).on [(0,.str s),(3,.int .i64 n)]) Heap.empty)) (PJ2 s):=by
 intro d
 induction d with
 | zero =>
  intro n h0 h1 h2
  refine .nrm (R:=fun a=>rJ2 (base 68 30) a.1 a) (L:=lJ2) (N:=nJ2) (fun _=>rfl) (fun ⟨b,w,n,r⟩=>by cases b <;> kernel_rfl) PJ2.n (Tk.by (.of (fun m=>jK1 (XM m) _ none some s n) ?_))
  refine Rn.dec (fun h=>absurd h (by omega)) (fun _=>?_)
  exact Rn.ret ⟨(true,_,_,0),rfl,PJ2.t (by omega) (by omega)⟩
 | succ d IH =>
  intro n h0 h1 h2
  refine .nrm (R:=fun a=>rJ2 (base 68 30) a.1 a) (L:=lJ2) (N:=nJ2) (fun _=>rfl) (fun ⟨b,w,n,r⟩=>by cases b <;> kernel_rfl) PJ2.n (Tk.by (.of (fun m=>jK1 (XM m) _ none some s n) ?_))
  have fin:∀ a,PJ2 s a→Rn (fun _=>bif a.1 then some (.code (.exit 0) ((base 68 30).on [(0,.str a.2.1),(3,.int .i64 a.2.2.1)]) Heap.empty) else some (.code .ret ((base 68 30).on [(0,.str a.2.1),(2,.int .i64 a.2.2.2),(3,.int .i64 a.2.2.1)]) Heap.empty)) (fun r=>∃ a,r=rJ2 (base 68 30) a.1 a∧PJ2 s (nJ2 a)):=fun a ha=>Rn.cond (fun h=>Rn.ret ⟨(true,_,_,0),rfl,ha.t' h⟩) (fun h=>Rn.ret ⟨(false,_,_,_),rfl,ha.f' h⟩)
  refine Rn.dec (fun _=>?_) (fun _=>Rn.ret ⟨(true,_,_,0),rfl,PJ2.t (by omega) (by omega)⟩)
  refine Rn.nX (by omega) ?_
  refine Rn.ndec (fun _=>?_) (fun _=>Rn.ret ⟨(true,_,_,0),rfl,PJ2.t (by omega) (by omega)⟩)
  refine Rn.nX (by omega) ?_
  refine Rn.dec (fun _=>?_) (fun _=>?_)
  ·refine Rn.need (by omega) ?_
   have hd:=Yf0 (s:=s) (n:=n) (by omega) (by omega)
   refine Rn.bndO (Kn1 (s.drop n.toNat)) (fun a ⟨_,_⟩=>?_)
   refine Rn.dec (fun _=>?_) (fun _=>?_)
   ·exact Rn.ret ⟨(false,_,_,_),rfl,PJ2.f (by omega) (by omega)⟩
   ·refine Rn.nI (by omega) ?_
    exact Rn.bndO (IH (n+a) (by omega) (by omega) (by omega)) fin
  ·refine Rn.nI (by omega) ?_
   exact Rn.bndO (IH (n+1) (by omega) (by omega) (by omega)) fin
theorem yj2 (s:List UInt8) (hs:s.length≤1000000000000):Ok1 (fun X=>X.I (.call 68 [.str s] Heap.empty)) fun a=>0≤a∧a≤s.length :=
 .tk (R:=rI) (L:=lI) (fun _=>rfl) (fun _=>rfl) (Tk.by (.of (fun m=>KO1 (XM m) _ none some s) (by
  refine Rn.bndO (yi2 s hs s.length 0 (by omega) (by omega) (by omega)) (fun a ha=>?_)
  refine Rn.cond (fun h=>Rn.ret ⟨_,rfl,ha.2.1 h⟩) (fun h=>Rn.ret ⟨_,rfl,ha.2.2 h⟩))))
theorem jj1 (s:List UInt8) (hs:s.length≤1000000000000) (n:Int) (h0:0≤n) (h1:n≤s.length):Ok1 (fun X=>X.I (.call 151 [.str (List.drop n.toNat s)] Heap.empty)) fun a=>0≤a∧n+a≤s.length:=by
 have hd:=Yf0 (s:=s) h0 h1
 exact (ji1 (s.drop n.toNat) (by omega)).weak fun a ⟨_,_⟩=>⟨by omega,by omega⟩
theorem Xg1 (s:List UInt8) (hs:s.length≤1000000000000) (h1:1≤s.length):Ok1 (fun X=>X.I (.call 151 [.str (List.drop 1 s)] Heap.empty)) fun a=>0≤a∧1+a≤s.length:=jj1 s hs 1 (by omega) (by omega)
theorem zG2 (s:List UInt8) (hs:s.length≤1000000000000):Ok1 (fun X=>X.I (.call 109 [.str s] Heap.empty)) fun a=>0≤a∧a≤s.length :=
 .tk (R:=rI) (L:=lI) (fun _=>rfl) (fun _=>rfl) (Tk.by (.of (fun m=>KF1 (XM m) _ none some s) (by
  refine Rn.bndO (ji1 s hs) (fun a0 ⟨_,_⟩=>?_)
  repeat' (first | refine Rn.dec (fun _=>?_) (fun _=>?_) | refine Rn.ndec (fun _=>?_) (fun _=>?_) | refine Rn.nI (by omega) ?_ | refine Rn.nX (by first | omega | (have:=List.length_pos_iff.2 (by assumption:¬ s=[]);omega)) ?_ | refine Rn.need (by first | omega | (have:=List.length_pos_iff.2 (by assumption:¬ s=[]);omega)) ?_ | refine Rn.join ?_ (fun _ hj=>?_) | assumption | exact Rn.ret ⟨_,rfl,by omega,by omega⟩ | (refine Rn.bndO (jj1 s hs _ ?_ ?_) (fun _ ⟨_,_⟩=>?_)) | (refine Rn.bndO (Xg1 s hs ?_) (fun _ ⟨_,_⟩=>?_)) | omega | (have:=List.length_pos_iff.2 (by assumption:¬ s=[]);omega)))))
theorem zP2 (s:List UInt8) (ws:List (List UInt8)) (hws:ws.length≤100):∀ (d:Nat) (i:Int),0≤i→i≤ws.length→ws.length-i≤d→Ok1 (fun X=>X.J3 (.code (.loop (lpB PP 110 0)) ((base 110 39).on [(0,.str s),(3,.osl 1 (ws.map V.str)),(4,.int .i64 i)]) Heap.empty)) (PJ3 s 0 s.length):=by
 intro d
 induction d with
 | zero =>
  intro i h0 h1 h2
  refine .nrm (R:=fun a=>rJ3 (base 110 39) a.1 a) (L:=lJ3) (N:=nJ3) (fun _=>rfl) (fun ⟨b,w,r⟩=>by cases b <;> kernel_rfl) PJ3.n (Tk.by (.of (fun m=>jI1 (XM m) _ none some s (ws.map V.str) i) ?_))
  rw [List.length_map]
  refine Rn.dec (fun h=>absurd h (by omega)) (fun _=>?_)
  exact Rn.ret ⟨(true,_,0),rfl,PJ3.t⟩
 | succ d IH =>
  intro i h0 h1 h2
  refine .nrm (R:=fun a=>rJ3 (base 110 39) a.1 a) (L:=lJ3) (N:=nJ3) (fun _=>rfl) (fun ⟨b,w,r⟩=>by cases b <;> kernel_rfl) PJ3.n (Tk.by (.of (fun m=>jI1 (XM m) _ none some s (ws.map V.str) i) ?_))
  rw [List.length_map]
  refine Rn.dec (fun _=>?_) (fun _=>Rn.ret ⟨(true,_,0),rfl,PJ3.t⟩)
  obtain ⟨w,hw⟩:∃ w,(ws.map V.str)[i.toNat]?=some (.str w):=⟨_,zP0 (by omega)⟩
  obtain ⟨g1,g2,g3⟩:=zg1 hw
  refine Rn.nX (by omega) ?_
  refine Rn.need g1 ?_
  rw [g3]
  refine Rn.join ?_ (fun _ hj=>?_)
  ·refine Rn.nI (by omega) ?_
   exact Rn.bndO (IH (i+1) (by omega) (by omega) (by omega)) (fun a ha=>Rn.cond (fun h=>Rn.ret ⟨(true,_,0),rfl,ha.t'⟩) (fun h=>Rn.ret ⟨(false,_,_),rfl,ha.f' h⟩))
  ·repeat' (first | refine Rn.dec (fun _=>?_) (fun _=>?_) | refine Rn.ndec (fun _=>?_) (fun _=>?_) | refine Rn.nI (by omega) ?_ | refine Rn.nX (by omega) ?_ | refine Rn.need (by omega) ?_ | refine Rn.join ?_ (fun _ hj=>?_) | assumption | refine Rn.cond (fun _=>?_) (fun _=>?_) | refine Rn.need g1 ?_ | refine Rn.need g2 ?_ | exact Rn.ret ⟨(false,_,_),rfl,PJ3.f (by first | omega | exact Int.natCast_nonneg _) (by first | omega | assumption)⟩)
def operT:List (List UInt8):=[[63,47,47],[47,47,61],[33,61],[61,61],[60,61],[62,61],[124,61],[43,61],[45,61],[42,61],[47,61],[37,61],[47,47],[46,46],[46],[91],[93],[40],[41],[123],[125],[44],[58],[59],[61],[124],[43],[45],[42],[47],[37],[60],[62],[63]]
noncomputable def lE (sz:Nat):Res→List V
 | .ret (.osl _ es) _=>es
 | _=>[]
theorem zS2:Ok1 (fun X=>X.E (.call 152 [] Heap.empty)) fun a=>a=operT.map V.str :=
 .tk (R:=rE) (L:=lE 1) (fun _=>rfl) (fun _=>rfl) (Tk.by (.of (fun m=>KI1 (XM m) _ none some) (Rn.ret ⟨_,rfl,rfl⟩)))
theorem zR2 (s:List UInt8):Ok1 (fun X=>X.I (.call 110 [.str s] Heap.empty)) fun a=>0≤a∧a≤s.length :=
 .tk (R:=rI) (L:=lI) (fun _=>rfl) (fun _=>rfl) (Tk.by (.of (fun m=>KH1 (XM m) _ none some s) (by
  refine Rn.bndO zS2 (fun a ha=>?_)
  subst ha
  refine Rn.bndO (zP2 s operT (by decide) 34 0 (by omega) (by decide) (by decide)) (fun a ha=>?_)
  refine Rn.cond (fun h=>?_) (fun h=>Rn.ret ⟨_,rfl,ha.2 h⟩)
  all_goals exact Rn.ret ⟨_,rfl,by omega,by omega⟩)))
def lTk:Res→Int×List UInt8
 | .ret v _=>(match v with
  | .agg [a,b]=>(vI a,vS b)
  | _=>(0,[]))
 | _=>(0,[])
theorem ZJ2 (s:List UInt8) (hs:s.length≤1000000000000) (h1:1≤s.length):Ok1 (fun X=>X.I (.call 106 [.str (List.drop 1 s)] Heap.empty)) fun a=>0≤a∧1+a≤s.length:=by
 have hd:(s.drop 1).length=s.length-1:=List.length_drop ..
 exact (YA1 (s.drop 1) (by omega)).weak fun a ⟨_,_⟩=>⟨by omega,by omega⟩
theorem yd2 (s:List UInt8) (hs:s.length≤1000000000000) (h1:1≤s.length):Ok1 (fun X=>X.I (.call 108 [.str (List.drop 1 s)] Heap.empty)) fun a=>0≤a∧1+a≤s.length:=by
 have hd:(s.drop 1).length=s.length-1:=List.length_drop ..
 exact (yf2 (s.drop 1) (by omega)).weak fun a ⟨_,_⟩=>⟨by omega,by omega⟩
theorem ZP1 (s:List UInt8) (hs:s.length≤1000000000000) (h1:1≤s.length):Ok1 (fun X=>X.K (.call 70 [.str s] Heap.empty)) fun a=>a.2.length≤s.length :=
 .tk (R:=rTk) (L:=lTk) (fun _=>rfl) (fun _=>rfl) (Tk.by (.of (fun m=>KR1 (XM m) _ none some s) (by
  repeat' (first | refine Rn.dec (fun _=>?_) (fun _=>?_) | refine Rn.nI (by omega) ?_ | refine Rn.nX (by omega) ?_ | refine Rn.need (by omega) ?_ | refine Rn.join ?_ (fun _ hj=>?_) | assumption | exact Rn.ret ⟨(_,_),rfl,by show (List.take _ _).length≤_;rw [List.length_take];omega⟩ | (with_reducible refine Rn.bndO (ZX0 _) (fun _ _=>?_)) | (with_reducible refine Rn.bndO (Yq0 _) (fun _ _=>?_)) | (with_reducible refine Rn.bndO (Jo1 s hs) (fun _ ⟨_,_⟩=>?_)) | (with_reducible refine Rn.bndO (zF2 s hs) (fun _ ⟨_,_⟩=>?_)) | (with_reducible refine Rn.bndO (YA1 s hs) (fun _ ⟨_,_⟩=>?_)) | (with_reducible refine Rn.bndO (zG2 s hs) (fun _ ⟨_,_⟩=>?_)) | (with_reducible refine Rn.bndO (zR2 s) (fun _ ⟨_,_⟩=>?_)) | (with_reducible refine Rn.bndO (ZJ2 s hs h1) (fun _ ⟨_,_⟩=>?_)) | (with_reducible refine Rn.bndO (yd2 s hs h1) (fun _ ⟨_,_⟩=>?_)) | refine Rn.cond (fun _=>?_) (fun _=>?_)))))
theorem zo2 (c:Int):Ok1 (fun X=>X.I (.call 101 [.int .u8 c] Heap.empty)) fun a=>-1≤a∧a≤3 :=
 .tk (R:=rI) (L:=lI) (fun _=>rfl) (fun _=>rfl) (Tk.by (.of (fun m=>KB1 (XM m) _ none some c) (by
  (repeat' (first | refine Rn.dec (fun _=>?_) (fun _=>?_) | refine Rn.ndec (fun _=>?_) (fun _=>?_) | refine Rn.nI (by omega) ?_ | refine Rn.nX (by omega) ?_ | refine Rn.need (by omega) ?_ | refine Rn.join ?_ (fun _ hj=>?_) | assumption | refine Rn.cond (fun _=>?_) (fun _=>?_)))
  all_goals exact Rn.ret ⟨_,rfl,by omega,by omega⟩)))
theorem yP1 (s:List UInt8) (i:Int):0≤qf0 s i∧qf0 s i≤255:=by
 unfold qf0
 have:=(s.getD i.toNat 0).toNat_lt
 omega
def PJ4 (s:List UInt8) (n:Int) (a:Bool×List UInt8×Int×Int×Int):Prop:=a.2.1=s∧a.2.2.1=n∧(a.1=false→a.2.2.2.2=0)
theorem PJ4.n {s:List UInt8} {n:Int}:∀ a,PJ4 s n (nJ4 a)→PJ4 s n a:=fun ⟨b,w,n,r,q⟩ h=>by
 cases b with
 | true=>exact ⟨h.1,h.2.1,fun e=>by cases e⟩
 | false=>exact h
theorem Zs1 (s:List UInt8) (n:Int) (hn:n≤3) (hs:n<s.length) (hs2:s.length≤1000000000000):∀ (d:Nat) (i r:Int),1≤i→4-i≤d→0≤r→(i=1→r≤255)→(i=2→r≤20000)→(i=3→r≤2000000)→Ok1 (fun X=>X.J4 (.code (.loop (lpB PP 67 0)) ((base 67 80).on [(0,.str s),(3,.int .i64 n),(4,.int .i64 r),(5,.int .i64 i)]) Heap.empty)) (PJ4 s n):=by
 intro d
 induction d with
 | zero =>
  intro i r h0 h1 h2 h3 h4 h5
  refine .nrm (R:=fun a=>rJ4 (base 67 80) a.1 a) (L:=lJ4) (N:=nJ4) (fun _=>rfl) (fun ⟨b,w,n,r,q⟩=>by cases b <;> kernel_rfl) PJ4.n (Tk.by (.of (fun m=>jH1 (XM m) _ none some s n r i) ?_))
  refine Rn.dec (fun h=>absurd h (by omega)) (fun _=>?_)
  exact Rn.ret ⟨(true,_,_,_,0),rfl,rfl,rfl,fun e=>by cases e⟩
 | succ d IH =>
  intro i r h0 h1 h2 h3 h4 h5
  refine .nrm (R:=fun a=>rJ4 (base 67 80) a.1 a) (L:=lJ4) (N:=nJ4) (fun _=>rfl) (fun ⟨b,w,n,r,q⟩=>by cases b <;> kernel_rfl) PJ4.n (Tk.by (.of (fun m=>jH1 (XM m) _ none some s n r i) ?_))
  refine Rn.dec (fun _=>?_) (fun _=>Rn.ret ⟨(true,_,_,_,0),rfl,rfl,rfl,fun e=>by cases e⟩)
  have hb:=yP1 s i
  have hi:i=1∨i=2∨i=3:=by omega
  refine Rn.nX (by omega) ?_
  refine Rn.dec (fun _=>Rn.ret ⟨(false,_,_,_,_),rfl,rfl,rfl,fun _=>rfl⟩) (fun _=>?_)
  refine Rn.nX (by omega) ?_
  refine Rn.dec (fun _=>Rn.ret ⟨(false,_,_,_,_),rfl,rfl,rfl,fun _=>rfl⟩) (fun _=>?_)
  refine Rn.nI (by rcases hi with h | h | h <;> omega) ?_
  refine Rn.nX (by omega) ?_
  refine Rn.need (by omega) ?_
  refine Rn.nI (by omega) ?_
  refine Rn.nI (by rcases hi with h | h | h <;> omega) ?_
  refine Rn.nI (by omega) ?_
  exact Rn.bndO (IH (i+1) (64*r+qf0 s i%64) (by omega) (by omega) (by omega) (by omega) (by intro e;have:=h3 (by omega);omega) (by intro e;have:=h4 (by omega);omega)) (fun a ⟨p1,p2,p3⟩=>Rn.cond (fun h=>Rn.ret ⟨(true,_,_,_,0),rfl,p1,p2,fun e=>by cases e⟩) (fun h=>Rn.ret ⟨(false,_,_,_,_),rfl,p1,p2,fun _=>p3 h⟩))
theorem one_ok (s:List UInt8) (hs:s.length≤1000000000000):Ok1 (fun X=>X.I (.call 67 [.str s] Heap.empty)) fun a=>0≤a∧a≤s.length :=
 .tk (R:=rI) (L:=lI) (fun _=>rfl) (fun _=>rfl) (Tk.by (.of (fun m=>ev_one (XM m) _ none some s) (by
  refine Rn.dec (fun _=>?_) (fun hne=>?_)
  ·all_goals exact Rn.ret ⟨_,rfl,by omega,by omega⟩
  have hp:=List.length_pos_iff.2 hne
  obtain ⟨n,⟨n1,n2⟩,hn⟩:=zo2 (qf0 s 0)
  refine Rn.nX (by omega) ?_
  refine Rn.bnd hn ?_
  refine Rn.dec (fun _=>?_) (fun _=>?_)
  ·all_goals exact Rn.ret ⟨_,rfl,by omega,by omega⟩
  refine Rn.nX (by omega) ?_
  refine Rn.bnd hn ?_
  refine Rn.dec (fun _=>?_) (fun _=>?_)
  ·all_goals exact Rn.ret ⟨_,rfl,by omega,by omega⟩
  refine Rn.nX (by omega) ?_
  refine Rn.bnd hn ?_
  have hb:=yP1 s 0
  have fin:∀ a,PJ4 s n a→Rn (fun _=>bif a.1 then (need none (((0:Int)≤a.2.2.1)∧(a.2.2.1<4)) (need none (ldC PP 3 1 [.int .i64 0,.int .i64 128,.int .i64 2048,.int .i64 65536] (Int.toNat a.2.2.1*1)) (bif decide (a.2.2.2.1<gI 1 [V.int IntKind.i64 0,V.int IntKind.i64 128,V.int IntKind.i64 2048,V.int IntKind.i64 65536] (Int.toNat a.2.2.1*1) 0) then (some (.ret (.int .i64 0) Heap.empty))
   else (jn (bif decide (1114111<a.2.2.2.1) then (some (.ret (.int .i64 0) Heap.empty))
   else (nI none (a.2.2.1+1) (some (.ret (.int .i64 (a.2.2.1+1)) Heap.empty))))
   (fun j1=>bif decide (55296≤a.2.2.2.1) then (bif decide (a.2.2.2.1≤57343) then (some (.ret (.int .i64 0) Heap.empty))
   else (j1))
   else (j1))))))
   else (some (.ret (.int .i64 a.2.2.2.2) Heap.empty))) (fun r=>∃ a,r=rI a∧0≤a∧a≤s.length):=by
    rintro ⟨b,w,m,r,q⟩ ⟨p1,p2,p3⟩
    change m=n at p2
    subst p2
    refine Rn.cond (fun _=>?_) (fun hb=>?_)
    ·dsimp only
     refine Rn.need (by omega) ?_
     have hl:ldC PP 3 1 [.int .i64 0,.int .i64 128,.int .i64 2048,.int .i64 65536] (Int.toNat m*1):=by
      have hm:m=0∨m=1∨m=2∨m=3:=by omega
      rcases hm with rfl | rfl | rfl | rfl <;> exact (Yp0 rfl).2.1
     refine Rn.need hl ?_
     repeat' (first | refine Rn.dec (fun _=>?_) (fun _=>?_) | refine Rn.ndec (fun _=>?_) (fun _=>?_) | refine Rn.nI (by omega) ?_ | refine Rn.nX (by omega) ?_ | refine Rn.need (by omega) ?_ | refine Rn.join ?_ (fun _ hj=>?_) | assumption | refine Rn.cond (fun _=>?_) (fun _=>?_) | exact Rn.ret ⟨_,rfl,by omega,by omega⟩)
    ·have:=p3 hb
     refine Rn.ret ⟨_,rfl,?_,?_⟩
     ·rw [this];omega
     ·rw [this];omega
  refine Rn.nX (by omega) ?_
  refine Rn.nI (by omega) ?_
  refine Rn.dec (fun _=>?_) (fun _=>?_)
  ·have hp2:0<(64:Int)/2^Int.toNat n:=by
    have hm:n=1∨n=2∨n=3:=by omega
    rcases hm with rfl | rfl | rfl <;> decide
   have hp3:(64:Int)/2^Int.toNat n≤64:=by
    have hm:n=1∨n=2∨n=3:=by omega
    rcases hm with rfl | rfl | rfl <;> decide
   refine Rn.need (by omega) ?_
   refine Rn.need (by
    have hm:n=1∨n=2∨n=3:=by omega
    rcases hm with rfl | rfl | rfl <;> first | rfl | kernel_rfl) ?_
   refine Rn.need ⟨by omega,hp2⟩ ?_
   generalize (64:Int)/2^Int.toNat n=q at hp2 hp3
   have h1:=Int.emod_nonneg (qf0 s 0) (show q≠0 by omega)
   have h2:=Int.emod_lt_of_pos (qf0 s 0) hp2
   exact Rn.bndO (Zs1 s n (by omega) (by omega) hs 4 1 _ (by omega) (by omega) h1 (by omega) (by omega) (by omega)) fin
  ·exact Rn.bndO (Zs1 s n (by omega) (by omega) hs 4 1 _ (by omega) (by omega) hb.1 (by omega) (by omega) (by omega)) fin)))
theorem JO1 (s:List UInt8) (hs:s.length≤1000000000000):∀ (d:Nat) (n:Int),0≤n→n≤s.length→(s.length:Int)-n≤d→Ok1 (fun X=>X.J3 (.code (.loop (lpB PP 31 0)) ((base 31 19).on [(0,.str s),(3,.int .i64 n)]) Heap.empty)) (PJ3 s 0 s.length):=by
 intro d
 induction d with
 | zero =>
  intro n h0 h1 h2
  refine .nrm (R:=fun a=>rJ3 (base 31 19) a.1 a) (L:=lJ3) (N:=nJ3) (fun _=>rfl) (fun ⟨b,w,r⟩=>by cases b <;> kernel_rfl) PJ3.n (Tk.by (.of (fun m=>jw1 (XM m) _ none some s n) ?_))
  refine Rn.dec (fun h=>absurd h (by omega)) (fun _=>?_)
  exact Rn.ret ⟨(true,_,0),rfl,PJ3.t⟩
 | succ d IH =>
  intro n h0 h1 h2
  refine .nrm (R:=fun a=>rJ3 (base 31 19) a.1 a) (L:=lJ3) (N:=nJ3) (fun _=>rfl) (fun ⟨b,w,r⟩=>by cases b <;> kernel_rfl) PJ3.n (Tk.by (.of (fun m=>jw1 (XM m) _ none some s n) ?_))
  refine Rn.dec (fun _=>?_) (fun _=>Rn.ret ⟨(true,_,0),rfl,PJ3.t⟩)
  refine Rn.need (by omega) ?_
  have hd:=Yf0 (s:=s) (n:=n) (by omega) (by omega)
  refine Rn.bndO (one_ok (s.drop n.toNat) (by omega)) (fun a ⟨_,_⟩=>?_)
  refine Rn.dec (fun _=>?_) (fun _=>?_)
  ·exact Rn.ret ⟨(false,_,_),rfl,PJ3.f (by omega) (by omega)⟩
  ·refine Rn.nI (by omega) ?_
   exact Rn.bndO (IH (n+a) (by omega) (by omega) (by omega)) (fun a ha=>Rn.cond (fun h=>Rn.ret ⟨(true,_,0),rfl,ha.t'⟩) (fun h=>Rn.ret ⟨(false,_,_),rfl,ha.f' h⟩))
theorem JP1 (s:List UInt8) (hs:s.length≤1000000000000):Ok1 (fun X=>X.I (.call 31 [.str s] Heap.empty)) fun a=>-1≤a∧a≤s.length :=
 .tk (R:=rI) (L:=lI) (fun _=>rfl) (fun _=>rfl) (Tk.by (.of (fun m=>Kr1 (XM m) _ none some s) (by
  refine Rn.bndO (JO1 s hs s.length 0 (by omega) (by omega) (by omega)) (fun a ha=>?_)
  refine Rn.cond (fun h=>Rn.ret ⟨_,rfl,by omega,by omega⟩) (fun h=>?_)
  have:=ha.2 h
  exact Rn.ret ⟨_,rfl,by omega,by omega⟩)))
/-- THE REFERENCE's LEXER: its state. -/
def TS (at1:Int) (n:Nat) (l:List V):Prop:=∃ ts:List (Int×List UInt8),l=ts.map qN0∧n=ts.length∧(ts.length:Int)≤at1∧∀ t,t∈ts→t.2≠[]∧t.2.length≤65536
def OS (at1:Int) (o:List V):Prop:=∃ zs:List Int,o=zs.map (V.int .i64)∧(zs.length:Int)≤at1∧∀ z,z∈zs→-at1≤z∧z≤at1
theorem TS.gnd {at1:Int} {n:Nat} {l:List V} (h:TS at1 n l):GndR l:=by obtain ⟨ts,rfl,_⟩:=h;exact GL1 ts
theorem TS.len {at1:Int} {n:Nat} {l:List V} (h:TS at1 n l):n=l.length∧(n:Int)≤at1:=by obtain ⟨ts,rfl,rfl,h,_⟩:=h;exact ⟨by rw [List.length_map],h⟩
theorem TS.put {at1:Int} {n:Nat} {l:List V} (h:TS at1 n l) {k:Int} {w:List UInt8} (hw:w≠[]) (hw2:w.length≤65536):TS (at1+(w.length:Int)) (n+1) (l++[V.agg [V.int IntKind.i64 k,V.str w]]):=by
 obtain ⟨ts,rfl,rfl,h1,h2⟩:=h
 have:=List.length_pos_iff.2 hw
 refine ⟨ts++[(k,w)],by rw [List.map_append];rfl,by simp,by simp;omega,fun t ht=>?_⟩
 rcases List.mem_append.1 ht with h | h
 ·exact h2 t h
 ·rw [List.mem_singleton] at h;rw [h];exact ⟨hw,hw2⟩
theorem TS.nil {at1:Int} (h:0≤at1):TS at1 0 []:=⟨[],rfl,rfl,h,fun t ht=>by cases ht⟩
theorem OS.mono {a b:Int} {o:List V} (h:OS a o) (hab:a≤b):OS b o:=by
 obtain ⟨zs,rfl,h1,h2⟩:=h
 exact ⟨zs,rfl,by omega,fun z hz=>by have:=h2 z hz;omega⟩
theorem OS.nil {a:Int} (h:0≤a):OS a []:=⟨[],rfl,h,fun z hz=>by cases hz⟩
theorem OS.gnd {a:Int} {o:List V} (h:OS a o):GndR o:=by obtain ⟨zs,rfl,_⟩:=h;exact GI1 zs
theorem OS.len {a:Int} {o:List V} (h:OS a o):(o.length:Int)≤a:=by obtain ⟨zs,rfl,h,_⟩:=h;rw [List.length_map];exact h
theorem OS.push {a:Int} {o:List V} (h:OS a o) (h0:0≤a):OS (a+1) (o++[V.int .i64 0]):=by
 obtain ⟨zs,rfl,h1,h2⟩:=h
 refine ⟨zs++[0],by rw [List.map_append];rfl,by simp;omega,fun z hz=>?_⟩
 rcases List.mem_append.1 hz with h | h
 ·have:=h2 z h;omega
 ·rw [List.mem_singleton] at h;omega
theorem OS.take {a:Int} {o:List V} (h:OS a o) (n:Nat):OS a (o.take n):=by
 obtain ⟨zs,rfl,h1,h2⟩:=h
 refine ⟨zs.take n,List.map_take.symm,by rw [List.length_take];omega,fun z hz=>h2 z (List.mem_of_mem_take hz)⟩
theorem OS.get {a:Int} {o:List V} (h:OS a o) {i:Nat} (hi:i<o.length):∃ z:Int,o[i]?=some (.int .i64 z)∧-a≤z∧z≤a:=by
 obtain ⟨zs,rfl,h1,h2⟩:=h
 rw [List.length_map] at hi
 exact ⟨zs[i],zP0 hi,h2 _ (List.getElem_mem hi)⟩
theorem ZM0 {o:List V} {i:Nat} {z y:Int} (h:o[i]?=some (.int .i64 z)):qY0 1 o (i*1) (.int .i64 y)=o.set i (.int .i64 y):=by
 unfold qY0
 rw [Nat.mul_one,Nat.div_one,Nat.mod_one,show o.getD i undef=.int .i64 z by rw [List.getD_eq_getElem?_getD,h];rfl,List.setN_eq]
 rfl
theorem ZN0 {o:List V} {i:Nat} {z y:Int} (h:o[i]?=some (.int .i64 z)):stX PP 3 (.int .i64 y) 0 1 o (i*1):=by
 have hi:=qe0 h
 refine ⟨rfl,by kernel_rfl,Nat.zero_le _,by decide,by rw [Nat.mul_one,Nat.div_one];exact hi,?_⟩
 rw [Nat.mul_one,Nat.div_one,Nat.mod_one,show o.getD i undef=.int .i64 z by rw [List.getD_eq_getElem?_getD,h];rfl]
 intro e;cases e
theorem OS.set {a:Int} {o:List V} (h:OS a o) {i:Nat} (hi:i<o.length) {y:Int} (hy:-(a+1)≤y∧y≤a+1):OS (a+1) (o.set i (.int .i64 y)):=by
 obtain ⟨zs,rfl,h1,h2⟩:=h
 refine ⟨zs.set i y,by rw [List.map_set],by rw [List.length_set];omega,fun z hz=>?_⟩
 rcases List.mem_or_eq_of_mem_set hz with h | h
 ·have:=h2 z h;omega
 ·rw [h];exact hy
noncomputable def lL:Res→Lx
 | .ret v h=>(match v with
  | .agg [a,b,c,d,e,f]=>(match c with
   | .sl _ ver _ n _=>(match dL h with
    | some p=>⟨vS a,vI b,ver,n,p.2,zW0 d,vB e,vI f,true⟩
    | none=>⟨[],0,0,0,[],[],false,0,false⟩)
   | _=>⟨vS a,vI b,0,0,[],zW0 d,vB e,vI f,false⟩)
  | _=>⟨[],0,0,0,[],[],false,0,false⟩)
 | _=>⟨[],0,0,0,[],[],false,0,false⟩
def nL (a:Lx):Lx:=bif a.z then ⟨a.s,a.at1,a.ver,a.n,a.l,a.o,a.i,a.e,true⟩ else ⟨a.s,a.at1,0,0,[],a.o,a.i,11,false⟩
theorem Xw0 (a:Lx):lL (rLx a)=nL a:=by
 obtain ⟨s,at1,ver,n,l,o,i,e,z⟩:=a
 cases z <;> kernel_rfl
def LxR (s:List UInt8) (at1:Int) (a:Lx):Prop:=a.z=true∧a.s=s∧at1≤a.at1∧a.at1≤s.length∧(a.e=0→at1<a.at1)∧TS a.at1 a.n a.l∧OS a.at1 a.o
theorem LxR.n {s:List UInt8} {at1:Int}:∀ a,LxR s at1 (nL a)→LxR s at1 a:=fun ⟨s,at1,ver,n,l,o,i,e,z⟩ h=>by
 cases z with
 | true=>exact h
 | false=>cases h.1
def LP (s:List UInt8) (at1:Int) (i:Bool) (e:Int) (a:Lx):Prop:=a.z=true∧a.s=s∧a.at1=at1∧a.i=i∧a.e=e∧TS a.at1 a.n a.l∧OS a.at1 a.o
theorem LP.n {s:List UInt8} {at1:Int} {i:Bool} {e:Int}:∀ a,LP s at1 i e (nL a)→LP s at1 i e a:=fun ⟨s,at1,ver,n,l,o,i,e,z⟩ h=>by
 cases z with
 | true=>exact h
 | false=>cases h.1
theorem yX0 (s:List UInt8) (hs:s.length≤65536) (at1:Int) (h0:0≤at1) (ver n:Nat) (l o:List V) (i:Bool) (e kk:Int) (w:List UInt8) (hw:w≠[]) (h1:at1+(w.length:Int)≤s.length) (hl:TS at1 n l) (ho:OS (at1+(w.length:Int)) o):Ok1 (fun X=>X.L (.call 69 [.agg [.str s,.int .i64 at1,.sl 0 ver 0 n none,.osl 1 o,.bool i,.int .i64 e],.agg [.int .i64 kk,.str w]] (hpL ver l))) (LP s (at1+(w.length:Int)) i e):=by
 have hln:=hl.len
 have hp:=hl.put (k:=kk) hw (by omega)
 refine .nrm (R:=rLx) (L:=lL) (N:=nL) (fun _=>rfl) Xw0 LP.n (Tk.by (.of (fun m=>KQ1 (XM m) _ none some s at1 ver n l o i e kk w) ?_))
 refine Rn.need ⟨rfl,List.cons_ne_nil _ _,hln.1,Nat.zero_le _,by simp only [List.length_singleton];omega,by simp only [List.length_singleton];omega⟩ ?_
 refine Rn.nI (by omega) ?_
 refine Rn.cond (fun hi=>?_) (fun hi=>?_)
 ·exact Rn.need hp.gnd (Rn.ret ⟨⟨s,at1+(w.length:Int),ver+1,n+1,_,o,true,e,true⟩,rfl,rfl,rfl,rfl,hi.symm,rfl,hp,ho⟩)
 ·exact Rn.need hp.gnd (Rn.ret ⟨⟨s,at1+(w.length:Int),ver+1,n+1,_,o,false,e,true⟩,rfl,rfl,rfl,rfl,hi.symm,rfl,hp,ho⟩)
theorem Yw0 (s:List UInt8) (hs:s.length≤65536) (at1:Int) (h0:0≤at1) (o:List V) (i:Bool) (e kk:Int) (w:List UInt8) (hw:w≠[]) (h1:at1+(w.length:Int)≤s.length) (ho:OS (at1+(w.length:Int)) o):Ok1 (fun X=>X.L (.call 69 [.agg [.str s,.int .i64 at1,.nils,.osl 1 o,.bool i,.int .i64 e],.agg [.int .i64 kk,.str w]] Heap.empty)) (LP s (at1+(w.length:Int)) i e):=by
 have hp:=(TS.nil h0).put (k:=kk) hw (by omega)
 refine .nrm (R:=rLx) (L:=lL) (N:=nL) (fun _=>rfl) Xw0 LP.n (Tk.by (.of (fun m=>KP1 (XM m) _ none some s at1 o i e kk w) ?_))
 refine Rn.need ⟨List.cons_ne_nil _ _,by omega,by omega⟩ ?_
 refine Rn.nI (by omega) ?_
 refine Rn.cond (fun hi=>?_) (fun hi=>?_)
 ·exact Rn.need hp.gnd (Rn.ret ⟨⟨s,at1+(w.length:Int),0,1,_,o,true,e,true⟩,rfl,rfl,rfl,rfl,hi.symm,rfl,hp,ho⟩)
 ·exact Rn.need hp.gnd (Rn.ret ⟨⟨s,at1+(w.length:Int),0,1,_,o,false,e,true⟩,rfl,rfl,rfl,rfl,hi.symm,rfl,hp,ho⟩)
theorem Rn.joinC {C:Prop} {s:Nat→Option Res} {F:Option Res→Nat→Option Res} {Q:Res→Prop} (hs:C→Rn s Q) (hF:∀ (j:Nat→Option Res),(C→Rn j Q)→Rn (fun n=>F (j n) n) Q):Rn (fun n=>jn (s n) (fun j=>F j n)) Q:=hF s hs
theorem yS0 {s:List UInt8} {at1 at2:Int} {i:Bool} {e:Int} (h1:at1<at2) (h2:at2≤s.length) (a:Lx) (ha:LP s at2 i e a):Rn (fun _=>bif a.z then need none (GndR a.l) (bif a.i then need none (GndR a.l) (some (.ret (.agg [.str a.s,.int .i64 a.at1,.sl 0 a.ver 0 a.n none,.osl 1 a.o,.bool true,.int .i64 a.e]) (hpL a.ver a.l))) else need none (GndR a.l) (some (.ret (.agg [.str a.s,.int .i64 a.at1,.sl 0 a.ver 0 a.n none,.osl 1 a.o,.bool false,.int .i64 a.e]) (hpL a.ver a.l)))) else none) (fun r=>∃ a,r=rLx a∧LxR s at1 (nL a)):=by
 obtain ⟨s',at',ver,n,l,o,i',e',z⟩:=a
 obtain ⟨p1,p2,p3,p4,p5,p6,p7⟩:=ha
 change z=true at p1
 change s'=s at p2
 change at'=at2 at p3
 subst p1 p2 p3
 refine Rn.need p6.gnd ?_
 refine Rn.cond (fun hi=>?_) (fun hi=>?_)
 ·exact Rn.need p6.gnd (Rn.ret ⟨⟨s',at',ver,n,l,o,true,e',true⟩,rfl,rfl,rfl,Int.le_of_lt h1,h2,fun _=>h1,p6,p7⟩)
 ·exact Rn.need p6.gnd (Rn.ret ⟨⟨s',at',ver,n,l,o,false,e',true⟩,rfl,rfl,rfl,Int.le_of_lt h1,h2,fun _=>h1,p6,p7⟩)
theorem qi2 {α:Type} {l:List α} (h:qn0 l=true):l=[]:=by cases l with
 | nil=>rfl
 | cons=>cases h
theorem jk0 {α:Type} {l:List α} (h:qn0 l=false):l≠[]:=by cases l with
 | nil=>cases h
 | cons=>exact List.cons_ne_nil _ _
theorem GZ1 (s:List UInt8) (hs:s.length≤65536) (at1:Int) (h0:0≤at1) (h1:at1<s.length) (ver n:Nat) (l o:List V) (e:Int) (hl:TS at1 n l) (ho:OS at1 o):Ok1 (fun X=>X.L (.call 32 [.agg [.str s,.int .i64 at1,.sl 0 ver 0 n none,.osl 1 o,.bool true,.int .i64 e]] (hpL ver l))) (LxR s at1):=by
 refine .nrm (R:=rLx) (L:=lL) (N:=nL) (fun _=>rfl) Xw0 LxR.n (Tk.by (.of (fun m=>Kx1 (XM m) _ none some s at1 ver n l o e) ?_))
 have hd:=Yf0 (s:=s) (n:=at1) (by omega) (by omega)
 have hlen:=ho.len
 refine Rn.need (by omega) ?_
 refine Rn.bndO (yj2 (s.drop at1.toNat) (by omega)) (fun a1 ⟨q0,q1⟩=>?_)
 refine Rn.dec (fun hpos=>?_) (fun hpos=>?_)
 ·refine Rn.need (by omega) ?_
  refine Rn.need hl.gnd ?_
  have hw:(List.take a1.toNat (List.drop at1.toNat s)).length=a1.toNat:=by rw [List.length_take];omega
  exact Rn.bndO (yX0 s hs at1 h0 ver n l o true e 8 _ (List.ne_nil_of_length_pos (by omega)) (by omega) hl (ho.mono (by omega))) (yS0 (by omega) (by omega))
 ·refine Rn.nX (by omega) ?_
  refine Rn.dec (fun _=>?_) (fun _=>?_)
  ·refine Rn.need (by omega) ?_
   refine Rn.need hl.gnd ?_
   have hw:(List.take 1 (List.drop at1.toNat s)).length=1:=by rw [List.length_take];omega
   exact Rn.bndO (yX0 s hs at1 h0 ver n l o false e 11 _ (List.ne_nil_of_length_pos (by omega)) (by omega) hl (ho.mono (by omega))) (yS0 (by omega) (by omega))
  ·refine Rn.dec (fun _=>?_) (fun _=>?_)
   ·exact Rn.need hl.gnd (Rn.ret ⟨⟨s,at1,ver,n,l,o,true,12,true⟩,rfl,rfl,rfl,Int.le_refl _,Int.le_of_lt h1,(fun h=>by cases h),hl,ho⟩)
   ·refine Rn.nX (by omega) ?_
    refine Rn.ndec (fun _=>?_) (fun _=>?_)
    ·exact Rn.need hl.gnd (Rn.ret ⟨⟨s,at1,ver,n,l,o,true,12,true⟩,rfl,rfl,rfl,Int.le_refl _,Int.le_of_lt h1,(fun h=>by cases h),hl,ho⟩)
    ·refine Rn.dec (fun _=>?_) (fun _=>?_)
     ·exact Rn.need hl.gnd (Rn.ret ⟨⟨s,at1,ver,n,l,o,true,21,true⟩,rfl,rfl,rfl,Int.le_refl _,Int.le_of_lt h1,(fun h=>by cases h),hl,ho⟩)
     ·have hw:(List.take 2 (List.drop at1.toNat s)).length=2:=by rw [List.length_take];omega
      refine Rn.cond (fun hn=>?_) (fun hn=>?_)
      ·have hop:=(OS.nil h0).push h0
       refine Rn.need ⟨List.cons_ne_nil _ _,by omega,by omega⟩ ?_
       refine Rn.need ⟨rfl,rfl,rfl,hop.gnd⟩ ?_
       refine Rn.need (by omega) ?_
       refine Rn.need hl.gnd ?_
       exact Rn.bndO (yX0 s hs at1 h0 ver n l _ false e 9 _ (List.ne_nil_of_length_pos (by omega)) (by omega) hl (hop.mono (by omega))) (yS0 (by omega) (by omega))
      ·have hop:=ho.push h0
       refine Rn.need ⟨jk0 hn,by omega,by omega⟩ ?_
       refine Rn.need ⟨rfl,List.cons_ne_nil _ _,rfl,Nat.zero_le _,by omega,by omega⟩ ?_
       refine Rn.need ⟨rfl,rfl,by rw [List.length_append];rfl,hop.gnd⟩ ?_
       refine Rn.need (by omega) ?_
       refine Rn.need hl.gnd ?_
       exact Rn.bndO (yX0 s hs at1 h0 ver n l _ false e 9 _ (List.ne_nil_of_length_pos (by omega)) (by omega) hl (hop.mono (by omega))) (yS0 (by omega) (by omega))
def LxZ (s:List UInt8) (at1:Int) (a:Lx):Prop:=LxR s at1 a∨a.z=false∧a.s=s
theorem LxZ.n {s:List UInt8} {at1:Int}:∀ a,LxZ s at1 (nL a)→LxZ s at1 a:=fun ⟨s,at1,ver,n,l,o,i,e,z⟩ h=>by
 cases z with
 | true =>
  rcases h with h | h
  ·exact .inl h
  ·cases h.1
 | false =>
  rcases h with h | h
  ·cases h.1
  ·exact .inr h
theorem Yi0 {s:List UInt8} {at1 at2:Int} {i:Bool} {e:Int} (h1:at1<at2) (h2:at2≤s.length) (a:Lx) (ha:LP s at2 i e a):Rn (fun _=>bif a.z then need none (GndR a.l) (bif a.i then need none (GndR a.l) (some (.ret (.agg [.str a.s,.int .i64 a.at1,.sl 0 a.ver 0 a.n none,.osl 1 a.o,.bool true,.int .i64 a.e]) (hpL a.ver a.l))) else need none (GndR a.l) (some (.ret (.agg [.str a.s,.int .i64 a.at1,.sl 0 a.ver 0 a.n none,.osl 1 a.o,.bool false,.int .i64 a.e]) (hpL a.ver a.l)))) else (bif a.i then (some (.ret (.agg [.str a.s,.int .i64 a.at1,.nils,.osl 1 a.o,.bool true,.int .i64 11]) Heap.empty)) else (some (.ret (.agg [.str a.s,.int .i64 a.at1,.nils,.osl 1 a.o,.bool false,.int .i64 11]) Heap.empty)))) (fun r=>∃ a,r=rLx a∧LxZ s at1 (nL a)):=by
 obtain ⟨s',at',ver,n,l,o,i',e',z⟩:=a
 obtain ⟨p1,p2,p3,p4,p5,p6,p7⟩:=ha
 change z=true at p1
 change s'=s at p2
 change at'=at2 at p3
 subst p1 p2 p3
 refine Rn.need p6.gnd ?_
 refine Rn.cond (fun hi=>?_) (fun hi=>?_)
 ·exact Rn.need p6.gnd (Rn.ret ⟨⟨s',at',ver,n,l,o,true,e',true⟩,rfl,.inl ⟨rfl,rfl,Int.le_of_lt h1,h2,fun _=>h1,p6,p7⟩⟩)
 ·exact Rn.need p6.gnd (Rn.ret ⟨⟨s',at',ver,n,l,o,false,e',true⟩,rfl,.inl ⟨rfl,rfl,Int.le_of_lt h1,h2,fun _=>h1,p6,p7⟩⟩)
theorem zY2 (s:List UInt8) (hs:s.length≤65536) (at1:Int) (h0:0≤at1) (h1:at1<s.length) (ver n:Nat) (l o:List V) (e:Int) (hl:TS at1 n l) (ho:OS at1 o):Ok1 (fun X=>X.L (.call 33 [.agg [.str s,.int .i64 at1,.sl 0 ver 0 n none,.osl 1 o,.bool false,.int .i64 e]] (hpL ver l))) (LxR s at1):=by
 refine .nrm (R:=rLx) (L:=lL) (N:=nL) (fun _=>rfl) Xw0 LxR.n (Tk.by (.of (fun m=>KK1 (XM m) _ none some s at1 ver n l o e) ?_))
 have hd:=Yf0 (s:=s) (n:=at1) (by omega) (by omega)
 have hlen:=ho.len
 refine Rn.need (by omega) ?_
 refine Rn.bndO (ZP1 (s.drop at1.toNat) (by omega) (by omega)) (fun a1 hw=>?_)
 refine Rn.dec (fun _=>?_) (fun hne=>?_)
 ·exact Rn.need hl.gnd (Rn.ret ⟨⟨s,at1,ver,n,l,o,false,11,true⟩,rfl,rfl,rfl,Int.le_refl _,Int.le_of_lt h1,(fun h=>by cases h),hl,ho⟩)
 have hpos:=List.length_pos_iff.2 hne
 refine Rn.nI (by omega) ?_
 refine Rn.joinC (C:=1≤o.length) (fun hk=>?_) (fun j1 hj1=>?_)
 ·refine Rn.need (by omega) ?_
  refine Rn.need hl.gnd ?_
  exact Rn.bndO (yX0 s hs at1 h0 ver n l _ true e 10 _ hne (by omega) hl ((ho.take _).mono (by omega))) (yS0 (by omega) (by omega))
 have key2:∀ j2:Nat→Option Res,Rn j2 (fun r=>∃ a,r=rLx a∧LxR s at1 (nL a))→Rn (fun n=>bif decide (0≤(↑(List.length o):Int)-1) then (bif decide (a1.1=13) then (bif decide (a1.2=[41]) then (nX none ((↑(List.length o):Int)-1) (List.length o) (need none (ldC PP 3 1 (o) (Int.toNat ((↑(List.length o):Int)-1)*1)) (bif decide (gI 1 o (Int.toNat ((↑(List.length o):Int)-1)*1) 0=0) then (j1 n)
  else (j2 n)))) else (j2 n)) else (j2 n)) else (j2 n)) (fun r=>∃ a,r=rLx a∧LxR s at1 (nL a)):=fun j2 hj2=>by
  refine Rn.dec (fun hk=>?_) (fun _=>hj2)
  refine Rn.dec (fun _=>?_) (fun _=>hj2)
  refine Rn.dec (fun _=>?_) (fun _=>hj2)
  refine Rn.nX (by omega) ?_
  obtain ⟨z,hz,z1,z2⟩:=ho.get (i:=((o.length:Int)-1).toNat) (by omega)
  refine Rn.need (Yp0 hz).2.1 ?_
  exact Rn.dec (fun _=>hj1 (by omega)) (fun _=>hj2)
 refine Rn.dec (fun _=>?_) (fun _=>?_)
 ·refine Rn.join ?_ (fun j2 hj2=>key2 j2 hj2)
  refine Rn.join ?_ (fun j3 hj3=>?_)
  ·refine Rn.need hl.gnd ?_
   exact Rn.bndO (yX0 s hs at1 h0 ver n l _ true e _ _ hne (by omega) hl (ho.mono (by omega))) (yS0 (by omega) (by omega))
  ·refine Rn.dec (fun hk=>?_) (fun _=>hj3)
   refine Rn.dec (fun _=>?_) (fun _=>hj3)
   refine Rn.joinC (C:=1≤o.length) (fun hk=>?_) (fun j4 hj4=>?_)
   ·refine Rn.need ⟨List.ne_nil_of_length_pos hk,by omega,by omega⟩ ?_
    obtain ⟨z,hz,z1,z2⟩:=ho.get (i:=((o.length:Int)-1).toNat) (by omega)
    obtain ⟨g1,g2,g3⟩:=Yp0 hz
    simp only [Nat.zero_add]
    rw [g3,ZM0 hz,ZM0 hz]
    refine Rn.dec (fun _=>?_) (fun _=>?_)
    ·have hop:=ho.set (i:=((o.length:Int)-1).toNat) (by omega) (y:=z+1) (by omega)
     refine Rn.nX (by omega) ?_
     refine Rn.need ⟨trivial,g1⟩ ?_
     refine Rn.nI (by omega) ?_
     refine Rn.nX (by omega) ?_
     refine Rn.need trivial ?_
     refine Rn.need (ZN0 hz) ?_
     refine Rn.need ⟨trivial,trivial,by rw [List.length_set],hop.gnd⟩ ?_
     refine Rn.need hl.gnd ?_
     exact Rn.bndO (yX0 s hs at1 h0 ver n l _ true e _ _ hne (by omega) hl (hop.mono (by omega))) (yS0 (by omega) (by omega))
    ·have hop:=ho.set (i:=((o.length:Int)-1).toNat) (by omega) (y:=z-1) (by omega)
     refine Rn.nX (by omega) ?_
     refine Rn.need ⟨trivial,g1⟩ ?_
     refine Rn.nI (by omega) ?_
     refine Rn.nX (by omega) ?_
     refine Rn.need trivial ?_
     refine Rn.need (ZN0 hz) ?_
     refine Rn.need ⟨trivial,trivial,by rw [List.length_set],hop.gnd⟩ ?_
     refine Rn.need hl.gnd ?_
     exact Rn.bndO (yX0 s hs at1 h0 ver n l _ true e _ _ hne (by omega) hl (hop.mono (by omega))) (yS0 (by omega) (by omega))
   ·refine Rn.dec (fun _=>hj4 (by omega)) (fun _=>?_)
    exact Rn.dec (fun _=>hj4 (by omega)) (fun _=>hj3)
 ·refine Rn.join ?_ (fun j2 hj2=>key2 j2 hj2)
  refine Rn.join ?_ (fun j3 hj3=>?_)
  ·refine Rn.need hl.gnd ?_
   exact Rn.bndO (yX0 s hs at1 h0 ver n l _ false e _ _ hne (by omega) hl (ho.mono (by omega))) (yS0 (by omega) (by omega))
  ·refine Rn.dec (fun hk=>?_) (fun _=>hj3)
   refine Rn.dec (fun _=>?_) (fun _=>hj3)
   refine Rn.joinC (C:=1≤o.length) (fun hk=>?_) (fun j4 hj4=>?_)
   ·refine Rn.need ⟨List.ne_nil_of_length_pos hk,by omega,by omega⟩ ?_
    obtain ⟨z,hz,z1,z2⟩:=ho.get (i:=((o.length:Int)-1).toNat) (by omega)
    obtain ⟨g1,g2,g3⟩:=Yp0 hz
    simp only [Nat.zero_add]
    rw [g3,ZM0 hz,ZM0 hz]
    refine Rn.dec (fun _=>?_) (fun _=>?_)
    ·have hop:=ho.set (i:=((o.length:Int)-1).toNat) (by omega) (y:=z+1) (by omega)
     refine Rn.nX (by omega) ?_
     refine Rn.need ⟨trivial,g1⟩ ?_
     refine Rn.nI (by omega) ?_
     refine Rn.nX (by omega) ?_
     refine Rn.need trivial ?_
     refine Rn.need (ZN0 hz) ?_
     refine Rn.need ⟨trivial,trivial,by rw [List.length_set],hop.gnd⟩ ?_
     refine Rn.need hl.gnd ?_
     exact Rn.bndO (yX0 s hs at1 h0 ver n l _ false e _ _ hne (by omega) hl (hop.mono (by omega))) (yS0 (by omega) (by omega))
    ·have hop:=ho.set (i:=((o.length:Int)-1).toNat) (by omega) (y:=z-1) (by omega)
     refine Rn.nX (by omega) ?_
     refine Rn.need ⟨trivial,g1⟩ ?_
     refine Rn.nI (by omega) ?_
     refine Rn.nX (by omega) ?_
     refine Rn.need trivial ?_
     refine Rn.need (ZN0 hz) ?_
     refine Rn.need ⟨trivial,trivial,by rw [List.length_set],hop.gnd⟩ ?_
     refine Rn.need hl.gnd ?_
     exact Rn.bndO (yX0 s hs at1 h0 ver n l _ false e _ _ hne (by omega) hl (hop.mono (by omega))) (yS0 (by omega) (by omega))
   ·refine Rn.dec (fun _=>hj4 (by omega)) (fun _=>?_)
    exact Rn.dec (fun _=>hj4 (by omega)) (fun _=>hj3)
theorem zX2 (s:List UInt8) (hs:s.length≤65536) (at1:Int) (h0:0≤at1) (h1:at1<s.length) (o:List V) (e:Int) (ho:OS at1 o):Ok1 (fun X=>X.L (.call 33 [.agg [.str s,.int .i64 at1,.nils,.osl 1 o,.bool false,.int .i64 e]] Heap.empty)) (LxZ s at1):=by
 refine .nrm (R:=rLx) (L:=lL) (N:=nL) (fun _=>rfl) Xw0 LxZ.n (Tk.by (.of (fun m=>KJ1 (XM m) _ none some s at1 o e) ?_))
 have hd:=Yf0 (s:=s) (n:=at1) (by omega) (by omega)
 have hlen:=ho.len
 refine Rn.need (by omega) ?_
 refine Rn.bndO (ZP1 (s.drop at1.toNat) (by omega) (by omega)) (fun a1 hw=>?_)
 refine Rn.dec (fun _=>?_) (fun hne=>?_)
 ·exact Rn.ret ⟨⟨s,at1,0,0,[],o,false,11,false⟩,rfl,.inr ⟨rfl,rfl⟩⟩
 have hpos:=List.length_pos_iff.2 hne
 refine Rn.nI (by omega) ?_
 refine Rn.joinC (C:=1≤o.length) (fun hk=>?_) (fun j1 hj1=>?_)
 ·refine Rn.need (by omega) ?_
  skip
  exact Rn.bndO (Yw0 s hs at1 h0 _ true e 10 _ hne (by omega) ((ho.take _).mono (by omega))) (Yi0 (by omega) (by omega))
 have key2:∀ j2:Nat→Option Res,Rn j2 (fun r=>∃ a,r=rLx a∧LxZ s at1 (nL a))→Rn (fun n=>bif decide (0≤(↑(List.length o):Int)-1) then (bif decide (a1.1=13) then (bif decide (a1.2=[41]) then (nX none ((↑(List.length o):Int)-1) (List.length o) (need none (ldC PP 3 1 (o) (Int.toNat ((↑(List.length o):Int)-1)*1)) (bif decide (gI 1 o (Int.toNat ((↑(List.length o):Int)-1)*1) 0=0) then (j1 n)
  else (j2 n)))) else (j2 n)) else (j2 n)) else (j2 n)) (fun r=>∃ a,r=rLx a∧LxZ s at1 (nL a)):=fun j2 hj2=>by
  refine Rn.dec (fun hk=>?_) (fun _=>hj2)
  refine Rn.dec (fun _=>?_) (fun _=>hj2)
  refine Rn.dec (fun _=>?_) (fun _=>hj2)
  refine Rn.nX (by omega) ?_
  obtain ⟨z,hz,z1,z2⟩:=ho.get (i:=((o.length:Int)-1).toNat) (by omega)
  refine Rn.need (Yp0 hz).2.1 ?_
  exact Rn.dec (fun _=>hj1 (by omega)) (fun _=>hj2)
 refine Rn.dec (fun _=>?_) (fun _=>?_)
 ·refine Rn.join ?_ (fun j2 hj2=>key2 j2 hj2)
  refine Rn.join ?_ (fun j3 hj3=>?_)
  ·skip
   exact Rn.bndO (Yw0 s hs at1 h0 _ true e _ _ hne (by omega) (ho.mono (by omega))) (Yi0 (by omega) (by omega))
  ·refine Rn.dec (fun hk=>?_) (fun _=>hj3)
   refine Rn.dec (fun _=>?_) (fun _=>hj3)
   refine Rn.joinC (C:=1≤o.length) (fun hk=>?_) (fun j4 hj4=>?_)
   ·refine Rn.need ⟨List.ne_nil_of_length_pos hk,by omega,by omega⟩ ?_
    obtain ⟨z,hz,z1,z2⟩:=ho.get (i:=((o.length:Int)-1).toNat) (by omega)
    obtain ⟨g1,g2,g3⟩:=Yp0 hz
    simp only [Nat.zero_add]
    rw [g3,ZM0 hz,ZM0 hz]
    refine Rn.dec (fun _=>?_) (fun _=>?_)
    ·have hop:=ho.set (i:=((o.length:Int)-1).toNat) (by omega) (y:=z+1) (by omega)
     refine Rn.nX (by omega) ?_
     refine Rn.need ⟨trivial,g1⟩ ?_
     refine Rn.nI (by omega) ?_
     refine Rn.nX (by omega) ?_
     refine Rn.need trivial ?_
     refine Rn.need (ZN0 hz) ?_
     refine Rn.need ⟨trivial,trivial,by rw [List.length_set],hop.gnd⟩ ?_
     skip
     exact Rn.bndO (Yw0 s hs at1 h0 _ true e _ _ hne (by omega) (hop.mono (by omega))) (Yi0 (by omega) (by omega))
    ·have hop:=ho.set (i:=((o.length:Int)-1).toNat) (by omega) (y:=z-1) (by omega)
     refine Rn.nX (by omega) ?_
     refine Rn.need ⟨trivial,g1⟩ ?_
     refine Rn.nI (by omega) ?_
     refine Rn.nX (by omega) ?_
     refine Rn.need trivial ?_
     refine Rn.need (ZN0 hz) ?_
     refine Rn.need ⟨trivial,trivial,by rw [List.length_set],hop.gnd⟩ ?_
     skip
     exact Rn.bndO (Yw0 s hs at1 h0 _ true e _ _ hne (by omega) (hop.mono (by omega))) (Yi0 (by omega) (by omega))
   ·refine Rn.dec (fun _=>hj4 (by omega)) (fun _=>?_)
    exact Rn.dec (fun _=>hj4 (by omega)) (fun _=>hj3)
 ·refine Rn.join ?_ (fun j2 hj2=>key2 j2 hj2)
  refine Rn.join ?_ (fun j3 hj3=>?_)
  ·skip
   exact Rn.bndO (Yw0 s hs at1 h0 _ false e _ _ hne (by omega) (ho.mono (by omega))) (Yi0 (by omega) (by omega))
  ·refine Rn.dec (fun hk=>?_) (fun _=>hj3)
   refine Rn.dec (fun _=>?_) (fun _=>hj3)
   refine Rn.joinC (C:=1≤o.length) (fun hk=>?_) (fun j4 hj4=>?_)
   ·refine Rn.need ⟨List.ne_nil_of_length_pos hk,by omega,by omega⟩ ?_
    obtain ⟨z,hz,z1,z2⟩:=ho.get (i:=((o.length:Int)-1).toNat) (by omega)
    obtain ⟨g1,g2,g3⟩:=Yp0 hz
    simp only [Nat.zero_add]
    rw [g3,ZM0 hz,ZM0 hz]
    refine Rn.dec (fun _=>?_) (fun _=>?_)
    ·have hop:=ho.set (i:=((o.length:Int)-1).toNat) (by omega) (y:=z+1) (by omega)
     refine Rn.nX (by omega) ?_
     refine Rn.need ⟨trivial,g1⟩ ?_
     refine Rn.nI (by omega) ?_
     refine Rn.nX (by omega) ?_
     refine Rn.need trivial ?_
     refine Rn.need (ZN0 hz) ?_
     refine Rn.need ⟨trivial,trivial,by rw [List.length_set],hop.gnd⟩ ?_
     skip
     exact Rn.bndO (Yw0 s hs at1 h0 _ false e _ _ hne (by omega) (hop.mono (by omega))) (Yi0 (by omega) (by omega))
    ·have hop:=ho.set (i:=((o.length:Int)-1).toNat) (by omega) (y:=z-1) (by omega)
     refine Rn.nX (by omega) ?_
     refine Rn.need ⟨trivial,g1⟩ ?_
     refine Rn.nI (by omega) ?_
     refine Rn.nX (by omega) ?_
     refine Rn.need trivial ?_
     refine Rn.need (ZN0 hz) ?_
     refine Rn.need ⟨trivial,trivial,by rw [List.length_set],hop.gnd⟩ ?_
     skip
     exact Rn.bndO (Yw0 s hs at1 h0 _ false e _ _ hne (by omega) (hop.mono (by omega))) (Yi0 (by omega) (by omega))
   ·refine Rn.dec (fun _=>hj4 (by omega)) (fun _=>?_)
    exact Rn.dec (fun _=>hj4 (by omega)) (fun _=>hj3)
noncomputable def lJL:Res→Lx
 | .code _ _ h=>(match zA0 (h.get 0) with
  | v::_=>(match v with
   | .agg [a,b,c,d,e,f]=>(match c with
    | .sl _ ver _ n _=>⟨vS a,vI b,ver,n,zA0 (h.get 1),zW0 d,vB e,vI f,false⟩
    | _=>⟨[],0,0,0,[],[],false,0,false⟩)
   | _=>⟨[],0,0,0,[],[],false,0,false⟩)
  | _=>⟨[],0,0,0,[],[],false,0,false⟩)
 | _=>⟨[],0,0,0,[],[],false,0,false⟩
def nJL (a:Lx):Lx:=⟨a.s,a.at1,a.ver,a.n,a.l,a.o,a.i,a.e,false⟩
def LxT (s:List UInt8) (a:Lx):Prop:=a.s=s∧a.at1≤s.length∧TS a.at1 a.n a.l
theorem ZF2 (s:List UInt8) (hs:s.length≤65536):∀ (d:Nat) (at1:Int) (ver n:Nat) (l o:List V) (i:Bool) (e:Int),0≤at1→at1≤s.length→TS at1 n l→OS at1 o→2*((s.length:Int)-at1)≤d→(e=0→2*((s.length:Int)-at1)+1≤d)→Ok1 (fun X=>X.JL (.code (.loop (lpB PP 18 0)) ((base 18 52).on [(0,.str s),(6,.ptr 0 0 0)]) (hp [.row 0 81 6 0 (some 1) [.agg [.str s,.int .i64 at1,.sl 1 ver 0 n none,.osl 1 o,.bool i,.int .i64 e]],.row ver 49 2 0 none l]))) (LxT s):=by
 intro d
 induction d with
 | zero =>
  intro at1 ver n l o i e h0 h1 hl ho hd he
  refine .nrm (R:=rJL (base 18 52)) (L:=lJL) (N:=nJL) (fun _=>rfl) (fun a=>by kernel_rfl) (fun a h=>h) (Tk.by (.of (fun m=>jP1 (XM m) _ none some s s at1 ver n l o i e) ?_))
  refine Rn.join ?_ (fun j1 hj1=>?_)
  ·exact Rn.need hl.gnd (Rn.need hl.gnd (Rn.ret ⟨⟨s,at1,ver,n,l,o,i,e,false⟩,rfl,rfl,h1,hl⟩))
  ·refine Rn.dec (fun hlt=>?_) (fun _=>hj1)
   exact Rn.dec (fun h=>absurd (he h) (by omega)) (fun _=>hj1)
 | succ d IH =>
  intro at1 ver n l o i e h0 h1 hl ho hd he
  refine .nrm (R:=rJL (base 18 52)) (L:=lJL) (N:=nJL) (fun _=>rfl) (fun a=>by kernel_rfl) (fun a h=>h) (Tk.by (.of (fun m=>jP1 (XM m) _ none some s s at1 ver n l o i e) ?_))
  refine Rn.join ?_ (fun j1 hj1=>?_)
  ·exact Rn.need hl.gnd (Rn.need hl.gnd (Rn.ret ⟨⟨s,at1,ver,n,l,o,i,e,false⟩,rfl,rfl,h1,hl⟩))
  refine Rn.dec (fun hlt=>?_) (fun _=>hj1)
  refine Rn.dec (fun he0=>?_) (fun _=>hj1)
  have he:=he he0
  have fin2:∀ a,LxT s a→Rn (fun _=>need none (GndR a.l) (some (.code (.exit 0) ((base 18 52).on [(0,.str a.s),(6,.ptr 0 0 0)]) (hp [.row 0 81 6 0 (some 1) [.agg [.str a.s,.int .i64 a.at1,.sl 1 a.ver 0 a.n none,.osl 1 a.o,.bool a.i,.int .i64 a.e]],.row a.ver 49 2 0 none a.l])))) (fun r=>∃ a,r=rJL (base 18 52) a∧LxT s (nJL a)):=fun a ha=>Rn.need ha.2.2.gnd (Rn.ret ⟨a,rfl,ha⟩)
  have go:∀ a,LxR s at1 a→∀ b:Bool,Ok1 (fun X=>X.JL (.code (.loop (lpB PP 18 0)) ((base 18 52).on [(0,.str s),(6,.ptr 0 0 0)]) (hp [.row 0 81 6 0 (some 1) [.agg [.str a.s,.int .i64 a.at1,.sl 1 a.ver 0 a.n none,.osl 1 a.o,.bool b,.int .i64 a.e]],.row a.ver 49 2 0 none a.l]))) (LxT s):=fun a ha b=>by
   obtain ⟨p1,p2,p3,p4,p5,p6,p7⟩:=ha
   rw [p2]
   exact IH a.at1 a.ver a.n a.l a.o b a.e (by omega) p4 p6 p7 (by omega) (fun h=>by have:=p5 h;omega)
  cases i with
  | true =>
   refine Rn.cond (fun _=>?_) (fun h=>by cases h)
   refine Rn.cond (fun _=>?_) (fun h=>by cases h)
   refine Rn.need hl.gnd ?_
   refine Rn.bndO (GZ1 s hs at1 h0 hlt ver n l o e hl ho) (fun a ha=>?_)
   refine Rn.cond (fun _=>?_) (fun h=>by rw [ha.1] at h;cases h)
   refine Rn.need ha.2.2.2.2.2.1.gnd ?_
   refine Rn.cond (fun _=>?_) (fun _=>?_)
   ·refine Rn.need ha.2.2.2.2.2.1.gnd ?_
    exact Rn.bndO (go a ha true) fin2
   ·refine Rn.need ha.2.2.2.2.2.1.gnd ?_
    exact Rn.bndO (go a ha false) fin2
  | false =>
   refine Rn.cond (fun h=>by cases h) (fun _=>?_)
   refine Rn.cond (fun h=>by cases h) (fun _=>?_)
   refine Rn.need hl.gnd ?_
   refine Rn.bndO (zY2 s hs at1 h0 hlt ver n l o e hl ho) (fun a ha=>?_)
   refine Rn.cond (fun _=>?_) (fun h=>by rw [ha.1] at h;cases h)
   refine Rn.need ha.2.2.2.2.2.1.gnd ?_
   refine Rn.cond (fun _=>?_) (fun _=>?_)
   ·refine Rn.need ha.2.2.2.2.2.1.gnd ?_
    exact Rn.bndO (go a ha true) fin2
   ·refine Rn.need ha.2.2.2.2.2.1.gnd ?_
    exact Rn.bndO (go a ha false) fin2
def Tks (es:List V):Prop:=∃ ts:List (Int×List UInt8),es=ts.map qN0∧ts.length≤65536∧∀ t,t∈ts→t.2≠[]∧t.2.length≤65536
theorem Tks.nil:Tks []:=⟨[],rfl,by decide,fun t ht=>by cases ht⟩
noncomputable def lTT:Res→List V×Int×Int
 | .ret v _=>(match v with
  | .tup [a,b,c]=>(zW0 a,vI b,vI c)
  | _=>([],0,0))
 | _=>([],0,0)
theorem Yy1 (s:List UInt8) (hs:s.length≤1000000000000):Ok1 (fun X=>X.TT (.call 18 [.str s] Heap.empty)) fun a=>Tks a.1:=by
 refine .tk (R:=rTT) (L:=lTT) (fun _=>rfl) (fun _=>rfl) (Tk.by (.of (fun m=>KX1 (XM m) _ none some s) ?_))
 refine Rn.dec (fun _=>Rn.ret ⟨(_,_,_),rfl,Tks.nil⟩) (fun hs2=>?_)
 refine Rn.bndO (JP1 s hs) (fun c _=>?_)
 refine Rn.dec (fun _=>Rn.ret ⟨(_,_,_),rfl,Tks.nil⟩) (fun _=>?_)
 refine Rn.dec (fun hpos=>?_) (fun _=>Rn.ret ⟨(_,_,_),rfl,Tks.nil⟩)
 refine Rn.bndO (zX2 s (by omega) 0 (by omega) (by omega) [] 0 (OS.nil (by omega))) (fun a ha=>?_)
 refine Rn.cond (fun hz=>?_) (fun _=>?_)
 ·have ha:LxR s 0 a:=ha.resolve_right fun h=>by rw [h.1] at hz;cases hz
  obtain ⟨p1,p2,p3,p4,p5,p6,p7⟩:=ha
  have fin:∀ b,LxT s b→Rn (fun _=>bif !decide (b.e=0) then (some (.ret (.tup [.osl 2 [],.int .i64 b.e,.int .i64 b.at1]) Heap.empty)) else (bif b.i then (some (.ret (.tup [.osl 2 [],.int .i64 13,.int .i64 (↑(List.length b.s):Int)]) Heap.empty)) else (bif decide (0<(↑(List.length b.o):Int)) then (some (.ret (.tup [.osl 2 [],.int .i64 13,.int .i64 (↑(List.length b.s):Int)]) Heap.empty)) else (nG none b.ver b.n b.l (some (.ret (.tup [.osl 2 b.l,.int .i64 0,.int .i64 0]) Heap.empty)))))) (fun r=>∃ a,r=rTT a∧Tks a.1):=fun b hb=>by
   obtain ⟨_,q2,q3⟩:=hb
   refine Rn.ndec (fun _=>Rn.ret ⟨(_,_,_),rfl,Tks.nil⟩) (fun _=>?_)
   refine Rn.cond (fun _=>Rn.ret ⟨(_,_,_),rfl,Tks.nil⟩) (fun _=>?_)
   refine Rn.dec (fun _=>Rn.ret ⟨(_,_,_),rfl,Tks.nil⟩) (fun _=>?_)
   refine Rn.nG q3.len.1 q3.gnd (Rn.ret ⟨(_,_,_),rfl,?_⟩)
   obtain ⟨ts,t1,t2,t3,t4⟩:=q3
   exact ⟨ts,t1,by omega,t4⟩
  have go:∀ b:Bool,Ok1 (fun X=>X.JL (.code (.loop (lpB PP 18 0)) ((base 18 52).on [(0,.str s),(6,.ptr 0 0 0)]) (hp [.row 0 81 6 0 (some 1) [.agg [.str a.s,.int .i64 a.at1,.sl 1 a.ver 0 a.n none,.osl 1 a.o,.bool b,.int .i64 a.e]],.row a.ver 49 2 0 none a.l]))) (LxT s):=fun b=>by
   rw [p2]
   exact ZF2 s (by omega) (2*s.length+1) a.at1 a.ver a.n a.l a.o b a.e p3 p4 p6 p7 (by omega) (by omega)
  refine Rn.need p6.gnd ?_
  refine Rn.cond (fun _=>?_) (fun _=>?_)
  ·refine Rn.need p6.gnd ?_
   exact Rn.bndO (go true) fin
  ·refine Rn.need p6.gnd ?_
   exact Rn.bndO (go false) fin
 ·refine Rn.join ?_ (fun _ hj=>Rn.cond (fun _=>hj) (fun _=>hj))
  exact Rn.dec (fun _=>Rn.ret ⟨(_,_,_),rfl,Tks.nil⟩) (fun _=>Rn.ret ⟨(_,_,_),rfl,Tks.nil⟩)
end Go.AM
