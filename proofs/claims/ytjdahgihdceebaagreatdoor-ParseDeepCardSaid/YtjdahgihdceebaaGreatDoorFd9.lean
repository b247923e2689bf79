/-
  WHAT FUNCTIONS OF THE PROGRAM COME TO, told by the machine, and plain laws of it. No condition but what each theorem says of its arguments.
-/
import Derived.Test.YtjdahgihdceebaaGreatDoorFd8
namespace Go.AM
open Go.Proofs
set_option maxRecDepth 100000
set_option maxHeartbeats 4000000
theorem KK1 (X:PlX) (ih:Task→Res) {β:Type} (bot:β) (k:Res→β) (s:List UInt8):evN PP EP CP (qp0 X) ih bot (.call 29 [.str s] Heap.empty) k =
 bif decide (65536<(↑(List.length s):Int)) then (k (.ret (.tup [(.osl 2 []),(.int .u16 3),(.int .i64 0)]) Heap.empty))
 else (PR.bnd bot (X.1 (.call 62 [(.str (s))] Heap.empty)) (fun a1 =>
 bif decide (0≤a1) then (k (.ret (.tup [(.osl 2 []),(.int .u16 10),(.int .i64 (a1))]) Heap.empty))
 else (bif decide (0<(↑(List.length s):Int)) then (PR.bnd bot (X.5 (.call 98 [(.ptr 0 0 0),yt0] (hp [.row 0 94 5 0 (some 1) [(.agg [(.str (s)),(.int .i64 0),.nils,(.bool false),(.int .u16 0)])]]))) (fun a4 =>
 jn (bif !decide (a4.e=0) then (k (.ret (.tup [(.osl 2 []),(.int .u16 (a4.e)),(.int .i64 (a4.a))]) Heap.empty))
 else (k (.ret (.tup [(.osl 2 []),(.int .u16 0),(.int .i64 0)]) Heap.empty)))
 (fun j1:β=>bif a4.5 then (bif !decide (a4.e=0) then (j1)
 else (need bot (([V.agg [V.int IntKind.i64 a4.k,V.str a4.w]]≠[])∧((1≤1099511627776)∧(24≤1099511627776))) (nI bot (a4.a+(↑(List.length a4.w):Int)) (need bot (GndR [(.agg [(.int .i64 (a4.k)),(.str (a4.w))])]) (PR.bnd bot (X.6 (.code (.loop (lpB PP 94 0)) ((base 94 62).on [(0,(.func (.yield 4) [] [])),(1,(.ptr 1 0 0)),(3,(.ptr 5 0 0))]) (hp [.row 0 94 5 0 (some 1) [(.agg [(.str (a4.s)),(.int .i64 (a4.a+(↑(List.length a4.w):Int))),.nils,(.bool (a4.i)),(.int .u16 (a4.e))])],.row 0 90 1 0 (some 1) [(.ptr 0 0 0)],.row 0 45 1 0 (some 1) [(.sl 6 0 0 1 none)],.defs,lpT,.row 0 118 1 0 (some 1) [yt0],.row 0 49 2 0 none [(.agg [(.int .i64 (a4.k)),(.str (a4.w))])]]))) (fun a10 =>
 jn (bif !decide (a10.e=0) then (k (.ret (.tup [(.osl 2 []),(.int .u16 (a10.e)),(.int .i64 (a10.a))]) Heap.empty))
 else (nG bot a10.w (a10.m) a10.l (k (.ret (.tup [(.osl 2 (a10.l)),(.int .u16 0),(.int .i64 0)]) Heap.empty))))
 (fun j2:β=>bif a10.12 then (bif a10.3 then (j2)
 else (j2))
 else (bif a10.3 then (bif a10.i then (k (.ret (.tup [(.osl 2 []),(.int .u16 13),(.int .i64 (a10.a))]) Heap.empty))
 else (j2))
 else (bif a10.i then (k (.ret (.tup [(.osl 2 []),(.int .u16 13),(.int .i64 (a10.a))]) Heap.empty))
 else (bif decide ((↑a10.n:Int)=0) then (j2)
 else (nI bot ((↑a10.n:Int)-1) (need bot (((0:Int)≤((↑a10.n:Int)-1))∧(((↑a10.n:Int)-1)<((↑a10.n:Int)))) (k (.ret (.tup [(.osl 2 []),(.int .u16 13),(.int .i64 (a10.a))]) Heap.empty)))))))))
 (fun _=>bot))))))
 else (need bot (GndR (a4.l)) (bif !decide (a4.e=0) then (need bot (GndR (a4.l)) (j1))
 else (need bot (([V.agg [V.int IntKind.i64 a4.k,V.str a4.w]]≠[])∧((1≤1099511627776)∧(24≤1099511627776))) (nI bot (a4.a+(↑(List.length a4.w):Int)) (need bot (GndR (a4.l)) (need bot (GndR [(.agg [(.int .i64 (a4.k)),(.str (a4.w))])]) (PR.bnd bot (X.6 (.code (.loop (lpB PP 94 0)) ((base 94 62).on [(0,(.func (.yield 4) [] [])),(1,(.ptr 1 0 0)),(3,(.ptr 5 0 0))]) (hp [.row 0 94 5 0 (some 1) [(.agg [(.str (a4.s)),(.int .i64 (a4.a+(↑(List.length a4.w):Int))),(.sl 6 (a4.v) 0 (a4.n) none),(.bool (a4.i)),(.int .u16 (a4.e))])],.row 0 90 1 0 (some 1) [(.ptr 0 0 0)],.row 0 45 1 0 (some 1) [(.sl 7 0 0 1 none)],.defs,lpT,.row 0 118 1 0 (some 1) [yt0],.row (a4.v) 3 1 0 none (a4.l),.row 0 49 2 0 none [(.agg [(.int .i64 (a4.k)),(.str (a4.w))])]]))) (fun a12 =>
 jn (bif !decide (a12.e=0) then (k (.ret (.tup [(.osl 2 []),(.int .u16 (a12.e)),(.int .i64 (a12.a))]) Heap.empty))
 else (nG bot a12.w (a12.m) a12.l (k (.ret (.tup [(.osl 2 (a12.l)),(.int .u16 0),(.int .i64 0)]) Heap.empty))))
 (fun j3:β=>bif a12.12 then (bif a12.3 then (j3)
 else (j3))
 else (bif a12.3 then (bif a12.i then (k (.ret (.tup [(.osl 2 []),(.int .u16 13),(.int .i64 (a12.a))]) Heap.empty))
 else (j3))
 else (bif a12.i then (k (.ret (.tup [(.osl 2 []),(.int .u16 13),(.int .i64 (a12.a))]) Heap.empty))
 else (bif decide ((↑a12.n:Int)=0) then (j3)
 else (nI bot ((↑a12.n:Int)-1) (need bot (((0:Int)≤((↑a12.n:Int)-1))∧(((↑a12.n:Int)-1)<((↑a12.n:Int)))) (k (.ret (.tup [(.osl 2 []),(.int .u16 13),(.int .i64 (a12.a))]) Heap.empty)))))))))
 (fun _=>bot))))))))))
 (fun _=>bot))
 else (k (.ret (.tup [(.osl 2 []),(.int .u16 0),(.int .i64 0)]) Heap.empty))))
 (fun _=>bot)):=by kernel_rfl
theorem jz1 (X:PlX) (ih:Task→Res) {β:Type} (bot:β) (k:Res→β) (s:List UInt8) (a e:Int) (i:Bool) (v n:Nat) (l:List V):evN PP EP CP (qp0 X) ih bot (.code (.loop (lpB PP 94 0)) ((base 94 62).on [(0,.func (.yield 4) [] []),(1,.ptr 1 0 0),(3,.ptr 5 0 0)]) (hpA (lxO s a .nils i e) (.sl 6 v 0 n none) [.row v 49 2 0 none l])) k =
 bif decide (a<(↑(List.length s):Int)) then (bif i then (PR.bnd bot (X.5 (.call 96 [(.ptr 0 0 0)] (hp [.row 0 94 5 0 (some 1) [(.agg [(.str (s)),(.int .i64 (a)),.nils,(.bool (i)),(.int .u16 (e))])]]))) (fun a2 =>
 bif a2.5 then (bif !decide (a2.e=0) then (need bot (GndR (l)) (need bot (GndR (l)) (k (.code .ret ((base 94 62).on [(0,(.func (.yield 4) [] [])),(1,(.ptr 1 0 0))]) (hp [.row 0 94 5 0 (some 1) [(.agg [(.str (a2.s)),(.int .i64 (a2.a)),.nils,(.bool (a2.i)),(.int .u16 (a2.e))])],.row 0 90 1 0 (some 1) [(.ptr 0 0 0)],.row 0 45 1 0 (some 1) [(.sl 6 (v) 0 (n) none)],.defs,lpT,.row 0 118 1 0 (some 1) [],.row (v) 49 2 0 none (l)])))))
 else (need bot (((v)=(v))∧(([V.agg [V.int IntKind.i64 a2.k,V.str a2.w]]≠[])∧(((n)=(List.length l))∧((0≤(n))∧(((n+List.length [V.agg [V.int IntKind.i64 a2.k,V.str a2.w]])≤1099511627776)∧(((n+List.length [V.agg [V.int IntKind.i64 a2.k,V.str a2.w]])*24)≤1099511627776)))))) (nI bot (a2.a+(↑(List.length a2.w):Int)) (need bot (GndR (l++[V.agg [V.int IntKind.i64 a2.k,V.str a2.w]])) (PR.bnd bot (X.6 (.code (.loop (lpB PP 94 0)) ((base 94 62).on [(0,(.func (.yield 4) [] [])),(1,(.ptr 1 0 0)),(3,(.ptr 5 0 0))]) (hp [.row 0 94 5 0 (some 1) [(.agg [(.str (a2.s)),(.int .i64 (a2.a+(↑(List.length a2.w):Int))),.nils,(.bool (a2.i)),(.int .u16 (a2.e))])],.row 0 90 1 0 (some 1) [(.ptr 0 0 0)],.row 0 45 1 0 (some 1) [(.sl 6 (Nat.succ v) 0 (n+List.length [V.agg [V.int IntKind.i64 a2.k,V.str a2.w]]) none)],.defs,lpT,.row 0 118 1 0 (some 1) [yt0],.row (Nat.succ v) 49 2 0 none (l++[V.agg [V.int IntKind.i64 a2.k,V.str a2.w]])]))) (fun a8 =>
 bif a8.12 then (bif a8.3 then (need bot (GndR (a8.l)) (k (.code .ret ((base 94 62).on [(0,(.func (.yield 4) [] [])),(1,(.ptr 1 0 0))]) (hp [.row 0 94 5 0 (some 1) [(.agg [(.str (a8.s)),(.int .i64 (a8.a)),.nils,(.bool (a8.i)),(.int .u16 (a8.e))])],.row 0 90 1 0 (some 1) [(.ptr 0 0 0)],.row 0 45 1 0 (some 1) [(.sl 6 (a8.w) 0 (a8.m) none)],.defs,lpT,.row 0 118 1 0 (some 1) [],.row (a8.w) 49 2 0 none (a8.l)]))))
 else (need bot (GndR (a8.l)) (need bot (GndR (a8.o)) (k (.code .ret ((base 94 62).on [(0,(.func (.yield 4) [] [])),(1,(.ptr 1 0 0))]) (hp [.row 0 94 5 0 (some 1) [(.agg [(.str (a8.s)),(.int .i64 (a8.a)),(.sl 7 (a8.v) 0 (a8.n) none),(.bool (a8.i)),(.int .u16 (a8.e))])],.row 0 90 1 0 (some 1) [(.ptr 0 0 0)],.row 0 45 1 0 (some 1) [(.sl 6 (a8.w) 0 (a8.m) none)],.defs,lpT,.row 0 118 1 0 (some 1) [],.row (a8.w) 49 2 0 none (a8.l),.row (a8.v) 3 1 0 none (a8.o)]))))))
 else (bif a8.3 then (need bot (GndR (a8.l)) (k (.code (.exit 0) ((base 94 62).on [(0,(.func (.yield 4) [] [])),(1,(.ptr 1 0 0))]) (hp [.row 0 94 5 0 (some 1) [(.agg [(.str (a8.s)),(.int .i64 (a8.a)),.nils,(.bool (a8.i)),(.int .u16 (a8.e))])],.row 0 90 1 0 (some 1) [(.ptr 0 0 0)],.row 0 45 1 0 (some 1) [(.sl 6 (a8.w) 0 (a8.m) none)],.defs,lpT,.row 0 118 1 0 (some 1) [],.row (a8.w) 49 2 0 none (a8.l)]))))
 else (need bot (GndR (a8.l)) (need bot (GndR (a8.o)) (k (.code (.exit 0) ((base 94 62).on [(0,(.func (.yield 4) [] [])),(1,(.ptr 1 0 0))]) (hp [.row 0 94 5 0 (some 1) [(.agg [(.str (a8.s)),(.int .i64 (a8.a)),(.sl 7 (a8.v) 0 (a8.n) none),(.bool (a8.i)),(.int .u16 (a8.e))])],.row 0 90 1 0 (some 1) [(.ptr 0 0 0)],.row 0 45 1 0 (some 1) [(.sl 6 (a8.w) 0 (a8.m) none)],.defs,lpT,.row 0 118 1 0 (some 1) [],.row (a8.w) 49 2 0 none (a8.l),.row (a8.v) 3 1 0 none (a8.o)])))))))
 (fun e8=>k (qN e8)))))))
 else (need bot (GndR (a2.l)) (bif !decide (a2.e=0) then (need bot (GndR (l)) (need bot (GndR (a2.l)) (need bot (GndR (l)) (need bot (GndR (a2.l)) (k (.code .ret ((base 94 62).on [(0,(.func (.yield 4) [] [])),(1,(.ptr 1 0 0))]) (hp [.row 0 94 5 0 (some 1) [(.agg [(.str (a2.s)),(.int .i64 (a2.a)),(.sl 7 (a2.v) 0 (a2.n) none),(.bool (a2.i)),(.int .u16 (a2.e))])],.row 0 90 1 0 (some 1) [(.ptr 0 0 0)],.row 0 45 1 0 (some 1) [(.sl 6 (v) 0 (n) none)],.defs,lpT,.row 0 118 1 0 (some 1) [],.row (v) 49 2 0 none (l),.row (a2.v) 3 1 0 none (a2.l)])))))))
 else (need bot (((v)=(v))∧(([V.agg [V.int IntKind.i64 a2.k,V.str a2.w]]≠[])∧(((n)=(List.length l))∧((0≤(n))∧(((n+List.length [V.agg [V.int IntKind.i64 a2.k,V.str a2.w]])≤1099511627776)∧(((n+List.length [V.agg [V.int IntKind.i64 a2.k,V.str a2.w]])*24)≤1099511627776)))))) (nI bot (a2.a+(↑(List.length a2.w):Int)) (need bot (GndR (l++[V.agg [V.int IntKind.i64 a2.k,V.str a2.w]])) (need bot (GndR (a2.l)) (PR.bnd bot (X.6 (.code (.loop (lpB PP 94 0)) ((base 94 62).on [(0,(.func (.yield 4) [] [])),(1,(.ptr 1 0 0)),(3,(.ptr 5 0 0))]) (hp [.row 0 94 5 0 (some 1) [(.agg [(.str (a2.s)),(.int .i64 (a2.a+(↑(List.length a2.w):Int))),(.sl 7 (a2.v) 0 (a2.n) none),(.bool (a2.i)),(.int .u16 (a2.e))])],.row 0 90 1 0 (some 1) [(.ptr 0 0 0)],.row 0 45 1 0 (some 1) [(.sl 6 (Nat.succ v) 0 (n+List.length [V.agg [V.int IntKind.i64 a2.k,V.str a2.w]]) none)],.defs,lpT,.row 0 118 1 0 (some 1) [yt0],.row (Nat.succ v) 49 2 0 none (l++[V.agg [V.int IntKind.i64 a2.k,V.str a2.w]]),.row (a2.v) 3 1 0 none (a2.l)]))) (fun a10 =>
 bif a10.12 then (bif a10.3 then (need bot (GndR (a10.l)) (k (.code .ret ((base 94 62).on [(0,(.func (.yield 4) [] [])),(1,(.ptr 1 0 0))]) (hp [.row 0 94 5 0 (some 1) [(.agg [(.str (a10.s)),(.int .i64 (a10.a)),.nils,(.bool (a10.i)),(.int .u16 (a10.e))])],.row 0 90 1 0 (some 1) [(.ptr 0 0 0)],.row 0 45 1 0 (some 1) [(.sl 6 (a10.w) 0 (a10.m) none)],.defs,lpT,.row 0 118 1 0 (some 1) [],.row (a10.w) 49 2 0 none (a10.l)]))))
 else (need bot (GndR (a10.l)) (need bot (GndR (a10.o)) (k (.code .ret ((base 94 62).on [(0,(.func (.yield 4) [] [])),(1,(.ptr 1 0 0))]) (hp [.row 0 94 5 0 (some 1) [(.agg [(.str (a10.s)),(.int .i64 (a10.a)),(.sl 7 (a10.v) 0 (a10.n) none),(.bool (a10.i)),(.int .u16 (a10.e))])],.row 0 90 1 0 (some 1) [(.ptr 0 0 0)],.row 0 45 1 0 (some 1) [(.sl 6 (a10.w) 0 (a10.m) none)],.defs,lpT,.row 0 118 1 0 (some 1) [],.row (a10.w) 49 2 0 none (a10.l),.row (a10.v) 3 1 0 none (a10.o)]))))))
 else (bif a10.3 then (need bot (GndR (a10.l)) (k (.code (.exit 0) ((base 94 62).on [(0,(.func (.yield 4) [] [])),(1,(.ptr 1 0 0))]) (hp [.row 0 94 5 0 (some 1) [(.agg [(.str (a10.s)),(.int .i64 (a10.a)),.nils,(.bool (a10.i)),(.int .u16 (a10.e))])],.row 0 90 1 0 (some 1) [(.ptr 0 0 0)],.row 0 45 1 0 (some 1) [(.sl 6 (a10.w) 0 (a10.m) none)],.defs,lpT,.row 0 118 1 0 (some 1) [],.row (a10.w) 49 2 0 none (a10.l)]))))
 else (need bot (GndR (a10.l)) (need bot (GndR (a10.o)) (k (.code (.exit 0) ((base 94 62).on [(0,(.func (.yield 4) [] [])),(1,(.ptr 1 0 0))]) (hp [.row 0 94 5 0 (some 1) [(.agg [(.str (a10.s)),(.int .i64 (a10.a)),(.sl 7 (a10.v) 0 (a10.n) none),(.bool (a10.i)),(.int .u16 (a10.e))])],.row 0 90 1 0 (some 1) [(.ptr 0 0 0)],.row 0 45 1 0 (some 1) [(.sl 6 (a10.w) 0 (a10.m) none)],.defs,lpT,.row 0 118 1 0 (some 1) [],.row (a10.w) 49 2 0 none (a10.l),.row (a10.v) 3 1 0 none (a10.o)])))))))
 (fun e10=>k (qN e10))))))))))
 (fun _=>bot))
 else (PR.bnd bot (X.5 (.call 98 [(.ptr 0 0 0),yt0] (hp [.row 0 94 5 0 (some 1) [(.agg [(.str (s)),(.int .i64 (a)),.nils,(.bool (i)),(.int .u16 (e))])]]))) (fun a2 =>
 bif a2.5 then (bif !decide (a2.e=0) then (need bot (GndR (l)) (need bot (GndR (l)) (k (.code .ret ((base 94 62).on [(0,(.func (.yield 4) [] [])),(1,(.ptr 1 0 0))]) (hp [.row 0 94 5 0 (some 1) [(.agg [(.str (a2.s)),(.int .i64 (a2.a)),.nils,(.bool (a2.i)),(.int .u16 (a2.e))])],.row 0 90 1 0 (some 1) [(.ptr 0 0 0)],.row 0 45 1 0 (some 1) [(.sl 6 (v) 0 (n) none)],.defs,lpT,.row 0 118 1 0 (some 1) [],.row (v) 49 2 0 none (l)])))))
 else (need bot (((v)=(v))∧(([V.agg [V.int IntKind.i64 a2.k,V.str a2.w]]≠[])∧(((n)=(List.length l))∧((0≤(n))∧(((n+List.length [V.agg [V.int IntKind.i64 a2.k,V.str a2.w]])≤1099511627776)∧(((n+List.length [V.agg [V.int IntKind.i64 a2.k,V.str a2.w]])*24)≤1099511627776)))))) (nI bot (a2.a+(↑(List.length a2.w):Int)) (need bot (GndR (l++[V.agg [V.int IntKind.i64 a2.k,V.str a2.w]])) (PR.bnd bot (X.6 (.code (.loop (lpB PP 94 0)) ((base 94 62).on [(0,(.func (.yield 4) [] [])),(1,(.ptr 1 0 0)),(3,(.ptr 5 0 0))]) (hp [.row 0 94 5 0 (some 1) [(.agg [(.str (a2.s)),(.int .i64 (a2.a+(↑(List.length a2.w):Int))),.nils,(.bool (a2.i)),(.int .u16 (a2.e))])],.row 0 90 1 0 (some 1) [(.ptr 0 0 0)],.row 0 45 1 0 (some 1) [(.sl 6 (Nat.succ v) 0 (n+List.length [V.agg [V.int IntKind.i64 a2.k,V.str a2.w]]) none)],.defs,lpT,.row 0 118 1 0 (some 1) [yt0],.row (Nat.succ v) 49 2 0 none (l++[V.agg [V.int IntKind.i64 a2.k,V.str a2.w]])]))) (fun a8 =>
 bif a8.12 then (bif a8.3 then (need bot (GndR (a8.l)) (k (.code .ret ((base 94 62).on [(0,(.func (.yield 4) [] [])),(1,(.ptr 1 0 0))]) (hp [.row 0 94 5 0 (some 1) [(.agg [(.str (a8.s)),(.int .i64 (a8.a)),.nils,(.bool (a8.i)),(.int .u16 (a8.e))])],.row 0 90 1 0 (some 1) [(.ptr 0 0 0)],.row 0 45 1 0 (some 1) [(.sl 6 (a8.w) 0 (a8.m) none)],.defs,lpT,.row 0 118 1 0 (some 1) [],.row (a8.w) 49 2 0 none (a8.l)]))))
 else (need bot (GndR (a8.l)) (need bot (GndR (a8.o)) (k (.code .ret ((base 94 62).on [(0,(.func (.yield 4) [] [])),(1,(.ptr 1 0 0))]) (hp [.row 0 94 5 0 (some 1) [(.agg [(.str (a8.s)),(.int .i64 (a8.a)),(.sl 7 (a8.v) 0 (a8.n) none),(.bool (a8.i)),(.int .u16 (a8.e))])],.row 0 90 1 0 (some 1) [(.ptr 0 0 0)],.row 0 45 1 0 (some 1) [(.sl 6 (a8.w) 0 (a8.m) none)],.defs,lpT,.row 0 118 1 0 (some 1) [],.row (a8.w) 49 2 0 none (a8.l),.row (a8.v) 3 1 0 none (a8.o)]))))))
 else (bif a8.3 then (need bot (GndR (a8.l)) (k (.code (.exit 0) ((base 94 62).on [(0,(.func (.yield 4) [] [])),(1,(.ptr 1 0 0))]) (hp [.row 0 94 5 0 (some 1) [(.agg [(.str (a8.s)),(.int .i64 (a8.a)),.nils,(.bool (a8.i)),(.int .u16 (a8.e))])],.row 0 90 1 0 (some 1) [(.ptr 0 0 0)],.row 0 45 1 0 (some 1) [(.sl 6 (a8.w) 0 (a8.m) none)],.defs,lpT,.row 0 118 1 0 (some 1) [],.row (a8.w) 49 2 0 none (a8.l)]))))
 else (need bot (GndR (a8.l)) (need bot (GndR (a8.o)) (k (.code (.exit 0) ((base 94 62).on [(0,(.func (.yield 4) [] [])),(1,(.ptr 1 0 0))]) (hp [.row 0 94 5 0 (some 1) [(.agg [(.str (a8.s)),(.int .i64 (a8.a)),(.sl 7 (a8.v) 0 (a8.n) none),(.bool (a8.i)),(.int .u16 (a8.e))])],.row 0 90 1 0 (some 1) [(.ptr 0 0 0)],.row 0 45 1 0 (some 1) [(.sl 6 (a8.w) 0 (a8.m) none)],.defs,lpT,.row 0 118 1 0 (some 1) [],.row (a8.w) 49 2 0 none (a8.l),.row (a8.v) 3 1 0 none (a8.o)])))))))
 (fun e8=>k (qN e8)))))))
 else (need bot (GndR (a2.l)) (bif !decide (a2.e=0) then (need bot (GndR (l)) (need bot (GndR (a2.l)) (need bot (GndR (l)) (need bot (GndR (a2.l)) (k (.code .ret ((base 94 62).on [(0,(.func (.yield 4) [] [])),(1,(.ptr 1 0 0))]) (hp [.row 0 94 5 0 (some 1) [(.agg [(.str (a2.s)),(.int .i64 (a2.a)),(.sl 7 (a2.v) 0 (a2.n) none),(.bool (a2.i)),(.int .u16 (a2.e))])],.row 0 90 1 0 (some 1) [(.ptr 0 0 0)],.row 0 45 1 0 (some 1) [(.sl 6 (v) 0 (n) none)],.defs,lpT,.row 0 118 1 0 (some 1) [],.row (v) 49 2 0 none (l),.row (a2.v) 3 1 0 none (a2.l)])))))))
 else (need bot (((v)=(v))∧(([V.agg [V.int IntKind.i64 a2.k,V.str a2.w]]≠[])∧(((n)=(List.length l))∧((0≤(n))∧(((n+List.length [V.agg [V.int IntKind.i64 a2.k,V.str a2.w]])≤1099511627776)∧(((n+List.length [V.agg [V.int IntKind.i64 a2.k,V.str a2.w]])*24)≤1099511627776)))))) (nI bot (a2.a+(↑(List.length a2.w):Int)) (need bot (GndR (l++[V.agg [V.int IntKind.i64 a2.k,V.str a2.w]])) (need bot (GndR (a2.l)) (PR.bnd bot (X.6 (.code (.loop (lpB PP 94 0)) ((base 94 62).on [(0,(.func (.yield 4) [] [])),(1,(.ptr 1 0 0)),(3,(.ptr 5 0 0))]) (hp [.row 0 94 5 0 (some 1) [(.agg [(.str (a2.s)),(.int .i64 (a2.a+(↑(List.length a2.w):Int))),(.sl 7 (a2.v) 0 (a2.n) none),(.bool (a2.i)),(.int .u16 (a2.e))])],.row 0 90 1 0 (some 1) [(.ptr 0 0 0)],.row 0 45 1 0 (some 1) [(.sl 6 (Nat.succ v) 0 (n+List.length [V.agg [V.int IntKind.i64 a2.k,V.str a2.w]]) none)],.defs,lpT,.row 0 118 1 0 (some 1) [yt0],.row (Nat.succ v) 49 2 0 none (l++[V.agg [V.int IntKind.i64 a2.k,V.str a2.w]]),.row (a2.v) 3 1 0 none (a2.l)]))) (fun a10 =>
 bif a10.12 then (bif a10.3 then (need bot (GndR (a10.l)) (k (.code .ret ((base 94 62).on [(0,(.func (.yield 4) [] [])),(1,(.ptr 1 0 0))]) (hp [.row 0 94 5 0 (some 1) [(.agg [(.str (a10.s)),(.int .i64 (a10.a)),.nils,(.bool (a10.i)),(.int .u16 (a10.e))])],.row 0 90 1 0 (some 1) [(.ptr 0 0 0)],.row 0 45 1 0 (some 1) [(.sl 6 (a10.w) 0 (a10.m) none)],.defs,lpT,.row 0 118 1 0 (some 1) [],.row (a10.w) 49 2 0 none (a10.l)]))))
 else (need bot (GndR (a10.l)) (need bot (GndR (a10.o)) (k (.code .ret ((base 94 62).on [(0,(.func (.yield 4) [] [])),(1,(.ptr 1 0 0))]) (hp [.row 0 94 5 0 (some 1) [(.agg [(.str (a10.s)),(.int .i64 (a10.a)),(.sl 7 (a10.v) 0 (a10.n) none),(.bool (a10.i)),(.int .u16 (a10.e))])],.row 0 90 1 0 (some 1) [(.ptr 0 0 0)],.row 0 45 1 0 (some 1) [(.sl 6 (a10.w) 0 (a10.m) none)],.defs,lpT,.row 0 118 1 0 (some 1) [],.row (a10.w) 49 2 0 none (a10.l),.row (a10.v) 3 1 0 none (a10.o)]))))))
 else (bif a10.3 then (need bot (GndR (a10.l)) (k (.code (.exit 0) ((base 94 62).on [(0,(.func (.yield 4) [] [])),(1,(.ptr 1 0 0))]) (hp [.row 0 94 5 0 (some 1) [(.agg [(.str (a10.s)),(.int .i64 (a10.a)),.nils,(.bool (a10.i)),(.int .u16 (a10.e))])],.row 0 90 1 0 (some 1) [(.ptr 0 0 0)],.row 0 45 1 0 (some 1) [(.sl 6 (a10.w) 0 (a10.m) none)],.defs,lpT,.row 0 118 1 0 (some 1) [],.row (a10.w) 49 2 0 none (a10.l)]))))
 else (need bot (GndR (a10.l)) (need bot (GndR (a10.o)) (k (.code (.exit 0) ((base 94 62).on [(0,(.func (.yield 4) [] [])),(1,(.ptr 1 0 0))]) (hp [.row 0 94 5 0 (some 1) [(.agg [(.str (a10.s)),(.int .i64 (a10.a)),(.sl 7 (a10.v) 0 (a10.n) none),(.bool (a10.i)),(.int .u16 (a10.e))])],.row 0 90 1 0 (some 1) [(.ptr 0 0 0)],.row 0 45 1 0 (some 1) [(.sl 6 (a10.w) 0 (a10.m) none)],.defs,lpT,.row 0 118 1 0 (some 1) [],.row (a10.w) 49 2 0 none (a10.l),.row (a10.v) 3 1 0 none (a10.o)])))))))
 (fun e10=>k (qN e10))))))))))
 (fun _=>bot)))
 else (need bot (GndR (l)) (need bot (GndR (l)) (k (.code (.exit 0) ((base 94 62).on [(0,(.func (.yield 4) [] [])),(1,(.ptr 1 0 0))]) (hp [.row 0 94 5 0 (some 1) [(.agg [(.str (s)),(.int .i64 (a)),.nils,(.bool (i)),(.int .u16 (e))])],.row 0 90 1 0 (some 1) [(.ptr 0 0 0)],.row 0 45 1 0 (some 1) [(.sl 6 (v) 0 (n) none)],.defs,lpT,.row 0 118 1 0 (some 1) [],.row (v) 49 2 0 none (l)]))))):=by kernel_rfl
theorem qJ1 (X:PlX) (ih:Task→Res) {β:Type} (bot:β) (k:Res→β) (s:List UInt8) (a e:Int) (i:Bool) (v n:Nat) (l:List V) (v2 n2:Nat) (o:List V):evN PP EP CP (qp0 X) ih bot (.code (.loop (lpB PP 94 0)) ((base 94 62).on [(0,.func (.yield 4) [] []),(1,.ptr 1 0 0),(3,.ptr 5 0 0)]) (hpA (lxO s a (.sl 7 v2 0 n2 none) i e) (.sl 6 v 0 n none) [.row v 49 2 0 none l,.row v2 3 1 0 none o])) k =
 bif decide (a<(↑(List.length s):Int)) then (bif i then (need bot (GndR (o)) (PR.bnd bot (X.5 (.call 96 [(.ptr 0 0 0)] (hp [.row 0 94 5 0 (some 1) [(.agg [(.str (s)),(.int .i64 (a)),(.sl 1 (v2) 0 (n2) none),(.bool (i)),(.int .u16 (e))])],.row (v2) 3 1 0 none (o)]))) (fun a3 =>
 bif a3.5 then (bot)
 else (need bot (GndR (a3.l)) (bif !decide (a3.e=0) then (need bot (GndR (l)) (need bot (GndR (a3.l)) (need bot (GndR (l)) (need bot (GndR (a3.l)) (k (.code .ret ((base 94 62).on [(0,(.func (.yield 4) [] [])),(1,(.ptr 1 0 0))]) (hp [.row 0 94 5 0 (some 1) [(.agg [(.str (a3.s)),(.int .i64 (a3.a)),(.sl 7 (a3.v) 0 (a3.n) none),(.bool (a3.i)),(.int .u16 (a3.e))])],.row 0 90 1 0 (some 1) [(.ptr 0 0 0)],.row 0 45 1 0 (some 1) [(.sl 6 (v) 0 (n) none)],.defs,lpT,.row 0 118 1 0 (some 1) [],.row (v) 49 2 0 none (l),.row (a3.v) 3 1 0 none (a3.l)])))))))
 else (need bot (((v)=(v))∧(([V.agg [V.int IntKind.i64 a3.k,V.str a3.w]]≠[])∧(((n)=(List.length l))∧((0≤(n))∧(((n+List.length [V.agg [V.int IntKind.i64 a3.k,V.str a3.w]])≤1099511627776)∧(((n+List.length [V.agg [V.int IntKind.i64 a3.k,V.str a3.w]])*24)≤1099511627776)))))) (nI bot (a3.a+(↑(List.length a3.w):Int)) (need bot (GndR (l++[V.agg [V.int IntKind.i64 a3.k,V.str a3.w]])) (need bot (GndR (a3.l)) (PR.bnd bot (X.6 (.code (.loop (lpB PP 94 0)) ((base 94 62).on [(0,(.func (.yield 4) [] [])),(1,(.ptr 1 0 0)),(3,(.ptr 5 0 0))]) (hp [.row 0 94 5 0 (some 1) [(.agg [(.str (a3.s)),(.int .i64 (a3.a+(↑(List.length a3.w):Int))),(.sl 7 (a3.v) 0 (a3.n) none),(.bool (a3.i)),(.int .u16 (a3.e))])],.row 0 90 1 0 (some 1) [(.ptr 0 0 0)],.row 0 45 1 0 (some 1) [(.sl 6 (Nat.succ v) 0 (n+List.length [V.agg [V.int IntKind.i64 a3.k,V.str a3.w]]) none)],.defs,lpT,.row 0 118 1 0 (some 1) [yt0],.row (Nat.succ v) 49 2 0 none (l++[V.agg [V.int IntKind.i64 a3.k,V.str a3.w]]),.row (a3.v) 3 1 0 none (a3.l)]))) (fun a11 =>
 bif a11.12 then (bif a11.3 then (need bot (GndR (a11.l)) (k (.code .ret ((base 94 62).on [(0,(.func (.yield 4) [] [])),(1,(.ptr 1 0 0))]) (hp [.row 0 94 5 0 (some 1) [(.agg [(.str (a11.s)),(.int .i64 (a11.a)),.nils,(.bool (a11.i)),(.int .u16 (a11.e))])],.row 0 90 1 0 (some 1) [(.ptr 0 0 0)],.row 0 45 1 0 (some 1) [(.sl 6 (a11.w) 0 (a11.m) none)],.defs,lpT,.row 0 118 1 0 (some 1) [],.row (a11.w) 49 2 0 none (a11.l)]))))
 else (need bot (GndR (a11.l)) (need bot (GndR (a11.o)) (k (.code .ret ((base 94 62).on [(0,(.func (.yield 4) [] [])),(1,(.ptr 1 0 0))]) (hp [.row 0 94 5 0 (some 1) [(.agg [(.str (a11.s)),(.int .i64 (a11.a)),(.sl 7 (a11.v) 0 (a11.n) none),(.bool (a11.i)),(.int .u16 (a11.e))])],.row 0 90 1 0 (some 1) [(.ptr 0 0 0)],.row 0 45 1 0 (some 1) [(.sl 6 (a11.w) 0 (a11.m) none)],.defs,lpT,.row 0 118 1 0 (some 1) [],.row (a11.w) 49 2 0 none (a11.l),.row (a11.v) 3 1 0 none (a11.o)]))))))
 else (bif a11.3 then (need bot (GndR (a11.l)) (k (.code (.exit 0) ((base 94 62).on [(0,(.func (.yield 4) [] [])),(1,(.ptr 1 0 0))]) (hp [.row 0 94 5 0 (some 1) [(.agg [(.str (a11.s)),(.int .i64 (a11.a)),.nils,(.bool (a11.i)),(.int .u16 (a11.e))])],.row 0 90 1 0 (some 1) [(.ptr 0 0 0)],.row 0 45 1 0 (some 1) [(.sl 6 (a11.w) 0 (a11.m) none)],.defs,lpT,.row 0 118 1 0 (some 1) [],.row (a11.w) 49 2 0 none (a11.l)]))))
 else (need bot (GndR (a11.l)) (need bot (GndR (a11.o)) (k (.code (.exit 0) ((base 94 62).on [(0,(.func (.yield 4) [] [])),(1,(.ptr 1 0 0))]) (hp [.row 0 94 5 0 (some 1) [(.agg [(.str (a11.s)),(.int .i64 (a11.a)),(.sl 7 (a11.v) 0 (a11.n) none),(.bool (a11.i)),(.int .u16 (a11.e))])],.row 0 90 1 0 (some 1) [(.ptr 0 0 0)],.row 0 45 1 0 (some 1) [(.sl 6 (a11.w) 0 (a11.m) none)],.defs,lpT,.row 0 118 1 0 (some 1) [],.row (a11.w) 49 2 0 none (a11.l),.row (a11.v) 3 1 0 none (a11.o)])))))))
 (fun e11=>k (qN e11))))))))))
 (fun _=>bot)))
 else (need bot (GndR (o)) (PR.bnd bot (X.5 (.call 98 [(.ptr 0 0 0),yt0] (hp [.row 0 94 5 0 (some 1) [(.agg [(.str (s)),(.int .i64 (a)),(.sl 1 (v2) 0 (n2) none),(.bool (i)),(.int .u16 (e))])],.row (v2) 3 1 0 none (o)]))) (fun a3 =>
 bif a3.5 then (bot)
 else (need bot (GndR (a3.l)) (bif !decide (a3.e=0) then (need bot (GndR (l)) (need bot (GndR (a3.l)) (need bot (GndR (l)) (need bot (GndR (a3.l)) (k (.code .ret ((base 94 62).on [(0,(.func (.yield 4) [] [])),(1,(.ptr 1 0 0))]) (hp [.row 0 94 5 0 (some 1) [(.agg [(.str (a3.s)),(.int .i64 (a3.a)),(.sl 7 (a3.v) 0 (a3.n) none),(.bool (a3.i)),(.int .u16 (a3.e))])],.row 0 90 1 0 (some 1) [(.ptr 0 0 0)],.row 0 45 1 0 (some 1) [(.sl 6 (v) 0 (n) none)],.defs,lpT,.row 0 118 1 0 (some 1) [],.row (v) 49 2 0 none (l),.row (a3.v) 3 1 0 none (a3.l)])))))))
 else (need bot (((v)=(v))∧(([V.agg [V.int IntKind.i64 a3.k,V.str a3.w]]≠[])∧(((n)=(List.length l))∧((0≤(n))∧(((n+List.length [V.agg [V.int IntKind.i64 a3.k,V.str a3.w]])≤1099511627776)∧(((n+List.length [V.agg [V.int IntKind.i64 a3.k,V.str a3.w]])*24)≤1099511627776)))))) (nI bot (a3.a+(↑(List.length a3.w):Int)) (need bot (GndR (l++[V.agg [V.int IntKind.i64 a3.k,V.str a3.w]])) (need bot (GndR (a3.l)) (PR.bnd bot (X.6 (.code (.loop (lpB PP 94 0)) ((base 94 62).on [(0,(.func (.yield 4) [] [])),(1,(.ptr 1 0 0)),(3,(.ptr 5 0 0))]) (hp [.row 0 94 5 0 (some 1) [(.agg [(.str (a3.s)),(.int .i64 (a3.a+(↑(List.length a3.w):Int))),(.sl 7 (a3.v) 0 (a3.n) none),(.bool (a3.i)),(.int .u16 (a3.e))])],.row 0 90 1 0 (some 1) [(.ptr 0 0 0)],.row 0 45 1 0 (some 1) [(.sl 6 (Nat.succ v) 0 (n+List.length [V.agg [V.int IntKind.i64 a3.k,V.str a3.w]]) none)],.defs,lpT,.row 0 118 1 0 (some 1) [yt0],.row (Nat.succ v) 49 2 0 none (l++[V.agg [V.int IntKind.i64 a3.k,V.str a3.w]]),.row (a3.v) 3 1 0 none (a3.l)]))) (fun a11 =>
 bif a11.12 then (bif a11.3 then (need bot (GndR (a11.l)) (k (.code .ret ((base 94 62).on [(0,(.func (.yield 4) [] [])),(1,(.ptr 1 0 0))]) (hp [.row 0 94 5 0 (some 1) [(.agg [(.str (a11.s)),(.int .i64 (a11.a)),.nils,(.bool (a11.i)),(.int .u16 (a11.e))])],.row 0 90 1 0 (some 1) [(.ptr 0 0 0)],.row 0 45 1 0 (some 1) [(.sl 6 (a11.w) 0 (a11.m) none)],.defs,lpT,.row 0 118 1 0 (some 1) [],.row (a11.w) 49 2 0 none (a11.l)]))))
 else (need bot (GndR (a11.l)) (need bot (GndR (a11.o)) (k (.code .ret ((base 94 62).on [(0,(.func (.yield 4) [] [])),(1,(.ptr 1 0 0))]) (hp [.row 0 94 5 0 (some 1) [(.agg [(.str (a11.s)),(.int .i64 (a11.a)),(.sl 7 (a11.v) 0 (a11.n) none),(.bool (a11.i)),(.int .u16 (a11.e))])],.row 0 90 1 0 (some 1) [(.ptr 0 0 0)],.row 0 45 1 0 (some 1) [(.sl 6 (a11.w) 0 (a11.m) none)],.defs,lpT,.row 0 118 1 0 (some 1) [],.row (a11.w) 49 2 0 none (a11.l),.row (a11.v) 3 1 0 none (a11.o)]))))))
 else (bif a11.3 then (need bot (GndR (a11.l)) (k (.code (.exit 0) ((base 94 62).on [(0,(.func (.yield 4) [] [])),(1,(.ptr 1 0 0))]) (hp [.row 0 94 5 0 (some 1) [(.agg [(.str (a11.s)),(.int .i64 (a11.a)),.nils,(.bool (a11.i)),(.int .u16 (a11.e))])],.row 0 90 1 0 (some 1) [(.ptr 0 0 0)],.row 0 45 1 0 (some 1) [(.sl 6 (a11.w) 0 (a11.m) none)],.defs,lpT,.row 0 118 1 0 (some 1) [],.row (a11.w) 49 2 0 none (a11.l)]))))
 else (need bot (GndR (a11.l)) (need bot (GndR (a11.o)) (k (.code (.exit 0) ((base 94 62).on [(0,(.func (.yield 4) [] [])),(1,(.ptr 1 0 0))]) (hp [.row 0 94 5 0 (some 1) [(.agg [(.str (a11.s)),(.int .i64 (a11.a)),(.sl 7 (a11.v) 0 (a11.n) none),(.bool (a11.i)),(.int .u16 (a11.e))])],.row 0 90 1 0 (some 1) [(.ptr 0 0 0)],.row 0 45 1 0 (some 1) [(.sl 6 (a11.w) 0 (a11.m) none)],.defs,lpT,.row 0 118 1 0 (some 1) [],.row (a11.w) 49 2 0 none (a11.l),.row (a11.v) 3 1 0 none (a11.o)])))))))
 (fun e11=>k (qN e11))))))))))
 (fun _=>bot))))
 else (need bot (GndR (l)) (need bot (GndR (o)) (need bot (GndR (l)) (need bot (GndR (o)) (k (.code (.exit 0) ((base 94 62).on [(0,(.func (.yield 4) [] [])),(1,(.ptr 1 0 0))]) (hp [.row 0 94 5 0 (some 1) [(.agg [(.str (s)),(.int .i64 (a)),(.sl 7 (v2) 0 (n2) none),(.bool (i)),(.int .u16 (e))])],.row 0 90 1 0 (some 1) [(.ptr 0 0 0)],.row 0 45 1 0 (some 1) [(.sl 6 (v) 0 (n) none)],.defs,lpT,.row 0 118 1 0 (some 1) [],.row (v) 49 2 0 none (l),.row (v2) 3 1 0 none (o)]))))))):=by kernel_rfl
theorem Kx1 (X:PlX) (ih:Task→Res) {β:Type} (bot:β) (k:Res→β) (es:List V):evN PP EP CP (qp0 X) ih bot (.call 30 [.osl 2 es] Heap.empty) k =
 PR.bnd bot (X.10 (.code (.loop (lpB PP 100 0)) ((base 100 23).on [(0,(.func (.yield 4) [] [])),(3,(.int .i64 0)),(6,(.osl 2 (es))),(7,(.int .i64 ((↑(List.length es):Int)))),(8,(.int .i64 0))]) (hp [.row 0 42 1 0 (some 1) [.nils],.row 0 28 1 0 (some 1) [.nils],.row 0 45 1 0 (some 1) [(.osl 2 (es))],.defs,lpE0 es]))) (fun a0 =>
 bif a0.2 then (bif a0.6 then (nG bot a0.v1 (a0.n1) a0.l1 (nG bot a0.v2 (a0.n2) a0.l2 (k (.ret (.tup [(.osl 1 (a0.l1)),(.osl 4 (a0.l2))]) Heap.empty))))
 else (nG bot a0.v1 (a0.n1) a0.l1 (k (.ret (.tup [(.osl 1 (a0.l1)),(.osl 4 [])]) Heap.empty))))
 else (bif a0.6 then (nG bot a0.v2 (a0.n2) a0.l2 (k (.ret (.tup [(.osl 1 []),(.osl 4 (a0.l2))]) Heap.empty)))
 else (k (.ret (.tup [(.osl 1 []),(.osl 4 [])]) Heap.empty))))
 (fun _=>bot):=by kernel_rfl
theorem Kw1 (X:PlX) (ih:Task→Res) {β:Type} (bot:β) (k:Res→β) (es:List V):evN PP EP CP (qp0 X) ih bot (.code (.loop (lpB PP 100 0)) ((base 100 23).on [(0,.func (.yield 4) [] []),(3,.int .i64 0),(6,.osl 2 es),(7,.int .i64 es.length),(8,.int .i64 0)]) (hp [.row 0 42 1 0 (some 1) [.nils],.row 0 28 1 0 (some 1) [.nils],.row 0 45 1 0 (some 1) [.osl 2 es],.defs,lpE0 es])) k =
 bif decide (0<(↑(List.length es):Int)) then (nX bot 0 (List.length es) (need bot (ldC PP 49 2 (es) 0) (PR.bnd bot (X.2 (.call 66 [(.agg [(.int .i64 (gI 2 es 0 0)),(.str (gS 2 es 0 1))])] Heap.empty)) (fun a3 =>
 bif a3 then (need bot (([V.agg [V.int IntKind.i64 (gI 2 es 0 0),V.str (gS 2 es 0 1),V.int IntKind.i64 (0:Int),V.osl 1 []]]≠[])∧((1≤1099511627776)∧(56≤1099511627776))) (nI bot (0+(↑(List.length (gS 2 es 0 1)):Int)) (need bot ((-9223372036854775808≤1)∧((1:Int)≤9223372036854775807)) (need bot (GndR [(.agg [(.int .i64 (gI 2 es 0 0)),(.str (gS 2 es 0 1)),(.int .i64 0),(.osl 1 [])])]) (PR.bnd bot (X.10 (.code (.loop (lpB PP 100 0)) ((base 100 23).on [(0,(.func (.yield 4) [] [])),(3,(.int .i64 (0+(↑(List.length (gS 2 es 0 1)):Int)))),(6,(.osl 2 (es))),(7,(.int .i64 ((↑(List.length es):Int)))),(8,(.int .i64 1))]) (hp [.row 0 42 1 0 (some 1) [.nils],.row 0 28 1 0 (some 1) [(.sl 5 0 0 1 none)],.row 0 45 1 0 (some 1) [(.osl 2 (es))],.defs,lpE es,.row 0 59 4 0 none [(.agg [(.int .i64 (gI 2 es 0 0)),(.str (gS 2 es 0 1)),(.int .i64 0),(.osl 1 [])])]]))) (fun a9 =>
 bif a9.2 then (bif a9.6 then (need bot (GndR (a9.l1)) (need bot (GndR (a9.l2)) (k (.code (.exit 0) ((base 100 23).on [(0,(.func (.yield 4) [] []))]) (hp [.row 0 42 1 0 (some 1) [(.sl 5 (a9.v1) 0 (a9.n1) none)],.row 0 28 1 0 (some 1) [(.sl 6 (a9.v2) 0 (a9.n2) none)],.row 0 45 1 0 (some 1) [(.osl 2 (a9.es))],.defs,lpE a9.es,.row (a9.v1) 9 1 0 none (a9.l1),.row (a9.v2) 59 4 0 none (a9.l2)])))))
 else (need bot (GndR (a9.l1)) (k (.code (.exit 0) ((base 100 23).on [(0,(.func (.yield 4) [] []))]) (hp [.row 0 42 1 0 (some 1) [(.sl 5 (a9.v1) 0 (a9.n1) none)],.row 0 28 1 0 (some 1) [.nils],.row 0 45 1 0 (some 1) [(.osl 2 (a9.es))],.defs,lpE a9.es,.row (a9.v1) 9 1 0 none (a9.l1)])))))
 else (bif a9.6 then (need bot (GndR (a9.l2)) (k (.code (.exit 0) ((base 100 23).on [(0,(.func (.yield 4) [] []))]) (hp [.row 0 42 1 0 (some 1) [.nils],.row 0 28 1 0 (some 1) [(.sl 5 (a9.v2) 0 (a9.n2) none)],.row 0 45 1 0 (some 1) [(.osl 2 (a9.es))],.defs,lpE a9.es,.row (a9.v2) 59 4 0 none (a9.l2)]))))
 else (k (.code (.exit 0) ((base 100 23).on [(0,(.func (.yield 4) [] []))]) (hp [.row 0 42 1 0 (some 1) [.nils],.row 0 28 1 0 (some 1) [.nils],.row 0 45 1 0 (some 1) [(.osl 2 (a9.es))],.defs,lpE a9.es])))))
 (fun e9=>k (qN e9)))))))
 else (bif !decide (gI 2 es 0 0=2) then (nI bot (0+(↑(List.length (gS 2 es 0 1)):Int)) (need bot ((-9223372036854775808≤1)∧((1:Int)≤9223372036854775807)) (PR.bnd bot (X.10 (.code (.loop (lpB PP 100 0)) ((base 100 23).on [(0,(.func (.yield 4) [] [])),(3,(.int .i64 (0+(↑(List.length (gS 2 es 0 1)):Int)))),(6,(.osl 2 (es))),(7,(.int .i64 ((↑(List.length es):Int)))),(8,(.int .i64 1))]) (hp [.row 0 42 1 0 (some 1) [.nils],.row 0 28 1 0 (some 1) [.nils],.row 0 45 1 0 (some 1) [(.osl 2 (es))],.defs,lpE es]))) (fun a8 =>
 bif a8.2 then (bif a8.6 then (need bot (GndR (a8.l1)) (need bot (GndR (a8.l2)) (k (.code (.exit 0) ((base 100 23).on [(0,(.func (.yield 4) [] []))]) (hp [.row 0 42 1 0 (some 1) [(.sl 5 (a8.v1) 0 (a8.n1) none)],.row 0 28 1 0 (some 1) [(.sl 6 (a8.v2) 0 (a8.n2) none)],.row 0 45 1 0 (some 1) [(.osl 2 (a8.es))],.defs,lpE a8.es,.row (a8.v1) 9 1 0 none (a8.l1),.row (a8.v2) 59 4 0 none (a8.l2)])))))
 else (need bot (GndR (a8.l1)) (k (.code (.exit 0) ((base 100 23).on [(0,(.func (.yield 4) [] []))]) (hp [.row 0 42 1 0 (some 1) [(.sl 5 (a8.v1) 0 (a8.n1) none)],.row 0 28 1 0 (some 1) [.nils],.row 0 45 1 0 (some 1) [(.osl 2 (a8.es))],.defs,lpE a8.es,.row (a8.v1) 9 1 0 none (a8.l1)])))))
 else (bif a8.6 then (need bot (GndR (a8.l2)) (k (.code (.exit 0) ((base 100 23).on [(0,(.func (.yield 4) [] []))]) (hp [.row 0 42 1 0 (some 1) [.nils],.row 0 28 1 0 (some 1) [(.sl 5 (a8.v2) 0 (a8.n2) none)],.row 0 45 1 0 (some 1) [(.osl 2 (a8.es))],.defs,lpE a8.es,.row (a8.v2) 59 4 0 none (a8.l2)]))))
 else (k (.code (.exit 0) ((base 100 23).on [(0,(.func (.yield 4) [] []))]) (hp [.row 0 42 1 0 (some 1) [.nils],.row 0 28 1 0 (some 1) [.nils],.row 0 45 1 0 (some 1) [(.osl 2 (a8.es))],.defs,lpE a8.es])))))
 (fun e8=>k (qN e8)))))
 else (need bot (([V.str (gS 2 es 0 1)]≠[])∧((1≤1099511627776)∧(16≤1099511627776))) (nI bot (0+(↑(List.length (gS 2 es 0 1)):Int)) (need bot ((-9223372036854775808≤1)∧((1:Int)≤9223372036854775807)) (need bot (GndR [(.str (gS 2 es 0 1))]) (PR.bnd bot (X.10 (.code (.loop (lpB PP 100 0)) ((base 100 23).on [(0,(.func (.yield 4) [] [])),(3,(.int .i64 (0+(↑(List.length (gS 2 es 0 1)):Int)))),(6,(.osl 2 (es))),(7,(.int .i64 ((↑(List.length es):Int)))),(8,(.int .i64 1))]) (hp [.row 0 42 1 0 (some 1) [(.sl 5 0 0 1 none)],.row 0 28 1 0 (some 1) [.nils],.row 0 45 1 0 (some 1) [(.osl 2 (es))],.defs,lpE es,.row 0 9 1 0 none [(.str (gS 2 es 0 1))]]))) (fun a10 =>
 bif a10.2 then (bif a10.6 then (need bot (GndR (a10.l1)) (need bot (GndR (a10.l2)) (k (.code (.exit 0) ((base 100 23).on [(0,(.func (.yield 4) [] []))]) (hp [.row 0 42 1 0 (some 1) [(.sl 5 (a10.v1) 0 (a10.n1) none)],.row 0 28 1 0 (some 1) [(.sl 6 (a10.v2) 0 (a10.n2) none)],.row 0 45 1 0 (some 1) [(.osl 2 (a10.es))],.defs,lpE a10.es,.row (a10.v1) 9 1 0 none (a10.l1),.row (a10.v2) 59 4 0 none (a10.l2)])))))
 else (need bot (GndR (a10.l1)) (k (.code (.exit 0) ((base 100 23).on [(0,(.func (.yield 4) [] []))]) (hp [.row 0 42 1 0 (some 1) [(.sl 5 (a10.v1) 0 (a10.n1) none)],.row 0 28 1 0 (some 1) [.nils],.row 0 45 1 0 (some 1) [(.osl 2 (a10.es))],.defs,lpE a10.es,.row (a10.v1) 9 1 0 none (a10.l1)])))))
 else (bif a10.6 then (need bot (GndR (a10.l2)) (k (.code (.exit 0) ((base 100 23).on [(0,(.func (.yield 4) [] []))]) (hp [.row 0 42 1 0 (some 1) [.nils],.row 0 28 1 0 (some 1) [(.sl 5 (a10.v2) 0 (a10.n2) none)],.row 0 45 1 0 (some 1) [(.osl 2 (a10.es))],.defs,lpE a10.es,.row (a10.v2) 59 4 0 none (a10.l2)]))))
 else (k (.code (.exit 0) ((base 100 23).on [(0,(.func (.yield 4) [] []))]) (hp [.row 0 42 1 0 (some 1) [.nils],.row 0 28 1 0 (some 1) [.nils],.row 0 45 1 0 (some 1) [(.osl 2 (a10.es))],.defs,lpE a10.es])))))
 (fun e10=>k (qN e10)))))))))
 (fun _=>bot))))
 else (k (.code (.exit 0) ((base 100 23).on [(0,(.func (.yield 4) [] []))]) (hp [.row 0 42 1 0 (some 1) [.nils],.row 0 28 1 0 (some 1) [.nils],.row 0 45 1 0 (some 1) [(.osl 2 (es))],.defs,lpE es]))):=by kernel_rfl
theorem jE1 (X:PlX) (ih:Task→Res) {β:Type} (bot:β) (k:Res→β) (es:List V) (at1 n:Int) (v m:Nat) (l:List V):evN PP EP CP (qp0 X) ih bot (.code (.loop (lpB PP 100 0)) ((base 100 23).on [(0,.func (.yield 4) [] []),(3,.int .i64 at1),(6,.osl 2 es),(7,.int .i64 es.length),(8,.int .i64 n)]) (hpE es .nils (.sl 5 v 0 m none) [QV0 v l])) k =
 bif decide (n<(↑(List.length es):Int)) then (nX bot (n) (List.length es) (need bot (ldC PP 49 2 (es) (Int.toNat n*2)) (PR.bnd bot (X.2 (.call 66 [(.agg [(.int .i64 (gI 2 es (Int.toNat n*2) 0)),(.str (gS 2 es (Int.toNat n*2) 1))])] Heap.empty)) (fun a3 =>
 bif a3 then (need bot (((v)=(v))∧(([V.agg [V.int IntKind.i64 (gI 2 es (Int.toNat n*2) 0),V.str (gS 2 es (Int.toNat n*2) 1),V.int IntKind.i64 at1,V.osl 1 []]]≠[])∧(((m)=(List.length l))∧((0≤(m))∧(((m+List.length [V.agg [V.int IntKind.i64 (gI 2 es (Int.toNat n*2) 0),V.str (gS 2 es (Int.toNat n*2) 1),V.int IntKind.i64 at1,V.osl 1 []]])≤1099511627776)∧(((m+List.length [V.agg [V.int IntKind.i64 (gI 2 es (Int.toNat n*2) 0),V.str (gS 2 es (Int.toNat n*2) 1),V.int IntKind.i64 at1,V.osl 1 []]])*56)≤1099511627776)))))) (nI bot (at1+(↑(List.length (gS 2 es (Int.toNat n*2) 1)):Int)) (nI bot (n+1) (need bot (GndR (l++[V.agg [V.int IntKind.i64 (gI 2 es (Int.toNat n*2) 0),V.str (gS 2 es (Int.toNat n*2) 1),V.int IntKind.i64 at1,V.osl 1 []]])) (PR.bnd bot (X.10 (.code (.loop (lpB PP 100 0)) ((base 100 23).on [(0,(.func (.yield 4) [] [])),(3,(.int .i64 (at1+(↑(List.length (gS 2 es (Int.toNat n*2) 1)):Int)))),(6,(.osl 2 (es))),(7,(.int .i64 ((↑(List.length es):Int)))),(8,(.int .i64 (n+1)))]) (hp [.row 0 42 1 0 (some 1) [.nils],.row 0 28 1 0 (some 1) [(.sl 5 (Nat.succ v) 0 (m+List.length [V.agg [V.int IntKind.i64 (gI 2 es (Int.toNat n*2) 0),V.str (gS 2 es (Int.toNat n*2) 1),V.int IntKind.i64 at1,V.osl 1 []]]) none)],.row 0 45 1 0 (some 1) [(.osl 2 (es))],.defs,lpE es,.row (Nat.succ v) 59 4 0 none (l++[V.agg [V.int IntKind.i64 (gI 2 es (Int.toNat n*2) 0),V.str (gS 2 es (Int.toNat n*2) 1),V.int IntKind.i64 at1,V.osl 1 []]])]))) (fun a9 =>
 bif a9.2 then (bif a9.6 then (need bot (GndR (a9.l1)) (need bot (GndR (a9.l2)) (k (.code (.exit 0) ((base 100 23).on [(0,(.func (.yield 4) [] []))]) (hp [.row 0 42 1 0 (some 1) [(.sl 5 (a9.v1) 0 (a9.n1) none)],.row 0 28 1 0 (some 1) [(.sl 6 (a9.v2) 0 (a9.n2) none)],.row 0 45 1 0 (some 1) [(.osl 2 (a9.es))],.defs,lpE a9.es,.row (a9.v1) 9 1 0 none (a9.l1),.row (a9.v2) 59 4 0 none (a9.l2)])))))
 else (need bot (GndR (a9.l1)) (k (.code (.exit 0) ((base 100 23).on [(0,(.func (.yield 4) [] []))]) (hp [.row 0 42 1 0 (some 1) [(.sl 5 (a9.v1) 0 (a9.n1) none)],.row 0 28 1 0 (some 1) [.nils],.row 0 45 1 0 (some 1) [(.osl 2 (a9.es))],.defs,lpE a9.es,.row (a9.v1) 9 1 0 none (a9.l1)])))))
 else (bif a9.6 then (need bot (GndR (a9.l2)) (k (.code (.exit 0) ((base 100 23).on [(0,(.func (.yield 4) [] []))]) (hp [.row 0 42 1 0 (some 1) [.nils],.row 0 28 1 0 (some 1) [(.sl 5 (a9.v2) 0 (a9.n2) none)],.row 0 45 1 0 (some 1) [(.osl 2 (a9.es))],.defs,lpE a9.es,.row (a9.v2) 59 4 0 none (a9.l2)]))))
 else (k (.code (.exit 0) ((base 100 23).on [(0,(.func (.yield 4) [] []))]) (hp [.row 0 42 1 0 (some 1) [.nils],.row 0 28 1 0 (some 1) [.nils],.row 0 45 1 0 (some 1) [(.osl 2 (a9.es))],.defs,lpE a9.es])))))
 (fun e9=>k (qN e9)))))))
 else (bif !decide (gI 2 es (Int.toNat n*2) 0=2) then (nI bot (at1+(↑(List.length (gS 2 es (Int.toNat n*2) 1)):Int)) (nI bot (n+1) (need bot (GndR (l)) (PR.bnd bot (X.10 (.code (.loop (lpB PP 100 0)) ((base 100 23).on [(0,(.func (.yield 4) [] [])),(3,(.int .i64 (at1+(↑(List.length (gS 2 es (Int.toNat n*2) 1)):Int)))),(6,(.osl 2 (es))),(7,(.int .i64 ((↑(List.length es):Int)))),(8,(.int .i64 (n+1)))]) (hp [.row 0 42 1 0 (some 1) [.nils],.row 0 28 1 0 (some 1) [(.sl 5 (v) 0 (m) none)],.row 0 45 1 0 (some 1) [(.osl 2 (es))],.defs,lpE es,.row (v) 59 4 0 none (l)]))) (fun a9 =>
 bif a9.2 then (bif a9.6 then (need bot (GndR (a9.l1)) (need bot (GndR (a9.l2)) (k (.code (.exit 0) ((base 100 23).on [(0,(.func (.yield 4) [] []))]) (hp [.row 0 42 1 0 (some 1) [(.sl 5 (a9.v1) 0 (a9.n1) none)],.row 0 28 1 0 (some 1) [(.sl 6 (a9.v2) 0 (a9.n2) none)],.row 0 45 1 0 (some 1) [(.osl 2 (a9.es))],.defs,lpE a9.es,.row (a9.v1) 9 1 0 none (a9.l1),.row (a9.v2) 59 4 0 none (a9.l2)])))))
 else (need bot (GndR (a9.l1)) (k (.code (.exit 0) ((base 100 23).on [(0,(.func (.yield 4) [] []))]) (hp [.row 0 42 1 0 (some 1) [(.sl 5 (a9.v1) 0 (a9.n1) none)],.row 0 28 1 0 (some 1) [.nils],.row 0 45 1 0 (some 1) [(.osl 2 (a9.es))],.defs,lpE a9.es,.row (a9.v1) 9 1 0 none (a9.l1)])))))
 else (bif a9.6 then (need bot (GndR (a9.l2)) (k (.code (.exit 0) ((base 100 23).on [(0,(.func (.yield 4) [] []))]) (hp [.row 0 42 1 0 (some 1) [.nils],.row 0 28 1 0 (some 1) [(.sl 5 (a9.v2) 0 (a9.n2) none)],.row 0 45 1 0 (some 1) [(.osl 2 (a9.es))],.defs,lpE a9.es,.row (a9.v2) 59 4 0 none (a9.l2)]))))
 else (k (.code (.exit 0) ((base 100 23).on [(0,(.func (.yield 4) [] []))]) (hp [.row 0 42 1 0 (some 1) [.nils],.row 0 28 1 0 (some 1) [.nils],.row 0 45 1 0 (some 1) [(.osl 2 (a9.es))],.defs,lpE a9.es])))))
 (fun e9=>k (qN e9))))))
 else (bif decide ((↑m:Int)=0) then (need bot (([V.str (gS 2 es (Int.toNat n*2) 1)]≠[])∧((1≤1099511627776)∧(16≤1099511627776))) (nI bot (at1+(↑(List.length (gS 2 es (Int.toNat n*2) 1)):Int)) (nI bot (n+1) (need bot (GndR (l)) (need bot (GndR [(.str (gS 2 es (Int.toNat n*2) 1))]) (PR.bnd bot (X.10 (.code (.loop (lpB PP 100 0)) ((base 100 23).on [(0,(.func (.yield 4) [] [])),(3,(.int .i64 (at1+(↑(List.length (gS 2 es (Int.toNat n*2) 1)):Int)))),(6,(.osl 2 (es))),(7,(.int .i64 ((↑(List.length es):Int)))),(8,(.int .i64 (n+1)))]) (hp [.row 0 42 1 0 (some 1) [(.sl 6 0 0 1 none)],.row 0 28 1 0 (some 1) [(.sl 5 (v) 0 (m) none)],.row 0 45 1 0 (some 1) [(.osl 2 (es))],.defs,lpE es,.row (v) 59 4 0 none (l),.row 0 9 1 0 none [(.str (gS 2 es (Int.toNat n*2) 1))]]))) (fun a12 =>
 bif a12.2 then (bif a12.6 then (need bot (GndR (a12.l1)) (need bot (GndR (a12.l2)) (k (.code (.exit 0) ((base 100 23).on [(0,(.func (.yield 4) [] []))]) (hp [.row 0 42 1 0 (some 1) [(.sl 5 (a12.v1) 0 (a12.n1) none)],.row 0 28 1 0 (some 1) [(.sl 6 (a12.v2) 0 (a12.n2) none)],.row 0 45 1 0 (some 1) [(.osl 2 (a12.es))],.defs,lpE a12.es,.row (a12.v1) 9 1 0 none (a12.l1),.row (a12.v2) 59 4 0 none (a12.l2)])))))
 else (need bot (GndR (a12.l1)) (k (.code (.exit 0) ((base 100 23).on [(0,(.func (.yield 4) [] []))]) (hp [.row 0 42 1 0 (some 1) [(.sl 5 (a12.v1) 0 (a12.n1) none)],.row 0 28 1 0 (some 1) [.nils],.row 0 45 1 0 (some 1) [(.osl 2 (a12.es))],.defs,lpE a12.es,.row (a12.v1) 9 1 0 none (a12.l1)])))))
 else (bif a12.6 then (need bot (GndR (a12.l2)) (k (.code (.exit 0) ((base 100 23).on [(0,(.func (.yield 4) [] []))]) (hp [.row 0 42 1 0 (some 1) [.nils],.row 0 28 1 0 (some 1) [(.sl 5 (a12.v2) 0 (a12.n2) none)],.row 0 45 1 0 (some 1) [(.osl 2 (a12.es))],.defs,lpE a12.es,.row (a12.v2) 59 4 0 none (a12.l2)]))))
 else (k (.code (.exit 0) ((base 100 23).on [(0,(.func (.yield 4) [] []))]) (hp [.row 0 42 1 0 (some 1) [.nils],.row 0 28 1 0 (some 1) [.nils],.row 0 45 1 0 (some 1) [(.osl 2 (a12.es))],.defs,lpE a12.es])))))
 (fun e12=>k (qN e12))))))))
 else (nI bot ((↑m:Int)-1) (need bot (((0:Int)≤((↑m:Int)-1))∧(((↑m:Int)-1)<((↑m:Int)))) (need bot (((v)=(v))∧(ldX PP 42 4 (l) (Nat.add ((0+Int.toNat ((↑m:Int)-1))*4) 3))) (bot)))))))
 (fun _=>bot))))
 else (need bot (GndR (l)) (need bot (GndR (l)) (k (.code (.exit 0) ((base 100 23).on [(0,(.func (.yield 4) [] []))]) (hp [.row 0 42 1 0 (some 1) [.nils],.row 0 28 1 0 (some 1) [(.sl 5 (v) 0 (m) none)],.row 0 45 1 0 (some 1) [(.osl 2 (es))],.defs,lpE es,.row (v) 59 4 0 none (l)]))))):=by kernel_rfl
theorem Kz1 (X:PlX) (ih:Task→Res) {β:Type} (bot:β) (k:Res→β) (s:List UInt8):evN PP EP CP (qp0 X) ih bot (.call 144 [.str s] Heap.empty) k =
 need bot (((0:Int)≤0)∧((0:Int)<1)) (need bot ((-9223372036854775808≤3)∧((3:Int)≤9223372036854775807)) (need bot (((0:Int)≤3)∧((3:Int)≤83)) (PR.bnd bot (X.2 (.call 92 [(.str (s)),(.str [63,47,47])] Heap.empty)) (fun a3 =>
 bif a3 then (k (.ret (.int .i64 3) Heap.empty))
 else (need bot ((-9223372036854775808≤4)∧((4:Int)≤9223372036854775807)) (need bot (((0:Int)≤4)∧((4:Int)≤83)) (need bot (((0:Int)≤0)∧((0:Int)<1)) (need bot ((-9223372036854775808≤3)∧((3:Int)≤9223372036854775807)) (need bot (((0:Int)≤3)∧((3:Int)≤79)) (PR.bnd bot (X.2 (.call 92 [(.str (s)),(.str [47,47,61])] Heap.empty)) (fun a10 =>
 bif a10 then (k (.ret (.int .i64 3) Heap.empty))
 else (need bot ((-9223372036854775808≤4)∧((4:Int)≤9223372036854775807)) (need bot (((0:Int)≤4)∧((4:Int)≤79)) (need bot (((0:Int)≤0)∧((0:Int)<1)) (need bot ((-9223372036854775808≤2)∧((2:Int)≤9223372036854775807)) (need bot (((0:Int)≤2)∧((2:Int)≤75)) (PR.bnd bot (X.2 (.call 92 [(.str (s)),(.str [33,61])] Heap.empty)) (fun a17 =>
 bif a17 then (k (.ret (.int .i64 2) Heap.empty))
 else (need bot ((-9223372036854775808≤3)∧((3:Int)≤9223372036854775807)) (need bot (((0:Int)≤3)∧((3:Int)≤75)) (need bot (((0:Int)≤0)∧((0:Int)<1)) (need bot ((-9223372036854775808≤2)∧((2:Int)≤9223372036854775807)) (need bot (((0:Int)≤2)∧((2:Int)≤72)) (PR.bnd bot (X.2 (.call 92 [(.str (s)),(.str [61,61])] Heap.empty)) (fun a24 =>
 bif a24 then (k (.ret (.int .i64 2) Heap.empty))
 else (need bot ((-9223372036854775808≤3)∧((3:Int)≤9223372036854775807)) (need bot (((0:Int)≤3)∧((3:Int)≤72)) (need bot (((0:Int)≤0)∧((0:Int)<1)) (need bot ((-9223372036854775808≤2)∧((2:Int)≤9223372036854775807)) (need bot (((0:Int)≤2)∧((2:Int)≤69)) (PR.bnd bot (X.2 (.call 92 [(.str (s)),(.str [60,61])] Heap.empty)) (fun a31 =>
 bif a31 then (k (.ret (.int .i64 2) Heap.empty))
 else (need bot ((-9223372036854775808≤3)∧((3:Int)≤9223372036854775807)) (need bot (((0:Int)≤3)∧((3:Int)≤69)) (need bot (((0:Int)≤0)∧((0:Int)<1)) (need bot ((-9223372036854775808≤2)∧((2:Int)≤9223372036854775807)) (need bot (((0:Int)≤2)∧((2:Int)≤66)) (PR.bnd bot (X.2 (.call 92 [(.str (s)),(.str [62,61])] Heap.empty)) (fun a38 =>
 bif a38 then (k (.ret (.int .i64 2) Heap.empty))
 else (need bot ((-9223372036854775808≤3)∧((3:Int)≤9223372036854775807)) (need bot (((0:Int)≤3)∧((3:Int)≤66)) (need bot (((0:Int)≤0)∧((0:Int)<1)) (need bot ((-9223372036854775808≤2)∧((2:Int)≤9223372036854775807)) (need bot (((0:Int)≤2)∧((2:Int)≤63)) (PR.bnd bot (X.2 (.call 92 [(.str (s)),(.str [124,61])] Heap.empty)) (fun a45 =>
 bif a45 then (k (.ret (.int .i64 2) Heap.empty))
 else (need bot ((-9223372036854775808≤3)∧((3:Int)≤9223372036854775807)) (need bot (((0:Int)≤3)∧((3:Int)≤63)) (need bot (((0:Int)≤0)∧((0:Int)<1)) (need bot ((-9223372036854775808≤2)∧((2:Int)≤9223372036854775807)) (need bot (((0:Int)≤2)∧((2:Int)≤60)) (PR.bnd bot (X.2 (.call 92 [(.str (s)),(.str [43,61])] Heap.empty)) (fun a52 =>
 bif a52 then (k (.ret (.int .i64 2) Heap.empty))
 else (need bot ((-9223372036854775808≤3)∧((3:Int)≤9223372036854775807)) (need bot (((0:Int)≤3)∧((3:Int)≤60)) (need bot (((0:Int)≤0)∧((0:Int)<1)) (need bot ((-9223372036854775808≤2)∧((2:Int)≤9223372036854775807)) (need bot (((0:Int)≤2)∧((2:Int)≤57)) (PR.bnd bot (X.2 (.call 92 [(.str (s)),(.str [45,61])] Heap.empty)) (fun a59 =>
 bif a59 then (k (.ret (.int .i64 2) Heap.empty))
 else (need bot ((-9223372036854775808≤3)∧((3:Int)≤9223372036854775807)) (need bot (((0:Int)≤3)∧((3:Int)≤57)) (need bot (((0:Int)≤0)∧((0:Int)<1)) (need bot ((-9223372036854775808≤2)∧((2:Int)≤9223372036854775807)) (need bot (((0:Int)≤2)∧((2:Int)≤54)) (PR.bnd bot (X.2 (.call 92 [(.str (s)),(.str [42,61])] Heap.empty)) (fun a66 =>
 bif a66 then (k (.ret (.int .i64 2) Heap.empty))
 else (need bot ((-9223372036854775808≤3)∧((3:Int)≤9223372036854775807)) (need bot (((0:Int)≤3)∧((3:Int)≤54)) (need bot (((0:Int)≤0)∧((0:Int)<1)) (need bot ((-9223372036854775808≤2)∧((2:Int)≤9223372036854775807)) (need bot (((0:Int)≤2)∧((2:Int)≤51)) (PR.bnd bot (X.2 (.call 92 [(.str (s)),(.str [47,61])] Heap.empty)) (fun a73 =>
 bif a73 then (k (.ret (.int .i64 2) Heap.empty))
 else (need bot ((-9223372036854775808≤3)∧((3:Int)≤9223372036854775807)) (need bot (((0:Int)≤3)∧((3:Int)≤51)) (need bot (((0:Int)≤0)∧((0:Int)<1)) (need bot ((-9223372036854775808≤2)∧((2:Int)≤9223372036854775807)) (need bot (((0:Int)≤2)∧((2:Int)≤48)) (PR.bnd bot (X.2 (.call 92 [(.str (s)),(.str [37,61])] Heap.empty)) (fun a80 =>
 bif a80 then (k (.ret (.int .i64 2) Heap.empty))
 else (need bot ((-9223372036854775808≤3)∧((3:Int)≤9223372036854775807)) (need bot (((0:Int)≤3)∧((3:Int)≤48)) (need bot (((0:Int)≤0)∧((0:Int)<1)) (need bot ((-9223372036854775808≤2)∧((2:Int)≤9223372036854775807)) (need bot (((0:Int)≤2)∧((2:Int)≤45)) (PR.bnd bot (X.2 (.call 92 [(.str (s)),(.str [47,47])] Heap.empty)) (fun a87 =>
 bif a87 then (k (.ret (.int .i64 2) Heap.empty))
 else (need bot ((-9223372036854775808≤3)∧((3:Int)≤9223372036854775807)) (need bot (((0:Int)≤3)∧((3:Int)≤45)) (need bot (((0:Int)≤0)∧((0:Int)<1)) (need bot ((-9223372036854775808≤2)∧((2:Int)≤9223372036854775807)) (need bot (((0:Int)≤2)∧((2:Int)≤42)) (PR.bnd bot (X.2 (.call 92 [(.str (s)),(.str [46,46])] Heap.empty)) (fun a94 =>
 bif a94 then (k (.ret (.int .i64 2) Heap.empty))
 else (need bot ((-9223372036854775808≤3)∧((3:Int)≤9223372036854775807)) (need bot (((0:Int)≤3)∧((3:Int)≤42)) (need bot (((0:Int)≤0)∧((0:Int)<1)) (need bot ((-9223372036854775808≤1)∧((1:Int)≤9223372036854775807)) (need bot (((0:Int)≤1)∧((1:Int)≤39)) (PR.bnd bot (X.2 (.call 92 [(.str (s)),(.str [46])] Heap.empty)) (fun a101 =>
 bif a101 then (k (.ret (.int .i64 1) Heap.empty))
 else (need bot ((-9223372036854775808≤2)∧((2:Int)≤9223372036854775807)) (need bot (((0:Int)≤2)∧((2:Int)≤39)) (need bot (((0:Int)≤0)∧((0:Int)<1)) (need bot ((-9223372036854775808≤1)∧((1:Int)≤9223372036854775807)) (need bot (((0:Int)≤1)∧((1:Int)≤37)) (PR.bnd bot (X.2 (.call 92 [(.str (s)),(.str [91])] Heap.empty)) (fun a108 =>
 bif a108 then (k (.ret (.int .i64 1) Heap.empty))
 else (need bot ((-9223372036854775808≤2)∧((2:Int)≤9223372036854775807)) (need bot (((0:Int)≤2)∧((2:Int)≤37)) (need bot (((0:Int)≤0)∧((0:Int)<1)) (need bot ((-9223372036854775808≤1)∧((1:Int)≤9223372036854775807)) (need bot (((0:Int)≤1)∧((1:Int)≤35)) (PR.bnd bot (X.2 (.call 92 [(.str (s)),(.str [93])] Heap.empty)) (fun a115 =>
 bif a115 then (k (.ret (.int .i64 1) Heap.empty))
 else (need bot ((-9223372036854775808≤2)∧((2:Int)≤9223372036854775807)) (need bot (((0:Int)≤2)∧((2:Int)≤35)) (need bot (((0:Int)≤0)∧((0:Int)<1)) (need bot ((-9223372036854775808≤1)∧((1:Int)≤9223372036854775807)) (need bot (((0:Int)≤1)∧((1:Int)≤33)) (PR.bnd bot (X.2 (.call 92 [(.str (s)),(.str [40])] Heap.empty)) (fun a122 =>
 bif a122 then (k (.ret (.int .i64 1) Heap.empty))
 else (need bot ((-9223372036854775808≤2)∧((2:Int)≤9223372036854775807)) (need bot (((0:Int)≤2)∧((2:Int)≤33)) (need bot (((0:Int)≤0)∧((0:Int)<1)) (need bot ((-9223372036854775808≤1)∧((1:Int)≤9223372036854775807)) (need bot (((0:Int)≤1)∧((1:Int)≤31)) (PR.bnd bot (X.2 (.call 92 [(.str (s)),(.str [41])] Heap.empty)) (fun a129 =>
 bif a129 then (k (.ret (.int .i64 1) Heap.empty))
 else (need bot ((-9223372036854775808≤2)∧((2:Int)≤9223372036854775807)) (need bot (((0:Int)≤2)∧((2:Int)≤31)) (need bot (((0:Int)≤0)∧((0:Int)<1)) (need bot ((-9223372036854775808≤1)∧((1:Int)≤9223372036854775807)) (need bot (((0:Int)≤1)∧((1:Int)≤29)) (PR.bnd bot (X.2 (.call 92 [(.str (s)),(.str [123])] Heap.empty)) (fun a136 =>
 bif a136 then (k (.ret (.int .i64 1) Heap.empty))
 else (need bot ((-9223372036854775808≤2)∧((2:Int)≤9223372036854775807)) (need bot (((0:Int)≤2)∧((2:Int)≤29)) (need bot (((0:Int)≤0)∧((0:Int)<1)) (need bot ((-9223372036854775808≤1)∧((1:Int)≤9223372036854775807)) (need bot (((0:Int)≤1)∧((1:Int)≤27)) (PR.bnd bot (X.2 (.call 92 [(.str (s)),(.str [125])] Heap.empty)) (fun a143 =>
 bif a143 then (k (.ret (.int .i64 1) Heap.empty))
 else (need bot ((-9223372036854775808≤2)∧((2:Int)≤9223372036854775807)) (need bot (((0:Int)≤2)∧((2:Int)≤27)) (need bot (((0:Int)≤0)∧((0:Int)<1)) (need bot ((-9223372036854775808≤1)∧((1:Int)≤9223372036854775807)) (need bot (((0:Int)≤1)∧((1:Int)≤25)) (PR.bnd bot (X.2 (.call 92 [(.str (s)),(.str [44])] Heap.empty)) (fun a150 =>
 bif a150 then (k (.ret (.int .i64 1) Heap.empty))
 else (need bot ((-9223372036854775808≤2)∧((2:Int)≤9223372036854775807)) (need bot (((0:Int)≤2)∧((2:Int)≤25)) (need bot (((0:Int)≤0)∧((0:Int)<1)) (need bot ((-9223372036854775808≤1)∧((1:Int)≤9223372036854775807)) (need bot (((0:Int)≤1)∧((1:Int)≤23)) (PR.bnd bot (X.2 (.call 92 [(.str (s)),(.str [58])] Heap.empty)) (fun a157 =>
 bif a157 then (k (.ret (.int .i64 1) Heap.empty))
 else (need bot ((-9223372036854775808≤2)∧((2:Int)≤9223372036854775807)) (need bot (((0:Int)≤2)∧((2:Int)≤23)) (need bot (((0:Int)≤0)∧((0:Int)<1)) (need bot ((-9223372036854775808≤1)∧((1:Int)≤9223372036854775807)) (need bot (((0:Int)≤1)∧((1:Int)≤21)) (PR.bnd bot (X.2 (.call 92 [(.str (s)),(.str [59])] Heap.empty)) (fun a164 =>
 bif a164 then (k (.ret (.int .i64 1) Heap.empty))
 else (need bot ((-9223372036854775808≤2)∧((2:Int)≤9223372036854775807)) (need bot (((0:Int)≤2)∧((2:Int)≤21)) (need bot (((0:Int)≤0)∧((0:Int)<1)) (need bot ((-9223372036854775808≤1)∧((1:Int)≤9223372036854775807)) (need bot (((0:Int)≤1)∧((1:Int)≤19)) (PR.bnd bot (X.2 (.call 92 [(.str (s)),(.str [61])] Heap.empty)) (fun a171 =>
 bif a171 then (k (.ret (.int .i64 1) Heap.empty))
 else (need bot ((-9223372036854775808≤2)∧((2:Int)≤9223372036854775807)) (need bot (((0:Int)≤2)∧((2:Int)≤19)) (need bot (((0:Int)≤0)∧((0:Int)<1)) (need bot ((-9223372036854775808≤1)∧((1:Int)≤9223372036854775807)) (need bot (((0:Int)≤1)∧((1:Int)≤17)) (PR.bnd bot (X.2 (.call 92 [(.str (s)),(.str [124])] Heap.empty)) (fun a178 =>
 bif a178 then (k (.ret (.int .i64 1) Heap.empty))
 else (need bot ((-9223372036854775808≤2)∧((2:Int)≤9223372036854775807)) (need bot (((0:Int)≤2)∧((2:Int)≤17)) (need bot (((0:Int)≤0)∧((0:Int)<1)) (need bot ((-9223372036854775808≤1)∧((1:Int)≤9223372036854775807)) (need bot (((0:Int)≤1)∧((1:Int)≤15)) (PR.bnd bot (X.2 (.call 92 [(.str (s)),(.str [43])] Heap.empty)) (fun a185 =>
 bif a185 then (k (.ret (.int .i64 1) Heap.empty))
 else (need bot ((-9223372036854775808≤2)∧((2:Int)≤9223372036854775807)) (need bot (((0:Int)≤2)∧((2:Int)≤15)) (need bot (((0:Int)≤0)∧((0:Int)<1)) (need bot ((-9223372036854775808≤1)∧((1:Int)≤9223372036854775807)) (need bot (((0:Int)≤1)∧((1:Int)≤13)) (PR.bnd bot (X.2 (.call 92 [(.str (s)),(.str [45])] Heap.empty)) (fun a192 =>
 bif a192 then (k (.ret (.int .i64 1) Heap.empty))
 else (need bot ((-9223372036854775808≤2)∧((2:Int)≤9223372036854775807)) (need bot (((0:Int)≤2)∧((2:Int)≤13)) (need bot (((0:Int)≤0)∧((0:Int)<1)) (need bot ((-9223372036854775808≤1)∧((1:Int)≤9223372036854775807)) (need bot (((0:Int)≤1)∧((1:Int)≤11)) (PR.bnd bot (X.2 (.call 92 [(.str (s)),(.str [42])] Heap.empty)) (fun a199 =>
 bif a199 then (k (.ret (.int .i64 1) Heap.empty))
 else (need bot ((-9223372036854775808≤2)∧((2:Int)≤9223372036854775807)) (need bot (((0:Int)≤2)∧((2:Int)≤11)) (need bot (((0:Int)≤0)∧((0:Int)<1)) (need bot ((-9223372036854775808≤1)∧((1:Int)≤9223372036854775807)) (need bot (((0:Int)≤1)∧((1:Int)≤9)) (PR.bnd bot (X.2 (.call 92 [(.str (s)),(.str [47])] Heap.empty)) (fun a206 =>
 bif a206 then (k (.ret (.int .i64 1) Heap.empty))
 else (need bot ((-9223372036854775808≤2)∧((2:Int)≤9223372036854775807)) (need bot (((0:Int)≤2)∧((2:Int)≤9)) (need bot (((0:Int)≤0)∧((0:Int)<1)) (need bot ((-9223372036854775808≤1)∧((1:Int)≤9223372036854775807)) (need bot (((0:Int)≤1)∧((1:Int)≤7)) (PR.bnd bot (X.2 (.call 92 [(.str (s)),(.str [37])] Heap.empty)) (fun a213 =>
 bif a213 then (k (.ret (.int .i64 1) Heap.empty))
 else (need bot ((-9223372036854775808≤2)∧((2:Int)≤9223372036854775807)) (need bot (((0:Int)≤2)∧((2:Int)≤7)) (need bot (((0:Int)≤0)∧((0:Int)<1)) (bot)))))
 (fun _=>bot))))))))
 (fun _=>bot))))))))
 (fun _=>bot))))))))
 (fun _=>bot))))))))
 (fun _=>bot))))))))
 (fun _=>bot))))))))
 (fun _=>bot))))))))
 (fun _=>bot))))))))
 (fun _=>bot))))))))
 (fun _=>bot))))))))
 (fun _=>bot))))))))
 (fun _=>bot))))))))
 (fun _=>bot))))))))
 (fun _=>bot))))))))
 (fun _=>bot))))))))
 (fun _=>bot))))))))
 (fun _=>bot))))))))
 (fun _=>bot))))))))
 (fun _=>bot))))))))
 (fun _=>bot))))))))
 (fun _=>bot))))))))
 (fun _=>bot))))))))
 (fun _=>bot))))))))
 (fun _=>bot))))))))
 (fun _=>bot))))))))
 (fun _=>bot))))))))
 (fun _=>bot))))))))
 (fun _=>bot))))))))
 (fun _=>bot))))))))
 (fun _=>bot))))))))
 (fun _=>bot)))):=by kernel_rfl
/-- NESTED BRACKETS: their tokens, and what the parser comes to. -/
abbrev qe0:=Int×List UInt8
def fT:Nat→List qe0
 | 0=>[(13,[40])]
 | 1=>[(13,[91])]
 | 2=>[(13,[123]),(3,[97]),(13,[58])]
 | _=>[(7,[34]),(9,[92,40])]
def bT:Nat→List qe0
 | 0=>[(13,[41])]
 | 1=>[(13,[93])]
 | 2=>[(13,[125])]
 | _=>[(10,[41]),(11,[34])]
def nest:List Nat→List qe0
 | []=>[(6,[49])]
 | w::ws=>fT w++(nest ws++bT w)
def St (l:List qe0) (pg:Pg) (ts us:List qe0) (nd:Nd):Prop:=∀ p,l.drop p=ts→∃ n q,qt0 (qb0 l n) l pg p=some (.ok (nd,q))∧l.drop q=us
section st
variable {l:List qe0}
theorem St.ret {n:Nd} {ts:List qe0}:St l (.ret n) ts ts n:=fun p h=>⟨0,p,rfl,h⟩
theorem St.look {f:Option qe0→Pg} {ts us:List qe0} {n:Nd} (h:St l (f ts.head?) ts us n):St l (.look f) ts us n:=fun p hp=>by
 obtain ⟨m,q,h1,h2⟩:=h p hp
 refine ⟨m,q,?_,h2⟩
 show qt0 _ l (f l[p]?) p=_
 rw [← hp,List.head?_drop] at h1
 exact h1
theorem St.adv {k:Pg} {t:qe0} {ts us:List qe0} {n:Nd} (h:St l k ts us n):St l (.adv k) (t::ts) us n:=fun p hp=>by
 have hlt:p<l.length:=by
  rcases Nat.lt_or_ge p l.length with h | h
  ·exact h
  ·rw [List.drop_eq_nil_of_le h] at hp;cases hp
 have h3:l.drop (p+1)=ts:=by rw [← List.tail_drop,hp];rfl
 obtain ⟨m,q,h1,h2⟩:=h (p+1) h3
 refine ⟨m,q,?_,h2⟩
 show (if p<l.length then qt0 _ l k (p+1) else none)=_
 rw [if_pos hlt]
 exact h1
theorem St.call {x:NT} {f:Nd→Pg} {ts vs us:List qe0} {m n:Nd} (h1:St l (Pg.body x) ts vs m) (h2:St l (f m) vs us n):St l (.call x f) ts us n:=fun p hp=>by
 obtain ⟨a,q,e1,hq⟩:=h1 p hp
 obtain ⟨b,r,e2,hr⟩:=h2 q hq
 refine ⟨max (a+1) b,r,?_,hr⟩
 have e3:qb0 l (a+1) x p=some (.ok (m,q)):=e1
 unfold qt0
 rw [JF0 (Nat.le_max_left (a+1) b) e3]
 exact GF0 (fun x p r h=>JF0 (Nat.le_max_right (a+1) b) h) _ _ _ e2
theorem St.call1 {x:NT} {ts us:List qe0} {m:Nd} (h1:St l (Pg.body x) ts us m):St l (Pg.call1 x) ts us m:=.call h1 .ret
def Hdt (t:qe0):Prop:=t=(13,[40])∨t=(13,[91])∨t=(13,[123])∨t=(7,[34])∨t=(6,[49])
def Clo (ts:List qe0):Prop:=ts=[]∨∃ r,ts=(13,[41])::r∨ts=(13,[93])::r∨ts=(13,[125])::r∨ts=(10,[41])::r
theorem St.postL {n:Nd} {us:List qe0} (h:Clo us):St l (Pg.body (.postL n)) us us n:=by
 rcases h with rfl | ⟨r,rfl | rfl | rfl | rfl⟩ <;> exact .look (.look (.look (.look .ret)))
theorem St.post {n:Nd} {ts us:List qe0} (h:St l (Pg.body .term) ts us n) (hc:Clo us):St l (Pg.body .post) ts us n:=.call h (.call1 (.postL hc))
theorem St.expL {n:Nd} {us:List qe0} (h:Clo us):St l (Pg.body (.expL 1 0 n)) us us n:=by
 rcases h with rfl | ⟨r,rfl | rfl | rfl | rfl⟩ <;> exact .look .ret
theorem St.operand {n:Nd} {t:qe0} {ts us:List qe0} (ht:Hdt t) (h:St l (Pg.body .post) (t::ts) us n) (hc:Clo us):St l (Pg.body .operand) (t::ts) us n:=by
 have h2:∀ f:Nd→Pg,St l (f n) us us n→St l (.call .post f) (t::ts) us n:=fun f hf=>.call h hf
 have h3:St l (.call .post fun n=>Pg.has [97,115] (.call .pattern fun q=>Pg.need [124] (.call Pg.pipe fun m=>.ret ⟨26,[],[qa0 n,qa0 q,qa0 m]⟩)) (.ret n)) (t::ts) us n:=by
  refine .call h ?_
  rcases hc with rfl | ⟨r,rfl | rfl | rfl | rfl⟩ <;> exact .look .ret
 rcases ht with rfl | rfl | rfl | rfl | rfl <;> exact .look (.look (.look (.look h3)))
theorem St.pipe {n:Nd} {t:qe0} {ts us:List qe0} (ht:Hdt t) (h:St l (Pg.body .term) (t::ts) us n) (hc:Clo us):St l (Pg.body Pg.pipe) (t::ts) us n :=
 .call (.operand ht (.post h hc) hc) (.call1 (.expL hc))
theorem Yq0 (ws:List Nat) (r:List qe0):∃ t ts,nest ws++r=t::ts∧Hdt t:=by
 cases ws with
 | nil=>exact ⟨_,_,rfl,.inr (.inr (.inr (.inr rfl)))⟩
 | cons w ws =>
  match w with
  | 0=>exact ⟨_,_,rfl,.inl rfl⟩
  | 1=>exact ⟨_,_,rfl,.inr (.inl rfl)⟩
  | 2=>exact ⟨_,_,rfl,.inr (.inr (.inl rfl))⟩
  | w+3=>exact ⟨_,_,rfl,.inr (.inr (.inr (.inl rfl)))⟩
theorem St.nest:∀ (ws:List Nat) (us:List qe0),∃ n,St l (Pg.body .term) (nest ws++us) us n:=by
 intro ws
 induction ws with
 | nil=>exact fun us=>⟨_,.look (.adv .ret)⟩
 | cons w ws IH =>
  intro us
  match w with
  | 0 =>
   obtain ⟨t,ts,he,ht⟩:=Yq0 ws ((13,[41])::us)
   obtain ⟨n,hn⟩:=IH ((13,[41])::us)
   rw [he] at hn
   have hp:=St.pipe ht hn (.inr ⟨us,.inl rfl⟩)
   have e:AM.nest (0::ws)++us=(13,[40])::t::ts:=by rw [← he];simp [AM.nest,fT,bT]
   rw [e]
   exact ⟨_,.look (.adv (.call1 (.call hp (.look (.adv .ret)))))⟩
  | 1 =>
   obtain ⟨t,ts,he,ht⟩:=Yq0 ws ((13,[93])::us)
   obtain ⟨n,hn⟩:=IH ((13,[93])::us)
   rw [he] at hn
   have hp:=St.pipe ht hn (.inr ⟨us,.inr (.inl rfl)⟩)
   have e:AM.nest (1::ws)++us=(13,[91])::t::ts:=by rw [← he];simp [AM.nest,fT,bT]
   rw [e]
   have h2:St l (.call Pg.pipe fun x=>Pg.need [93] (.ret ⟨9,[],[qa0 x]⟩)) (t::ts) us ⟨9,[],[qa0 n]⟩:=.call hp (.look (.adv .ret))
   refine ⟨⟨9,[],[qa0 n]⟩,.look (.adv (.call1 ?_))⟩
   rcases ht with rfl | rfl | rfl | rfl | rfl <;> exact .look h2
  | 2 =>
   obtain ⟨t,ts,he,ht⟩:=Yq0 ws ((13,[125])::us)
   obtain ⟨n,hn⟩:=IH ((13,[125])::us)
   rw [he] at hn
   have hc:Clo ((13,[125])::us):=.inr ⟨us,.inr (.inr (.inl rfl))⟩
   have hp:=St.post hn hc
   have e:AM.nest (2::ws)++us=(13,[123])::(3,[97])::(13,[58])::t::ts:=by rw [← he];simp [AM.nest,fT,bT]
   rw [e]
   have hu:St l (Pg.body .unit) (t::ts) ((13,[125])::us) n:=by
    rcases ht with rfl | rfl | rfl | rfl | rfl <;> exact .look (.call1 hp)
   have hv:St l (Pg.body .value) (t::ts) ((13,[125])::us) n:=.call hu (.look .ret)
   have hk:St l (Pg.body .key) ((3,[97])::(13,[58])::t::ts) ((13,[58])::t::ts) ⟨31,[97],[]⟩:=.look (.look (.adv .ret))
   have hpair:St l (Pg.body .pair) ((3,[97])::(13,[58])::t::ts) ((13,[125])::us) ⟨11,[],[qa0 ⟨31,[97],[]⟩,qa0 n]⟩:=.call hk (.look (.look (.adv (.call hv .ret))))
   have hrl:St l (Pg.body (.rowsL .pair [44] [125] [qa0 ⟨11,[],[qa0 ⟨31,[97],[]⟩,qa0 n]⟩])) ((13,[125])::us) ((13,[125])::us) ⟨0,[],[qa0 ⟨11,[],[qa0 ⟨31,[97],[]⟩,qa0 n]⟩]⟩:=.look .ret
   have hr:St l (Pg.body (.rows .pair [44] [125])) ((3,[97])::(13,[58])::t::ts) us ⟨0,[],[qa0 ⟨11,[],[qa0 ⟨31,[97],[]⟩,qa0 n]⟩]⟩:=.call hpair (.call hrl (.look (.adv .ret)))
   exact ⟨_,.look (.adv (.call1 (.look (.call hr .ret))))⟩
  | w+3 =>
   obtain ⟨t,ts,he,ht⟩:=Yq0 ws ((10,[41])::(11,[34])::us)
   obtain ⟨n,hn⟩:=IH ((10,[41])::(11,[34])::us)
   rw [he] at hn
   have hp:=St.pipe ht hn (.inr ⟨_,.inr (.inr (.inr rfl))⟩)
   have e:AM.nest ((w+3)::ws)++us=(7,[34])::(9,[92,40])::t::ts:=by rw [← he];simp [AM.nest,fT,bT]
   rw [e]
   have hl2:St l (Pg.body (.textL ([]++[qa0 n]))) ((11,[34])::us) ((11,[34])::us) ⟨0,[],[qa0 n]⟩:=.look .ret
   have hl:St l (Pg.body (.textL [])) ((9,[92,40])::t::ts) ((11,[34])::us) ⟨0,[],[qa0 n]⟩:=.look (.look (.adv (.call hp (.look (.adv (.call1 hl2))))))
   exact ⟨_,.look (.call1 (.look (.look (.adv (.call hl (.look (.adv .ret)))))))⟩
end st
theorem zn2 (ws:List Nat):∃ n a q,qb0 (nest ws) n .program 0=some (.ok (a,q)):=by
 obtain ⟨nd,hn⟩:=St.nest (l:=nest ws) ws []
 obtain ⟨t,ts,he,ht⟩:=Yq0 ws []
 rw [he] at hn
 have hp:=St.pipe ht hn (.inl rfl)
 have h2:St (nest ws) (.call Pg.pipe fun n=>Pg.finish [] n) (t::ts) [] nd:=.call hp (.look .ret)
 have h0:St (nest ws) (Pg.body .program) (t::ts) [] nd:=by
  have hq:St (nest ws) (Pg.body (.progL [])) (t::ts) (t::ts) ⟨0,[],[]⟩:=by
   rcases ht with rfl | rfl | rfl | rfl | rfl <;> exact .look (.look .ret)
  refine .call hq ?_
  rcases ht with rfl | rfl | rfl | rfl | rfl <;> exact .look h2
 obtain ⟨n,q,h1,_⟩:=h0 0 (by rw [← he,List.append_nil];rfl)
 exact ⟨n+1,nd,q,h1⟩
theorem Xm1:∀ (ws:List Nat) (us:List qe0) (n:Int) (i:Nat),0≤n→n+ws.length≤256→(∀ j,qU0 us n j=none)→qU0 (nest ws++us) n i=none:=by
 intro ws
 induction ws with
 | nil =>
  intro us n i h0 h1 hu
  show (bif decide (256<max (n+0) 0) then some i else qU0 us (max (n+0) 0) (i+1))=none
  rw [show max (n+0) 0=n by omega,decide_eq_false (by simp at h1;omega),cond_false]
  exact hu _
 | cons w ws IH =>
  intro us n i h0 h1 hu
  have h1:n+(ws.length+1:Nat)≤256:=h1
  have stp:∀ (t:qe0) (r:List qe0) (m c:Int) (i:Nat),chg t=c→0≤m+c→m+c≤256→qU0 r (m+c) (i+1)=none→qU0 (t::r) m i=none:=fun t r m c i hc h0 h1 h=>by
   unfold qU0
   rw [hc,show max (m+c) 0=m+c by omega,decide_eq_false (by omega),cond_false]
   exact h
  have e:nest (w::ws)++us=fT w++(nest ws++(bT w++us)):=by simp [nest]
  rw [e]
  have c1:∀ (t:qe0),chg t=-1→∀ j,qU0 (t::us) (n+1) j=none:=fun t ht j=>stp t us (n+1) (-1) j ht (by omega) (by omega) (by rw [show n+1+-1=n by omega];exact hu _)
  have c2:∀ (a b:qe0),chg a=-1→chg b=0→∀ j,qU0 (a::b::us) (n+1) j=none:=fun a b ha hb j=>stp a _ (n+1) (-1) j ha (by omega) (by omega) (by rw [show n+1+-1=n by omega];exact stp b us n 0 _ hb (by omega) (by omega) (by rw [Int.add_zero];exact hu _))
  have z:∀ (t:qe0) (r:List qe0) (m:Int) (i:Nat),chg t=0→0≤m→m≤256→qU0 r m (i+1)=none→qU0 (t::r) m i=none:=fun t r m i hc h0 h1 h=>stp t r m 0 i hc (by omega) (by omega) (by rw [Int.add_zero];exact h)
  match w with
  | 0=>exact stp _ _ n 1 i (by decide) (by omega) (by omega) (IH _ _ _ (by omega) (by omega) (c1 _ (by decide)))
  | 1=>exact stp _ _ n 1 i (by decide) (by omega) (by omega) (IH _ _ _ (by omega) (by omega) (c1 _ (by decide)))
  | 2=>exact stp _ _ n 1 i (by decide) (by omega) (by omega) (z _ _ _ _ (by decide) (by omega) (by omega) (z _ _ _ _ (by decide) (by omega) (by omega) (IH _ _ _ (by omega) (by omega) (c1 _ (by decide)))))
  | w+3=>exact z _ _ _ _ (by decide) (by omega) (by omega) (stp _ _ n 1 _ (by decide) (by omega) (by omega) (IH _ _ _ (by omega) (by omega) (c2 _ _ (by decide) (by decide))))
theorem Xn1:∀ (ws:List Nat) (us:List qe0) (n:Int) (i:Nat),0≤n→n≤256→256<n+ws.length→∃ j,qU0 (nest ws++us) n i=some j:=by
 intro ws
 induction ws with
 | nil=>intro us n i h0 h1 h2;exact absurd h2 (by simp;omega)
 | cons w ws IH =>
  intro us n i h0 h1 h2
  have h2:256<n+(ws.length+1:Nat):=h2
  have stp:∀ (t:qe0) (r:List qe0) (c:Int) (i:Nat),chg t=c→0≤c→(n+c≤256→∃ j,qU0 r (n+c) (i+1)=some j)→∃ j,qU0 (t::r) n i=some j:=fun t r c i hc h0 h=>by
   unfold qU0
   rw [hc,show max (n+c) 0=n+c by omega]
   cases hb:decide (256<n+c) with
   | true=>exact ⟨i,rfl⟩
   | false=>exact h (by have:=of_decide_eq_false hb;omega)
  have e:nest (w::ws)++us=fT w++(nest ws++(bT w++us)):=by simp [nest]
  rw [e]
  have st0:∀ (t:qe0) (r:List qe0) (m:Int) (i:Nat),chg t=0→0≤m→m≤256→(∃ j,qU0 r m (i+1)=some j)→∃ j,qU0 (t::r) m i=some j:=fun t r m i hc h0 h1 h=>by
   unfold qU0
   rw [hc,show max (m+0) 0=m by omega,decide_eq_false (by omega)]
   exact h
  match w with
  | 0=>exact stp _ _ 1 i (by decide) (by omega) (fun hn=>IH _ _ _ (by omega) hn (by omega))
  | 1=>exact stp _ _ 1 i (by decide) (by omega) (fun hn=>IH _ _ _ (by omega) hn (by omega))
  | 2=>exact stp _ _ 1 i (by decide) (by omega) (fun hn=>st0 _ _ _ _ (by decide) (by omega) hn (st0 _ _ _ _ (by decide) (by omega) hn (IH _ _ _ (by omega) hn (by omega))))
  | w+3=>exact st0 _ _ _ _ (by decide) h0 h1 (stp _ _ 1 _ (by decide) (by omega) (fun hn=>IH _ _ _ (by omega) hn (by omega)))
theorem ya2 (ws:List Nat) (x:Nd×Nat×Nat) (h:YJ0 (nest ws) x):x.2.1=if ws.length≤256 then 0 else 21:=by
 unfold YJ0 at h
 have en:nest ws=nest ws++[]:=(List.append_nil _).symm
 rcases Nat.lt_or_ge 256 ws.length with hk | hk
 ·obtain ⟨j,hj⟩:=Xn1 ws [] 0 0 (by omega) (by omega) (by omega)
  rw [← en] at hj
  rw [hj] at h
  dsimp only at h
  rw [h,if_neg (by omega)]
 ·have hd:=Xm1 ws [] 0 0 (by omega) (by omega) (fun j=>rfl)
  rw [← en] at hd
  rw [hd] at h
  dsimp only at h
  rw [if_pos hk]
  obtain ⟨n,a,q,hr⟩:=zn2 ws
  obtain ⟨m,⟨b,r,h1,h2⟩ | ⟨e,h1,h2⟩⟩:=h
  ·rw [h2]
  ·cases yP2 hr h1
/-- The program's lexer, number by number. -/
noncomputable def XL (n:Nat):PlX where
 I:=fun t=>exR rI qN (rn PP EP CP n t)
 O:=fun t=>exR rO qN (rn PP EP CP n t)
 W:=fun t=>exR rW qN (rn PP EP CP n t)
 WB:=fun t=>exR rWB qN (rn PP EP CP n t)
 Lt:=fun t=>exR (fun a=>rLt a.z a) qN (rn PP EP CP n t)
 La:=fun t=>exR (fun a=>rLa (frO t) a.r a.z a) qN (rn PP EP CP n t)
 LT:=fun t=>exR rLT qN (rn PP EP CP n t)
 IT:=fun t=>exR rIT qN (rn PP EP CP n t)
 PG:=fun t=>exR rPG qN (rn PP EP CP n t)
 Ea:=fun t=>exR (fun a=>rEa (frO t) a.b1 a.b2 a) qN (rn PP EP CP n t)
 Dp:=fun t=>exR (rDp (frO t)) qN (rn PP EP CP n t)
 Ru:=fun t=>exR (rRu (frO t)) qN (rn PP EP CP n t)
 Cr:=fun t=>exR (rCr (frO t)) qN (rn PP EP CP n t)
 J:=fun t=>exR (rJ (frO t)) qN (rn PP EP CP n t)
 J2:=fun t=>exR (fun a=>rJ2 (frO t) a.1 a) qN (rn PP EP CP n t)
 Nt:=fun t=>exR (rNt (frO t)) qN (rn PP EP CP n t)
 Ck:=fun t=>exR (fun a=>rCk (frO t) a.1 a) qN (rn PP EP CP n t)
theorem jN1 {α ε:Type} {s t:α→Bool} {R:Bool→Bool→α→Res} {Q:ε→Res} {r:Res} {e:Ent} (he:(⟨α,ε,exR (fun a=>R (s a) (t a) a) Q r,s,t,R,Q⟩:Ent)=e):e.x=.no∨e.res=r:=by
 subst he
 exact YX0 s t R Q r
theorem tblXL (n:Nat):Zk0 (rn PP EP CP n) (qp0 (XL n)):=by
 intro t e he
 unfold qp0 at he
 split at he
 ·unfold tbLK at he
  split at he <;> first | (cases he;done) | exact yS0 (Option.some.inj he) | exact Zt0 (Option.some.inj he)
 ·rename_i c fr h
  split at he
  ·unfold tbLL at he
   split at he <;> first | (cases he;done) | exact yS0 (R:=rRu fr) (Option.some.inj he) | exact yS0 (R:=rCr fr) (Option.some.inj he) | exact yS0 (R:=rJ fr) (Option.some.inj he) | exact Zt0 (R:=rJ2 fr) (Option.some.inj he) | exact yS0 (R:=rNt fr) (Option.some.inj he) | exact Zt0 (R:=rCk fr) (Option.some.inj he) | exact yS0 (R:=rDp fr) (Option.some.inj he) | exact jN1 (R:=rLa fr) (Option.some.inj he) | exact jN1 (R:=rEa fr) (Option.some.inj he)
  ·cases he
 ·cases he
def OkL {α ε:Type} (K:PlX→PR α ε) (P:α→Prop):Prop:=∃ a,P a∧Evt fun n=>K (XL n)=.ok a
theorem Rn.bndL {α ε:Type} {K:PlX→PR α ε} {P:α→Prop} {f:α→Nat→Option Res} {g:ε→Nat→Option Res} {Q:Res→Prop} (h:OkL K P) (hf:∀ a,P a→Rn (f a) Q):Rn (fun n=>PR.bnd none (K (XL n)) (fun a=>f a n) (fun e=>g e n)) Q:=by
 obtain ⟨a,hP,hE⟩:=h
 exact .bnd hE (hf a hP)
theorem Tk.byL {t:Task} {Q:Res→Prop} (h:Rn (fun n=>evN PP EP CP (qp0 (XL n)) (rn PP EP CP n) none t some) Q):∃ r,Q r∧Tk t r:=by
 obtain ⟨r,hr,a,hE⟩:=h
 refine ⟨r,hr,a+1,fun n hn=>?_⟩
 obtain ⟨n,rfl⟩:∃ m,n=m+1:=⟨n-1,by omega⟩
 have h1:=Xm0 (bot:=(none:Option Res)) (tblXL n) t some
 have h2:evN PP EP CP (qp0 (XL n)) (rn PP EP CP n) none t some=some r:=hE n (by omega)
 rw [h2] at h1
 rcases h1 with h1 | h1
 ·cases h1
 ·exact (Option.some.inj h1).symm
theorem OkL.nrm {α ε:Type} {K:PlX→PR α ε} {R:α→Res} {Q:ε→Res} {L:Res→α} {N:α→α} {t:Task} {P:α→Prop} (hK:∀ n,K (XL n)=exR R Q (rn PP EP CP n t)) (hL:∀ a,L (R a)=N a) (hN:∀ a,P (N a)→P a) (h:∃ r,(∃ a,r=R a∧P (N a))∧Tk t r):OkL K P:=by
 obtain ⟨r,⟨a,rfl,hP⟩,hT⟩:=h
 obtain ⟨a',h1,h2⟩:=KW1 (R:=R) (Q:=Q) a
 refine ⟨a',hN _ ?_,hT.mono fun n h=>by show K (XL n)=_;rw [hK,show rn PP EP CP n t=R a from h,h2]⟩
 rw [← hL,h1,hL]
 exact hP
theorem OkL.tk {α ε:Type} {K:PlX→PR α ε} {R:α→Res} {Q:ε→Res} {L:Res→α} {t:Task} {P:α→Prop} (hK:∀ n,K (XL n)=exR R Q (rn PP EP CP n t)) (hL:∀ a,L (R a)=a) (h:∃ r,(∃ a,r=R a∧P a)∧Tk t r):OkL K P :=
 .nrm (N:=fun a=>a) hK hL (fun _ h=>h) h
theorem OkL.weak {α ε:Type} {K:PlX→PR α ε} {P P':α→Prop} (h:OkL K P) (hp:∀ a,P a→P' a):OkL K P':=by
 obtain ⟨a,h1,h2⟩:=h
 exact ⟨a,hp a h1,h2⟩
/-- THE PROGRAM'S LEXER: what stands at the front. -/
theorem Rn.decT {p:Prop} [Decidable p] {a b:Nat→Option Res} {Q:Res→Prop} (h:p) (ha:Rn a Q):Rn (fun n=>bif decide p then a n else b n) Q:=.dec (fun _=>ha) (fun e=>absurd h e)
theorem Rn.decF {p:Prop} [Decidable p] {a b:Nat→Option Res} {Q:Res→Prop} (h:¬ p) (hb:Rn b Q):Rn (fun n=>bif decide p then a n else b n) Q:=.dec (fun e=>absurd e h) (fun _=>hb)
theorem Rn.ndecT {p:Prop} [Decidable p] {a b:Nat→Option Res} {Q:Res→Prop} (h:¬ p) (ha:Rn a Q):Rn (fun n=>bif !decide p then a n else b n) Q:=.ndec (fun _=>ha) (fun e=>absurd e h)
theorem Rn.ndecF {p:Prop} [Decidable p] {a b:Nat→Option Res} {Q:Res→Prop} (h:p) (hb:Rn b Q):Rn (fun n=>bif !decide p then a n else b n) Q:=.ndec (fun e=>absurd h e) (fun _=>hb)
theorem Rn.jo {s:Nat→Option Res} {F:Option Res→Nat→Option Res} {Q:Res→Prop} (h:Rn (fun n=>F (s n) n) Q):Rn (fun n=>jn (s n) (fun j=>F j n)) Q:=h
theorem Rn.got {α ε:Type} {K:PlX→PR α ε} {v:α} {f:α→Nat→Option Res} {g:ε→Nat→Option Res} {Q:Res→Prop} (h:OkL K fun a=>a=v) (hf:Rn (f v) Q):Rn (fun n=>PR.bnd none (K (XL n)) (fun a=>f a n) (fun e=>g e n)) Q:=Rn.bndL h (fun a e=>by subst e;exact hf)
def uI:V→Int
 | .int _ a=>a
 | _=>0
def uB:V→Bool
 | .bool b=>b
 | _=>false
def uS:V→List UInt8
 | .str s=>s
 | _=>[]
def uF:V→Nat
 | .func (.func f) _ _=>f
 | _=>0
def mI:Res→Int
 | .ret v _=>uI v
 | _=>0
def mO:Res→Bool
 | .ret v _=>uB v
 | _=>false
noncomputable def slL:Res→Nat→V
 | .code _ fr _,i=>fr.tm.get undef i
 | _,_=>undef
noncomputable def mRu (r:Res):List UInt8×Nat×Int:=(uS (slL r 0),uF (slL r 1),uI (slL r 5))
noncomputable def mCr (r:Res):List UInt8×Nat×Int:=(uS (slL r 1),uF (slL r 0),uI (slL r 5))
noncomputable def mJ (r:Res):List UInt8×Int:=(uS (slL r 0),uI (slL r 3))
theorem OkL.int {f:FuncId} {es:List V} {v:Int} (h:∃ r,r=.ret (.int .i64 v) Heap.empty∧Tk (.call f es Heap.empty) r):OkL (fun X=>X.I (.call f es Heap.empty)) fun a=>a=v:=by
 obtain ⟨r,rfl,h⟩:=h
 exact .tk (R:=rI) (L:=mI) (fun _=>rfl) (fun _=>rfl) ⟨_,⟨v,rfl,rfl⟩,h⟩
theorem OkL.bool {f:FuncId} {es:List V} {v:Bool} (h:∃ r,r=.ret (.bool v) Heap.empty∧Tk (.call f es Heap.empty) r):OkL (fun X=>X.O (.call f es Heap.empty)) fun a=>a=v:=by
 obtain ⟨r,rfl,h⟩:=h
 exact .tk (R:=rO) (L:=mO) (fun _=>rfl) (fun _=>rfl) ⟨_,⟨v,rfl,rfl⟩,h⟩
theorem Rn.cf {a b:Nat→Option Res} {Q:Res→Prop} (h:Rn b Q):Rn (fun n=>bif false then a n else b n) Q:=h
theorem Rn.ct {a b:Nat→Option Res} {Q:Res→Prop} (h:Rn a Q):Rn (fun n=>bif true then a n else b n) Q:=h
theorem qp1 (c:UInt8):OkL (fun X=>X.O (.call 173 [.int .u8 (c.toNat:Int)] Heap.empty)) fun a=>a=yB0 c:=by
 refine ⟨yB0 c,rfl,1,fun n hn=>?_⟩
 obtain ⟨n,rfl⟩:∃ m,n=m+1:=⟨n-1,by omega⟩
 exact Yn0 (Yc1 (n:=n) (c.toNat:Int)) (qo1 c) (by intro h;cases h)
theorem qs1 (w:List UInt8) (hw:w.length≤1000000000000):OkL (fun X=>X.I (.call 157 [.str w] Heap.empty)) fun a=>a=(ja0 w:Nat):=by
 refine ⟨_,rfl,w.length+6,fun n hn=>?_⟩
 exact Yn0 ((Gb0 n).simple w) (QY1 w (by omega) (by omega)) (by intro h;cases h)
theorem JH1 (c:UInt8) (h:¬ (0≤QP0 (UInt8.ofNat (Int.toNat (c.toNat:Int))) [32,9,10,13] 0)):OkL (fun X=>X.O (.call 131 [.int .u8 (c.toNat:Int)] Heap.empty)) fun a=>a=false :=
 .bool (Tk.byL (.of (fun m=>Kt1 (XL m) _ none some (c.toNat:Int)) (Rn.decF h (Rn.ret rfl))))
theorem zk0 (c:UInt8) (r:List UInt8):(0:Int)<((c::r).length:Int):=by rw [List.length_cons];omega
theorem c_t1 (c:UInt8) (r:List UInt8) (h:¬ (0≤QP0 (UInt8.ofNat (Int.toNat (c.toNat:Int))) [32,9,10,13] 0)):OkL (fun X=>X.I (.call 129 [.str (c::r)] Heap.empty)) fun a=>a=0:=by
 have h1:OkL (fun X=>X.Ru (.code (.loop (lpB PP 130 0)) ((base 130 20).on [(0,.str (c::r)),(1,.func (.func 131) [] []),(5,.int .i64 0)]) Heap.empty)) fun a=>a=(c::r,131,0):=by
  refine .tk (R:=rRu (base 130 20)) (L:=mRu) (fun _=>rfl) (fun a=>by kernel_rfl) (Tk.byL (.of (fun m=>KI1 (XL m) _ none some (c::r) 0) ?_))
  refine Rn.decT (zk0 c r) (Rn.nX ⟨by omega,zk0 c r⟩ ?_)
  exact Rn.got (JH1 c h) (Rn.ret ⟨(c::r,131,0),rfl,rfl⟩)
 have h2:OkL (fun X=>X.I (.call 130 [.str (c::r),.func (.func 131) [] []] Heap.empty)) fun a=>a=0 :=
  .int (Tk.byL (.of (fun m=>KH1 (XL m) _ none some (c::r)) (Rn.got h1 (Rn.ret rfl))))
 exact .int (Tk.byL (.of (fun m=>el_lt1 (XL m) _ none some (c::r)) (Rn.got h2 (Rn.ret rfl))))
theorem jg1 (c:UInt8) (r:List UInt8) (h:¬ ((c.toNat:Int)=35)):OkL (fun X=>X.I (.call 132 [.str (c::r)] Heap.empty)) fun a=>a=0 :=
 .int (Tk.byL (.of (fun m=>Ky1 (XL m) _ none some (c::r)) (Rn.nX ⟨by omega,zk0 c r⟩ (Rn.ndecT h (Rn.ret rfl)))))
theorem JN1 (c:UInt8) (r:List UInt8) (hs:(c::r).length≤1000000000000) (h:zt0 c=false):OkL (fun X=>X.I (.call 133 [.str (c::r)] Heap.empty)) fun a=>a=0:=by
 have e:((ja0 (c::r):Nat):Int)=0:=by
  show (((bif zt0 c then yW0 (c::r) else 0:Nat)):Int)=0
  rw [h];rfl
 have h0:=qs1 (c::r) hs
 rw [e] at h0
 have h1:OkL (fun X=>X.J (.code (.loop (lpB PP 133 0)) ((base 133 31).on [(0,.str (c::r)),(3,.int .i64 0)]) Heap.empty)) fun a=>a=(c::r,0) :=
  .tk (R:=rJ (base 133 31)) (L:=mJ) (fun _=>rfl) (fun a=>by kernel_rfl) (Tk.byL (.of (fun m=>jI1 (XL m) _ none some (c::r) 0) (Rn.decF (by omega) (Rn.ret ⟨(c::r,0),rfl,rfl⟩))))
 exact .int (Tk.byL (.of (fun m=>jH1 (XL m) _ none some (c::r)) (Rn.got h0 (Rn.got h1 (Rn.ret rfl)))))
theorem JO1 (c d:UInt8) (r:List UInt8) (hs:(c::58::d::r).length≤1000000000000) (h:zt0 c=true) (hd:d≠58):OkL (fun X=>X.I (.call 133 [.str (c::58::d::r)] Heap.empty)) fun a=>a=1:=by
 have e:((ja0 (c::58::d::r):Nat):Int)=1:=by
  have hp:yC0 c=true:=by unfold yC0;rw [h];rfl
  have hp2:yC0 58=false:=by decide
  show (((bif zt0 c then yW0 (c::58::d::r) else 0:Nat)):Int)=1
  rw [h]
  simp only [cond_true,yW0,List.takeWhile_cons,hp,hp2,if_true]
  rfl
 have h0:=qs1 (c::58::d::r) hs
 rw [e] at h0
 have e2:((ja0 (58::d::r):Nat):Int)=0:=rfl
 have h2:=qs1 (58::d::r) (by simp only [List.length_cons] at hs ⊢;omega)
 rw [e2] at h2
 have h1:OkL (fun X=>X.J (.code (.loop (lpB PP 133 0)) ((base 133 31).on [(0,.str (c::58::d::r)),(3,.int .i64 1)]) Heap.empty)) fun a=>a=(c::58::d::r,1):=by
  refine .tk (R:=rJ (base 133 31)) (L:=mJ) (fun _=>rfl) (fun a=>by kernel_rfl) (Tk.byL (.of (fun m=>jI1 (XL m) _ none some (c::58::d::r) 1) ?_))
  refine Rn.decT (by omega) (Rn.need (by simp only [List.length_cons];omega) (Rn.jo ?_))
  have hl:(2:Int)≤((List.drop (Int.toNat 1) (c::58::d::r)).length:Int):=by show (2:Int)≤((58::d::r).length:Int);simp only [List.length_cons];omega
  refine Rn.decT hl (Rn.need ⟨by omega,hl⟩ (Rn.decF (fun q=>?_) ?_))
  ·have q:(58::d::[]:List UInt8)=[58,58]:=q
   injection q with _ q
   injection q with q _
   exact hd q
  ·exact Rn.got h2 (Rn.ret ⟨(c::58::d::r,1),rfl,rfl⟩)
 exact .int (Tk.byL (.of (fun m=>jH1 (XL m) _ none some (c::58::d::r)) (Rn.got h0 (Rn.got h1 (Rn.ret rfl)))))
theorem c_t2 (c:UInt8) (r:List UInt8) (h:¬ ((c.toNat:Int)=46)):OkL (fun X=>X.I (.call 134 [.str (c::r)] Heap.empty)) fun a=>a=0:=by
 have h1:OkL (fun X=>X.I (.call 135 [.str (c::r),.int .u8 46,.func (.func 136) [] []] Heap.empty)) fun a=>a=0 :=
  .int (Tk.byL (.of (fun m=>Kq1 (XL m) _ none some (c::r)) (Rn.nX ⟨by omega,zk0 c r⟩ (Rn.ndecT h (Rn.ret rfl)))))
 exact .int (Tk.byL (.of (fun m=>el_lt2 (XL m) _ none some (c::r)) (Rn.got h1 (Rn.ret rfl))))
theorem c_t3 (c:UInt8) (r:List UInt8) (h:¬ ((c.toNat:Int)=36)):OkL (fun X=>X.I (.call 139 [.str (c::r)] Heap.empty)) fun a=>a=0:=by
 have h1:OkL (fun X=>X.I (.call 135 [.str (c::r),.int .u8 36,.func (.func 133) [] []] Heap.empty)) fun a=>a=0 :=
  .int (Tk.byL (.of (fun m=>Kr1 (XL m) _ none some (c::r)) (Rn.nX ⟨by omega,zk0 c r⟩ (Rn.ndecT h (Rn.ret rfl)))))
 exact .int (Tk.byL (.of (fun m=>el_lt3 (XL m) _ none some (c::r)) (Rn.got h1 (Rn.ret rfl))))
theorem c_t4 (c:UInt8) (r:List UInt8) (h:¬ ((c.toNat:Int)=64)):OkL (fun X=>X.I (.call 140 [.str (c::r)] Heap.empty)) fun a=>a=0:=by
 have h1:OkL (fun X=>X.I (.call 135 [.str (c::r),.int .u8 64,.func (.func 138) [] []] Heap.empty)) fun a=>a=0 :=
  .int (Tk.byL (.of (fun m=>Ks1 (XL m) _ none some (c::r)) (Rn.nX ⟨by omega,zk0 c r⟩ (Rn.ndecT h (Rn.ret rfl)))))
 exact .int (Tk.byL (.of (fun m=>el_lt4 (XL m) _ none some (c::r)) (Rn.got h1 (Rn.ret rfl))))
theorem c_dig0 (c:UInt8) (r:List UInt8) (h:yB0 c=false):OkL (fun X=>X.I (.call 174 [.func (.func 173) [] [],.str (c::r)] Heap.empty)) fun a=>a=0:=by
 have h1:OkL (fun X=>X.Cr (.code (.loop (lpB PP 174 0)) ((base 174 20).on [(0,.func (.func 173) [] []),(1,.str (c::r)),(5,.int .i64 0)]) Heap.empty)) fun a=>a=(c::r,173,0):=by
  refine .tk (R:=rCr (base 174 20)) (L:=mCr) (fun _=>rfl) (fun a=>by kernel_rfl) (Tk.byL (.of (fun m=>qK1 (XL m) _ none some (c::r) 0) ?_))
  refine Rn.decT (zk0 c r) (Rn.nX ⟨by omega,zk0 c r⟩ ?_)
  have hd:=qp1 c
  rw [h] at hd
  exact Rn.got hd (Rn.ret ⟨(c::r,173,0),rfl,rfl⟩)
 exact .int (Tk.byL (.of (fun m=>jB1 (XL m) _ none some (c::r)) (Rn.got h1 (Rn.ret rfl))))
theorem jh1 (c:UInt8) (r:List UInt8) (h:yB0 c=false) (h2:¬ ((c.toNat:Int)=46)):OkL (fun X=>X.I (.call 141 [.str (c::r)] Heap.empty)) fun a=>a=0 :=
 .int (Tk.byL (.of (fun m=>jF1 (XL m) _ none some (c::r)) (Rn.got (c_dig0 c r h) (Rn.jo (Rn.decT (zk0 c r) (Rn.nX ⟨by omega,zk0 c r⟩ (Rn.decF h2 (Rn.decT rfl (Rn.ret rfl)))))))))
theorem c_dig1 (c:UInt8) (r:List UInt8) (h:yB0 c=true) (hr:r=[]∨∃ d q,r=d::q∧yB0 d=false):OkL (fun X=>X.I (.call 174 [.func (.func 173) [] [],.str (c::r)] Heap.empty)) fun a=>a=1:=by
 have h2:OkL (fun X=>X.Cr (.code (.loop (lpB PP 174 0)) ((base 174 20).on [(0,.func (.func 173) [] []),(1,.str (c::r)),(5,.int .i64 (0+1))]) Heap.empty)) fun a=>a=(c::r,173,1):=by
  refine .tk (R:=rCr (base 174 20)) (L:=mCr) (fun _=>rfl) (fun a=>by kernel_rfl) (Tk.byL (.of (fun m=>qK1 (XL m) _ none some (c::r) (0+1)) ?_))
  rcases hr with rfl | ⟨d,q,rfl,hd0⟩
  ·exact Rn.decF (by simp only [List.length_cons,List.length_nil];omega) (Rn.ret ⟨([c],173,1),rfl,rfl⟩)
  ·have hl:(0+1:Int)<((c::d::q).length:Int):=by simp only [List.length_cons];omega
   refine Rn.decT hl (Rn.nX ⟨by omega,hl⟩ ?_)
   have hd:=qp1 d
   rw [hd0] at hd
   exact Rn.got hd (Rn.ret ⟨(c::d::q,173,1),rfl,rfl⟩)
 have h1:OkL (fun X=>X.Cr (.code (.loop (lpB PP 174 0)) ((base 174 20).on [(0,.func (.func 173) [] []),(1,.str (c::r)),(5,.int .i64 0)]) Heap.empty)) fun a=>a=(c::r,173,1):=by
  refine .tk (R:=rCr (base 174 20)) (L:=mCr) (fun _=>rfl) (fun a=>by kernel_rfl) (Tk.byL (.of (fun m=>qK1 (XL m) _ none some (c::r) 0) ?_))
  refine Rn.decT (zk0 c r) (Rn.nX ⟨by omega,zk0 c r⟩ ?_)
  have hd:=qp1 c
  rw [h] at hd
  exact Rn.got hd (Rn.nI (by omega) (Rn.got h2 (Rn.ret ⟨(c::r,173,1),rfl,rfl⟩)))
 exact .int (Tk.byL (.of (fun m=>jB1 (XL m) _ none some (c::r)) (Rn.got h1 (Rn.ret rfl))))
def EndB (r:List UInt8):Prop:=r=[]∨∃ q,r=41::q∨r=93::q∨r=125::q
theorem JM1 (r:List UInt8) (hr:EndB r):OkL (fun X=>X.I (.call 175 [.str r] Heap.empty)) fun a=>a=0:=by
 rcases hr with rfl | ⟨q,rfl | rfl | rfl⟩
 ·exact .int (Tk.byL (.of (fun m=>KD1 (XL m) _ none some) (Rn.ret rfl)))
 ·exact .int (Tk.byL (.of (fun m=>KF1 (XL m) _ none some q) (Rn.nX ⟨by omega,zk0 41 q⟩ (Rn.need ⟨rfl,by kernel_rfl⟩ (Rn.ret rfl)))))
 ·exact .int (Tk.byL (.of (fun m=>KG1 (XL m) _ none some q) (Rn.nX ⟨by omega,zk0 93 q⟩ (Rn.need ⟨rfl,by kernel_rfl⟩ (Rn.ret rfl)))))
 ·exact .int (Tk.byL (.of (fun m=>KE1 (XL m) _ none some q) (Rn.nX ⟨by omega,zk0 125 q⟩ (Rn.need ⟨rfl,by kernel_rfl⟩ (Rn.ret rfl)))))
theorem c_num1 (r:List UInt8) (hr:EndB r):OkL (fun X=>X.I (.call 141 [.str (49::r)] Heap.empty)) fun a=>a=1:=by
 have h1:=c_dig1 49 r (by decide) (by
  rcases hr with rfl | ⟨q,rfl | rfl | rfl⟩
  ·exact .inl rfl
  ·exact .inr ⟨_,_,rfl,by decide⟩
  ·exact .inr ⟨_,_,rfl,by decide⟩
  ·exact .inr ⟨_,_,rfl,by decide⟩)
 have hp:=JM1 r hr
 refine .int (Tk.byL (.of (fun m=>jF1 (XL m) _ none some (49::r)) (Rn.got h1 (Rn.jo ?_))))
 have hj:Rn (fun n=>bif decide ((1:Int)=0) then some (Res.ret (.int .i64 0) Heap.empty) else need none (((0:Int)≤1)∧((1:Int)≤((49::r).length:Int))) (PR.bnd none ((XL n).I (.call 175 [.str (List.drop (Int.toNat 1) (49::r))] Heap.empty)) (fun a6=>nI none (1+a6) (some (.ret (.int .i64 (1+a6)) Heap.empty))) (fun _=>none))) (fun r=>r=.ret (.int .i64 1) Heap.empty) :=
  Rn.decF (by omega) (Rn.need (by simp only [List.length_cons];omega) (Rn.got hp (Rn.nI (by omega) (Rn.ret rfl))))
 rcases hr with rfl | ⟨q,rfl | rfl | rfl⟩
 ·exact Rn.decF (by simp) hj
 all_goals exact Rn.decT (by simp only [List.length_cons];omega) (Rn.nX (by simp only [List.length_cons];omega) (Rn.decF (by first | exact (show ¬ ((41:Int)=46) by decide) | exact (show ¬ ((93:Int)=46) by decide) | exact (show ¬ ((125:Int)=46) by decide)) hj))
theorem c_q0 (c:UInt8) (r:List UInt8) (h:c≠34):OkL (fun X=>X.I (.call 142 [.str (c::r)] Heap.empty)) fun a=>a=0:=by
 refine .int (Tk.byL (.of (fun m=>jG1 (XL m) _ none some (c::r)) (Rn.jo ?_)))
 refine Rn.decT (by simp only [List.length_cons];omega) (Rn.need (by simp only [List.length_cons];omega) (Rn.decF (fun q=>?_) (Rn.nI (by omega) (Rn.ret (by rw [Int.sub_self])))))
 have q:([c]:List UInt8)=[34]:=q
 injection q with q _
 exact h q
theorem c_q1 (r:List UInt8):OkL (fun X=>X.I (.call 142 [.str (34::r)] Heap.empty)) fun a=>a=1:=by
 refine .int (Tk.byL (.of (fun m=>jG1 (XL m) _ none some (34::r)) (Rn.jo ?_)))
 have e:((34::r:List UInt8).length:Int)-((List.drop 1 (34::r)).length:Int)=1:=by simp only [List.drop_succ_cons,List.drop_zero,List.length_cons];omega
 refine Rn.decT (by simp only [List.length_cons];omega) (Rn.need (by simp only [List.length_cons];omega) (Rn.decT rfl (Rn.need (by simp only [List.length_cons];omega) (Rn.nI (by omega) (Rn.ret (by rw [e]))))))
theorem c_pre0 (c d:UInt8) (r t:List UInt8) (h:c≠d):OkL (fun X=>X.O (.call 92 [.str (c::r),.str (d::t)] Heap.empty)) fun a=>a=false:=by
 refine .bool (Tk.byL (.of (fun m=>qN1 (XL m) _ none some (c::r) (d::t)) ?_))
 refine Rn.dec (fun hl=>Rn.need ⟨by omega,hl⟩ (Rn.decF (fun q=>?_) (Rn.ret rfl))) (fun _=>Rn.ret rfl)
 have q:c::List.take t.length r=d::t:=q
 injection q with q _
 exact h q
theorem c_pre1 (c:UInt8) (r:List UInt8):OkL (fun X=>X.O (.call 92 [.str (c::r),.str [c]] Heap.empty)) fun a=>a=true :=
 .bool (Tk.byL (.of (fun m=>qN1 (XL m) _ none some (c::r) [c]) (Rn.decT (by simp only [List.length_cons,List.length_nil];omega) (Rn.need (by simp only [List.length_cons,List.length_nil];omega) (Rn.decT rfl (Rn.ret rfl))))))
theorem c_pren (c d:UInt8) (r t:List UInt8) (h:Nat.beq c.toNat d.toNat=false):OkL (fun X=>X.O (.call 92 [.str (c::r),.str (d::t)] Heap.empty)) fun a=>a=false :=
 c_pre0 c d r t (fun e=>by subst e;rw [Nat.beq_refl] at h;cases h)
theorem c_oper (c:UInt8) (r:List UInt8) (h:c=40∨c=41∨c=91∨c=93∨c=123∨c=125∨c=58):OkL (fun X=>X.I (.call 144 [.str (c::r)] Heap.empty)) fun a=>a=1:=by
 refine .int (Tk.byL (.of (fun m=>Kz1 (XL m) _ none some (c::r)) ?_))
 rcases h with rfl | rfl | rfl | rfl | rfl | rfl | rfl
 all_goals
  repeat' (first | refine Rn.got (c_pren _ _ _ _ rfl) (Rn.cf ?_) | refine Rn.need (by omega) ?_)
  exact Rn.got (c_pre1 _ _) (Rn.ct (Rn.ret rfl))
/-- THE NEXT TOKEN. -/
def nLt (a:Lt):Lt:=bif a.z then ⟨a.k,a.w,a.s,a.a,true,0,0,[],a.i,a.e⟩ else a
theorem Zj1 (a:Lt):nLt (nLt a)=nLt a:=by
 obtain ⟨k,w,s,p,z,v,n,l,i,e⟩:=a
 cases z <;> rfl
theorem nLt_f {a c:Lt} (hc:c.z=false) (h:nLt a=c):a=c:=by
 obtain ⟨k',w',s',p',z,v,n,l,i',e'⟩:=a
 cases z with
 | true=>rw [← h] at hc;cases hc
 | false=>exact h
noncomputable def jt1:Obj→List V
 | .row _ _ _ _ _ (.agg cs::_)=>cs
 | _=>[]
noncomputable def esO:Obj→List V
 | .row _ _ _ _ _ es=>es
 | _=>[]
noncomputable def mkLt (k:Int) (w:List UInt8) (h:Heap):Lt:=match jt1 (h.get 0) with
 | [s,a,o,i,e]=>(match o with
  | .sl _ v _ n _=>⟨k,w,uS s,uI a,false,v,n,esO (h.get 1),uB i,uI e⟩
  | _=>⟨k,w,uS s,uI a,true,0,0,[],uB i,uI e⟩)
 | _=>⟨k,w,[],0,true,0,0,[],false,0⟩
noncomputable def mLt:Res→Lt
 | .ret v h=>(match v with
  | .agg [k,w]=>mkLt (uI k) (uS w) h
  | _=>mkLt 0 [] h)
 | _=>⟨0,[],[],0,true,0,0,[],false,0⟩
theorem mLt_eq (a:Lt):mLt (rLt a.z a)=nLt a:=by
 obtain ⟨k,w,s,p,z,v,n,l,i,e⟩:=a
 cases z <;> kernel_rfl
theorem JI0 {o:List V} {i:Nat} {z y:Int} (h:o[i]?=some (.int .i64 z)):yG0 1 o (i*1) (.int .i64 y)=o.set i (.int .i64 y):=by
 unfold yG0
 rw [Nat.mul_one,Nat.div_one,Nat.mod_one,show o.getD i undef=.int .i64 z by rw [List.getD_eq_getElem?_getD,h];rfl,List.setN_eq]
 rfl
theorem stX_i {o:List V} {i:Nat} {z y:Int} (h:o[i]?=some (.int .i64 z)):stX PP 3 (.int .i64 y) 0 1 o (i*1):=by
 have hi:=qf0 h
 refine ⟨rfl,by kernel_rfl,Nat.zero_le _,by decide,by rw [Nat.mul_one,Nat.div_one];exact hi,?_⟩
 rw [Nat.mul_one,Nat.div_one,Nat.mod_one,show o.getD i undef=.int .i64 z by rw [List.getD_eq_getElem?_getD,h];rfl]
 intro e;cases e
def IsT (K:PlX→PR Lt Int) (c:Lt):Prop:=OkL K fun a=>nLt a=c
theorem IsT.mk {t:Task} {c:Lt} {K:PlX→PR Lt Int} (hK:∀ n,K (XL n)=exR (fun a:Lt=>rLt a.z a) qN (rn PP EP CP n t)) (hc:nLt c=c) (h:∃ r,r=rLt c.z c∧Tk t r):IsT K c:=by
 obtain ⟨r,rfl,h⟩:=h
 exact .nrm (R:=fun a:Lt=>rLt a.z a) (L:=mLt) (N:=nLt) hK mLt_eq (fun a h=>(Zj1 a).symm.trans h) ⟨_,⟨c,rfl,(Zj1 c).trans hc⟩,h⟩
section o
variable (s:List UInt8) (p:Nat) (hP:p≤s.length) (e:Int) (i:Bool) (m:Int)
noncomputable abbrev yD0 (x:Heap):Task:=.call 98 [.ptr 0 0 0,yt0] x
noncomputable abbrev hx0 (s:List UInt8) (p:Int) (i:Bool) (e:Int):Heap:=hp [lxO s p .nils i e]
noncomputable abbrev hx1 (s:List UInt8) (p:Int) (i:Bool) (e:Int) (v n:Nat) (o:List V):Heap:=hp [lxO s p (.sl 1 v 0 n none) i e,.row v 3 1 0 none o]
 include hP
theorem o0_3 (hm:0<m∧m≤(s.drop p).length) (h0:OkL (fun X=>X.I (.call 129 [.str (s.drop p)] Heap.empty)) fun a=>a=0) (h1:OkL (fun X=>X.I (.call 132 [.str (s.drop p)] Heap.empty)) fun a=>a=0) (hj:OkL (fun X=>X.I (.call 133 [.str (s.drop p)] Heap.empty)) fun a=>a=m):IsT (fun X=>X.Lt (yD0 (hx0 s p i e))) ⟨3,(s.drop p).take m.toNat,s,p,true,0,0,[],false,e⟩:=by
 refine .mk (fun _=>rfl) rfl (Tk.byL (.of (fun m=>KA0 (XL m) _ none some s p e i) ?_))
 refine Rn.need ⟨by omega,by omega⟩ ?_
 refine Rn.need (by omega) (Rn.got h0 (Rn.decF (by omega) ?_))
 refine Rn.need (by omega) (Rn.need (by omega) (Rn.got h1 (Rn.decF (by omega) ?_)))
 refine Rn.need (by omega) (Rn.need (by omega) (Rn.got hj (Rn.decT hm.1 (Rn.need ⟨by omega,hm.2⟩ (Rn.need rfl (Rn.need ⟨by omega,hm.2⟩ (Rn.need rfl (Rn.need rfl (Rn.need rfl (Rn.need rfl (Rn.need rfl ?_)))))))))))
 exact Rn.ret rfl
theorem o1_3 (v n:Nat) (o:List V) (hg:GndR o) (hn:(n:Int)≤1000000000000) (hm:0<m∧m≤(s.drop p).length) (h0:OkL (fun X=>X.I (.call 129 [.str (s.drop p)] Heap.empty)) fun a=>a=0) (h1:OkL (fun X=>X.I (.call 132 [.str (s.drop p)] Heap.empty)) fun a=>a=0) (hj:OkL (fun X=>X.I (.call 133 [.str (s.drop p)] Heap.empty)) fun a=>a=m):IsT (fun X=>X.Lt (yD0 (hx1 s p i e v n o))) ⟨3,(s.drop p).take m.toNat,s,p,false,v,n,o,false,e⟩:=by
 refine .mk (fun _=>rfl) rfl (Tk.byL (.of (fun m=>Yf0 (XL m) _ none some s p e i v n o) ?_))
 refine Rn.need ⟨by omega,by omega⟩ ?_
 refine Rn.need (by omega) (Rn.got h0 (Rn.decF (by omega) ?_))
 refine Rn.need (by omega) (Rn.need hg (Rn.need (by omega) (Rn.got h1 (Rn.decF (by omega) ?_))))
 refine Rn.need (by omega) (Rn.need hg (Rn.need (by omega) (Rn.got hj (Rn.decT hm.1 (Rn.need ⟨by omega,hm.2⟩ (Rn.need rfl (Rn.need ⟨by omega,hm.2⟩ (Rn.need rfl (Rn.need rfl (Rn.need rfl (Rn.need rfl (Rn.need rfl ?_))))))))))))
 refine Rn.jo (Rn.dec (fun _=>Rn.need hg (Rn.need hg (Rn.ret rfl))) (fun _=>Rn.nI (by omega) (Rn.need (by omega) (Rn.need hg (Rn.need hg (Rn.ret rfl))))))
theorem o0_6 (hm:0<m∧m≤(s.drop p).length) (h0:OkL (fun X=>X.I (.call 129 [.str (s.drop p)] Heap.empty)) fun a=>a=0) (h1:OkL (fun X=>X.I (.call 132 [.str (s.drop p)] Heap.empty)) fun a=>a=0) (h2:OkL (fun X=>X.I (.call 133 [.str (s.drop p)] Heap.empty)) fun a=>a=0) (h3:OkL (fun X=>X.I (.call 134 [.str (s.drop p)] Heap.empty)) fun a=>a=0) (h4:OkL (fun X=>X.I (.call 139 [.str (s.drop p)] Heap.empty)) fun a=>a=0) (h5:OkL (fun X=>X.I (.call 140 [.str (s.drop p)] Heap.empty)) fun a=>a=0) (hj:OkL (fun X=>X.I (.call 141 [.str (s.drop p)] Heap.empty)) fun a=>a=m):IsT (fun X=>X.Lt (yD0 (hx0 s p i e))) ⟨6,(s.drop p).take m.toNat,s,p,true,0,0,[],false,e⟩:=by
 refine .mk (fun _=>rfl) rfl (Tk.byL (.of (fun m=>KA0 (XL m) _ none some s p e i) ?_))
 refine Rn.need ⟨by omega,by omega⟩ ?_
 refine Rn.need (by omega) (Rn.got h0 (Rn.decF (by omega) ?_))
 refine Rn.need (by omega) (Rn.need (by omega) (Rn.got h1 (Rn.decF (by omega) ?_)))
 refine Rn.need (by omega) (Rn.need (by omega) (Rn.got h2 (Rn.decF (by omega) ?_)))
 refine Rn.need (by omega) (Rn.need (by omega) (Rn.got h3 (Rn.decF (by omega) ?_)))
 refine Rn.need (by omega) (Rn.need (by omega) (Rn.got h4 (Rn.decF (by omega) ?_)))
 refine Rn.need (by omega) (Rn.need (by omega) (Rn.got h5 (Rn.decF (by omega) ?_)))
 refine Rn.need (by omega) (Rn.need (by omega) (Rn.got hj (Rn.decT hm.1 (Rn.need ⟨by omega,hm.2⟩ (Rn.need rfl (Rn.need ⟨by omega,hm.2⟩ (Rn.need rfl (Rn.need rfl (Rn.need rfl (Rn.need rfl (Rn.need rfl ?_)))))))))))
 exact Rn.ret rfl
theorem o1_6 (v n:Nat) (o:List V) (hg:GndR o) (hn:(n:Int)≤1000000000000) (hm:0<m∧m≤(s.drop p).length) (h0:OkL (fun X=>X.I (.call 129 [.str (s.drop p)] Heap.empty)) fun a=>a=0) (h1:OkL (fun X=>X.I (.call 132 [.str (s.drop p)] Heap.empty)) fun a=>a=0) (h2:OkL (fun X=>X.I (.call 133 [.str (s.drop p)] Heap.empty)) fun a=>a=0) (h3:OkL (fun X=>X.I (.call 134 [.str (s.drop p)] Heap.empty)) fun a=>a=0) (h4:OkL (fun X=>X.I (.call 139 [.str (s.drop p)] Heap.empty)) fun a=>a=0) (h5:OkL (fun X=>X.I (.call 140 [.str (s.drop p)] Heap.empty)) fun a=>a=0) (hj:OkL (fun X=>X.I (.call 141 [.str (s.drop p)] Heap.empty)) fun a=>a=m):IsT (fun X=>X.Lt (yD0 (hx1 s p i e v n o))) ⟨6,(s.drop p).take m.toNat,s,p,false,v,n,o,false,e⟩:=by
 refine .mk (fun _=>rfl) rfl (Tk.byL (.of (fun m=>Yf0 (XL m) _ none some s p e i v n o) ?_))
 refine Rn.need ⟨by omega,by omega⟩ ?_
 refine Rn.need (by omega) (Rn.got h0 (Rn.decF (by omega) ?_))
 refine Rn.need (by omega) (Rn.need hg (Rn.need (by omega) (Rn.got h1 (Rn.decF (by omega) ?_))))
 refine Rn.need (by omega) (Rn.need hg (Rn.need (by omega) (Rn.got h2 (Rn.decF (by omega) ?_))))
 refine Rn.need (by omega) (Rn.need hg (Rn.need (by omega) (Rn.got h3 (Rn.decF (by omega) ?_))))
 refine Rn.need (by omega) (Rn.need hg (Rn.need (by omega) (Rn.got h4 (Rn.decF (by omega) ?_))))
 refine Rn.need (by omega) (Rn.need hg (Rn.need (by omega) (Rn.got h5 (Rn.decF (by omega) ?_))))
 refine Rn.need (by omega) (Rn.need hg (Rn.need (by omega) (Rn.got hj (Rn.decT hm.1 (Rn.need ⟨by omega,hm.2⟩ (Rn.need rfl (Rn.need ⟨by omega,hm.2⟩ (Rn.need rfl (Rn.need rfl (Rn.need rfl (Rn.need rfl (Rn.need rfl ?_))))))))))))
 refine Rn.jo (Rn.dec (fun _=>Rn.need hg (Rn.need hg (Rn.ret rfl))) (fun _=>Rn.nI (by omega) (Rn.need (by omega) (Rn.need hg (Rn.need hg (Rn.ret rfl))))))
theorem o0_7 (hm:0<m∧m≤(s.drop p).length) (h0:OkL (fun X=>X.I (.call 129 [.str (s.drop p)] Heap.empty)) fun a=>a=0) (h1:OkL (fun X=>X.I (.call 132 [.str (s.drop p)] Heap.empty)) fun a=>a=0) (h2:OkL (fun X=>X.I (.call 133 [.str (s.drop p)] Heap.empty)) fun a=>a=0) (h3:OkL (fun X=>X.I (.call 134 [.str (s.drop p)] Heap.empty)) fun a=>a=0) (h4:OkL (fun X=>X.I (.call 139 [.str (s.drop p)] Heap.empty)) fun a=>a=0) (h5:OkL (fun X=>X.I (.call 140 [.str (s.drop p)] Heap.empty)) fun a=>a=0) (h6:OkL (fun X=>X.I (.call 141 [.str (s.drop p)] Heap.empty)) fun a=>a=0) (hj:OkL (fun X=>X.I (.call 142 [.str (s.drop p)] Heap.empty)) fun a=>a=m):IsT (fun X=>X.Lt (yD0 (hx0 s p i e))) ⟨7,(s.drop p).take m.toNat,s,p,true,0,0,[],true,e⟩:=by
 refine .mk (fun _=>rfl) rfl (Tk.byL (.of (fun m=>KA0 (XL m) _ none some s p e i) ?_))
 refine Rn.need ⟨by omega,by omega⟩ ?_
 refine Rn.need (by omega) (Rn.got h0 (Rn.decF (by omega) ?_))
 refine Rn.need (by omega) (Rn.need (by omega) (Rn.got h1 (Rn.decF (by omega) ?_)))
 refine Rn.need (by omega) (Rn.need (by omega) (Rn.got h2 (Rn.decF (by omega) ?_)))
 refine Rn.need (by omega) (Rn.need (by omega) (Rn.got h3 (Rn.decF (by omega) ?_)))
 refine Rn.need (by omega) (Rn.need (by omega) (Rn.got h4 (Rn.decF (by omega) ?_)))
 refine Rn.need (by omega) (Rn.need (by omega) (Rn.got h5 (Rn.decF (by omega) ?_)))
 refine Rn.need (by omega) (Rn.need (by omega) (Rn.got h6 (Rn.decF (by omega) ?_)))
 refine Rn.need (by omega) (Rn.need (by omega) (Rn.got hj (Rn.decT hm.1 (Rn.need ⟨by omega,hm.2⟩ (Rn.need rfl (Rn.need ⟨by omega,hm.2⟩ (Rn.need rfl (Rn.need rfl (Rn.need rfl (Rn.need rfl (Rn.need rfl ?_)))))))))))
 exact Rn.ret rfl
theorem o1_7 (v n:Nat) (o:List V) (hg:GndR o) (hn:(n:Int)≤1000000000000) (hm:0<m∧m≤(s.drop p).length) (h0:OkL (fun X=>X.I (.call 129 [.str (s.drop p)] Heap.empty)) fun a=>a=0) (h1:OkL (fun X=>X.I (.call 132 [.str (s.drop p)] Heap.empty)) fun a=>a=0) (h2:OkL (fun X=>X.I (.call 133 [.str (s.drop p)] Heap.empty)) fun a=>a=0) (h3:OkL (fun X=>X.I (.call 134 [.str (s.drop p)] Heap.empty)) fun a=>a=0) (h4:OkL (fun X=>X.I (.call 139 [.str (s.drop p)] Heap.empty)) fun a=>a=0) (h5:OkL (fun X=>X.I (.call 140 [.str (s.drop p)] Heap.empty)) fun a=>a=0) (h6:OkL (fun X=>X.I (.call 141 [.str (s.drop p)] Heap.empty)) fun a=>a=0) (hj:OkL (fun X=>X.I (.call 142 [.str (s.drop p)] Heap.empty)) fun a=>a=m):IsT (fun X=>X.Lt (yD0 (hx1 s p i e v n o))) ⟨7,(s.drop p).take m.toNat,s,p,false,v,n,o,true,e⟩:=by
 refine .mk (fun _=>rfl) rfl (Tk.byL (.of (fun m=>Yf0 (XL m) _ none some s p e i v n o) ?_))
 refine Rn.need ⟨by omega,by omega⟩ ?_
 refine Rn.need (by omega) (Rn.got h0 (Rn.decF (by omega) ?_))
 refine Rn.need (by omega) (Rn.need hg (Rn.need (by omega) (Rn.got h1 (Rn.decF (by omega) ?_))))
 refine Rn.need (by omega) (Rn.need hg (Rn.need (by omega) (Rn.got h2 (Rn.decF (by omega) ?_))))
 refine Rn.need (by omega) (Rn.need hg (Rn.need (by omega) (Rn.got h3 (Rn.decF (by omega) ?_))))
 refine Rn.need (by omega) (Rn.need hg (Rn.need (by omega) (Rn.got h4 (Rn.decF (by omega) ?_))))
 refine Rn.need (by omega) (Rn.need hg (Rn.need (by omega) (Rn.got h5 (Rn.decF (by omega) ?_))))
 refine Rn.need (by omega) (Rn.need hg (Rn.need (by omega) (Rn.got h6 (Rn.decF (by omega) ?_))))
 refine Rn.need (by omega) (Rn.need hg (Rn.need (by omega) (Rn.got hj (Rn.decT hm.1 (Rn.need ⟨by omega,hm.2⟩ (Rn.need rfl (Rn.need ⟨by omega,hm.2⟩ (Rn.need rfl (Rn.need rfl (Rn.need rfl (Rn.need rfl (Rn.need rfl ?_))))))))))))
 refine Rn.jo (Rn.dec (fun _=>Rn.need hg (Rn.need hg (Rn.ret rfl))) (fun _=>Rn.nI (by omega) (Rn.need (by omega) (Rn.need hg (Rn.need hg (Rn.ret rfl))))))
theorem o0_13 (hm:0<m∧m≤(s.drop p).length) (h0:OkL (fun X=>X.I (.call 129 [.str (s.drop p)] Heap.empty)) fun a=>a=0) (h1:OkL (fun X=>X.I (.call 132 [.str (s.drop p)] Heap.empty)) fun a=>a=0) (h2:OkL (fun X=>X.I (.call 133 [.str (s.drop p)] Heap.empty)) fun a=>a=0) (h3:OkL (fun X=>X.I (.call 134 [.str (s.drop p)] Heap.empty)) fun a=>a=0) (h4:OkL (fun X=>X.I (.call 139 [.str (s.drop p)] Heap.empty)) fun a=>a=0) (h5:OkL (fun X=>X.I (.call 140 [.str (s.drop p)] Heap.empty)) fun a=>a=0) (h6:OkL (fun X=>X.I (.call 141 [.str (s.drop p)] Heap.empty)) fun a=>a=0) (h7:OkL (fun X=>X.I (.call 142 [.str (s.drop p)] Heap.empty)) fun a=>a=0) (hj:OkL (fun X=>X.I (.call 144 [.str (s.drop p)] Heap.empty)) fun a=>a=m):IsT (fun X=>X.Lt (yD0 (hx0 s p i e))) ⟨13,(s.drop p).take m.toNat,s,p,true,0,0,[],false,e⟩:=by
 refine .mk (fun _=>rfl) rfl (Tk.byL (.of (fun m=>KA0 (XL m) _ none some s p e i) ?_))
 refine Rn.need ⟨by omega,by omega⟩ ?_
 refine Rn.need (by omega) (Rn.got h0 (Rn.decF (by omega) ?_))
 refine Rn.need (by omega) (Rn.need (by omega) (Rn.got h1 (Rn.decF (by omega) ?_)))
 refine Rn.need (by omega) (Rn.need (by omega) (Rn.got h2 (Rn.decF (by omega) ?_)))
 refine Rn.need (by omega) (Rn.need (by omega) (Rn.got h3 (Rn.decF (by omega) ?_)))
 refine Rn.need (by omega) (Rn.need (by omega) (Rn.got h4 (Rn.decF (by omega) ?_)))
 refine Rn.need (by omega) (Rn.need (by omega) (Rn.got h5 (Rn.decF (by omega) ?_)))
 refine Rn.need (by omega) (Rn.need (by omega) (Rn.got h6 (Rn.decF (by omega) ?_)))
 refine Rn.need (by omega) (Rn.need (by omega) (Rn.got h7 (Rn.decF (by omega) ?_)))
 refine Rn.need (by omega) (Rn.need (by omega) (Rn.got hj (Rn.decT hm.1 (Rn.need ⟨by omega,hm.2⟩ (Rn.need rfl (Rn.need ⟨by omega,hm.2⟩ (Rn.need rfl (Rn.need rfl (Rn.need rfl (Rn.need rfl (Rn.need rfl ?_)))))))))))
 exact Rn.ret rfl
theorem o1_13 (v n:Nat) (o:List V) (hg:GndR o) (hn:(n:Int)≤1000000000000) (hw:n=0∨((s.drop p).take m.toNat≠[40]∧(s.drop p).take m.toNat≠[41])) (hm:0<m∧m≤(s.drop p).length) (h0:OkL (fun X=>X.I (.call 129 [.str (s.drop p)] Heap.empty)) fun a=>a=0) (h1:OkL (fun X=>X.I (.call 132 [.str (s.drop p)] Heap.empty)) fun a=>a=0) (h2:OkL (fun X=>X.I (.call 133 [.str (s.drop p)] Heap.empty)) fun a=>a=0) (h3:OkL (fun X=>X.I (.call 134 [.str (s.drop p)] Heap.empty)) fun a=>a=0) (h4:OkL (fun X=>X.I (.call 139 [.str (s.drop p)] Heap.empty)) fun a=>a=0) (h5:OkL (fun X=>X.I (.call 140 [.str (s.drop p)] Heap.empty)) fun a=>a=0) (h6:OkL (fun X=>X.I (.call 141 [.str (s.drop p)] Heap.empty)) fun a=>a=0) (h7:OkL (fun X=>X.I (.call 142 [.str (s.drop p)] Heap.empty)) fun a=>a=0) (hj:OkL (fun X=>X.I (.call 144 [.str (s.drop p)] Heap.empty)) fun a=>a=m):IsT (fun X=>X.Lt (yD0 (hx1 s p i e v n o))) ⟨13,(s.drop p).take m.toNat,s,p,false,v,n,o,false,e⟩:=by
 refine .mk (fun _=>rfl) rfl (Tk.byL (.of (fun m=>Yf0 (XL m) _ none some s p e i v n o) ?_))
 refine Rn.need ⟨by omega,by omega⟩ ?_
 refine Rn.need (by omega) (Rn.got h0 (Rn.decF (by omega) ?_))
 refine Rn.need (by omega) (Rn.need hg (Rn.need (by omega) (Rn.got h1 (Rn.decF (by omega) ?_))))
 refine Rn.need (by omega) (Rn.need hg (Rn.need (by omega) (Rn.got h2 (Rn.decF (by omega) ?_))))
 refine Rn.need (by omega) (Rn.need hg (Rn.need (by omega) (Rn.got h3 (Rn.decF (by omega) ?_))))
 refine Rn.need (by omega) (Rn.need hg (Rn.need (by omega) (Rn.got h4 (Rn.decF (by omega) ?_))))
 refine Rn.need (by omega) (Rn.need hg (Rn.need (by omega) (Rn.got h5 (Rn.decF (by omega) ?_))))
 refine Rn.need (by omega) (Rn.need hg (Rn.need (by omega) (Rn.got h6 (Rn.decF (by omega) ?_))))
 refine Rn.need (by omega) (Rn.need hg (Rn.need (by omega) (Rn.got h7 (Rn.decF (by omega) ?_))))
 refine Rn.need (by omega) (Rn.need hg (Rn.need (by omega) (Rn.got hj (Rn.decT hm.1 (Rn.need ⟨by omega,hm.2⟩ (Rn.need rfl (Rn.need ⟨by omega,hm.2⟩ (Rn.need rfl (Rn.need rfl (Rn.need rfl (Rn.need rfl (Rn.need rfl ?_))))))))))))
 refine Rn.jo (Rn.dec (fun _=>Rn.need hg (Rn.need hg (Rn.ret rfl))) (fun h0=>Rn.nI (by omega) (Rn.need (by omega) ?_)))
 rcases hw with hw | ⟨w1,w2⟩
 ·exact absurd (by omega) h0
 exact Rn.decF w1 (Rn.jo (Rn.decF w2 (Rn.decF w2 (Rn.need hg (Rn.need hg (Rn.ret rfl))))))
theorem o1_inc (v n:Nat) (o:List V) (hg:GndR o) (hg2:∀ y,GndR (o.set (0+((n:Int)-1).toNat) (.int .i64 y))) (hn:(n:Int)≤1000000000000) (n0:1≤n) (z:Int) (hz:o[0+((n:Int)-1).toNat]?=some (.int .i64 z)) (hz0:0≤z∧z≤1000000000000) (hw:(s.drop p).take m.toNat=[40]) (hm:0<m∧m≤(s.drop p).length) (h0:OkL (fun X=>X.I (.call 129 [.str (s.drop p)] Heap.empty)) fun a=>a=0) (h1:OkL (fun X=>X.I (.call 132 [.str (s.drop p)] Heap.empty)) fun a=>a=0) (h2:OkL (fun X=>X.I (.call 133 [.str (s.drop p)] Heap.empty)) fun a=>a=0) (h3:OkL (fun X=>X.I (.call 134 [.str (s.drop p)] Heap.empty)) fun a=>a=0) (h4:OkL (fun X=>X.I (.call 139 [.str (s.drop p)] Heap.empty)) fun a=>a=0) (h5:OkL (fun X=>X.I (.call 140 [.str (s.drop p)] Heap.empty)) fun a=>a=0) (h6:OkL (fun X=>X.I (.call 141 [.str (s.drop p)] Heap.empty)) fun a=>a=0) (h7:OkL (fun X=>X.I (.call 142 [.str (s.drop p)] Heap.empty)) fun a=>a=0) (hj:OkL (fun X=>X.I (.call 144 [.str (s.drop p)] Heap.empty)) fun a=>a=m):IsT (fun X=>X.Lt (yD0 (hx1 s p i e v n o))) ⟨13,(s.drop p).take m.toNat,s,p,false,v,n,o.set (0+((n:Int)-1).toNat) (.int .i64 (z+1)),false,e⟩:=by
 refine .mk (fun _=>rfl) rfl (Tk.byL (.of (fun m=>Yf0 (XL m) _ none some s p e i v n o) ?_))
 refine Rn.need ⟨by omega,by omega⟩ ?_
 refine Rn.need (by omega) (Rn.got h0 (Rn.decF (by omega) ?_))
 refine Rn.need (by omega) (Rn.need hg (Rn.need (by omega) (Rn.got h1 (Rn.decF (by omega) ?_))))
 refine Rn.need (by omega) (Rn.need hg (Rn.need (by omega) (Rn.got h2 (Rn.decF (by omega) ?_))))
 refine Rn.need (by omega) (Rn.need hg (Rn.need (by omega) (Rn.got h3 (Rn.decF (by omega) ?_))))
 refine Rn.need (by omega) (Rn.need hg (Rn.need (by omega) (Rn.got h4 (Rn.decF (by omega) ?_))))
 refine Rn.need (by omega) (Rn.need hg (Rn.need (by omega) (Rn.got h5 (Rn.decF (by omega) ?_))))
 refine Rn.need (by omega) (Rn.need hg (Rn.need (by omega) (Rn.got h6 (Rn.decF (by omega) ?_))))
 refine Rn.need (by omega) (Rn.need hg (Rn.need (by omega) (Rn.got h7 (Rn.decF (by omega) ?_))))
 refine Rn.need (by omega) (Rn.need hg (Rn.need (by omega) (Rn.got hj (Rn.decT hm.1 (Rn.need ⟨by omega,hm.2⟩ (Rn.need rfl (Rn.need ⟨by omega,hm.2⟩ (Rn.need rfl (Rn.need rfl (Rn.need rfl (Rn.need rfl (Rn.need rfl ?_))))))))))))
 refine Rn.jo (Rn.decF (by omega) (Rn.nI (by omega) (Rn.need (by omega) ?_)))
 obtain ⟨g1,_,g3⟩:=zy1 hz
 rw [g3,JI0 hz,JI0 hz]
 exact Rn.decT hw (Rn.need ⟨rfl,g1⟩ (Rn.nI (by omega) (Rn.need rfl (Rn.need (stX_i hz) (Rn.need (hg2 _) (Rn.need (hg2 _) (Rn.ret rfl)))))))
theorem o1_dec (v n:Nat) (o:List V) (hg:GndR o) (hg2:∀ y,GndR (o.set (0+((n:Int)-1).toNat) (.int .i64 y))) (hn:(n:Int)≤1000000000000) (n0:1≤n) (z:Int) (hz:o[0+((n:Int)-1).toNat]?=some (.int .i64 z)) (hz0:0≤z∧z≤1000000000000) (hz1:0<z) (hw:(s.drop p).take m.toNat=[41]) (hm:0<m∧m≤(s.drop p).length) (h0:OkL (fun X=>X.I (.call 129 [.str (s.drop p)] Heap.empty)) fun a=>a=0) (h1:OkL (fun X=>X.I (.call 132 [.str (s.drop p)] Heap.empty)) fun a=>a=0) (h2:OkL (fun X=>X.I (.call 133 [.str (s.drop p)] Heap.empty)) fun a=>a=0) (h3:OkL (fun X=>X.I (.call 134 [.str (s.drop p)] Heap.empty)) fun a=>a=0) (h4:OkL (fun X=>X.I (.call 139 [.str (s.drop p)] Heap.empty)) fun a=>a=0) (h5:OkL (fun X=>X.I (.call 140 [.str (s.drop p)] Heap.empty)) fun a=>a=0) (h6:OkL (fun X=>X.I (.call 141 [.str (s.drop p)] Heap.empty)) fun a=>a=0) (h7:OkL (fun X=>X.I (.call 142 [.str (s.drop p)] Heap.empty)) fun a=>a=0) (hj:OkL (fun X=>X.I (.call 144 [.str (s.drop p)] Heap.empty)) fun a=>a=m):IsT (fun X=>X.Lt (yD0 (hx1 s p i e v n o))) ⟨13,(s.drop p).take m.toNat,s,p,false,v,n,o.set (0+((n:Int)-1).toNat) (.int .i64 (z-1)),false,e⟩:=by
 refine .mk (fun _=>rfl) rfl (Tk.byL (.of (fun m=>Yf0 (XL m) _ none some s p e i v n o) ?_))
 refine Rn.need ⟨by omega,by omega⟩ ?_
 refine Rn.need (by omega) (Rn.got h0 (Rn.decF (by omega) ?_))
 refine Rn.need (by omega) (Rn.need hg (Rn.need (by omega) (Rn.got h1 (Rn.decF (by omega) ?_))))
 refine Rn.need (by omega) (Rn.need hg (Rn.need (by omega) (Rn.got h2 (Rn.decF (by omega) ?_))))
 refine Rn.need (by omega) (Rn.need hg (Rn.need (by omega) (Rn.got h3 (Rn.decF (by omega) ?_))))
 refine Rn.need (by omega) (Rn.need hg (Rn.need (by omega) (Rn.got h4 (Rn.decF (by omega) ?_))))
 refine Rn.need (by omega) (Rn.need hg (Rn.need (by omega) (Rn.got h5 (Rn.decF (by omega) ?_))))
 refine Rn.need (by omega) (Rn.need hg (Rn.need (by omega) (Rn.got h6 (Rn.decF (by omega) ?_))))
 refine Rn.need (by omega) (Rn.need hg (Rn.need (by omega) (Rn.got h7 (Rn.decF (by omega) ?_))))
 refine Rn.need (by omega) (Rn.need hg (Rn.need (by omega) (Rn.got hj (Rn.decT hm.1 (Rn.need ⟨by omega,hm.2⟩ (Rn.need rfl (Rn.need ⟨by omega,hm.2⟩ (Rn.need rfl (Rn.need rfl (Rn.need rfl (Rn.need rfl (Rn.need rfl ?_))))))))))))
 refine Rn.jo (Rn.decF (by omega) (Rn.nI (by omega) (Rn.need (by omega) ?_)))
 obtain ⟨g1,_,g3⟩:=zy1 hz
 rw [g3,JI0 hz,JI0 hz]
 exact Rn.decF (fun q=>by have q:([41]:List UInt8)=[40]:=hw.symm.trans q;injection q with q _;revert q;decide) (Rn.jo (Rn.decT hw (Rn.need ⟨rfl,g1⟩ (Rn.decT hz1 (Rn.need ⟨rfl,g1⟩ (Rn.nI (by omega) (Rn.need rfl (Rn.need (stX_i hz) (Rn.need (hg2 _) (Rn.need (hg2 _) (Rn.ret rfl)))))))))))
theorem o1_pop (v n:Nat) (o:List V) (hg:GndR o) (hg2:∀ y,GndR (o.set (0+((n:Int)-1).toNat) (.int .i64 y))) (hn:(n:Int)≤1000000000000) (n0:1≤n) (z:Int) (hz:o[0+((n:Int)-1).toNat]?=some (.int .i64 z)) (hz0:0≤z∧z≤1000000000000) (hz1:z=0) (hw:(s.drop p).take m.toNat=[41]) (hm:0<m∧m≤(s.drop p).length) (h0:OkL (fun X=>X.I (.call 129 [.str (s.drop p)] Heap.empty)) fun a=>a=0) (h1:OkL (fun X=>X.I (.call 132 [.str (s.drop p)] Heap.empty)) fun a=>a=0) (h2:OkL (fun X=>X.I (.call 133 [.str (s.drop p)] Heap.empty)) fun a=>a=0) (h3:OkL (fun X=>X.I (.call 134 [.str (s.drop p)] Heap.empty)) fun a=>a=0) (h4:OkL (fun X=>X.I (.call 139 [.str (s.drop p)] Heap.empty)) fun a=>a=0) (h5:OkL (fun X=>X.I (.call 140 [.str (s.drop p)] Heap.empty)) fun a=>a=0) (h6:OkL (fun X=>X.I (.call 141 [.str (s.drop p)] Heap.empty)) fun a=>a=0) (h7:OkL (fun X=>X.I (.call 142 [.str (s.drop p)] Heap.empty)) fun a=>a=0) (hj:OkL (fun X=>X.I (.call 144 [.str (s.drop p)] Heap.empty)) fun a=>a=m):IsT (fun X=>X.Lt (yD0 (hx1 s p i e v n o))) ⟨10,(s.drop p).take m.toNat,s,p,false,v,((n:Int)-1).toNat,o,true,e⟩:=by
 refine .mk (fun _=>rfl) rfl (Tk.byL (.of (fun m=>Yf0 (XL m) _ none some s p e i v n o) ?_))
 refine Rn.need ⟨by omega,by omega⟩ ?_
 refine Rn.need (by omega) (Rn.got h0 (Rn.decF (by omega) ?_))
 refine Rn.need (by omega) (Rn.need hg (Rn.need (by omega) (Rn.got h1 (Rn.decF (by omega) ?_))))
 refine Rn.need (by omega) (Rn.need hg (Rn.need (by omega) (Rn.got h2 (Rn.decF (by omega) ?_))))
 refine Rn.need (by omega) (Rn.need hg (Rn.need (by omega) (Rn.got h3 (Rn.decF (by omega) ?_))))
 refine Rn.need (by omega) (Rn.need hg (Rn.need (by omega) (Rn.got h4 (Rn.decF (by omega) ?_))))
 refine Rn.need (by omega) (Rn.need hg (Rn.need (by omega) (Rn.got h5 (Rn.decF (by omega) ?_))))
 refine Rn.need (by omega) (Rn.need hg (Rn.need (by omega) (Rn.got h6 (Rn.decF (by omega) ?_))))
 refine Rn.need (by omega) (Rn.need hg (Rn.need (by omega) (Rn.got h7 (Rn.decF (by omega) ?_))))
 refine Rn.need (by omega) (Rn.need hg (Rn.need (by omega) (Rn.got hj (Rn.decT hm.1 (Rn.need ⟨by omega,hm.2⟩ (Rn.need rfl (Rn.need ⟨by omega,hm.2⟩ (Rn.need rfl (Rn.need rfl (Rn.need rfl (Rn.need rfl (Rn.need rfl ?_))))))))))))
 refine Rn.jo (Rn.decF (by omega) (Rn.nI (by omega) (Rn.need (by omega) ?_)))
 obtain ⟨g1,_,g3⟩:=zy1 hz
 rw [g3,JI0 hz,JI0 hz]
 exact Rn.decF (fun q=>by have q:([41]:List UInt8)=[40]:=hw.symm.trans q;injection q with q _;revert q;decide) (Rn.jo (Rn.decT hw (Rn.need ⟨rfl,g1⟩ (Rn.decF (by omega) (Rn.decT hw (Rn.nI (by omega) (Rn.need (by omega) (Rn.need hg (Rn.need hg (Rn.ret rfl))))))))))
end o
/-- WITHIN A STRING. -/
theorem JG1 (r:List UInt8) (hs:(92::r:List UInt8).length≤1000000000000):OkL (fun X=>X.I (.call 178 [.str (92::r),.str [34,92]] Heap.empty)) fun a=>a=0:=by
 refine .int (Tk.byL (.of (fun m=>Kp1 (XL m) _ none some r) ?_))
 refine Rn.dec (fun _=>Rn.need (by omega) (Rn.need (by omega) (Rn.need (by omega) (Rn.need (by omega) (Rn.decT (zk0 _ _) (Rn.nX ⟨by omega,zk0 _ _⟩ (Rn.ret rfl))))))) (fun _=>Rn.need (by omega) (Rn.ret rfl))
theorem JF1 (r:List UInt8) (hs:(34::r:List UInt8).length≤1000000000000):OkL (fun X=>X.I (.call 178 [.str (34::r),.str [34,92]] Heap.empty)) fun a=>a=0:=by
 refine .int (Tk.byL (.of (fun m=>Ko1 (XL m) _ none some r) ?_))
 refine Rn.dec (fun _=>Rn.need (by omega) (Rn.need (by omega) (Rn.need (by omega) (Rn.need (by omega) (Rn.decT (zk0 _ _) (Rn.nX ⟨by omega,zk0 _ _⟩ (Rn.ret rfl))))))) (fun _=>Rn.need (by omega) (Rn.ret rfl))
theorem JK1 (r:List UInt8):OkL (fun X=>X.I (.call 179 [.str (34::r)] Heap.empty)) fun a=>a=0 :=
 .int (Tk.byL (.of (fun m=>jC1 (XL m) _ none some (34::r)) (Rn.dec (fun _=>Rn.ret rfl) (fun _=>Rn.nX ⟨by omega,zk0 _ _⟩ (Rn.ndecT (show ¬ ((34:Int)=92) by decide) (Rn.ret rfl))))))
theorem JL1 (r:List UInt8):OkL (fun X=>X.I (.call 179 [.str (92::40::r)] Heap.empty)) fun a=>a=0:=by
 refine .int (Tk.byL (.of (fun m=>jC1 (XL m) _ none some (92::40::r)) ?_))
 have hl:(1:Int)<((92::40::r:List UInt8).length:Int):=by simp only [List.length_cons];omega
 refine Rn.dec (fun _=>Rn.ret rfl) (fun _=>Rn.nX ⟨by omega,zk0 _ _⟩ (Rn.ndecF rfl (Rn.nX ⟨by omega,hl⟩ (Rn.decF (show ¬ (0≤QP0 (UInt8.ofNat (Int.toNat (((40:UInt8).toNat:Nat):Int))) [34,92,47,98,102,110,114,116] 0) by decide) (Rn.nX ⟨by omega,hl⟩ (Rn.decF (show ¬ ((40:Int)=117) by decide) (Rn.ret rfl)))))))
noncomputable def mJ2 (r:Res):Bool×List UInt8×Int×Int:=(match r with
 | .code .ret _ _=>false
 | _=>true,uS (slL r 0),uI (slL r 3),uI (slL r 2))
def nJ2L (a:Bool×List UInt8×Int×Int):Bool×List UInt8×Int×Int:=(a.1,a.2.1,a.2.2.1,bif a.1 then 0 else a.2.2.2)
theorem ji1 (u:List UInt8) (hs:u.length≤1000000000000) (hu:u≠[]) (ha:OkL (fun X=>X.I (.call 178 [.str u,.str [34,92]] Heap.empty)) fun a=>a=0) (he:OkL (fun X=>X.I (.call 179 [.str u] Heap.empty)) fun a=>a=0):OkL (fun X=>X.I (.call 145 [.str u] Heap.empty)) fun a=>a=0:=by
 have hl:=List.length_pos_iff.2 hu
 have h1:OkL (fun X=>X.J2 (.code (.loop (lpB PP 145 0)) ((base 145 31).on [(0,.str u),(3,.int .i64 0)]) Heap.empty)) fun a=>a=(false,u,0,0):=by
  refine .nrm (R:=fun a=>rJ2 (base 145 31) a.1 a) (L:=mJ2) (N:=nJ2L) (fun _=>rfl) (fun ⟨b,w,n,r⟩=>by cases b <;> kernel_rfl) (fun ⟨b,w,n,r⟩ h=>by cases b <;> first | exact h | cases h) (Tk.byL (.of (fun m=>KB1 (XL m) _ none some u 0) ?_))
  exact Rn.decT (by omega) (Rn.need (by omega) (Rn.got ha (Rn.decF (by omega) (Rn.nI (by omega) (Rn.need (by omega) (Rn.got he (Rn.decT rfl (Rn.ret ⟨(false,u,0,0),rfl,rfl⟩))))))))
 exact .int (Tk.byL (.of (fun m=>KA1 (XL m) _ none some u) (Rn.got h1 (Rn.ret rfl))))
section i
variable (s:List UInt8) (p:Nat) (hP:p≤s.length) (hS:s.length≤1000000000000) (e:Int)
noncomputable abbrev insT (x:Heap):Task:=.call 96 [.ptr 0 0 0] x
theorem jj1 {r:List UInt8} (hu:s.drop p=34::r) (hS:s.length≤1000000000000):OkL (fun X=>X.I (.call 145 [.str (s.drop p)] Heap.empty)) fun a=>a=0:=by
 have hl:(34::r:List UInt8).length≤1000000000000:=by rw [← hu,List.length_drop];omega
 rw [hu]
 exact ji1 _ hl (by intro h;cases h) (JF1 r hl) (JK1 r)
theorem qq1 {r:List UInt8} (hu:s.drop p=92::40::r) (hS:s.length≤1000000000000):OkL (fun X=>X.I (.call 145 [.str (s.drop p)] Heap.empty)) fun a=>a=0:=by
 have hl:(92::40::r:List UInt8).length≤1000000000000:=by rw [← hu,List.length_drop];omega
 rw [hu]
 exact ji1 _ hl (by intro h;cases h) (JG1 _ hl) (JL1 r)
theorem qr1 {r:List UInt8} (hu:s.drop p=92::40::r):OkL (fun X=>X.O (.call 92 [.str (s.drop p),.str [92,40]] Heap.empty)) fun a=>a=true:=by
 rw [hu]
 exact .bool (Tk.byL (.of (fun m=>qN1 (XL m) _ none some (92::40::r) [92,40]) (Rn.decT (by simp only [List.length_cons,List.length_nil];omega) (Rn.need (by simp only [List.length_cons,List.length_nil];omega) (Rn.decT rfl (Rn.ret rfl))))))
 include hP hS
theorem i0_end {r:List UInt8} (hu:s.drop p=34::r):IsT (fun X=>X.Lt (insT (hx0 s p true e))) ⟨11,(s.drop p).take 1,s,p,true,0,0,[],false,e⟩:=by
 refine .mk (fun _=>rfl) rfl (Tk.byL (.of (fun m=>jD1 (XL m) _ none some s p e true) ?_))
 have hl:1≤(s.drop p).length:=by rw [hu,List.length_cons];omega
 have hb:qO0 (s.drop p) 0=34:=by rw [hu];rfl
 exact Rn.need ⟨by omega,by omega⟩ (Rn.got (jj1 s p hu hS) (Rn.decF (by omega) (Rn.nX (m:=(s.drop p).length) (by omega) (Rn.decT hb (Rn.need (show (0:Int)≤1∧(1:Int)≤((s.drop p).length:Int) by omega) (Rn.ret rfl))))))
theorem i1_end {r:List UInt8} (v n:Nat) (o:List V) (hg:GndR o) (hu:s.drop p=34::r):IsT (fun X=>X.Lt (insT (hx1 s p true e v n o))) ⟨11,(s.drop p).take 1,s,p,false,v,n,o,false,e⟩:=by
 refine .mk (fun _=>rfl) rfl (Tk.byL (.of (fun m=>qM1 (XL m) _ none some s p e true v n o) ?_))
 have hl:1≤(s.drop p).length:=by rw [hu,List.length_cons];omega
 have hb:qO0 (s.drop p) 0=34:=by rw [hu];rfl
 exact Rn.need ⟨by omega,by omega⟩ (Rn.got (jj1 s p hu hS) (Rn.decF (by omega) (Rn.nX (m:=(s.drop p).length) (by omega) (Rn.decT hb (Rn.need (show (0:Int)≤1∧(1:Int)≤((s.drop p).length:Int) by omega) (Rn.need hg (Rn.ret rfl)))))))
theorem GG1 {r:List UInt8} (hu:s.drop p=92::40::r):IsT (fun X=>X.Lt (insT (hx0 s p true e))) ⟨9,(s.drop p).take 2,s,p,false,0,1,[.int .i64 0],false,e⟩:=by
 refine .mk (fun _=>rfl) rfl (Tk.byL (.of (fun m=>jD1 (XL m) _ none some s p e true) ?_))
 have hl:2≤(s.drop p).length:=by rw [hu,List.length_cons,List.length_cons];omega
 have hb:¬ (qO0 (s.drop p) 0=34):=by rw [hu];show ¬ ((92:Int)=34);decide
 exact Rn.need ⟨by omega,by omega⟩ (Rn.got (qq1 s p hu hS) (Rn.decF (by omega) (Rn.nX (m:=(s.drop p).length) (by omega) (Rn.decF hb (Rn.got (qr1 s p hu) (Rn.ct (Rn.need ⟨(by intro h;cases h),by omega,by omega⟩ (Rn.need (show (0:Int)≤2∧(2:Int)≤((s.drop p).length:Int) by omega) (Rn.need (Jc0 [0]) (Rn.ret rfl))))))))))
theorem GI1 {r:List UInt8} (v n:Nat) (o:List V) (hg:GndR (o++[.int .i64 0])) (hn:n=o.length) (h256:n<256) (hu:s.drop p=92::40::r):IsT (fun X=>X.Lt (insT (hx1 s p true e v n o))) ⟨9,(s.drop p).take 2,s,p,false,v+1,n+1,o++[.int .i64 0],false,e⟩:=by
 refine .mk (fun _=>rfl) rfl (Tk.byL (.of (fun m=>qM1 (XL m) _ none some s p e true v n o) ?_))
 have hl:2≤(s.drop p).length:=by rw [hu,List.length_cons,List.length_cons];omega
 have hb:¬ (qO0 (s.drop p) 0=34):=by rw [hu];show ¬ ((92:Int)=34);decide
 exact Rn.need ⟨by omega,by omega⟩ (Rn.got (qq1 s p hu hS) (Rn.decF (by omega) (Rn.nX (m:=(s.drop p).length) (by omega) (Rn.decF hb (Rn.got (qr1 s p hu) (Rn.ct (Rn.decF (by omega) (Rn.need ⟨rfl,(by intro h;cases h),hn,by omega,by simp only [List.length_cons,List.length_nil];omega,by simp only [List.length_cons,List.length_nil];omega⟩ (Rn.need (show (0:Int)≤2∧(2:Int)≤((s.drop p).length:Int) by omega) (Rn.need hg (Rn.ret rfl)))))))))))
theorem GH1 {r:List UInt8} (v n:Nat) (o:List V) (hg:GndR o) (h256:256≤n) (hu:s.drop p=92::40::r):IsT (fun X=>X.Lt (insT (hx1 s p true e v n o))) ⟨0,[],s,p,false,v,n,o,true,21⟩:=by
 refine .mk (fun _=>rfl) rfl (Tk.byL (.of (fun m=>qM1 (XL m) _ none some s p e true v n o) ?_))
 have hl:2≤(s.drop p).length:=by rw [hu,List.length_cons,List.length_cons];omega
 have hb:¬ (qO0 (s.drop p) 0=34):=by rw [hu];show ¬ ((92:Int)=34);decide
 exact Rn.need ⟨by omega,by omega⟩ (Rn.got (qq1 s p hu hS) (Rn.decF (by omega) (Rn.nX (m:=(s.drop p).length) (by omega) (Rn.decF hb (Rn.got (qr1 s p hu) (Rn.ct (Rn.decT (by omega) (Rn.need hg (Rn.ret rfl)))))))))
end i
/-- THE LEXER's STEPS: what is open, is it in a string; a token, what stands behind it. -/
def txt (ts:List qe0):List UInt8:=ts.flatMap (·.2)
inductive Stp:Bool→List Int→Bool→Bool→qe0→List UInt8→Bool→List Int→Bool→Bool→Prop
 | quote (z:Bool) (cs:List Int) (f:Bool) (r:List UInt8):Stp z cs false f (7,[34]) r z cs true f
 | endq (z:Bool) (cs:List Int) (f:Bool) (r:List UInt8):Stp z cs true f (11,[34]) r z cs false f
 | open0 (f:Bool) (r:List UInt8):Stp true [] true f (9,[92,40]) r false [0] false true
 | open1 (cs:List Int) (r:List UInt8) (h:cs.length<256):Stp false cs true true (9,[92,40]) r false (cs++[0]) false true
 | word (z:Bool) (cs:List Int) (f:Bool) (d:UInt8) (q:List UInt8) (h:d≠58):Stp z cs false f (3,[97]) (58::d::q) z cs false f
 | num (z:Bool) (cs:List Int) (f:Bool) (r:List UInt8) (h:EndB r):Stp z cs false f (6,[49]) r z cs false f
 | op (z:Bool) (cs:List Int) (f:Bool) (c:UInt8) (r:List UInt8) (h:c=91∨c=93∨c=123∨c=125∨c=58):Stp z cs false f (13,[c]) r z cs false f
 | par (z f:Bool) (c:UInt8) (r:List UInt8) (h:c=40∨c=41):Stp z [] false f (13,[c]) r z [] false f
 | inc (cs:List Int) (x:Int) (f:Bool) (r:List UInt8):Stp false (cs++[x]) false f (13,[40]) r false (cs++[x+1]) false f
 | dec (cs:List Int) (x:Int) (f:Bool) (r:List UInt8) (h:0<x):Stp false (cs++[x]) false f (13,[41]) r false (cs++[x-1]) false f
 | pop (cs:List Int) (f:Bool) (r:List UInt8):Stp false (cs++[0]) false f (10,[41]) r false cs true false
structure StkR (p:Nat) (z:Bool) (n:Nat) (o:List V) (cs:List Int) (f:Bool):Prop where
 no:z=true→cs=[]
 is:z=false→∃ js,o=(cs++js).map (V.int .i64)∧n=cs.length∧(f=true→js=[])
 len:cs.length≤p
 bd:∀ x,x∈cs→0≤x∧x≤(p:Int)
theorem StkR.gnd {p:Nat} {z:Bool} {n:Nat} {o:List V} {cs:List Int} {f:Bool} (h:StkR p z n o cs f) (hz:z=false):GndR o:=by
 obtain ⟨js,rfl,_⟩:=h.is hz
 exact Jc0 _
theorem StkR.mono {p q:Nat} {z:Bool} {n:Nat} {o:List V} {cs:List Int} {f:Bool} (h:StkR p z n o cs f) (hq:p≤q):StkR q z n o cs f :=
 ⟨h.no,h.is,Nat.le_trans h.len hq,fun x hx=>by have:=h.bd x hx;omega⟩
structure LtP (t:qe0) (s:List UInt8) (p:Nat) (z:Bool) (cs:List Int) (i f:Bool) (a:Lt):Prop where
 fk:a.k=t.1
 fw:a.w=t.2
 fs:a.s=s
 fp:a.a=p
 fz:a.z=z
 fi:a.i=i
 fe:a.e=0
 st:StkR (p+1) z a.n a.l cs f
theorem LtP.of {t:qe0} {s:List UInt8} {p:Nat} {z:Bool} {cs:List Int} {i f:Bool} {a c:Lt} (h:nLt a=c) (hc:LtP t s p z cs i f c):LtP t s p z cs i f a:=by
 obtain ⟨k,w,s',q,z',v,n,l,i',e⟩:=a
 cases z' with
 | false=>subst h;exact hc
 | true =>
  subst h
  refine ⟨hc.fk,hc.fw,hc.fs,hc.fp,hc.fz,hc.fi,hc.fe,⟨hc.st.no,fun h=>?_,hc.st.len,hc.st.bd⟩⟩
  have e:true=z:=hc.fz
  rw [h] at e
  cases e
theorem IsT.to {K:PlX→PR Lt Int} {c:Lt} {t:qe0} {s:List UInt8} {p:Nat} {z:Bool} {cs:List Int} {i f:Bool} (h:IsT K c) (hc:LtP t s p z cs i f c):OkL K (LtP t s p z cs i f):=OkL.weak h fun _ ha=>hc.of ha
noncomputable abbrev hxz (z:Bool) (s:List UInt8) (p:Nat) (i:Bool) (v n:Nat) (o:List V):Heap:=bif z then hx0 s p i 0 else hx1 s p i 0 v n o
noncomputable abbrev nxT (z:Bool) (s:List UInt8) (p:Nat) (i:Bool) (v n:Nat) (o:List V):Task:=bif i then insT (hxz z s p i v n o) else yD0 (hxz z s p i v n o)
theorem yG1 (s:List UInt8) (p:Nat) (c:UInt8) (r:List UInt8) (hu:s.drop p=c::r) (hS:s.length≤1000000000000) (hb:¬ (0≤QP0 (UInt8.ofNat (Int.toNat (c.toNat:Int))) [32,9,10,13] 0)) (h35:¬ ((c.toNat:Int)=35)) (hl:zt0 c=false) (h46:¬ ((c.toNat:Int)=46)) (h36:¬ ((c.toNat:Int)=36)) (h64:¬ ((c.toNat:Int)=64)) :
 OkL (fun X=>X.I (.call 129 [.str (s.drop p)] Heap.empty)) (fun a=>a=0)∧OkL (fun X=>X.I (.call 132 [.str (s.drop p)] Heap.empty)) (fun a=>a=0)∧OkL (fun X=>X.I (.call 133 [.str (s.drop p)] Heap.empty)) (fun a=>a=0)∧OkL (fun X=>X.I (.call 134 [.str (s.drop p)] Heap.empty)) (fun a=>a=0)∧OkL (fun X=>X.I (.call 139 [.str (s.drop p)] Heap.empty)) (fun a=>a=0)∧OkL (fun X=>X.I (.call 140 [.str (s.drop p)] Heap.empty)) (fun a=>a=0):=by
 have hl2:(c::r:List UInt8).length≤1000000000000:=by rw [← hu,List.length_drop];omega
 rw [hu]
 exact ⟨c_t1 c r hb,jg1 c r h35,JN1 c r hl2 hl,c_t2 c r h46,c_t3 c r h36,c_t4 c r h64⟩
theorem ops (s:List UInt8) (p:Nat) (c:UInt8) (r:List UInt8) (hu:s.drop p=c::r) (hS:s.length≤1000000000000) (h:c=40∨c=41∨c=91∨c=93∨c=123∨c=125∨c=58) :
 (OkL (fun X=>X.I (.call 129 [.str (s.drop p)] Heap.empty)) (fun a=>a=0)∧OkL (fun X=>X.I (.call 132 [.str (s.drop p)] Heap.empty)) (fun a=>a=0)∧OkL (fun X=>X.I (.call 133 [.str (s.drop p)] Heap.empty)) (fun a=>a=0)∧OkL (fun X=>X.I (.call 134 [.str (s.drop p)] Heap.empty)) (fun a=>a=0)∧OkL (fun X=>X.I (.call 139 [.str (s.drop p)] Heap.empty)) (fun a=>a=0)∧OkL (fun X=>X.I (.call 140 [.str (s.drop p)] Heap.empty)) (fun a=>a=0))∧OkL (fun X=>X.I (.call 141 [.str (s.drop p)] Heap.empty)) (fun a=>a=0)∧OkL (fun X=>X.I (.call 142 [.str (s.drop p)] Heap.empty)) (fun a=>a=0)∧OkL (fun X=>X.I (.call 144 [.str (s.drop p)] Heap.empty)) (fun a=>a=1):=by
 refine ⟨yG1 s p c r hu hS ?_ ?_ ?_ ?_ ?_ ?_,by rw [hu];exact jh1 c r (by rcases h with rfl | rfl | rfl | rfl | rfl | rfl | rfl <;> decide) (by rcases h with rfl | rfl | rfl | rfl | rfl | rfl | rfl <;> decide),by rw [hu];exact c_q0 c r (by rcases h with rfl | rfl | rfl | rfl | rfl | rfl | rfl <;> decide),by rw [hu];exact c_oper c r h⟩
 all_goals rcases h with rfl | rfl | rfl | rfl | rfl | rfl | rfl <;> decide
theorem zg1 (cs js:List Int) (x:Int):((cs++[x]++js).map (V.int .i64))[0+(((cs++[x]).length:Nat)-(1:Int)).toNat]?=some (.int .i64 x):=by
 have e:0+(((cs++[x]).length:Nat)-(1:Int)).toNat=cs.length:=by rw [List.length_append,List.length_singleton];omega
 rw [e,List.getElem?_map,List.append_assoc,List.getElem?_append_right (Nat.le_refl _),Nat.sub_self]
 rfl
theorem XX0 (cs js:List Int) (x y:Int):((cs++[x]++js).map (V.int .i64)).set (0+(((cs++[x]).length:Nat)-(1:Int)).toNat) (.int .i64 y)=(cs++[y]++js).map (V.int .i64):=by
 have e:0+(((cs++[x]).length:Nat)-(1:Int)).toNat=cs.length:=by rw [List.length_append,List.length_singleton];omega
 rw [e,← List.map_set,List.append_assoc,List.set_append_right _ _ (Nat.le_refl _),Nat.sub_self]
 simp
theorem Yn1 {s:List UInt8} {p:Nat} {z:Bool} {cs:List Int} {i f:Bool} {t:qe0} {r:List UInt8} {z':Bool} {cs':List Int} {i' f':Bool} (h:Stp z cs i f t r z' cs' i' f') (hu:s.drop p=t.2++r) (hP:p≤s.length) (hS:s.length≤65536) (v:Nat) {n:Nat} {o:List V} (hst:StkR p z n o cs f) :
 OkL (fun X=>X.Lt (nxT z s p i v n o)) (LtP t s p z' cs' i' f'):=by
 have hS2:s.length≤1000000000000:=by omega
 have hst1:=hst.mono (Nat.le_succ p)
 have hn:z=false→(n:Int)≤1000000000000:=fun hz=>by obtain ⟨_,_,rfl,_⟩:=hst.is hz;have:=hst.len;omega
 have hlen:((s.drop p).length:Int)=(t.2++r).length:=by rw [hu]
 cases h with
 | quote z cs f r =>
  have hu:s.drop p=34::r:=hu
  obtain ⟨h0,h1,h2,h3,h4,h5⟩:=yG1 s p 34 r hu hS2 (by decide) (by decide) (by decide) (by decide) (by decide) (by decide)
  have h6:OkL (fun X=>X.I (.call 141 [.str (s.drop p)] Heap.empty)) (fun a=>a=0):=by rw [hu];exact jh1 34 r (by decide) (by decide)
  have h7:OkL (fun X=>X.I (.call 142 [.str (s.drop p)] Heap.empty)) (fun a=>a=1):=by rw [hu];exact c_q1 r
  have hw:(s.drop p).take (Int.toNat 1)=[34]:=by rw [hu];rfl
  have hm:(0:Int)<1∧(1:Int)≤((s.drop p).length:Int):=by rw [hu,List.length_cons];omega
  cases z with
  | true=>exact (o0_7 s p hP 0 false 1 hm h0 h1 h2 h3 h4 h5 h6 h7).to ⟨rfl,hw,rfl,rfl,rfl,rfl,rfl,⟨hst.no,(fun h=>by cases h),hst1.len,hst1.bd⟩⟩
  | false=>exact (o1_7 s p hP 0 false 1 v n o (hst.gnd rfl) (hn rfl) hm h0 h1 h2 h3 h4 h5 h6 h7).to ⟨rfl,hw,rfl,rfl,rfl,rfl,rfl,hst1⟩
 | endq z cs f r =>
  have hu:s.drop p=34::r:=hu
  have hw:(s.drop p).take 1=[34]:=by rw [hu];rfl
  cases z with
  | true=>exact (i0_end s p hP hS2 0 hu).to ⟨rfl,hw,rfl,rfl,rfl,rfl,rfl,⟨hst.no,(fun h=>by cases h),hst1.len,hst1.bd⟩⟩
  | false=>exact (i1_end s p hP hS2 0 v n o (hst.gnd rfl) hu).to ⟨rfl,hw,rfl,rfl,rfl,rfl,rfl,hst1⟩
 | open0 f r =>
  have hu:s.drop p=92::40::r:=hu
  have hw:(s.drop p).take 2=[92,40]:=by rw [hu];rfl
  exact (GG1 s p hP hS2 0 hu).to ⟨rfl,hw,rfl,rfl,rfl,rfl,rfl,⟨(fun h=>by cases h),(fun _=>⟨[],rfl,rfl,fun _=>rfl⟩),by simp,fun x hx=>by simp at hx;omega⟩⟩
 | open1 cs r h =>
  have hu:s.drop p=92::40::r:=hu
  have hw:(s.drop p).take 2=[92,40]:=by rw [hu];rfl
  obtain ⟨js,rfl,rfl,hj⟩:=hst.is rfl
  have hj:=hj rfl
  subst hj
  rw [List.append_nil] at hst ⊢
  have e:cs.map (V.int .i64)++[V.int .i64 0]=(cs++[0]).map (V.int .i64):=by rw [List.map_append];rfl
  refine (GI1 s p hP hS2 0 v cs.length _ (by rw [e];exact Jc0 _) (by rw [List.length_map]) h hu).to ⟨rfl,hw,rfl,rfl,rfl,rfl,rfl,⟨(fun h=>by cases h),(fun _=>⟨[],by rw [List.append_nil,← e],by simp,fun _=>rfl⟩),by have:=hst.len;simp;omega,fun x hx=>?_⟩⟩
  rcases List.mem_append.1 hx with hx | hx
  ·exact hst1.bd x hx
  ·rw [List.mem_singleton] at hx;omega
 | word z cs f d q h =>
  have hu:s.drop p=97::58::d::q:=hu
  have hl2:(97::58::d::q:List UInt8).length≤1000000000000:=by rw [← hu,List.length_drop];omega
  have h0:OkL (fun X=>X.I (.call 129 [.str (s.drop p)] Heap.empty)) (fun a=>a=0):=by rw [hu];exact c_t1 97 _ (by decide)
  have h1:OkL (fun X=>X.I (.call 132 [.str (s.drop p)] Heap.empty)) (fun a=>a=0):=by rw [hu];exact jg1 97 _ (by decide)
  have h2:OkL (fun X=>X.I (.call 133 [.str (s.drop p)] Heap.empty)) (fun a=>a=1):=by rw [hu];exact JO1 97 d q hl2 (by decide) h
  have hw:(s.drop p).take (Int.toNat 1)=[97]:=by rw [hu];rfl
  have hm:(0:Int)<1∧(1:Int)≤((s.drop p).length:Int):=by rw [hu,List.length_cons];omega
  cases z with
  | true=>exact (o0_3 s p hP 0 false 1 hm h0 h1 h2).to ⟨rfl,hw,rfl,rfl,rfl,rfl,rfl,⟨hst.no,(fun h=>by cases h),hst1.len,hst1.bd⟩⟩
  | false=>exact (o1_3 s p hP 0 false 1 v n o (hst.gnd rfl) (hn rfl) hm h0 h1 h2).to ⟨rfl,hw,rfl,rfl,rfl,rfl,rfl,hst1⟩
 | num z cs f r h =>
  have hu:s.drop p=49::r:=hu
  obtain ⟨h0,h1,h2,h3,h4,h5⟩:=yG1 s p 49 r hu hS2 (by decide) (by decide) (by decide) (by decide) (by decide) (by decide)
  have h6:OkL (fun X=>X.I (.call 141 [.str (s.drop p)] Heap.empty)) (fun a=>a=1):=by rw [hu];exact c_num1 r h
  have hw:(s.drop p).take (Int.toNat 1)=[49]:=by rw [hu];rfl
  have hm:(0:Int)<1∧(1:Int)≤((s.drop p).length:Int):=by rw [hu,List.length_cons];omega
  cases z with
  | true=>exact (o0_6 s p hP 0 false 1 hm h0 h1 h2 h3 h4 h5 h6).to ⟨rfl,hw,rfl,rfl,rfl,rfl,rfl,⟨hst.no,(fun h=>by cases h),hst1.len,hst1.bd⟩⟩
  | false=>exact (o1_6 s p hP 0 false 1 v n o (hst.gnd rfl) (hn rfl) hm h0 h1 h2 h3 h4 h5 h6).to ⟨rfl,hw,rfl,rfl,rfl,rfl,rfl,hst1⟩
 | op z cs f c r h =>
  have hu:s.drop p=c::r:=hu
  obtain ⟨⟨h0,h1,h2,h3,h4,h5⟩,h6,h7,h8⟩:=ops s p c r hu hS2 (by rcases h with h | h | h | h | h <;> simp [h])
  have hw:(s.drop p).take (Int.toNat 1)=[c]:=by rw [hu];rfl
  have hm:(0:Int)<1∧(1:Int)≤((s.drop p).length:Int):=by rw [hu,List.length_cons];omega
  cases z with
  | true=>exact (o0_13 s p hP 0 false 1 hm h0 h1 h2 h3 h4 h5 h6 h7 h8).to ⟨rfl,hw,rfl,rfl,rfl,rfl,rfl,⟨hst.no,(fun h=>by cases h),hst1.len,hst1.bd⟩⟩
  | false=>exact (o1_13 s p hP 0 false 1 v n o (hst.gnd rfl) (hn rfl) (.inr (by rw [hw];rcases h with rfl | rfl | rfl | rfl | rfl <;> decide)) hm h0 h1 h2 h3 h4 h5 h6 h7 h8).to ⟨rfl,hw,rfl,rfl,rfl,rfl,rfl,hst1⟩
 | par z f c r h =>
  have hu:s.drop p=c::r:=hu
  obtain ⟨⟨h0,h1,h2,h3,h4,h5⟩,h6,h7,h8⟩:=ops s p c r hu hS2 (by rcases h with h | h <;> simp [h])
  have hw:(s.drop p).take (Int.toNat 1)=[c]:=by rw [hu];rfl
  have hm:(0:Int)<1∧(1:Int)≤((s.drop p).length:Int):=by rw [hu,List.length_cons];omega
  cases z with
  | true=>exact (o0_13 s p hP 0 false 1 hm h0 h1 h2 h3 h4 h5 h6 h7 h8).to ⟨rfl,hw,rfl,rfl,rfl,rfl,rfl,⟨hst.no,(fun h=>by cases h),hst1.len,hst1.bd⟩⟩
  | false =>
   have hn0:n=0:=by obtain ⟨_,_,e,_⟩:=hst.is rfl;exact e
   exact (o1_13 s p hP 0 false 1 v n o (hst.gnd rfl) (hn rfl) (.inl hn0) hm h0 h1 h2 h3 h4 h5 h6 h7 h8).to ⟨rfl,hw,rfl,rfl,rfl,rfl,rfl,hst1⟩
 | inc cs x f r =>
  have hu:s.drop p=40::r:=hu
  obtain ⟨⟨h0,h1,h2,h3,h4,h5⟩,h6,h7,h8⟩:=ops s p 40 r hu hS2 (.inl rfl)
  have hw:(s.drop p).take (Int.toNat 1)=[40]:=by rw [hu];rfl
  have hm:(0:Int)<1∧(1:Int)≤((s.drop p).length:Int):=by rw [hu,List.length_cons];omega
  obtain ⟨js,rfl,rfl,hj⟩:=hst.is rfl
  have hx:=hst.bd x (by simp)
  refine (o1_inc s p hP 0 false 1 v _ _ (hst.gnd rfl) (fun y=>by rw [XX0];exact Jc0 _) (hn rfl) (by simp) x (zg1 cs js x) (by omega) hw hm h0 h1 h2 h3 h4 h5 h6 h7 h8).to ⟨rfl,hw,rfl,rfl,rfl,rfl,rfl,⟨(fun h=>by cases h),(fun _=>⟨js,XX0 cs js x (x+1),by simp,hj⟩),by have:=hst1.len;simp at this ⊢;omega,fun y hy=>?_⟩⟩
  rcases List.mem_append.1 hy with hy | hy
  ·exact hst1.bd y (by simp [hy])
  ·rw [List.mem_singleton] at hy;omega
 | dec cs x f r h =>
  have hu:s.drop p=41::r:=hu
  obtain ⟨⟨h0,h1,h2,h3,h4,h5⟩,h6,h7,h8⟩:=ops s p 41 r hu hS2 (.inr (.inl rfl))
  have hw:(s.drop p).take (Int.toNat 1)=[41]:=by rw [hu];rfl
  have hm:(0:Int)<1∧(1:Int)≤((s.drop p).length:Int):=by rw [hu,List.length_cons];omega
  obtain ⟨js,rfl,rfl,hj⟩:=hst.is rfl
  have hx:=hst.bd x (by simp)
  refine (o1_dec s p hP 0 false 1 v _ _ (hst.gnd rfl) (fun y=>by rw [XX0];exact Jc0 _) (hn rfl) (by simp) x (zg1 cs js x) (by omega) h hw hm h0 h1 h2 h3 h4 h5 h6 h7 h8).to ⟨rfl,hw,rfl,rfl,rfl,rfl,rfl,⟨(fun h=>by cases h),(fun _=>⟨js,XX0 cs js x (x-1),by simp,hj⟩),by have:=hst1.len;simp at this ⊢;omega,fun y hy=>?_⟩⟩
  rcases List.mem_append.1 hy with hy | hy
  ·exact hst1.bd y (by simp [hy])
  ·rw [List.mem_singleton] at hy;omega
 | pop _ f r =>
  have hu:s.drop p=41::r:=hu
  obtain ⟨⟨h0,h1,h2,h3,h4,h5⟩,h6,h7,h8⟩:=ops s p 41 r hu hS2 (.inr (.inl rfl))
  have hw:(s.drop p).take (Int.toNat 1)=[41]:=by rw [hu];rfl
  have hm:(0:Int)<1∧(1:Int)≤((s.drop p).length:Int):=by rw [hu,List.length_cons];omega
  obtain ⟨js,rfl,rfl,hj⟩:=hst.is rfl
  refine (o1_pop s p hP 0 false 1 v _ _ (hst.gnd rfl) (fun y=>by rw [XX0];exact Jc0 _) (hn rfl) (by simp) 0 (zg1 cs' js 0) (by omega) rfl hw hm h0 h1 h2 h3 h4 h5 h6 h7 h8).to ⟨rfl,hw,rfl,rfl,rfl,rfl,rfl,⟨(fun h=>by cases h),(fun _=>⟨[0]++js,by rw [List.append_assoc],by simp,(fun h=>by cases h)⟩),by have:=hst1.len;simp at this ⊢;omega,fun y hy=>hst1.bd y (by simp [hy])⟩⟩
/-- ALL TOKENS. -/
inductive RunT (D:Prop):Bool→List Int→Bool→Bool→List qe0→Prop
 | fin (z f:Bool):RunT D z [] false f []
 | deep (hD:D) (cs:List Int) (f:Bool) (rs:List qe0) (h:256≤cs.length):RunT D false cs true f ((9,[92,40])::rs)
 | tok {z:Bool} {cs:List Int} {i f:Bool} {t:qe0} {rs:List qe0} {z':Bool} {cs':List Int} {i' f':Bool} (h:Stp z cs i f t (txt rs) z' cs' i' f') (h2:RunT D z' cs' i' f' rs):RunT D z cs i f (t::rs)
theorem Stp.zf {z:Bool} {cs:List Int} {i f:Bool} {t:qe0} {r:List UInt8} {z':Bool} {cs':List Int} {i' f':Bool} (h:Stp z cs i f t r z' cs' i' f') (hz:z=false):z'=false:=by
 cases h <;> first | rfl | exact hz
theorem Stp.w {z:Bool} {cs:List Int} {i f:Bool} {t:qe0} {r:List UInt8} {z':Bool} {cs':List Int} {i' f':Bool} (h:Stp z cs i f t r z' cs' i' f'):1≤t.2.length:=by
 cases h <;> simp
def QF1:Ex→Bool
 | .ret=>true
 | _=>false
def JK0:List V→Nat
 | .sl _ v _ _ _::_=>v
 | _=>0
def JJ0:List V→Nat
 | .sl _ _ _ n _::_=>n
 | _=>0
noncomputable def mLa:Res→La
 | .code e _ h=>(match jt1 (h.get 0) with
  | [s,a,o,i,er]=>(match o with
   | .sl _ v _ n _=>⟨uS s,uI a,false,v,n,esO (h.get 7),uB i,uI er,JK0 (esO (h.get 2)),JJ0 (esO (h.get 2)),esO (h.get 6),QF1 e⟩
   | _=>⟨uS s,uI a,true,0,0,[],uB i,uI er,JK0 (esO (h.get 2)),JJ0 (esO (h.get 2)),esO (h.get 6),QF1 e⟩)
  | _=>⟨[],0,true,0,0,[],false,0,0,0,[],false⟩)
 | _=>⟨[],0,true,0,0,[],false,0,0,0,[],false⟩
def nLa (a:La):La:=bif a.z then ⟨a.s,a.a,true,0,0,[],a.i,a.e,a.w,a.m,a.l,a.r⟩ else a
theorem Xy0 (a:La):mLa (rLa (base 94 62) a.r a.z a)=nLa a:=by
 obtain ⟨s,q,z,v,n,o,i,e,w,m,l,r⟩:=a
 cases z <;> cases r <;> kernel_rfl
def FinP (D:Prop) (all:List qe0) (a:La):Prop:=GndR a.l∧(a.z=false→GndR a.o)∧((a.r=false∧a.e=0∧a.i=false∧(a.z=true∨a.n=0)∧a.l=all.map qC0∧a.m=all.length)∨(a.r=true∧a.e=21∧D))
theorem FinP.n {D:Prop} {all:List qe0} {a:La} (h:FinP D all a):FinP D all (nLa a):=by
 obtain ⟨s,q,z,v,n,o,i,e,w,m,l,r⟩:=a
 cases z with
 | false=>exact h
 | true=>exact ⟨h.1,(fun h=>by cases h),h.2.2.imp (fun ⟨a,b,c,_,d,e⟩=>⟨a,b,c,.inl rfl,d,e⟩) id⟩
theorem FinP.u {D:Prop} {all:List qe0} (a:La) (h:FinP D all (nLa a)):FinP D all a:=by
 obtain ⟨s,q,z,v,n,o,i,e,w,m,l,r⟩:=a
 cases z with
 | false=>exact h
 | true=>exact ⟨h.1,(fun h=>by cases h),h.2.2.imp (fun ⟨a,b,c,_,d,e⟩=>⟨a,b,c,.inl rfl,d,e⟩) id⟩
noncomputable abbrev frL:Fr:=(base 94 62).on [(0,.func (.yield 4) [] []),(1,.ptr 1 0 0),(3,.ptr 5 0 0)]
noncomputable abbrev hLp (z:Bool) (s:List UInt8) (p:Nat) (i:Bool) (v n:Nat) (l:List V) (vo no:Nat) (o:List V):Heap:=bif z then hpA (lxO s p .nils i 0) (.sl 6 v 0 n none) [.row v 49 2 0 none l] else hpA (lxO s p (.sl 7 vo 0 no none) i 0) (.sl 6 v 0 n none) [.row v 49 2 0 none l,.row vo 3 1 0 none o]
theorem fin4 {D:Prop} {all:List qe0} {a:La} {A B C E:Res} (h:FinP D all a) (hA:a.r=true→a.z=true→A=rLa (base 94 62) true true a) (hB:a.r=true→a.z=false→B=rLa (base 94 62) true false a) (hC:a.r=false→a.z=true→C=rLa (base 94 62) false true a) (hE:a.r=false→a.z=false→E=rLa (base 94 62) false false a) :
 Rn (fun _=>bif a.r then (bif a.z then need none (GndR a.l) (some A) else need none (GndR a.l) (need none (GndR a.o) (some B))) else (bif a.z then need none (GndR a.l) (some C) else need none (GndR a.l) (need none (GndR a.o) (some E)))) (fun r=>∃ b:La,r=rLa (base 94 62) b.r b.z b∧FinP D all (nLa b)):=by
 have hn:=h.n
 refine Rn.cond (fun hr=>Rn.cond (fun hz=>Rn.need h.1 (Rn.ret ⟨a,?_,hn⟩)) (fun hz=>Rn.need h.1 (Rn.need (h.2.1 hz) (Rn.ret ⟨a,?_,hn⟩)))) (fun hr=>Rn.cond (fun hz=>Rn.need h.1 (Rn.ret ⟨a,?_,hn⟩)) (fun hz=>Rn.need h.1 (Rn.need (h.2.1 hz) (Rn.ret ⟨a,?_,hn⟩))))
 ·rw [hA hr hz,hr,hz]
 ·rw [hB hr hz,hr,hz]
 ·rw [hC hr hz,hr,hz]
 ·rw [hE hr hz,hr,hz]
theorem loopL {D:Prop} (s:List UInt8) (hS:s.length≤65536):∀ (rs:List qe0) (z:Bool) (cs:List Int) (i f:Bool) (ts:List qe0) (p v n:Nat) (l:List V) (vo no:Nat) (o:List V),RunT D z cs i f rs→s.drop p=txt rs→p≤s.length→l=ts.map qC0→n=ts.length→n≤p→StkR p z no o cs f→OkL (fun X=>X.La (.code (.loop (lpB PP 94 0)) frL (hLp z s p i v n l vo no o))) (FinP D (ts++rs)):=by
 intro rs
 induction rs with
 | nil =>
  intro z cs i f ts p v n l vo no o hrun hu hP hl hn hnp hst
  have hp2:s.length≤p:=by have:=congrArg List.length hu;rw [List.length_drop] at this;change s.length-p=0 at this;omega
  have gl:GndR l:=by rw [hl];exact KL0 ts
  cases hrun with
  | fin z f =>
  cases z with
  | true =>
   refine .nrm (R:=fun a:La=>rLa (base 94 62) a.r a.z a) (L:=mLa) (N:=nLa) (fun _=>rfl) Xy0 FinP.u (Tk.byL (.of (fun m=>jz1 (XL m) _ none some s p 0 false v n l) ?_))
   exact Rn.decF (by omega) (Rn.need gl (Rn.need gl (Rn.ret ⟨⟨s,p,true,0,0,[],false,0,v,n,l,false⟩,rfl,gl,(fun h=>by cases h),.inl ⟨rfl,rfl,rfl,.inl rfl,by rw [List.append_nil];exact hl,by rw [List.append_nil];exact hn⟩⟩)))
  | false =>
   have go:=hst.gnd rfl
   have hno:no=0:=by obtain ⟨_,_,e,_⟩:=hst.is rfl;exact e
   refine .nrm (R:=fun a:La=>rLa (base 94 62) a.r a.z a) (L:=mLa) (N:=nLa) (fun _=>rfl) Xy0 FinP.u (Tk.byL (.of (fun m=>qJ1 (XL m) _ none some s p 0 false v n l vo no o) ?_))
   exact Rn.decF (by omega) (Rn.need gl (Rn.need go (Rn.need gl (Rn.need go (Rn.ret ⟨⟨s,p,false,vo,no,o,false,0,v,n,l,false⟩,rfl,gl,(fun _=>go),.inl ⟨rfl,rfl,rfl,.inr hno,by rw [List.append_nil];exact hl,by rw [List.append_nil];exact hn⟩⟩)))))
 | cons t rs IH =>
  intro z cs i f ts p v n l vo no o hrun hu hP hl hn hnp hst
  have gl:GndR l:=by rw [hl];exact KL0 ts
  cases hrun with
  | deep hD cs f rs h256 =>
   have go:=hst.gnd rfl
   have hno:no=cs.length:=by obtain ⟨_,_,e,_⟩:=hst.is rfl;exact e
   have hu:s.drop p=92::40::txt rs:=hu
   have hlt:p<s.length:=by have:=congrArg List.length hu;rw [List.length_drop,List.length_cons,List.length_cons] at this;omega
   refine .nrm (R:=fun a:La=>rLa (base 94 62) a.r a.z a) (L:=mLa) (N:=nLa) (fun _=>rfl) Xy0 FinP.u (Tk.byL (.of (fun m=>qJ1 (XL m) _ none some s p 0 true v n l vo no o) ?_))
   refine Rn.decT (by omega) (Rn.ct (Rn.need go (Rn.bndL (GH1 s p hP (by omega) 0 vo no o go (by omega) hu) (fun a ha=>?_))))
   have ha:=nLt_f rfl ha
   subst ha
   exact Rn.cf (Rn.need go (Rn.ndecT (show ¬ ((21:Int)=0) by decide) (Rn.need gl (Rn.need go (Rn.need gl (Rn.need go (Rn.ret ⟨⟨s,p,false,vo,no,o,true,21,v,n,l,true⟩,rfl,gl,(fun _=>go),.inr ⟨rfl,rfl,hD⟩⟩)))))))
  | @tok _ _ _ _ _ _ z' cs' i' f' hs hrun =>
   have hu2:s.drop p=t.2++txt rs:=hu
   have hw:=hs.w
   have hlen:s.length-p=t.2.length+(txt rs).length:=by have:=congrArg List.length hu2;rw [List.length_drop,List.length_append] at this;exact this
   have hu3:s.drop (p+t.2.length)=txt rs:=by rw [← List.drop_drop,hu2,List.drop_left]
   have call:=Yn1 hs hu2 hP hS vo hst
   have glt:GndR (l++[V.agg [V.int IntKind.i64 t.1,V.str t.2]]):=by
    have:l++[V.agg [V.int IntKind.i64 t.1,V.str t.2]]=(ts++[t]).map qC0:=by rw [hl,List.map_append];rfl
    rw [this];exact KL0 _
   have nxt:∀ (vo2 no2:Nat) (o2:List V),StkR (p+1) z' no2 o2 cs' f'→OkL (fun X=>X.La (.code (.loop (lpB PP 94 0)) frL (hLp z' s (p+t.2.length) i' (Nat.succ v) (n+1) (l++[V.agg [V.int IntKind.i64 t.1,V.str t.2]]) vo2 no2 o2))) (FinP D (ts++t::rs)):=fun vo2 no2 o2 h=>by
    have e:ts++t::rs=(ts++[t])++rs:=by simp
    rw [e]
    exact IH z' cs' i' f' (ts++[t]) (p+t.2.length) (Nat.succ v) (n+1) _ vo2 no2 o2 hrun hu3 (by omega) (by rw [hl,List.map_append];rfl) (by rw [hn];simp) (by omega) (h.mono (by omega))
   have nIh:(-9223372036854775808:Int)≤(p:Int)+(t.2.length:Int)∧(p:Int)+(t.2.length:Int)≤9223372036854775807:=by omega
   have ndd:(v=v)∧(([V.agg [V.int IntKind.i64 t.1,V.str t.2]]≠[])∧((n=List.length l)∧((0≤n)∧((n+List.length [V.agg [V.int IntKind.i64 t.1,V.str t.2]]≤1099511627776)∧((n+List.length [V.agg [V.int IntKind.i64 t.1,V.str t.2]])*24≤1099511627776))))):=⟨rfl,(by intro h;cases h),by rw [hl,List.length_map];exact hn,Nat.zero_le _,by simp only [List.length_cons,List.length_nil];omega,by simp only [List.length_cons,List.length_nil];omega⟩
   cases z with
   | true =>
    refine .nrm (R:=fun a:La=>rLa (base 94 62) a.r a.z a) (L:=mLa) (N:=nLa) (fun _=>rfl) Xy0 FinP.u (Tk.byL (.of (fun m=>jz1 (XL m) _ none some s p 0 i v n l) ?_))
    refine Rn.decT (by omega) ?_
    cases i with
    | true =>
     refine Rn.ct (Rn.bndL call (fun a ha=>?_))
     obtain ⟨k,w,s2,q,z2,v2,n2,o2,i2,e2⟩:=a
     obtain ⟨h1,h2,h3,h4,h5,h6,h7,h8⟩:=ha
     change k=t.1 at h1
     change w=t.2 at h2
     change s2=s at h3
     change q=(p:Int) at h4
     change z2=z' at h5
     change i2=i' at h6
     change e2=0 at h7
     change StkR (p+1) z' n2 o2 cs' f' at h8
     subst h1;subst h2;subst h3;subst h4;subst h5;subst h6;subst h7
     cases z2 with
     | true=>exact Rn.ct (Rn.ndecF rfl (Rn.need ndd (Rn.nI nIh (Rn.need glt (Rn.bndL (nxt v2 n2 o2 h8) (fun a ha=>fin4 ha (fun _ _=>rfl) (fun _ _=>rfl) (fun _ _=>rfl) (fun _ _=>rfl)))))))
     | false=>exact Rn.cf (Rn.need (h8.gnd rfl) (Rn.ndecF rfl (Rn.need ndd (Rn.nI nIh (Rn.need glt (Rn.need (h8.gnd rfl) (Rn.bndL (nxt v2 n2 o2 h8) (fun a ha=>fin4 ha (fun _ _=>rfl) (fun _ _=>rfl) (fun _ _=>rfl) (fun _ _=>rfl)))))))))
    | false =>
     refine Rn.cf (Rn.bndL call (fun a ha=>?_))
     obtain ⟨k,w,s2,q,z2,v2,n2,o2,i2,e2⟩:=a
     obtain ⟨h1,h2,h3,h4,h5,h6,h7,h8⟩:=ha
     change k=t.1 at h1
     change w=t.2 at h2
     change s2=s at h3
     change q=(p:Int) at h4
     change z2=z' at h5
     change i2=i' at h6
     change e2=0 at h7
     change StkR (p+1) z' n2 o2 cs' f' at h8
     subst h1;subst h2;subst h3;subst h4;subst h5;subst h6;subst h7
     cases z2 with
     | true=>exact Rn.ct (Rn.ndecF rfl (Rn.need ndd (Rn.nI nIh (Rn.need glt (Rn.bndL (nxt v2 n2 o2 h8) (fun a ha=>fin4 ha (fun _ _=>rfl) (fun _ _=>rfl) (fun _ _=>rfl) (fun _ _=>rfl)))))))
     | false=>exact Rn.cf (Rn.need (h8.gnd rfl) (Rn.ndecF rfl (Rn.need ndd (Rn.nI nIh (Rn.need glt (Rn.need (h8.gnd rfl) (Rn.bndL (nxt v2 n2 o2 h8) (fun a ha=>fin4 ha (fun _ _=>rfl) (fun _ _=>rfl) (fun _ _=>rfl) (fun _ _=>rfl)))))))))
   | false =>
    have go:=hst.gnd rfl
    refine .nrm (R:=fun a:La=>rLa (base 94 62) a.r a.z a) (L:=mLa) (N:=nLa) (fun _=>rfl) Xy0 FinP.u (Tk.byL (.of (fun m=>qJ1 (XL m) _ none some s p 0 i v n l vo no o) ?_))
    refine Rn.decT (by omega) ?_
    cases i with
    | true =>
     refine Rn.ct (Rn.need go (Rn.bndL call (fun a ha=>?_)))
     obtain ⟨k,w,s2,q,z2,v2,n2,o2,i2,e2⟩:=a
     obtain ⟨h1,h2,h3,h4,h5,h6,h7,h8⟩:=ha
     change k=t.1 at h1
     change w=t.2 at h2
     change s2=s at h3
     change q=(p:Int) at h4
     change z2=z' at h5
     change i2=i' at h6
     change e2=0 at h7
     change StkR (p+1) z' n2 o2 cs' f' at h8
     subst h1;subst h2;subst h3;subst h4;subst h5;subst h6;subst h7
     have hz:=hs.zf rfl
     subst hz
     exact Rn.cf (Rn.need (h8.gnd rfl) (Rn.ndecF rfl (Rn.need ndd (Rn.nI nIh (Rn.need glt (Rn.need (h8.gnd rfl) (Rn.bndL (nxt v2 n2 o2 h8) (fun a ha=>fin4 ha (fun _ _=>rfl) (fun _ _=>rfl) (fun _ _=>rfl) (fun _ _=>rfl)))))))))
    | false =>
     refine Rn.cf (Rn.need go (Rn.bndL call (fun a ha=>?_)))
     obtain ⟨k,w,s2,q,z2,v2,n2,o2,i2,e2⟩:=a
     obtain ⟨h1,h2,h3,h4,h5,h6,h7,h8⟩:=ha
     change k=t.1 at h1
     change w=t.2 at h2
     change s2=s at h3
     change q=(p:Int) at h4
     change z2=z' at h5
     change i2=i' at h6
     change e2=0 at h7
     change StkR (p+1) z' n2 o2 cs' f' at h8
     subst h1;subst h2;subst h3;subst h4;subst h5;subst h6;subst h7
     have hz:=hs.zf rfl
     subst hz
     exact Rn.cf (Rn.need (h8.gnd rfl) (Rn.ndecF rfl (Rn.need ndd (Rn.nI nIh (Rn.need glt (Rn.need (h8.gnd rfl) (Rn.bndL (nxt v2 n2 o2 h8) (fun a ha=>fin4 ha (fun _ _=>rfl) (fun _ _=>rfl) (fun _ _=>rfl) (fun _ _=>rfl)))))))))
/-- TEXTS OF BYTES BELOW 128 ARE UTF-8. -/
theorem get!_L (s:List UInt8) (j:Nat):(ByteArray.mk ⟨s⟩).get! j=s.getD j 0:=by
 simp [ByteArray.get!,List.getD_eq_getElem?_getD]
 rfl
theorem Je1 {s:List UInt8} {p:Nat} (h:(s.getD p 0).toNat<128):GJ0 s p<128∧Jl0 s p=1:=by
 unfold GJ0 Jl0 Utf8.decode
 simp only [get!_L,Nat.add_zero]
 rw [if_pos h]
 exact ⟨h,rfl⟩
noncomputable def mCk:Res→Bool×List UInt8×Int×List UInt8×Nat
 | .code e fr h=>(match e with
  | .ret=>false
  | _=>true,uS (fr.tm.get undef 0),uI (fr.tm.get undef 2),(match h.get 0 with
  | .siter s _=>s
  | _=>[]),match h.get 0 with
  | .siter _ n=>n
  | _=>0)
 | _=>(true,[],0,[],0)
def nCk (a:Bool×List UInt8×Int×List UInt8×Nat):Bool×List UInt8×Int×List UInt8×Nat:=(a.1,a.2.1,bif a.1 then 0 else a.2.2.1,a.2.2.2)
theorem JJ1 (s:List UInt8) (ha:∀ p,p<s.length→(s.getD p 0).toNat<128):∀ (d n:Nat),s.length-n≤d→OkL (fun X=>X.Ck (.code (.loop (lpB PP 62 0)) ((base 62 21).on [(0,.str s),(6,.iter 0)]) (hp [.siter s n]))) fun a=>a.1=true:=by
 intro d
 have R0:∀ n t,(∃ r,(∃ a:Bool×List UInt8×Int×List UInt8×Nat,r=rCk (base 62 21) a.1 a∧(nCk a).1=true)∧Tk t r)→t=.code (.loop (lpB PP 62 0)) ((base 62 21).on [(0,.str s),(6,.iter 0)]) (hp [.siter s n])→OkL (fun X=>X.Ck (.code (.loop (lpB PP 62 0)) ((base 62 21).on [(0,.str s),(6,.iter 0)]) (hp [.siter s n]))) fun a=>a.1=true:=fun n t h e=>by
  subst e
  exact .nrm (R:=fun a=>rCk (base 62 21) a.1 a) (L:=mCk) (N:=nCk) (fun _=>rfl) (fun ⟨b,w,n,r,q⟩=>by cases b <;> kernel_rfl) (fun a h=>h) h
 induction d with
 | zero =>
  intro n hd
  refine R0 n _ (Tk.byL (.of (fun m=>jA1 (XL m) _ none some s n) ?_)) rfl
  exact Rn.decF (by omega) (Rn.ret ⟨(true,s,0,s,n),rfl,rfl⟩)
 | succ d IH =>
  intro n hd
  refine R0 n _ (Tk.byL (.of (fun m=>jA1 (XL m) _ none some s n) ?_)) rfl
  refine Rn.dec (fun hlt=>?_) (fun _=>Rn.ret ⟨(true,s,0,s,n),rfl,rfl⟩)
  obtain ⟨h1,h2⟩:=Je1 (ha n hlt)
  have h3:=IH (n+Jl0 s n) (by omega)
  refine Rn.jo (Rn.decF (by omega) (Rn.bndL h3 (fun a hb=>?_)))
  obtain ⟨b,w,i,w2,q⟩:=a
  have hb:b=true:=hb
  subst hb
  exact Rn.ct (Rn.ret ⟨(true,w,i,w2,q),rfl,rfl⟩)
theorem JI1 (s:List UInt8) (ha:∀ p,p<s.length→(s.getD p 0).toNat<128):OkL (fun X=>X.I (.call 62 [.str s] Heap.empty)) fun a=>a=-1:=by
 refine .int (Tk.byL (.of (fun m=>Ku1 (XL m) _ none some s) ?_))
 refine Rn.bndL (JJ1 s ha s.length 0 (by omega)) (fun a hb=>?_)
 obtain ⟨b,w,i,w2,q⟩:=a
 have hb:b=true:=hb
 subst hb
 exact Rn.ct (Rn.ret rfl)
noncomputable def mLT:Res→List V×Int×Int
 | .ret v _=>(match v with
  | .tup [a,b,c]=>(asEs a,uI b,uI c)
  | _=>([],0,0))
 | _=>([],0,0)
theorem Stp.zt {z:Bool} {cs:List Int} {i f:Bool} {t:qe0} {r:List UInt8} {z':Bool} {cs':List Int} {i' f':Bool} (h:Stp z cs i f t r z' cs' i' f') (hz:z=true) (hi:i=false):z'=true:=by
 cases h <;> first | exact hz | (cases hz;done) | (cases hi;done)
theorem Zh2 {D:Prop} (s:List UInt8) (hS:s.length≤65536) (ha:∀ p,p<s.length→(s.getD p 0).toNat<128) (t:qe0) (rs:List qe0) (hs:s=txt (t::rs)) (hrun:RunT D true [] false false (t::rs)) :
 OkL (fun X=>X.LT (.call 29 [.str s] Heap.empty)) fun a=>(a.2.1=0∧a.1=(t::rs).map qC0)∨(a.2.1=21∧D):=by
 refine .tk (R:=rLT) (L:=mLT) (fun _=>rfl) (fun _=>rfl) (Tk.byL (.of (fun m=>KK1 (XL m) _ none some s) ?_))
 cases hrun with
 | @tok _ _ _ _ _ _ z' cs' i' f' hs1 hrun =>
 have hw:=hs1.w
 have hu:s.drop 0=t.2++txt rs:=hs
 have hlen:s.length=t.2.length+(txt rs).length:=by rw [hs];exact List.length_append
 have call:=Yn1 hs1 hu (Nat.zero_le _) hS 0 (n:=0) (o:=[]) ⟨fun _=>rfl,(fun h=>by cases h),Nat.le_refl _,fun x hx=>by cases hx⟩
 have hu3:s.drop t.2.length=txt rs:=by rw [hs];exact List.drop_left
 have hz:z'=true:=hs1.zt rfl rfl
 subst hz
 refine Rn.decF (by omega) (Rn.got (JI1 s ha) (Rn.decF (by omega) (Rn.decT (by omega) (Rn.bndL call (fun a ha=>?_)))))
 obtain ⟨k,w,s2,q,z2,v2,n2,o2,i2,e2⟩:=a
 obtain ⟨h1,h2,h3,h4,h5,h6,h7,h8⟩:=ha
 change k=t.1 at h1
 change w=t.2 at h2
 change s2=s at h3
 change q=((0:Nat):Int) at h4
 change z2=true at h5
 change i2=i' at h6
 change e2=0 at h7
 change StkR (0+1) true n2 o2 cs' f' at h8
 have hl:=loopL s hS rs true cs' i' f' [t] t.2.length 0 1 [qC0 t] v2 n2 o2 hrun hu3 (by omega) rfl rfl (by omega) (h8.mono (by omega))
 subst h1;subst h2;subst h3;subst h4;subst h5;subst h6;subst h7
 have nIh:(-9223372036854775808:Int)≤((0:Nat):Int)+(t.2.length:Int)∧((0:Nat):Int)+(t.2.length:Int)≤9223372036854775807:=by omega
 have e0:(((0:Nat):Int)+(t.2.length:Int))=((t.2.length:Nat):Int):=by omega
 refine Rn.jo (Rn.ct (Rn.ndecF rfl (Rn.need ⟨(by intro h;cases h),by omega,by omega⟩ (Rn.nI nIh (Rn.need (KL0 [t]) ?_)))))
 simp only [e0]
 refine Rn.bndL hl (fun a hf=>Rn.jo ?_)
 obtain ⟨s3,q3,z3,v3,n3,o3,i3,e3,w3,m3,l3,r3⟩:=a
 obtain ⟨g1,g2,⟨f1,f2,f3,f4,f5,f6⟩ | ⟨f1,f2,f3⟩⟩:=hf
 ·change r3=false at f1
  change e3=0 at f2
  change i3=false at f3
  change z3=true∨n3=0 at f4
  change l3=([t]++rs).map qC0 at f5
  change m3=([t]++rs).length at f6
  subst f1;subst f2;subst f3
  have fin:Rn (fun _=>bif !decide ((0:Int)=0) then some (Res.ret (.tup [.osl 2 [],.int .u16 0,.int .i64 q3]) Heap.empty) else nG none w3 m3 l3 (some (.ret (.tup [.osl 2 l3,.int .u16 0,.int .i64 0]) Heap.empty))) (fun r=>∃ a:List V×Int×Int,r=rLT a∧((a.2.1=0∧a.1=(t::rs).map qC0)∨(a.2.1=21∧D))) :=
   Rn.ndecF rfl (Rn.need ⟨rfl,rfl,by rw [f6,f5,List.length_map],g1⟩ (Rn.ret ⟨(l3,0,0),rfl,.inl ⟨rfl,f5⟩⟩))
  refine Rn.cf ?_
  cases z3 with
  | true=>exact Rn.ct (Rn.cf fin)
  | false =>
   have hn0:n3=0:=f4.resolve_left (by intro h;cases h)
   exact Rn.cf (Rn.cf (Rn.decT (by rw [hn0];rfl) fin))
 ·change r3=true at f1
  change e3=21 at f2
  subst f1;subst f2
  refine Rn.ct ?_
  have fin:Rn (fun _=>bif !decide ((21:Int)=0) then some (Res.ret (.tup [.osl 2 [],.int .u16 21,.int .i64 q3]) Heap.empty) else nG none w3 m3 l3 (some (.ret (.tup [.osl 2 l3,.int .u16 0,.int .i64 0]) Heap.empty))) (fun r=>∃ a:List V×Int×Int,r=rLT a∧((a.2.1=0∧a.1=(t::rs).map qC0)∨(a.2.1=21∧D))) :=
   Rn.ndecT (by decide) (Rn.ret ⟨([],21,q3),rfl,.inr ⟨rfl,f3⟩⟩)
  cases z3 with
  | true=>exact Rn.ct fin
  | false=>exact Rn.cf fin
end Go.AM
