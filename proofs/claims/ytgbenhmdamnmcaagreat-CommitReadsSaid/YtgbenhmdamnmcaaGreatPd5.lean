/- Part 5 of the proof. -/
import Derived.Test.YtgbenhmdamnmcaaGreatPd4
set_option linter.unusedVariables false
set_option linter.unusedVariables false
namespace Go.Proofs.YtgbenhmdamnmcaaGreat
open Go.Proofs.Tryz
def Pc (U bZ fS fT:Value) (w:World) (R:Ending→World→Prop):Prop:=
 m R (Ar 23) w fun b0 fU=>
 m R (Ao U) fU fun b1 fV=>
 m R (Aa 247 b1 1) fV fun b2 fW=>
 m R (Ad 243 b2) fW fun b3 fX=>
 m R (Ag 243 b3 fS) fX fun b4 fY=>
 m R (Ad 271 b4) fY fun b5 fZ=>
 m R (Ar 271) fZ fun b f0=>
 m R (Ai 271 b b5) f0 fun _ f1=>
 ml2 (.slice none 0 0) (.slice none 0 0) f1 fun I H f7 V O=>
 Dp (Aa 271 b 0) fun b6=>
 Dq V (Ad 3 b6) fun b7=>
 Dp (Ao U) fun b8=>
 Dp (Aa 247 b8 0) fun b9=>
 Dq V (Ad 3 b9) fun cA=>
 Dp (Af .lss 3 false b7 cA) fun cB=>
 dend V fun a=>
 mif cB (
 mj1 (fun G=>
 ((
 Dp (Aa 271 b 0) fun d=>
 Dq a (Ad 3 d) fun e=>
 Dp (Af .add 3 true e (.int .i64 1)) fun f=>
 Dp (Aa 271 b 1) fun g=>
 Dq a (Ad 3 g) fun h=>
 Dp (Af .mul 3 true (.int .i64 2) h) fun i=>
 Dp (Aa 271 b 2) fun j=>
 Dp (Ax 23 j none none none) fun l=>
 Dq a (Ay 89 9 l) fun n=>
 Dp (Aa 271 b 0) fun o=>
 Dq a (Ad 3 o) fun p=>
 Dp (Af .add 3 true p (.int .i64 1)) fun q=>
 Dp (Aa 271 b 1) fun r=>
 Dq a (Ad 3 r) fun s=>
 Dp (Af .mul 3 true (.int .i64 2) s) fun t=>
 Dp (Af .add 3 true t (.int .i64 1)) fun u=>
 Dp (Aa 271 b 2) fun v=>
 Dp (Ax 23 v none none none) fun x=>
 Dq a (Ay 89 9 x) fun y=>
 Df a (Al 41 2 [(0,(.string (ByteArray.mk #[108,101,102,116]))),(1,n)]) true fun z cC=>
 Df cC (Ah (fv 34) [z]) true fun A cD=>
 Dp (At 271 [(0,f),(1,i),(2,A)]) fun B=>
 Df cD (Al 41 2 [(0,(.string (ByteArray.mk #[114,105,103,104,116]))),(1,y)]) true fun C cE=>
 Df cE (Ah (fv 34) [C]) true fun D cF=>
 Dp (At 271 [(0,q),(1,u),(2,D)]) fun E=>
 Dp (At 285 [(0,B),(1,E)]) fun F=>
 Df cF (Ar 285) true fun c cG=>
 Df cG (Ai 285 c F) false fun _ cH=>
 dend cH fun cI=>
 G c cI)∧(
 Dp (Aa 271 b 0) fun d=>
 Dq a (Ad 3 d) fun e=>
 Dp (Af .add 3 true e (.int .i64 1)) fun f=>
 Dp (Aa 271 b 1) fun g=>
 Dq a (Ad 3 g) fun h=>
 Dp (Af .mul 3 true (.int .i64 2) h) fun i=>
 Dp (Aa 271 b 2) fun j=>
 Dp (Ax 23 j none none none) fun l=>
 Dq a (Ay 89 9 l) fun n=>
 Dp (Aa 271 b 0) fun o=>
 Dq a (Ad 3 o) fun p=>
 Dp (Af .add 3 true p (.int .i64 1)) fun q=>
 Dp (Aa 271 b 1) fun r=>
 Dq a (Ad 3 r) fun s=>
 Dp (Af .mul 3 true (.int .i64 2) s) fun t=>
 Dp (Af .add 3 true t (.int .i64 1)) fun u=>
 Dp (Aa 271 b 2) fun v=>
 Dp (Ax 23 v none none none) fun x=>
 Dq a (Ay 89 9 x) fun y=>
 Df a (Al 41 2 [(0,(.string (ByteArray.mk #[108,101,102,116]))),(1,n)]) true fun z cJ=>
 Df cJ (Ah (fv 34) [z]) true fun A cK=>
 Dp (At 271 [(0,f),(1,i),(2,A)]) fun B=>
 Df cK (Al 41 2 [(0,(.string (ByteArray.mk #[114,105,103,104,116]))),(1,y)]) true fun C cL=>
 Df cL (Ar 285) true fun c cM=>
 Df cM (Ah (fv 34) [C]) true fun D cN=>
 Dp (At 271 [(0,q),(1,u),(2,D)]) fun E=>
 Dp (At 285 [(0,B),(1,E)]) fun F=>
 Df cN (Ai 285 c F) false fun _ cO=>
 dend cO fun cP=>
 G c cP)∧(
 Dp (Aa 271 b 0) fun d=>
 Dq a (Ad 3 d) fun e=>
 Dp (Af .add 3 true e (.int .i64 1)) fun f=>
 Dp (Aa 271 b 1) fun g=>
 Dq a (Ad 3 g) fun h=>
 Dp (Af .mul 3 true (.int .i64 2) h) fun i=>
 Dp (Aa 271 b 2) fun j=>
 Dp (Ax 23 j none none none) fun l=>
 Dq a (Ay 89 9 l) fun n=>
 Dp (Aa 271 b 0) fun o=>
 Dq a (Ad 3 o) fun p=>
 Dp (Af .add 3 true p (.int .i64 1)) fun q=>
 Dp (Aa 271 b 1) fun r=>
 Dq a (Ad 3 r) fun s=>
 Dp (Af .mul 3 true (.int .i64 2) s) fun t=>
 Dp (Af .add 3 true t (.int .i64 1)) fun u=>
 Dp (Aa 271 b 2) fun v=>
 Dp (Ax 23 v none none none) fun x=>
 Dq a (Ay 89 9 x) fun y=>
 Df a (Al 41 2 [(0,(.string (ByteArray.mk #[108,101,102,116]))),(1,n)]) true fun z cQ=>
 Df cQ (Ah (fv 34) [z]) true fun A cR=>
 Dp (At 271 [(0,f),(1,i),(2,A)]) fun B=>
 Df cR (Ar 285) true fun c cS=>
 Df cS (Al 41 2 [(0,(.string (ByteArray.mk #[114,105,103,104,116]))),(1,y)]) true fun C cT=>
 Df cT (Ah (fv 34) [C]) true fun D cU=>
 Dp (At 271 [(0,q),(1,u),(2,D)]) fun E=>
 Dp (At 285 [(0,B),(1,E)]) fun F=>
 Df cU (Ai 285 c F) false fun _ cV=>
 dend cV fun cW=>
 G c cW)∧(
 Dp (Aa 271 b 0) fun d=>
 Dq a (Ad 3 d) fun e=>
 Dp (Af .add 3 true e (.int .i64 1)) fun f=>
 Dp (Aa 271 b 1) fun g=>
 Dq a (Ad 3 g) fun h=>
 Dp (Af .mul 3 true (.int .i64 2) h) fun i=>
 Dp (Aa 271 b 2) fun j=>
 Dp (Ax 23 j none none none) fun l=>
 Dq a (Ay 89 9 l) fun n=>
 Dp (Aa 271 b 0) fun o=>
 Dq a (Ad 3 o) fun p=>
 Dp (Af .add 3 true p (.int .i64 1)) fun q=>
 Dp (Aa 271 b 1) fun r=>
 Dq a (Ad 3 r) fun s=>
 Dp (Af .mul 3 true (.int .i64 2) s) fun t=>
 Dp (Af .add 3 true t (.int .i64 1)) fun u=>
 Dp (Aa 271 b 2) fun v=>
 Dp (Ax 23 v none none none) fun x=>
 Dq a (Ay 89 9 x) fun y=>
 Df a (Al 41 2 [(0,(.string (ByteArray.mk #[108,101,102,116]))),(1,n)]) true fun z cX=>
 Df cX (Al 41 2 [(0,(.string (ByteArray.mk #[114,105,103,104,116]))),(1,y)]) true fun C cY=>
 Df cY (Ah (fv 34) [z]) true fun A cZ=>
 Dp (At 271 [(0,f),(1,i),(2,A)]) fun B=>
 Df cZ (Ah (fv 34) [C]) true fun D c0=>
 Dp (At 271 [(0,q),(1,u),(2,D)]) fun E=>
 Dp (At 285 [(0,B),(1,E)]) fun F=>
 Df c0 (Ar 285) true fun c c1=>
 Df c1 (Ai 285 c F) false fun _ c2=>
 dend c2 fun c3=>
 G c c3)∧(
 Dp (Aa 271 b 0) fun d=>
 Dq a (Ad 3 d) fun e=>
 Dp (Af .add 3 true e (.int .i64 1)) fun f=>
 Dp (Aa 271 b 1) fun g=>
 Dq a (Ad 3 g) fun h=>
 Dp (Af .mul 3 true (.int .i64 2) h) fun i=>
 Dp (Aa 271 b 2) fun j=>
 Dp (Ax 23 j none none none) fun l=>
 Dq a (Ay 89 9 l) fun n=>
 Dp (Aa 271 b 0) fun o=>
 Dq a (Ad 3 o) fun p=>
 Dp (Af .add 3 true p (.int .i64 1)) fun q=>
 Dp (Aa 271 b 1) fun r=>
 Dq a (Ad 3 r) fun s=>
 Dp (Af .mul 3 true (.int .i64 2) s) fun t=>
 Dp (Af .add 3 true t (.int .i64 1)) fun u=>
 Dp (Aa 271 b 2) fun v=>
 Dp (Ax 23 v none none none) fun x=>
 Dq a (Ay 89 9 x) fun y=>
 Df a (Al 41 2 [(0,(.string (ByteArray.mk #[108,101,102,116]))),(1,n)]) true fun z c4=>
 Df c4 (Al 41 2 [(0,(.string (ByteArray.mk #[114,105,103,104,116]))),(1,y)]) true fun C c5=>
 Df c5 (Ah (fv 34) [z]) true fun A c6=>
 Dp (At 271 [(0,f),(1,i),(2,A)]) fun B=>
 Df c6 (Ar 285) true fun c c7=>
 Df c7 (Ah (fv 34) [C]) true fun D c8=>
 Dp (At 271 [(0,q),(1,u),(2,D)]) fun E=>
 Dp (At 285 [(0,B),(1,E)]) fun F=>
 Df c8 (Ai 285 c F) false fun _ c9=>
 dend c9 fun dA=>
 G c dA)∧(
 Dp (Aa 271 b 0) fun d=>
 Dq a (Ad 3 d) fun e=>
 Dp (Af .add 3 true e (.int .i64 1)) fun f=>
 Dp (Aa 271 b 1) fun g=>
 Dq a (Ad 3 g) fun h=>
 Dp (Af .mul 3 true (.int .i64 2) h) fun i=>
 Dp (Aa 271 b 2) fun j=>
 Dp (Ax 23 j none none none) fun l=>
 Dq a (Ay 89 9 l) fun n=>
 Dp (Aa 271 b 0) fun o=>
 Dq a (Ad 3 o) fun p=>
 Dp (Af .add 3 true p (.int .i64 1)) fun q=>
 Dp (Aa 271 b 1) fun r=>
 Dq a (Ad 3 r) fun s=>
 Dp (Af .mul 3 true (.int .i64 2) s) fun t=>
 Dp (Af .add 3 true t (.int .i64 1)) fun u=>
 Dp (Aa 271 b 2) fun v=>
 Dp (Ax 23 v none none none) fun x=>
 Dq a (Ay 89 9 x) fun y=>
 Df a (Al 41 2 [(0,(.string (ByteArray.mk #[108,101,102,116]))),(1,n)]) true fun z dB=>
 Df dB (Al 41 2 [(0,(.string (ByteArray.mk #[114,105,103,104,116]))),(1,y)]) true fun C dC=>
 Df dC (Ar 285) true fun c dD=>
 Df dD (Ah (fv 34) [z]) true fun A dE=>
 Dp (At 271 [(0,f),(1,i),(2,A)]) fun B=>
 Df dE (Ah (fv 34) [C]) true fun D dF=>
 Dp (At 271 [(0,q),(1,u),(2,D)]) fun E=>
 Dp (At 285 [(0,B),(1,E)]) fun F=>
 Df dF (Ai 285 c F) false fun _ dG=>
 dend dG fun dH=>
 G c dH)∧(
 Dp (Aa 271 b 0) fun d=>
 Dq a (Ad 3 d) fun e=>
 Dp (Af .add 3 true e (.int .i64 1)) fun f=>
 Dp (Aa 271 b 1) fun g=>
 Dq a (Ad 3 g) fun h=>
 Dp (Af .mul 3 true (.int .i64 2) h) fun i=>
 Dp (Aa 271 b 2) fun j=>
 Dp (Ax 23 j none none none) fun l=>
 Dq a (Ay 89 9 l) fun n=>
 Dp (Aa 271 b 0) fun o=>
 Dq a (Ad 3 o) fun p=>
 Dp (Af .add 3 true p (.int .i64 1)) fun q=>
 Dp (Aa 271 b 1) fun r=>
 Dq a (Ad 3 r) fun s=>
 Dp (Af .mul 3 true (.int .i64 2) s) fun t=>
 Dp (Af .add 3 true t (.int .i64 1)) fun u=>
 Dp (Aa 271 b 2) fun v=>
 Dp (Ax 23 v none none none) fun x=>
 Dq a (Ay 89 9 x) fun y=>
 Df a (Al 41 2 [(0,(.string (ByteArray.mk #[108,101,102,116]))),(1,n)]) true fun z dI=>
 Df dI (Ar 285) true fun c dJ=>
 Df dJ (Ah (fv 34) [z]) true fun A dK=>
 Dp (At 271 [(0,f),(1,i),(2,A)]) fun B=>
 Df dK (Al 41 2 [(0,(.string (ByteArray.mk #[114,105,103,104,116]))),(1,y)]) true fun C dL=>
 Df dL (Ah (fv 34) [C]) true fun D dM=>
 Dp (At 271 [(0,q),(1,u),(2,D)]) fun E=>
 Dp (At 285 [(0,B),(1,E)]) fun F=>
 Df dM (Ai 285 c F) false fun _ dN=>
 dend dN fun dO=>
 G c dO)∧(
 Dp (Aa 271 b 0) fun d=>
 Dq a (Ad 3 d) fun e=>
 Dp (Af .add 3 true e (.int .i64 1)) fun f=>
 Dp (Aa 271 b 1) fun g=>
 Dq a (Ad 3 g) fun h=>
 Dp (Af .mul 3 true (.int .i64 2) h) fun i=>
 Dp (Aa 271 b 2) fun j=>
 Dp (Ax 23 j none none none) fun l=>
 Dq a (Ay 89 9 l) fun n=>
 Dp (Aa 271 b 0) fun o=>
 Dq a (Ad 3 o) fun p=>
 Dp (Af .add 3 true p (.int .i64 1)) fun q=>
 Dp (Aa 271 b 1) fun r=>
 Dq a (Ad 3 r) fun s=>
 Dp (Af .mul 3 true (.int .i64 2) s) fun t=>
 Dp (Af .add 3 true t (.int .i64 1)) fun u=>
 Dp (Aa 271 b 2) fun v=>
 Dp (Ax 23 v none none none) fun x=>
 Dq a (Ay 89 9 x) fun y=>
 Df a (Al 41 2 [(0,(.string (ByteArray.mk #[108,101,102,116]))),(1,n)]) true fun z dP=>
 Df dP (Ar 285) true fun c dQ=>
 Df dQ (Al 41 2 [(0,(.string (ByteArray.mk #[114,105,103,104,116]))),(1,y)]) true fun C dR=>
 Df dR (Ah (fv 34) [z]) true fun A dS=>
 Dp (At 271 [(0,f),(1,i),(2,A)]) fun B=>
 Df dS (Ah (fv 34) [C]) true fun D dT=>
 Dp (At 271 [(0,q),(1,u),(2,D)]) fun E=>
 Dp (At 285 [(0,B),(1,E)]) fun F=>
 Df dT (Ai 285 c F) false fun _ dU=>
 dend dU fun dV=>
 G c dV)∧(
 Dp (Aa 271 b 0) fun d=>
 Dq a (Ad 3 d) fun e=>
 Dp (Af .add 3 true e (.int .i64 1)) fun f=>
 Dp (Aa 271 b 1) fun g=>
 Dq a (Ad 3 g) fun h=>
 Dp (Af .mul 3 true (.int .i64 2) h) fun i=>
 Dp (Aa 271 b 2) fun j=>
 Dp (Ax 23 j none none none) fun l=>
 Dq a (Ay 89 9 l) fun n=>
 Dp (Aa 271 b 0) fun o=>
 Dq a (Ad 3 o) fun p=>
 Dp (Af .add 3 true p (.int .i64 1)) fun q=>
 Dp (Aa 271 b 1) fun r=>
 Dq a (Ad 3 r) fun s=>
 Dp (Af .mul 3 true (.int .i64 2) s) fun t=>
 Dp (Af .add 3 true t (.int .i64 1)) fun u=>
 Dp (Aa 271 b 2) fun v=>
 Dp (Ax 23 v none none none) fun x=>
 Dq a (Ay 89 9 x) fun y=>
 Df a (Al 41 2 [(0,(.string (ByteArray.mk #[114,105,103,104,116]))),(1,y)]) true fun C dW=>
 Df dW (Al 41 2 [(0,(.string (ByteArray.mk #[108,101,102,116]))),(1,n)]) true fun z dX=>
 Df dX (Ah (fv 34) [z]) true fun A dY=>
 Dp (At 271 [(0,f),(1,i),(2,A)]) fun B=>
 Df dY (Ah (fv 34) [C]) true fun D dZ=>
 Dp (At 271 [(0,q),(1,u),(2,D)]) fun E=>
 Dp (At 285 [(0,B),(1,E)]) fun F=>
 Df dZ (Ar 285) true fun c d0=>
 Df d0 (Ai 285 c F) false fun _ d1=>
 dend d1 fun d2=>
 G c d2)∧(
 Dp (Aa 271 b 0) fun d=>
 Dq a (Ad 3 d) fun e=>
 Dp (Af .add 3 true e (.int .i64 1)) fun f=>
 Dp (Aa 271 b 1) fun g=>
 Dq a (Ad 3 g) fun h=>
 Dp (Af .mul 3 true (.int .i64 2) h) fun i=>
 Dp (Aa 271 b 2) fun j=>
 Dp (Ax 23 j none none none) fun l=>
 Dq a (Ay 89 9 l) fun n=>
 Dp (Aa 271 b 0) fun o=>
 Dq a (Ad 3 o) fun p=>
 Dp (Af .add 3 true p (.int .i64 1)) fun q=>
 Dp (Aa 271 b 1) fun r=>
 Dq a (Ad 3 r) fun s=>
 Dp (Af .mul 3 true (.int .i64 2) s) fun t=>
 Dp (Af .add 3 true t (.int .i64 1)) fun u=>
 Dp (Aa 271 b 2) fun v=>
 Dp (Ax 23 v none none none) fun x=>
 Dq a (Ay 89 9 x) fun y=>
 Df a (Al 41 2 [(0,(.string (ByteArray.mk #[114,105,103,104,116]))),(1,y)]) true fun C d3=>
 Df d3 (Al 41 2 [(0,(.string (ByteArray.mk #[108,101,102,116]))),(1,n)]) true fun z d4=>
 Df d4 (Ah (fv 34) [z]) true fun A d5=>
 Dp (At 271 [(0,f),(1,i),(2,A)]) fun B=>
 Df d5 (Ar 285) true fun c d6=>
 Df d6 (Ah (fv 34) [C]) true fun D d7=>
 Dp (At 271 [(0,q),(1,u),(2,D)]) fun E=>
 Dp (At 285 [(0,B),(1,E)]) fun F=>
 Df d7 (Ai 285 c F) false fun _ d8=>
 dend d8 fun d9=>
 G c d9)∧(
 Dp (Aa 271 b 0) fun d=>
 Dq a (Ad 3 d) fun e=>
 Dp (Af .add 3 true e (.int .i64 1)) fun f=>
 Dp (Aa 271 b 1) fun g=>
 Dq a (Ad 3 g) fun h=>
 Dp (Af .mul 3 true (.int .i64 2) h) fun i=>
 Dp (Aa 271 b 2) fun j=>
 Dp (Ax 23 j none none none) fun l=>
 Dq a (Ay 89 9 l) fun n=>
 Dp (Aa 271 b 0) fun o=>
 Dq a (Ad 3 o) fun p=>
 Dp (Af .add 3 true p (.int .i64 1)) fun q=>
 Dp (Aa 271 b 1) fun r=>
 Dq a (Ad 3 r) fun s=>
 Dp (Af .mul 3 true (.int .i64 2) s) fun t=>
 Dp (Af .add 3 true t (.int .i64 1)) fun u=>
 Dp (Aa 271 b 2) fun v=>
 Dp (Ax 23 v none none none) fun x=>
 Dq a (Ay 89 9 x) fun y=>
 Df a (Al 41 2 [(0,(.string (ByteArray.mk #[114,105,103,104,116]))),(1,y)]) true fun C eA=>
 Df eA (Al 41 2 [(0,(.string (ByteArray.mk #[108,101,102,116]))),(1,n)]) true fun z eB=>
 Df eB (Ar 285) true fun c eC=>
 Df eC (Ah (fv 34) [z]) true fun A eD=>
 Dp (At 271 [(0,f),(1,i),(2,A)]) fun B=>
 Df eD (Ah (fv 34) [C]) true fun D eE=>
 Dp (At 271 [(0,q),(1,u),(2,D)]) fun E=>
 Dp (At 285 [(0,B),(1,E)]) fun F=>
 Df eE (Ai 285 c F) false fun _ eF=>
 dend eF fun eG=>
 G c eG)∧(
 Dp (Aa 271 b 0) fun d=>
 Dq a (Ad 3 d) fun e=>
 Dp (Af .add 3 true e (.int .i64 1)) fun f=>
 Dp (Aa 271 b 1) fun g=>
 Dq a (Ad 3 g) fun h=>
 Dp (Af .mul 3 true (.int .i64 2) h) fun i=>
 Dp (Aa 271 b 2) fun j=>
 Dp (Ax 23 j none none none) fun l=>
 Dq a (Ay 89 9 l) fun n=>
 Dp (Aa 271 b 0) fun o=>
 Dq a (Ad 3 o) fun p=>
 Dp (Af .add 3 true p (.int .i64 1)) fun q=>
 Dp (Aa 271 b 1) fun r=>
 Dq a (Ad 3 r) fun s=>
 Dp (Af .mul 3 true (.int .i64 2) s) fun t=>
 Dp (Af .add 3 true t (.int .i64 1)) fun u=>
 Dp (Aa 271 b 2) fun v=>
 Dp (Ax 23 v none none none) fun x=>
 Dq a (Ay 89 9 x) fun y=>
 Df a (Al 41 2 [(0,(.string (ByteArray.mk #[114,105,103,104,116]))),(1,y)]) true fun C eH=>
 Df eH (Ar 285) true fun c eI=>
 Df eI (Al 41 2 [(0,(.string (ByteArray.mk #[108,101,102,116]))),(1,n)]) true fun z eJ=>
 Df eJ (Ah (fv 34) [z]) true fun A eK=>
 Dp (At 271 [(0,f),(1,i),(2,A)]) fun B=>
 Df eK (Ah (fv 34) [C]) true fun D eL=>
 Dp (At 271 [(0,q),(1,u),(2,D)]) fun E=>
 Dp (At 285 [(0,B),(1,E)]) fun F=>
 Df eL (Ai 285 c F) false fun _ eM=>
 dend eM fun eN=>
 G c eN)∧(
 Dp (Aa 271 b 0) fun d=>
 Dq a (Ad 3 d) fun e=>
 Dp (Af .add 3 true e (.int .i64 1)) fun f=>
 Dp (Aa 271 b 1) fun g=>
 Dq a (Ad 3 g) fun h=>
 Dp (Af .mul 3 true (.int .i64 2) h) fun i=>
 Dp (Aa 271 b 2) fun j=>
 Dp (Ax 23 j none none none) fun l=>
 Dq a (Ay 89 9 l) fun n=>
 Dp (Aa 271 b 0) fun o=>
 Dq a (Ad 3 o) fun p=>
 Dp (Af .add 3 true p (.int .i64 1)) fun q=>
 Dp (Aa 271 b 1) fun r=>
 Dq a (Ad 3 r) fun s=>
 Dp (Af .mul 3 true (.int .i64 2) s) fun t=>
 Dp (Af .add 3 true t (.int .i64 1)) fun u=>
 Dp (Aa 271 b 2) fun v=>
 Dp (Ax 23 v none none none) fun x=>
 Dq a (Ay 89 9 x) fun y=>
 Df a (Ar 285) true fun c eO=>
 Df eO (Al 41 2 [(0,(.string (ByteArray.mk #[108,101,102,116]))),(1,n)]) true fun z eP=>
 Df eP (Ah (fv 34) [z]) true fun A eQ=>
 Dp (At 271 [(0,f),(1,i),(2,A)]) fun B=>
 Df eQ (Al 41 2 [(0,(.string (ByteArray.mk #[114,105,103,104,116]))),(1,y)]) true fun C eR=>
 Df eR (Ah (fv 34) [C]) true fun D eS=>
 Dp (At 271 [(0,q),(1,u),(2,D)]) fun E=>
 Dp (At 285 [(0,B),(1,E)]) fun F=>
 Df eS (Ai 285 c F) false fun _ W=>
 dend W fun X=>
 G c X)∧(
 Dp (Aa 271 b 0) fun d=>
 Dq a (Ad 3 d) fun e=>
 Dp (Af .add 3 true e (.int .i64 1)) fun f=>
 Dp (Aa 271 b 1) fun g=>
 Dq a (Ad 3 g) fun h=>
 Dp (Af .mul 3 true (.int .i64 2) h) fun i=>
 Dp (Aa 271 b 2) fun j=>
 Dp (Ax 23 j none none none) fun l=>
 Dq a (Ay 89 9 l) fun n=>
 Dp (Aa 271 b 0) fun o=>
 Dq a (Ad 3 o) fun p=>
 Dp (Af .add 3 true p (.int .i64 1)) fun q=>
 Dp (Aa 271 b 1) fun r=>
 Dq a (Ad 3 r) fun s=>
 Dp (Af .mul 3 true (.int .i64 2) s) fun t=>
 Dp (Af .add 3 true t (.int .i64 1)) fun u=>
 Dp (Aa 271 b 2) fun v=>
 Dp (Ax 23 v none none none) fun x=>
 Dq a (Ay 89 9 x) fun y=>
 Df a (Ar 285) true fun c Y=>
 Df Y (Al 41 2 [(0,(.string (ByteArray.mk #[108,101,102,116]))),(1,n)]) true fun z Z=>
 Df Z (Al 41 2 [(0,(.string (ByteArray.mk #[114,105,103,104,116]))),(1,y)]) true fun C aA=>
 Df aA (Ah (fv 34) [z]) true fun A aB=>
 Dp (At 271 [(0,f),(1,i),(2,A)]) fun B=>
 Df aB (Ah (fv 34) [C]) true fun D aC=>
 Dp (At 271 [(0,q),(1,u),(2,D)]) fun E=>
 Dp (At 285 [(0,B),(1,E)]) fun F=>
 Df aC (Ai 285 c F) false fun _ aD=>
 dend aD fun aE=>
 G c aE)∧(
 Dp (Aa 271 b 0) fun d=>
 Dq a (Ad 3 d) fun e=>
 Dp (Af .add 3 true e (.int .i64 1)) fun f=>
 Dp (Aa 271 b 1) fun g=>
 Dq a (Ad 3 g) fun h=>
 Dp (Af .mul 3 true (.int .i64 2) h) fun i=>
 Dp (Aa 271 b 2) fun j=>
 Dp (Ax 23 j none none none) fun l=>
 Dq a (Ay 89 9 l) fun n=>
 Dp (Aa 271 b 0) fun o=>
 Dq a (Ad 3 o) fun p=>
 Dp (Af .add 3 true p (.int .i64 1)) fun q=>
 Dp (Aa 271 b 1) fun r=>
 Dq a (Ad 3 r) fun s=>
 Dp (Af .mul 3 true (.int .i64 2) s) fun t=>
 Dp (Af .add 3 true t (.int .i64 1)) fun u=>
 Dp (Aa 271 b 2) fun v=>
 Dp (Ax 23 v none none none) fun x=>
 Dq a (Ay 89 9 x) fun y=>
 Df a (Ar 285) true fun c aF=>
 Df aF (Al 41 2 [(0,(.string (ByteArray.mk #[114,105,103,104,116]))),(1,y)]) true fun C aG=>
 Df aG (Al 41 2 [(0,(.string (ByteArray.mk #[108,101,102,116]))),(1,n)]) true fun z aH=>
 Df aH (Ah (fv 34) [z]) true fun A aI=>
 Dp (At 271 [(0,f),(1,i),(2,A)]) fun B=>
 Df aI (Ah (fv 34) [C]) true fun D aJ=>
 Dp (At 271 [(0,q),(1,u),(2,D)]) fun E=>
 Dp (At 285 [(0,B),(1,E)]) fun F=>
 Df aJ (Ai 285 c F) false fun _ aK=>
 dend aK fun aL=>
 G c aL))) fun c f8 aM=>
 m R (Aa 271 b 2) aM fun eT aN=>
 m R (Ad 23 eT) aN fun eU aO=>
 m R (Al 137 1 [(0,eU)]) aO fun eV aP=>
 m R (Ag 285 c (.int .i64 0)) aP fun eW aQ=>
 m R (Aa 271 eW 2) aQ fun eX aR=>
 m R (Ad 23 eX) aR fun eY aS=>
 m R (Ag 285 c (.int .i64 1)) aS fun eZ aT=>
 m R (Aa 271 eZ 2) aT fun e0 aU=>
 m R (Ad 23 e0) aU fun e1 aV=>
 m R (Al 137 2 [(0,eY),(1,e1)]) aV fun e2 aW=>
 m R (At 199 [(0,eV),(1,e2)]) aW fun e3 aX=>
 m R (Ah (fv 121) [bZ,e3]) aX fun f5 J=>
 Dp (Ao U) fun e4=>
 Dp (Aa 247 e4 0) fun e5=>
 Dq J (Ad 3 e5) fun e6=>
 Dp (Aa 271 b 0) fun e7=>
 Dq J (Ad 3 e7) fun e8=>
 Dp (Af .sub 3 false e6 e8) fun e9=>
 Dp (Af .sub 3 true e9 (.int .i64 1)) fun fA=>
 Dp (Af .shr 3 false fT fA) fun fB=>
 Dp (Af .and 3 true fB (.int .i64 1)) fun Q=>
 dend J fun aY=>
 mj2 (fun T=>
 m R (Af .eql 3 true Q (.int .i64 0)) aY fun fC K=>
 mif fC (
 m R (Ag 285 c (.int .i64 1)) K fun fD aZ=>
 m R (Ad 271 fD) aZ fun fE a0=>
 m R (Al 243 1 [(0,fE)]) a0 fun fF a1=>
 m R (Ak .append #[243,243] 243 [false,false] [H,fF]) a1 fun fG a2=>
 T I fG a2) (
 m R (Ag 285 c (.int .i64 0)) K fun fH a3=>
 m R (Ad 271 fH) a3 fun fI a4=>
 m R (Al 243 1 [(0,fI)]) a4 fun fJ a5=>
 m R (Ak .append #[243,243] 243 [false,false] [I,fJ]) a5 fun fK a6=>
 T fK H a6)) fun I H f6 a7=>
 m R (Ag 285 c Q) a7 fun fL a8=>
 m R (Ad 271 fL) a8 fun fM a9=>
 m R (Ai 271 b fM) a9 fun _ bA=>
 O I H bA) (
 m R (Aa 271 b 2) a fun fN bB=>
 m R (Ax 23 fN none none none) bB fun fO bC=>
 m R (Ay 89 9 fO) bC fun fP bD=>
 m R (Al 41 2 [(0,(.string (ByteArray.mk #[107,101,121]))),(1,fP)]) bD fun fQ bE=>
 m R (Ah (fv 34) [fQ]) bE fun fR bF=>
 m R (Ar 23) bF fun L bG=>
 m R (Ai 23 L fR) bG fun _ bH=>
 m R (Aa 271 b 2) bH fun bI bJ=>
 m R (Ad 23 bI) bJ fun bK bL=>
 m R (Al 137 1 [(0,bK)]) bL fun bM bN=>
 m R (Ad 23 L) bN fun bO bP=>
 m R (Al 137 1 [(0,bO)]) bP fun bQ bR=>
 m R (At 199 [(0,bM),(1,bQ)]) bR fun bS bT=>
 m R (Ah (fv 121) [bZ,bS]) bT fun f2 bU=>
 m R (Ah (fv 198) [H]) bU fun f3 M=>
 ∃ S:Rl,
 dqS prog S M (Ad 23 L) fun bV=>
 dfS prog S M (Ak .append #[243,243] 243 [false,false] [I,H]) true fun bW bX=>
 dfS prog S bX (Ai 23 b0 bV) false fun _ bY=>
 dend bY fun N=>
 rcell prog 23 b0 N fun f4=>
 R (.returned (.tuple #[f4,bW])) N)
variable {x0 x1 x2 x3 x4 x5 x6 x7 x8 x9:Value} {w:World} {R:Ending→World→Prop}
theorem aAf (h:Pc x0 x1 x2 x3 w R):Calls prog 158 #[x0,x1,x2,x3] w R:=cc (mkA Tryz.f158 [(3,[11,12],P_ 95+P_ 15-P_ 23-P_ 11)] [(5,[13],72057592964194304),(10,[11,12],P_ 92+P_ 13-P_ 80-P_ 11)] [(3,[0,3,0,0,0,3,0]),(6,[0,0,0,0,3,0,3,0,0,0,0,0]),(14,[3,0,0,2,4,0])] [(4,[([0,1,2,3,4,5,6,7,8,12,13,14,15,16,17,18,19,20,21,9,10,11,22,23,24,25,26,27],[0,3,0,0,3,0,0,0,3,2,5,0,0,3,0,0,3,0,0,0,0,3,8,11,0,0,14,16]),([0,1,2,3,4,5,6,7,8,12,13,14,15,16,17,18,19,20,21,9,10,11,22,26,23,24,25,27],[0,3,0,0,3,0,0,0,3,2,5,0,0,3,0,0,3,0,0,0,0,3,8,14,0,0,11,16]),([0,1,2,3,4,5,6,7,8,12,13,14,15,16,17,18,19,20,21,9,10,11,26,22,23,24,25,27],[0,3,0,0,3,0,0,0,3,2,5,0,0,3,0,0,3,0,0,0,0,3,11,14,0,0,8,16]),([0,1,2,3,4,5,6,7,8,12,13,14,15,16,17,18,19,20,21,9,22,10,11,23,24,25,26,27],[0,3,0,0,3,0,0,0,3,2,8,0,0,3,0,0,3,0,0,0,0,3,5,11,0,0,14,16]),([0,1,2,3,4,5,6,7,8,12,13,14,15,16,17,18,19,20,21,9,22,10,11,26,23,24,25,27],[0,3,0,0,3,0,0,0,3,2,8,0,0,3,0,0,3,0,0,0,0,3,5,14,0,0,11,16]),([0,1,2,3,4,5,6,7,8,12,13,14,15,16,17,18,19,20,21,9,22,26,10,11,23,24,25,27],[0,3,0,0,3,0,0,0,3,2,11,0,0,3,0,0,3,0,0,0,0,3,5,14,0,0,8,16]),([0,1,2,3,4,5,6,7,8,12,13,14,15,16,17,18,19,20,21,9,26,10,11,22,23,24,25,27],[0,3,0,0,3,0,0,0,3,2,8,0,0,3,0,0,3,0,0,0,0,3,11,14,0,0,5,16]),([0,1,2,3,4,5,6,7,8,12,13,14,15,16,17,18,19,20,21,9,26,22,10,11,23,24,25,27],[0,3,0,0,3,0,0,0,3,2,11,0,0,3,0,0,3,0,0,0,0,3,8,14,0,0,5,16]),([0,1,2,3,4,5,6,7,8,12,13,14,15,16,17,18,19,20,21,22,9,10,11,23,24,25,26,27],[0,3,0,0,3,0,0,0,3,5,8,0,0,3,0,0,3,0,0,0,0,3,2,11,0,0,14,16]),([0,1,2,3,4,5,6,7,8,12,13,14,15,16,17,18,19,20,21,22,9,10,11,26,23,24,25,27],[0,3,0,0,3,0,0,0,3,5,8,0,0,3,0,0,3,0,0,0,0,3,2,14,0,0,11,16]),([0,1,2,3,4,5,6,7,8,12,13,14,15,16,17,18,19,20,21,22,9,26,10,11,23,24,25,27],[0,3,0,0,3,0,0,0,3,5,11,0,0,3,0,0,3,0,0,0,0,3,2,14,0,0,8,16]),([0,1,2,3,4,5,6,7,8,12,13,14,15,16,17,18,19,20,21,22,26,9,10,11,23,24,25,27],[0,3,0,0,3,0,0,0,3,8,11,0,0,3,0,0,3,0,0,0,0,3,2,14,0,0,5,16]),([0,1,2,3,4,5,6,7,8,12,13,14,15,16,17,18,19,20,21,26,9,10,11,22,23,24,25,27],[0,3,0,0,3,0,0,0,3,5,8,0,0,3,0,0,3,0,0,0,0,3,11,14,0,0,2,16]),([0,1,2,3,4,5,6,7,8,12,13,14,15,16,17,18,19,20,21,26,9,22,10,11,23,24,25,27],[0,3,0,0,3,0,0,0,3,5,11,0,0,3,0,0,3,0,0,0,0,3,8,14,0,0,2,16]),([0,1,2,3,4,5,6,7,8,12,13,14,15,16,17,18,19,20,21,26,22,9,10,11,23,24,25,27],[0,3,0,0,3,0,0,0,3,8,11,0,0,3,0,0,3,0,0,0,0,3,5,14,0,0,2,16])])] [14]) [x0,x1,x2,x3] Tryz.func158 h
def aDc (e f:Value) (w:World) (R:Ending→World→Prop):Prop:=
 m R (Bo 23 e) w fun g h=>
 m R (Bo 23 f) h fun i j=>
 m R (Ar 23) j fun b a=>
 Dp (Ax 23 g none none none) fun l=>
 Dq a (Ay 89 9 l) fun n=>
 Dp (Ax 23 i none none none) fun o=>
 Dq a (Ay 89 9 o) fun p=>
 Df a (Al 41 1 [(0,p)]) true fun q r=>
 Df r (Ah (fv 169) [n,q]) false fun c s=>
 Df s (Ai 23 b c) false fun _ t=>
 dend t fun d=>
 rcell prog 23 b d fun u=>
 R (.returned u) d
theorem aOf (h:aDc x0 x1 w R):Calls prog 159 #[x0,x1] w R:=cc (mkA Tryz.f159 [] [] [(1,[0,3,0,3,2,4,7])] [] []) [x0,x1] Tryz.func159 h
def Mk (b B:Value) (w:World) (R:Ending→World→Prop):Prop:=
 m R (Bo 118 B) w fun a C=>
 m R (Aa 118 a 0) C fun D E=>
 m R (Ad 3 D) E fun F G=>
 m R (Af .gtr 3 true F (.int .i64 0)) G fun H I=>
 m R (Ah (fv 199) [b,H]) I fun U J=>
 m R (Aa 118 a 0) J fun K L=>
 m R (Ad 3 K) L fun c M=>
 m R (Af .gtr 3 true c (.int .i64 0)) M fun d e=>
 mif d (
 m R (Aa 118 a 0) e fun f N=>
 m R (Ad 3 f) N fun g h=>
 m R (Ah (fv 85) [b,g]) h fun O i=>
 m R (Aa 118 a 1) i fun j l=>
 m R (Ad 23 j) l fun n o=>
 m R (Ah (fv 84) [b,n]) o fun Q p=>
 m R (Aa 118 a 2) p fun q r=>
 m R (Ad 23 q) r fun s t=>
 m R (Ah (fv 84) [b,s]) t fun S u=>
 m R (Aa 118 a 3) u fun v x=>
 m R (Ad 23 v) x fun y z=>
 m R (Ah (fv 84) [b,y]) z fun T A=>
 R (.returned (.tuple #[])) A) (
 R (.returned (.tuple #[])) e)
theorem Vp (h:Mk x0 x1 w R):Calls prog 160 #[x0,x1] w R:=cc ⟨[],[],[],[],[]⟩ [x0,x1] Tryz.func160 h
def Js (b O:Value) (w:World) (R:Ending→World→Prop):Prop:=
 m R (Bo 222 O) w fun a Q=>
 m R (Aa 222 a 0) Q fun S T=>
 m R (Ad 4 S) T fun U V=>
 m R (Ah (fv 199) [b,U]) V fun aF W=>
 m R (Aa 222 a 0) W fun g X=>
 m R (Ad 4 g) X fun h i=>
 mif h (
 m R (Aa 222 a 1) i fun j Y=>
 m R (Ad 23 j) Y fun l Z=>
 m R (Ah (fv 84) [b,l]) Z fun aB aA=>
 m R (Aa 222 a 2) aA fun n o=>
 m R (Ad 23 n) o fun p q=>
 m R (Ah (fv 84) [b,p]) q fun aC r=>
 m R (Aa 222 a 3) r fun s t=>
 m R (Ad 133 s) t fun u v=>
 m R (Ak .len #[133] 3 [false] [u]) v fun x y=>
 m R (Ah (fv 85) [b,x]) y fun aD z=>
 m R (Aa 222 a 3) z fun A B=>
 m R (Ad 133 A) B fun e C=>
 m R (Ak .len #[133] 3 [false] [e]) C fun D E=>
 ml1 (.int .i64 0) E fun c aG F d=>
 m R (Af .lss 3 false c D) F fun G f=>
 mif G (
 m R (Ag 133 e c) f fun H I=>
 m R (Ad 3 H) I fun J K=>
 m R (Ah (fv 85) [b,J]) K fun aE L=>
 m R (Af .add 3 true c (.int .i64 1)) L fun M N=>
 d M N) (
 R (.returned (.tuple #[])) f)) (
 R (.returned (.tuple #[])) i)
theorem Rx (h:Js x0 x1 w R):Calls prog 161 #[x0,x1] w R:=cc ⟨[(7,[28],68451041312)],[],[],[],[]⟩ [x0,x1] Tryz.func161 h
def Eg (a:Value) (w:World) (R:Ending→World→Prop):Prop:=
 m R (Af .eql 137 true a (.slice none 0 0)) w fun c b=>
 mif c (
 R (.returned (.slice none 0 0)) b) (
 m R (Al 137 0 []) b fun d e=>
 m R (Ak .append #[137,137] 137 [false,false] [d,a]) e fun f g=>
 R (.returned f) g)
theorem Hb (h:Eg x0 w R):Calls prog 162 #[x0] w R:=cc ⟨[],[],[],[],[]⟩ [x0] Tryz.func162 h
def Tw (z f:Value) (w:World) (R:Ending→World→Prop):Prop:=
 m R (Bo 23 z) w fun A B=>
 m R (Ad 23 A) B fun C D=>
 m R (Ah (fv 126) [C,(.string (ByteArray.mk #[115,116,114,101,97,109])),(.string (ByteArray.mk #[]))]) D fun E F=>
 m R (Ak .len #[9] 3 [false] [f]) F fun g G=>
 m R (Ah (fv 200) [E,g]) G fun h H=>
 m R (Ak .len #[9] 3 [false] [f]) H fun e I=>
 m R (Jz 89 e e) I fun a J=>
 m R (Ak .copy #[89,9] 3 [false,false] [a,f]) J fun M K=>
 m R (Ak .len #[89] 3 [false] [a]) K fun i L=>
 ml1 (.int .i64 0) L fun b N j d=>
 m R (Af .lss 3 false b i) j fun l c=>
 mif l (
 Dp (Ag 89 a b) fun n=>
 Dq c (Ad 5 n) fun o=>
 Dp (Cq 9 h b) fun p=>
 Dp (Af .xor 5 false o p) fun q=>
 Dp (Ag 89 a b) fun r=>
 Df c (Ai 5 r q) false fun _ s=>
 dend s fun t=>
 m R (Af .add 3 true b (.int .i64 1)) t fun u v=>
 d u v) (
 m R (Ay 89 9 a) c fun x y=>
 R (.returned x) y)
theorem aEr (h:Tw x0 x1 w R):Calls prog 163 #[x0,x1] w R:=cc (mkA Tryz.f163 [(5,[21],17177772160)] [] [(7,[0,0,0,3,0,0,0,0,0,1])] [] []) [x0,x1] Tryz.func163 h
def aAg (e f g:Value) (w:World) (R:Ending→World→Prop):Prop:=
 m R (Bo 23 e) w fun h i=>
 m R (Ad 23 h) i fun j l=>
 m R (Ah (fv 126) [j,(.string (ByteArray.mk #[116,97,103])),(.string (ByteArray.mk #[]))]) l fun n o=>
 m R (Ah (fv 126) [n,f,g]) o fun a p=>
 m R (Ar 23) p fun b q=>
 m R (Ai 23 b a) q fun _ r=>
 m R (Ax 23 b none (some (.int .i64 16)) none) r fun c s=>
 m R (Ay 89 9 c) s fun d t=>
 R (.returned d) t
theorem aJr (h:aAg x0 x1 x2 w R):Calls prog 164 #[x0,x1,x2] w R:=cc ⟨[],[],[],[],[]⟩ [x0,x1,x2] Tryz.func164 h
def aAh (a b:Value) (w:World) (R:Ending→World→Prop):Prop:=
 m R (Bo 3 a) w fun c d=>
 m R (Bo 3 b) d fun e f=>
 m R (Gc (.func 201) [] [c,e]) f fun g h=>
 R (.returned g) h
theorem aJs (h:aAh x0 x1 w R):Calls prog 165 #[x0,x1] w R:=cc ⟨[],[],[],[],[]⟩ [x0,x1] Tryz.func165 h
def Qw (e g:Value) (w:World) (R:Ending→World→Prop):Prop:=
 m R (Af .geq 3 true e (.int .i64 1)) w fun f h=>
 Gt R f (Bp e) h fun B i=>
 Gt R f (Af .leq 3 true B (.int .i64 64)) i fun C D=>
 m R (Bd f C (.bool false)) D fun b j=>
 Gt R b (Bp g) j fun l n=>
 Gt R b (Af .geq 3 true l (.int .i64 0)) n fun o E=>
 m R (Bd b o (.bool false)) E fun a p=>
 Gt R a (Bp g) p fun q r=>
 Gt R a (Bp e) r fun s t=>
 Gt R a (Af .mul 3 true (.int .i64 2) s) t fun u c=>
 Gt R a (Af .sub 3 true u (.int .i64 2)) c fun v d=>
 Gt R a (Af .leq 3 false q v) d fun x y=>
 m R (Bd a x (.bool false)) y fun z A=>
 R (.returned z) A
theorem aCb (h:Qw x0 x1 w R):Calls prog 166 #[x0,x1] w R:=cc ⟨[],[],[],[],[]⟩ [x0,x1] Tryz.func166 h
def Qx (o p c:Value) (w:World) (R:Ending→World→Prop):Prop:=
 m R (Ah (fv 203) [o,p]) w fun b q=>
 m R (As b 0) q fun d r=>
 m R (As b 1) r fun e s=>
 m R (Af .geq 3 false c d) s fun a f=>
 Gt R a (Bp c) f fun g h=>
 Gt R a (Bp e) h fun i j=>
 Gt R a (Af .lss 3 false g i) j fun l t=>
 m R (Bd a l (.bool false)) t fun n u=>
 R (.returned n) u
theorem aCc (h:Qx x0 x1 x2 w R):Calls prog 167 #[x0,x1,x2] w R:=cc ⟨[],[],[],[],[]⟩ [x0,x1,x2] Tryz.func167 h
def Qy (c d:Value) (w:World) (R:Ending→World→Prop):Prop:=
 m R (Bo 23 c) w fun e f=>
 m R (Ar 23) f fun a g=>
 m R (Ax 23 e none none none) g fun h i=>
 m R (Ay 89 9 h) i fun j l=>
 m R (Al 41 3 [(0,(.string (ByteArray.mk #[107,101,109]))),(1,j),(2,d)]) l fun n o=>
 m R (Ah (fv 34) [n]) o fun p q=>
 m R (Ai 23 a p) q fun _ b=>
 rcell prog 23 a b fun r=>
 R (.returned r) b
theorem aCd (h:Qy x0 x1 w R):Calls prog 168 #[x0,x1] w R:=cc ⟨[],[],[],[],[]⟩ [x0,x1] Tryz.func168 h
def aAi (b aX:Value) (w:World) (R:Ending→World→Prop):Prop:=
 m R (Ar 23) w fun i aY=>
 mj1 (fun j=>
 m R (Ak .len #[9] 3 [false] [b]) aY fun l aZ=>
 m R (Af .gtr 3 true l (.int .i64 64)) aZ fun n o=>
 mif n (
 m R (Al 41 1 [(0,b)]) o fun p a0=>
 m R (Ah (fv 34) [p]) a0 fun q a1=>
 m R (Ar 23) a1 fun r a2=>
 m R (Ai 23 r q) a2 fun _ a3=>
 m R (Ax 23 r none none none) a3 fun s a4=>
 m R (Ay 89 9 s) a4 fun t a5=>
 j t a5) (
 j b o)) fun b a9 u=>
 m R (Ar 168) u fun d v=>
 m R (Ar 168) v fun e x=>
 m R (Ax 168 d none none none) x fun y z=>
 m R (Ak .copy #[89,9] 3 [false,false] [y,b]) z fun a7 A=>
 m R (Ax 168 e none none none) A fun B C=>
 m R (Ak .copy #[89,9] 3 [false,false] [B,b]) C fun a8 D=>
 ml1 (.int .i64 0) D fun a bA E f=>
 m R (Af .lss 3 true a (.int .i64 64)) E fun F g=>
 mif F (
 m R (Ag 168 d a) g fun G H=>
 m R (Ad 5 G) H fun I J=>
 m R (Af .xor 5 true I (.int .u8 54)) J fun K L=>
 m R (Ag 168 d a) L fun M N=>
 m R (Ai 5 M K) N fun _ O=>
 m R (Ag 168 e a) O fun Q S=>
 m R (Ad 5 Q) S fun T U=>
 m R (Af .xor 5 true T (.int .u8 92)) U fun V W=>
 m R (Ag 168 e a) W fun X Y=>
 m R (Ai 5 X V) Y fun _ Z=>
 m R (Af .add 3 true a (.int .i64 1)) Z fun aA aB=>
 f aA aB) (
 m R (Ax 168 d none none none) g fun aC aD=>
 m R (Ay 89 9 aC) aD fun aE aF=>
 m R (Al 41 1 [(0,aE)]) aF fun aG aH=>
 m R (Ak .append #[41,41] 41 [false,false] [aG,aX]) aH fun aI aJ=>
 m R (Ah (fv 34) [aI]) aJ fun aK aL=>
 m R (Ar 23) aL fun aM aN=>
 m R (Ai 23 aM aK) aN fun _ c=>
 Dp (Ax 168 e none none none) fun aO=>
 Dq c (Ay 89 9 aO) fun aP=>
 Dp (Ax 23 aM none none none) fun aQ=>
 Dq c (Ay 89 9 aQ) fun aR=>
 Df c (Al 41 2 [(0,aP),(1,aR)]) false fun aS aT=>
 Df aT (Ah (fv 34) [aS]) false fun aU aV=>
 Df aV (Ai 23 i aU) false fun _ aW=>
 dend aW fun h=>
 rcell prog 23 i h fun a6=>
 R (.returned a6) h)
theorem aJt (h:aAi x0 x1 w R):Calls prog 169 #[x0,x1] w R:=cc (mkA Tryz.f169 [(8,[24],274861129984)] [(4,[0],261153)] [(14,[0,3,0,3,1,4,7])] [] []) [x0,x1] Tryz.func169 h
def Xf (c d:Value) (w:World) (R:Ending→World→Prop):Prop:=
 m R (Bo 23 c) w fun e f=>
 m R (Ar 23) f fun a g=>
 m R (Ax 23 e none none none) g fun h i=>
 m R (Ay 89 9 h) i fun j l=>
 m R (Al 41 2 [(0,(.string (ByteArray.mk #[115,105,103,110]))),(1,d)]) l fun n o=>
 m R (Ah (fv 169) [j,n]) o fun p q=>
 m R (Ai 23 a p) q fun _ b=>
 rcell prog 23 a b fun r=>
 R (.returned r) b
theorem aHc (h:Xf x0 x1 w R):Calls prog 170 #[x0,x1] w R:=cc ⟨[],[],[],[],[]⟩ [x0,x1] Tryz.func170 h
def Ml (b:Value) (w:World) (R:Ending→World→Prop):Prop:=
 m R (Ar 166) w fun f d9=>
 ml1 (.int .i64 0) d9 fun i eI eA y=>
 m R (Af .lss 3 true i (.int .i64 16)) eA fun bT bU=>
 mif bT (
 m R (Ao b) bU fun bV eB=>
 m R (Aa 170 bV 1) eB fun bW eC=>
 m R (Af .mul 3 true (.int .i64 4) i) eC fun bX eD=>
 m R (Ax 168 bW (some bX) none none) eD fun j o=>
 Dp (Ag 89 j (.int .i64 0)) fun bY=>
 Dq o (Ad 5 bY) fun bZ=>
 Dp (Ay 5 164 bZ) fun b0=>
 Dp (Af .shl 164 true b0 (.int .u64 24)) fun b1=>
 Dp (Ag 89 j (.int .i64 1)) fun b2=>
 Dq o (Ad 5 b2) fun b3=>
 Dp (Ay 5 164 b3) fun b4=>
 Dp (Af .shl 164 true b4 (.int .u64 16)) fun b5=>
 Dp (Af .or 164 false b1 b5) fun b6=>
 Dp (Ag 89 j (.int .i64 2)) fun b7=>
 Dq o (Ad 5 b7) fun b8=>
 Dp (Ay 5 164 b8) fun b9=>
 Dp (Af .shl 164 true b9 (.int .u64 8)) fun cA=>
 Dp (Af .or 164 false b6 cA) fun cB=>
 Dp (Ag 89 j (.int .i64 3)) fun cC=>
 Dq o (Ad 5 cC) fun cD=>
 Dp (Ay 5 164 cD) fun cE=>
 Dp (Af .or 164 false cB cE) fun cF=>
 Dp (Ag 166 f i) fun cG=>
 Df o (Ai 164 cG cF) false fun _ eE=>
 dend eE fun eF=>
 m R (Af .add 3 true i (.int .i64 1)) eF fun cH cI=>
 y cH cI) (
 ml1 (.int .i64 16) bU fun g eJ cJ z=>
 m R (Af .lss 3 true g (.int .i64 64)) cJ fun cK a=>
 mif cK (
 Dp (Af .sub 3 true g (.int .i64 15)) fun cL=>
 Dp (Ag 166 f cL) fun cM=>
 Dq a (Ad 164 cM) fun p=>
 Dp (Af .sub 3 true g (.int .i64 2)) fun cN=>
 Dp (Ag 166 f cN) fun cO=>
 Dq a (Ad 164 cO) fun q=>
 dend a fun r=>
 Dp (Af .sub 3 true g (.int .i64 16)) fun cP=>
 Dp (Ag 166 f cP) fun cQ=>
 Dq r (Ad 164 cQ) fun cR=>
 Dp (Af .sub 3 true g (.int .i64 7)) fun cS=>
 Dp (Ag 166 f cS) fun cT=>
 Dq r (Ad 164 cT) fun cU=>
 Dp (Af .add 164 false cR cU) fun cV=>
 Df r (Ah (fv 204) [p,(.int .i64 (-7))]) true fun cW cX=>
 Df cX (Ah (fv 204) [p,(.int .i64 (-18))]) true fun cY cZ=>
 Dp (Af .xor 164 false cW cY) fun c0=>
 Dp (Af .shr 164 true p (.int .u64 3)) fun c1=>
 Dp (Af .xor 164 false c0 c1) fun c2=>
 Dp (Af .add 164 false cV c2) fun c3=>
 Df cZ (Ah (fv 204) [q,(.int .i64 (-17))]) true fun c4 c5=>
 Df c5 (Ah (fv 204) [q,(.int .i64 (-19))]) true fun c6 c7=>
 Dp (Af .xor 164 false c4 c6) fun c8=>
 Dp (Af .shr 164 true q (.int .u64 10)) fun c9=>
 Dp (Af .xor 164 false c8 c9) fun dA=>
 Dp (Af .add 164 false c3 dA) fun dB=>
 Dp (Ag 166 f g) fun dC=>
 Df c7 (Ai 164 dC dB) false fun _ dD=>
 dend dD fun dE=>
 m R (Af .add 3 true g (.int .i64 1)) dE fun dF dG=>
 z dF dG) (
 Dp (Ao b) fun dH=>
 Dp (Aa 170 dH 0) fun dI=>
 Dp (Ag 165 dI (.int .i64 0)) fun dJ=>
 Dq a (Ad 164 dJ) fun F=>
 Dp (Ao b) fun G=>
 Dp (Aa 170 G 0) fun H=>
 Dp (Ag 165 H (.int .i64 1)) fun I=>
 Dq a (Ad 164 I) fun J=>
 Dp (Ao b) fun K=>
 Dp (Aa 170 K 0) fun L=>
 Dp (Ag 165 L (.int .i64 2)) fun M=>
 Dq a (Ad 164 M) fun N=>
 Dp (Ao b) fun O=>
 Dp (Aa 170 O 0) fun Q=>
 Dp (Ag 165 Q (.int .i64 3)) fun S=>
 Dq a (Ad 164 S) fun T=>
 Dp (Ao b) fun U=>
 Dp (Aa 170 U 0) fun V=>
 Dp (Ag 165 V (.int .i64 4)) fun W=>
 Dq a (Ad 164 W) fun X=>
 Dp (Ao b) fun Y=>
 Dp (Aa 170 Y 0) fun Z=>
 Dp (Ag 165 Z (.int .i64 5)) fun aA=>
 Dq a (Ad 164 aA) fun aB=>
 Dp (Ao b) fun aC=>
 Dp (Aa 170 aC 0) fun aD=>
 Dp (Ag 165 aD (.int .i64 6)) fun aE=>
 Dq a (Ad 164 aE) fun aF=>
 Dp (Ao b) fun aG=>
 Dp (Aa 170 aG 0) fun aH=>
 Dp (Ag 165 aH (.int .i64 7)) fun aI=>
 Dq a (Ad 164 aI) fun aJ=>
 dend a fun dK=>
 ml9 F J N T X aB aF aJ (.int .i64 0) dK fun h A l B c s t C e eG dL u=>
 m R (Af .lss 3 true e (.int .i64 64)) dL fun aK n=>
 mif aK (
 Df n (Ah (fv 204) [c,(.int .i64 (-6))]) true fun aL dM=>
 Df dM (Ah (fv 204) [c,(.int .i64 (-11))]) true fun aM dN=>
 Dp (Af .xor 164 false aL aM) fun aN=>
 Df dN (Ah (fv 204) [c,(.int .i64 (-25))]) true fun aO dO=>
 Dp (Af .xor 164 false aN aO) fun aP=>
 Dp (Af .add 164 false C aP) fun aQ=>
 Dp (Af .and 164 false c s) fun aR=>
 Dp (Cz .xor c) fun aS=>
 Dp (Af .and 164 false aS t) fun aT=>
 Dp (Af .xor 164 false aR aT) fun aU=>
 Dp (Af .add 164 false aQ aU) fun aV=>
 Dp (Ao b) fun aW=>
 Dp (Aa 170 aW 3) fun aX=>
 Dp (Ag 166 aX e) fun aY=>
 Dq n (Ad 164 aY) fun aZ=>
 Dp (Af .add 164 false aV aZ) fun a0=>
 Dp (Ag 166 f e) fun a1=>
 Dq n (Ad 164 a1) fun a2=>
 Dp (Af .add 164 false a0 a2) fun v=>
 dend dO fun dP=>
 m R (Ah (fv 204) [h,(.int .i64 (-2))]) dP fun a3 dQ=>
 m R (Ah (fv 204) [h,(.int .i64 (-13))]) dQ fun a4 dR=>
 m R (Af .xor 164 false a3 a4) dR fun a5 dS=>
 m R (Ah (fv 204) [h,(.int .i64 (-22))]) dS fun a6 dT=>
 m R (Af .xor 164 false a5 a6) dT fun a7 dU=>
 m R (Af .and 164 false h A) dU fun a8 dV=>
 m R (Af .and 164 false h l) dV fun a9 dW=>
 m R (Af .xor 164 false a8 a9) dW fun bA dX=>
 m R (Af .and 164 false A l) dX fun bB dY=>
 m R (Af .xor 164 false bA bB) dY fun bC dZ=>
 m R (Af .add 164 false a7 bC) dZ fun bD d0=>
 m R (Af .add 164 false B v) d0 fun bE d1=>
 m R (Af .add 164 false v bD) d1 fun bF d2=>
 m R (Af .add 3 true e (.int .i64 1)) d2 fun bG d3=>
 u bF h A l bE c s t bG d3) (
 m R (At 165 [(0,h),(1,A),(2,l),(3,B),(4,c),(5,s),(6,t),(7,C)]) n fun bH d4=>
 ml1 (.int .i64 0) d4 fun d eH d5 x=>
 m R (Af .lss 3 true d (.int .i64 8)) d5 fun bI D=>
 mif bI (
 m R (Cq 165 bH d) D fun bJ E=>
 Dp (Ao b) fun bK=>
 Dp (Aa 170 bK 0) fun bL=>
 Dp (Ag 165 bL d) fun bM=>
 Dq E (Ad 164 bM) fun bN=>
 Dp (Af .add 164 false bN bJ) fun bO=>
 Dp (Ao b) fun bP=>
 Dp (Aa 170 bP 0) fun bQ=>
 Dp (Ag 165 bQ d) fun bR=>
 Df E (Ai 164 bR bO) false fun _ d6=>
 dend d6 fun d7=>
 m R (Af .add 3 true d (.int .i64 1)) d7 fun bS d8=>
 x bS d8) (
 R (.returned (.tuple #[])) D))))
theorem Vq (h:Ml x0 w R):Calls prog 171 #[x0] w R:=cc (mkA Tryz.f171 [(2,[21],36028797016866840),(8,[5],P_ 96+P_ 8-P_ 55-P_ 5),(14,[8,9,10,11,12,13,14,15,136],P_ 202+P_ 19-P_ 136-P_ 8),(21,[211],P_ 227+P_ 21-P_ 211-P_ 19)] [] [(5,[0,0,0,3,0,0,0,0,3,0,0,0,0,0,3,0,0,0,0,0,3,0,0,0,1]),(10,[0,0,0,3,0,0,0,3,0,0]),(11,[0,0,0,0,3,0,0,0,3,0,0,2,0,5,0,0,0,0,0,0,8,0,11,0,0,0,0,0,0,13]),(12,[0,0,0,0,3,0,0,0,0,3,0,0,0,0,3,0,0,0,0,3,0,0,0,0,3,0,0,0,0,3,0,0,0,0,3,0,0,0,0,3,0,0,0,0,0,0,0,0]),(16,[0,0,2,0,5,0,0,8,0,0,0,0,0,0,0,0,0,0,0,0,0,0,0,0,3,0,0,0,3,0,0]),(23,[0,0,0,0,0,3,0,0,0,0,0,1])] [] []) [x0] Tryz.func171 h
def Qz (aB:Value) (w:World) (R:Ending→World→Prop):Prop:=
 m R (Bo 75 aB) w fun a aC=>
 m R (Ah (fv 36) []) aC fun c aD=>
 m R (Aa 75 a 0) aD fun g aE=>
 m R (Ad 23 g) aE fun h aF=>
 m R (Ah (fv 84) [c,h]) aF fun aL aG=>
 m R (Aa 75 a 1) aG fun i aH=>
 m R (Ad 3 i) aH fun j aI=>
 m R (Aa 75 a 2) aI fun l aJ=>
 m R (Ad 3 l) aJ fun n aK=>
 m R (Aa 75 a 3) aK fun o p=>
 m R (Ad 3 o) p fun q r=>
 m R (Aa 75 a 4) r fun s t=>
 m R (Aa 73 s 0) t fun u v=>
 m R (Ad 3 u) v fun x y=>
 m R (Aa 75 a 4) y fun z A=>
 m R (Aa 73 z 1) A fun B C=>
 m R (Ad 3 B) C fun D E=>
 m R (At 292 [(0,j),(1,n),(2,q),(3,x),(4,D)]) E fun F G=>
 ml1 (.int .i64 0) G fun b aP H d=>
 m R (Af .lss 3 true b (.int .i64 5)) H fun I e=>
 mif I (
 m R (Cq 292 F b) e fun J K=>
 m R (Ah (fv 85) [c,J]) K fun aM L=>
 m R (Af .add 3 true b (.int .i64 1)) L fun M N=>
 d M N) (
 m R (Aa 75 a 4) e fun O Q=>
 m R (Aa 73 O 2) Q fun S T=>
 m R (Ad 23 S) T fun U V=>
 m R (Ah (fv 84) [c,U]) V fun aN W=>
 m R (Ah (fv 38) [c]) W fun f X=>
 m R (As f 0) X fun Y Z=>
 m R (As f 1) Z fun aO aA=>
 R (.returned Y) aA)
theorem aCe (h:Qz x0 w R):Calls prog 172 #[x0] w R:=cc ⟨[(4,[26],8522825760)],[],[],[],[]⟩ [x0] Tryz.func172 h
def Tx (l a:Value) (w:World) (R:Ending→World→Prop):Prop:=
 mj1 (fun b=>
 m R (Ah (fv 166) [l,a]) w fun n c=>
 mif n (
 m R (Ah (fv 205) [a]) c fun d o=>
 b d o) (
 b (.int .i64 0) c)) fun e t p=>
 m R (Af .eql 3 true e (.int .i64 0)) p fun f g=>
 mif f (
 R (.returned (.int .i64 (-1))) g) (
 m R (Af .sub 3 true e (.int .i64 1)) g fun h q=>
 m R (Af .shl 3 true (.int .i64 1) h) q fun i r=>
 m R (Af .sub 3 false a i) r fun j s=>
 R (.returned j) s)
theorem aEs (h:Tx x0 x1 w R):Calls prog 174 #[x0,x1] w R:=cc ⟨[],[(4,[5],2016)],[],[],[]⟩ [x0,x1] Tryz.func174 h
def Ra (d a:Value) (w:World) (R:Ending→World→Prop):Prop:=
 mj1 (fun e=>
 m R (Ah (fv 166) [d,a]) w fun A f=>
 mif A (
 m R (Ah (fv 205) [a]) f fun g B=>
 e g B) (
 e (.int .i64 0) f)) fun h I C=>
 m R (Af .eql 3 true h (.int .i64 0)) C fun i j=>
 mif i (
 R (.returned (.int .i64 (-1))) j) (
 m R (Af .sub 3 true h (.int .i64 1)) j fun l D=>
 m R (Af .shl 3 true (.int .i64 1) l) D fun n E=>
 m R (Af .add 3 false a n) E fun o F=>
 ml1 o F fun a J G b=>
 m R (Ah (fv 166) [d,a]) G fun p H=>
 m R (Cz .not p) H fun q c=>
 mif q (
 m R (Ah (fv 205) [a]) c fun r s=>
 m R (Af .sub 3 true r (.int .i64 1)) s fun t u=>
 m R (Af .shl 3 true (.int .i64 1) t) u fun v x=>
 m R (Af .sub 3 false a v) x fun y z=>
 b y z) (
 R (.returned a) c))
theorem aCf (h:Ra x0 x1 w R):Calls prog 175 #[x0,x1] w R:=cc ⟨[(7,[1],268173314)],[(4,[5],2016)],[],[],[]⟩ [x0,x1] Tryz.func175 h
def aAj (a:Value) (w:World) (R:Ending→World→Prop):Prop:=
 m R (Af .shr 3 true a (.int .u64 24)) w fun g h=>
 m R (Ay 3 5 g) h fun i j=>
 m R (Af .shr 3 true a (.int .u64 16)) j fun l n=>
 m R (Ay 3 5 l) n fun o p=>
 m R (Af .shr 3 true a (.int .u64 8)) p fun b q=>
 m R (Ay 3 5 b) q fun c r=>
 m R (Ay 3 5 a) r fun d s=>
 m R (Al 89 4 [(0,i),(1,o),(2,c),(3,d)]) s fun e t=>
 m R (Ay 89 9 e) t fun f u=>
 R (.returned f) u
theorem aJu (h:aAj x0 w R):Calls prog 176 #[x0] w R:=cc ⟨[],[],[],[],[]⟩ [x0] Tryz.func176 h
def Xg (G:Value) (w:World) (R:Ending→World→Prop):Prop:=
 m R (Bo 222 G) w fun d H=>
 m R (Aa 222 d 0) H fun I J=>
 m R (Ad 4 I) J fun K L=>
 m R (Cz .not K) L fun c n=>
 Gt R c (Aa 222 d 1) n fun M o=>
 Gt R c (Ad 23 M) o fun N p=>
 Gt R c (At 23 []) p fun O q=>
 Gt R c (Af .eql 23 false N O) q fun r Q=>
 m R (Bd c r (.bool false)) Q fun a s=>
 Gt R a (Aa 222 d 2) s fun t e=>
 Gt R a (Ad 23 t) e fun u f=>
 Gt R a (At 23 []) f fun v g=>
 Gt R a (Af .eql 23 false u v) g fun x y=>
 m R (Bd a x (.bool false)) y fun b h=>
 Gt R b (Aa 222 d 3) h fun z i=>
 Gt R b (Ad 133 z) i fun A j=>
 Gt R b (Ak .len #[133] 3 [false] [A]) j fun B l=>
 Gt R b (Af .eql 3 true B (.int .i64 0)) l fun C D=>
 m R (Bd b C (.bool false)) D fun E F=>
 R (.returned E) F
theorem aHd (h:Xg x0 w R):Calls prog 177 #[x0] w R:=cc ⟨[],[],[],[],[]⟩ [x0] Tryz.func177 h
def Du (c j:Value) (w:World) (R:Ending→World→Prop):Prop:=
 m R (Ak .len #[133] 3 [false] [c]) w fun l n=>
 ml1 (.int .i64 0) n fun a t o b=>
 m R (Af .lss 3 false a l) o fun p d=>
 mif p (
 m R (Ag 133 c a) d fun e q=>
 m R (Ad 3 e) q fun f r=>
 m R (Ah j [f]) r fun g h=>
 mif g (
 R (.returned a) h) (
 m R (Af .add 3 true a (.int .i64 1)) h fun i s=>
 b i s)) (
 R (.returned (.int .i64 (-1))) d)
theorem Fg (h:Du x0 x1 w R):Calls prog 178 #[x0,x1] w R:=cc ⟨[(2,[8],524080)],[],[],[],[]⟩ [x0,x1] Tryz.func178 h
def Xh (G h:Value) (w:World) (R:Ending→World→Prop):Prop:=
 m R (Bo 58 G) w fun i H=>
 m R (Af .lss 3 true h (.int .i64 0)) H fun b j=>
 Gf R b (Bp h) j fun I l=>
 Gf R b (Aa 58 i 0) l fun J n=>
 Gf R b (Ad 55 J) n fun o p=>
 Gf R b (Ak .len #[55] 3 [false] [o]) p fun q r=>
 Gf R b (Af .geq 3 false I q) r fun s K=>
 m R (Bd b (.bool true) s) K fun a t=>
 Gf R a (Aa 58 i 0) t fun u v=>
 Gf R a (Ad 55 u) v fun x c=>
 Gf R a (Bp h) c fun y d=>
 Gf R a (Ag 55 x y) d fun z e=>
 Gf R a (Aa 118 z 0) e fun A f=>
 Gf R a (Ad 3 A) f fun B g=>
 Gf R a (Af .eql 3 true B (.int .i64 0)) g fun C D=>
 m R (Bd a (.bool true) C) D fun E F=>
 R (.returned E) F
theorem aHe (h:Xh x0 x1 w R):Calls prog 181 #[x0,x1] w R:=cc ⟨[],[],[],[],[]⟩ [x0,x1] Tryz.func181 h
def Ty (aD:Value) (w:World) (R:Ending→World→Prop):Prop:=
 m R (Bo 58 aD) w fun g aE=>
 m R (Ar 58) aE fun r b=>
 mj1 (fun q=>
 ((
 Dp (Aa 58 g 0) fun h=>
 Dq b (Ad 55 h) fun i=>
 Dp (Aa 58 g 1) fun j=>
 Dq b (Ad 56 j) fun l=>
 Df b (Ah (fv 141) [i]) true fun n aF=>
 Df aF (Ah (fv 142) [l]) false fun c aG=>
 Dp (At 58 [(0,n),(1,c)]) fun d=>
 Df aG (Ar 58) true fun a aH=>
 Df aH (Ai 58 a d) false fun _ aI=>
 dend aI fun aJ=>
 q a aJ)∧(
 Dp (Aa 58 g 0) fun h=>
 Dq b (Ad 55 h) fun i=>
 Dp (Aa 58 g 1) fun j=>
 Dq b (Ad 56 j) fun l=>
 Df b (Ah (fv 141) [i]) true fun n aK=>
 Df aK (Ar 58) true fun a aL=>
 Df aL (Ah (fv 142) [l]) false fun c s=>
 Dp (At 58 [(0,n),(1,c)]) fun d=>
 Df s (Ai 58 a d) false fun _ t=>
 dend t fun u=>
 q a u)∧(
 Dp (Aa 58 g 0) fun h=>
 Dq b (Ad 55 h) fun i=>
 Dp (Aa 58 g 1) fun j=>
 Dq b (Ad 56 j) fun l=>
 Df b (Ar 58) true fun a v=>
 Df v (Ah (fv 141) [i]) true fun n x=>
 Df x (Ah (fv 142) [l]) false fun c y=>
 Dp (At 58 [(0,n),(1,c)]) fun d=>
 Df y (Ai 58 a d) false fun _ z=>
 dend z fun A=>
 q a A))) fun a aN B=>
 m R (Aa 58 a 1) B fun C D=>
 m R (Ad 56 C) D fun E F=>
 m R (Ak .len #[56] 3 [false] [E]) F fun G H=>
 ml1 (.int .i64 0) H fun f aO I o=>
 m R (Af .lss 3 false f G) I fun J e=>
 mif J (
 Dp (Aa 58 a 1) fun K=>
 Dq e (Ad 56 K) fun L=>
 Dp (Aa 58 a 1) fun M=>
 Dq e (Ad 56 M) fun N=>
 Dp (Ag 56 N f) fun O=>
 Dp (Aa 222 O 3) fun Q=>
 Dq e (Ad 133 Q) fun S=>
 Df e (Ah (fv 143) [S]) true fun T U=>
 Dp (Ag 56 L f) fun V=>
 Dp (Aa 222 V 3) fun W=>
 Df U (Ai 133 W T) false fun _ X=>
 dend X fun Y=>
 m R (Af .add 3 true f (.int .i64 1)) Y fun Z aA=>
 o Z aA) (
 m R (Ad 58 a) e fun aB aC=>
 m R (Ai 58 r aB) aC fun _ p=>
 rcell prog 58 r p fun aM=>
 R (.returned aM) p)
theorem aEt (h:Ty x0 w R):Calls prog 182 #[x0] w R:=cc (mkA Tryz.f182 [(3,[15],2147450896)] [(2,[3],4072)] [(5,[0,3,0,0,3,0,0,0,3,2,0,0,4])] [(1,[([0,1,3,4,2,5,6,7,8],[0,3,2,0,3,4,0,8,10]),([0,1,3,4,2,7,5,6,8],[0,3,2,0,3,7,0,5,10]),([0,1,3,4,7,2,5,6,8],[0,3,5,0,3,7,0,2,10])])] []) [x0] Tryz.func182 h
def Pd (M j:Value) (w:World) (R:Ending→World→Prop):Prop:=
 m R (Bo 58 M) w fun c N=>
 m R (Ad 58 c) N fun O Q=>
 m R (Ah (fv 123) [O]) Q fun S T=>
 m R (Ai 58 c S) T fun _ U=>
 m R (Aa 58 c 0) U fun o V=>
 m R (Ad 55 o) V fun p W=>
 m R (Ak .len #[55] 3 [false] [p]) W fun q X=>
 m R (Ar 3) X fun l Y=>
 m R (Ai 3 l q) Y fun _ Z=>
 m R (Ar 133) Z fun r s=>
 m R (Ar 150) s fun n t=>
 m R (Gc (.func 210) [] [c,r,n,l]) t fun u v=>
 m R (Ai 150 n u) v fun _ x=>
 mj0 (fun y=>
 mj1 (fun aA=>
 m R (Af .geq 3 true j (.int .i64 0)) x fun a d=>
 Gt R a (Bp j) d fun z e=>
 Gt R a (Ad 3 l) e fun A f=>
 Gt R a (Af .mul 3 true (.int .i64 2) A) f fun B g=>
 Gt R a (Af .sub 3 true B (.int .i64 1)) g fun C h=>
 Gt R a (Af .lss 3 false z C) h fun D E=>
 m R (Bd a D (.bool false)) E fun b F=>
 aA b F) fun b aC i=>
 mif b (
 m R (Ad 150 n) i fun G H=>
 m R (Ah G [j]) H fun aB I=>
 y I) (
 y i)) fun aD J=>
 m R (Ad 133 r) J fun K L=>
 R (.returned K) L
theorem aAk (h:Pd x0 x1 w R):Calls prog 187 #[x0,x1] w R:=cc ⟨[],[(8,[],67092480),(7,[22],8372224)],[],[],[]⟩ [x0,x1] Tryz.func187 h
def Pe (b c:Value) (w:World) (R:Ending→World→Prop):Prop:=
 m R (Ah (fv 202) [b,c]) w fun a j=>
 m R (Af .lss 3 true a (.int .i64 0)) j fun d e=>
 mif d (
 R (.returned (.int .i64 (-1))) e) (
 m R (Af .lss 3 false c a) e fun f g=>
 mif f (
 m R (Ah (fv 175) [b,a]) g fun h l=>
 R (.returned h) l) (
 m R (Ah (fv 174) [b,a]) g fun i n=>
 R (.returned i) n))
theorem aAl (h:Pe x0 x1 w R):Calls prog 188 #[x0,x1] w R:=cc ⟨[],[],[],[],[]⟩ [x0,x1] Tryz.func188 h
def Fa (a h:Value) (w:World) (R:Ending→World→Prop):Prop:=
 m R (Ah (fv 178) [a,h]) w fun c I=>
 m R (Af .eql 3 true c (.int .i64 (-1))) I fun i j=>
 mif i (
 R (.returned a) j) (
 m R (Af .add 3 true c (.int .i64 1)) j fun l J=>
 ml2 c l J fun b g Q K d=>
 m R (Ak .len #[133] 3 [false] [a]) K fun n L=>
 m R (Af .lss 3 false g n) L fun o p=>
 mif o (
 mj1 (fun q=>
 m R (Ag 133 a g) p fun r M=>
 m R (Ad 3 r) M fun e N=>
 m R (Ah h [e]) N fun s O=>
 m R (Cz .not s) O fun t f=>
 mif t (
 m R (Ag 133 a b) f fun u v=>
 m R (Ai 3 u e) v fun _ x=>
 m R (Af .add 3 true b (.int .i64 1)) x fun y z=>
 q y z) (
 q b f)) fun b S A=>
 m R (Af .add 3 true g (.int .i64 1)) A fun B C=>
 d b B C) (
 m R (Ax 133 a (some b) none none) p fun D E=>
 m R (Ak .clear #[133] 0 [false] [D]) E fun _ F=>
 m R (Ax 133 a none (some b) none) F fun G H=>
 R (.returned G) H))
theorem Ix (h:Fa x0 x1 w R):Calls prog 189 #[x0,x1] w R:=cc ⟨[(5,[5,6],68719411424)],[(6,[5],68715282592)],[],[],[]⟩ [x0,x1] Tryz.func189 h
def Mm (b j:Value) (w:World) (R:Ending→World→Prop):Prop:=
 m R (Af .rem 3 true b (.int .i64 2)) w fun l n=>
 m R (Af .eql 3 true l (.int .i64 0)) n fun a c=>
 Gt R a (Ad 133 j) c fun o d=>
 Gt R a (Bp b) d fun p e=>
 Gt R a (Af .quo 3 true p (.int .i64 2)) e fun f g=>
 Gt R a (Ah (fv 191) [o,f]) g fun h q=>
 m R (Bd a h (.bool false)) q fun i r=>
 R (.returned i) r
theorem Vs (h:Mm x0 x1 w R):Calls prog 190 #[x0,x1] w R:=cc ⟨[],[],[],[],[]⟩ [x0,x1] Tryz.func190 h
def Fq (a b:Value) (w:World) (R:Ending→World→Prop):Prop:=
 m R (Ah (fv 91) [a,b]) w fun c d=>
 m R (Af .geq 3 true c (.int .i64 0)) d fun e f=>
 R (.returned e) f
theorem Jy (h:Fq x0 x1 w R):Calls prog 191 #[x0,x1] w R:=cc ⟨[],[],[],[],[]⟩ [x0,x1] Tryz.func191 h
def Rb (I l:Value) (w:World) (R:Ending→World→Prop):Prop:=
 m R (Bo 58 I) w fun c J=>
 m R (Ar 23) J fun d K=>
 m R (Ad 58 c) K fun L M=>
 m R (Ah (fv 123) [L]) M fun N O=>
 m R (Ai 58 c N) O fun _ Q=>
 mj1 (fun S=>
 m R (Af .lss 3 true l (.int .i64 0)) Q fun a o=>
 Gf R a (Bp l) o fun p q=>
 Gf R a (Aa 58 c 0) q fun r s=>
 Gf R a (Ad 55 r) s fun t u=>
 Gf R a (Ak .len #[55] 3 [false] [t]) u fun v e=>
 Gf R a (Af .mul 3 true (.int .i64 2) v) e fun x f=>
 Gf R a (Af .sub 3 true x (.int .i64 1)) f fun y g=>
 Gf R a (Af .geq 3 false p y) g fun z A=>
 m R (Bd a (.bool true) z) A fun b B=>
 S b B) fun b T h=>
 mif b (
 m R (At 23 []) h fun C D=>
 m R (Ai 23 d C) D fun _ i=>
 rcell prog 23 d i fun n=>
 R (.returned n) i) (
 m R (Ad 58 c) h fun E F=>
 m R (Ah (fv 124) [E,l]) F fun G H=>
 m R (Ai 23 d G) H fun _ j=>
 rcell prog 23 d j fun n=>
 R (.returned n) j)
theorem aCg (h:Rb x0 x1 w R):Calls prog 192 #[x0,x1] w R:=cc ⟨[],[(3,[17],262016)],[],[],[]⟩ [x0,x1] Tryz.func192 h
def Ep (a:Value) (w:World) (R:Ending→World→Prop):Prop:=
 m R (Af .eql 63 true a (.slice none 0 0)) w fun c b=>
 mif c (
 R (.returned (.slice none 0 0)) b) (
 m R (Al 63 0 []) b fun d e=>
 m R (Ak .append #[63,63] 63 [false,false] [d,a]) e fun f g=>
 R (.returned f) g)
theorem Hn (h:Ep x0 w R):Calls prog 193 #[x0] w R:=cc ⟨[],[],[],[],[]⟩ [x0] Tryz.func193 h
def De (a b:Value) (w:World) (R:Ending→World→Prop):Prop:=
 m R (Ak .len #[63] 3 [false] [a]) w fun c d=>
 m R (Ah (fv 211) [a,c,b]) d fun f e=>
 R (.returned (.tuple #[])) e
theorem Fb (h:De x0 x1 w R):Calls prog 194 #[x0,x1] w R:=cc ⟨[],[],[],[],[]⟩ [x0,x1] Tryz.func194 h
def Mn (a b:Value) (w:World) (R:Ending→World→Prop):Prop:=
 m R (Bo 128 a) w fun c d=>
 m R (Bo 128 b) d fun e f=>
 m R (Aa 128 c 0) f fun g h=>
 m R (Ad 3 g) h fun i j=>
 m R (Aa 128 e 0) j fun l n=>
 m R (Ad 3 l) n fun o p=>
 m R (Af .sub 3 false i o) p fun q r=>
 R (.returned q) r
theorem Vt (h:Mn x0 x1 w R):Calls prog 195 #[x0,x1] w R:=cc ⟨[],[],[],[],[]⟩ [x0,x1] Tryz.func195 h
def Dm (b l:Value) (w:World) (R:Ending→World→Prop):Prop:=
 m R (Ak .len #[63] 3 [false] [b]) w fun aF aG=>
 m R (Af .lss 3 true aF (.int .i64 2)) aG fun n o=>
 mif n (
 R (.returned b) o) (
 ml1 (.int .i64 1) o fun a aN aH f=>
 m R (Ak .len #[63] 3 [false] [b]) aH fun p aI=>
 m R (Af .lss 3 false a p) aI fun q g=>
 mif q (
 Dp (Ag 63 b a) fun r=>
 Dq g (Ad 128 r) fun s=>
 Dp (Af .sub 3 true a (.int .i64 1)) fun t=>
 Dp (Ag 63 b t) fun u=>
 Dq g (Ad 128 u) fun v=>
 Df g (Ah l [s,v]) false fun x aJ=>
 dend aJ fun y=>
 mif x (
 m R (Ax 63 b (some a) none none) y fun c aK=>
 ml2 a (.int .i64 1) aK fun a e aO aL h=>
 m R (Ak .len #[63] 3 [false] [c]) aL fun z A=>
 m R (Af .lss 3 false e z) A fun B d=>
 mif B (
 mj1 (fun i=>
 Dp (Ag 63 c e) fun C=>
 Dq d (Ad 128 C) fun D=>
 Dp (Af .sub 3 true e (.int .i64 1)) fun E=>
 Dp (Ag 63 c E) fun F=>
 Dq d (Ad 128 F) fun G=>
 Df d (Ah l [D,G]) false fun H I=>
 Dp (Cz .not H) fun J=>
 dend I fun j=>
 mif J (
 m R (Ag 63 c e) j fun K L=>
 m R (Ad 128 K) L fun M N=>
 m R (Ag 63 b a) N fun O Q=>
 m R (Ai 128 O M) Q fun _ S=>
 m R (Af .add 3 true a (.int .i64 1)) S fun T U=>
 i T U) (
 i a j)) fun a aM V=>
 m R (Af .add 3 true e (.int .i64 1)) V fun W X=>
 h a W X) (
 m R (Ax 63 b (some a) none none) d fun Y Z=>
 m R (Ak .clear #[63] 0 [false] [Y]) Z fun _ aA=>
 m R (Ax 63 b none (some a) none) aA fun aB aC=>
 R (.returned aB) aC)) (
 m R (Af .add 3 true a (.int .i64 1)) y fun aD aE=>
 f aD aE)) (
 R (.returned b) g))
theorem Fu (h:Dm x0 x1 w R):Calls prog 196 #[x0,x1] w R:=cc (mkA Tryz.f196 [(4,[5],36893488147419099376),(9,[5,7],576460748008456352)] [(10,[5],576460477425516576)] [(6,[0,0,0,0,3,0,0,0,0,3,1]),(11,[0,0,0,0,3,0,0,0,0,3,1,0])] [] []) [x0,x1] Tryz.func196 h
def Mo (a b:Value) (w:World) (R:Ending→World→Prop):Prop:=
 m R (Bo 128 a) w fun c d=>
 m R (Bo 128 b) d fun e f=>
 m R (Aa 128 c 0) f fun g h=>
 m R (Ad 3 g) h fun i j=>
 m R (Aa 128 e 0) j fun l n=>
 m R (Ad 3 l) n fun o p=>
 m R (Af .eql 3 false i o) p fun q r=>
 R (.returned q) r
theorem Vu (h:Mo x0 x1 w R):Calls prog 197 #[x0,x1] w R:=cc ⟨[],[],[],[],[]⟩ [x0,x1] Tryz.func197 h
def Dv (a:Value) (w:World) (R:Ending→World→Prop):Prop:=
 m R (Ak .len #[243] 3 [false] [a]) w fun p q=>
 m R (Af .sub 3 true p (.int .i64 1)) q fun r s=>
 ml2 (.int .i64 0) r s fun b c B t d=>
 m R (Af .lss 3 false b c) t fun u e=>
 mif u (
 Dp (Ag 243 a c) fun f=>
 Dq e (Ad 271 f) fun g=>
 Dp (Ag 243 a b) fun h=>
 Dq e (Ad 271 h) fun i=>
 Dp (Ag 243 a b) fun j=>
 Df e (Ai 271 j g) false fun _ v=>
 Dp (Ag 243 a c) fun l=>
 Df v (Ai 271 l i) false fun _ x=>
 dend x fun y=>
 m R (Af .add 3 true b (.int .i64 1)) y fun n z=>
 m R (Af .sub 3 true c (.int .i64 1)) z fun o A=>
 d n o A) (
 R (.returned (.tuple #[])) e)
theorem Gg (h:Dv x0 w R):Calls prog 198 #[x0] w R:=cc (mkA Tryz.f198 [(1,[2,3],268435340)] [] [(3,[0,0,0,0,0,0,0,3,0,0,0,3,0,1,0,4])] [] []) [x0] Tryz.func198 h
def Jt (a A:Value) (w:World) (R:Ending→World→Prop):Prop:=
 m R (Af .eql 80 true a (.pointer none)) w fun B b=>
 mif B (
 R (.returned (.tuple #[])) b) (
 mif A (
 m R (Ao a) b fun C D=>
 m R (Aa 177 C 0) D fun c E=>
 m R (Ad 89 c) E fun d F=>
 m R (Al 89 1 [(0,(.int .u8 1))]) F fun e G=>
 m R (Ak .append #[89,89] 89 [false,false] [d,e]) G fun f H=>
 m R (Ao a) H fun g I=>
 m R (Aa 177 g 0) I fun h J=>
 m R (Ai 89 h f) J fun _ K=>
 R (.returned (.tuple #[])) K) (
 m R (Ao a) b fun i j=>
 m R (Aa 177 i 0) j fun l n=>
 m R (Ad 89 l) n fun o p=>
 m R (Al 89 1 [(0,(.int .u8 0))]) p fun q r=>
 m R (Ak .append #[89,89] 89 [false,false] [o,q]) r fun s t=>
 m R (Ao a) t fun u v=>
 m R (Aa 177 u 0) v fun x y=>
 m R (Ai 89 x s) y fun _ z=>
 R (.returned (.tuple #[])) z))
theorem Ry (h:Jt x0 x1 w R):Calls prog 199 #[x0,x1] w R:=cc ⟨[],[],[],[],[]⟩ [x0,x1] Tryz.func199 h
def Tz (aK j:Value) (w:World) (R:Ending→World→Prop):Prop:=
 m R (Bo 23 aK) w fun l aL=>
 mj1 (fun aM=>
 m R (Af .lss 3 true j (.int .i64 1)) aL fun p r=>
 Gf R p (Bp j) r fun s t=>
 Gf R p (Af .gtr 3 true s (.int .i64 65536)) t fun u aN=>
 m R (Bd p (.bool true) u) aN fun h aO=>
 aM h aO) fun h aR v=>
 mif h (
 R (.returned (.string (ByteArray.mk #[]))) v) (
 ml2 (.slice none 0 0) (.int .i64 0) v fun q i aS aP n=>
 m R (Ak .len #[89] 3 [false] [q]) aP fun x aQ=>
 m R (Af .lss 3 false x j) aQ fun y g=>
 mif y (
 mj1 (fun o=>
 ((
 Dp (Ax 23 l none none none) fun b=>
 Dq g (Ay 89 9 b) fun c=>
 Df g (Ah (fv 176) [i]) true fun d z=>
 Df z (Al 41 1 [(0,d)]) true fun e A=>
 Df A (Ah (fv 169) [c,e]) false fun f B=>
 Df B (Ar 23) true fun a C=>
 Df C (Ai 23 a f) false fun _ D=>
 dend D fun E=>
 o a E)∧(
 Dp (Ax 23 l none none none) fun b=>
 Dq g (Ay 89 9 b) fun c=>
 Df g (Ah (fv 176) [i]) true fun d F=>
 Df F (Al 41 1 [(0,d)]) true fun e G=>
 Df G (Ar 23) true fun a H=>
 Df H (Ah (fv 169) [c,e]) false fun f I=>
 Df I (Ai 23 a f) false fun _ J=>
 dend J fun K=>
 o a K)∧(
 Dp (Ax 23 l none none none) fun b=>
 Dq g (Ay 89 9 b) fun c=>
 Df g (Ah (fv 176) [i]) true fun d L=>
 Df L (Ar 23) true fun a M=>
 Df M (Al 41 1 [(0,d)]) true fun e N=>
 Df N (Ah (fv 169) [c,e]) false fun f O=>
 Df O (Ai 23 a f) false fun _ Q=>
 dend Q fun S=>
 o a S)∧(
 Dp (Ax 23 l none none none) fun b=>
 Dq g (Ay 89 9 b) fun c=>
 Df g (Ar 23) true fun a T=>
 Df T (Ah (fv 176) [i]) true fun d U=>
 Df U (Al 41 1 [(0,d)]) true fun e V=>
 Df V (Ah (fv 169) [c,e]) false fun f W=>
 Df W (Ai 23 a f) false fun _ X=>
 dend X fun Y=>
 o a Y))) fun a aT Z=>
 m R (Ax 23 a none none none) Z fun aA aB=>
 m R (Ak .append #[89,89] 89 [false,false] [q,aA]) aB fun aC aD=>
 m R (Af .add 3 true i (.int .i64 1)) aD fun aE aF=>
 n aC aE aF) (
 m R (Ax 89 q none (some j) none) g fun aG aH=>
 m R (Ay 89 9 aG) aH fun aI aJ=>
 R (.returned aI) aJ))
theorem aEu (h:Tz x0 x1 w R):Calls prog 200 #[x0,x1] w R:=cc (mkA Tryz.f200 [(5,[5,6],536854752)] [(2,[13],16128),(8,[7],66060416)] [] [(7,[([0,1,2,3,4,5,6,7],[0,3,0,2,5,7,11,13]),([0,1,2,3,4,6,5,7],[0,3,0,2,5,10,8,13]),([0,1,2,3,6,4,5,7],[0,3,0,2,8,10,5,13]),([0,1,2,6,3,4,5,7],[0,3,0,5,8,10,2,13])])] []) [x0,x1] Tryz.func200 h
def Rc (h a:Value) (w:World) (R:Ending→World→Prop):Prop:=
 mj1 (fun B=>
 m R (Ah (fv 166) [h,a]) w fun C D=>
 m R (Cz .not C) D fun b i=>
 Gf R b (Bp a) i fun j l=>
 Gf R b (Bp h) l fun n o=>
 Gf R b (Ah (fv 125) [n]) o fun p q=>
 Gf R b (Af .eql 3 false j p) q fun r E=>
 m R (Bd b (.bool true) r) E fun c F=>
 B c F) fun c H s=>
 mif c (
 R (.returned (.int .i64 (-1))) s) (
 ml1 a s fun a I G e=>
 m R (Ah (fv 205) [a]) G fun f t=>
 Dp (Af .add 3 true f (.int .i64 1)) fun u=>
 Dp (Af .shl 3 true (.int .i64 1) u) fun v=>
 Dp (Af .andNot 3 false a v) fun x=>
 Dp (Af .shl 3 true (.int .i64 1) f) fun y=>
 Dp (Af .or 3 false x y) fun d=>
 dend t fun z=>
 m R (Ah (fv 166) [h,d]) z fun A g=>
 mif A (
 R (.returned d) g) (
 e d g))
theorem aCh (h:Rc x0 x1 w R):Calls prog 202 #[x0,x1] w R:=cc (mkA Tryz.f202 [(3,[1],1073676338)] [(2,[15],65472)] [(4,[0,0,0,0,0,0,0,0,0])] [] []) [x0,x1] Tryz.func202 h
def Pf (c a:Value) (w:World) (R:Ending→World→Prop):Prop:=
 m R (Ah (fv 166) [c,a]) w fun r s=>
 m R (Cz .not r) s fun d e=>
 mif d (
 R (.returned (.tuple #[(.int .i64 0),(.int .i64 0)])) e) (
 m R (Ah (fv 205) [a]) e fun f t=>
 m R (Af .shl 3 true (.int .i64 1) f) t fun b u=>
 m R (Af .add 3 true a (.int .i64 1)) u fun g v=>
 m R (Af .sub 3 false g b) v fun h x=>
 m R (Af .quo 3 true h (.int .i64 2)) x fun i y=>
 m R (Af .add 3 true a (.int .i64 1)) y fun j z=>
 m R (Af .add 3 false j b) z fun l A=>
 m R (Af .quo 3 true l (.int .i64 2)) A fun n o=>
 m R (Ak .min #[3,3] 3 [false,false] [n,c]) o fun p q=>
 R (.returned (.tuple #[i,p])) q)
theorem aAm (h:Pf x0 x1 w R):Calls prog 203 #[x0,x1] w R:=cc ⟨[],[],[],[],[]⟩ [x0,x1] Tryz.func203 h
def Fy (a g:Value) (w:World) (R:Ending→World→Prop):Prop:=
 m R (Ay 3 173 g) w fun h i=>
 m R (Af .and 173 true h (.int .u64 31)) i fun b j=>
 m R (Af .shl 164 false a b) j fun c l=>
 m R (Af .sub 173 true (.int .u64 32) b) l fun d n=>
 m R (Af .shr 164 false a d) n fun e o=>
 m R (Af .or 164 false c e) o fun f p=>
 R (.returned f) p
theorem Lc (h:Fy x0 x1 w R):Calls prog 204 #[x0,x1] w R:=cc ⟨[],[],[],[],[]⟩ [x0,x1] Tryz.func204 h
def Re (a:Value) (w:World) (R:Ending→World→Prop):Prop:=
 ml2 a (.int .i64 0) w fun a c o f b=>
 m R (Af .and 3 true a (.int .i64 1)) f fun g h=>
 m R (Af .eql 3 true g (.int .i64 1)) h fun i d=>
 mif i (
 m R (Af .shr 3 true a (.int .u64 1)) d fun j l=>
 m R (Af .add 3 true c (.int .i64 1)) l fun e n=>
 b j e n) (
 R (.returned c) d)
theorem aCi (h:Re x0 w R):Calls prog 205 #[x0] w R:=cc ⟨[(2,[0,3],2041)],[],[],[],[]⟩ [x0] Tryz.func205 h
def Ho (a i c j l:Value) (w:World) (R:Ending→World→Prop):Prop:=
 m R (Af .rem 3 true a (.int .i64 2)) w fun n bD=>
 m R (Af .eql 3 true n (.int .i64 0)) bD fun o p=>
 mif o (
 m R (Aa 58 i 0) p fun q bE=>
 m R (Ad 55 q) bE fun r bF=>
 m R (Af .quo 3 true a (.int .i64 2)) bF fun s bG=>
 m R (Ag 55 r s) bG fun t bH=>
 m R (Aa 118 t 0) bH fun u bI=>
 m R (Ad 3 u) bI fun v bJ=>
 m R (Af .gtr 3 true v (.int .i64 0)) bJ fun x y=>
 mif x (
 m R (Ad 133 c) y fun z A=>
 m R (Al 133 1 [(0,a)]) A fun B C=>
 m R (Ak .append #[133,133] 133 [false,false] [z,B]) C fun D E=>
 m R (Ai 133 c D) E fun _ F=>
 R (.returned (.tuple #[])) F) (
 R (.returned (.tuple #[])) y)) (
 m R (Aa 58 i 1) p fun G H=>
 m R (Ad 56 G) H fun I J=>
 m R (Af .quo 3 true a (.int .i64 2)) J fun K L=>
 m R (Ag 56 I K) L fun M N=>
 m R (Aa 222 M 0) N fun O Q=>
 m R (Ad 4 O) Q fun S b=>
 mif S (
 m R (Ad 133 c) b fun T U=>
 m R (Al 133 1 [(0,a)]) U fun V W=>
 m R (Ak .append #[133,133] 133 [false,false] [T,V]) W fun X Y=>
 m R (Ai 133 c X) Y fun _ Z=>
 m R (Aa 58 i 1) Z fun aA aB=>
 m R (Ad 56 aA) aB fun aC aD=>
 m R (Af .quo 3 true a (.int .i64 2)) aD fun aE aF=>
 m R (Ag 56 aC aE) aF fun aG aH=>
 m R (Aa 222 aG 3) aH fun aI aJ=>
 m R (Ad 133 aI) aJ fun g aK=>
 m R (Ak .len #[133] 3 [false] [g]) aK fun aL aM=>
 ml1 (.int .i64 0) aM fun d bO aN f=>
 m R (Af .lss 3 false d aL) aN fun aO h=>
 mif aO (
 m R (Ag 133 g d) h fun aP aQ=>
 m R (Ad 3 aP) aQ fun aR aS=>
 m R (Ad 133 c) aS fun aT aU=>
 m R (Af .mul 3 true (.int .i64 2) aR) aU fun aV aW=>
 m R (Al 133 1 [(0,aV)]) aW fun aX aY=>
 m R (Ak .append #[133,133] 133 [false,false] [aT,aX]) aY fun aZ a0=>
 m R (Ai 133 c aZ) a0 fun _ a1=>
 m R (Af .add 3 true d (.int .i64 1)) a1 fun a2 a3=>
 f a2 a3) (
 R (.returned (.tuple #[])) h)) (
 Dq b (Ad 150 j) fun bK=>
 Dq b (Ad 3 l) fun bL=>
 Df b (Ah (fv 174) [bL,a]) true fun a4 a5=>
 Df a5 (Ah bK [a4]) false fun bM a6=>
 dend a6 fun e=>
 Dq e (Ad 150 j) fun a7=>
 Dq e (Ad 3 l) fun a8=>
 Df e (Ah (fv 175) [a8,a]) true fun a9 bA=>
 Df bA (Ah a7 [a9]) false fun bN bB=>
 dend bB fun bC=>
 R (.returned (.tuple #[])) bC))
theorem Mp (h:Ho x0 x1 x2 x3 x4 w R):Calls prog 210 #[x0,x1,x2,x3,x4] w R:=cc (mkA Tryz.f210 [(8,[54],P_ 64+P_ 7-P_ 54)] [] [(0,[3,3,0,2,4]),(1,[3,3,0,2,4])] [] []) [x0,x1,x2,x3,x4] Tryz.func210 h
def Er (e c f:Value) (w:World) (R:Ending→World→Prop):Prop:=
 ml2 (.int .i64 0) (.int .i64 20) w fun b a Y K g=>
 m R (Af .leq 3 false a c) K fun p q=>
 mif p (
 m R (Ah (fv 214) [e,b,a,f]) q fun T L=>
 m R (Af .add 3 false a (.int .i64 20)) L fun r M=>
 g a r M) (
 m R (Ah (fv 214) [e,b,c,f]) q fun U N=>
 ml1 (.int .i64 20) N fun d Z O h=>
 m R (Af .lss 3 false d c) O fun s t=>
 mif s (
 m R (Af .mul 3 true (.int .i64 2) d) t fun u Q=>
 ml2 (.int .i64 0) u Q fun b a aA S i=>
 m R (Af .leq 3 false a c) S fun v j=>
 mif v (
 m R (Af .add 3 false b d) j fun x y=>
 m R (Ah (fv 215) [e,b,x,a,f]) y fun V z=>
 m R (Af .mul 3 true (.int .i64 2) d) z fun A B=>
 m R (Af .add 3 false a A) B fun C D=>
 i a C D) (
 mj0 (fun l=>
 m R (Af .add 3 false b d) j fun n E=>
 m R (Af .lss 3 false n c) E fun F o=>
 mif F (
 m R (Ah (fv 215) [e,b,n,c,f]) o fun W G=>
 l G) (
 l o)) fun X H=>
 m R (Af .mul 3 true d (.int .i64 2)) H fun I J=>
 h I J)) (
 R (.returned (.tuple #[])) t))
theorem Hq (h:Er x0 x1 x2 w R):Calls prog 211 #[x0,x1,x2] w R:=cc ⟨[(2,[7,8],8386944),(7,[6],9223372036586341312),(9,[7,8],562941363487104)],[(16,[],P_ 61+P_ 9-P_ 49)],[],[],[]⟩ [x0,x1,x2] Tryz.func211 h
def Dh (c i S T:Value) (w:World) (R:Ending→World→Prop):Prop:=
 m R (Af .add 3 true i (.int .i64 1)) w fun j U=>
 ml1 j U fun g aA V d=>
 m R (Af .lss 3 false g S) V fun l n=>
 mif l (
 ml1 g n fun b aB e f=>
 mj0 (fun W=>
 Dp (Af .gtr 3 false b i) fun a=>
 Qt a (Bp T) fun o=>
 Qt a (Bp c) fun p=>
 Qt a (Bp b) fun q=>
 Qt a (Ag 63 p q) fun r=>
 Ht a e (Ad 128 r) fun s=>
 Qt a (Bp c) fun t=>
 Qt a (Bp b) fun u=>
 Qt a (Af .sub 3 true u (.int .i64 1)) fun v=>
 Qt a (Ag 63 t v) fun x=>
 Ht a e (Ad 128 x) fun y=>
 Et a e (Ah o [s,y]) false fun z X=>
 Qt a (Af .lss 3 true z (.int .i64 0)) fun A=>
 Dp (Bd a A (.bool false)) fun B=>
 dend X fun C=>
 mif B (
 W C) (
 m R (Af .add 3 true g (.int .i64 1)) C fun D Y=>
 d D Y)) fun aC h=>
 Dp (Af .sub 3 true b (.int .i64 1)) fun E=>
 Dp (Af .sub 3 true b (.int .i64 1)) fun F=>
 Dp (Ag 63 c F) fun G=>
 Dq h (Ad 128 G) fun H=>
 Dp (Ag 63 c b) fun I=>
 Dq h (Ad 128 I) fun J=>
 Dp (Ag 63 c b) fun K=>
 Df h (Ai 128 K H) false fun _ Z=>
 Dp (Ag 63 c E) fun L=>
 Df Z (Ai 128 L J) false fun _ M=>
 dend M fun N=>
 m R (Af .sub 3 true b (.int .i64 1)) N fun O Q=>
 f O Q) (
 R (.returned (.tuple #[])) n)
theorem Fl (h:Dh x0 x1 x2 x3 w R):Calls prog 214 #[x0,x1,x2,x3] w R:=cc (mkA Tryz.f214 [(1,[8],9007199254737664),(4,[9],9007199254479360)] [(6,[],34359476224)] [(4,[0,0,0,0,0,0,0,0,3,0,0,0,0,3,1,0,0]),(6,[0,0,0,0,0,0,0,0,0,3,0,0,0,3,0,1,0,4])] [] []) [x0,x1,x2,x3] Tryz.func214 h
def Ck (a n d B C:Value) (w:World) (R:Ending→World→Prop):Prop:=
 m R (Af .sub 3 false d n) w fun bR d2=>
 m R (Af .eql 3 true bR (.int .i64 1)) d2 fun bS bT=>
 mif bS (
 ml2 d B bT fun v D eK d3 x=>
 m R (Af .lss 3 false v D) d3 fun bU bV=>
 mif bU (
 m R (Af .add 3 false v D) bV fun bW d4=>
 m R (Ay 3 173 bW) d4 fun bX d5=>
 m R (Af .shr 173 true bX (.int .u64 1)) d5 fun bY d6=>
 m R (Ay 173 3 bY) d6 fun E aJ=>
 Dp (Ag 63 a E) fun bZ=>
 Dq aJ (Ad 128 bZ) fun b0=>
 Dp (Ag 63 a n) fun b1=>
 Dq aJ (Ad 128 b1) fun b2=>
 Df aJ (Ah C [b0,b2]) false fun b3 d7=>
 Dp (Af .lss 3 true b3 (.int .i64 0)) fun b4=>
 dend d7 fun L=>
 mif b4 (
 m R (Af .add 3 true E (.int .i64 1)) L fun b5 b6=>
 x b5 D b6) (
 x v E L)) (
 ml1 n bV fun f eL b7 K=>
 m R (Af .sub 3 true v (.int .i64 1)) b7 fun b8 b9=>
 m R (Af .lss 3 false f b8) b9 fun cA y=>
 mif cA (
 Dp (Af .add 3 true f (.int .i64 1)) fun cB=>
 Dp (Af .add 3 true f (.int .i64 1)) fun cC=>
 Dp (Ag 63 a cC) fun cD=>
 Dq y (Ad 128 cD) fun cE=>
 Dp (Ag 63 a f) fun cF=>
 Dq y (Ad 128 cF) fun cG=>
 Dp (Ag 63 a f) fun cH=>
 Df y (Ai 128 cH cE) false fun _ cI=>
 Dp (Ag 63 a cB) fun cJ=>
 Df cI (Ai 128 cJ cG) false fun _ cK=>
 dend cK fun cL=>
 m R (Af .add 3 true f (.int .i64 1)) cL fun cM cN=>
 K cM cN) (
 R (.returned (.tuple #[])) y))) (
 m R (Af .sub 3 false B d) bT fun cO cP=>
 m R (Af .eql 3 true cO (.int .i64 1)) cP fun cQ M=>
 mif cQ (
 ml2 n d M fun z F eB cR o=>
 m R (Af .lss 3 false z F) cR fun cS N=>
 mif cS (
 m R (Af .add 3 false z F) N fun cT cU=>
 m R (Ay 3 173 cT) cU fun cV cW=>
 m R (Af .shr 173 true cV (.int .u64 1)) cW fun cX cY=>
 m R (Ay 173 3 cX) cY fun G H=>
 Dp (Ag 63 a d) fun cZ=>
 Dq H (Ad 128 cZ) fun c0=>
 Dp (Ag 63 a G) fun c1=>
 Dq H (Ad 128 c1) fun aK=>
 Df H (Ah C [c0,aK]) false fun aL c2=>
 Dp (Af .lss 3 true aL (.int .i64 0)) fun aM=>
 Dp (Cz .not aM) fun aN=>
 dend c2 fun O=>
 mif aN (
 m R (Af .add 3 true G (.int .i64 1)) O fun aO c3=>
 o aO F c3) (
 o z G O)) (
 ml1 d N fun g eC c4 I=>
 m R (Af .gtr 3 false g z) c4 fun aP A=>
 mif aP (
 Dp (Af .sub 3 true g (.int .i64 1)) fun aQ=>
 Dp (Af .sub 3 true g (.int .i64 1)) fun aR=>
 Dp (Ag 63 a aR) fun aS=>
 Dq A (Ad 128 aS) fun aT=>
 Dp (Ag 63 a g) fun aU=>
 Dq A (Ad 128 aU) fun aV=>
 Dp (Ag 63 a g) fun aW=>
 Df A (Ai 128 aW aT) false fun _ c5=>
 Dp (Ag 63 a aQ) fun aX=>
 Df c5 (Ai 128 aX aV) false fun _ c6=>
 dend c6 fun c7=>
 m R (Af .sub 3 true g (.int .i64 1)) c7 fun aY c8=>
 I aY c8) (
 R (.returned (.tuple #[])) A))) (
 m R (Af .add 3 false n B) M fun aZ c9=>
 m R (Ay 3 173 aZ) c9 fun a0 dA=>
 m R (Af .shr 173 true a0 (.int .u64 1)) dA fun a1 dB=>
 m R (Ay 173 3 a1) dB fun c dC=>
 m R (Af .add 3 false c d) dC fun r dD=>
 mj2 (fun Q=>
 m R (Af .gtr 3 false d c) dD fun a2 S=>
 mif a2 (
 m R (Af .sub 3 false r B) S fun a3 dE=>
 Q a3 c dE) (
 Q n d S)) fun b p eD dF=>
 m R (Af .sub 3 true r (.int .i64 1)) dF fun a4 dG=>
 ml2 b p dG fun b p eE dH q=>
 m R (Af .lss 3 false b p) dH fun a5 T=>
 mif a5 (
 m R (Af .add 3 false b p) T fun a6 dI=>
 m R (Ay 3 173 a6) dI fun a7 dJ=>
 m R (Af .shr 173 true a7 (.int .u64 1)) dJ fun a8 dK=>
 m R (Ay 173 3 a8) dK fun h J=>
 Dp (Af .sub 3 false a4 h) fun a9=>
 Dp (Ag 63 a a9) fun bA=>
 Dq J (Ad 128 bA) fun bB=>
 Dp (Ag 63 a h) fun bC=>
 Dq J (Ad 128 bC) fun bD=>
 Df J (Ah C [bB,bD]) false fun bE dL=>
 Dp (Af .lss 3 true bE (.int .i64 0)) fun bF=>
 Dp (Cz .not bF) fun bG=>
 dend dL fun U=>
 mif bG (
 m R (Af .add 3 true h (.int .i64 1)) U fun bH dM=>
 q bH p dM) (
 q b h U)) (
 m R (Af .sub 3 false r b) T fun e dN=>
 mj0 (fun V=>
 mj1 (fun dO=>
 m R (Af .lss 3 false b d) dN fun i W=>
 Gt R i (Bp d) W fun bI X=>
 Gt R i (Bp e) X fun bJ Y=>
 Gt R i (Af .lss 3 false bI bJ) Y fun bK dP=>
 m R (Bd i bK (.bool false)) dP fun s dQ=>
 dO s dQ) fun s eF Z=>
 mif s (
 m R (Ah (fv 217) [a,b,d,e,C]) Z fun d8 dR=>
 V dR) (
 V Z)) fun eG dS=>
 mj0 (fun aA=>
 mj1 (fun dT=>
 m R (Af .lss 3 false n b) dS fun j aB=>
 Gt R j (Bp b) aB fun bL aC=>
 Gt R j (Bp c) aC fun bM aD=>
 Gt R j (Af .lss 3 false bL bM) aD fun bN dU=>
 m R (Bd j bN (.bool false)) dU fun t dV=>
 dT t dV) fun t eH aE=>
 mif t (
 m R (Ah (fv 215) [a,n,b,c,C]) aE fun d9 dW=>
 aA dW) (
 aA aE)) fun eI dX=>
 mj1 (fun dY=>
 m R (Af .lss 3 false c e) dX fun l aF=>
 Gt R l (Bp e) aF fun bO aG=>
 Gt R l (Bp B) aG fun bP aH=>
 Gt R l (Af .lss 3 false bO bP) aH fun bQ dZ=>
 m R (Bd l bQ (.bool false)) dZ fun u d0=>
 dY u d0) fun u eJ aI=>
 mif u (
 m R (Ah (fv 215) [a,c,e,B,C]) aI fun eA d1=>
 R (.returned (.tuple #[])) d1) (
 R (.returned (.tuple #[])) aI))))
theorem Cy (h:Ck x0 x1 x2 x3 x4 w R):Calls prog 215 #[x0,x1,x2,x3,x4] w R:=cc (mkA Tryz.f215 [(3,[10,11],18014396362005504),(9,[13],P_ 77+P_ 13-P_ 55),(15,[14,15],P_ 107+P_ 17-P_ 83-P_ 14),(21,[17],P_ 129+P_ 17-P_ 108),(33,[20,21],P_ 175+P_ 24-P_ 149-P_ 22-P_ 20)] [(32,[20,21],P_ 147+P_ 22-P_ 138-P_ 20),(41,[],P_ 192-P_ 178),(40,[185],P_ 186-P_ 178),(43,[],P_ 206-P_ 192),(42,[199],P_ 200-P_ 192),(44,[213],P_ 214-P_ 206)] [(5,[0,0,0,0,3,0,0,0,3,1,0]),(11,[0,0,0,0,0,0,0,0,0,3,0,0,0,3,0,1,0,4]),(17,[0,0,0,0,3,0,0,0,3,1,0,0]),(23,[0,0,0,0,0,0,0,0,0,3,0,0,0,3,0,1,0,4]),(35,[0,0,0,0,0,0,3,0,0,0,3,1,0,0])] [] []) [x0,x1,x2,x3,x4] Tryz.func215 h
def Es (e C c D f:Value) (w:World) (R:Ending→World→Prop):Prop:=
 m R (Af .sub 3 false c C) w fun g E=>
 m R (Af .sub 3 false D c) E fun h F=>
 ml2 g h F fun a b O G d=>
 m R (Af .neq 3 false a b) G fun i j=>
 mif i (
 m R (Af .gtr 3 false a b) j fun l n=>
 mif l (
 m R (Af .sub 3 false c a) n fun o H=>
 m R (Ah (fv 218) [e,o,c,b,f]) H fun L I=>
 m R (Af .sub 3 false a b) I fun p J=>
 d p b J) (
 m R (Af .sub 3 false c a) n fun q K=>
 m R (Af .add 3 false c b) K fun r s=>
 m R (Af .sub 3 false r a) s fun t u=>
 m R (Ah (fv 218) [e,q,t,a,f]) u fun M v=>
 m R (Af .sub 3 false b a) v fun x y=>
 d a x y)) (
 m R (Af .sub 3 false c a) j fun z A=>
 m R (Ah (fv 218) [e,z,c,a,f]) A fun N B=>
 R (.returned (.tuple #[])) B)
theorem Hr (h:Es x0 x1 x2 x3 x4 w R):Calls prog 217 #[x0,x1,x2,x3,x4] w R:=cc ⟨[(2,[10,11],1125899906583552)],[],[],[],[]⟩ [x0,x1,x2,x3,x4] Tryz.func217 h
def Dx (b e f u B:Value) (w:World) (R:Ending→World→Prop):Prop:=
 ml1 (.int .i64 0) w fun a C v c=>
 m R (Af .lss 3 false a u) v fun g d=>
 mif g (
 Dp (Af .add 3 false e a) fun h=>
 Dp (Af .add 3 false f a) fun i=>
 Dp (Af .add 3 false f a) fun j=>
 Dp (Ag 63 b j) fun l=>
 Dq d (Ad 128 l) fun n=>
 Dp (Af .add 3 false e a) fun o=>
 Dp (Ag 63 b o) fun p=>
 Dq d (Ad 128 p) fun q=>
 Dp (Ag 63 b h) fun r=>
 Df d (Ai 128 r n) false fun _ x=>
 Dp (Ag 63 b i) fun s=>
 Df x (Ai 128 s q) false fun _ y=>
 dend y fun z=>
 m R (Af .add 3 true a (.int .i64 1)) z fun t A=>
 c t A) (
 R (.returned (.tuple #[])) d)
theorem Gl (h:Dx x0 x1 x2 x3 x4 w R):Calls prog 218 #[x0,x1,x2,x3,x4] w R:=cc (mkA Tryz.f218 [(1,[10],274877905920)] [] [(3,[0,0,0,0,0,0,0,0,0,0,0,0,0,3,0,0,0,0,0,3,0,1,0,4])] [] []) [x0,x1,x2,x3,x4] Tryz.func218 h
end Go.Proofs.YtgbenhmdamnmcaaGreat
namespace Go.Proofs.YtgbenhmdamnmcaaGreat
open Go.Proofs.Tryz
open Go.RowKit
theorem aEv (a b:Int):bits .or .u32 a b=bits .or .u32 b a:=by
 show IntKind.u32.wrap ((BitVec.ofInt 32 a ||| BitVec.ofInt 32 b).toNat:Int)=IntKind.u32.wrap ((BitVec.ofInt 32 b ||| BitVec.ofInt 32 a).toNat:Int)
 rw[BitVec.or_comm]
theorem aHf (a:Int):0≤IntKind.u32.wrap a∧IntKind.u32.wrap a<4294967296:=by
 have:IntKind.u32.wrap a=a%4294967296:=by simp[IntKind.wrap,IntKind.bits,IntKind.signed]
 rw[this];omega
def Wd (x:Int):Prop:=0≤x∧x<4294967296
theorem bBj (a b:Int):Wd (bits .or .u32 a b):=aHf _
theorem Ju (a:Int):Wd (a%4294967296):=⟨by omega,by omega⟩
def rotr (x:Int) (k:Nat):Int:=bits .or .u32 (x / 2 ^ k) (x*2 ^ (32 - k)%4294967296)
def word4 (a b c d:Int):Int:=bits .or .u32 (bits .or .u32 (bits .or .u32 (a*16777216%4294967296) (b*65536%4294967296)) (c*256%4294967296)) d
def sig0 (x:Int):Int:=bits .xor .u32 (bits .xor .u32 (rotr x 7) (rotr x 18)) (x / 8)
def sig1 (x:Int):Int:=bits .xor .u32 (bits .xor .u32 (rotr x 17) (rotr x 19)) (x / 1024)
def nextw (a b x y:Int):Int:=(((a+b)%4294967296+sig0 x)%4294967296+sig1 y)%4294967296
def wl (bs:List Int):Nat→List Int
 | 0=>[]
 | i+1=>wl bs i++[if i<16 then word4 (bs.getD (4*i) 0) (bs.getD (4*i+1) 0) (bs.getD (4*i+2) 0) (bs.getD (4*i+3) 0)
    else nextw ((wl bs i).getD (i - 16) 0) ((wl bs i).getD (i - 7) 0) ((wl bs i).getD (i - 15) 0) ((wl bs i).getD (i - 2) 0)]
structure S8 where
 a:Int
 b:Int
 c:Int
 d:Int
 e:Int
 f:Int
 g:Int
 h:Int
 deriving DecidableEq
def S8.t1 (s:S8) (k w:Int):Int:=
 ((((s.h+bits .xor .u32 (bits .xor .u32 (rotr s.e 6) (rotr s.e 11)) (rotr s.e 25))%4294967296+bits .xor .u32 (bits .and .u32 s.e s.f) (bits .and .u32 (bits .xor .u32 4294967295 s.e) s.g))%4294967296+k)%4294967296+w)%4294967296
def S8.t2 (s:S8):Int:=
 (bits .xor .u32 (bits .xor .u32 (rotr s.a 2) (rotr s.a 13)) (rotr s.a 22)+bits .xor .u32 (bits .xor .u32 (bits .and .u32 s.a s.b) (bits .and .u32 s.a s.c)) (bits .and .u32 s.b s.c))%4294967296
def S8.rnd (s:S8) (k w:Int):S8:=⟨(s.t1 k w+s.t2)%4294967296,s.a,s.b,s.c,(s.d+s.t1 k w)%4294967296,s.e,s.f,s.g⟩
def kl:List Int:=[1116352408,1899447441,3049323471,3921009573,961987163,1508970993,2453635748,2870763221,3624381080,310598401,607225278,1426881987,1925078388,2162078206,2614888103,3248222580,3835390401,4022224774,264347078,604807628,770255983,1249150122,1555081692,1996064986,2554220882,2821834349,2952996808,3210313671,3336571891,3584528711,113926993,338241895,666307205,773529912,1294757372,1396182291,1695183700,1986661051,2177026350,2456956037,2730485921,2820302411,3259730800,3345764771,3516065817,3600352804,4094571909,275423344,430227734,506948616,659060556,883997877,958139571,1322822218,1537002063,1747873779,1955562222,2024104815,2227730452,2361852424,2428436474,2756734187,3204031479,3329325298]
def rl (ws:List Int):Nat→S8→S8
 | 0,s=>s
 | i+1,s=>(rl ws i s).rnd (kl.getD i 0) (ws.getD i 0)
def S8.add (s t:S8):S8:=⟨(s.a+t.a)%4294967296,(s.b+t.b)%4294967296,(s.c+t.c)%4294967296,(s.d+t.d)%4294967296,(s.e+t.e)%4294967296,(s.f+t.f)%4294967296,(s.g+t.g)%4294967296,(s.h+t.h)%4294967296⟩
def compress (s:S8) (bs:List Int):S8:=s.add (rl (wl bs 64) 64 s)
def h0:S8:=⟨1779033703,3144134277,1013904242,2773480762,1359893119,2600822924,528734635,1541459225⟩
def feed (x:S8 × List Int) (b:Int):S8 × List Int:=if x.2.length=63 then (compress x.1 (x.2++[b]),[]) else (x.1,x.2++[b])
end Go.Proofs.YtgbenhmdamnmcaaGreat
namespace Go.Proofs.YtgbenhmdamnmcaaGreat
open Go.Proofs.Tryz
@[simp] theorem bBu (n : Nat) : (OfNat.ofNat n : Kd) = Kd.ty n := rfl
theorem Rf (x:Int) (k:Int) (c:Nat) (w:World) (h:Wd x) (hc:0<c∧c<32) (hk:bits .and .u64 (k%18446744073709551616) 31=((32 - c:Nat):Int)):
  Calls prog 204 #[.int .u32 x,.int .i64 k] w fun e w'=>e=.returned (.int .u32 (rotr x c))∧w=w':=by
 obtain⟨h0,h1⟩:=h
 refine Lc ?_
 unfold Fy
 refine Ab trivial ?_
 refine Ab trivial ?_
 rw[hk]
 (repeat (first|(refine Ab ?_ ?_;first|exact trivial|omega)|(refine Ap ?_ ?_;first|exact trivial|omega)))
 refine⟨?_,rfl⟩
 have e1:((32 - c:Nat):Int).toNat=32 - c:=by omega
 have e2:((32 - ((32 - c:Nat):Int))%18446744073709551616).toNat=c:=by omega
 rw[e1,e2,aEv]
 rfl
theorem Ga (x:Int) (c:Nat) (w:World) (h:Wd x) (hc:0<c∧c<32):
  Calls prog 104 #[.int .u32 x,.int .u64 (c:Int)] w fun e w'=>e=.returned (.int .u32 (rotr x c))∧w=w':=by
 obtain⟨h0,h1⟩:=h
 refine Rv ?_
 unfold Jp
 (repeat (first|(refine Ab ?_ ?_;first|exact trivial|omega)|(refine Ap ?_ ?_;first|exact trivial|omega)))
 refine⟨?_,rfl⟩
 have e1:((c:Nat):Int).toNat=c:=by omega
 have e2:((32 - (c:Int))%18446744073709551616).toNat=32 - c:=by omega
 rw[e1,e2]
 rfl
end Go.Proofs.YtgbenhmdamnmcaaGreat
namespace Go.Proofs.YtgbenhmdamnmcaaGreat
open Go.Proofs.Tryz
open Go.RowKit
theorem Is (bs:List Int):∀ i,(wl bs i).length=i
 | 0=>rfl
 | i+1=>by rw[wl,List.length_append,Is bs i];rfl
theorem aYz (bs:List Int) (i j:Nat) (h:j<i):(wl bs (i+1)).getD j 0=(wl bs i).getD j 0:=by
 rw[wl,List.getD_eq_getElem?_getD,List.getElem?_append_left (by rw[Is];exact h)]
 rfl
theorem Vv (bs:List Int) (i:Nat):(wl bs (i+1)).getD i 0=if i<16 then word4 (bs.getD (4*i) 0) (bs.getD (4*i+1) 0) (bs.getD (4*i+2) 0) (bs.getD (4*i+3) 0)
   else nextw ((wl bs i).getD (i - 16) 0) ((wl bs i).getD (i - 7) 0) ((wl bs i).getD (i - 15) 0) ((wl bs i).getD (i - 2) 0):=by
 conv=>lhs;rw[wl]
 rw[List.getD_eq_getElem?_getD,List.getElem?_append_right (by rw[Is];exact Nat.le_refl _),Is,Nat.sub_self]
 rfl
theorem aHg (bs:List Int):∀ i j,Wd ((wl bs i).getD j 0)
 | 0,j=>by simp[wl,Wd]
 | i+1,j=>by
   rcases Nat.lt_trichotomy j i with h|h|h
   ·rw[aYz bs i j h];exact aHg bs i j
   ·subst h
    rw[Vv]
    split
    ·exact bBj _ _
    ·exact Ju _
   ·rw[List.getD_eq_getElem?_getD,List.getElem?_eq_none (by rw[Is];omega)]
    simp[Wd]
def stCells (hs bl:List Int) (n:Int):List Value:=u32s hs++(u8s bl++(Value.int .i64 n::u32s kl))
theorem aJv:kl.length=64:=by decide
section
variable {hs bl:List Int} {n:Int}
theorem aJw (hh:hs.length=8) (hb:bl.length=64):(stCells hs bl n).length=137:=by
 simp[stCells,u32s,u8s,hh,hb,aJv]
theorem aCj (hh:hs.length=8) (i:Nat) (hi:i<8):(stCells hs bl n)[i]?=some (.int .u32 (hs.getD i 0)):=by
 rw[stCells,List.getElem?_append_left (by simp[u32s];omega),Hv _ _ (by omega)]
theorem aVp (hh:hs.length=8) (hb:bl.length=64) (i:Nat) (hi:i<64):(stCells hs bl n)[8+i]?=some (.int .u8 (bl.getD i 0)):=by
 rw[stCells,List.getElem?_append_right (by simp[u32s];omega),List.getElem?_append_left (by simp[u32s,u8s];omega)]
 rw[show 8+i - (u32s hs).length=i by simp[u32s];omega,In _ _ (by omega)]
theorem aRb (hh:hs.length=8) (hb:bl.length=64):(stCells hs bl n)[72]?=some (.int .i64 n):=by
 rw[stCells,List.getElem?_append_right (by simp[u32s];omega),List.getElem?_append_right (by simp[u32s,u8s];omega)]
 rw[show 72 - (u32s hs).length - (u8s bl).length=0 by simp[u32s,u8s];omega]
 rfl
theorem bBv (hh:hs.length=8) (hb:bl.length=64) (i:Nat) (hi:i<64):(stCells hs bl n)[73+i]?=some (.int .u32 (kl.getD i 0)):=by
 rw[stCells,List.getElem?_append_right (by simp[u32s];omega),List.getElem?_append_right (by simp[u32s,u8s];omega)]
 rw[show 73+i - (u32s hs).length - (u8s bl).length=i+1 by simp[u32s,u8s];omega,List.getElem?_cons_succ,Hv _ _ (by rw[aJv];exact hi)]
theorem aRc (hh:hs.length=8) (i:Nat) (hi:i<8) (v:Int):(stCells hs bl n).set i (.int .u32 v)=stCells (hs.set i v) bl n:=by
 rw[stCells,stCells,List.set_append,if_pos (by simp[u32s];omega)]
 simp[u32s,List.map_set]
theorem aRd (hh:hs.length=8) (hb:bl.length=64) (v:Int):(stCells hs bl n).set 72 (.int .i64 v)=stCells hs bl v:=by
 rw[stCells,stCells,List.set_append,if_neg (by simp[u32s];omega),List.set_append,if_neg (by simp[u32s,u8s];omega)]
 rw[show 72 - (u32s hs).length - (u8s bl).length=0 by simp[u32s,u8s];omega]
 rfl
end
theorem Ks (l:List Int) (i:Nat) (h:∀ x∈l,0≤x∧x<256):0≤l.getD i 0∧l.getD i 0<256:=by
 rw[List.getD_eq_getElem?_getD]
 cases hx:l[i]? with
 | none=>simp
 | some x=>exact h x (List.mem_of_getElem? hx)
theorem Ku (l:List Int) (i:Nat) (h:∀ x∈l,Wd x):Wd (l.getD i 0):=by
 rw[List.getD_eq_getElem?_getD]
 cases hx:l[i]? with
 | none=>simp[Wd]
 | some x=>exact h x (List.mem_of_getElem? hx)
def wk (bl:List Int) (k:Nat):List Int:=wl bl k++List.replicate (64 - k) 0
theorem aEw (bl:List Int) (k:Nat) (h:k≤64):(wk bl k).length=64:=by simp[wk,Is];omega
theorem Xi (bl:List Int) (k j:Nat) (h:j<k):(u32s (wk bl k))[j]?=some (.int .u32 ((wl bl k).getD j 0)):=by
 rw[Hv _ _ (by simp[wk,Is];omega),wk]
 congr 2
 rw[List.getD_eq_getElem?_getD,List.getElem?_append_left (by rw[Is];exact h)]
 rfl
theorem aEx (bl:List Int) (k:Nat) (h:k<64) (v:Int) (hv:(wl bl (k+1)).getD k 0=v):(u32s (wk bl k)).set k (.int .u32 v)=u32s (wk bl (k+1)):=by
 have e:wl bl (k+1)=wl bl k++[v]:=by
  rw[wl]
  rw[Vv]at hv
  rw[hv]
 unfold u32s wk
 rw[← List.map_set,List.set_append,if_neg (by rw[Is];omega),Is,Nat.sub_self,e,List.append_assoc]
 congr 2
 rw[show 64 - k=(64 - (k+1))+1 by omega,List.replicate_succ]
 rfl
def s8 (hs:List Int):S8:=⟨hs.getD 0 0,hs.getD 1 0,hs.getD 2 0,hs.getD 3 0,hs.getD 4 0,hs.getD 5 0,hs.getD 6 0,hs.getD 7 0⟩
def S8.list (s:S8):List Int:=[s.a,s.b,s.c,s.d,s.e,s.f,s.g,s.h]
structure S8.Ok (s:S8):Prop where
 a:Wd s.a
 b:Wd s.b
 c:Wd s.c
 d:Wd s.d
 e:Wd s.e
 f:Wd s.f
 g:Wd s.g
 h:Wd s.h
theorem aRe (ws:List Int) {s:S8} (h:s.Ok):∀ i,(rl ws i s).Ok
 | 0=>h
 | i+1=>by
   have h:=aRe ws h i
   exact⟨Ju _,h.a,h.b,h.c,Ju _,h.e,h.f,h.g⟩
def addK (hs ts:List Int):Nat→List Int
 | 0=>hs
 | i+1=>(addK hs ts i).set i ((hs.getD i 0+ts.getD i 0)%4294967296)
theorem aAn (hs ts:List Int):∀ i,(addK hs ts i).length=hs.length
 | 0=>rfl
 | i+1=>by rw[addK,List.length_set,aAn hs ts i]
theorem aEy (hs ts:List Int):∀ i j,i≤j→(addK hs ts i).getD j 0=hs.getD j 0
 | 0,j,_=>rfl
 | i+1,j,h=>by
   rw[addK,List.getD_eq_getElem?_getD,List.getElem?_set_ne (by omega),← List.getD_eq_getElem?_getD]
   exact aEy hs ts i j (by omega)
theorem aHh (hs:List Int) (s:S8) (hh:hs.length=8):addK hs s.list 8=((s8 hs).add s).list:=by
 match hs,hh with
 | [a,b,c,d,e,f,g,h],_=>rfl
theorem build8 (a b c d e f g h:Int):Pur prog (At 165 [(0,.int .u32 a),(1,.int .u32 b),(2,.int .u32 c),(3,.int .u32 d),(4,.int .u32 e),(5,.int .u32 f),(6,.int .u32 g),(7,.int .u32 h)])
 (.agg (u32s [a,b,c,d,e,f,g,h]).toArray):=fun w=>by kernel_rfl
set_option maxRecDepth 100000 in
set_option maxHeartbeats 2000000 in
theorem aVq (b:Nat) (hs bl:List Int) (n:Int) (w:World) (hb:Blf w b 170 (stCells hs bl n)) (hh:hs.length=8) (hbl:bl.length=64) (hby:∀ x∈bl,0≤x∧x<256) (hhw:∀ x∈hs,Wd x):
  Calls prog 171 #[.pointer (some ⟨b,0,none⟩)] w fun e w'=>e=.returned (.tuple #[])∧St w [⟨b,170,stCells (compress (s8 hs) bl).list bl n,false⟩] w':=by
 refine Vq ?_
 unfold Ml
 refine Eb (St.oneF hb) (fun g w1 h1=>?_)
 refine⟨fun x w2=>∃ k:Nat,k≤16∧x=.int .i64 k∧St w [⟨g,166,u32s (wk bl k),true⟩,⟨b,170,stCells hs bl n,false⟩] w2,fun x _=>16 - (intOf x).toNat,⟨0,by omega,rfl,h1⟩,?_⟩
 rintro x21 u w2 ⟨k,hk,rfl,h2⟩
 refine Ab trivial ?_
 refine Dn (fun hlt=>?_) (fun hge=>?_)
 ·have q0:=Ks bl (4*k) hby
  have q1:=Ks bl (4*k+1) hby
  have q2:=Ks bl (4*k+2) hby
  have q3:=Ks bl (4*k+3) hby
  (repeat (first|(refine Ab ?_ ?_;first|exact trivial|omega)|(refine Ap ?_ ?_;first|exact trivial|omega)))
  refine Db ((h2.cell 1 rfl (8+4*k)).trans (aVp hh hbl (4*k) (by omega))) (by omega) ?_
  (repeat (first|(refine Ab ?_ ?_;first|exact trivial|omega)|(refine Ap ?_ ?_;first|exact trivial|omega)))
  refine Db ((h2.cell 1 rfl (8+(4*k+1))).trans (aVp hh hbl (4*k+1) (by omega))) (by omega) ?_
  (repeat (first|(refine Ab ?_ ?_;first|exact trivial|omega)|(refine Ap ?_ ?_;first|exact trivial|omega)))
  refine Db ((h2.cell 1 rfl (8+(4*k+2))).trans (aVp hh hbl (4*k+2) (by omega))) (by omega) ?_
  (repeat (first|(refine Ab ?_ ?_;first|exact trivial|omega)|(refine Ap ?_ ?_;first|exact trivial|omega)))
  refine Db ((h2.cell 1 rfl (8+(4*k+3))).trans (aVp hh hbl (4*k+3) (by omega))) (by omega) ?_
  (repeat (first|(refine Ab ?_ ?_;first|exact trivial|omega)|(refine Ap ?_ ?_;first|exact trivial|omega)))
  refine aGj (j:=k) h2 (by omega) (by simp[u32s,aEw bl k (by omega)];omega) rfl (fun w3 h3=>?_)
  refine Cs fun w4 hd=>?_
  have h4:=h3.drawn hd
  (repeat (first|(refine Ab ?_ ?_;first|exact trivial|omega)|(refine Ap ?_ ?_;first|exact trivial|omega)))
  refine⟨⟨k+1,by omega,rfl,?_⟩,by simp[intOf];omega⟩
  rw[aEx bl k (by omega)]at h4
  ·exact h4
  ·rw[Vv,if_pos (by omega)]
   rfl
 ·obtain rfl:k=16:=by omega
  refine⟨fun x w2=>∃ k:Nat,16≤k∧k≤64∧x=.int .i64 k∧St w [⟨g,166,u32s (wk bl k),true⟩,⟨b,170,stCells hs bl n,false⟩] w2,fun x _=>64 - (intOf x).toNat,⟨16,by omega,by omega,rfl,h2⟩,?_⟩
  clear h1 h2
  rintro x5 u2 w3 ⟨k,hk0,hk,rfl,h3⟩
  refine Ab trivial ?_
  refine Dn (fun hlt=>?_) (fun hge=>?_)
  ·have d15:=aHg bl k (k - 15)
   have d2:=aHg bl k (k - 2)
   (repeat (first|(refine Ab ?_ ?_;first|exact trivial|omega)|(refine Ap ?_ ?_;first|exact trivial|omega)))
   refine Db ((h3.cell 0 rfl (k - 15)).trans (Xi bl k (k - 15) (by omega))) (by omega) ?_
   (repeat (first|(refine Ab ?_ ?_;first|exact trivial|omega)|(refine Ap ?_ ?_;first|exact trivial|omega)))
   refine Db ((h3.cell 0 rfl (k - 2)).trans (Xi bl k (k - 2) (by omega))) (by omega) ?_
   refine Cs fun w4 hd=>?_
   have h4:=h3.drawn hd
   (repeat (first|(refine Ab ?_ ?_;first|exact trivial|omega)|(refine Ap ?_ ?_;first|exact trivial|omega)))
   refine Db ((h4.cell 0 rfl (k - 16)).trans (Xi bl k (k - 16) (by omega))) (by omega) ?_
   (repeat (first|(refine Ab ?_ ?_;first|exact trivial|omega)|(refine Ap ?_ ?_;first|exact trivial|omega)))
   refine Db ((h4.cell 0 rfl (k - 7)).trans (Xi bl k (k - 7) (by omega))) (by omega) ?_
   (repeat (first|(refine Ab ?_ ?_;first|exact trivial|omega)|(refine Ap ?_ ?_;first|exact trivial|omega)))
   refine If (fun w=>Rf _ (-7) 7 w d15 (by decide) (by decide)) fun w5 hd5=>?_
   refine If (fun w=>Rf _ (-18) 18 w d15 (by decide) (by decide)) fun w6 hd6=>?_
   (repeat (first|(refine Ab ?_ ?_;first|exact trivial|omega)|(refine Ap ?_ ?_;first|exact trivial|omega)))
   refine If (fun w=>Rf _ (-17) 17 w d2 (by decide) (by decide)) fun w7 hd7=>?_
   refine If (fun w=>Rf _ (-19) 19 w d2 (by decide) (by decide)) fun w8 hd8=>?_
   (repeat (first|(refine Ab ?_ ?_;first|exact trivial|omega)|(refine Ap ?_ ?_;first|exact trivial|omega)))
   have h8:=h4.drawn (((hd5.trans hd6).trans hd7).trans hd8)
   refine aGj (j:=k) h8 (by omega) (by simp[u32s,aEw bl k hk];omega) rfl (fun w9 h9=>?_)
   refine Cs fun w10 hd10=>?_
   have h10:=h9.drawn hd10
   (repeat (first|(refine Ab ?_ ?_;first|exact trivial|omega)|(refine Ap ?_ ?_;first|exact trivial|omega)))
   refine⟨⟨k+1,by omega,by omega,rfl,?_⟩,by simp[intOf];omega⟩
   rw[aEx bl k (by omega)]at h10
   ·exact h10
   ·rw[Vv,if_neg (by omega)]
    rfl
  ·obtain rfl:k=64:=by omega
   have hw:wk bl 64=wl bl 64:=by simp[wk]
   have hWl:(wl bl 64).length=64:=Is bl 64
   have hcomp:compress (s8 hs) bl=(s8 hs).add (rl (wl bl 64) 64 (s8 hs)):=rfl
   rw[hw]at h3
   rw[hcomp]
   clear hw hcomp
   generalize wl bl 64=W at h3 hWl ⊢
   (repeat (first|(refine Ab ?_ ?_;first|exact trivial|omega)|(refine Ap ?_ ?_;first|exact trivial|omega)))
   refine Db ((h3.cell 1 rfl 0).trans (aCj hh 0 (by omega))) rfl ?_
   (repeat (first|(refine Ab ?_ ?_;first|exact trivial|omega)|(refine Ap ?_ ?_;first|exact trivial|omega)))
   refine Db ((h3.cell 1 rfl 1).trans (aCj hh 1 (by omega))) rfl ?_
   (repeat (first|(refine Ab ?_ ?_;first|exact trivial|omega)|(refine Ap ?_ ?_;first|exact trivial|omega)))
   refine Db ((h3.cell 1 rfl 2).trans (aCj hh 2 (by omega))) rfl ?_
   (repeat (first|(refine Ab ?_ ?_;first|exact trivial|omega)|(refine Ap ?_ ?_;first|exact trivial|omega)))
   refine Db ((h3.cell 1 rfl 3).trans (aCj hh 3 (by omega))) rfl ?_
   (repeat (first|(refine Ab ?_ ?_;first|exact trivial|omega)|(refine Ap ?_ ?_;first|exact trivial|omega)))
   refine Db ((h3.cell 1 rfl 4).trans (aCj hh 4 (by omega))) rfl ?_
   (repeat (first|(refine Ab ?_ ?_;first|exact trivial|omega)|(refine Ap ?_ ?_;first|exact trivial|omega)))
   refine Db ((h3.cell 1 rfl 5).trans (aCj hh 5 (by omega))) rfl ?_
   (repeat (first|(refine Ab ?_ ?_;first|exact trivial|omega)|(refine Ap ?_ ?_;first|exact trivial|omega)))
   refine Db ((h3.cell 1 rfl 6).trans (aCj hh 6 (by omega))) rfl ?_
   (repeat (first|(refine Ab ?_ ?_;first|exact trivial|omega)|(refine Ap ?_ ?_;first|exact trivial|omega)))
   refine Db ((h3.cell 1 rfl 7).trans (aCj hh 7 (by omega))) rfl ?_
   refine Cs fun w4 hd=>?_
   have h4:=h3.drawn hd
   clear h3
   have hok:(s8 hs).Ok:=⟨Ku _ _ hhw,Ku _ _ hhw,Ku _ _ hhw,Ku _ _ hhw,Ku _ _ hhw,Ku _ _ hhw,Ku _ _ hhw,Ku _ _ hhw⟩
   refine⟨fun xa xb xc xd xe xf xg xh x w2=>∃ i:Nat,i≤64∧x=.int .i64 i∧xa=.int .u32 (rl W i (s8 hs)).a∧xb=.int .u32 (rl W i (s8 hs)).b∧xc=.int .u32 (rl W i (s8 hs)).c∧xd=.int .u32 (rl W i (s8 hs)).d ∧
     xe=.int .u32 (rl W i (s8 hs)).e∧xf=.int .u32 (rl W i (s8 hs)).f∧xg=.int .u32 (rl W i (s8 hs)).g∧xh=.int .u32 (rl W i (s8 hs)).h ∧
     St w [⟨g,166,u32s W,true⟩,⟨b,170,stCells hs bl n,false⟩] w2,fun _ _ _ _ _ _ _ _ x _=>64 - (intOf x).toNat,⟨0,by omega,rfl,rfl,rfl,rfl,rfl,rfl,rfl,rfl,rfl,h4⟩,?_⟩
   clear h4 hd
   rintro xa xb xc xd xe xf xg xh x u3 w5 ⟨i,hi,rfl,rfl,rfl,rfl,rfl,rfl,rfl,rfl,rfl,h5⟩
   have hr:=aRe W hok i
   have hrs:rl W (i+1) (s8 hs)=(rl W i (s8 hs)).rnd (kl.getD i 0) (W.getD i 0):=rfl
   obtain⟨s',hs'⟩:∃ s',s'=rl W (i+1) (s8 hs):=⟨_,rfl⟩
   obtain⟨s,hs64⟩:∃ s,rl W i (s8 hs)=s:=⟨_,rfl⟩
   rw[← hs']at hrs
   rw[hs64]at hr hrs
   rw[hs64]
   refine Ab trivial ?_
   refine Dn (fun hlt=>?_) (fun hge=>?_)
   ·refine If (fun w=>Rf _ (-6) 6 w hr.e (by decide) (by decide)) fun w6 hd6=>?_
    refine If (fun w=>Rf _ (-11) 11 w hr.e (by decide) (by decide)) fun w7 hd7=>?_
    (repeat (first|(refine Ab ?_ ?_;first|exact trivial|omega)|(refine Ap ?_ ?_;first|exact trivial|omega)))
    refine If (fun w=>Rf _ (-25) 25 w hr.e (by decide) (by decide)) fun w8 hd8=>?_
    (repeat (first|(refine Ab ?_ ?_;first|exact trivial|omega)|(refine Ap ?_ ?_;first|exact trivial|omega)))
    refine Db ((h5.cell 1 rfl (73+i)).trans (bBv hh hbl i (by omega))) (by omega) ?_
    (repeat (first|(refine Ab ?_ ?_;first|exact trivial|omega)|(refine Ap ?_ ?_;first|exact trivial|omega)))
    refine Db ((h5.cell 0 rfl i).trans (Hv W i (by omega))) (by omega) ?_
    (repeat (first|(refine Ab ?_ ?_;first|exact trivial|omega)|(refine Ap ?_ ?_;first|exact trivial|omega)))
    refine Cs fun w9 hd9=>?_
    have h9:=h5.drawn (((hd6.trans hd7).trans hd8).trans hd9)
    refine aJg (Rf _ (-2) 2 _ hr.a (by decide) (by decide)) ?_
    refine aJg (Rf _ (-13) 13 _ hr.a (by decide) (by decide)) ?_
    (repeat (first|(refine Ab ?_ ?_;first|exact trivial|omega)|(refine Ap ?_ ?_;first|exact trivial|omega)))
    refine aJg (Rf _ (-22) 22 _ hr.a (by decide) (by decide)) ?_
    (repeat (first|(refine Ab ?_ ?_;first|exact trivial|omega)|(refine Ap ?_ ?_;first|exact trivial|omega)))
    refine⟨⟨i+1,by omega,rfl,?_,?_,?_,?_,?_,?_,?_,?_,h9⟩,by simp[intOf];omega⟩
    all_goals (rw[← hs',hrs];rfl)
   ·obtain rfl:i=64:=by omega
    refine Br (build8 _ _ _ _ _ _ _ _) ?_
    have hrs:rl W 64 (s8 hs)=s:=hs64
    refine⟨fun x w2=>∃ i:Nat,i≤8∧x=.int .i64 i∧St w [⟨b,170,stCells (addK hs s.list i) bl n,false⟩,⟨g,166,u32s W,true⟩] w2,fun x _=>8 - (intOf x).toNat,⟨0,by omega,rfl,h5.swap⟩,?_⟩
    clear h5
    rintro x u4 w6 ⟨i,hi,rfl,h6⟩
    refine Ab trivial ?_
    refine Dn (fun hlt=>?_) (fun hge=>?_)
    ·refine Br (Kz _ 164 8 _ _ _ (.int .u32 (s.list.getD i 0)) (by kernel_rfl) (by kernel_rfl) (by omega) (by omega) ?_) ?_
     ·have:=Hv s.list i (by simp[S8.list];omega)
      have e:((i:Nat):Int).toNat=i:=by omega
      rw[e,List.getElem?_toArray]
      exact this
     have hal:=aAn hs s.list i
     (repeat (first|(refine Ab ?_ ?_;first|exact trivial|omega)|(refine Ap ?_ ?_;first|exact trivial|omega)))
     refine Db ((h6.cell 0 rfl i).trans (aCj (by omega) i (by omega))) (by omega) ?_
     (repeat (first|(refine Ab ?_ ?_;first|exact trivial|omega)|(refine Ap ?_ ?_;first|exact trivial|omega)))
     refine aGj (j:=i) h6 (by omega) (by rw[aJw (by omega) hbl];omega) rfl (fun w7 h7=>?_)
     refine Cs fun w8 hd8=>?_
     have h8:=h7.drawn hd8
     (repeat (first|(refine Ab ?_ ?_;first|exact trivial|omega)|(refine Ap ?_ ?_;first|exact trivial|omega)))
     refine⟨⟨i+1,by omega,rfl,?_⟩,by simp[intOf];omega⟩
     rw[aRc (by omega) i (by omega),aEy hs s.list i i (Nat.le_refl i)]at h8
     exact h8
    ·obtain rfl:i=8:=by omega
     refine⟨rfl,?_⟩
     rw[hrs,← aHh hs s hh]
     exact h6.swap.drop
end Go.Proofs.YtgbenhmdamnmcaaGreat
namespace Go.Proofs.YtgbenhmdamnmcaaGreat
open Go.Proofs.Tryz
open Go.RowKit
def feedAll (x:S8 × List Int) (bs:List Int):S8 × List Int:=bs.foldl feed x
theorem Fh (x:S8 × List Int) (a b:List Int):feedAll x (a++b)=feedAll (feedAll x a) b:=by simp[feedAll]
theorem Ld (s:S8):∀ (bs p:List Int),p.length+bs.length<64→feedAll (s,p) bs=(s,p++bs)
 | [],p,_=>by simp[feedAll]
 | b::bs,p,h=>by
   have h1:feed (s,p) b=(s,p++[b]):=by
    unfold feed
    rw[if_neg (by simp at h ⊢;omega)]
   show feedAll (feed (s,p) b) bs=_
   rw[h1,Ld s bs (p++[b]) (by simp at h ⊢;omega)]
   simp
theorem Ua (s:S8) (bs p:List Int) (hb:0<bs.length) (h:p.length+bs.length=64):feedAll (s,p) bs=(compress s (p++bs),[]):=by
 obtain⟨cs,c,rfl⟩:∃ cs c,bs=cs++[c]:=⟨bs.dropLast,bs.getLast (by intro e;simp[e]at hb),(List.dropLast_concat_getLast _).symm⟩
 rw[Fh,Ld s cs p (by simp at h;omega)]
 show feed (s,p++cs) c=_
 unfold feed
 rw[if_pos (by simp at h ⊢;omega)]
 simp
theorem Xj {s:S8} (bs:List Int):(compress s bs).Ok:=⟨Ju _,Ju _,Ju _,Ju _,Ju _,Ju _,Ju _,Ju _⟩
structure Dig (x:S8 × List Int) (n:Nat) (bl:List Int):Prop where
 ok:x.1.Ok
 len:bl.length=64
 by_:∀ c∈bl,0≤c∧c<256
 pend:x.2.length=n%64
 has:bl.take x.2.length=x.2
theorem aMa (s:S8):s8 s.list=s:=rfl
theorem aVr {s:S8} (h:s.Ok):∀ x∈s.list,Wd x:=by
 intro x hx
 simp only[S8.list,List.mem_cons,List.not_mem_nil,or_false]at hx
 rcases hx with rfl|rfl|rfl|rfl|rfl|rfl|rfl|rfl
 ·exact h.a
 ·exact h.b
 ·exact h.c
 ·exact h.d
 ·exact h.e
 ·exact h.f
 ·exact h.g
 ·exact h.h
def blCopy (bl bs:List Int) (i:Nat):List Int:=bl.take i++bs++bl.drop (i+bs.length)
theorem aZa (hs bl bs:List Int) (n:Int) (i:Nat) (hh:hs.length=8) (hb:bl.length=64) (hi:i+bs.length≤64):lay (stCells hs bl n) (u8s bs) (8+i)=stCells hs (blCopy bl bs i) n:=by
 have e8:(u32s hs).length=8:=by simp[u32s,hh]
 have ebs:(u8s bs).length=bs.length:=by simp[u8s]
 unfold lay stCells
 rw[List.take_append,List.take_of_length_le (by omega),List.drop_append,List.drop_eq_nil_of_le (by omega),e8,ebs]
 rw[show 8+i - 8=i by omega,show 8+i+bs.length - 8=i+bs.length by omega]
 rw[List.take_append_of_le_length (by simp[u8s];omega),List.drop_append_of_le_length (by simp[u8s];omega)]
 simp[u8s,blCopy]
theorem aRf {x:S8 × List Int} {n:Nat} {bl bs:List Int} (h:Dig x n bl) (hbs:∀ c∈bs,0≤c∧c<256) (hl:n%64+bs.length≤64) (h0:0<bs.length):
  let bl':=blCopy bl bs (n%64)
  (∀ c∈bl',0≤c∧c<256)∧bl'.length=64∧(n%64+bs.length<64→Dig (feedAll x bs) (n+bs.length) bl'∧(feedAll x bs).1=x.1)∧(n%64+bs.length=64→(feedAll x bs).1=compress x.1 bl'∧Dig (feedAll x bs) (n+bs.length) bl'):=by
 obtain⟨s,p⟩:=x
 obtain⟨hok,hlen,hby,hp,hhas⟩:=h
 simp only[]at hp hhas hok
 have hpn:p.length≤64:=by omega
 have hb1:∀ c∈blCopy bl bs (n%64),0≤c∧c<256:=fun c hc=>by
  simp only[blCopy,List.mem_append]at hc
  rcases hc with (hc|hc)|hc
  ·exact hby c (List.mem_of_mem_take hc)
  ·exact hbs c hc
  ·exact hby c (List.mem_of_mem_drop hc)
 have hb2:(blCopy bl bs (n%64)).length=64:=by simp[blCopy,hlen];omega
 have hpre:(blCopy bl bs (n%64)).take (p.length+bs.length)=p++bs:=by
  unfold blCopy
  rw[hp]at hhas
  rw[hhas,hp,List.take_append_of_le_length (by simp[hp]),List.take_of_length_le (by simp[hp])]
 refine⟨hb1,hb2,fun hlt=>?_,fun heq=>?_⟩
 ·have e:=Ld s bs p (by omega)
  rw[e]
  exact⟨⟨hok,hb2,hb1,by simp[hp];omega,by simpa using hpre⟩,rfl⟩
 ·have e:=Ua s bs p h0 (by omega)
  rw[e]
  have hall:blCopy bl bs (n%64)=p++bs:=by
   rw[← hpre,List.take_of_length_le (by omega)]
  refine⟨by rw[hall],Xj _,hb2,hb1,?_,rfl⟩
  simp
  omega
def strLen:Value→Nat
 | .string s=>s.size
 | _=>0
theorem Fm (s:ByteArray) (i j:Nat):ints (s.extract i j)=((ints s).take j).drop i:=by
 simp[ints,List.map_drop,List.map_take]
 rw[List.drop_take]
theorem Ye (s:ByteArray) (k m:Nat) (h:k+m≤s.size):(s.extract k s.size).extract m (s.size - k)=s.extract (k+m) s.size:=by
 rw[← Ln ((s.extract k s.size).extract m (s.size - k)),← Ln (s.extract (k+m) s.size),Fm,Fm,Fm]
 congr 1
 have hl:=Bq s
 have e:(ints s).take s.size=ints s:=List.take_of_length_le (by omega)
 rw[e,List.take_of_length_le (by rw[List.length_drop];omega),List.drop_drop]
set_option maxRecDepth 100000 in
theorem aRg (b:Nat) (x:S8 × List Int) (n:Nat) (bl:List Int) (t:ByteArray) (w:World) (hb:Blf w b 170 (stCells x.1.list bl n)) (hd:Dig x n bl) (hn:n+t.size<9223372036854775808):
  Calls prog 102 #[.pointer (some ⟨b,0,none⟩),.string t] w fun e w'=>e=.returned (.tuple #[])∧∃ bl',Dig (feedAll x (ints t)) (n+t.size) bl'∧St w [⟨b,170,stCells (feedAll x (ints t)).1.list bl' ((n+t.size:Nat):Int),false⟩] w':=by
 refine Yb ?_
 unfold Oa
 refine⟨fun v w2=>∃ (k:Nat) (bl':List Int),k≤t.size∧v=.string (t.extract k t.size)∧Dig (feedAll x ((ints t).take k)) (n+k) bl'∧St w [⟨b,170,stCells (feedAll x ((ints t).take k)).1.list bl' ((n+k:Nat):Int),false⟩] w2,fun v _=>strLen v,⟨0,bl,by omega,by simp,by simpa [feedAll] using hd,by simp[feedAll];exact St.oneF hb⟩,?_⟩
 rintro v u w1 ⟨k,bl',hk,rfl,hd1,h1⟩
 have hsz:(t.extract k t.size).size=t.size - k:=by simp
 refine Ab trivial ?_
 rw[hsz]
 refine Ab trivial ?_
 refine Dn (fun hlt=>?_) (fun hge=>?_)
 ·have hll:0<t.size - k:=by omega
  (repeat (first|(refine Ab ?_ ?_;first|exact trivial|omega)|(refine Ap ?_ ?_;first|exact trivial|omega)))
  have hlist:(feedAll x ((ints t).take k)).1.list.length=8:=rfl
  refine Db ((h1.cell 0 rfl 72).trans (aRb hlist hd1.len)) rfl ?_
  (repeat (first|(refine Ab ?_ ?_;first|exact trivial|omega)|(refine Ap ?_ ?_;first|exact trivial|omega)))
  refine El fun w2 hd2=>?_
  have hi:((((n+k:Nat):Int))%64).toNat=(n+k)%64:=by omega
  rw[hi]
  obtain⟨w3,hr,h3⟩:=Io (P:=prog) (o:=0+8+(n+k)%64) (m:=64 - (n+k)%64) (c:=64 - (n+k)%64) (s:=t.extract k t.size) (dT:=89) (sT:=9) (ty:=3) (e:=5) (ks:=[false,false]) (h1.drawn hd2) (by kernel_rfl) (by kernel_rfl) (by rw[aJw hlist hd1.len];omega)
  refine Cl hr ⟨(fun e=>by cases e),?_⟩
  have hm:min (t.extract k t.size).size (64 - (n+k)%64)=min (t.size - k) (64 - (n+k)%64):=by rw[hsz]
  rw[hm]at h3 ⊢
  obtain⟨m,hmm⟩:∃ m,m=min (t.size - k) (64 - (n+k)%64):=⟨_,rfl⟩
  rw[← hmm]at h3 ⊢
  have hbl:((ints (t.extract k t.size)).take m).length=m:=by rw[List.length_take,Bq,hsz];omega
  have hbr:∀ c∈(ints (t.extract k t.size)).take m,0≤c∧c<256:=fun c hc=>Nb _ c (List.mem_of_mem_take hc)
  rw[show 0+8+(n+k)%64=8+(n+k)%64 by omega,aZa _ _ _ _ _ hlist hd1.len (by rw[hbl];omega)]at h3
  have hstep:=aRf hd1 hbr (by rw[hbl];omega) (by rw[hbl];omega)
  have hfeed:feedAll (feedAll x ((ints t).take k)) ((ints (t.extract k t.size)).take m)=feedAll x ((ints t).take (k+m)):=by
   have e:(ints t).take t.size=ints t:=List.take_of_length_le (by rw[Bq];omega)
   rw[← Fh,Fm,e,← List.take_add]
  rw[hfeed,hbl]at hstep
  have hext:=Ye t k m (by omega)
  generalize blCopy bl' ((ints (t.extract k t.size)).take m) ((n+k)%64)=bl2 at h3 hstep
  obtain⟨hby2,hlen2,hs1,hs2⟩:=hstep
  refine Cs fun w4 hd4=>?_
  have h4:=h3.drawn hd4
  clear h1 h3 hr hfeed
  refine Ab (by rw[hsz];omega) ?_
  rw[hsz,Int.toNat_natCast,hext]
  (repeat (first|(refine Ab ?_ ?_;first|exact trivial|omega)|(refine Ap ?_ ?_;first|exact trivial|omega)))
  refine Em ((h4.cell 0 rfl 72).trans (aRb hlist hlen2)) rfl ?_
  (repeat (first|(refine Ab ?_ ?_;first|exact trivial|omega)|(refine Ap ?_ ?_;first|exact trivial|omega)))
  refine Oh (j:=72) h4 rfl (by rw[aJw hlist hlen2];omega) rfl (fun w5 h5=>?_)
  rw[aRd hlist hlen2]at h5
  (repeat (first|(refine Ab ?_ ?_;first|exact trivial|omega)|(refine Ap ?_ ?_;first|exact trivial|omega)))
  refine Em ((h5.cell 0 rfl 72).trans (aRb hlist hlen2)) rfl ?_
  (repeat (first|(refine Ab ?_ ?_;first|exact trivial|omega)|(refine Ap ?_ ?_;first|exact trivial|omega)))
  have hsz2:(t.extract (k+m) t.size).size=t.size - (k+m):=by simp
  have hnk:((n+k:Nat):Int)+(m:Int)=((n+(k+m):Nat):Int):=by omega
  rw[hnk]at h5 ⊢
  refine Dn (fun hz=>?_) (fun hnz=>?_)
  ·obtain⟨hs3,hs4⟩:=hs2 (by omega)
   refine Ej (aVq b _ bl2 _ w5 h5.head hlist hlen2 hby2 (aVr hd1.ok)) ?_
   rintro e w6 ⟨rfl,h6⟩
   have h7:=h5.call1 h6
   rw[aMa,← hs3]at h7
   exact⟨⟨k+m,bl2,by omega,rfl,by rw[← Nat.add_assoc];exact hs4,h7⟩,by simp only[strLen,hsz,hsz2];omega⟩
  ·obtain⟨hs3,hs4⟩:=hs1 (by omega)
   rw[← hs4]at h5
   exact⟨⟨k+m,bl2,by omega,rfl,by rw[← Nat.add_assoc];exact hs3,h5⟩,by simp only[strLen,hsz,hsz2];omega⟩
 ·obtain rfl:k=t.size:=by omega
  have e:(ints t).take t.size=ints t:=List.take_of_length_le (by rw[Bq];omega)
  rw[e]at hd1 h1
  exact⟨rfl,bl',hd1,h1⟩
end Go.Proofs.YtgbenhmdamnmcaaGreat
namespace Go.Proofs.YtgbenhmdamnmcaaGreat
open Go.Proofs.Tryz
open Go.RowKit
def lenB (n:Nat) (i:Nat):Int:=((n:Int)%18446744073709551616*8%18446744073709551616) / 2 ^ (56 - 8*(i:Int)).toNat%256
def padding (n:Nat):List Int:=(128::List.replicate (63 - (n+8)%64) 0)++(List.range 8).map (lenB n)
def outAt (l:List Int) (i:Nat):Int:=l.getD (i / 4) 0 / 2 ^ (24 - 8*(i%4))%256
def outB (s:S8):List Int:=(List.range 32).map (outAt s.list)
def shaSum (bs:List Int):List Int:=outB (feedAll (h0,[]) (bs++padding bs.length)).1
theorem Dg (bs:List Int):(shaSum bs).length=32:=by simp[shaSum,outB]
theorem aJx (s:S8):∀ x∈outB s,0≤x∧x<256:=by
 intro x hx
 obtain⟨i,_,rfl⟩:=List.mem_map.1 hx
 unfold outAt
 omega
theorem He (bs:List Int):∀ x∈shaSum bs,0≤x∧x<256:=aJx _
def fill (f:Nat→Int) (n i:Nat):List Int:=(List.range i).map f++List.replicate (n - i) 0
theorem Pg (f:Nat→Int) (n i:Nat) (h:i≤n):(fill f n i).length=n:=by simp[fill];omega
theorem aAo (f:Nat→Int) (n i:Nat) (h:i<n):(fill f n i).set i (f i)=fill f n (i+1):=by
 unfold fill
 rw[List.set_append,if_neg (by simp),List.length_map,List.length_range,Nat.sub_self,List.range_succ,List.map_append,List.append_assoc]
 congr 1
 rw[show n - i=(n - (i+1))+1 by omega,List.replicate_succ]
 rfl
theorem Pw (l:List Int) (i:Nat) (v:Int):(u8s l).set i (.int .u8 v)=u8s (l.set i v):=by simp[u8s,List.map_set]
theorem Dw (l:List Int):(u8s l).length=l.length:=by simp[u8s]
def hv (l:List Int):Value:=.agg (u8s l).toArray
theorem Eh {w:World} {b:Nat} {t:TypeId} {cs:List Value} (h:Blf w b t cs):∀ k v,cs[k]?=some v→w.cell? ⟨b,0+k,none⟩=some v:=fun k v hk=>by
 rw[Nat.zero_add,h.cell];exact hk
theorem Hg (cs vs:List Value) (h:vs.length=cs.length):lay cs vs 0=vs:=by
 unfold lay
 rw[List.take_zero,List.nil_append,List.drop_eq_nil_of_le (by omega),List.append_nil]
set_option maxRecDepth 100000 in
theorem aOg (w:World):Calls prog 101 #[] w fun e w'=>e=.returned (.agg (u32s kl).toArray)∧St w [] w':=by
 refine aEj ?_
 unfold Tj
 refine Eb (St.nil w) (fun g w1 h1=>?_)
 refine Br (v:=.agg (u32s kl).toArray) (fun w=>by kernel_rfl) ?_
 refine Dt (q:=true) (k:=64) (by kernel_rfl) h1 rfl (by intro u hu;obtain⟨x,_,rfl⟩:=List.mem_map.1 (show u∈kl.map (Value.int .u32) from hu);rfl) (by simp) (fun w2 h2=>?_)
 have e:lay (List.replicate 64 (Value.int .u32 0)) (Value.agg (u32s kl).toArray).cells.toList 0=u32s kl:=Hg _ _ rfl
 rw[e]at h2
 refine Lo (Eh h2.head) rfl ?_
 exact⟨rfl,h2.drop⟩
def cat (ss:List ByteArray):List Int:=(ss.map ints).flatten
theorem aHi (ss:List ByteArray) (k:Nat) (h:k<ss.length):cat (ss.take (k+1))=cat (ss.take k)++ints ss[k]:=by
 unfold cat
 rw[List.take_succ_eq_append_getElem h,List.map_append,List.flatten_append]
 simp only[List.map_cons,List.map_nil,List.flatten_cons,List.flatten_nil,List.append_nil]
theorem aJy (a b:List ByteArray):cat (a++b)=cat a++cat b:=by simp only[cat,List.map_append,List.flatten_append]
theorem aZb (ss:List ByteArray) (k:Nat):(cat (ss.take k)).length≤(cat ss).length:=by
 conv=>rhs;rw[← List.take_append_drop k ss,aJy,List.length_append]
 omega
theorem aJz (n i:Nat):0≤lenB n i∧lenB n i<256:=by unfold lenB;omega
theorem Lg (n:Nat):∀ x∈padding n,0≤x∧x<256:=by
 intro x hx
 simp only[padding,List.mem_append,List.mem_cons,List.mem_replicate,List.mem_map]at hx
 rcases hx with (rfl|⟨_,rfl⟩)|⟨i,_,rfl⟩
 ·omega
 ·omega
 ·exact aJz n i
theorem dig0:Dig (h0,[]) 0 (List.replicate 64 0):=by
 refine⟨⟨?_,?_,?_,?_,?_,?_,?_,?_⟩,by simp,?_,rfl,by simp⟩
 all_goals first
  | (constructor <;> decide)
  | (intro c hc;rw[List.eq_of_mem_replicate hc];omega)
def tailK (n z i:Nat):List Int:=(128::List.replicate z 0)++fill (lenB n) (71 - z) i
theorem Ub (n z i:Nat) (hz:z≤63) (hi:i≤8):(tailK n z i).length=72:=by
 simp[tailK,Pg (lenB n) (71 - z) i (by omega)];omega
theorem aOh (n z i:Nat) (hz:z≤63) (hi:i<8):(tailK n z i).set (z+1+i) (lenB n i)=tailK n z (i+1):=by
 unfold tailK
 rw[List.set_append,if_neg (by simp),List.length_cons,List.length_replicate,show z+1+i - (z+1)=i by omega,aAo _ _ _ (by omega)]
theorem aKa (n z:Nat) (hz:z≤63):(List.replicate 72 (0:Int)).set 0 128=tailK n z 0:=by
 unfold tailK fill
 rw[show 72=(z+(71 - z))+1 by omega,List.replicate_succ,List.set_cons_zero,← List.replicate_append_replicate]
 simp
theorem aOi (n:Nat):(tailK n (63 - (n+8)%64) 8).take (63 - (n+8)%64+9)=padding n:=by
 unfold tailK fill padding
 rw[← List.append_assoc,List.take_append_of_le_length (by simp),List.take_of_length_le (by simp)]
set_option maxRecDepth 100000 in
set_option maxHeartbeats 1000000 in
theorem Ph (A:Option Addr) (ss:List ByteArray) (c:Nat) (w:World) (hr:Rd w A (ss.map .string)) (hss:ss.length<9223372036854775807) (hsz:(cat ss).length<4611686018427387904):
  Calls prog 34 #[.slice A ss.length c] w fun e w'=>e=.returned (hv (shaSum (cat ss)))∧St w [] w':=by
 refine aOc ?_
 unfold aCz
 refine Eb (St.nil w) (fun go w1 h1=>?_)
 refine Br (build8 _ _ _ _ _ _ _ _) ?_
 refine Ej (aOg w1) ?_
 rintro e w2 ⟨rfl,h2⟩
 have h2:=h1.call0 h2
 refine Br (v:=.agg (stCells h0.list (List.replicate 64 0) 0).toArray) (fun w=>by kernel_rfl) ?_
 refine aLu h2 (fun b w3 h3=>?_)
 have h3:St w [⟨b,170,stCells h0.list (List.replicate 64 0) 0,true⟩,⟨go,23,u8s (List.replicate 32 0),true⟩] w3:=h3
 clear h1 h2
 refine Ab trivial ?_
 refine⟨fun v w2=>∃ (k:Nat) (bl:List Int),k≤ss.length∧v=.int .i64 k∧Dig (feedAll (h0,[]) (cat (ss.take k))) (cat (ss.take k)).length bl ∧
   St w [⟨b,170,stCells (feedAll (h0,[]) (cat (ss.take k))).1.list bl ((cat (ss.take k)).length:Int),true⟩,⟨go,23,u8s (List.replicate 32 0),true⟩] w2,fun v _=>ss.length - (intOf v).toNat,⟨0,_,by omega,rfl,dig0,h3⟩,?_⟩
 clear h3
 rintro v u w4 ⟨k,bl,hk,rfl,hd,h4⟩
 refine Ab trivial ?_
 refine Dn (fun hlt=>?_) (fun hge=>?_)
 ·have hk':k<ss.length:=by omega
  have x0:(ss.map Value.string)[k]?=some (.string ss[k]):=by simp[hk']
  obtain⟨ab,ao,rfl,hab,hc⟩:=hr.at_ x0
  (repeat (first|(refine Ab ?_ ?_;first|exact trivial|omega)|(refine Ap ?_ ?_;first|exact trivial|omega)))
  refine Em (j:=ao+k) ((h4.old (p:=⟨ab,ao+k,none⟩) hab (by intro q hq hn;simp at hq;rcases hq with rfl|rfl <;> cases hn)).trans (hc k _ x0)) (by omega) ?_
  have hcl:=aZb ss (k+1)
  rw[aHi ss k hk',List.length_append,Bq]at hcl
  refine Ej (aRg b _ _ bl ss[k] w4 h4.head hd (by omega)) ?_
  rintro e w5 ⟨rfl,bl',hd5,h5⟩
  have h6:=h4.call1 h5
  (repeat (first|(refine Ab ?_ ?_;first|exact trivial|omega)|(refine Ap ?_ ?_;first|exact trivial|omega)))
  rw[← Fh,← Bq,← List.length_append,← aHi ss k hk']at hd5 h6
  exact⟨⟨k+1,bl',hk',rfl,hd5,h6⟩,by simp[intOf];omega⟩
 ·obtain rfl:k=ss.length:=by omega
  rw[List.take_length]at hd h4
  obtain⟨n,hn⟩:∃ n,n=(cat ss).length:=⟨_,rfl⟩
  have hsum:shaSum (cat ss)=outB (feedAll (feedAll (h0,[]) (cat ss)) (padding n)).1:=by rw[shaSum,Fh,hn]
  rw[hsum]
  rw[← hn]at hd h4 hsz
  generalize feedAll (h0,[]) (cat ss)=x at hd h4
  have hl8:x.1.list.length=8:=rfl
  refine Eb h4 (fun gt w5 h5=>?_)
  (repeat (first|(refine Ab ?_ ?_;first|exact trivial|omega)|(refine Ap ?_ ?_;first|exact trivial|omega)))
  refine Oh (j:=0) h5 rfl (by simp) rfl (fun w6 h6=>?_)
  (repeat (first|(refine Ab ?_ ?_;first|exact trivial|omega)|(refine Ap ?_ ?_;first|exact trivial|omega)))
  refine Em ((h6.cell 1 rfl 72).trans (aRb hl8 hd.len)) rfl ?_
  (repeat (first|(refine Ab ?_ ?_;first|exact trivial|omega)|(refine Ap ?_ ?_;first|exact trivial|omega)))
  have hz:(64:Int) - ((n:Int)+8)%64=((63 - (n+8)%64+1:Nat):Int):=by omega
  rw[hz]
  have h6:St w [⟨gt,171,u8s (tailK n (63 - (n+8)%64) 0),true⟩,⟨b,170,stCells x.1.list bl (n:Int),true⟩,⟨go,23,u8s (List.replicate 32 0),true⟩] w6:=by
   rw[← aKa n (63 - (n+8)%64) (by omega),← Pw]
   exact h6
  have hend:=aOi n
  obtain⟨z,hzz⟩:∃ z,z=63 - (n+8)%64:=⟨_,rfl⟩
  rw[← hzz]at h6 hend ⊢
  have hz63:z≤63:=by omega
  clear hz hzz
  refine⟨fun v w2=>∃ i:Nat,i≤8∧v=.int .i64 i∧St w [⟨gt,171,u8s (tailK n z i),true⟩,⟨b,170,stCells x.1.list bl (n:Int),true⟩,⟨go,23,u8s (List.replicate 32 0),true⟩] w2,fun v _=>8 - (intOf v).toNat,⟨0,by omega,rfl,h6⟩,?_⟩
  clear h4 h5 h6
  rintro v u2 w7 ⟨i,hi,rfl,h7⟩
  refine Ab trivial ?_
  refine Dn (fun hlt=>?_) (fun hge=>?_)
  ·(repeat (first|(refine Ab ?_ ?_;first|exact trivial|omega)|(refine Ap ?_ ?_;first|exact trivial|omega)))
   refine Em ((h7.cell 1 rfl 72).trans (aRb hl8 hd.len)) rfl ?_
   (repeat (first|(refine Ab ?_ ?_;first|exact trivial|omega)|(refine Ap ?_ ?_;first|exact trivial|omega)))
   refine Oh (j:=z+1+i) h7 (by omega) (by rw[Dw,Ub n z i hz63 (by omega)];omega) rfl (fun w8 h8=>?_)
   have h8:St w [⟨gt,171,u8s (tailK n z (i+1)),true⟩,⟨b,170,stCells x.1.list bl (n:Int),true⟩,⟨go,23,u8s (List.replicate 32 0),true⟩] w8:=by
    rw[← aOh n z i hz63 (by omega),← Pw]
    exact h8
   (repeat (first|(refine Ab ?_ ?_;first|exact trivial|omega)|(refine Ap ?_ ?_;first|exact trivial|omega)))
   exact⟨⟨i+1,by omega,rfl,h8⟩,by simp[intOf];omega⟩
  ·obtain rfl:i=8:=by omega
   (repeat (first|(refine Ab ?_ ?_;first|exact trivial|omega)|(refine Ap ?_ ?_;first|exact trivial|omega)))
   have hto:(((z+1:Nat):Int)+8).toNat=z+9:=by omega
   rw[hto]
   have htl:=Ub n z 8 hz63 (by omega)
   refine Dz (Do 89 9 5 gt 0 (z+9) 72 (padding n) (by kernel_rfl) (by kernel_rfl) (by kernel_rfl) (by rw[← hend,List.length_take,htl];omega) (fun i hi=>?_)) ?_
   ·rw[h7.head.cell,← hend,Nat.zero_add,In _ _ (by omega)]
    congr 2
    simp[List.getD,hi]
   have hpl:(padding n).length=z+9:=by rw[← hend,List.length_take,htl];omega
   have hps:(strOfNums (padding n)).size=z+9:=by rw[← Bq,Ce _ (Lg n),hpl]
   have h7:=h7.swap
   refine Ej (aRg b x n bl (strOfNums (padding n)) w7 h7.head hd (by omega)) ?_
   rintro e w8 ⟨rfl,bl',hd8,h8⟩
   rw[Ce _ (Lg n)]at hd8 h8
   have h9:=h7.call1 h8
   generalize feedAll x (padding n)=y at hd8 h9 ⊢
   clear h7 h8
   have hy8:y.1.list.length=8:=rfl
   refine Eb h9 (fun gu w9 h10=>?_)
   refine⟨fun v w2=>∃ i:Nat,i≤32∧v=.int .i64 i∧∃ L,St w (⟨gu,23,u8s (fill (outAt y.1.list) 32 i),true⟩::⟨b,170,stCells y.1.list bl' ((n+(strOfNums (padding n)).size:Nat):Int),true⟩::⟨gt,171,L,true⟩::⟨go,23,u8s (List.replicate 32 0),true⟩::[]) w2,fun v _=>32 - (intOf v).toNat,⟨0,by omega,rfl,_,h10⟩,?_⟩
   clear h9 h10
   rintro v u3 w10 ⟨i,hi,rfl,L,h11⟩
   refine Ab trivial ?_
   refine Dn (fun hlt=>?_) (fun hge=>?_)
   ·(repeat (first|(refine Ab ?_ ?_;first|exact trivial|omega)|(refine Ap ?_ ?_;first|exact trivial|omega)))
    have hq:(0+0+((i:Int) / 4).toNat)=0+i / 4:=by omega
    refine Em ((h11.cell 1 rfl (i / 4)).trans (aCj hy8 (i / 4) (by omega))) (by omega) ?_
    (repeat (first|(refine Ab ?_ ?_;first|exact trivial|omega)|(refine Ap ?_ ?_;first|exact trivial|omega)))
    refine Oh (j:=i) h11 (by omega) (by rw[Dw,Pg _ _ _ hi];omega) rfl (fun w11 h12=>?_)
    have h12:St w (⟨gu,23,u8s (fill (outAt y.1.list) 32 (i+1)),true⟩::⟨b,170,stCells y.1.list bl' ((n+(strOfNums (padding n)).size:Nat):Int),true⟩::⟨gt,171,L,true⟩::⟨go,23,u8s (List.replicate 32 0),true⟩::[]) w11:=by
     rw[← aAo _ _ _ (by omega),← Pw]
     have e:outAt y.1.list i=y.1.list.getD (i / 4) 0 / 2 ^ ((24:Int) - 8*((i:Int)%4)).toNat%256:=by
      unfold outAt
      congr 3
      omega
     rw[e]
     exact h12
    (repeat (first|(refine Ab ?_ ?_;first|exact trivial|omega)|(refine Ap ?_ ?_;first|exact trivial|omega)))
    exact⟨⟨i+1,by omega,rfl,L,h12⟩,by simp[intOf];omega⟩
   ·obtain rfl:i=32:=by omega
    have hf:fill (outAt y.1.list) 32 32=outB y.1:=by simp[fill,outB]
    rw[hf]at h11
    have hol:(u8s (outB y.1)).length=32:=by simp[outB,u8s]
    refine aEe (Eh h11.head) hol rfl ?_
    have h13:=h11.drop.drop.drop
    refine Dt (q:=true) (k:=32) (by kernel_rfl) h13 (by simpa [Value.cells] using hol) (by intro u hu;exact Fk _ u hu) (by simp[u8s]) (fun w12 h14=>?_)
    have e:lay (u8s (List.replicate 32 0)) (Value.agg (u8s (outB y.1)).toArray).cells.toList 0=u8s (outB y.1):=Hg _ _ (by show(u8s (outB y.1)).length=_;rw[hol];simp[u8s])
    rw[e]at h14
    refine Lo (Eh h14.head) hol ?_
    exact⟨rfl,h14.drop⟩
end Go.Proofs.YtgbenhmdamnmcaaGreat
namespace Go.Proofs.YtgbenhmdamnmcaaGreat
open Go.Proofs.Tryz
open Go.RowKit
theorem aVs (g o n c:Nat) (i:Nat) (a0 a1 a2 a3:Int) (w:World) (hn:i+4≤n) (hi:i<4611686018427387904)
  (h0:w.cell? ⟨g,o+i,none⟩=some (.int .u8 a0)) (h1:w.cell? ⟨g,o+(i+1),none⟩=some (.int .u8 a1)) (h2:w.cell? ⟨g,o+(i+2),none⟩=some (.int .u8 a2)) (h3:w.cell? ⟨g,o+(i+3),none⟩=some (.int .u8 a3))
  (b0:0≤a0∧a0<256) (b1:0≤a1∧a1<256) (b2:0≤a2∧a2<256) (b3:0≤a3∧a3<256):
  Calls prog 103 #[.slice (some ⟨g,o,none⟩) n c,.int .i64 (i:Int)] w fun e w'=>e=.returned (.int .u32 (word4 a0 a1 a2 a3))∧Drawn w w':=by
 refine Vj ?_
 unfold Md
 (repeat (first|(refine Ab ?_ ?_;first|exact trivial|omega)|(refine Ap ?_ ?_;first|exact trivial|omega)))
 refine Db h0 (by omega) ?_
 (repeat (first|(refine Ab ?_ ?_;first|exact trivial|omega)|(refine Ap ?_ ?_;first|exact trivial|omega)))
 refine Db h1 (by omega) ?_
 (repeat (first|(refine Ab ?_ ?_;first|exact trivial|omega)|(refine Ap ?_ ?_;first|exact trivial|omega)))
 refine Db h2 (by omega) ?_
 (repeat (first|(refine Ab ?_ ?_;first|exact trivial|omega)|(refine Ap ?_ ?_;first|exact trivial|omega)))
 refine Db h3 (by omega) ?_
 (repeat (first|(refine Ab ?_ ?_;first|exact trivial|omega)|(refine Ap ?_ ?_;first|exact trivial|omega)))
 refine Cs fun w1 hd=>?_
 exact⟨rfl,hd⟩
def blocks (M:List Int):Nat→S8
 | 0=>h0
 | j+1=>compress (blocks M j) ((M.drop (64*j)).take 64)
theorem Xk (M:List Int):∀ j,64*j≤M.length→feedAll (h0,[]) (M.take (64*j))=(blocks M j,[])
 | 0,_=>rfl
 | j+1,h=>by
   rw[show 64*(j+1)=64*j+64 by omega,List.take_add,Fh,Xk M j (by omega)]
   rw[Ua _ _ _ (by simp;omega) (by simp;omega)]
   rfl
theorem aOj (M:List Int):∀ j,(blocks M j).Ok
 | 0=>dig0.ok
 | _+1=>Xj _
theorem aRh (M:List Int) (j i:Nat) (hi:i<64):((M.drop (64*j)).take 64).getD i 0=M.getD (64*j+i) 0:=by
 simp[List.getD,hi]
theorem buildb (v:Int) (w:World):(Al 89 1 [(0,.int .u8 v)]).run prog w=.ok (.value (.slice (some ⟨w.heap.size,0,none⟩) 1 1)) (w.alloc (.cells (Value.int .u8 v).cells.toList.toArray 5)):=by kernel_rfl
theorem aEz (M:List Int) (sp:List Value) (i:Nat) (h:i<M.length):(u8s M++sp)[i]?=some (.int .u8 (M.getD i 0)):=by
 rw[List.getElem?_append_left (by rw[Dw];exact h),In M i h]
def slen:Value→Nat
 | .slice _ n _=>n
 | _=>0
theorem Nl (a b:List Int):u8s (a++b)=u8s a++u8s b:=by simp[u8s]
theorem Uc (l:List Int):∀ u∈u32s l,u.oneCell'=true:=by
 intro u hu
 obtain⟨x,_,rfl⟩:=List.mem_map.1 hu
 rfl
theorem Pi (l:List Int):(u32s l).length=l.length:=by simp[u32s]
theorem aRi (l:List Int) (i:Nat) (v:Int):(u32s l).set i (.int .u32 v)=u32s (l.set i v):=by simp[u32s,List.map_set]
set_option maxRecDepth 100000 in
set_option maxHeartbeats 2000000 in
theorem Vw (s:ByteArray) (w:World) (hsz:s.size<1099511627776):Calls prog 35 #[.string s] w fun e w'=>e=.returned (hv (shaSum (ints s)))∧St w [] w':=by
 refine Xu ?_
 unfold Nt
 refine Eb (St.nil w) (fun go w1 h1=>?_)
 refine Br (v:=.agg (u32s kl).toArray) (fun w=>by kernel_rfl) ?_
 refine Eb h1 (fun gk w2 h2=>?_)
 refine Dt (q:=true) (k:=64) (by kernel_rfl) h2 rfl (Uc kl) (by simp) (fun w3 h3=>?_)
 have e1:lay (List.replicate 64 (Value.int .u32 0)) (Value.agg (u32s kl).toArray).cells.toList 0=u32s kl:=Hg _ _ rfl
 rw[e1]at h3
 clear h1 h2
 obtain⟨A,cap,w4,hr4,h4⟩:=Sq (P:=prog) 9 89 5 s (by kernel_rfl) (by kernel_rfl) (by kernel_rfl) (by unfold maxLen;omega) h3
 refine Cl hr4 ?_
 refine Zc h4 rfl (by intro u hu;cases hu with|head=>rfl|tail _ hu=>cases hu) (buildb _ _) (by unfold maxLen;omega) (by omega) (fun A1 cap1 w5 h5=>?_)
 obtain⟨n,hn⟩:∃ n,n=s.size:=⟨_,rfl⟩
 have hil:(ints s).length=n:=by rw[Bq,hn]
 rw[← hn]at h5 hsz ⊢
 refine⟨fun v w2=>∃ (z cap:Nat) (A:Option Addr),z≤63 - (n+8)%64∧v=.slice A (n+1+z) cap∧RowSt w 5 1 [⟨gk,166,u32s kl,true⟩,⟨go,22,List.replicate 32 (.int .u8 0),true⟩] A (n+1+z) cap (u8s (ints s++(128::List.replicate z 0))) w2,fun v _=>n+100 - slen v,⟨0,_,_,by omega,rfl,by rw[Nl];exact h5⟩,?_⟩
 clear h3 h4 h5 hr4
 rintro v u w6 ⟨z,cap,A,hz,rfl,h6⟩
 (repeat (first|(refine Ab ?_ ?_;first|exact trivial|omega)|(refine Ap ?_ ?_;first|exact trivial|omega)))
 refine Dn (fun hne=>?_) (fun heq=>?_)
 ·refine Zc h6 rfl (by intro u hu;cases hu with|head=>rfl|tail _ hu=>cases hu) (buildb _ _) (by unfold maxLen;omega) (by omega) (fun A1 cap1 w7 h7=>?_)
  refine⟨⟨z+1,cap1,A1,by omega,rfl,?_⟩,by simp[slen];omega⟩
  have e:ints s++(128::List.replicate (z+1) 0)=(ints s++(128::List.replicate z 0))++[0]:=by
   rw[List.append_assoc,List.cons_append,← List.replicate_succ']
  rw[e,Nl]
  exact h7
 ·obtain rfl:z=63 - (n+8)%64:=by omega
  refine Ab trivial ?_
  rw[← hn]
  (repeat (first|(refine Ab ?_ ?_;first|exact trivial|omega)|(refine Ap ?_ ?_;first|exact trivial|omega)))
  refine⟨fun v x w2=>∃ (i cap:Nat) (A:Option Addr),i≤8∧x=.int .i64 i∧v=.slice A (n+1+(63 - (n+8)%64)+i) cap∧RowSt w 5 1 [⟨gk,166,u32s kl,true⟩,⟨go,22,List.replicate 32 (.int .u8 0),true⟩] A (n+1+(63 - (n+8)%64)+i) cap (u8s ((ints s++(128::List.replicate (63 - (n+8)%64) 0))++(List.range i).map (lenB n))) w2,
   fun _ x _=>8 - (intOf x).toNat,⟨0,_,_,by omega,rfl,rfl,by simpa using h6⟩,?_⟩
  clear h6
  rintro v x u2 w7 ⟨i,cap,A,hi,rfl,rfl,h7⟩
  refine Ab trivial ?_
  refine Dn (fun hlt=>?_) (fun hge=>?_)
  ·(repeat (first|(refine Ab ?_ ?_;first|exact trivial|omega)|(refine Ap ?_ ?_;first|exact trivial|omega)))
   refine Zc h7 rfl (by intro u hu;cases hu with|head=>rfl|tail _ hu=>cases hu) (buildb _ _) (by unfold maxLen;omega) (by omega) (fun A1 cap1 w8 h8=>?_)
   (repeat (first|(refine Ab ?_ ?_;first|exact trivial|omega)|(refine Ap ?_ ?_;first|exact trivial|omega)))
   refine⟨⟨i+1,cap1,A1,by omega,rfl,rfl,?_⟩,by simp[intOf];omega⟩
   have e:lenB n i=((n:Int)%18446744073709551616*8%18446744073709551616) / 2 ^ ((56 - 8*(i:Int))%18446744073709551616).toNat%256:=by
    unfold lenB
    congr 4
    omega
   rw[List.range_succ,List.map_append,← List.append_assoc,Nl,List.map_cons,List.map_nil,e]
   exact h8
  ·obtain rfl:i=8:=by omega
   have hM:(ints s++(128::List.replicate (63 - (n+8)%64) 0))++(List.range 8).map (lenB n)=ints s++padding n:=by rw[padding,List.append_assoc]
   rw[hM]at h7
   have hfin:shaSum (ints s)=outB (feedAll (h0,[]) (ints s++padding n)).1:=by rw[shaSum,hil]
   rw[hfin]
   have hMl:(ints s++padding n).length=n+1+(63 - (n+8)%64)+8:=by simp[padding,hil];omega
   have hMr:∀ c∈ints s++padding n,0≤c∧c<256:=fun c hc=>by
    rcases List.mem_append.1 hc with hc|hc
    ·exact Nb s c hc
    ·exact Lg n c hc
   generalize ints s++padding n=M at h7 hMl hMr ⊢
   obtain⟨N,hN⟩:∃ N,N=n+1+(63 - (n+8)%64)+8:=⟨_,rfl⟩
   rw[← hN]at h7 hMl ⊢
   have hN64:N%64=0:=by omega
   have hNb:N<1099511627776+200:=by omega
   clear hM hfin hil
   obtain⟨gm,sp,rfl,h8,_,_⟩:=h7.at_ (by omega)
   clear h7
   refine Br (build8 _ _ _ _ _ _ _ _) ?_
   refine Eb h8 (fun gv w8 h9=>?_)
   refine Dt (q:=true) (k:=8) (by kernel_rfl) h9 rfl (Uc h0.list) (by simp) (fun w9 h10=>?_)
   have e8:lay (List.replicate 8 (Value.int .u32 0)) (Value.agg (u32s h0.list).toArray).cells.toList 0=u32s h0.list:=Hg _ _ rfl
   have h10:St w [⟨gv,165,u32s h0.list,true⟩,⟨gm,5,u8s M++sp,true⟩,⟨gk,166,u32s kl,true⟩,⟨go,22,List.replicate 32 (.int .u8 0),true⟩] w9:=by
    rw[← e8];exact h10
   refine⟨fun x w2=>∃ j:Nat,64*j≤N∧x=.int .i64 ((64*j:Nat):Int)∧St w [⟨gv,165,u32s (blocks M j).list,true⟩,⟨gm,5,u8s M++sp,true⟩,⟨gk,166,u32s kl,true⟩,⟨go,22,List.replicate 32 (.int .u8 0),true⟩] w2,
    fun x _=>N - (intOf x).toNat,⟨0,by omega,rfl,h10⟩,?_⟩
   clear h8 h9 h10
   rintro x u3 w10 ⟨j,hj,rfl,h10⟩
   (repeat (first|(refine Ab ?_ ?_;first|exact trivial|omega)|(refine Ap ?_ ?_;first|exact trivial|omega)))
   refine Dn (fun hlt=>?_) (fun hge=>?_)
   ·have hj2:64*j+64≤N:=by omega
    have hbl:blocks M (j+1)=(blocks M j).add (rl (wl ((M.drop (64*j)).take 64) 64) 64 (blocks M j)):=rfl
    have hbat:=fun i hi=>aRh M j i hi
    have hsok:=aOj M j
    generalize (M.drop (64*j)).take 64=bl at hbl hbat
    obtain⟨S',hS⟩:∃ S',S'=blocks M (j+1):=⟨_,rfl⟩
    rw[← hS]at hbl
    refine Eb h10 (fun gw w11 h11=>?_)
    refine⟨fun x w2=>∃ i:Nat,i≤16∧x=.int .i64 i∧St w [⟨gw,166,u32s (wk bl i),true⟩,⟨gv,165,u32s (blocks M j).list,true⟩,⟨gm,5,u8s M++sp,true⟩,⟨gk,166,u32s kl,true⟩,⟨go,22,List.replicate 32 (.int .u8 0),true⟩] w2,
     fun x _=>16 - (intOf x).toNat,⟨0,by omega,rfl,h11⟩,?_⟩
    clear h10 h11
    rintro x u4 w12 ⟨i,hi,rfl,h12⟩
    (repeat (first|(refine Ab ?_ ?_;first|exact trivial|omega)|(refine Ap ?_ ?_;first|exact trivial|omega)))
    refine Dn (fun hlt2=>?_) (fun hge2=>?_)
    ·(repeat (first|(refine Ab ?_ ?_;first|exact trivial|omega)|(refine Ap ?_ ?_;first|exact trivial|omega)))
     rw[show((64*j:Nat):Int)+4*(i:Int)=((64*j+4*i:Nat):Int) by omega]
     refine Ej (aVs gm 0 N cap (64*j+4*i) (M.getD (64*j+4*i) 0) (M.getD (64*j+4*i+1) 0) (M.getD (64*j+4*i+2) 0) (M.getD (64*j+4*i+3) 0) w12 (by omega) (by omega)
      ?_ ?_ ?_ ?_ (Ks M _ hMr) (Ks M _ hMr) (Ks M _ hMr) (Ks M _ hMr)) ?_
     ·rw[Nat.zero_add];exact(h12.cell 2 rfl _).trans (aEz M sp _ (by omega))
     ·rw[Nat.zero_add];exact(h12.cell 2 rfl _).trans (aEz M sp _ (by omega))
     ·rw[Nat.zero_add];exact(h12.cell 2 rfl _).trans (aEz M sp _ (by omega))
     ·rw[Nat.zero_add];exact(h12.cell 2 rfl _).trans (aEz M sp _ (by omega))
     rintro e w13 ⟨rfl,hd13⟩
     have h13:=h12.drawn hd13
     (repeat (first|(refine Ab ?_ ?_;first|exact trivial|omega)|(refine Ap ?_ ?_;first|exact trivial|omega)))
     refine Oh (j:=i) h13 (by omega) (by rw[Pi,aEw bl i (by omega)];omega) rfl (fun w14 h14=>?_)
     (repeat (first|(refine Ab ?_ ?_;first|exact trivial|omega)|(refine Ap ?_ ?_;first|exact trivial|omega)))
     refine⟨⟨i+1,by omega,rfl,?_⟩,by simp[intOf];omega⟩
     rw[aEx bl i (by omega)]at h14
     ·exact h14
     ·rw[Vv,if_pos (by omega),hbat _ (by omega),hbat _ (by omega),hbat _ (by omega),hbat _ (by omega),← Nat.add_assoc,← Nat.add_assoc,← Nat.add_assoc]
    ·obtain rfl:i=16:=by omega
     refine⟨fun x w2=>∃ k:Nat,16≤k∧k≤64∧x=.int .i64 k∧St w [⟨gw,166,u32s (wk bl k),true⟩,⟨gv,165,u32s (blocks M j).list,true⟩,⟨gm,5,u8s M++sp,true⟩,⟨gk,166,u32s kl,true⟩,⟨go,22,List.replicate 32 (.int .u8 0),true⟩] w2,
      fun x _=>64 - (intOf x).toNat,⟨16,by omega,by omega,rfl,h12⟩,?_⟩
     clear h12
     rintro x u5 w13 ⟨k,hk0,hk,rfl,h13⟩
     (repeat (first|(refine Ab ?_ ?_;first|exact trivial|omega)|(refine Ap ?_ ?_;first|exact trivial|omega)))
     refine Dn (fun hlt3=>?_) (fun hge3=>?_)
     ·have d15:=aHg bl k (k - 15)
      have d2:=aHg bl k (k - 2)
      (repeat (first|(refine Ab ?_ ?_;first|exact trivial|omega)|(refine Ap ?_ ?_;first|exact trivial|omega)))
      refine Em ((h13.cell 0 rfl (k - 15)).trans (Xi bl k (k - 15) (by omega))) (by omega) ?_
      (repeat (first|(refine Ab ?_ ?_;first|exact trivial|omega)|(refine Ap ?_ ?_;first|exact trivial|omega)))
      refine Em ((h13.cell 0 rfl (k - 2)).trans (Xi bl k (k - 2) (by omega))) (by omega) ?_
      (repeat (first|(refine Ab ?_ ?_;first|exact trivial|omega)|(refine Ap ?_ ?_;first|exact trivial|omega)))
      refine Db ((h13.cell 0 rfl (k - 16)).trans (Xi bl k (k - 16) (by omega))) (by omega) ?_
      (repeat (first|(refine Ab ?_ ?_;first|exact trivial|omega)|(refine Ap ?_ ?_;first|exact trivial|omega)))
      refine Db ((h13.cell 0 rfl (k - 7)).trans (Xi bl k (k - 7) (by omega))) (by omega) ?_
      (repeat (first|(refine Ab ?_ ?_;first|exact trivial|omega)|(refine Ap ?_ ?_;first|exact trivial|omega)))
      refine If (fun w=>Ga _ 7 w d15 (by decide)) fun w5 hd5=>?_
      refine If (fun w=>Ga _ 18 w d15 (by decide)) fun w6 hd6=>?_
      (repeat (first|(refine Ab ?_ ?_;first|exact trivial|omega)|(refine Ap ?_ ?_;first|exact trivial|omega)))
      refine If (fun w=>Ga _ 17 w d2 (by decide)) fun w7 hd7=>?_
      refine If (fun w=>Ga _ 19 w d2 (by decide)) fun w8 hd8=>?_
      (repeat (first|(refine Ab ?_ ?_;first|exact trivial|omega)|(refine Ap ?_ ?_;first|exact trivial|omega)))
      have h14:=h13.drawn (((hd5.trans hd6).trans hd7).trans hd8)
      refine aGj (j:=k) h14 (by omega) (by rw[Pi,aEw bl k hk];omega) rfl (fun w9 h15=>?_)
      refine Cs fun w10 hd10=>?_
      have h16:=h15.drawn hd10
      (repeat (first|(refine Ab ?_ ?_;first|exact trivial|omega)|(refine Ap ?_ ?_;first|exact trivial|omega)))
      refine⟨⟨k+1,by omega,by omega,rfl,?_⟩,by simp[intOf];omega⟩
      rw[aEx bl k (by omega)]at h16
      ·exact h16
      ·rw[Vv,if_neg (by omega)]
       rfl
     ·obtain rfl:k=64:=by omega
      have hw:wk bl 64=wl bl 64:=by simp[wk]
      have hWl:(wl bl 64).length=64:=Is bl 64
      rw[hw]at h13
      clear hw
      generalize wl bl 64=W at h13 hWl hbl
      refine aEe (Eh (h13.mem (k:=1) rfl)) rfl rfl ?_
      refine Eb h13 (fun gs w14 h14=>?_)
      refine Dt (q:=true) (k:=8) (by kernel_rfl) h14 rfl (Uc (blocks M j).list) (by simp) (fun w15 h15=>?_)
      have e9:lay (List.replicate 8 (Value.int .u32 0)) (Value.agg (u32s (blocks M j).list).toArray).cells.toList 0=u32s (blocks M j).list:=Hg _ _ rfl
      rw[e9]at h15
      clear h13 h14 e9
      generalize blocks M j=s0 at hbl hsok h15
      refine⟨fun x w2=>∃ i:Nat,i≤64∧x=.int .i64 i∧St w [⟨gs,165,u32s (rl W i s0).list,true⟩,⟨gw,166,u32s W,true⟩,⟨gv,165,u32s s0.list,true⟩,⟨gm,5,u8s M++sp,true⟩,⟨gk,166,u32s kl,true⟩,⟨go,22,List.replicate 32 (.int .u8 0),true⟩] w2,
       fun x _=>64 - (intOf x).toNat,⟨0,by omega,rfl,h15⟩,?_⟩
      clear h15
      rintro x u6 w16 ⟨i,hi4,rfl,h16⟩
      have hr:=aRe W hsok i
      have hrs:rl W (i+1) s0=(rl W i s0).rnd (kl.getD i 0) (W.getD i 0):=rfl
      obtain⟨s',hs'⟩:∃ s',s'=rl W (i+1) s0:=⟨_,rfl⟩
      obtain⟨t,ht⟩:∃ t,rl W i s0=t:=⟨_,rfl⟩
      rw[← hs']at hrs
      rw[ht]at hr hrs h16
      (repeat (first|(refine Ab ?_ ?_;first|exact trivial|omega)|(refine Ap ?_ ?_;first|exact trivial|omega)))
      refine Dn (fun hlt4=>?_) (fun hge4=>?_)
      ·(repeat (first|(refine Ab ?_ ?_;first|exact trivial|omega)|(refine Ap ?_ ?_;first|exact trivial|omega)))
       refine Em ((h16.cell 0 rfl 4).trans (show(u32s t.list)[4]?=some (.int .u32 t.e) from rfl)) (by omega) ?_
       (repeat (first|(refine Ab ?_ ?_;first|exact trivial|omega)|(refine Ap ?_ ?_;first|exact trivial|omega)))
       refine Em ((h16.cell 0 rfl 0).trans (show(u32s t.list)[0]?=some (.int .u32 t.a) from rfl)) (by omega) ?_
       (repeat (first|(refine Ab ?_ ?_;first|exact trivial|omega)|(refine Ap ?_ ?_;first|exact trivial|omega)))
       refine Db ((h16.cell 0 rfl 7).trans (show(u32s t.list)[7]?=some (.int .u32 t.h) from rfl)) (by omega) ?_
       refine If (fun w=>Ga _ 6 w hr.e (by decide)) fun w5 hd5=>?_
       refine If (fun w=>Ga _ 11 w hr.e (by decide)) fun w6 hd6=>?_
       (repeat (first|(refine Ab ?_ ?_;first|exact trivial|omega)|(refine Ap ?_ ?_;first|exact trivial|omega)))
       refine If (fun w=>Ga _ 25 w hr.e (by decide)) fun w7 hd7=>?_
       (repeat (first|(refine Ab ?_ ?_;first|exact trivial|omega)|(refine Ap ?_ ?_;first|exact trivial|omega)))
       refine Db ((h16.cell 0 rfl 5).trans (show(u32s t.list)[5]?=some (.int .u32 t.f) from rfl)) (by omega) ?_
       (repeat (first|(refine Ab ?_ ?_;first|exact trivial|omega)|(refine Ap ?_ ?_;first|exact trivial|omega)))
       refine Db ((h16.cell 0 rfl 6).trans (show(u32s t.list)[6]?=some (.int .u32 t.g) from rfl)) (by omega) ?_
       (repeat (first|(refine Ab ?_ ?_;first|exact trivial|omega)|(refine Ap ?_ ?_;first|exact trivial|omega)))
       refine Db ((h16.cell 4 rfl i).trans (Hv kl i (by rw[aJv];omega))) (by omega) ?_
       (repeat (first|(refine Ab ?_ ?_;first|exact trivial|omega)|(refine Ap ?_ ?_;first|exact trivial|omega)))
       refine Db ((h16.cell 1 rfl i).trans (Hv W i (by omega))) (by omega) ?_
       (repeat (first|(refine Ab ?_ ?_;first|exact trivial|omega)|(refine Ap ?_ ?_;first|exact trivial|omega)))
       refine Cs fun w8 hd8=>?_
       have h17:=h16.drawn (((hd5.trans hd6).trans hd7).trans hd8)
       refine If (fun w=>Ga _ 2 w hr.a (by decide)) fun w9 hd9=>?_
       refine If (fun w=>Ga _ 13 w hr.a (by decide)) fun w10 hd10=>?_
       (repeat (first|(refine Ab ?_ ?_;first|exact trivial|omega)|(refine Ap ?_ ?_;first|exact trivial|omega)))
       refine If (fun w=>Ga _ 22 w hr.a (by decide)) fun w11 hd11=>?_
       (repeat (first|(refine Ab ?_ ?_;first|exact trivial|omega)|(refine Ap ?_ ?_;first|exact trivial|omega)))
       refine Db ((h17.cell 0 rfl 1).trans (show(u32s t.list)[1]?=some (.int .u32 t.b) from rfl)) (by omega) ?_
       (repeat (first|(refine Ab ?_ ?_;first|exact trivial|omega)|(refine Ap ?_ ?_;first|exact trivial|omega)))
       refine Db ((h17.cell 0 rfl 2).trans (show(u32s t.list)[2]?=some (.int .u32 t.c) from rfl)) (by omega) ?_
       (repeat (first|(refine Ab ?_ ?_;first|exact trivial|omega)|(refine Ap ?_ ?_;first|exact trivial|omega)))
       refine Db ((h17.cell 0 rfl 1).trans (show(u32s t.list)[1]?=some (.int .u32 t.b) from rfl)) (by omega) ?_
       (repeat (first|(refine Ab ?_ ?_;first|exact trivial|omega)|(refine Ap ?_ ?_;first|exact trivial|omega)))
       refine Db ((h17.cell 0 rfl 2).trans (show(u32s t.list)[2]?=some (.int .u32 t.c) from rfl)) (by omega) ?_
       (repeat (first|(refine Ab ?_ ?_;first|exact trivial|omega)|(refine Ap ?_ ?_;first|exact trivial|omega)))
       refine Cs fun w12 hd12=>?_
       have h18:=h17.drawn (((hd9.trans hd10).trans hd11).trans hd12)
       clear h16 h17
       (repeat (first|(refine Ab ?_ ?_;first|exact trivial|omega)|(refine Ap ?_ ?_;first|exact trivial|omega)))
       refine Em ((h18.cell 0 rfl 0).trans (show(u32s t.list)[0]?=some (.int .u32 t.a) from rfl)) (by omega) ?_
       (repeat (first|(refine Ab ?_ ?_;first|exact trivial|omega)|(refine Ap ?_ ?_;first|exact trivial|omega)))
       refine Em ((h18.cell 0 rfl 1).trans (show(u32s t.list)[1]?=some (.int .u32 t.b) from rfl)) (by omega) ?_
       (repeat (first|(refine Ab ?_ ?_;first|exact trivial|omega)|(refine Ap ?_ ?_;first|exact trivial|omega)))
       refine Em ((h18.cell 0 rfl 2).trans (show(u32s t.list)[2]?=some (.int .u32 t.c) from rfl)) (by omega) ?_
       (repeat (first|(refine Ab ?_ ?_;first|exact trivial|omega)|(refine Ap ?_ ?_;first|exact trivial|omega)))
       refine Em ((h18.cell 0 rfl 3).trans (show(u32s t.list)[3]?=some (.int .u32 t.d) from rfl)) (by omega) ?_
       (repeat (first|(refine Ab ?_ ?_;first|exact trivial|omega)|(refine Ap ?_ ?_;first|exact trivial|omega)))
       refine Em ((h18.cell 0 rfl 4).trans (show(u32s t.list)[4]?=some (.int .u32 t.e) from rfl)) (by omega) ?_
       (repeat (first|(refine Ab ?_ ?_;first|exact trivial|omega)|(refine Ap ?_ ?_;first|exact trivial|omega)))
       refine Em ((h18.cell 0 rfl 5).trans (show(u32s t.list)[5]?=some (.int .u32 t.f) from rfl)) (by omega) ?_
       (repeat (first|(refine Ab ?_ ?_;first|exact trivial|omega)|(refine Ap ?_ ?_;first|exact trivial|omega)))
       refine Em ((h18.cell 0 rfl 6).trans (show(u32s t.list)[6]?=some (.int .u32 t.g) from rfl)) (by omega) ?_
       refine Br (v:=.agg (u32s s'.list).toArray) (by rw[hrs];exact build8 _ _ _ _ _ _ _ _) ?_
       refine Dt (q:=true) (k:=8) (by kernel_rfl) h18 rfl (Uc s'.list) (by simp[u32s,S8.list]) (fun w13 h19=>?_)
       have e9:lay (u32s t.list) (Value.agg (u32s s'.list).toArray).cells.toList 0=u32s s'.list:=Hg _ _ rfl
       rw[e9]at h19
       (repeat (first|(refine Ab ?_ ?_;first|exact trivial|omega)|(refine Ap ?_ ?_;first|exact trivial|omega)))
       exact⟨⟨i+1,by omega,rfl,by rw[← hs'];exact h19⟩,by simp[intOf];omega⟩
      ·obtain rfl:i=64:=by omega
       rw[ht]at hbl
       refine⟨fun x w2=>∃ i:Nat,i≤8∧x=.int .i64 i∧St w [⟨gv,165,u32s (addK s0.list t.list i),true⟩,⟨gs,165,u32s t.list,true⟩,⟨gw,166,u32s W,true⟩,⟨gm,5,u8s M++sp,true⟩,⟨gk,166,u32s kl,true⟩,⟨go,22,List.replicate 32 (.int .u8 0),true⟩] w2,
        fun x _=>8 - (intOf x).toNat,⟨0,by omega,rfl,h16.up2⟩,?_⟩
       clear h16
       rintro x u7 w17 ⟨i,hi5,rfl,h17⟩
       (repeat (first|(refine Ab ?_ ?_;first|exact trivial|omega)|(refine Ap ?_ ?_;first|exact trivial|omega)))
       have hal:(addK s0.list t.list i).length=8:=aAn s0.list t.list i
       refine Dn (fun hlt5=>?_) (fun hge5=>?_)
       ·(repeat (first|(refine Ab ?_ ?_;first|exact trivial|omega)|(refine Ap ?_ ?_;first|exact trivial|omega)))
        refine Db ((h17.cell 0 rfl i).trans (Hv _ i (by omega))) (by omega) ?_
        (repeat (first|(refine Ab ?_ ?_;first|exact trivial|omega)|(refine Ap ?_ ?_;first|exact trivial|omega)))
        refine Db ((h17.cell 1 rfl i).trans (Hv t.list i (by simp[S8.list];omega))) (by omega) ?_
        (repeat (first|(refine Ab ?_ ?_;first|exact trivial|omega)|(refine Ap ?_ ?_;first|exact trivial|omega)))
        refine aGj (j:=i) h17 (by omega) (by rw[Pi];omega) rfl (fun w18 h18=>?_)
        refine Cs fun w19 hd19=>?_
        have h19:=h18.drawn hd19
        (repeat (first|(refine Ab ?_ ?_;first|exact trivial|omega)|(refine Ap ?_ ?_;first|exact trivial|omega)))
        refine⟨⟨i+1,by omega,rfl,?_⟩,by simp[intOf];omega⟩
        rw[aRi,aEy s0.list t.list i i (Nat.le_refl i)]at h19
        exact h19
       ·obtain rfl:i=8:=by omega
        (repeat (first|(refine Ab ?_ ?_;first|exact trivial|omega)|(refine Ap ?_ ?_;first|exact trivial|omega)))
        refine⟨⟨j+1,by omega,by simp only[Value.int.injEq,true_and];omega,?_⟩,by simp[intOf];omega⟩
        have e10:=aHh s0.list t rfl
        rw[aMa,← hbl]at e10
        rw[e10]at h17
        rw[← hS]
        exact h17.swap.drop.swap.drop
   ·have hjN:64*j=M.length:=by omega
    have hfin:feedAll (h0,[]) M=(blocks M j,[]):=by
     have:=Xk M j (by omega)
     rwa [hjN,List.take_length]at this
    rw[hfin]
    generalize blocks M j=y at h10
    have hy8:y.list.length=8:=rfl
    refine Eb h10 (fun gu w11 h11=>?_)
    refine⟨fun x w2=>∃ i:Nat,i≤32∧x=.int .i64 i∧St w [⟨gu,22,u8s (fill (outAt y.list) 32 i),true⟩,⟨gv,165,u32s y.list,true⟩,⟨gm,5,u8s M++sp,true⟩,⟨gk,166,u32s kl,true⟩,⟨go,22,List.replicate 32 (.int .u8 0),true⟩] w2,
     fun x _=>32 - (intOf x).toNat,⟨0,by omega,rfl,h11⟩,?_⟩
    clear h10 h11
    rintro x u4 w12 ⟨i,hi,rfl,h12⟩
    (repeat (first|(refine Ab ?_ ?_;first|exact trivial|omega)|(refine Ap ?_ ?_;first|exact trivial|omega)))
    refine Dn (fun hlt2=>?_) (fun hge2=>?_)
    ·(repeat (first|(refine Ab ?_ ?_;first|exact trivial|omega)|(refine Ap ?_ ?_;first|exact trivial|omega)))
     refine Em ((h12.cell 1 rfl (i / 4)).trans (Hv y.list (i / 4) (by omega))) (by omega) ?_
     (repeat (first|(refine Ab ?_ ?_;first|exact trivial|omega)|(refine Ap ?_ ?_;first|exact trivial|omega)))
     refine Oh (j:=i) h12 (by omega) (by rw[Dw,Pg _ _ _ hi];omega) rfl (fun w13 h13=>?_)
     (repeat (first|(refine Ab ?_ ?_;first|exact trivial|omega)|(refine Ap ?_ ?_;first|exact trivial|omega)))
     refine⟨⟨i+1,by omega,rfl,?_⟩,by simp[intOf];omega⟩
     rw[← aAo _ _ _ (by omega),← Pw]
     have e:outAt y.list i=y.list.getD (i / 4) 0 / 2 ^ (((24:Int) - 8*((i:Int)%4))%18446744073709551616).toNat%256:=by
      unfold outAt
      congr 3
      omega
     rw[e]
     exact h13
    ·obtain rfl:i=32:=by omega
     have hf:fill (outAt y.list) 32 32=outB y:=by simp[fill,outB]
     rw[hf]at h12
     have hol:(u8s (outB y)).length=32:=by simp[outB,u8s]
     refine aEe (Eh h12.head) hol rfl ?_
     have h13:=h12.drop.drop.drop.drop
     refine Dt (q:=true) (k:=32) (by kernel_rfl) h13 (by simpa [Value.cells] using hol) (by intro u hu;exact Fk _ u hu) (by simp) (fun w14 h14=>?_)
     have e:lay (List.replicate 32 (Value.int .u8 0)) (Value.agg (u8s (outB y)).toArray).cells.toList 0=u8s (outB y):=Hg _ _ (by show(u8s (outB y)).length=_;rw[hol];simp)
     rw[e]at h14
     refine Lo (Eh h14.head) hol ?_
     exact⟨rfl,h14.drop⟩
end Go.Proofs.YtgbenhmdamnmcaaGreat
namespace Go.Proofs.YtgbenhmdamnmcaaGreat
open Go.Proofs.Tryz
open Go.RowKit
theorem buildstr (s:ByteArray) (w:World):(Al 41 1 [(0,.string s)]).run prog w=.ok (.value (.slice (some ⟨w.heap.size,0,none⟩) 1 1)) (w.alloc (.cells [Value.string s].toArray 9)):=by kernel_rfl
theorem aVt (s:ByteArray) (w:World) (hsz:s.size<4611686018427387904):Calls prog 34 #[.slice (some ⟨w.heap.size,0,none⟩) 1 1] (w.alloc (.cells [Value.string s].toArray 9)) fun e w'=>e=.returned (hv (shaSum (ints s)))∧St w [] w':=by
 have h:=Ph (some ⟨w.heap.size,0,none⟩) [s] 1 (w.alloc (.cells [Value.string s].toArray 9)) (aYq w [Value.string s] 9) (by simp) (by simpa [cat,Bq] using hsz)
 refine h.mono ?_
 rintro e w' ⟨rfl,h'⟩
 refine⟨by simp[cat],?_⟩
 have:=(St.nil w).alloc 9 [.string s]
 exact this.drop.call0 h'
theorem Mq (a b:List Int):strOfNums a++strOfNums b=strOfNums (a++b):=by
 apply ByteArray.ext
 simp[strOfNums]
theorem St.ext {w w':World} {L:List Bk} (h:St w L w') (hn:∀ b∈L,b.nw=true):Ext w w':=
 h.only.mono (fun i _ hi=>by
  obtain⟨b,hb,h2,_⟩:=hi
  rw[hn b hb]at h2
  cases h2)
theorem St.ext0 {w w':World} (h:St w [] w'):Ext w w':=h.ext (fun _ h=>by cases h)
theorem aHj (s:ByteArray) (i:Int) (h0:0≤i) (h1:i<s.size):Pur prog (Cq 9 (.string s) (.int .i64 i)) (.int .u8 ((ints s).getD i.toNat 0)):=Jd (P:=prog) 9 s .i64 i (by kernel_rfl) h0 h1
end Go.Proofs.YtgbenhmdamnmcaaGreat
namespace Go.Proofs.YtgbenhmdamnmcaaGreat
open Go.Proofs.Tryz
open Go.RowKit
section
variable {P:Program} {t:TypeId} {q:Bool}
theorem aMb (x y:ByteArray):(x.toList == y.toList)=decide (x=y):=by
 rw[Bool.eq_iff_iff]
 simp only[beq_iff_eq,decide_eq_true_eq]
 rw[ByteArray.toList_eq,ByteArray.toList_eq]
 constructor
 ·intro e
  obtain⟨⟨a⟩⟩:=x
  obtain⟨⟨b⟩⟩:=y
  simpa using e
 ·rintro rfl;rfl
instance (priority:=1100) (x y:ByteArray):StepC P (Af .eql t q (.string x) (.string y)) True (.bool (decide (x=y))):=⟨fun _=>by rw[← aMb];exact aEd t q x y⟩
instance (priority:=1100) (x y:ByteArray):StepC P (Af .neq t q (.string x) (.string y)) True (.bool (decide (x≠y))):=⟨fun _ w=>by
 have:=aMb x y
 simp[Af,sv,eqGuard,binOp,go_sem,Op.stringOp,this]⟩
instance (priority:=1100):StepC P (Cz .not (.bool true)) True (.bool false):=⟨fun _ w=>by simp[Cz,sv,go_sem]⟩
instance (priority:=1100):StepC P (Cz .not (.bool false)) True (.bool true):=⟨fun _ w=>by simp[Cz,sv,go_sem]⟩
end
end Go.Proofs.YtgbenhmdamnmcaaGreat
namespace Go.Proofs.YtgbenhmdamnmcaaGreat
open Go.Proofs.Tryz
open Go.RowKit
def exR {α:Type} (R:α→List Res):Res:=fun B=>∃ a,Hl (R a) B
theorem Mem.unex {α:Type} {R:α→List Res} {H:Hp} {w0 w:World} {L:List Res} (h:Mem H w0 (exR R::L) w):∃ a,Mem H w0 (R a++L) w:=by
 obtain⟨B,⟨B1,B2,rfl,⟨a,h1⟩,h2⟩,hs⟩:=h.own
 exact⟨a,⟨B1++B2,Hl.app.2 ⟨B1,B2,rfl,h1,h2⟩,hs⟩,h.fz⟩
theorem Mem.toex {α:Type} {R:α→List Res} {H:Hp} {w0 w:World} {L:List Res} (a:α) (h:Mem H w0 (R a++L) w):Mem H w0 (exR R::L) w:=h.fold fun _ hb=>⟨a,hb⟩
instance (priority:=500) (L L':List Res) (x:Res) [k:SubL L L']:SubL (x::L) L':=⟨by
 obtain⟨R,h⟩:=k.ok
 exact⟨x::R,h.cons x⟩⟩
def Clo {α:Type} (P:Program) (H:Hp) (w0:World) (r:Res) (c:Value) (enc:α→Value) (f:α→Bool):Prop:=
 ∀ (y:α) (R:List Res) (w:World) (K:Value→World→Prop) (X:List PanicEntry→World→Prop),Mem H w0 (r::R) w→(∀ w',Mem H w0 (r::R) w'→K (.bool (f y)) w')→mop P (Ah c [enc y]) w K X
section
variable {P:Program} {H:Hp} {w0 w:World} {L:List Res} {n cap e sz by_:Nat} {t:TypeId} {A:Option Addr} {ps:List (List Fd)} {X X1 X2 X3:List PanicEntry→World→Prop} {R:Ending→World→Prop}
theorem Mr [cc:SliC P t e sz by_] [IsSl P t] (hs:Sl (Hp.of w) sz A ps) (hn:n=ps.length) (hM:Mem H w0 L w) (hb:n≤9223372036854775807∧n*by_≤140737488355328)
  (hR:∀ A' cap' w',Ext w w'→Mem H w0 (rowR e sz A' n cap' ps::L) w'→R (.returned (.slice A' n cap')) w'):
  mop P (Af .eql t true (.slice A n cap) (.slice none 0 0)) w (fun x4 w1=>mif x4 (R (.returned (.slice none 0 0)) w1) (mop P (Al t 0 []) w1 (fun x5 w2=>mop P (Ak .append #[t,t] t [false,false] [x5,.slice A n cap]) w2 (fun x7 w3=>R (.returned x7) w3) X2) X1)) X:=by
 refine Ab trivial ?_
 cases A with
 | none=>
   have:ps=[]:=by
    rcases hs.at_ with h|⟨b,o,c,h,_⟩
    ·exact h
    ·cases h
   subst this
   subst hn
   exact Am (hR none 0 w (Ext.refl w) (hM.row0 e sz))
 | some a=>
   refine Aj ?_
   have k:Lits P sz 0 [] []:=inferInstance
   have hr:=Jf (P:=P) (t:=t) (e:=e) (sz:=sz) (by_:=by_) (w:=w) (ps:=[]) (qs:=[]) cc k (by simp)
   refine Cl hr ?_
   have hx:Ext w (w.alloc (.cells (fls []).toArray e)):=(Only.refl _ w).alloc _
   have hM2:Mem H w0 (rowR e sz (some ⟨w.heap.size,0,none⟩) 0 0 []::L) (w.alloc (.cells (fls []).toArray e)):=by
    obtain⟨B,hl,hs',hb'⟩:=hM.own
    refine⟨⟨⟨w.heap.size,e,fls [],true⟩::B,⟨[⟨w.heap.size,e,fls [],true⟩],B,rfl,⟨Els.nil sz,rfl,.inr ⟨w.heap.size,[],rfl,by simp,by simp[fls],by simp,by simp⟩⟩,hl⟩,hs'.alloc e (fls []),fun b hm=>?_⟩,hM.fz.ext hx⟩
    rcases List.mem_cons.1 hm with rfl|hm
    ·refine⟨rfl,?_⟩
     cases hh:H w.heap.size with
     | none=>rfl
     | some c=>have:=hM.fz.lt hh;omega
    ·exact hb' b hm
   subst hn
   have hsrc:Src P sz t (.slice (some a) ps.length cap) ps.length (fls ps) (w.alloc (.cells (fls []).toArray e)):=hs.src ((Fz.of w).ext hx) cc.und cap
   simp only[List.length_nil]
   refine aLx (n:=0) (cap:=0) hM2 ⟨.refl _⟩ hsrc hs.els rfl (by simp only[maxLen];omega) (by rw[Nat.zero_add];exact hb.2) fun A' cap' w' ho hM3=>?_
   rw[Nat.zero_add,List.nil_append]at hM3
   rw[Nat.zero_add]
   have hx2:Ext w w':=Only.trans hx ho fun i hi hg=>by cases hg;omega
   exact hR A' cap' w' hx2 hM3
theorem Px {R1 R2:List Res} {S:Rl} {K:Value→World→Prop} {m capx ex e' tx ty:Nat} {qs:List (List Fd)} {B:Option Addr} {ks:List Bool} (h:Mem H w0 L w) [c:SliC P t e sz by_] [k:AtR L A n cap e sz ps R1] [k':AtR R1 B m capx ex sz qs R2] [cx:SliC P tx e' sz by_] (hb:n+m≤9223372036854775807∧(n+m)*by_≤140737488355328)
  (hk:∀ A' cap' w',Mem H w0 (rowR e sz A' (n+m) cap' (ps++qs)::R2) w'→K (.slice A' (n+m) cap') w'):dfS P S w (Ak .append #[t,tx] ty ks [.slice A n cap,.slice B m capx]) false K:=
 ⟨fun _ hd=>Fc (Co (X:=fun _ _=>False) (h.drawn hd) hb hk) (fun _ _ h=>⟨(fun e=>by cases e),h⟩) (fun _ _ h=>h)⟩
theorem Mem.setElem {R1:List Res} {g:Nat} {k:Nat} {p:List Fd} (h:Mem H w0 (rowR e sz (some ⟨g,0,none⟩) n cap ps::R1) w) (hk:k<n) (hp:FOk p) (hs:fsz p=sz):∃ w',(storeCells ⟨g,0+k*sz,none⟩ (fl p) 0).run P w=.ok () w'∧Mem H w0 (rowR e sz (some ⟨g,0,none⟩) n cap (ps.set k p)::R1) w':=by
 obtain⟨B,⟨B1,B2,rfl,⟨h1,h2,h3⟩,h4⟩,hs',hb⟩:=h.own
 rcases h3 with ⟨hA,_⟩|⟨g',sp,hA,rfl,h5,h6⟩
 ·cases hA
 ·cases hA
  have hs':St w0 (⟨g,e,fls ps++sp,true⟩::B2) w:=hs'
  have hle:k*sz+sz≤n*sz:=by rw[← Nat.succ_mul];exact Nat.mul_le_mul_right _ hk
  have hpl:(fl p).length=sz:=by rw[hp.len,hs]
  have hfl:(fls ps).length=n*sz:=by rw[h1.len,h2]
  have hst:=Cc (P:=P) (0+k*sz) (fl p) 0 (fls ps++sp) w hs'.head (by rw[List.length_append,hfl,hpl];omega) hp.one
  have hlay:lay (fls ps++sp) (fl p) (0+k*sz+0)=fls (ps.set k p)++sp:=by
   have hk':k<ps.length:=by omega
   have e1:ps=ps.take k++ps[k]::ps.drop (k+1):=by rw[List.getElem_cons_drop,List.take_append_drop]
   have ht:(fls (ps.take k)).length=k*sz:=by rw[(h1.take k).len,List.length_take,Nat.min_eq_left (by omega)]
   have hx:(fl ps[k]).length=sz:=by
    have:=h1.ok ps[k] (List.getElem_mem _)
    rw[this.1.len,this.2]
   rw[List.set_eq_take_append_cons_drop,if_pos hk']
   conv=>lhs;rw[e1]
   rw[Gp,Gp,Gn,Gn]
   unfold lay
   rw[Nat.zero_add,Nat.add_zero,hpl]
   rw[List.append_assoc,List.append_assoc,List.append_assoc,List.append_assoc,List.append_assoc]
   rw[List.take_left' ht]
   congr 1
   rw[show k*sz+sz=(fls (ps.take k)++fl ps[k]).length by rw[List.length_append,ht,hx],← List.append_assoc (fls (ps.take k)),List.drop_left' rfl]
  refine⟨_,hst,?_⟩
  rw[hlay]
  have hl2:(fls (ps.set k p)++sp).length=(fls ps++sp).length:=by
   rw[← hlay]
   exact Ds _ _ _ (by rw[List.length_append,hfl,hpl];omega)
  have hels:Els sz (ps.set k p):=⟨fun q hq=>by
   rcases List.mem_or_eq_of_mem_set hq with hq|rfl
   ·exact h1.ok q hq
   ·exact⟨hp,hs⟩⟩
  have hg:=hb ⟨g,e,fls ps++sp,true⟩ (by simp)
  refine⟨⟨⟨g,e,fls (ps.set k p)++sp,true⟩::B2,⟨[⟨g,e,fls (ps.set k p)++sp,true⟩],B2,rfl,⟨hels,by simpa using h2,.inr ⟨g,sp,rfl,rfl,by rw[hl2];exact h5,h6⟩⟩,h4⟩,hs'.setRow hl2,fun b hm=>?_⟩,h.fz.same fun b c hc=>setRow_other w g b _ ?_⟩
  ·rcases List.mem_cons.1 hm with rfl|hm
   ·exact⟨rfl,hg.2⟩
   ·exact hb b (List.mem_append.2 (.inr hm))
  ·rintro rfl
   have:=hg.2
   simp only[hc]at this
   cases this
theorem aKb {R1:List Res} {g k:Nat} {tt:TypeId} {q:Bool} {v:Value} {p:List Fd} {K:Value→World→Prop} {X:List PanicEntry→World→Prop} (h:Mem H w0 L w) [c:ShpC P tt q sz] [a:AtA L (some ⟨g,0,none⟩) n cap e sz ps R1] [f:Vf v sz p] (hk:k<n)
  (hK:∀ w',Mem H w0 (rowR e sz (some ⟨g,0,none⟩) n cap (ps.set k p)::R1) w'→K undef w'):mop P (Ai tt (.pointer (some ⟨g,0+k*sz,none⟩)) v) w K X:=by
 obtain⟨ev,hn,hp⟩:=f.ok
 obtain⟨w',hr,hm⟩:=(h.perm a.perm).setElem (P:=P) hk hp hn
 refine Ie ?_ (hK w' hm)
 have e2:v.cells.size=sz:=by rw[← Array.length_toList,ev,hp.len,hn]
 simp[Ai,su,Instr.storeAt,Instr.sureAddr,storeVar,Ch (Gm (w:=w) c.ok).2,ev,e2]
 rw[Nat.zero_add]at hr
 simp[hr]
theorem aCk {z:Array Value} (h:∀ u∈z.toList,u.oneCell'=true) (n:Nat):∀ u∈(Builtin.zeroCells z n).toList,u.oneCell'=true:=by
 intro u hu
 simp only[Builtin.zeroCells,Array.toList_map,Array.toList_range,List.mem_map,List.mem_range]at hu
 obtain⟨i,hi,rfl⟩:=hu
 have hz:0<z.size:=by
  rcases Nat.eq_zero_or_pos z.size with h0|h0
  ·rw[h0]at hi;simp at hi
  ·exact h0
 have hlt:i%z.size<z.size:=Nat.mod_lt _ hz
 simp only[getElem!_pos,hlt]
 exact h _ (by simp)
theorem aHk {R1:List Res} {g k cc ty:Nat} {ks:List Bool} {fs:List Fd} {K:Value→World→Prop} {X:List PanicEntry→World→Prop} (h:Mem H w0 L w) [sc:SliC P t e sz by_] [z:ZerF P e fs] [a:AtA L (some ⟨g,0,none⟩) n cap e sz ps R1] (hk:k<n)
  (hK:∀ w',Mem H w0 (rowR e sz (some ⟨g,0,none⟩) k cap (ps.take k)::R1) w'→K (.tuple #[]) w'):mop P (Ak .clear #[t] ty ks [.slice (some ⟨g,0+k*sz,none⟩) (n - k) cc]) w K X:=by
 obtain⟨B,⟨B1,B2,rfl,⟨h1,h2,h3⟩,h4⟩,hs',hb⟩:=(h.perm a.perm).own
 obtain⟨ht,i,zv,hi,hz,h5,h6,h7⟩:=Je sc.ok
 obtain⟨hzf,hzo⟩:=z.ok
 unfold zer at hzf
 simp[hi,hz]at hzf
 rcases h3 with ⟨hA,_⟩|⟨g',sp,hA,rfl,h8,h9,h10⟩
 ·cases hA
 ·cases hA
  have hs':St w0 (⟨g,e,fls ps++sp,true⟩::B2) w:=hs'
  have hfl:(fls ps).length=n*sz:=by rw[h1.len,h2]
  have hle:k*sz+(n - k)*sz=n*sz:=by rw[← Nat.add_mul];congr 1;omega
  have hzl:(Builtin.zeroCells zv.cells (n - k)).toList.length=(n - k)*sz:=by rw[Array.length_toList,size_zeroCells,h7]
  have hone:=aCk (z:=zv.cells) (by rw[hzf];exact hzo.one) (n - k)
  have hst:=Cc (P:=P) (0+k*sz) (Builtin.zeroCells zv.cells (n - k)).toList 0 (fls ps++sp) w hs'.head (by rw[List.length_append,hfl,hzl];omega) hone
  have hz0:(zeroValue e).run P w=.ok zv w:=by simp[zeroValue,typeInfo,hi,hz]
  have hlay:lay (fls ps++sp) (Builtin.zeroCells zv.cells (n - k)).toList (0+k*sz+0)=fls (ps.take k)++((Builtin.zeroCells zv.cells (n - k)).toList++sp):=by
   have ht':(fls (ps.take k)).length=k*sz:=by rw[(h1.take k).len,List.length_take,Nat.min_eq_left (by omega)]
   unfold lay
   rw[Nat.zero_add,Nat.add_zero,hzl,hle,← hfl,List.drop_left' rfl]
   conv=>lhs;arg 1;arg 1;rw[← List.take_append_drop k ps,Gp,List.append_assoc,List.take_left' ht']
   rw[List.append_assoc]
  have hl2:(fls (ps.take k)++((Builtin.zeroCells zv.cells (n - k)).toList++sp)).length=(fls ps++sp).length:=by
   rw[← hlay]
   exact Ds _ _ _ (by rw[List.length_append,hfl,hzl];omega)
  rw[hlay]at hst
  have hg:=hb ⟨g,e,fls ps++sp,true⟩ (by simp)
  refine Cl (w':=w.setRow g (fls (ps.take k)++((Builtin.zeroCells zv.cells (n - k)).toList++sp)).toArray) (u:=.tuple #[]) ?_ (hK _ ?_)
  ·have hne:n - k≠0:=by omega
   obtain⟨m,hm⟩:∃ m,n - k=m+1:=⟨n - k - 1,by omega⟩
   rw[hm]at hst ⊢
   rw[Nat.zero_add]at hst ⊢
   simp[Ak,invoke,builtin,Builtin.clear_,run_underlying ht,hz0,hst]
  ·refine⟨⟨⟨g,e,fls (ps.take k)++((Builtin.zeroCells zv.cells (n - k)).toList++sp),true⟩::B2,⟨[_],B2,rfl,⟨h1.take k,by rw[List.length_take];omega,.inr ⟨g,(Builtin.zeroCells zv.cells (n - k)).toList++sp,rfl,rfl,by rw[hl2];exact h8,by omega,h10⟩⟩,h4⟩,hs'.setRow hl2,fun b hm=>?_⟩,h.fz.same fun b c hc=>setRow_other w g b _ ?_⟩
   ·rcases List.mem_cons.1 hm with rfl|hm
    ·exact⟨rfl,hg.2⟩
    ·exact hb b (List.mem_append.2 (.inr hm))
   ·rintro rfl
    have:=hg.2
    simp only[hc]at this
    cases this
end
end Go.Proofs.YtgbenhmdamnmcaaGreat
