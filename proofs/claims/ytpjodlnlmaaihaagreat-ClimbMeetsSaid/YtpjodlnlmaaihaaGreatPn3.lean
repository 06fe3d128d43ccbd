/- Part 3 of the proof. -/
import Derived.Test.YtpjodlnlmaaihaaGreatPn2
set_option linter.unusedVariables false
set_option linter.unusedVariables false
namespace Go.Proofs.YtpjodlnlmaaihaaGreat
def F_bevylaw09_ClimbMeets (b1:Value) (w:World) (R:Ending→World→Prop):Prop:=
 mj1 (fun lD=>
 m R (o_call (fv 5) []) w fun hQ lE=>
 m R (o_un .not hQ) lE fun aA hR=>
 mguard aA false (fun k=>m R (o_move b1) hR k) hR fun hS hT=>
 mguard aA false (fun k=>m R (o_builtin .len #[32] 3 [false] [hS]) hT k) hT fun hU hV=>
 mguard aA false (fun k=>m R (o_bin .gtr 3 true hU (.int .i64 40)) hV k) hV fun hW lF=>
 m R (o_pick aA (.bool true) hW) lF fun aG lG=>
 lD aG lG) fun aG lU hX=>
 mif aG (
 m R (o_call (fv 5) []) hX fun hY lH=>
 R (.returned hY) lH) (
 m R (o_build 34 [(0,(.int .u8 1))]) hX fun hZ lI=>
 m R (o_alloc 34) lI fun b2 h0=>
 m R (o_store 34 b2 hZ) h0 fun _ h1=>
 m R (o_build 25 []) h1 fun h2 h3=>
 m R (o_load 34 b2) h3 fun h4 h5=>
 m R (o_call (fv 11) [(.pointer none),h4]) h5 fun h6 h7=>
 m R (o_build 40 [(0,(.int .i64 1)),(1,h6)]) h7 fun h8 h9=>
 m R (o_call (fv 10) [h2,h8]) h9 fun aH iA=>
 m R (o_extract aH 0) iA fun iB iC=>
 m R (o_extract aH 1) iC fun lJ iD=>
 m R (o_extract aH 2) iD fun lK iE=>
 m R (o_alloc 25) iE fun c iF=>
 m R (o_store 25 c iB) iF fun _ iG=>
 m R (o_alloc 41) iG fun aF iH=>
 m R (o_load 34 b2) iH fun iI iJ=>
 m R (o_build 43 [(0,(.int .i64 0)),(1,iI)]) iJ fun iK iL=>
 m R (o_buildSlice 26 1 [(0,iK)]) iL fun iM iN=>
 m R (o_indexAddr 41 aF (.int .i64 1)) iN fun iO iP=>
 m R (o_store 26 iO iM) iP fun _ iQ=>
 ml1 (.int .i64 0) iQ fun aI lV iR bP=>
 m R (o_builtin .len #[32] 3 [false] [b1]) iR fun iS iT=>
 m R (o_bin .lss 3 false aI iS) iT fun iU bR=>
 mif iU (
 mj0 (fun bQ=>
 m R (o_indexAddr 32 b1 aI) bR fun iV iW=>
 m R (o_load 46 iV) iW fun iX iY=>
 m R (o_alloc 46) iY fun W iZ=>
 m R (o_store 46 W iX) iZ fun _ i0=>
 m R (o_load 25 c) i0 fun i1 i2=>
 m R (o_call (fv 12) [i1]) i2 fun aB i3=>
 m R (o_fieldAddr 46 W 1) i3 fun i4 i5=>
 m R (o_load 5 i4) i5 fun i6 i7=>
 m R (o_conv 5 3 i6) i7 fun i8 i9=>
 m R (o_builtin .len #[47] 3 [false] [aB]) i9 fun jA jB=>
 m R (o_bin .rem 3 false i8 jA) jB fun jC jD=>
 m R (o_indexAddr 47 aB jC) jD fun jE jF=>
 m R (o_load 3 jE) jF fun aC jG=>
 m R (o_fieldAddr 46 W 2) jG fun jH jI=>
 m R (o_load 5 jH) jI fun jJ jK=>
 m R (o_conv 5 3 jJ) jK fun jL jM=>
 m R (o_builtin .len #[47] 3 [false] [aB]) jM fun jN jO=>
 m R (o_bin .rem 3 false jL jN) jO fun jP jQ=>
 m R (o_indexAddr 47 aB jP) jQ fun jR jS=>
 m R (o_load 3 jR) jS fun s jT=>
 m R (o_load 25 c) jT fun jU jV=>
 m R (o_alloc 25) jV fun d jW=>
 m R (o_store 25 d jU) jW fun _ jX=>
 m R (o_conv 3 5 aI) jX fun jY jZ=>
 m R (o_fieldAddr 46 W 3) jZ fun j0 j1=>
 m R (o_load 44 j0) j1 fun j2 j3=>
 m R (o_conv 44 5 j2) j3 fun j4 j5=>
 m R (o_build 34 [(0,jY),(1,(.int .u8 2)),(2,j4)]) j5 fun j6 j7=>
 m R (o_alloc 34) j7 fun t j8=>
 m R (o_store 34 t j6) j8 fun _ j9=>
 mj2 (fun aD=>
 m R (o_fieldAddr 46 W 0) j9 fun kA kB=>
 m R (o_load 5 kA) kB fun kC kD=>
 m R (o_bin .rem 5 true kC (.int .u8 4)) kD fun aJ kE=>
 m R (o_bin .eql 5 true aJ (.int .u8 0)) kE fun kF bS=>
 mif kF (
 ml1 (.int .i64 1) bS fun h lL kG aK=>
 mj0 (fun aL=>
 m R (o_bin .lss 3 true h (.int .i64 9)) kG fun y bT=>
 mguard y true (fun k=>m R (o_load 25 c) bT k) bT fun b3 bU=>
 mguard y true (fun k=>m R (o_move h) bU k) bU fun b4 bV=>
 mguard y true (fun k=>m R (o_call (fv 13) [b3,b4]) bV k) bV fun b5 bW=>
 mguard y true (fun k=>m R (o_bin .geq 3 true b5 (.int .i64 0)) bW k) bW fun b6 kH=>
 m R (o_pick y b6 (.bool false)) kH fun b7 bX=>
 mif b7 (
 aL bX) (
 m R (o_bin .eql 3 true h (.int .i64 9)) bX fun b8 i=>
 mif b8 (
 bQ i) (
 mj3 (fun aM=>
 ((
 dq Tryz.prog i (o_load 25 c) fun z=>
 dq Tryz.prog i (o_load 34 t) fun A=>
 df Tryz.prog i (o_call (fv 11) [(.pointer none),A]) true fun B kI=>
 dp Tryz.prog (o_build 40 [(0,h),(1,B)]) fun C=>
 df Tryz.prog kI (o_call (fv 10) [z,C]) false fun a kJ=>
 dp Tryz.prog (o_extract a 0) fun D=>
 dp Tryz.prog (o_extract a 1) fun E=>
 dp Tryz.prog (o_extract a 2) fun F=>
 df Tryz.prog kJ (o_alloc 25) true fun j kK=>
 df Tryz.prog kK (o_store 25 j D) false fun _ kL=>
 dend kL fun kM=>
 aM j E F kM)∧(
 dq Tryz.prog i (o_load 25 c) fun z=>
 dq Tryz.prog i (o_load 34 t) fun A=>
 df Tryz.prog i (o_call (fv 11) [(.pointer none),A]) true fun B kN=>
 dp Tryz.prog (o_build 40 [(0,h),(1,B)]) fun C=>
 df Tryz.prog kN (o_alloc 25) true fun j kO=>
 df Tryz.prog kO (o_call (fv 10) [z,C]) false fun a kP=>
 dp Tryz.prog (o_extract a 0) fun D=>
 dp Tryz.prog (o_extract a 1) fun E=>
 dp Tryz.prog (o_extract a 2) fun F=>
 df Tryz.prog kP (o_store 25 j D) false fun _ kQ=>
 dend kQ fun kR=>
 aM j E F kR)∧(
 dq Tryz.prog i (o_load 25 c) fun z=>
 dq Tryz.prog i (o_load 34 t) fun A=>
 df Tryz.prog i (o_alloc 25) true fun j kS=>
 df Tryz.prog kS (o_call (fv 11) [(.pointer none),A]) true fun B kT=>
 dp Tryz.prog (o_build 40 [(0,h),(1,B)]) fun C=>
 df Tryz.prog kT (o_call (fv 10) [z,C]) false fun a kU=>
 dp Tryz.prog (o_extract a 0) fun D=>
 dp Tryz.prog (o_extract a 1) fun E=>
 dp Tryz.prog (o_extract a 2) fun F=>
 df Tryz.prog kU (o_store 25 j D) false fun _ kV=>
 dend kV fun kW=>
 aM j E F kW))) fun j kX kY lM kZ=>
 m R (o_bin .neq 35 true kY (.int .i64 0)) kZ fun b9 bY=>
 mif b9 (
 R (.returned (.bool false)) bY) (
 m R (o_load 25 j) bY fun cA k0=>
 m R (o_buildSlice 47 1 [(0,kX)]) k0 fun cB k1=>
 m R (o_store 25 d cA) k1 fun _ k2=>
 aD cB h k2)))) fun k3 k4=>
 mj0 (fun aL=>
 aL k4) fun k3 k5=>
 m R (o_bin .add 3 true h (.int .i64 1)) k5 fun cC k6=>
 aK cC k6) (
 m R (o_bin .eql 5 true aJ (.int .u8 2)) bS fun cD bZ=>
 mif cD (
 m R (o_bin .eql 3 false s aC) bZ fun cE l=>
 mif cE (
 bQ l) (
 mj2 (fun aN=>
 ((
 dq Tryz.prog l (o_load 25 c) fun G=>
 dq Tryz.prog l (o_load 25 c) fun H=>
 df Tryz.prog l (o_call (fv 13) [H,s]) true fun I k7=>
 df Tryz.prog k7 (o_call (fv 14) [G,I]) false fun e k8=>
 dp Tryz.prog (o_extract e 0) fun J=>
 dp Tryz.prog (o_extract e 1) fun K=>
 df Tryz.prog k8 (o_alloc 25) true fun n cF=>
 df Tryz.prog cF (o_store 25 n J) false fun _ cG=>
 dend cG fun cH=>
 aN n K cH)∧(
 dq Tryz.prog l (o_load 25 c) fun G=>
 dq Tryz.prog l (o_load 25 c) fun H=>
 df Tryz.prog l (o_call (fv 13) [H,s]) true fun I cI=>
 df Tryz.prog cI (o_alloc 25) true fun n cJ=>
 df Tryz.prog cJ (o_call (fv 14) [G,I]) false fun e cK=>
 dp Tryz.prog (o_extract e 0) fun J=>
 dp Tryz.prog (o_extract e 1) fun K=>
 df Tryz.prog cK (o_store 25 n J) false fun _ cL=>
 dend cL fun cM=>
 aN n K cM)∧(
 dq Tryz.prog l (o_load 25 c) fun G=>
 dq Tryz.prog l (o_load 25 c) fun H=>
 df Tryz.prog l (o_alloc 25) true fun n cN=>
 df Tryz.prog cN (o_call (fv 13) [H,s]) true fun I cO=>
 df Tryz.prog cO (o_call (fv 14) [G,I]) false fun e cP=>
 dp Tryz.prog (o_extract e 0) fun J=>
 dp Tryz.prog (o_extract e 1) fun K=>
 df Tryz.prog cP (o_store 25 n J) false fun _ cQ=>
 dend cQ fun cR=>
 aN n K cR))) fun n k9 lN cS=>
 m R (o_bin .neq 35 true k9 (.int .i64 0)) cS fun cT aO=>
 mif cT (
 R (.returned (.bool false)) aO) (
 m R (o_load 25 n) aO fun cU cV=>
 m R (o_store 25 d cU) cV fun _ cW=>
 m R (o_indexAddr 41 aF s) cW fun cX cY=>
 m R (o_store 26 cX (.slice none 0 0)) cY fun _ cZ=>
 aD (.slice none 0 0) (.int .i64 0) cZ))) (
 m R (o_bin .eql 5 true aJ (.int .u8 3)) bZ fun c0 aP=>
 mif c0 (
 m R (o_bin .eql 3 false s aC) aP fun c1 aQ=>
 mif c1 (
 bQ aQ) (
 m R (o_load 25 c) aQ fun c2 c3=>
 m R (o_call (fv 13) [c2,s]) c3 fun U b=>
 mj2 (fun aR=>
 ((
 dq Tryz.prog b (o_load 25 c) fun L=>
 dq Tryz.prog b (o_load 34 t) fun M=>
 df Tryz.prog b (o_call (fv 11) [(.pointer none),M]) true fun N c4=>
 df Tryz.prog c4 (o_call (fv 15) [L,U,N]) false fun f c5=>
 dp Tryz.prog (o_extract f 0) fun O=>
 dp Tryz.prog (o_extract f 1) fun Q=>
 df Tryz.prog c5 (o_alloc 25) true fun o c6=>
 df Tryz.prog c6 (o_store 25 o O) false fun _ c7=>
 dend c7 fun c8=>
 aR o Q c8)∧(
 dq Tryz.prog b (o_load 25 c) fun L=>
 dq Tryz.prog b (o_load 34 t) fun M=>
 df Tryz.prog b (o_call (fv 11) [(.pointer none),M]) true fun N c9=>
 df Tryz.prog c9 (o_alloc 25) true fun o dA=>
 df Tryz.prog dA (o_call (fv 15) [L,U,N]) false fun f dB=>
 dp Tryz.prog (o_extract f 0) fun O=>
 dp Tryz.prog (o_extract f 1) fun Q=>
 df Tryz.prog dB (o_store 25 o O) false fun _ dC=>
 dend dC fun dD=>
 aR o Q dD)∧(
 dq Tryz.prog b (o_load 25 c) fun L=>
 dq Tryz.prog b (o_load 34 t) fun M=>
 df Tryz.prog b (o_alloc 25) true fun o dE=>
 df Tryz.prog dE (o_call (fv 11) [(.pointer none),M]) true fun N dF=>
 df Tryz.prog dF (o_call (fv 15) [L,U,N]) false fun f dG=>
 dp Tryz.prog (o_extract f 0) fun O=>
 dp Tryz.prog (o_extract f 1) fun Q=>
 df Tryz.prog dG (o_store 25 o O) false fun _ dH=>
 dend dH fun dI=>
 aR o Q dI))) fun o lA lO dJ=>
 m R (o_bin .neq 35 true lA (.int .i64 0)) dJ fun dK aS=>
 mif dK (
 R (.returned (.bool false)) aS) (
 m R (o_load 25 o) aS fun dL dM=>
 m R (o_store 25 d dL) dM fun _ X=>
 dp Tryz.prog (o_bin .mul 3 true (.int .i64 2) U) fun dN=>
 dq Tryz.prog X (o_load 34 t) fun dO=>
 dp Tryz.prog (o_build 43 [(0,dN),(1,dO)]) fun dP=>
 df Tryz.prog X (o_buildSlice 26 1 [(0,dP)]) true fun dQ dR=>
 dp Tryz.prog (o_indexAddr 41 aF s) fun dS=>
 dq Tryz.prog X (o_load 26 dS) fun dT=>
 df Tryz.prog dR (o_builtin .append #[26,26] 26 [false,false] [dQ,dT]) false fun dU dV=>
 dp Tryz.prog (o_indexAddr 41 aF s) fun dW=>
 df Tryz.prog dV (o_store 26 dW dU) false fun _ dX=>
 dend dX fun dY=>
 aD (.slice none 0 0) (.int .i64 0) dY))) (
 aD (.slice none 0 0) (.int .i64 0) aP)))) fun b0 h lP dZ=>
 m R (o_load 25 d) dZ fun d0 d1=>
 m R (o_call (fv 13) [d0,aC]) d1 fun u d2=>
 m R (o_load 25 d) d2 fun d3 d4=>
 m R (o_conv 3 5 aI) d4 fun d5 d6=>
 m R (o_fieldAddr 46 W 3) d6 fun d7 d8=>
 m R (o_load 44 d7) d8 fun d9 eA=>
 m R (o_conv 44 5 d9) eA fun eB eC=>
 m R (o_fieldAddr 46 W 3) eC fun eD eE=>
 m R (o_load 44 eD) eE fun eF eG=>
 m R (o_bin .shr 44 true eF (.int .u64 8)) eG fun eH eI=>
 m R (o_conv 44 5 eH) eI fun eJ eK=>
 m R (o_build 34 [(0,d5),(1,(.int .u8 3)),(2,eB),(3,eJ)]) eK fun eL eM=>
 m R (o_call (fv 16) [(.pointer none),d3,u,eL,(.string (ByteArray.mk #[97,98,111,117,116])),b0]) eM fun aT eN=>
 m R (o_extract aT 0) eN fun eO eP=>
 m R (o_extract aT 1) eP fun aU eQ=>
 m R (o_alloc 56) eQ fun p eR=>
 m R (o_store 56 p eO) eR fun _ eS=>
 m R (o_bin .neq 35 true aU (.int .i64 0)) eS fun eT aV=>
 mif eT (
 R (.returned (.bool false)) aV) (
 m R (o_load 25 d) aV fun eU eV=>
 m R (o_call (fv 12) [eU]) eV fun aW eW=>
 ml2 aU (.int .i64 0) eW fun aE aX lQ eX aY=>
 m R (o_builtin .len #[47] 3 [false] [aW]) eX fun eY eZ=>
 m R (o_bin .lss 3 false aX eY) eZ fun e0 aZ=>
 mif e0 (
 m R (o_indexAddr 47 aW aX) aZ fun e1 e2=>
 m R (o_load 3 e1) e2 fun S e3=>
 m R (o_load 25 d) e3 fun e4 e5=>
 m R (o_call (fv 13) [e4,S]) e5 fun V e6=>
 m R (o_load 56 p) e6 fun e7 e8=>
 m R (o_alloc 56) e8 fun T e9=>
 m R (o_store 56 T e7) e9 fun _ fA=>
 mj1 (fun a0=>
 m R (o_bin .eql 3 false S h) fA fun fB a1=>
 mif fB (
 m R (o_fieldAddr 25 d 0) a1 fun fC fD=>
 m R (o_load 22 fC) fD fun fE fF=>
 m R (o_builtin .len #[22] 3 [false] [fE]) fF fun fG fH=>
 m R (o_call (fv 17) [fG,u]) fH fun fI fJ=>
 ml1 (.int .i64 0) fJ fun a2 lR Y a3=>
 dp Tryz.prog (o_indexAddr 47 fI a2) fun fK=>
 dq Tryz.prog Y (o_load 3 fK) fun fL=>
 dp Tryz.prog (o_fieldAddr 25 d 0) fun fM=>
 dq Tryz.prog Y (o_load 22 fM) fun fN=>
 dp Tryz.prog (o_builtin .len #[22] 3 [false] [fN]) fun fO=>
 df Tryz.prog Y (o_call (fv 18) [fO,u,V]) true fun fP fQ=>
 dp Tryz.prog (o_bin .neq 3 false fL fP) fun fR=>
 dend fQ fun v=>
 mif fR (
 m R (o_bin .add 3 true a2 (.int .i64 1)) v fun fS fT=>
 a3 fS fT) (
 dp Tryz.prog (o_fieldAddr 56 p 0) fun fU=>
 dq Tryz.prog v (o_load 25 fU) fun fV=>
 dp Tryz.prog (o_fieldAddr 56 p 2) fun fW=>
 dq Tryz.prog v (o_load 54 fW) fun fX=>
 dp Tryz.prog (o_indexAddr 54 fX a2) fun fY=>
 dq Tryz.prog v (o_load 34 fY) fun fZ=>
 dq Tryz.prog v (o_load 34 t) fun f0=>
 df Tryz.prog v (o_call (fv 19) [(.pointer none),fV,u,V,fZ,f0]) false fun a4 f1=>
 dp Tryz.prog (o_extract a4 0) fun f2=>
 dp Tryz.prog (o_extract a4 1) fun f3=>
 df Tryz.prog f1 (o_store 56 T f2) false fun _ f4=>
 dend f4 fun f5=>
 a0 f3 f5)) (
 m R (o_bin .neq 3 false S aC) a1 fun f6 q=>
 mif f6 (
 dq Tryz.prog q (o_load 25 d) fun f7=>
 dp Tryz.prog (o_fieldAddr 56 p 0) fun f8=>
 dp Tryz.prog (o_fieldAddr 25 f8 0) fun f9=>
 dq Tryz.prog q (o_load 22 f9) fun gA=>
 dp Tryz.prog (o_indexAddr 22 gA u) fun gB=>
 dp Tryz.prog (o_fieldAddr 40 gB 1) fun gC=>
 dq Tryz.prog q (o_load 34 gC) fun gD=>
 dp Tryz.prog (o_fieldAddr 56 p 1) fun gE=>
 dq Tryz.prog q (o_load 53 gE) fun gF=>
 dp Tryz.prog (o_indexAddr 41 aF S) fun gG=>
 dq Tryz.prog q (o_load 26 gG) fun gH=>
 df Tryz.prog q (o_call (fv 20) [(.pointer none),f7,u,gD,gF,(.string (ByteArray.mk #[97,98,111,117,116])),b0,V,gH]) false fun a5 gI=>
 dp Tryz.prog (o_extract a5 0) fun gJ=>
 dp Tryz.prog (o_extract a5 1) fun gK=>
 df Tryz.prog gI (o_store 56 T gJ) false fun _ gL=>
 dend gL fun gM=>
 a0 gK gM) (
 a0 aE q))) fun aE lS gN=>
 mj1 (fun lB=>
 m R (o_bin .neq 35 true aE (.int .i64 0)) gN fun r a6=>
 mguard r false (fun k=>m R (o_fieldAddr 56 T 0) a6 k) a6 fun gO a7=>
 mguard r false (fun k=>m R (o_load 25 gO) a7 k) a7 fun gP a8=>
 mguard r false (fun k=>m R (o_fieldAddr 56 p 0) a8 k) a8 fun gQ a9=>
 mguard r false (fun k=>m R (o_load 25 gQ) a9 k) a9 fun gR bA=>
 mguard r false (fun k=>m R (o_call (fv 21) [gP,gR]) bA k) bA fun gS bB=>
 mguard r false (fun k=>m R (o_un .not gS) bB k) bB fun gT gU=>
 m R (o_pick r (.bool true) gT) gU fun x bC=>
 mguard x false (fun k=>m R (o_fieldAddr 56 T 4) bC k) bC fun gV bD=>
 mguard x false (fun k=>m R (o_load 34 gV) bD k) bD fun gW bE=>
 mguard x false (fun k=>m R (o_fieldAddr 56 p 4) bE k) bE fun gX bF=>
 mguard x false (fun k=>m R (o_load 34 gX) bF k) bF fun gY bG=>
 mguard x false (fun k=>m R (o_bin .neq 34 false gW gY) bG k) bG fun gZ g0=>
 m R (o_pick x (.bool true) gZ) g0 fun g bH=>
 mguard g false (fun k=>m R (o_fieldAddr 56 p 0) bH k) bH fun g1 bI=>
 mguard g false (fun k=>m R (o_load 25 g1) bI k) bI fun g2 bJ=>
 mguard g false (fun k=>m R (o_move V) bJ k) bJ fun g3 bK=>
 mguard g false (fun k=>m R (o_fieldAddr 56 T 3) bK k) bK fun g4 bL=>
 mguard g false (fun k=>m R (o_load 26 g4) bL k) bL fun g5 bM=>
 mguard g false (fun k=>m R (o_call (fv 22) [g2,g3,g5]) bM k) bM fun g6 bN=>
 mguard g false (fun k=>m R (o_un .not g6) bN k) bN fun g7 g8=>
 m R (o_pick g (.bool true) g7) g8 fun Z g9=>
 lB Z g9) fun Z lT bO=>
 mif Z (
 R (.returned (.bool false)) bO) (
 m R (o_fieldAddr 56 T 3) bO fun hA hB=>
 m R (o_load 26 hA) hB fun hC hD=>
 m R (o_indexAddr 41 aF S) hD fun hE hF=>
 m R (o_store 26 hE hC) hF fun _ hG=>
 m R (o_bin .add 3 true aX (.int .i64 1)) hG fun hH hI=>
 aY aE hH hI)) (
 m R (o_fieldAddr 56 p 0) aZ fun hJ hK=>
 m R (o_load 25 hJ) hK fun hL hM=>
 m R (o_store 25 c hL) hM fun _ hN=>
 bQ hN))) fun lW hO=>
 m R (o_bin .add 3 true aI (.int .i64 1)) hO fun lC hP=>
 bP lC hP) (
 R (.returned (.bool true)) bR))
def P_(k:Nat):Nat:=2^k
def A_bevylaw09_ClimbMeets:Ann:=⟨[(8,[8],P_ 302+P_ 35+P_ 2-P_ 57-P_ 8),(21,[16],P_ 109+P_ 16-P_ 99),(49,[27,29],P_ 300+P_ 35+P_ 27+P_ 2-P_ 198-P_ 29),(57,[34],P_ 233+P_ 34-P_ 220)],[(2,[41],4363686772736),(9,[],P_ 302+P_ 35+P_ 2-P_ 63-P_ 9),(43,[14,16],P_ 174+P_ 25+P_ 14+P_ 2-P_ 94-P_ 16),(22,[],P_ 107-P_ 99),(25,[17,18,19],P_ 121+P_ 20-P_ 111-P_ 17),(31,[20,21],P_ 139+P_ 22-P_ 131-P_ 20),(39,[23,24],P_ 160+P_ 25-P_ 152-P_ 23),(62,[27],P_ 270+P_ 35+P_ 27-P_ 212-P_ 33),(63,[295],P_ 296-P_ 270)],[(42,[⟨0,.q none,4096,0,P_ 163⟩,⟨1,.q none,4194304,0,P_ 164⟩,⟨2,.q none,P_ 164,2,P_ 165⟩,⟨3,.q (some 0),32768,0,P_ 166⟩,⟨4,.q none,P_ 167-P_ 165,14,P_ 167⟩,⟨5,.f 0 true,P_ 167,30,P_ 168⟩,⟨6,.q none,4096,0,P_ 169⟩,⟨7,.q none,P_ 169+P_ 7,64,P_ 170⟩,⟨8,.q (some 0),P_ 170,192,P_ 171⟩,⟨9,.f 1 false,P_ 171+P_ 168,510,P_ 172⟩,⟨10,.q none,P_ 163+P_ 7,1023,P_ 173⟩,⟨11,.f 2 false,P_ 174-P_ 172,2047,0⟩]),(57,[⟨0,.q none,P_ 33,0,P_ 220⟩,⟨1,.q none,P_ 34,0,P_ 221⟩,⟨2,.q none,P_ 222-P_ 220,3,P_ 222⟩,⟨3,.q (some 0),P_ 222,7,P_ 223⟩,⟨4,.q none,8192,0,P_ 224⟩,⟨5,.q (some 0),P_ 224,16,P_ 225⟩,⟨6,.q none,P_ 225,48,P_ 226⟩,⟨7,.q none,33554432,0,P_ 227⟩,⟨8,.q none,P_ 31,0,P_ 228⟩,⟨9,.f 0 true,P_ 229-P_ 226,496,P_ 229⟩,⟨10,.q none,P_ 229+P_ 223,1023,P_ 230⟩]),(59,[⟨0,.q none,67108864,0,P_ 234⟩,⟨1,.q (some 0),P_ 234,1,P_ 235⟩,⟨2,.q none,33554432,0,P_ 236⟩,⟨3,.q none,P_ 31,0,P_ 237⟩,⟨4,.q none,67108864,0,P_ 238⟩,⟨5,.q (some 0),P_ 238,16,P_ 239⟩,⟨6,.q none,P_ 34,0,P_ 240⟩,⟨7,.q none,P_ 241-P_ 239,112,P_ 241⟩,⟨8,.q (some 0),P_ 241,240,P_ 242⟩,⟨9,.q (some 0),32768,0,P_ 243⟩,⟨10,.f 0 false,P_ 244+P_ 238-P_ 242-P_ 235,1023,P_ 244⟩,⟨11,.q none,P_ 244,2047,P_ 233⟩,⟨12,.q none,P_ 233,4095,P_ 245⟩,⟨13,.q none,P_ 233,4095,P_ 246⟩,⟨14,.f 1 false,P_ 245+P_ 32,8191,0⟩,⟨15,.q none,P_ 246,32767,P_ 27⟩]),(61,[⟨0,.q (some 0),8192,0,P_ 251⟩,⟨1,.q none,33554432,0,P_ 252⟩,⟨2,.q none,67108864,0,P_ 253⟩,⟨3,.q none,P_ 253,4,P_ 254⟩,⟨4,.q (some 0),P_ 254,12,P_ 255⟩,⟨5,.q none,33554432,0,P_ 256⟩,⟨6,.q none,P_ 257-P_ 255,60,P_ 257⟩,⟨7,.q none,P_ 257,124,P_ 258⟩,⟨8,.q (some 0),P_ 258,252,P_ 259⟩,⟨9,.q none,67108864,0,P_ 260⟩,⟨10,.q (some 0),P_ 260,512,P_ 261⟩,⟨11,.q none,16384,0,P_ 262⟩,⟨12,.q none,P_ 31,0,P_ 263⟩,⟨13,.q none,P_ 30,0,P_ 264⟩,⟨14,.q none,P_ 264+P_ 7,8192,P_ 265⟩,⟨15,.q (some 0),P_ 265,24576,P_ 266⟩,⟨16,.f 0 false,P_ 266+P_ 264+P_ 259+P_ 253-P_ 261-P_ 251,65535,P_ 267⟩,⟨17,.q none,P_ 267,131071,P_ 250⟩,⟨18,.q none,P_ 250,262143,P_ 268⟩,⟨19,.q none,P_ 250,262143,P_ 269⟩,⟨20,.f 1 false,P_ 268+P_ 32,524287,0⟩,⟨21,.q none,P_ 269,2097151,P_ 27⟩])],[(24,[⟨[0,1,2,3,4,5,6,7,8,9,10,11,12,13],[⟨0,.q (some 0),16,0,P_ 112⟩,⟨1,.q none,65536,0,P_ 113⟩,⟨2,.q (some 0),32768,0,P_ 114⟩,⟨3,.f 0 true,P_ 114,4,P_ 115⟩,⟨4,.q none,P_ 115+P_ 113,14,P_ 116⟩,⟨5,.f 1 false,P_ 116+P_ 112,31,P_ 117⟩,⟨6,.q none,P_ 117,63,P_ 111⟩,⟨7,.q none,P_ 111,127,P_ 118⟩,⟨8,.q none,P_ 111,127,P_ 119⟩,⟨9,.q none,P_ 111,127,P_ 120⟩,⟨10,.f 2 true,0,0,131072⟩,⟨11,.f 3 false,P_ 118+P_ 17,1279,0⟩,⟨12,.q none,P_ 119,3583,262144⟩,⟨13,.q none,P_ 120,8191,524288⟩]⟩,⟨[0,1,2,3,4,10,5,6,7,8,9,11,12,13],[⟨0,.q (some 0),16,0,P_ 112⟩,⟨1,.q none,65536,0,P_ 113⟩,⟨2,.q (some 0),32768,0,P_ 114⟩,⟨3,.f 0 true,P_ 114,4,P_ 115⟩,⟨4,.q none,P_ 115+P_ 113,14,P_ 116⟩,⟨5,.f 2 false,P_ 116+P_ 112,31,P_ 117⟩,⟨6,.q none,P_ 117,63,P_ 111⟩,⟨7,.q none,P_ 111,127,P_ 118⟩,⟨8,.q none,P_ 111,127,P_ 119⟩,⟨9,.q none,P_ 111,127,P_ 120⟩,⟨10,.f 1 true,0,0,131072⟩,⟨11,.f 3 false,P_ 118+P_ 17,1279,0⟩,⟨12,.q none,P_ 119,3583,262144⟩,⟨13,.q none,P_ 120,8191,524288⟩]⟩,⟨[0,1,2,10,3,4,5,6,7,8,9,11,12,13],[⟨0,.q (some 0),16,0,P_ 112⟩,⟨1,.q none,65536,0,P_ 113⟩,⟨2,.q (some 0),32768,0,P_ 114⟩,⟨3,.f 1 true,P_ 114,4,P_ 115⟩,⟨4,.q none,P_ 115+P_ 113,14,P_ 116⟩,⟨5,.f 2 false,P_ 116+P_ 112,31,P_ 117⟩,⟨6,.q none,P_ 117,63,P_ 111⟩,⟨7,.q none,P_ 111,127,P_ 118⟩,⟨8,.q none,P_ 111,127,P_ 119⟩,⟨9,.q none,P_ 111,127,P_ 120⟩,⟨10,.f 0 true,0,0,131072⟩,⟨11,.f 3 false,P_ 118+P_ 17,1279,0⟩,⟨12,.q none,P_ 119,3583,262144⟩,⟨13,.q none,P_ 120,8191,524288⟩]⟩]),(30,[⟨[0,1,2,3,4,5,6,7,8,9,10],[⟨0,.q (some 0),16,0,P_ 132⟩,⟨1,.q (some 0),16,0,P_ 133⟩,⟨2,.q none,4096,0,P_ 134⟩,⟨3,.f 0 true,P_ 135-P_ 133,6,P_ 135⟩,⟨4,.f 1 false,P_ 135+P_ 132,15,P_ 136⟩,⟨5,.q none,P_ 136,31,P_ 131⟩,⟨6,.q none,P_ 131,63,P_ 137⟩,⟨7,.q none,P_ 131,63,P_ 138⟩,⟨8,.f 2 true,0,0,1048576⟩,⟨9,.f 3 false,P_ 137+P_ 20,383,0⟩,⟨10,.q none,P_ 138,1023,2097152⟩]⟩,⟨[0,1,2,3,8,4,5,6,7,9,10],[⟨0,.q (some 0),16,0,P_ 132⟩,⟨1,.q (some 0),16,0,P_ 133⟩,⟨2,.q none,4096,0,P_ 134⟩,⟨3,.f 0 true,P_ 135-P_ 133,6,P_ 135⟩,⟨4,.f 2 false,P_ 135+P_ 132,15,P_ 136⟩,⟨5,.q none,P_ 136,31,P_ 131⟩,⟨6,.q none,P_ 131,63,P_ 137⟩,⟨7,.q none,P_ 131,63,P_ 138⟩,⟨8,.f 1 true,0,0,1048576⟩,⟨9,.f 3 false,P_ 137+P_ 20,383,0⟩,⟨10,.q none,P_ 138,1023,2097152⟩]⟩,⟨[0,1,2,8,3,4,5,6,7,9,10],[⟨0,.q (some 0),16,0,P_ 132⟩,⟨1,.q (some 0),16,0,P_ 133⟩,⟨2,.q none,4096,0,P_ 134⟩,⟨3,.f 1 true,P_ 135-P_ 133,6,P_ 135⟩,⟨4,.f 2 false,P_ 135+P_ 132,15,P_ 136⟩,⟨5,.q none,P_ 136,31,P_ 131⟩,⟨6,.q none,P_ 131,63,P_ 137⟩,⟨7,.q none,P_ 131,63,P_ 138⟩,⟨8,.f 0 true,0,0,1048576⟩,⟨9,.f 3 false,P_ 137+P_ 20,383,0⟩,⟨10,.q none,P_ 138,1023,2097152⟩]⟩]),(38,[⟨[0,1,2,3,4,5,6,7,8,9,10],[⟨0,.q (some 0),16,0,P_ 153⟩,⟨1,.q none,4194304,0,P_ 154⟩,⟨2,.q (some 0),32768,0,P_ 155⟩,⟨3,.f 0 true,P_ 155,4,P_ 156⟩,⟨4,.f 1 false,P_ 157-P_ 155-P_ 153,15,P_ 157⟩,⟨5,.q none,P_ 157,31,P_ 152⟩,⟨6,.q none,P_ 152,63,P_ 158⟩,⟨7,.q none,P_ 152,63,P_ 159⟩,⟨8,.f 2 true,0,0,8388608⟩,⟨9,.f 3 false,P_ 158+P_ 23,383,0⟩,⟨10,.q none,P_ 159,1023,16777216⟩]⟩,⟨[0,1,2,3,8,4,5,6,7,9,10],[⟨0,.q (some 0),16,0,P_ 153⟩,⟨1,.q none,4194304,0,P_ 154⟩,⟨2,.q (some 0),32768,0,P_ 155⟩,⟨3,.f 0 true,P_ 155,4,P_ 156⟩,⟨4,.f 2 false,P_ 157-P_ 155-P_ 153,15,P_ 157⟩,⟨5,.q none,P_ 157,31,P_ 152⟩,⟨6,.q none,P_ 152,63,P_ 158⟩,⟨7,.q none,P_ 152,63,P_ 159⟩,⟨8,.f 1 true,0,0,8388608⟩,⟨9,.f 3 false,P_ 158+P_ 23,383,0⟩,⟨10,.q none,P_ 159,1023,16777216⟩]⟩,⟨[0,1,2,8,3,4,5,6,7,9,10],[⟨0,.q (some 0),16,0,P_ 153⟩,⟨1,.q none,4194304,0,P_ 154⟩,⟨2,.q (some 0),32768,0,P_ 155⟩,⟨3,.f 1 true,P_ 155,4,P_ 156⟩,⟨4,.f 2 false,P_ 157-P_ 155-P_ 153,15,P_ 157⟩,⟨5,.q none,P_ 157,31,P_ 152⟩,⟨6,.q none,P_ 152,63,P_ 158⟩,⟨7,.q none,P_ 152,63,P_ 159⟩,⟨8,.f 0 true,0,0,8388608⟩,⟨9,.f 3 false,P_ 158+P_ 23,383,0⟩,⟨10,.q none,P_ 159,1023,16777216⟩]⟩])],[]⟩
theorem cc(A:Ann) (args:List Value) {f:FuncId} {fn:Func} {w:World} {R:Ending→World→Prop} {Q:Prop} (hf:Tryz.prog.funcs[f]?=some fn) (h:Q) (hb:fn.body=some (fn.body.getD .skip):=by kernel_rfl) (hn:Nat.ble args.length fn.ntmps=true:=by kernel_rfl) (hok:codeOk fn.ntmps A (fn.body.getD .skip)=true:=by kernel_rfl) (he:cwp Tryz.prog A (fn.body.getD .skip) (retPost Tryz.prog fn.results.toList R) (argE args) w=Q:=by kernel_rfl):Calls Tryz.prog f args.toArray w R:=
 calls_cwp (A:=A) (args:=args) mixed hf hb hn hok (Eq.mpr he h)
variable {x0 x1 x2 x3 x4 x5 x6 x7 x8 x9:Value} {w:World} {R:Ending→World→Prop}
theorem C_bevylaw09_ClimbMeets (h:F_bevylaw09_ClimbMeets x0 w R):Calls Tryz.prog 4 #[x0] w R:=cc A_bevylaw09_ClimbMeets [x0] Tryz.func4 h
def F_bevylaw09_awake (w:World) (R:Ending→World→Prop):Prop:=
 m R (o_build 34 [(0,(.int .u8 7))]) w fun b3 b4=>
 m R (o_alloc 34) b4 fun z b5=>
 m R (o_store 34 z b3) b5 fun _ b6=>
 m R (o_build 40 [(0,(.int .i64 1))]) b6 fun b7 b8=>
 m R (o_load 34 z) b8 fun b9 cA=>
 m R (o_call (fv 23) [b9]) cA fun cB cC=>
 m R (o_build 40 [(0,(.int .i64 2)),(1,cB)]) cC fun aB cD=>
 m R (o_buildSlice 22 2 [(0,b7),(1,aB)]) cD fun aC cE=>
 m R (o_build 69 []) cE fun aD cF=>
 m R (o_buildSlice 23 1 [(0,aD)]) cF fun aE aF=>
 m R (o_build 25 [(0,aC),(1,aE)]) aF fun aG aH=>
 m R (o_alloc 25) aH fun A aI=>
 m R (o_store 25 A aG) aI fun _ aJ=>
 m R (o_load 25 A) aJ fun aK aL=>
 m R (o_build 34 [(0,(.int .u8 9))]) aL fun aM aN=>
 m R (o_call (fv 16) [(.pointer none),aK,(.int .i64 0),aM,(.string (ByteArray.mk #[])),(.slice none 0 0)]) aN fun C aO=>
 m R (o_extract C 0) aO fun aP aQ=>
 m R (o_extract C 1) aQ fun aR aS=>
 m R (o_alloc 56) aS fun d aT=>
 m R (o_store 56 d aP) aT fun _ aU=>
 mj1 (fun cG=>
 m R (o_bin .neq 35 true aR (.int .i64 0)) aU fun h D=>
 mguard h false (fun k=>m R (o_fieldAddr 56 d 1) D k) D fun aV E=>
 mguard h false (fun k=>m R (o_load 53 aV) E k) E fun aW F=>
 mguard h false (fun k=>m R (o_builtin .len #[53] 3 [false] [aW]) F k) F fun aX G=>
 mguard h false (fun k=>m R (o_bin .neq 3 true aX (.int .i64 1)) G k) G fun aY aZ=>
 m R (o_pick h (.bool true) aY) aZ fun b H=>
 mguard b false (fun k=>m R (o_fieldAddr 56 d 1) H k) H fun a0 I=>
 mguard b false (fun k=>m R (o_load 53 a0) I k) I fun a1 J=>
 mguard b false (fun k=>m R (o_indexAddr 53 a1 (.int .i64 0)) J k) J fun a2 K=>
 mguard b false (fun k=>m R (o_fieldAddr 72 a2 1) K k) K fun a3 L=>
 mguard b false (fun k=>m R (o_load 70 a3) L k) L fun a4 M=>
 mguard b false (fun k=>m R (o_builtin .len #[70] 3 [false] [a4]) M k) M fun a5 N=>
 mguard b false (fun k=>m R (o_bin .neq 3 true a5 (.int .i64 1)) N k) N fun a6 a7=>
 m R (o_pick b (.bool true) a6) a7 fun B a8=>
 cG B a8) fun B cI a=>
 mif B (
 R (.returned (.bool false)) a) (
 mj2 (fun aA=>
 ((
 dq Tryz.prog a (o_load 25 A) fun i=>
 dp Tryz.prog (o_fieldAddr 56 d 0) fun j=>
 dp Tryz.prog (o_fieldAddr 25 j 0) fun l=>
 dq Tryz.prog a (o_load 22 l) fun n=>
 dp Tryz.prog (o_indexAddr 22 n (.int .i64 0)) fun o=>
 dp Tryz.prog (o_fieldAddr 40 o 1) fun p=>
 dq Tryz.prog a (o_load 34 p) fun q=>
 dp Tryz.prog (o_fieldAddr 56 d 1) fun r=>
 dq Tryz.prog a (o_load 53 r) fun s=>
 dq Tryz.prog a (o_load 34 z) fun t=>
 dp Tryz.prog (o_build 43 [(0,(.int .i64 2)),(1,t)]) fun u=>
 df Tryz.prog a (o_buildSlice 26 1 [(0,u)]) true fun v a9=>
 df Tryz.prog a9 (o_call (fv 20) [(.pointer none),i,(.int .i64 0),q,s,(.string (ByteArray.mk #[])),(.slice none 0 0),(.int .i64 1),v]) false fun c bA=>
 dp Tryz.prog (o_extract c 0) fun x=>
 dp Tryz.prog (o_extract c 1) fun y=>
 df Tryz.prog bA (o_alloc 56) true fun e bB=>
 df Tryz.prog bB (o_store 56 e x) false fun _ bC=>
 dend bC fun bD=>
 aA y e bD)∧(
 dq Tryz.prog a (o_load 25 A) fun i=>
 dp Tryz.prog (o_fieldAddr 56 d 0) fun j=>
 dp Tryz.prog (o_fieldAddr 25 j 0) fun l=>
 dq Tryz.prog a (o_load 22 l) fun n=>
 dp Tryz.prog (o_indexAddr 22 n (.int .i64 0)) fun o=>
 dp Tryz.prog (o_fieldAddr 40 o 1) fun p=>
 dq Tryz.prog a (o_load 34 p) fun q=>
 dp Tryz.prog (o_fieldAddr 56 d 1) fun r=>
 dq Tryz.prog a (o_load 53 r) fun s=>
 dq Tryz.prog a (o_load 34 z) fun t=>
 dp Tryz.prog (o_build 43 [(0,(.int .i64 2)),(1,t)]) fun u=>
 df Tryz.prog a (o_buildSlice 26 1 [(0,u)]) true fun v bE=>
 df Tryz.prog bE (o_alloc 56) true fun e bF=>
 df Tryz.prog bF (o_call (fv 20) [(.pointer none),i,(.int .i64 0),q,s,(.string (ByteArray.mk #[])),(.slice none 0 0),(.int .i64 1),v]) false fun c bG=>
 dp Tryz.prog (o_extract c 0) fun x=>
 dp Tryz.prog (o_extract c 1) fun y=>
 df Tryz.prog bG (o_store 56 e x) false fun _ bH=>
 dend bH fun bI=>
 aA y e bI)∧(
 dq Tryz.prog a (o_load 25 A) fun i=>
 dp Tryz.prog (o_fieldAddr 56 d 0) fun j=>
 dp Tryz.prog (o_fieldAddr 25 j 0) fun l=>
 dq Tryz.prog a (o_load 22 l) fun n=>
 dp Tryz.prog (o_indexAddr 22 n (.int .i64 0)) fun o=>
 dp Tryz.prog (o_fieldAddr 40 o 1) fun p=>
 dq Tryz.prog a (o_load 34 p) fun q=>
 dp Tryz.prog (o_fieldAddr 56 d 1) fun r=>
 dq Tryz.prog a (o_load 53 r) fun s=>
 dq Tryz.prog a (o_load 34 z) fun t=>
 dp Tryz.prog (o_build 43 [(0,(.int .i64 2)),(1,t)]) fun u=>
 df Tryz.prog a (o_alloc 56) true fun e bJ=>
 df Tryz.prog bJ (o_buildSlice 26 1 [(0,u)]) true fun v bK=>
 df Tryz.prog bK (o_call (fv 20) [(.pointer none),i,(.int .i64 0),q,s,(.string (ByteArray.mk #[])),(.slice none 0 0),(.int .i64 1),v]) false fun c bL=>
 dp Tryz.prog (o_extract c 0) fun x=>
 dp Tryz.prog (o_extract c 1) fun y=>
 df Tryz.prog bL (o_store 56 e x) false fun _ bM=>
 dend bM fun bN=>
 aA y e bN))) fun cH e cJ bO=>
 m R (o_bin .eql 35 true cH (.int .i64 0)) bO fun f O=>
 mguard f true (fun k=>m R (o_fieldAddr 56 e 4) O k) O fun bP Q=>
 mguard f true (fun k=>m R (o_load 34 bP) Q k) Q fun bQ S=>
 mguard f true (fun k=>m R (o_fieldAddr 56 d 4) S k) S fun bR T=>
 mguard f true (fun k=>m R (o_load 34 bR) T k) T fun bS U=>
 mguard f true (fun k=>m R (o_bin .eql 34 false bQ bS) U k) U fun bT bU=>
 m R (o_pick f bT (.bool false)) bU fun g V=>
 mguard g true (fun k=>m R (o_fieldAddr 56 e 0) V k) V fun bV W=>
 mguard g true (fun k=>m R (o_load 25 bV) W k) W fun bW X=>
 mguard g true (fun k=>m R (o_fieldAddr 56 d 0) X k) X fun bX Y=>
 mguard g true (fun k=>m R (o_load 25 bX) Y k) Y fun bY Z=>
 mguard g true (fun k=>m R (o_call (fv 21) [bW,bY]) Z k) Z fun bZ b0=>
 m R (o_pick g bZ (.bool false)) b0 fun b1 b2=>
 R (.returned b1) b2)
def A_bevylaw09_awake:Ann:=⟨[],[(5,[37],274875809792),(7,[4,5],18014123631575088)],[],[(6,[⟨[0,1,2,3,4,5,6,7,8,9,10,11,12,13,14,15,16,17,18],[⟨0,.q (some 0),4,0,P_ 39⟩,⟨1,.q none,8,0,P_ 40⟩,⟨2,.q none,P_ 40,2,P_ 41⟩,⟨3,.q (some 0),P_ 41,6,P_ 42⟩,⟨4,.q none,P_ 42,14,P_ 43⟩,⟨5,.q none,P_ 43,30,P_ 44⟩,⟨6,.q (some 0),P_ 44,62,P_ 45⟩,⟨7,.q none,8,0,P_ 46⟩,⟨8,.q (some 0),P_ 46,128,P_ 47⟩,⟨9,.q (some 0),2,0,P_ 48⟩,⟨10,.q none,P_ 48,512,P_ 49⟩,⟨11,.f 0 true,P_ 49,1536,P_ 50⟩,⟨12,.f 1 false,1302371523100672,4095,P_ 51⟩,⟨13,.q none,P_ 51,8191,P_ 38⟩,⟨14,.q none,P_ 38,16383,P_ 52⟩,⟨15,.q none,P_ 38,16383,P_ 53⟩,⟨16,.f 2 true,0,0,32⟩,⟨17,.f 3 false,P_ 52+P_ 5,98303,0⟩,⟨18,.q none,P_ 53,262143,16⟩]⟩,⟨[0,1,2,3,4,5,6,7,8,9,10,11,16,12,13,14,15,17,18],[⟨0,.q (some 0),4,0,P_ 39⟩,⟨1,.q none,8,0,P_ 40⟩,⟨2,.q none,P_ 40,2,P_ 41⟩,⟨3,.q (some 0),P_ 41,6,P_ 42⟩,⟨4,.q none,P_ 42,14,P_ 43⟩,⟨5,.q none,P_ 43,30,P_ 44⟩,⟨6,.q (some 0),P_ 44,62,P_ 45⟩,⟨7,.q none,8,0,P_ 46⟩,⟨8,.q (some 0),P_ 46,128,P_ 47⟩,⟨9,.q (some 0),2,0,P_ 48⟩,⟨10,.q none,P_ 48,512,P_ 49⟩,⟨11,.f 0 true,P_ 49,1536,P_ 50⟩,⟨12,.f 2 false,1302371523100672,4095,P_ 51⟩,⟨13,.q none,P_ 51,8191,P_ 38⟩,⟨14,.q none,P_ 38,16383,P_ 52⟩,⟨15,.q none,P_ 38,16383,P_ 53⟩,⟨16,.f 1 true,0,0,32⟩,⟨17,.f 3 false,P_ 52+P_ 5,98303,0⟩,⟨18,.q none,P_ 53,262143,16⟩]⟩,⟨[0,1,2,3,4,5,6,7,8,9,10,16,11,12,13,14,15,17,18],[⟨0,.q (some 0),4,0,P_ 39⟩,⟨1,.q none,8,0,P_ 40⟩,⟨2,.q none,P_ 40,2,P_ 41⟩,⟨3,.q (some 0),P_ 41,6,P_ 42⟩,⟨4,.q none,P_ 42,14,P_ 43⟩,⟨5,.q none,P_ 43,30,P_ 44⟩,⟨6,.q (some 0),P_ 44,62,P_ 45⟩,⟨7,.q none,8,0,P_ 46⟩,⟨8,.q (some 0),P_ 46,128,P_ 47⟩,⟨9,.q (some 0),2,0,P_ 48⟩,⟨10,.q none,P_ 48,512,P_ 49⟩,⟨11,.f 1 true,P_ 49,1536,P_ 50⟩,⟨12,.f 2 false,1302371523100672,4095,P_ 51⟩,⟨13,.q none,P_ 51,8191,P_ 38⟩,⟨14,.q none,P_ 38,16383,P_ 52⟩,⟨15,.q none,P_ 38,16383,P_ 53⟩,⟨16,.f 0 true,0,0,32⟩,⟨17,.f 3 false,P_ 52+P_ 5,98303,0⟩,⟨18,.q none,P_ 53,262143,16⟩]⟩])],[]⟩
theorem C_bevylaw09_awake (h:F_bevylaw09_awake w R):Calls Tryz.prog 5 #[] w R:=cc A_bevylaw09_awake [] Tryz.func5 h
def F_climb_Keep (a6 y:Value) (w:World) (R:Ending→World→Prop):Prop:=
 m R (o_box 25 a6) w fun x a7=>
 m R (o_load 25 x) a7 fun z a8=>
 m R (o_call (fv 24) [z]) a8 fun A a9=>
 m R (o_un .not A) a9 fun B C=>
 mif B (
 R (.returned (.slice none 0 0)) C) (
 m R (o_builtin .len #[26] 3 [false] [y]) C fun D bA=>
 ml2 (.slice none 0 0) (.int .i64 0) bA fun d f bH bB i=>
 m R (o_bin .lss 3 false f D) bB fun E F=>
 mif E (
 mj1 (fun g=>
 m R (o_indexAddr 26 y f) F fun G bC=>
 m R (o_load 43 G) bC fun H bD=>
 m R (o_alloc 43) bD fun e I=>
 m R (o_store 43 e H) I fun _ J=>
 mj0 (fun bE=>
 m R (o_fieldAddr 43 e 0) J fun K L=>
 m R (o_load 3 K) L fun M N=>
 m R (o_bin .lss 3 true M (.int .i64 0)) N fun a j=>
 mguard a false (fun k=>m R (o_fieldAddr 43 e 0) j k) j fun O l=>
 mguard a false (fun k=>m R (o_load 3 O) l k) l fun Q n=>
 mguard a false (fun k=>m R (o_fieldAddr 25 x 0) n k) n fun S o=>
 mguard a false (fun k=>m R (o_load 22 S) o k) o fun T p=>
 mguard a false (fun k=>m R (o_builtin .len #[22] 3 [false] [T]) p k) p fun U q=>
 mguard a false (fun k=>m R (o_bin .mul 3 true (.int .i64 2) U) q k) q fun V r=>
 mguard a false (fun k=>m R (o_bin .sub 3 true V (.int .i64 2)) r k) r fun W s=>
 mguard a false (fun k=>m R (o_bin .gtr 3 false Q W) s k) s fun X Y=>
 m R (o_pick a (.bool true) X) Y fun Z t=>
 mif Z (
 g d t) (
 bE t)) fun bI aA=>
 m R (o_load 25 x) aA fun aB aC=>
 m R (o_fieldAddr 43 e 0) aC fun aD aE=>
 m R (o_load 3 aD) aE fun aF aG=>
 m R (o_call (fv 25) [aB,aF]) aG fun u aH=>
 m R (o_extract u 0) aH fun aI aJ=>
 m R (o_extract u 1) aJ fun b aK=>
 m R (o_alloc 34) aK fun aL aM=>
 m R (o_store 34 aL aI) aM fun _ c=>
 mj1 (fun aN=>
 qguard b true (fun k=>dp Tryz.prog (o_fieldAddr 43 e 1) k) fun aO=>
 qguard b true (fun k=>dq Tryz.prog c (o_load 34 aO) k) fun aP=>
 mguard b true (fun k=>df Tryz.prog c (o_call (fv 11) [(.pointer none),aP]) true k) c fun aQ aR=>
 qguard b true (fun k=>dq Tryz.prog c (o_load 34 aL) k) fun aS=>
 qguard b true (fun k=>dp Tryz.prog (o_bin .eql 34 false aQ aS) k) fun aT=>
 dp Tryz.prog (o_pick b aT (.bool false)) fun h=>
 dend aR fun aU=>
 aN h aU) fun h bF v=>
 mif h (
 m R (o_load 43 e) v fun aV aW=>
 m R (o_buildSlice 26 1 [(0,aV)]) aW fun aX aY=>
 m R (o_builtin .append #[26,26] 26 [false,false] [d,aX]) aY fun aZ a0=>
 g aZ a0) (
 g d v)) fun d bG a1=>
 m R (o_bin .add 3 true f (.int .i64 1)) a1 fun a2 a3=>
 i d a2 a3) (
 m R (o_call (fv 26) [d]) F fun a4 a5=>
 R (.returned a4) a5))
def A_climb_Keep:Ann:=⟨[(5,[5,15],4503599627338656)],[(11,[5],2251799813555104),(8,[],4294443008),(10,[46],P_ 47-P_ 39)],[(9,[⟨0,.q none,512,0,P_ 39⟩,⟨1,.q none,P_ 39,1,P_ 40⟩,⟨2,.q none,P_ 40+P_ 7,3,P_ 41⟩,⟨3,.q (some 0),3298534883328,7,P_ 42⟩,⟨4,.f 0 true,5497558138880,15,P_ 43⟩,⟨5,.q (some 0),P_ 40+P_ 8,3,P_ 44⟩,⟨6,.q none,27487790694400,63,P_ 45⟩,⟨7,.q none,P_ 45+P_ 40,127,P_ 46⟩])],[],[]⟩
theorem C_climb_Keep (h:F_climb_Keep x0 x1 w R):Calls Tryz.prog 8 #[x0,x1] w R:=cc A_climb_Keep [x0,x1] Tryz.func8 h
def F_tree_Add (dU dV:Value) (w:World) (R:Ending→World→Prop):Prop:=
 m R (o_box 25 dU) w fun a dW=>
 m R (o_box 40 dV) dW fun l dX=>
 m R (o_alloc 25) dX fun b dY=>
 mj1 (fun dZ=>
 m R (o_load 25 a) dY fun Q d0=>
 m R (o_call (fv 24) [Q]) d0 fun S d1=>
 m R (o_un .not S) d1 fun d T=>
 mguard d false (fun k=>m R (o_fieldAddr 40 l 0) T k) T fun U V=>
 mguard d false (fun k=>m R (o_load 3 U) V k) V fun W X=>
 mguard d false (fun k=>m R (o_bin .lss 3 true W (.int .i64 1)) X k) X fun Y d2=>
 m R (o_pick d (.bool true) Y) d2 fun e n=>
 mguard e false (fun k=>m R (o_fieldAddr 40 l 0) n k) n fun Z o=>
 mguard e false (fun k=>m R (o_load 3 Z) o k) o fun aA p=>
 mguard e false (fun k=>m R (o_bin .gtr 3 true aA (.int .i64 64)) p k) p fun aB aC=>
 m R (o_pick e (.bool true) aB) aC fun aD aE=>
 dZ aD aE) fun aF d8 q=>
 mif aF (
 m R (o_build 25 []) q fun aG aH=>
 m R (o_store 25 b aG) aH fun _ r=>
 rcell Tryz.prog 25 b r fun c=>
 R (.returned (.tuple #[c,(.int .i64 0),(.int .i64 1)])) r) (
 m R (o_load 25 a) q fun aI aJ=>
 m R (o_fieldAddr 40 l 0) aJ fun aK aL=>
 m R (o_load 3 aK) aL fun aM aN=>
 m R (o_call (fv 13) [aI,aM]) aN fun aO aP=>
 m R (o_bin .geq 3 true aO (.int .i64 0)) aP fun aQ s=>
 mif aQ (
 m R (o_build 25 []) s fun aR aS=>
 m R (o_store 25 b aR) aS fun _ t=>
 rcell Tryz.prog 25 b t fun c=>
 R (.returned (.tuple #[c,(.int .i64 0),(.int .i64 8)])) t) (
 m R (o_load 25 a) s fun aT aU=>
 m R (o_call (fv 30) [aT]) aU fun aV aW=>
 m R (o_store 25 a aV) aW fun _ aX=>
 m R (o_fieldAddr 25 a 0) aX fun aY aZ=>
 m R (o_load 22 aY) aZ fun a0 a1=>
 m R (o_build 40 []) a1 fun a2 a3=>
 m R (o_call (fv 31) [a0,a2]) a3 fun u a4=>
 mj1 (fun v=>
 m R (o_bin .lss 3 true u (.int .i64 0)) a4 fun a5 x=>
 mif a5 (
 m R (o_fieldAddr 25 a 0) x fun a6 a7=>
 m R (o_load 22 a6) a7 fun a8 a9=>
 m R (o_builtin .len #[22] 3 [false] [a8]) a9 fun g bA=>
 m R (o_bin .eql 3 true g (.int .i64 64)) bA fun bB y=>
 mif bB (
 m R (o_build 25 []) y fun bC bD=>
 m R (o_store 25 b bC) bD fun _ z=>
 rcell Tryz.prog 25 b z fun c=>
 R (.returned (.tuple #[c,(.int .i64 0),(.int .i64 9)])) z) (
 mj0 (fun A=>
 m R (o_bin .gtr 3 true g (.int .i64 0)) y fun bE B=>
 mif bE (
 m R (o_fieldAddr 25 a 1) B fun bF bG=>
 m R (o_load 23 bF) bG fun bH bI=>
 m R (o_build 69 []) bI fun bJ bK=>
 m R (o_buildSlice 23 1 [(0,bJ)]) bK fun bL bM=>
 m R (o_builtin .append #[23,23] 23 [false,false] [bH,bL]) bM fun bN bO=>
 m R (o_fieldAddr 25 a 1) bO fun bP bQ=>
 m R (o_store 23 bP bN) bQ fun _ bR=>
 A bR) (
 A B)) fun d3 bS=>
 m R (o_fieldAddr 25 a 0) bS fun bT bU=>
 m R (o_load 22 bT) bU fun bV bW=>
 m R (o_build 40 []) bW fun bX bY=>
 m R (o_buildSlice 22 1 [(0,bX)]) bY fun bZ b0=>
 m R (o_builtin .append #[22,22] 22 [false,false] [bV,bZ]) b0 fun b1 b2=>
 m R (o_fieldAddr 25 a 0) b2 fun b3 b4=>
 m R (o_store 22 b3 b1) b4 fun _ b5=>
 v g b5)) (
 v u x)) fun h d4 b6=>
 m R (o_fieldAddr 25 a 0) b6 fun b7 b8=>
 m R (o_load 22 b7) b8 fun b9 cA=>
 m R (o_load 40 l) cA fun cB cC=>
 m R (o_indexAddr 22 b9 h) cC fun cD cE=>
 m R (o_store 40 cD cB) cE fun _ cF=>
 m R (o_fieldAddr 25 a 0) cF fun cG cH=>
 m R (o_load 22 cG) cH fun cI cJ=>
 m R (o_builtin .len #[22] 3 [false] [cI]) cJ fun cK cL=>
 m R (o_call (fv 32) [cK,h]) cL fun C cM=>
 m R (o_builtin .len #[47] 3 [false] [C]) cM fun cN cO=>
 ml1 (.int .i64 0) cO fun i d5 cP j=>
 m R (o_bin .lss 3 false i cN) cP fun cQ D=>
 mif cQ (
 mj0 (fun E=>
 m R (o_indexAddr 47 C i) D fun cR cS=>
 m R (o_load 3 cR) cS fun cT cU=>
 m R (o_fieldAddr 25 a 1) cU fun cV cW=>
 m R (o_load 23 cV) cW fun cX cY=>
 m R (o_bin .quo 3 true cT (.int .i64 2)) cY fun cZ c0=>
 m R (o_indexAddr 23 cX cZ) c0 fun f c1=>
 m R (o_nilCheck f) c1 fun c2 c3=>
 m R (o_fieldAddr 69 c2 0) c3 fun c4 c5=>
 m R (o_load 4 c4) c5 fun c6 F=>
 mif c6 (
 m R (o_nilCheck f) F fun c7 c8=>
 m R (o_fieldAddr 69 c7 3) c8 fun c9 dA=>
 m R (o_load 47 c9) dA fun dB dC=>
 m R (o_call (fv 33) [dB,h]) dC fun G dD=>
 m R (o_extract G 0) dD fun dE dF=>
 m R (o_extract G 1) dF fun d6 dG=>
 m R (o_nilCheck f) dG fun dH dI=>
 m R (o_fieldAddr 69 dH 3) dI fun dJ dK=>
 m R (o_load 47 dJ) dK fun I dL=>
 m R (o_buildSlice 47 1 [(0,h)]) dL fun J dM=>
 m R (o_call (fv 34) [I,dE,J]) dM fun K dN=>
 m R (o_nilCheck f) dN fun L dO=>
 m R (o_fieldAddr 69 L 3) dO fun M dP=>
 m R (o_store 47 M K) dP fun _ dQ=>
 E dQ) (
 E F)) fun d7 dR=>
 m R (o_bin .add 3 true i (.int .i64 1)) dR fun N dS=>
 j N dS) (
 m R (o_load 25 a) D fun O dT=>
 m R (o_store 25 b O) dT fun _ H=>
 rcell Tryz.prog 25 b H fun c=>
 R (.returned (.tuple #[c,h,(.int .i64 0)])) H)))
def A_tree_Add:Ann:=⟨[(16,[74],P_ 108+P_ 13-P_ 74-P_ 9)],[(2,[13],134209536),(14,[7],9223369837831520480),(13,[],P_ 57-P_ 49),(22,[],P_ 107+P_ 13-P_ 76-P_ 9)],[],[],[]⟩
theorem C_tree_Add (h:F_tree_Add x0 x1 w R):Calls Tryz.prog 10 #[x0,x1] w R:=cc A_tree_Add [x0,x1] Tryz.func10 h
def F_prim_Pub (n G:Value) (w:World) (R:Ending→World→Prop):Prop:=
 m R (o_box 34 G) w fun i H=>
 m R (o_alloc 34) H fun p I=>
 m R (o_load 34 i) I fun J K=>
 m R (o_call (fv 35) [J]) K fun L M=>
 m R (o_alloc 34) M fun g N=>
 m R (o_store 34 g L) N fun _ a=>
 mj0 (fun o=>
 ((
 dq Tryz.prog a (o_load 34 i) fun h=>
 dq Tryz.prog a (o_load 34 g) fun b=>
 df Tryz.prog a (o_buildSlice 54 1 [(0,h)]) true fun c O=>
 df Tryz.prog O (o_call (fv 37) [b]) true fun d Q=>
 df Tryz.prog Q (o_buildSlice 54 1 [(0,d)]) true fun e S=>
 dp Tryz.prog (o_build 86 [(0,c),(1,e)]) fun f=>
 df Tryz.prog S (o_call (fv 36) [n,f]) false fun j q=>
 dend q fun r=>
 o r)∧(
 dq Tryz.prog a (o_load 34 i) fun h=>
 dq Tryz.prog a (o_load 34 g) fun b=>
 df Tryz.prog a (o_call (fv 37) [b]) true fun d s=>
 df Tryz.prog s (o_buildSlice 54 1 [(0,h)]) true fun c t=>
 df Tryz.prog t (o_buildSlice 54 1 [(0,d)]) true fun e u=>
 dp Tryz.prog (o_build 86 [(0,c),(1,e)]) fun f=>
 df Tryz.prog u (o_call (fv 36) [n,f]) false fun j v=>
 dend v fun x=>
 o x)∧(
 dq Tryz.prog a (o_load 34 i) fun h=>
 dq Tryz.prog a (o_load 34 g) fun b=>
 df Tryz.prog a (o_call (fv 37) [b]) true fun d y=>
 df Tryz.prog y (o_buildSlice 54 1 [(0,d)]) true fun e z=>
 df Tryz.prog z (o_buildSlice 54 1 [(0,h)]) true fun c A=>
 dp Tryz.prog (o_build 86 [(0,c),(1,e)]) fun f=>
 df Tryz.prog A (o_call (fv 36) [n,f]) false fun j B=>
 dend B fun C=>
 o C))) fun U D=>
 m R (o_load 34 g) D fun E F=>
 m R (o_store 34 p E) F fun _ l=>
 rcell Tryz.prog 34 p l fun T=>
 R (.returned T) l
def A_prim_Pub:Ann:=⟨[],[(3,[],65280)],[],[(2,[⟨[0,1,3,2,4,5,6,7],[⟨0,.q none,1,0,256⟩,⟨1,.q (some 0),8,0,512⟩,⟨2,.f 0 true,512,2,1024⟩,⟨3,.q (some 0),32,0,2048⟩,⟨4,.f 1 true,2048,8,4096⟩,⟨5,.f 2 true,4096,24,8192⟩,⟨6,.q none,9216,62,16384⟩,⟨7,.f 3 false,16640,127,32768⟩]⟩,⟨[0,1,3,4,2,5,6,7],[⟨0,.q none,1,0,256⟩,⟨1,.q (some 0),8,0,512⟩,⟨2,.f 1 true,512,2,1024⟩,⟨3,.q (some 0),32,0,2048⟩,⟨4,.f 0 true,2048,8,4096⟩,⟨5,.f 2 true,4096,24,8192⟩,⟨6,.q none,9216,62,16384⟩,⟨7,.f 3 false,16640,127,32768⟩]⟩,⟨[0,1,3,4,5,2,6,7],[⟨0,.q none,1,0,256⟩,⟨1,.q (some 0),8,0,512⟩,⟨2,.f 2 true,512,2,1024⟩,⟨3,.q (some 0),32,0,2048⟩,⟨4,.f 0 true,2048,8,4096⟩,⟨5,.f 1 true,4096,24,8192⟩,⟨6,.q none,9216,62,16384⟩,⟨7,.f 3 false,16640,127,32768⟩]⟩])],[]⟩
theorem C_prim_Pub (h:F_prim_Pub x0 x1 w R):Calls Tryz.prog 11 #[x0,x1] w R:=cc A_prim_Pub [x0,x1] Tryz.func11 h
def F_tree_Names (H:Value) (w:World) (R:Ending→World→Prop):Prop:=
 m R (o_box 25 H) w fun I J=>
 m R (o_load 25 I) J fun K L=>
 m R (o_call (fv 38) [K]) L fun M N=>
 m R (o_field 25 M 0) N fun f O=>
 m R (o_builtin .len #[22] 3 [false] [f]) O fun Q S=>
 ml2 (.slice none 0 0) (.int .i64 0) S fun a b X T c=>
 m R (o_bin .lss 3 false b Q) T fun g h=>
 mif g (
 mj1 (fun i=>
 m R (o_indexAddr 22 f b) h fun j U=>
 m R (o_load 40 j) U fun l V=>
 m R (o_alloc 40) V fun e n=>
 m R (o_store 40 e l) n fun _ o=>
 m R (o_fieldAddr 40 e 0) o fun p q=>
 m R (o_load 3 p) q fun r s=>
 m R (o_bin .gtr 3 true r (.int .i64 0)) s fun t d=>
 mif t (
 m R (o_fieldAddr 40 e 0) d fun u v=>
 m R (o_load 3 u) v fun x y=>
 m R (o_buildSlice 47 1 [(0,x)]) y fun z A=>
 m R (o_builtin .append #[47,47] 47 [false,false] [a,z]) A fun B C=>
 i B C) (
 i a d)) fun a Y D=>
 m R (o_bin .add 3 true b (.int .i64 1)) D fun E F=>
 c a E F) (
 m R (o_call (fv 39) [a]) h fun W G=>
 R (.returned a) G)
def A_tree_Names:Ann:=⟨[(3,[3,10],8387624)],[(7,[3],4190248)],[],[],[]⟩
theorem C_tree_Names (h:F_tree_Names x0 w R):Calls Tryz.prog 12 #[x0] w R:=cc A_tree_Names [x0] Tryz.func12 h
def F_tree_Place (e f:Value) (w:World) (R:Ending→World→Prop):Prop:=
 m R (o_box 25 e) w fun g h=>
 m R (o_box 3 f) h fun a i=>
 m R (o_load 3 a) i fun j l=>
 m R (o_bin .lss 3 true j (.int .i64 1)) l fun n b=>
 mif n (
 R (.returned (.int .i64 (-1))) b) (
 m R (o_load 25 g) b fun o p=>
 m R (o_call (fv 38) [o]) p fun q r=>
 m R (o_field 25 q 0) r fun s t=>
 m R (o_func (.func 41) [] [a]) t fun c u=>
 m R (o_call (fv 40) [s,c]) u fun d v=>
 R (.returned d) v)
def A_tree_Place:Ann:=⟨[],[],[],[],[]⟩
theorem C_tree_Place (h:F_tree_Place x0 x1 w R):Calls Tryz.prog 13 #[x0,x1] w R:=cc A_tree_Place [x0,x1] Tryz.func13 h
def F_tree_Remove (a7 t:Value) (w:World) (R:Ending→World→Prop):Prop:=
 m R (o_box 25 a7) w fun b a8=>
 m R (o_alloc 25) a8 fun d a9=>
 m R (o_load 25 b) a9 fun bA bB=>
 m R (o_call (fv 24) [bA]) bB fun bC bD=>
 m R (o_un .not bC) bD fun u v=>
 mif u (
 m R (o_build 25 []) v fun x bE=>
 m R (o_store 25 d x) bE fun _ y=>
 rcell Tryz.prog 25 d y fun e=>
 R (.returned (.tuple #[e,(.int .i64 1)])) y) (
 m R (o_load 25 b) v fun z bF=>
 m R (o_call (fv 42) [z,t]) bF fun A B=>
 mif A (
 m R (o_build 25 []) B fun C D=>
 m R (o_store 25 d C) D fun _ h=>
 rcell Tryz.prog 25 d h fun e=>
 R (.returned (.tuple #[e,(.int .i64 7)])) h) (
 m R (o_load 25 b) B fun E F=>
 m R (o_call (fv 30) [E]) F fun G H=>
 m R (o_store 25 b G) H fun _ I=>
 m R (o_fieldAddr 25 b 0) I fun J K=>
 m R (o_load 22 J) K fun L M=>
 m R (o_build 40 []) M fun N O=>
 m R (o_indexAddr 22 L t) O fun Q S=>
 m R (o_store 40 Q N) S fun _ T=>
 m R (o_load 25 b) T fun U V=>
 m R (o_call (fv 43) [U,t]) V fun bG W=>
 m R (o_fieldAddr 25 b 0) W fun X Y=>
 m R (o_load 22 X) Y fun Z aA=>
 m R (o_builtin .len #[22] 3 [false] [Z]) aA fun aB aC=>
 ml1 aB aC fun f bI aD g=>
 mj0 (fun aE=>
 m R (o_bin .gtr 3 true f (.int .i64 0)) aD fun a i=>
 mguard a true (fun k=>m R (o_fieldAddr 25 b 0) i k) i fun aF j=>
 mguard a true (fun k=>m R (o_load 22 aF) j k) j fun aG l=>
 mguard a true (fun k=>m R (o_move f) l k) l fun aH n=>
 mguard a true (fun k=>m R (o_bin .sub 3 true aH (.int .i64 1)) n k) n fun aI o=>
 mguard a true (fun k=>m R (o_indexAddr 22 aG aI) o k) o fun aJ p=>
 mguard a true (fun k=>m R (o_fieldAddr 40 aJ 0) p k) p fun aK q=>
 mguard a true (fun k=>m R (o_load 3 aK) q k) q fun aL r=>
 mguard a true (fun k=>m R (o_bin .eql 3 true aL (.int .i64 0)) r k) r fun aM aN=>
 m R (o_pick a aM (.bool false)) aN fun aO c=>
 mif aO (
 aE c) (
 dp Tryz.prog (o_fieldAddr 25 b 0) fun aP=>
 dq Tryz.prog c (o_load 22 aP) fun aQ=>
 dp Tryz.prog (o_slice 22 aQ none (some f) none) fun aR=>
 dp Tryz.prog (o_fieldAddr 25 b 1) fun aS=>
 dq Tryz.prog c (o_load 23 aS) fun aT=>
 dp Tryz.prog (o_bin .sub 3 true f (.int .i64 1)) fun aU=>
 dp Tryz.prog (o_builtin .max #[3,3] 3 [false,true] [aU,(.int .i64 0)]) fun aV=>
 dp Tryz.prog (o_slice 23 aT none (some aV) none) fun aW=>
 dp Tryz.prog (o_fieldAddr 25 b 0) fun aX=>
 df Tryz.prog c (o_store 22 aX aR) false fun _ aY=>
 dp Tryz.prog (o_fieldAddr 25 b 1) fun aZ=>
 df Tryz.prog aY (o_store 23 aZ aW) false fun _ a0=>
 dend a0 fun a1=>
 m R (o_load 25 b) a1 fun a2 a3=>
 m R (o_store 25 d a2) a3 fun _ s=>
 rcell Tryz.prog 25 d s fun e=>
 R (.returned (.tuple #[e,(.int .i64 0)])) s)) fun bH a4=>
 m R (o_bin .sub 3 true f (.int .i64 1)) a4 fun a5 a6=>
 g a5 a6))
def A_tree_Remove:Ann:=⟨[(9,[6],17591112302656)],[(10,[],4396972769280)],[(11,[⟨0,.q none,4,0,P_ 44⟩,⟨1,.q (some 0),P_ 44,1,P_ 45⟩,⟨2,.q none,64,0,P_ 46⟩,⟨3,.q none,P_ 47-P_ 45,7,P_ 47⟩,⟨4,.q none,4,0,P_ 48⟩,⟨5,.q (some 0),P_ 48,16,P_ 49⟩,⟨6,.q none,64,0,P_ 50⟩,⟨7,.q none,P_ 50,64,P_ 51⟩,⟨8,.q none,P_ 51,192,P_ 52⟩,⟨9,.q none,P_ 52+P_ 49,496,P_ 53⟩,⟨10,.q none,4,63,P_ 54⟩,⟨11,.f 0 false,P_ 54+P_ 47,1087,0⟩,⟨12,.q none,4,4095,P_ 55⟩,⟨13,.f 1 false,P_ 55+P_ 53,8191,0⟩])],[],[]⟩
theorem C_tree_Remove (h:F_tree_Remove x0 x1 w R):Calls Tryz.prog 14 #[x0,x1] w R:=cc A_tree_Remove [x0,x1] Tryz.func14 h
def F_tree_Renew (aB d aC:Value) (w:World) (R:Ending→World→Prop):Prop:=
 m R (o_box 25 aB) w fun a aD=>
 m R (o_box 34 aC) aD fun aE aF=>
 m R (o_alloc 25) aF fun b aG=>
 m R (o_load 25 a) aG fun aH aI=>
 m R (o_call (fv 24) [aH]) aI fun h aJ=>
 m R (o_un .not h) aJ fun i j=>
 mif i (
 m R (o_build 25 []) j fun l aK=>
 m R (o_store 25 b l) aK fun _ n=>
 rcell Tryz.prog 25 b n fun c=>
 R (.returned (.tuple #[c,(.int .i64 1)])) n) (
 m R (o_load 25 a) j fun o aL=>
 m R (o_call (fv 42) [o,d]) aL fun p e=>
 mif p (
 m R (o_build 25 []) e fun q r=>
 m R (o_store 25 b q) r fun _ f=>
 rcell Tryz.prog 25 b f fun c=>
 R (.returned (.tuple #[c,(.int .i64 7)])) f) (
 m R (o_load 25 a) e fun s t=>
 m R (o_call (fv 30) [s]) t fun u v=>
 m R (o_store 25 a u) v fun _ x=>
 m R (o_fieldAddr 25 a 0) x fun y z=>
 m R (o_load 22 y) z fun A B=>
 m R (o_load 34 aE) B fun C D=>
 m R (o_indexAddr 22 A d) D fun E F=>
 m R (o_fieldAddr 40 E 1) F fun G H=>
 m R (o_store 34 G C) H fun _ I=>
 m R (o_fieldAddr 25 a 0) I fun J K=>
 m R (o_load 22 J) K fun L M=>
 m R (o_build 34 []) M fun N O=>
 m R (o_indexAddr 22 L d) O fun Q S=>
 m R (o_fieldAddr 40 Q 3) S fun T U=>
 m R (o_store 34 T N) U fun _ V=>
 m R (o_load 25 a) V fun W X=>
 m R (o_call (fv 43) [W,d]) X fun aM Y=>
 m R (o_load 25 a) Y fun Z aA=>
 m R (o_store 25 b Z) aA fun _ g=>
 rcell Tryz.prog 25 b g fun c=>
 R (.returned (.tuple #[c,(.int .i64 0)])) g))
def A_tree_Renew:Ann:=⟨[],[],[],[],[]⟩
theorem C_tree_Renew (h:F_tree_Renew x0 x1 x2 w R):Calls Tryz.prog 15 #[x0,x1,x2] w R:=cc A_tree_Renew [x0,x1,x2] Tryz.func15 h
def F_climb_Grow (d gA N gB X gC:Value) (w:World) (R:Ending→World→Prop):Prop:=
 m R (o_box 25 gA) w fun W gD=>
 m R (o_box 34 gB) gD fun O gE=>
 m R (o_alloc 56) gE fun I gF=>
 m R (o_load 25 W) gF fun c2 gG=>
 m R (o_call (fv 24) [c2]) gG fun c3 gH=>
 m R (o_un .not c3) gH fun c4 c5=>
 mif c4 (
 m R (o_build 56 []) c5 fun c6 gI=>
 m R (o_store 56 I c6) gI fun _ c7=>
 rcell Tryz.prog 56 I c7 fun J=>
 R (.returned (.tuple #[J,(.int .i64 1)])) c7) (
 m R (o_load 25 W) c5 fun c8 gJ=>
 m R (o_call (fv 44) [c8,N]) gJ fun c9 aI=>
 mif c9 (
 m R (o_build 56 []) aI fun dA dB=>
 m R (o_store 56 I dA) dB fun _ aJ=>
 rcell Tryz.prog 56 I aJ fun J=>
 R (.returned (.tuple #[J,(.int .i64 7)])) aJ) (
 m R (o_builtin .len #[9] 3 [false] [X]) aI fun dC dD=>
 m R (o_bin .gtr 3 true dC (.int .i64 65536)) dD fun dE aK=>
 mif dE (
 m R (o_build 56 []) aK fun dF dG=>
 m R (o_store 56 I dF) dG fun _ aL=>
 rcell Tryz.prog 56 I aL fun J=>
 R (.returned (.tuple #[J,(.int .i64 5)])) aL) (
 m R (o_fieldAddr 25 W 0) aK fun dH dI=>
 m R (o_load 22 dH) dI fun dJ dK=>
 m R (o_builtin .len #[22] 3 [false] [dJ]) dK fun dL dM=>
 m R (o_call (fv 32) [dL,N]) dM fun M e=>
 mj3 (fun Y=>
 ∃ S:Rl,
 ((
 dp Tryz.prog (o_bin .mul 3 true (.int .i64 2) N) fun y=>
 dqS Tryz.prog S e (o_load 34 O) fun z=>
 dfS Tryz.prog S e (o_buildSlice 47 1 [(0,y)]) true fun A dN=>
 dfS Tryz.prog S dN (o_builtin .append #[47,47] 47 [false,false] [A,M]) true fun B dO=>
 dfS Tryz.prog S dO (o_call (fv 46) [d,z,(.string (ByteArray.mk #[108,101,97,102])),(.string (ByteArray.mk #[]))]) false fun C dP=>
 dfS Tryz.prog S dP (o_call (fv 45) [d,B,C]) false fun b dQ=>
 dp Tryz.prog (o_extract b 0) fun D=>
 dp Tryz.prog (o_extract b 1) fun E=>
 dp Tryz.prog (o_extract b 2) fun F=>
 dfS Tryz.prog S dQ (o_alloc 34) true fun c dR=>
 dfS Tryz.prog S dR (o_store 34 c F) false fun _ dS=>
 dend dS fun dT=>
 Y D E c dT)∧(
 dp Tryz.prog (o_bin .mul 3 true (.int .i64 2) N) fun y=>
 dqS Tryz.prog S e (o_load 34 O) fun z=>
 dfS Tryz.prog S e (o_buildSlice 47 1 [(0,y)]) true fun A dU=>
 dfS Tryz.prog S dU (o_builtin .append #[47,47] 47 [false,false] [A,M]) true fun B dV=>
 dfS Tryz.prog S dV (o_call (fv 46) [d,z,(.string (ByteArray.mk #[108,101,97,102])),(.string (ByteArray.mk #[]))]) false fun C dW=>
 dfS Tryz.prog S dW (o_alloc 34) true fun c dX=>
 dfS Tryz.prog S dX (o_call (fv 45) [d,B,C]) false fun b dY=>
 dp Tryz.prog (o_extract b 0) fun D=>
 dp Tryz.prog (o_extract b 1) fun E=>
 dp Tryz.prog (o_extract b 2) fun F=>
 dfS Tryz.prog S dY (o_store 34 c F) false fun _ dZ=>
 dend dZ fun d0=>
 Y D E c d0)∧(
 dp Tryz.prog (o_bin .mul 3 true (.int .i64 2) N) fun y=>
 dqS Tryz.prog S e (o_load 34 O) fun z=>
 dfS Tryz.prog S e (o_buildSlice 47 1 [(0,y)]) true fun A d1=>
 dfS Tryz.prog S d1 (o_builtin .append #[47,47] 47 [false,false] [A,M]) true fun B d2=>
 dfS Tryz.prog S d2 (o_alloc 34) true fun c d3=>
 dfS Tryz.prog S d3 (o_call (fv 46) [d,z,(.string (ByteArray.mk #[108,101,97,102])),(.string (ByteArray.mk #[]))]) false fun C d4=>
 dfS Tryz.prog S d4 (o_call (fv 45) [d,B,C]) false fun b d5=>
 dp Tryz.prog (o_extract b 0) fun D=>
 dp Tryz.prog (o_extract b 1) fun E=>
 dp Tryz.prog (o_extract b 2) fun F=>
 dfS Tryz.prog S d5 (o_store 34 c F) false fun _ d6=>
 dend d6 fun d7=>
 Y D E c d7)∧(
 dp Tryz.prog (o_bin .mul 3 true (.int .i64 2) N) fun y=>
 dqS Tryz.prog S e (o_load 34 O) fun z=>
 dfS Tryz.prog S e (o_buildSlice 47 1 [(0,y)]) true fun A d8=>
 dfS Tryz.prog S d8 (o_alloc 34) true fun c d9=>
 dfS Tryz.prog S d9 (o_builtin .append #[47,47] 47 [false,false] [A,M]) true fun B eA=>
 dfS Tryz.prog S eA (o_call (fv 46) [d,z,(.string (ByteArray.mk #[108,101,97,102])),(.string (ByteArray.mk #[]))]) false fun C eB=>
 dfS Tryz.prog S eB (o_call (fv 45) [d,B,C]) false fun b eC=>
 dp Tryz.prog (o_extract b 0) fun D=>
 dp Tryz.prog (o_extract b 1) fun E=>
 dp Tryz.prog (o_extract b 2) fun F=>
 dfS Tryz.prog S eC (o_store 34 c F) false fun _ eD=>
 dend eD fun eE=>
 Y D E c eE)∧(
 dp Tryz.prog (o_bin .mul 3 true (.int .i64 2) N) fun y=>
 dqS Tryz.prog S e (o_load 34 O) fun z=>
 dfS Tryz.prog S e (o_alloc 34) true fun c eF=>
 dfS Tryz.prog S eF (o_buildSlice 47 1 [(0,y)]) true fun A eG=>
 dfS Tryz.prog S eG (o_builtin .append #[47,47] 47 [false,false] [A,M]) true fun B eH=>
 dfS Tryz.prog S eH (o_call (fv 46) [d,z,(.string (ByteArray.mk #[108,101,97,102])),(.string (ByteArray.mk #[]))]) false fun C eI=>
 dfS Tryz.prog S eI (o_call (fv 45) [d,B,C]) false fun b eJ=>
 dp Tryz.prog (o_extract b 0) fun D=>
 dp Tryz.prog (o_extract b 1) fun E=>
 dp Tryz.prog (o_extract b 2) fun F=>
 dfS Tryz.prog S eJ (o_store 34 c F) false fun _ eK=>
 dend eK fun eL=>
 Y D E c eL))) fun aM Z c gQ eM=>
 m R (o_alloc 56) eM fun K eN=>
 m R (o_builtin .len #[26] 3 [false] [Z]) eN fun eO eP=>
 ml2 (.slice none 0 0) (.int .i64 0) eP fun T aA gM eQ aB=>
 m R (o_bin .lss 3 false aA eO) eQ fun eR aN=>
 mif eR (
 m R (o_indexAddr 26 Z aA) aN fun eS eT=>
 m R (o_load 43 eS) eT fun eU eV=>
 m R (o_alloc 43) eV fun aO eW=>
 m R (o_store 43 aO eU) eW fun _ eX=>
 m R (o_fieldAddr 43 aO 1) eX fun eY eZ=>
 m R (o_load 34 eY) eZ fun e0 e1=>
 m R (o_call (fv 11) [d,e0]) e1 fun e2 e3=>
 m R (o_buildSlice 54 1 [(0,e2)]) e3 fun e4 e5=>
 m R (o_builtin .append #[54,54] 54 [false,false] [T,e4]) e5 fun e6 e7=>
 m R (o_bin .add 3 true aA (.int .i64 1)) e7 fun e8 e9=>
 aB e6 e8 e9) (
 m R (o_load 25 W) aN fun fA fB=>
 m R (o_call (fv 47) [fA,N,M,gC]) fB fun aP fC=>
 m R (o_builtin .len #[95] 3 [false] [aP]) fC fun fD fE=>
 ml1 (.int .i64 0) fE fun G gN fF aC=>
 m R (o_bin .lss 3 false G fD) fF fun fG U=>
 mif fG (
 m R (o_indexAddr 95 aP G) U fun fH fI=>
 m R (o_load 47 fH) fI fun aQ fJ=>
 m R (o_bin .add 3 true G (.int .i64 1)) fJ fun fK fL=>
 m R (o_indexAddr 54 T fK) fL fun fM fN=>
 m R (o_load 34 fM) fN fun fO fP=>
 m R (o_build 72 [(0,fO)]) fP fun fQ fR=>
 m R (o_alloc 72) fR fun f fS=>
 m R (o_store 72 f fQ) fS fun _ fT=>
 m R (o_builtin .len #[47] 3 [false] [aQ]) fT fun fU fV=>
 ml1 (.int .i64 0) fV fun L gO fW aD=>
 m R (o_bin .lss 3 false L fU) fW fun fX aR=>
 mif fX (
 mj0 (fun V=>
 m R (o_indexAddr 47 aQ L) aR fun aS fY=>
 m R (o_load 3 aS) fY fun aT fZ=>
 m R (o_load 25 W) fZ fun aU f0=>
 m R (o_call (fv 25) [aU,aT]) f0 fun aE f1=>
 m R (o_extract aE 0) f1 fun aV f2=>
 m R (o_extract aE 1) f2 fun gK f3=>
 m R (o_alloc 34) f3 fun Q f4=>
 m R (o_store 34 Q aV) f4 fun _ f5=>
 m R (o_bin .add 3 true G (.int .i64 1)) f5 fun aW f6=>
 m R (o_indexAddr 54 aM aW) f6 fun aX f7=>
 m R (o_load 34 aX) f7 fun aY f8=>
 m R (o_alloc 34) f8 fun H f9=>
 m R (o_store 34 H aY) f9 fun _ a=>
 ((
 dp Tryz.prog (o_fieldAddr 72 f 1) fun g=>
 dq Tryz.prog a (o_load 70 g) fun h=>
 dq Tryz.prog a (o_load 34 Q) fun i=>
 dq Tryz.prog a (o_load 34 O) fun j=>
 dp Tryz.prog (o_slice 34 H none none none) fun l=>
 dq Tryz.prog a (o_conv 99 9 l) fun n=>
 dq Tryz.prog a (o_load 34 H) fun o=>
 df Tryz.prog a (o_buildSlice 47 2 [(0,G),(1,L)]) true fun p aZ=>
 df Tryz.prog aZ (o_call (fv 49) [p]) true fun q a0=>
 df Tryz.prog a0 (o_call (fv 46) [d,j,(.string (ByteArray.mk #[119,114,97,112])),q]) true fun r a1=>
 df Tryz.prog a1 (o_buildSlice 54 1 [(0,o)]) true fun s a2=>
 df Tryz.prog a2 (o_call (fv 48) [d,i,r,X,n,s]) true fun t a3=>
 df Tryz.prog a3 (o_buildSlice 70 1 [(0,t)]) true fun u a4=>
 df Tryz.prog a4 (o_builtin .append #[70,70] 70 [false,false] [h,u]) false fun v a5=>
 dp Tryz.prog (o_fieldAddr 72 f 1) fun x=>
 df Tryz.prog a5 (o_store 70 x v) false fun _ a6=>
 dend a6 fun a7=>
 V a7)∧(
 dp Tryz.prog (o_fieldAddr 72 f 1) fun g=>
 dq Tryz.prog a (o_load 70 g) fun h=>
 dq Tryz.prog a (o_load 34 Q) fun i=>
 dq Tryz.prog a (o_load 34 O) fun j=>
 dp Tryz.prog (o_slice 34 H none none none) fun l=>
 dq Tryz.prog a (o_conv 99 9 l) fun n=>
 dq Tryz.prog a (o_load 34 H) fun o=>
 df Tryz.prog a (o_buildSlice 47 2 [(0,G),(1,L)]) true fun p a8=>
 df Tryz.prog a8 (o_call (fv 49) [p]) true fun q a9=>
 df Tryz.prog a9 (o_buildSlice 54 1 [(0,o)]) true fun s bA=>
 df Tryz.prog bA (o_call (fv 46) [d,j,(.string (ByteArray.mk #[119,114,97,112])),q]) true fun r bB=>
 df Tryz.prog bB (o_call (fv 48) [d,i,r,X,n,s]) true fun t bC=>
 df Tryz.prog bC (o_buildSlice 70 1 [(0,t)]) true fun u bD=>
 df Tryz.prog bD (o_builtin .append #[70,70] 70 [false,false] [h,u]) false fun v bE=>
 dp Tryz.prog (o_fieldAddr 72 f 1) fun x=>
 df Tryz.prog bE (o_store 70 x v) false fun _ bF=>
 dend bF fun bG=>
 V bG)∧(
 dp Tryz.prog (o_fieldAddr 72 f 1) fun g=>
 dq Tryz.prog a (o_load 70 g) fun h=>
 dq Tryz.prog a (o_load 34 Q) fun i=>
 dq Tryz.prog a (o_load 34 O) fun j=>
 dp Tryz.prog (o_slice 34 H none none none) fun l=>
 dq Tryz.prog a (o_conv 99 9 l) fun n=>
 dq Tryz.prog a (o_load 34 H) fun o=>
 df Tryz.prog a (o_buildSlice 47 2 [(0,G),(1,L)]) true fun p bH=>
 df Tryz.prog bH (o_buildSlice 54 1 [(0,o)]) true fun s bI=>
 df Tryz.prog bI (o_call (fv 49) [p]) true fun q bJ=>
 df Tryz.prog bJ (o_call (fv 46) [d,j,(.string (ByteArray.mk #[119,114,97,112])),q]) true fun r bK=>
 df Tryz.prog bK (o_call (fv 48) [d,i,r,X,n,s]) true fun t bL=>
 df Tryz.prog bL (o_buildSlice 70 1 [(0,t)]) true fun u bM=>
 df Tryz.prog bM (o_builtin .append #[70,70] 70 [false,false] [h,u]) false fun v bN=>
 dp Tryz.prog (o_fieldAddr 72 f 1) fun x=>
 df Tryz.prog bN (o_store 70 x v) false fun _ bO=>
 dend bO fun bP=>
 V bP)∧(
 dp Tryz.prog (o_fieldAddr 72 f 1) fun g=>
 dq Tryz.prog a (o_load 70 g) fun h=>
 dq Tryz.prog a (o_load 34 Q) fun i=>
 dq Tryz.prog a (o_load 34 O) fun j=>
 dp Tryz.prog (o_slice 34 H none none none) fun l=>
 dq Tryz.prog a (o_conv 99 9 l) fun n=>
 dq Tryz.prog a (o_load 34 H) fun o=>
 df Tryz.prog a (o_buildSlice 54 1 [(0,o)]) true fun s bQ=>
 df Tryz.prog bQ (o_buildSlice 47 2 [(0,G),(1,L)]) true fun p bR=>
 df Tryz.prog bR (o_call (fv 49) [p]) true fun q bS=>
 df Tryz.prog bS (o_call (fv 46) [d,j,(.string (ByteArray.mk #[119,114,97,112])),q]) true fun r bT=>
 df Tryz.prog bT (o_call (fv 48) [d,i,r,X,n,s]) true fun t bU=>
 df Tryz.prog bU (o_buildSlice 70 1 [(0,t)]) true fun u bV=>
 df Tryz.prog bV (o_builtin .append #[70,70] 70 [false,false] [h,u]) false fun v bW=>
 dp Tryz.prog (o_fieldAddr 72 f 1) fun x=>
 df Tryz.prog bW (o_store 70 x v) false fun _ bX=>
 dend bX fun bY=>
 V bY))) fun gP bZ=>
 m R (o_bin .add 3 true L (.int .i64 1)) bZ fun b0 b1=>
 aD b0 b1) (
 m R (o_fieldAddr 56 K 1) aR fun b2 b3=>
 m R (o_load 53 b2) b3 fun b4 b5=>
 m R (o_load 72 f) b5 fun b6 b7=>
 m R (o_buildSlice 53 1 [(0,b6)]) b7 fun b8 b9=>
 m R (o_builtin .append #[53,53] 53 [false,false] [b4,b8]) b9 fun cA cB=>
 m R (o_fieldAddr 56 K 1) cB fun cC cD=>
 m R (o_store 53 cC cA) cD fun _ cE=>
 m R (o_bin .add 3 true G (.int .i64 1)) cE fun cF cG=>
 aC cF cG)) (
 dq Tryz.prog U (o_load 25 W) fun cH=>
 dp Tryz.prog (o_indexAddr 54 T (.int .i64 0)) fun cI=>
 dq Tryz.prog U (o_load 34 cI) fun cJ=>
 dp Tryz.prog (o_slice 54 T (some (.int .i64 1)) none none) fun cK=>
 df Tryz.prog U (o_call (fv 50) [cH,N,cJ,cK]) false fun aF cL=>
 dp Tryz.prog (o_extract aF 0) fun cM=>
 dp Tryz.prog (o_extract aF 1) fun gL=>
 dp Tryz.prog (o_fieldAddr 56 K 0) fun cN=>
 df Tryz.prog cL (o_store 25 cN cM) false fun _ cO=>
 dend cO fun aG=>
 ∃ S:Rl,
 dp Tryz.prog (o_slice 54 aM (some (.int .i64 1)) none none) fun cP=>
 dqS Tryz.prog S aG (o_load 34 c) fun cQ=>
 dfS Tryz.prog S aG (o_call (fv 26) [Z]) true fun cR cS=>
 dp Tryz.prog (o_fieldAddr 56 K 2) fun cT=>
 dfS Tryz.prog S cS (o_store 54 cT cP) true fun _ cU=>
 dp Tryz.prog (o_fieldAddr 56 K 4) fun cV=>
 dfS Tryz.prog S cU (o_store 34 cV cQ) false fun _ cW=>
 dp Tryz.prog (o_fieldAddr 56 K 3) fun cX=>
 dfS Tryz.prog S cW (o_store 26 cX cR) false fun _ cY=>
 dend cY fun cZ=>
 m R (o_load 56 K) cZ fun c0 c1=>
 m R (o_store 56 I c0) c1 fun _ aH=>
 rcell Tryz.prog 56 I aH fun J=>
 R (.returned (.tuple #[J,(.int .i64 0)])) aH)))))
def A_climb_Grow:Ann:=⟨[(12,[19,66],302157667927362458091520),(17,[84],P_ 141+P_ 30-P_ 84-P_ 22),(21,[97],P_ 134+P_ 30-P_ 97-P_ 25)],[(9,[15,16,17],18445618173802938368),(26,[],P_ 133+P_ 30-P_ 99-P_ 25)],[(29,[⟨0,.q (some 0),128,0,P_ 142⟩,⟨1,.q none,4,0,P_ 143⟩,⟨2,.q none,524288,0,P_ 144⟩,⟨3,.q none,P_ 144,4,P_ 145⟩,⟨4,.q (some 0),P_ 145,12,P_ 146⟩,⟨5,.q none,524288,0,P_ 147⟩,⟨6,.q none,P_ 147,32,P_ 148⟩,⟨7,.f 0 false,P_ 148+P_ 146+P_ 144-P_ 142,127,P_ 149⟩,⟨8,.q none,P_ 149,255,P_ 141⟩,⟨9,.q none,P_ 141,511,P_ 150⟩,⟨10,.q none,P_ 141,511,P_ 151⟩,⟨11,.q none,262144,1023,P_ 152⟩,⟨12,.f 1 false,P_ 152+P_ 150,3071,0⟩]),(30,[⟨0,.q none,32768,0,P_ 153⟩,⟨1,.q none,P_ 153,1,P_ 154⟩,⟨2,.q (some 0),131072,0,P_ 155⟩,⟨3,.q none,65536,0,P_ 156⟩,⟨4,.f 0 true,P_ 156,8,P_ 157⟩,⟨5,.q none,262144,3,P_ 158⟩,⟨6,.f 1 true,P_ 158+P_ 154,59,0⟩,⟨7,.q none,262144,127,P_ 159⟩,⟨8,.f 2 false,P_ 159+P_ 155,255,0⟩,⟨9,.q none,262144,511,P_ 160⟩,⟨10,.f 3 false,P_ 160+P_ 157,1023,0⟩])],[(8,[⟨[0,1,2,4,6,7,3,5,8,9,10,11,12,13,14,15,16,17],[⟨0,.q none,1,0,P_ 51⟩,⟨1,.q none,4,0,P_ 52⟩,⟨2,.q none,P_ 52,2,P_ 53⟩,⟨3,.f 0 true,P_ 53,6,P_ 54⟩,⟨4,.q none,16384,0,P_ 55⟩,⟨5,.f 1 true,P_ 56-P_ 54,30,P_ 56⟩,⟨6,.q none,1,0,P_ 57⟩,⟨7,.q (some 0),512,0,P_ 58⟩,⟨8,.f 2 false,P_ 59-P_ 57,254,P_ 59⟩,⟨9,.f 3 false,650770146155036672,511,P_ 60⟩,⟨10,.q none,P_ 60,1023,P_ 50⟩,⟨11,.q none,P_ 50,2047,P_ 61⟩,⟨12,.q none,P_ 50,2047,P_ 62⟩,⟨13,.q none,P_ 50,2047,P_ 63⟩,⟨14,.f 4 true,0,0,131072⟩,⟨15,.q none,P_ 61,20479,32768⟩,⟨16,.q none,P_ 62,57343,65536⟩,⟨17,.f 5 false,P_ 63+P_ 17,131071,0⟩]⟩,⟨[0,1,2,4,6,7,3,5,8,14,9,10,11,12,13,15,16,17],[⟨0,.q none,1,0,P_ 51⟩,⟨1,.q none,4,0,P_ 52⟩,⟨2,.q none,P_ 52,2,P_ 53⟩,⟨3,.f 0 true,P_ 53,6,P_ 54⟩,⟨4,.q none,16384,0,P_ 55⟩,⟨5,.f 1 true,P_ 56-P_ 54,30,P_ 56⟩,⟨6,.q none,1,0,P_ 57⟩,⟨7,.q (some 0),512,0,P_ 58⟩,⟨8,.f 2 false,P_ 59-P_ 57,254,P_ 59⟩,⟨9,.f 4 false,650770146155036672,511,P_ 60⟩,⟨10,.q none,P_ 60,1023,P_ 50⟩,⟨11,.q none,P_ 50,2047,P_ 61⟩,⟨12,.q none,P_ 50,2047,P_ 62⟩,⟨13,.q none,P_ 50,2047,P_ 63⟩,⟨14,.f 3 true,0,0,131072⟩,⟨15,.q none,P_ 61,20479,32768⟩,⟨16,.q none,P_ 62,57343,65536⟩,⟨17,.f 5 false,P_ 63+P_ 17,131071,0⟩]⟩,⟨[0,1,2,4,6,7,3,5,14,8,9,10,11,12,13,15,16,17],[⟨0,.q none,1,0,P_ 51⟩,⟨1,.q none,4,0,P_ 52⟩,⟨2,.q none,P_ 52,2,P_ 53⟩,⟨3,.f 0 true,P_ 53,6,P_ 54⟩,⟨4,.q none,16384,0,P_ 55⟩,⟨5,.f 1 true,P_ 56-P_ 54,30,P_ 56⟩,⟨6,.q none,1,0,P_ 57⟩,⟨7,.q (some 0),512,0,P_ 58⟩,⟨8,.f 3 false,P_ 59-P_ 57,254,P_ 59⟩,⟨9,.f 4 false,650770146155036672,511,P_ 60⟩,⟨10,.q none,P_ 60,1023,P_ 50⟩,⟨11,.q none,P_ 50,2047,P_ 61⟩,⟨12,.q none,P_ 50,2047,P_ 62⟩,⟨13,.q none,P_ 50,2047,P_ 63⟩,⟨14,.f 2 true,0,0,131072⟩,⟨15,.q none,P_ 61,20479,32768⟩,⟨16,.q none,P_ 62,57343,65536⟩,⟨17,.f 5 false,P_ 63+P_ 17,131071,0⟩]⟩,⟨[0,1,2,4,6,7,3,14,5,8,9,10,11,12,13,15,16,17],[⟨0,.q none,1,0,P_ 51⟩,⟨1,.q none,4,0,P_ 52⟩,⟨2,.q none,P_ 52,2,P_ 53⟩,⟨3,.f 0 true,P_ 53,6,P_ 54⟩,⟨4,.q none,16384,0,P_ 55⟩,⟨5,.f 2 true,P_ 56-P_ 54,30,P_ 56⟩,⟨6,.q none,1,0,P_ 57⟩,⟨7,.q (some 0),512,0,P_ 58⟩,⟨8,.f 3 false,P_ 59-P_ 57,254,P_ 59⟩,⟨9,.f 4 false,650770146155036672,511,P_ 60⟩,⟨10,.q none,P_ 60,1023,P_ 50⟩,⟨11,.q none,P_ 50,2047,P_ 61⟩,⟨12,.q none,P_ 50,2047,P_ 62⟩,⟨13,.q none,P_ 50,2047,P_ 63⟩,⟨14,.f 1 true,0,0,131072⟩,⟨15,.q none,P_ 61,20479,32768⟩,⟨16,.q none,P_ 62,57343,65536⟩,⟨17,.f 5 false,P_ 63+P_ 17,131071,0⟩]⟩,⟨[0,1,2,4,6,7,14,3,5,8,9,10,11,12,13,15,16,17],[⟨0,.q none,1,0,P_ 51⟩,⟨1,.q none,4,0,P_ 52⟩,⟨2,.q none,P_ 52,2,P_ 53⟩,⟨3,.f 1 true,P_ 53,6,P_ 54⟩,⟨4,.q none,16384,0,P_ 55⟩,⟨5,.f 2 true,P_ 56-P_ 54,30,P_ 56⟩,⟨6,.q none,1,0,P_ 57⟩,⟨7,.q (some 0),512,0,P_ 58⟩,⟨8,.f 3 false,P_ 59-P_ 57,254,P_ 59⟩,⟨9,.f 4 false,650770146155036672,511,P_ 60⟩,⟨10,.q none,P_ 60,1023,P_ 50⟩,⟨11,.q none,P_ 50,2047,P_ 61⟩,⟨12,.q none,P_ 50,2047,P_ 62⟩,⟨13,.q none,P_ 50,2047,P_ 63⟩,⟨14,.f 0 true,0,0,131072⟩,⟨15,.q none,P_ 61,20479,32768⟩,⟨16,.q none,P_ 62,57343,65536⟩,⟨17,.f 5 false,P_ 63+P_ 17,131071,0⟩]⟩]),(25,[⟨[0,1,2,3,4,5,6,7,11,12,13,14,8,9,10,15,16,17,18,19,20],[⟨0,.q none,16777216,0,P_ 113⟩,⟨1,.q (some 0),P_ 113,1,P_ 114⟩,⟨2,.q none,1,0,P_ 115⟩,⟨3,.q (some 0),P_ 27,0,P_ 116⟩,⟨4,.q none,1,0,P_ 117⟩,⟨5,.q (some 0),512,0,P_ 118⟩,⟨6,.q none,4194304,0,P_ 119⟩,⟨7,.q none,33554432,0,P_ 120⟩,⟨8,.f 0 true,P_ 121-P_ 119,192,P_ 121⟩,⟨9,.f 1 true,P_ 121,448,P_ 122⟩,⟨10,.f 2 true,P_ 122+P_ 119-P_ 117,1008,P_ 123⟩,⟨11,.q none,16,0,P_ 124⟩,⟨12,.q none,P_ 29,0,P_ 125⟩,⟨13,.q (some 0),P_ 125,4096,P_ 126⟩,⟨14,.q (some 0),P_ 29,0,P_ 127⟩,⟨15,.f 3 true,P_ 127,16384,P_ 128⟩,⟨16,.f 4 true,457379045674615896141994360648339816448,65532,P_ 129⟩,⟨17,.f 5 true,P_ 129,131068,P_ 130⟩,⟨18,.f 6 false,P_ 130+P_ 114,262143,P_ 131⟩,⟨19,.q none,16777216,524287,P_ 132⟩,⟨20,.f 7 false,P_ 133-P_ 131,1048575,0⟩]⟩,⟨[0,1,2,3,4,5,6,7,11,12,13,14,8,9,15,10,16,17,18,19,20],[⟨0,.q none,16777216,0,P_ 113⟩,⟨1,.q (some 0),P_ 113,1,P_ 114⟩,⟨2,.q none,1,0,P_ 115⟩,⟨3,.q (some 0),P_ 27,0,P_ 116⟩,⟨4,.q none,1,0,P_ 117⟩,⟨5,.q (some 0),512,0,P_ 118⟩,⟨6,.q none,4194304,0,P_ 119⟩,⟨7,.q none,33554432,0,P_ 120⟩,⟨8,.f 0 true,P_ 121-P_ 119,192,P_ 121⟩,⟨9,.f 1 true,P_ 121,448,P_ 122⟩,⟨10,.f 3 true,P_ 122+P_ 119-P_ 117,1008,P_ 123⟩,⟨11,.q none,16,0,P_ 124⟩,⟨12,.q none,P_ 29,0,P_ 125⟩,⟨13,.q (some 0),P_ 125,4096,P_ 126⟩,⟨14,.q (some 0),P_ 29,0,P_ 127⟩,⟨15,.f 2 true,P_ 127,16384,P_ 128⟩,⟨16,.f 4 true,457379045674615896141994360648339816448,65532,P_ 129⟩,⟨17,.f 5 true,P_ 129,131068,P_ 130⟩,⟨18,.f 6 false,P_ 130+P_ 114,262143,P_ 131⟩,⟨19,.q none,16777216,524287,P_ 132⟩,⟨20,.f 7 false,P_ 133-P_ 131,1048575,0⟩]⟩,⟨[0,1,2,3,4,5,6,7,11,12,13,14,8,15,9,10,16,17,18,19,20],[⟨0,.q none,16777216,0,P_ 113⟩,⟨1,.q (some 0),P_ 113,1,P_ 114⟩,⟨2,.q none,1,0,P_ 115⟩,⟨3,.q (some 0),P_ 27,0,P_ 116⟩,⟨4,.q none,1,0,P_ 117⟩,⟨5,.q (some 0),512,0,P_ 118⟩,⟨6,.q none,4194304,0,P_ 119⟩,⟨7,.q none,33554432,0,P_ 120⟩,⟨8,.f 0 true,P_ 121-P_ 119,192,P_ 121⟩,⟨9,.f 2 true,P_ 121,448,P_ 122⟩,⟨10,.f 3 true,P_ 122+P_ 119-P_ 117,1008,P_ 123⟩,⟨11,.q none,16,0,P_ 124⟩,⟨12,.q none,P_ 29,0,P_ 125⟩,⟨13,.q (some 0),P_ 125,4096,P_ 126⟩,⟨14,.q (some 0),P_ 29,0,P_ 127⟩,⟨15,.f 1 true,P_ 127,16384,P_ 128⟩,⟨16,.f 4 true,457379045674615896141994360648339816448,65532,P_ 129⟩,⟨17,.f 5 true,P_ 129,131068,P_ 130⟩,⟨18,.f 6 false,P_ 130+P_ 114,262143,P_ 131⟩,⟨19,.q none,16777216,524287,P_ 132⟩,⟨20,.f 7 false,P_ 133-P_ 131,1048575,0⟩]⟩,⟨[0,1,2,3,4,5,6,7,11,12,13,14,15,8,9,10,16,17,18,19,20],[⟨0,.q none,16777216,0,P_ 113⟩,⟨1,.q (some 0),P_ 113,1,P_ 114⟩,⟨2,.q none,1,0,P_ 115⟩,⟨3,.q (some 0),P_ 27,0,P_ 116⟩,⟨4,.q none,1,0,P_ 117⟩,⟨5,.q (some 0),512,0,P_ 118⟩,⟨6,.q none,4194304,0,P_ 119⟩,⟨7,.q none,33554432,0,P_ 120⟩,⟨8,.f 1 true,P_ 121-P_ 119,192,P_ 121⟩,⟨9,.f 2 true,P_ 121,448,P_ 122⟩,⟨10,.f 3 true,P_ 122+P_ 119-P_ 117,1008,P_ 123⟩,⟨11,.q none,16,0,P_ 124⟩,⟨12,.q none,P_ 29,0,P_ 125⟩,⟨13,.q (some 0),P_ 125,4096,P_ 126⟩,⟨14,.q (some 0),P_ 29,0,P_ 127⟩,⟨15,.f 0 true,P_ 127,16384,P_ 128⟩,⟨16,.f 4 true,457379045674615896141994360648339816448,65532,P_ 129⟩,⟨17,.f 5 true,P_ 129,131068,P_ 130⟩,⟨18,.f 6 false,P_ 130+P_ 114,262143,P_ 131⟩,⟨19,.q none,16777216,524287,P_ 132⟩,⟨20,.f 7 false,P_ 133-P_ 131,1048575,0⟩]⟩])],[8,30]⟩
theorem C_climb_Grow (h:F_climb_Grow x0 x1 x2 x3 x4 x5 w R):Calls Tryz.prog 16 #[x0,x1,x2,x3,x4,x5] w R:=cc A_climb_Grow [x0,x1,x2,x3,x4,x5] Tryz.func16 h
def F_bevyref07_Direct (c h:Value) (w:World) (R:Ending→World→Prop):Prop:=
 mj1 (fun L=>
 m R (o_bin .lss 3 true h (.int .i64 0)) w fun d j=>
 mguard d false (fun k=>m R (o_move h) j k) j fun l n=>
 mguard d false (fun k=>m R (o_move c) n k) n fun o p=>
 mguard d false (fun k=>m R (o_bin .geq 3 false l o) p k) p fun q M=>
 m R (o_pick d (.bool true) q) M fun a r=>
 mguard a false (fun k=>m R (o_move c) r k) r fun s t=>
 mguard a false (fun k=>m R (o_call (fv 51) [s,(.int .i64 0)]) t k) t fun u v=>
 mguard a false (fun k=>m R (o_un .not u) v k) v fun x N=>
 m R (o_pick a (.bool true) x) N fun b O=>
 L b O) fun b Q f=>
 mif b (
 R (.returned (.slice none 0 0)) f) (
 m R (o_bin .mul 3 true (.int .i64 2) h) f fun y z=>
 m R (o_call (fv 52) [c,y]) z fun A B=>
 ml2 (.slice none 0 0) A B fun C i S D e=>
 m R (o_bin .geq 3 true i (.int .i64 0)) D fun E g=>
 mif E (
 m R (o_buildSlice 47 1 [(0,i)]) g fun F G=>
 m R (o_builtin .append #[47,47] 47 [false,false] [C,F]) G fun H I=>
 m R (o_call (fv 52) [c,i]) I fun J K=>
 e H J K) (
 R (.returned C) g))
def A_bevyref07_Direct:Ann:=⟨[(5,[5,6],8573157472)],[(3,[18],524160)],[],[],[]⟩
theorem C_bevyref07_Direct (h:F_bevyref07_Direct x0 x1 w R):Calls Tryz.prog 17 #[x0,x1] w R:=cc A_bevyref07_Direct [x0,x1] Tryz.func17 h
def F_bevyref07_Common (d o p:Value) (w:World) (R:Ending→World→Prop):Prop:=
 mj1 (fun Y=>
 m R (o_bin .lss 3 true o (.int .i64 0)) w fun q s=>
 mguard q false (fun k=>m R (o_move p) s k) s fun t u=>
 mguard q false (fun k=>m R (o_bin .lss 3 true t (.int .i64 0)) u k) u fun v Z=>
 m R (o_pick q (.bool true) v) Z fun a x=>
 mguard a false (fun k=>m R (o_move o) x k) x fun y z=>
 mguard a false (fun k=>m R (o_move d) z k) z fun A B=>
 mguard a false (fun k=>m R (o_bin .geq 3 false y A) B k) B fun C aA=>
 m R (o_pick a (.bool true) C) aA fun b D=>
 mguard b false (fun k=>m R (o_move p) D k) D fun E F=>
 mguard b false (fun k=>m R (o_move d) F k) F fun G g=>
 mguard b false (fun k=>m R (o_bin .geq 3 false E G) g k) g fun H I=>
 m R (o_pick b (.bool true) H) I fun c h=>
 mguard c false (fun k=>m R (o_move d) h k) h fun J i=>
 mguard c false (fun k=>m R (o_call (fv 51) [J,(.int .i64 0)]) i k) i fun K j=>
 mguard c false (fun k=>m R (o_un .not K) j k) j fun L M=>
 m R (o_pick c (.bool true) L) M fun e N=>
 Y e N) fun e aB l=>
 mif e (
 R (.returned (.int .i64 (-1))) l) (
 m R (o_bin .mul 3 true (.int .i64 2) o) l fun O Q=>
 ml1 O Q fun r aC S f=>
 m R (o_call (fv 53) [d,r,p]) S fun T U=>
 m R (o_un .not T) U fun V n=>
 mif V (
 m R (o_call (fv 52) [d,r]) n fun W X=>
 f W X) (
 R (.returned r) n))
def A_bevyref07_Common:Ann:=⟨[(4,[7],547608330368)],[(2,[28],536870656)],[],[],[]⟩
theorem C_bevyref07_Common (h:F_bevyref07_Common x0 x1 x2 w R):Calls Tryz.prog 18 #[x0,x1,x2] w R:=cc A_bevyref07_Common [x0,x1,x2] Tryz.func18 h
def F_climb_Enter (cI cJ j l cK cL:Value) (w:World) (R:Ending→World→Prop):Prop:=
 m R (o_box 25 cJ) w fun d cM=>
 m R (o_box 34 cK) cM fun K cN=>
 m R (o_box 34 cL) cN fun L cO=>
 m R (o_alloc 56) cO fun a cP=>
 m R (o_load 25 d) cP fun M cQ=>
 m R (o_call (fv 24) [M]) cQ fun N cR=>
 m R (o_un .not N) cR fun O Q=>
 mif O (
 m R (o_build 56 []) Q fun T cS=>
 m R (o_store 56 a T) cS fun _ U=>
 rcell Tryz.prog 56 a U fun b=>
 R (.returned (.tuple #[b,(.int .i64 1)])) U) (
 mj1 (fun cT=>
 m R (o_load 25 d) Q fun V W=>
 m R (o_call (fv 44) [V,j]) W fun e n=>
 mguard e false (fun k=>m R (o_load 25 d) n k) n fun X o=>
 mguard e false (fun k=>m R (o_move l) o k) o fun Y p=>
 mguard e false (fun k=>m R (o_call (fv 44) [X,Y]) p k) p fun Z aA=>
 m R (o_pick e (.bool true) Z) aA fun aB aC=>
 cT aB aC) fun aD cV q=>
 mif aD (
 m R (o_build 56 []) q fun aE aF=>
 m R (o_store 56 a aE) aF fun _ r=>
 rcell Tryz.prog 56 a r fun b=>
 R (.returned (.tuple #[b,(.int .i64 7)])) r) (
 m R (o_bin .eql 3 false l j) q fun aG s=>
 mif aG (
 m R (o_build 56 []) s fun aH aI=>
 m R (o_store 56 a aH) aI fun _ t=>
 rcell Tryz.prog 56 a t fun b=>
 R (.returned (.tuple #[b,(.int .i64 1)])) t) (
 m R (o_fieldAddr 25 d 0) s fun aJ aK=>
 m R (o_load 22 aJ) aK fun aL aM=>
 m R (o_builtin .len #[22] 3 [false] [aL]) aM fun u aN=>
 m R (o_call (fv 32) [u,j]) aN fun v aO=>
 m R (o_call (fv 55) [u,j,l]) aO fun aP aQ=>
 m R (o_call (fv 54) [v,aP]) aQ fun aR aS=>
 m R (o_slice 47 v (some aR) none none) aS fun g aT=>
 m R (o_builtin .len #[47] 3 [false] [g]) aT fun aU aV=>
 ml2 (.slice none 0 0) (.int .i64 0) aV fun x h cU aW i=>
 m R (o_bin .lss 3 false h aU) aW fun aX y=>
 mif aX (
 m R (o_indexAddr 47 g h) y fun aY aZ=>
 m R (o_load 3 aY) aZ fun a0 a1=>
 m R (o_load 25 d) a1 fun a2 a3=>
 m R (o_call (fv 25) [a2,a0]) a3 fun z a4=>
 m R (o_extract z 0) a4 fun a5 a6=>
 m R (o_extract z 1) a6 fun a7 a8=>
 m R (o_alloc 34) a8 fun A a9=>
 m R (o_store 34 A a5) a9 fun _ bA=>
 m R (o_un .not a7) bA fun bB B=>
 mif bB (
 m R (o_build 56 []) B fun bC bD=>
 m R (o_store 56 a bC) bD fun _ C=>
 rcell Tryz.prog 56 a C fun b=>
 R (.returned (.tuple #[b,(.int .i64 16)])) C) (
 m R (o_load 34 A) B fun bE bF=>
 m R (o_buildSlice 54 1 [(0,bE)]) bF fun bG bH=>
 m R (o_builtin .append #[54,54] 54 [false,false] [x,bG]) bH fun bI bJ=>
 m R (o_bin .add 3 true h (.int .i64 1)) bJ fun bK bL=>
 i bI bK bL)) (
 m R (o_load 34 K) y fun bM bN=>
 m R (o_call (fv 56) [cI,g,bM,x]) bN fun D bO=>
 m R (o_extract D 0) bO fun bP bQ=>
 m R (o_extract D 1) bQ fun bR bS=>
 m R (o_alloc 56) bS fun c bT=>
 m R (o_store 56 c bP) bT fun _ bU=>
 m R (o_un .not bR) bU fun bV E=>
 mif bV (
 m R (o_build 56 []) E fun bW bX=>
 m R (o_store 56 a bW) bX fun _ F=>
 rcell Tryz.prog 56 a F fun b=>
 R (.returned (.tuple #[b,(.int .i64 16)])) F) (
 m R (o_load 25 d) E fun bY bZ=>
 m R (o_fieldAddr 56 c 0) bZ fun b0 b1=>
 m R (o_store 25 b0 bY) b1 fun _ f=>
 ∃ S:Rl,
 dqS Tryz.prog S f (o_load 25 d) fun b2=>
 dp Tryz.prog (o_fieldAddr 56 c 3) fun b3=>
 dqS Tryz.prog S f (o_load 26 b3) fun b4=>
 dp Tryz.prog (o_bin .mul 3 true (.int .i64 2) l) fun b5=>
 dqS Tryz.prog S f (o_load 34 L) fun b6=>
 dp Tryz.prog (o_build 43 [(0,b5),(1,b6)]) fun b7=>
 dfS Tryz.prog S f (o_buildSlice 26 1 [(0,b7)]) true fun b8 b9=>
 dfS Tryz.prog S b9 (o_builtin .append #[26,26] 26 [false,false] [b4,b8]) true fun cA cB=>
 dfS Tryz.prog S cB (o_call (fv 8) [b2,cA]) false fun cC cD=>
 dp Tryz.prog (o_fieldAddr 56 c 3) fun H=>
 dfS Tryz.prog S cD (o_store 26 H cC) false fun _ cE=>
 dend cE fun cF=>
 m R (o_load 56 c) cF fun I cG=>
 m R (o_call (fv 57) [I]) cG fun J cH=>
 m R (o_store 56 a J) cH fun _ G=>
 rcell Tryz.prog 56 a G fun b=>
 R (.returned (.tuple #[b,(.int .i64 0)])) G)))))
def A_climb_Enter:Ann:=⟨[(12,[16,59],151115150991076345323520)],[(4,[28],137170518016)],[(23,[⟨0,.q (some 0),128,0,P_ 90⟩,⟨1,.q none,2097152,0,P_ 91⟩,⟨2,.q (some 0),P_ 91,2,P_ 92⟩,⟨3,.q none,8,0,P_ 93⟩,⟨4,.q none,P_ 93,8,P_ 94⟩,⟨5,.q (some 0),2048,0,P_ 95⟩,⟨6,.q none,P_ 96-P_ 94,56,P_ 96⟩,⟨7,.f 0 true,P_ 96,120,P_ 97⟩,⟨8,.f 1 true,P_ 97+P_ 92,254,P_ 98⟩,⟨9,.f 2 false,P_ 98+P_ 90,511,P_ 99⟩,⟨10,.q none,2097152,1023,P_ 100⟩,⟨11,.f 3 false,P_ 101-P_ 99,2047,0⟩])],[],[23]⟩
theorem C_climb_Enter (h:F_climb_Enter x0 x1 x2 x3 x4 x5 w R):Calls Tryz.prog 19 #[x0,x1,x2,x3,x4,x5] w R:=cc A_climb_Enter [x0,x1,x2,x3,x4,x5] Tryz.func19 h
def F_climb_Follow (b8 fD G fE l b9 fF fG aQ:Value) (w:World) (R:Ending→World→Prop):Prop:=
 m R (o_box 25 fD) w fun h fH=>
 m R (o_box 34 fE) fH fun cA fI=>
 m R (o_box 3 fG) fI fun H fJ=>
 m R (o_alloc 56) fJ fun a fK=>
 m R (o_load 25 h) fK fun cB fL=>
 m R (o_call (fv 24) [cB]) fL fun cC fM=>
 m R (o_un .not cC) fM fun cD cE=>
 mif cD (
 m R (o_build 56 []) cE fun cF fN=>
 m R (o_store 56 a cF) fN fun _ cG=>
 rcell Tryz.prog 56 a cG fun b=>
 R (.returned (.tuple #[b,(.int .i64 1)])) cG) (
 mj1 (fun fO=>
 m R (o_load 25 h) cE fun cH cI=>
 m R (o_call (fv 44) [cH,G]) cI fun C W=>
 mguard C false (fun k=>m R (o_load 25 h) W k) W fun cJ X=>
 mguard C false (fun k=>m R (o_load 3 H) X k) X fun cK Y=>
 mguard C false (fun k=>m R (o_call (fv 44) [cJ,cK]) Y k) Y fun cL cM=>
 m R (o_pick C (.bool true) cL) cM fun cN cO=>
 fO cN cO) fun cP fV Z=>
 mif cP (
 m R (o_build 56 []) Z fun cQ cR=>
 m R (o_store 56 a cQ) cR fun _ aA=>
 rcell Tryz.prog 56 a aA fun b=>
 R (.returned (.tuple #[b,(.int .i64 7)])) aA) (
 m R (o_load 3 H) Z fun cS cT=>
 m R (o_bin .eql 3 false cS G) cT fun cU aB=>
 mif cU (
 m R (o_build 56 []) aB fun cV cW=>
 m R (o_store 56 a cV) cW fun _ aC=>
 rcell Tryz.prog 56 a aC fun b=>
 R (.returned (.tuple #[b,(.int .i64 1)])) aC) (
 m R (o_fieldAddr 25 h 0) aB fun cX cY=>
 m R (o_load 22 cX) cY fun cZ c0=>
 m R (o_builtin .len #[22] 3 [false] [cZ]) c0 fun c1 c2=>
 m R (o_alloc 3) c2 fun I c3=>
 m R (o_store 3 I c1) c3 fun _ c4=>
 m R (o_load 3 I) c4 fun c5 c6=>
 m R (o_call (fv 32) [c5,G]) c6 fun n c7=>
 m R (o_builtin .len #[53] 3 [false] [l]) c7 fun c8 c9=>
 m R (o_builtin .len #[47] 3 [false] [n]) c9 fun dA dB=>
 m R (o_bin .neq 3 false c8 dA) dB fun dC aD=>
 mif dC (
 m R (o_build 56 []) aD fun dD dE=>
 m R (o_store 56 a dD) dE fun _ aE=>
 rcell Tryz.prog 56 a aE fun b=>
 R (.returned (.tuple #[b,(.int .i64 16)])) aE) (
 m R (o_load 25 h) aD fun dF dG=>
 m R (o_call (fv 47) [dF,G,n,fF]) dG fun D dH=>
 m R (o_builtin .len #[95] 3 [false] [D]) dH fun dI dJ=>
 ml1 (.int .i64 0) dJ fun E fQ dK J=>
 m R (o_bin .lss 3 false E dI) dK fun dL aF=>
 mif dL (
 m R (o_indexAddr 95 D E) aF fun dM dN=>
 m R (o_load 47 dM) dN fun dO dP=>
 m R (o_indexAddr 53 l E) dP fun dQ dR=>
 m R (o_fieldAddr 72 dQ 1) dR fun dS dT=>
 m R (o_load 70 dS) dT fun dU dV=>
 m R (o_builtin .len #[70] 3 [false] [dU]) dV fun dW dX=>
 m R (o_builtin .len #[47] 3 [false] [dO]) dX fun dY dZ=>
 m R (o_bin .neq 3 false dW dY) dZ fun d0 aG=>
 mif d0 (
 m R (o_build 56 []) aG fun d1 d2=>
 m R (o_store 56 a d1) d2 fun _ aH=>
 rcell Tryz.prog 56 a aH fun b=>
 R (.returned (.tuple #[b,(.int .i64 16)])) aH) (
 m R (o_bin .add 3 true E (.int .i64 1)) aG fun d3 d4=>
 J d3 d4)) (
 m R (o_func (.func 59) [] [I,H]) aF fun d5 d6=>
 m R (o_call (fv 58) [n,d5]) d6 fun d i=>
 mj2 (fun aI=>
 ((
 dp Tryz.prog (o_indexAddr 95 D d) fun K=>
 dq Tryz.prog i (o_load 47 K) fun L=>
 dp Tryz.prog (o_indexAddr 53 l d) fun p=>
 dp Tryz.prog (o_fieldAddr 72 p 1) fun q=>
 dq Tryz.prog i (o_load 70 q) fun r=>
 df Tryz.prog i (o_call (fv 61) [L,r,b9,aQ]) false fun f d7=>
 dp Tryz.prog (o_extract f 0) fun s=>
 dp Tryz.prog (o_extract f 1) fun t=>
 df Tryz.prog d7 (o_alloc 34) true fun e d8=>
 df Tryz.prog d8 (o_store 34 e s) false fun _ d9=>
 dend d9 fun eA=>
 aI e t eA)∧(
 dp Tryz.prog (o_indexAddr 95 D d) fun K=>
 dq Tryz.prog i (o_load 47 K) fun L=>
 dp Tryz.prog (o_indexAddr 53 l d) fun p=>
 dp Tryz.prog (o_fieldAddr 72 p 1) fun q=>
 dq Tryz.prog i (o_load 70 q) fun r=>
 df Tryz.prog i (o_alloc 34) true fun e eB=>
 df Tryz.prog eB (o_call (fv 61) [L,r,b9,aQ]) false fun f eC=>
 dp Tryz.prog (o_extract f 0) fun s=>
 dp Tryz.prog (o_extract f 1) fun t=>
 df Tryz.prog eC (o_store 34 e s) false fun _ eD=>
 dend eD fun eE=>
 aI e t eE))) fun e aJ fR eF=>
 m R (o_bin .neq 35 true aJ (.int .i64 0)) eF fun aR aK=>
 mif aR (
 m R (o_build 56 []) aK fun aS eG=>
 m R (o_store 56 a aS) eG fun _ aL=>
 rcell Tryz.prog 56 a aL fun b=>
 R (.returned (.tuple #[b,aJ])) aL) (
 m R (o_builtin .len #[53] 3 [false] [l]) aK fun aT eH=>
 ml2 (.slice none 0 0) (.int .i64 0) eH fun F u fS eI M=>
 m R (o_bin .lss 3 false u aT) eI fun aU o=>
 mif aU (
 m R (o_indexAddr 53 l u) o fun aV eJ=>
 m R (o_load 72 aV) eJ fun aW eK=>
 m R (o_alloc 72) eK fun aM eL=>
 m R (o_store 72 aM aW) eL fun _ eM=>
 m R (o_fieldAddr 72 aM 0) eM fun aX eN=>
 m R (o_load 34 aX) eN fun aY eO=>
 m R (o_buildSlice 54 1 [(0,aY)]) eO fun aZ eP=>
 m R (o_builtin .append #[54,54] 54 [false,false] [F,aZ]) eP fun a0 eQ=>
 m R (o_bin .add 3 true u (.int .i64 1)) eQ fun a1 eR=>
 M a0 a1 eR) (
 mj2 (fun aN=>
 ((
 dp Tryz.prog (o_slice 47 n (some d) none none) fun v=>
 dq Tryz.prog o (o_load 34 e) fun x=>
 dp Tryz.prog (o_slice 54 F (some d) none none) fun y=>
 df Tryz.prog o (o_call (fv 56) [b8,v,x,y]) false fun g eS=>
 dp Tryz.prog (o_extract g 0) fun z=>
 dp Tryz.prog (o_extract g 1) fun A=>
 df Tryz.prog eS (o_alloc 56) true fun c eT=>
 df Tryz.prog eT (o_store 56 c z) false fun _ eU=>
 dend eU fun eV=>
 aN c A eV)∧(
 dp Tryz.prog (o_slice 47 n (some d) none none) fun v=>
 dq Tryz.prog o (o_load 34 e) fun x=>
 dp Tryz.prog (o_slice 54 F (some d) none none) fun y=>
 df Tryz.prog o (o_alloc 56) true fun c eW=>
 df Tryz.prog eW (o_call (fv 56) [b8,v,x,y]) false fun g eX=>
 dp Tryz.prog (o_extract g 0) fun z=>
 dp Tryz.prog (o_extract g 1) fun A=>
 df Tryz.prog eX (o_store 56 c z) false fun _ eY=>
 dend eY fun eZ=>
 aN c A eZ))) fun c e0 fT e1=>
 m R (o_un .not e0) e1 fun a2 aO=>
 mif a2 (
 m R (o_build 56 []) aO fun a3 e2=>
 m R (o_store 56 a a3) e2 fun _ aP=>
 rcell Tryz.prog 56 a aP fun b=>
 R (.returned (.tuple #[b,(.int .i64 16)])) aP) (
 m R (o_load 25 h) aO fun a4 e3=>
 m R (o_load 34 cA) e3 fun a5 e4=>
 m R (o_call (fv 50) [a4,G,a5,F]) e4 fun N e5=>
 m R (o_extract N 0) e5 fun a6 e6=>
 m R (o_extract N 1) e6 fun fP e7=>
 m R (o_fieldAddr 56 c 0) e7 fun a7 e8=>
 m R (o_store 25 a7 a6) e8 fun _ O=>
 ∃ S:Rl,
 dp Tryz.prog (o_fieldAddr 56 c 0) fun a8=>
 dqS Tryz.prog S O (o_load 25 a8) fun a9=>
 dp Tryz.prog (o_fieldAddr 56 c 3) fun bA=>
 dqS Tryz.prog S O (o_load 26 bA) fun bB=>
 dfS Tryz.prog S O (o_builtin .append #[26,26] 26 [false,false] [bB,aQ]) true fun bC e9=>
 dfS Tryz.prog S e9 (o_call (fv 8) [a9,bC]) false fun bD fA=>
 dp Tryz.prog (o_fieldAddr 56 c 3) fun bE=>
 dfS Tryz.prog S fA (o_store 26 bE bD) false fun _ fB=>
 dend fB fun fC=>
 m R (o_builtin .len #[53] 3 [false] [l]) fC fun bF bG=>
 ml1 (.int .i64 0) bG fun B fU bH Q=>
 m R (o_bin .lss 3 false B bF) bH fun bI T=>
 mif bI (
 m R (o_indexAddr 53 l B) T fun bJ bK=>
 m R (o_load 72 bJ) bK fun bL bM=>
 m R (o_alloc 72) bM fun U bN=>
 m R (o_store 72 U bL) bN fun _ j=>
 dp Tryz.prog (o_fieldAddr 56 c 1) fun bO=>
 dq Tryz.prog j (o_load 53 bO) fun bP=>
 dp Tryz.prog (o_fieldAddr 72 U 0) fun bQ=>
 dq Tryz.prog j (o_load 34 bQ) fun bR=>
 dp Tryz.prog (o_fieldAddr 72 U 1) fun bS=>
 dq Tryz.prog j (o_load 70 bS) fun bT=>
 df Tryz.prog j (o_call (fv 62) [bT]) true fun bU bV=>
 dp Tryz.prog (o_build 72 [(0,bR),(1,bU)]) fun bW=>
 df Tryz.prog bV (o_buildSlice 53 1 [(0,bW)]) true fun bX bY=>
 df Tryz.prog bY (o_builtin .append #[53,53] 53 [false,false] [bP,bX]) false fun bZ b0=>
 dp Tryz.prog (o_fieldAddr 56 c 1) fun b1=>
 df Tryz.prog b0 (o_store 53 b1 bZ) false fun _ b2=>
 dend b2 fun b3=>
 m R (o_bin .add 3 true B (.int .i64 1)) b3 fun b4 b5=>
 Q b4 b5) (
 m R (o_load 56 c) T fun b6 b7=>
 m R (o_store 56 a b6) b7 fun _ V=>
 rcell Tryz.prog 56 a V fun b=>
 R (.returned (.tuple #[b,(.int .i64 0)])) V)))))))))
def A_climb_Follow:Ann:=⟨[(13,[74],1237921149819448796343959552),(24,[28,114],P_ 124+P_ 30+P_ 28-P_ 114),(34,[158],P_ 174+P_ 34-P_ 158)],[(4,[40],P_ 49-P_ 40),(20,[26,27],P_ 108+P_ 28-P_ 93-P_ 26),(29,[31,32],P_ 136+P_ 33-P_ 124-P_ 31)],[(32,[⟨0,.q none,P_ 31,0,P_ 148⟩,⟨1,.q (some 0),P_ 148,1,P_ 149⟩,⟨2,.q none,P_ 31,0,P_ 150⟩,⟨3,.q (some 0),P_ 150,4,P_ 151⟩,⟨4,.q none,256,0,P_ 152⟩,⟨5,.f 0 true,P_ 153-P_ 151,28,P_ 153⟩,⟨6,.f 1 false,P_ 153+P_ 149,63,P_ 154⟩,⟨7,.q none,P_ 31,127,P_ 155⟩,⟨8,.f 2 false,P_ 156-P_ 154,255,0⟩]),(36,[⟨0,.q none,P_ 31,0,P_ 162⟩,⟨1,.q (some 0),P_ 162,1,P_ 163⟩,⟨2,.q none,P_ 34,0,P_ 164⟩,⟨3,.q (some 0),P_ 164,4,P_ 165⟩,⟨4,.q none,P_ 34,0,P_ 166⟩,⟨5,.q (some 0),P_ 166,16,P_ 167⟩,⟨6,.f 0 true,P_ 167,48,P_ 168⟩,⟨7,.q none,P_ 168+P_ 165,124,P_ 169⟩,⟨8,.f 1 true,P_ 169,252,P_ 170⟩,⟨9,.f 2 false,P_ 170+P_ 163,511,P_ 171⟩,⟨10,.q none,P_ 31,1023,P_ 172⟩,⟨11,.f 3 false,P_ 173-P_ 171,2047,0⟩])],[(19,[⟨[0,1,2,3,4,5,6,7,8,9,10,11,12,13,14,15,16,17],[⟨0,.q none,4194304,0,P_ 94⟩,⟨1,.q none,33554432,0,P_ 95⟩,⟨2,.q none,P_ 96-P_ 94,3,P_ 96⟩,⟨3,.q (some 0),P_ 96,7,P_ 97⟩,⟨4,.q none,16,0,P_ 98⟩,⟨5,.q none,33554432,0,P_ 99⟩,⟨6,.q none,P_ 100-P_ 98,48,P_ 100⟩,⟨7,.q none,P_ 100,112,P_ 101⟩,⟨8,.q (some 0),P_ 101,240,P_ 102⟩,⟨9,.q none,32,0,P_ 103⟩,⟨10,.q none,256,0,P_ 104⟩,⟨11,.f 0 false,P_ 105+P_ 97-P_ 102,2047,P_ 105⟩,⟨12,.q none,P_ 105,4095,P_ 93⟩,⟨13,.q none,P_ 93,8191,P_ 106⟩,⟨14,.q none,P_ 93,8191,P_ 107⟩,⟨15,.f 1 true,0,0,67108864⟩,⟨16,.f 2 false,P_ 106+P_ 26,49151,0⟩,⟨17,.q none,P_ 107,131071,P_ 27⟩]⟩,⟨[0,1,2,3,4,5,6,7,8,9,10,15,11,12,13,14,16,17],[⟨0,.q none,4194304,0,P_ 94⟩,⟨1,.q none,33554432,0,P_ 95⟩,⟨2,.q none,P_ 96-P_ 94,3,P_ 96⟩,⟨3,.q (some 0),P_ 96,7,P_ 97⟩,⟨4,.q none,16,0,P_ 98⟩,⟨5,.q none,33554432,0,P_ 99⟩,⟨6,.q none,P_ 100-P_ 98,48,P_ 100⟩,⟨7,.q none,P_ 100,112,P_ 101⟩,⟨8,.q (some 0),P_ 101,240,P_ 102⟩,⟨9,.q none,32,0,P_ 103⟩,⟨10,.q none,256,0,P_ 104⟩,⟨11,.f 1 false,P_ 105+P_ 97-P_ 102,2047,P_ 105⟩,⟨12,.q none,P_ 105,4095,P_ 93⟩,⟨13,.q none,P_ 93,8191,P_ 106⟩,⟨14,.q none,P_ 93,8191,P_ 107⟩,⟨15,.f 0 true,0,0,67108864⟩,⟨16,.f 2 false,P_ 106+P_ 26,49151,0⟩,⟨17,.q none,P_ 107,131071,P_ 27⟩]⟩]),(28,[⟨[0,1,2,3,4,5,6,7,8,9,10,11,12,13,14],[⟨0,.q none,1,0,P_ 125⟩,⟨1,.q none,2097152,0,P_ 126⟩,⟨2,.q none,33554432,0,P_ 127⟩,⟨3,.q none,P_ 128-P_ 126,6,P_ 128⟩,⟨4,.q (some 0),67108864,0,P_ 129⟩,⟨5,.q none,P_ 28,0,P_ 130⟩,⟨6,.q none,33554432,0,P_ 131⟩,⟨7,.q none,P_ 132-P_ 130,96,P_ 132⟩,⟨8,.f 0 false,P_ 132+P_ 130+P_ 125-P_ 128,255,P_ 133⟩,⟨9,.q none,P_ 133,511,P_ 124⟩,⟨10,.q none,P_ 124,1023,P_ 134⟩,⟨11,.q none,P_ 124,1023,P_ 135⟩,⟨12,.f 1 true,0,0,P_ 31⟩,⟨13,.f 2 false,P_ 134+P_ 31,6143,0⟩,⟨14,.q none,P_ 135,16383,P_ 32⟩]⟩,⟨[0,1,2,3,4,5,6,7,12,8,9,10,11,13,14],[⟨0,.q none,1,0,P_ 125⟩,⟨1,.q none,2097152,0,P_ 126⟩,⟨2,.q none,33554432,0,P_ 127⟩,⟨3,.q none,P_ 128-P_ 126,6,P_ 128⟩,⟨4,.q (some 0),67108864,0,P_ 129⟩,⟨5,.q none,P_ 28,0,P_ 130⟩,⟨6,.q none,33554432,0,P_ 131⟩,⟨7,.q none,P_ 132-P_ 130,96,P_ 132⟩,⟨8,.f 1 false,P_ 132+P_ 130+P_ 125-P_ 128,255,P_ 133⟩,⟨9,.q none,P_ 133,511,P_ 124⟩,⟨10,.q none,P_ 124,1023,P_ 134⟩,⟨11,.q none,P_ 124,1023,P_ 135⟩,⟨12,.f 0 true,0,0,P_ 31⟩,⟨13,.f 2 false,P_ 134+P_ 31,6143,0⟩,⟨14,.q none,P_ 135,16383,P_ 32⟩]⟩])],[32]⟩
theorem C_climb_Follow (h:F_climb_Follow x0 x1 x2 x3 x4 x5 x6 x7 x8 w R):Calls Tryz.prog 20 #[x0,x1,x2,x3,x4,x5,x6,x7,x8] w R:=cc A_climb_Follow [x0,x1,x2,x3,x4,x5,x6,x7,x8] Tryz.func20 h
def F_bevyref08_Same (cP cQ:Value) (w:World) (R:Ending→World→Prop):Prop:=
 m R (o_box 25 cP) w fun f cR=>
 m R (o_box 25 cQ) cR fun l cS=>
 mj1 (fun cT=>
 m R (o_fieldAddr 25 f 0) cS fun cU cV=>
 m R (o_load 22 cU) cV fun U cW=>
 m R (o_builtin .len #[22] 3 [false] [U]) cW fun V cX=>
 m R (o_fieldAddr 25 l 0) cX fun W cY=>
 m R (o_load 22 W) cY fun X cZ=>
 m R (o_builtin .len #[22] 3 [false] [X]) cZ fun Y c0=>
 m R (o_bin .neq 3 false V Y) c0 fun a Z=>
 mguard a false (fun k=>m R (o_fieldAddr 25 f 1) Z k) Z fun aA r=>
 mguard a false (fun k=>m R (o_load 23 aA) r k) r fun aB s=>
 mguard a false (fun k=>m R (o_builtin .len #[23] 3 [false] [aB]) s k) s fun aC t=>
 mguard a false (fun k=>m R (o_fieldAddr 25 l 1) t k) t fun aD u=>
 mguard a false (fun k=>m R (o_load 23 aD) u k) u fun aE v=>
 mguard a false (fun k=>m R (o_builtin .len #[23] 3 [false] [aE]) v k) v fun aF x=>
 mguard a false (fun k=>m R (o_bin .neq 3 false aC aF) x k) x fun aG aH=>
 m R (o_pick a (.bool true) aG) aH fun g aI=>
 cT g aI) fun g c2 y=>
 mif g (
 R (.returned (.bool false)) y) (
 ml1 (.int .i64 0) y fun n c3 aJ o=>
 m R (o_fieldAddr 25 f 0) aJ fun aK aL=>
 m R (o_load 22 aK) aL fun aM aN=>
 m R (o_builtin .len #[22] 3 [false] [aM]) aN fun aO aP=>
 m R (o_bin .lss 3 false n aO) aP fun aQ c=>
 mif aQ (
 dp Tryz.prog (o_fieldAddr 25 f 0) fun aR=>
 dq Tryz.prog c (o_load 22 aR) fun aS=>
 dp Tryz.prog (o_indexAddr 22 aS n) fun aT=>
 dq Tryz.prog c (o_load 40 aT) fun aU=>
 dp Tryz.prog (o_fieldAddr 25 l 0) fun aV=>
 dq Tryz.prog c (o_load 22 aV) fun aW=>
 dp Tryz.prog (o_indexAddr 22 aW n) fun aX=>
 dq Tryz.prog c (o_load 40 aX) fun aY=>
 dp Tryz.prog (o_bin .neq 40 false aU aY) fun aZ=>
 dend c fun z=>
 mif aZ (
 R (.returned (.bool false)) z) (
 m R (o_bin .add 3 true n (.int .i64 1)) z fun a0 a1=>
 o a0 a1)) (
 ml1 (.int .i64 0) c fun p c4 a2 q=>
 m R (o_fieldAddr 25 f 1) a2 fun a3 a4=>
 m R (o_load 23 a3) a4 fun a5 a6=>
 m R (o_builtin .len #[23] 3 [false] [a5]) a6 fun a7 a8=>
 m R (o_bin .lss 3 false p a7) a8 fun a9 A=>
 mif a9 (
 m R (o_fieldAddr 25 f 1) A fun bA bB=>
 m R (o_load 23 bA) bB fun bC bD=>
 m R (o_indexAddr 23 bC p) bD fun bE bF=>
 m R (o_load 69 bE) bF fun bG bH=>
 m R (o_alloc 69) bH fun h bI=>
 m R (o_store 69 h bG) bI fun _ bJ=>
 m R (o_fieldAddr 25 l 1) bJ fun bK bL=>
 m R (o_load 23 bK) bL fun bM bN=>
 m R (o_indexAddr 23 bM p) bN fun bO bP=>
 m R (o_load 69 bO) bP fun bQ bR=>
 m R (o_alloc 69) bR fun i bS=>
 m R (o_store 69 i bQ) bS fun _ bT=>
 mj1 (fun bU=>
 m R (o_fieldAddr 69 h 0) bT fun bV bW=>
 m R (o_load 4 bV) bW fun bX bY=>
 m R (o_fieldAddr 69 i 0) bY fun bZ b0=>
 m R (o_load 4 bZ) b0 fun b1 b2=>
 m R (o_bin .neq 4 false bX b1) b2 fun d B=>
 mguard d false (fun k=>m R (o_fieldAddr 69 h 1) B k) B fun b3 C=>
 mguard d false (fun k=>m R (o_load 34 b3) C k) C fun b4 D=>
 mguard d false (fun k=>m R (o_fieldAddr 69 i 1) D k) D fun b5 E=>
 mguard d false (fun k=>m R (o_load 34 b5) E k) E fun b6 F=>
 mguard d false (fun k=>m R (o_bin .neq 34 false b4 b6) F k) F fun b7 b8=>
 m R (o_pick d (.bool true) b7) b8 fun e G=>
 mguard e false (fun k=>m R (o_fieldAddr 69 h 2) G k) G fun b9 H=>
 mguard e false (fun k=>m R (o_load 34 b9) H k) H fun cA I=>
 mguard e false (fun k=>m R (o_fieldAddr 69 i 2) I k) I fun cB J=>
 mguard e false (fun k=>m R (o_load 34 cB) J k) J fun cC K=>
 mguard e false (fun k=>m R (o_bin .neq 34 false cA cC) K k) K fun cD cE=>
 m R (o_pick e (.bool true) cD) cE fun b L=>
 mguard b false (fun k=>m R (o_fieldAddr 69 h 3) L k) L fun cF M=>
 mguard b false (fun k=>m R (o_load 47 cF) M k) M fun cG N=>
 mguard b false (fun k=>m R (o_fieldAddr 69 i 3) N k) N fun cH O=>
 mguard b false (fun k=>m R (o_load 47 cH) O k) O fun cI Q=>
 mguard b false (fun k=>m R (o_call (fv 63) [cG,cI]) Q k) Q fun cJ S=>
 mguard b false (fun k=>m R (o_un .not cJ) S k) S fun cK cL=>
 m R (o_pick b (.bool true) cK) cL fun j cM=>
 bU j cM) fun j c1 T=>
 mif j (
 R (.returned (.bool false)) T) (
 m R (o_bin .add 3 true p (.int .i64 1)) T fun cN cO=>
 q cN cO)) (
 R (.returned (.bool true)) A)))
def A_bevyref08_Same:Ann:=⟨[(4,[5],8796059467824),(9,[6],154742504910663738269368784)],[(2,[24],33553920),(14,[86],P_ 87-P_ 60)],[(6,[⟨0,.q none,4,0,P_ 32⟩,⟨1,.q (some 0),P_ 32,1,P_ 33⟩,⟨2,.q none,32,0,P_ 34⟩,⟨3,.q none,25769803776,7,P_ 35⟩,⟨4,.q (some 0),P_ 35,15,P_ 36⟩,⟨5,.q none,8,0,P_ 37⟩,⟨6,.q (some 0),P_ 37,32,P_ 38⟩,⟨7,.q none,32,0,P_ 39⟩,⟨8,.q none,824633720832,224,P_ 40⟩,⟨9,.q (some 0),P_ 40,480,P_ 41⟩,⟨10,.q none,2267742732288,1023,P_ 42⟩])],[],[]⟩
theorem C_bevyref08_Same (h:F_bevyref08_Same x0 x1 w R):Calls Tryz.prog 21 #[x0,x1] w R:=cc A_bevyref08_Same [x0,x1] Tryz.func21 h
def F_bevylaw09_has (dU aT r:Value) (w:World) (R:Ending→World→Prop):Prop:=
 m R (o_box 25 dU) w fun n dV=>
 m R (o_fieldAddr 25 n 0) dV fun bF dW=>
 m R (o_load 22 bF) dW fun bG dX=>
 m R (o_builtin .len #[22] 3 [false] [bG]) dX fun u dY=>
 ml2 (.int .i64 0) (.int .i64 0) dY fun l g d9 dZ s=>
 m R (o_bin .mul 3 true (.int .i64 2) u) dZ fun bH d0=>
 m R (o_bin .sub 3 true bH (.int .i64 2)) d0 fun bI d1=>
 m R (o_bin .leq 3 false g bI) d1 fun bJ bK=>
 mif bJ (
 mj1 (fun aU=>
 mj0 (fun d2=>
 m R (o_bin .mul 3 true (.int .i64 2) aT) bK fun bL d3=>
 m R (o_bin .neq 3 false g bL) d3 fun f v=>
 mguard f true (fun k=>m R (o_move g) v k) v fun bM x=>
 mguard f true (fun k=>m R (o_bin .rem 3 true bM (.int .i64 2)) x k) x fun bN y=>
 mguard f true (fun k=>m R (o_bin .eql 3 true bN (.int .i64 0)) y k) y fun bO z=>
 mguard f true (fun k=>m R (o_move bO) z k) z fun h A=>
 mguard h false (fun k=>m R (o_move u) A k) A fun bP B=>
 mguard h false (fun k=>m R (o_move g) B k) B fun bQ C=>
 mguard h false (fun k=>m R (o_move aT) C k) C fun bR D=>
 mguard h false (fun k=>m R (o_call (fv 53) [bP,bQ,bR]) D k) D fun bS E=>
 mguard h false (fun k=>m R (o_un .not bS) E k) E fun bT F=>
 mguard f true (fun k=>m R (o_pick h (.bool true) bT) F k) F fun bU G=>
 mguard f true (fun k=>m R (o_move bU) G k) G fun e H=>
 mguard e false (fun k=>m R (o_fieldAddr 25 n 1) H k) H fun bV I=>
 mguard e false (fun k=>m R (o_load 23 bV) I k) I fun bW J=>
 mguard e false (fun k=>m R (o_move g) J k) J fun bX K=>
 mguard e false (fun k=>m R (o_bin .quo 3 true bX (.int .i64 2)) K k) K fun bY L=>
 mguard e false (fun k=>m R (o_indexAddr 23 bW bY) L k) L fun bZ M=>
 mguard e false (fun k=>m R (o_fieldAddr 69 bZ 0) M k) M fun b0 N=>
 mguard e false (fun k=>m R (o_load 4 b0) N k) N fun b1 O=>
 mguard e false (fun k=>m R (o_un .not b1) O k) O fun b2 Q=>
 mguard f true (fun k=>m R (o_pick e (.bool true) b2) Q k) Q fun b3 b4=>
 m R (o_pick f b3 (.bool false)) b4 fun b5 S=>
 mif b5 (
 aU l S) (
 d2 S)) fun eA b6=>
 ml2 (.bool false) (.int .i64 0) b6 fun a o eB b7 t=>
 mj0 (fun b8=>
 m R (o_bin .rem 3 true g (.int .i64 2)) b7 fun b9 cA=>
 m R (o_bin .eql 3 true b9 (.int .i64 1)) cA fun d T=>
 mguard d true (fun k=>m R (o_move o) T k) T fun cB U=>
 mguard d true (fun k=>m R (o_fieldAddr 25 n 1) U k) U fun cC V=>
 mguard d true (fun k=>m R (o_load 23 cC) V k) V fun cD W=>
 mguard d true (fun k=>m R (o_move g) W k) W fun cE X=>
 mguard d true (fun k=>m R (o_bin .quo 3 true cE (.int .i64 2)) X k) X fun cF Y=>
 mguard d true (fun k=>m R (o_indexAddr 23 cD cF) Y k) Y fun cG Z=>
 mguard d true (fun k=>m R (o_fieldAddr 69 cG 3) Z k) Z fun cH aA=>
 mguard d true (fun k=>m R (o_load 47 cH) aA k) aA fun cI aB=>
 mguard d true (fun k=>m R (o_builtin .len #[47] 3 [false] [cI]) aB k) aB fun cJ aC=>
 mguard d true (fun k=>m R (o_bin .lss 3 false cB cJ) aC k) aC fun cK cL=>
 m R (o_pick d cK (.bool false)) cL fun cM p=>
 mif cM (
 b8 p) (
 mif a (
 aU l p) (
 m R (o_bin .add 3 true l (.int .i64 1)) p fun cN cO=>
 ml2 (.bool false) (.int .i64 0) cO fun b j d4 cP q=>
 m R (o_builtin .len #[26] 3 [false] [r]) cP fun cQ cR=>
 m R (o_bin .lss 3 false j cQ) cR fun cS aD=>
 mif cS (
 mj1 (fun cT=>
 m R (o_load 25 n) aD fun cU cV=>
 m R (o_call (fv 28) [cU,g]) cV fun aE cW=>
 m R (o_extract aE 0) cW fun cX cY=>
 m R (o_extract aE 1) cY fun d5 cZ=>
 m R (o_alloc 34) cZ fun aF c0=>
 m R (o_store 34 aF cX) c0 fun _ i=>
 qguard b false (fun k=>dp Tryz.prog (o_move r) k) fun aV=>
 qguard b false (fun k=>dp Tryz.prog (o_move j) k) fun aW=>
 qguard b false (fun k=>dp Tryz.prog (o_indexAddr 26 aV aW) k) fun aX=>
 qguard b false (fun k=>dp Tryz.prog (o_fieldAddr 43 aX 0) k) fun aY=>
 qguard b false (fun k=>dq Tryz.prog i (o_load 3 aY) k) fun aZ=>
 qguard b false (fun k=>dp Tryz.prog (o_move g) k) fun a0=>
 qguard b false (fun k=>dp Tryz.prog (o_bin .eql 3 false aZ a0) k) fun a1=>
 qguard b false (fun k=>dp Tryz.prog (o_move a1) k) fun c=>
 qguard c true (fun k=>dp Tryz.prog (o_move r) k) fun a2=>
 qguard c true (fun k=>dp Tryz.prog (o_move j) k) fun a3=>
 qguard c true (fun k=>dp Tryz.prog (o_indexAddr 26 a2 a3) k) fun a4=>
 qguard c true (fun k=>dp Tryz.prog (o_fieldAddr 43 a4 1) k) fun a5=>
 qguard c true (fun k=>dq Tryz.prog i (o_load 34 a5) k) fun a6=>
 mguard c true (fun k=>df Tryz.prog i (o_call (fv 11) [(.pointer none),a6]) true k) i fun a7 c1=>
 qguard c true (fun k=>dq Tryz.prog i (o_load 34 aF) k) fun a8=>
 qguard c true (fun k=>dp Tryz.prog (o_bin .eql 34 false a7 a8) k) fun a9=>
 qguard b false (fun k=>dp Tryz.prog (o_pick c a9 (.bool false)) k) fun bA=>
 dp Tryz.prog (o_pick b (.bool true) bA) fun bB=>
 dend c1 fun c2=>
 cT bB c2) fun b d6 c3=>
 m R (o_bin .add 3 true j (.int .i64 1)) c3 fun c4 c5=>
 q b c4 c5) (
 m R (o_un .not b) aD fun bC aG=>
 mif bC (
 R (.returned (.bool false)) aG) (
 aU cN aG))))) fun d7 aH=>
 mj1 (fun c6=>
 mguard a false (fun k=>m R (o_fieldAddr 25 n 1) aH k) aH fun c7 aI=>
 mguard a false (fun k=>m R (o_load 23 c7) aI k) aI fun c8 aJ=>
 mguard a false (fun k=>m R (o_move g) aJ k) aJ fun c9 aK=>
 mguard a false (fun k=>m R (o_bin .quo 3 true c9 (.int .i64 2)) aK k) aK fun dA aL=>
 mguard a false (fun k=>m R (o_indexAddr 23 c8 dA) aL k) aL fun dB aM=>
 mguard a false (fun k=>m R (o_fieldAddr 69 dB 3) aM k) aM fun dC aN=>
 mguard a false (fun k=>m R (o_load 47 dC) aN k) aN fun dD aO=>
 mguard a false (fun k=>m R (o_move o) aO k) aO fun dE aP=>
 mguard a false (fun k=>m R (o_indexAddr 47 dD dE) aP k) aP fun dF aQ=>
 mguard a false (fun k=>m R (o_load 3 dF) aQ k) aQ fun dG aR=>
 mguard a false (fun k=>m R (o_move aT) aR k) aR fun dH aS=>
 mguard a false (fun k=>m R (o_bin .eql 3 false dG dH) aS k) aS fun dI dJ=>
 m R (o_pick a (.bool true) dI) dJ fun dK dL=>
 c6 dK dL) fun a d8 dM=>
 m R (o_bin .add 3 true o (.int .i64 1)) dM fun dN dO=>
 t a dN dO) fun l eC dP=>
 m R (o_bin .add 3 true g (.int .i64 1)) dP fun dQ dR=>
 s l dQ dR) (
 m R (o_builtin .len #[26] 3 [false] [r]) bK fun bD dS=>
 m R (o_bin .eql 3 false bD l) dS fun bE dT=>
 R (.returned bE) dT)
def A_bevylaw09_has:Ann:=⟨[(4,[8,9],P_ 121+P_ 16+P_ 6-P_ 19-P_ 8),(9,[10,11],P_ 84+P_ 12-P_ 52-P_ 10),(16,[12,13],P_ 119+P_ 16-P_ 87-P_ 12)],[(5,[8],P_ 121+P_ 16+P_ 8+P_ 6-P_ 26-P_ 10),(7,[],P_ 52-P_ 26),(11,[],P_ 67-P_ 52),(17,[12],P_ 119+P_ 16+P_ 12-P_ 93-P_ 14),(10,[10],P_ 84+P_ 10-P_ 69)],[(19,[⟨0,.q none,4096,0,P_ 99⟩,⟨1,.q none,P_ 99,1,P_ 100⟩,⟨2,.q none,P_ 100+P_ 2,3,P_ 101⟩,⟨3,.q none,P_ 100+P_ 13,3,P_ 102⟩,⟨4,.q none,P_ 103-P_ 100,15,P_ 103⟩,⟨5,.q none,P_ 103+P_ 100,31,P_ 104⟩,⟨6,.q (some 0),P_ 104+P_ 100,63,P_ 105⟩,⟨7,.q none,P_ 100+P_ 9,3,P_ 106⟩,⟨8,.q none,P_ 107+P_ 100-P_ 105,255,P_ 107⟩,⟨9,.q none,P_ 107+P_ 100,511,P_ 108⟩,⟨10,.q none,P_ 108+P_ 2,1023,P_ 109⟩,⟨11,.q none,P_ 108+P_ 13,1023,P_ 110⟩,⟨12,.q none,P_ 111-P_ 108,4095,P_ 111⟩,⟨13,.q none,P_ 111+P_ 108,8191,P_ 112⟩,⟨14,.q (some 0),P_ 112+P_ 108,16383,P_ 113⟩,⟨15,.f 0 true,P_ 113+P_ 108,32767,P_ 114⟩,⟨16,.q (some 0),P_ 108+P_ 14,1023,P_ 115⟩,⟨17,.q none,P_ 116+P_ 108-P_ 114,131071,P_ 116⟩,⟨18,.q none,P_ 116+P_ 108+P_ 100,262143,P_ 117⟩,⟨19,.q none,P_ 117+P_ 100,524287,P_ 118⟩,⟨20,.q none,P_ 118,1048575,4096⟩])],[],[]⟩
theorem C_bevylaw09_has (h:F_bevylaw09_has x0 x1 x2 w R):Calls Tryz.prog 22 #[x0,x1,x2] w R:=cc A_bevylaw09_has [x0,x1,x2] Tryz.func22 h
def F_bevyref05_Pub (c:Value) (w:World) (R:Ending→World→Prop):Prop:=
 m R (o_box 33 c) w fun d e=>
 m R (o_alloc 33) e fun a f=>
 m R (o_load 33 d) f fun g h=>
 m R (o_call (fv 65) [g]) h fun i j=>
 m R (o_bin .add 9 true (.string (ByteArray.mk #[112,117,98])) i) j fun l n=>
 m R (o_call (fv 64) [l]) n fun o p=>
 m R (o_store 33 a o) p fun _ b=>
 rcell Tryz.prog 33 a b fun q=>
 R (.returned q) b
def A_bevyref05_Pub:Ann:=⟨[],[],[],[],[]⟩
theorem C_bevyref05_Pub (h:F_bevyref05_Pub x0 w R):Calls Tryz.prog 23 #[x0] w R:=cc A_bevyref05_Pub [x0] Tryz.func23 h
def F_tree_Right (eV:Value) (w:World) (R:Ending→World→Prop):Prop:=
 m R (o_box 25 eV) w fun o eW=>
 m R (o_fieldAddr 25 o 0) eW fun bL eX=>
 m R (o_load 22 bL) eX fun bM eY=>
 m R (o_builtin .len #[22] 3 [false] [bM]) eY fun e eZ=>
 mj1 (fun e0=>
 m R (o_bin .gtr 3 true e (.int .i64 64)) eZ fun c bN=>
 mguard c false (fun k=>m R (o_fieldAddr 25 o 1) bN k) bN fun bO bP=>
 mguard c false (fun k=>m R (o_load 23 bO) bP k) bP fun bQ bR=>
 mguard c false (fun k=>m R (o_builtin .len #[23] 3 [false] [bQ]) bR k) bR fun bS bT=>
 mguard c false (fun k=>m R (o_move e) bT k) bT fun bU bV=>
 mguard c false (fun k=>m R (o_bin .sub 3 true bU (.int .i64 1)) bV k) bV fun bW G=>
 mguard c false (fun k=>m R (o_builtin .max #[3,3] 3 [false,true] [bW,(.int .i64 0)]) G k) G fun bX H=>
 mguard c false (fun k=>m R (o_bin .neq 3 false bS bX) H k) H fun bY bZ=>
 m R (o_pick c (.bool true) bY) bZ fun q b0=>
 e0 q b0) fun q e7 I=>
 mif q (
 R (.returned (.bool false)) I) (
 m R (o_alloc 116) I fun b1 b2=>
 m R (o_fieldAddr 25 o 0) b2 fun b3 b4=>
 m R (o_load 22 b3) b4 fun J b5=>
 m R (o_builtin .len #[22] 3 [false] [J]) b5 fun b6 b7=>
 ml1 (.int .i64 0) b7 fun r e8 b8 F=>
 m R (o_bin .lss 3 false r b6) b8 fun b9 K=>
 mif b9 (
 mj0 (fun L=>
 m R (o_indexAddr 22 J r) K fun cA cB=>
 m R (o_load 40 cA) cB fun cC cD=>
 m R (o_alloc 40) cD fun p cE=>
 m R (o_store 40 p cC) cE fun _ cF=>
 m R (o_load 40 p) cF fun cG cH=>
 m R (o_build 40 []) cH fun cI cJ=>
 m R (o_bin .eql 40 false cG cI) cJ fun cK M=>
 mif cK (
 L M) (
 mj1 (fun cL=>
 m R (o_fieldAddr 40 p 0) M fun cM cN=>
 m R (o_load 3 cM) cN fun cO cP=>
 m R (o_bin .lss 3 true cO (.int .i64 1)) cP fun j N=>
 mguard j false (fun k=>m R (o_fieldAddr 40 p 0) N k) N fun cQ O=>
 mguard j false (fun k=>m R (o_load 3 cQ) O k) O fun cR Q=>
 mguard j false (fun k=>m R (o_bin .gtr 3 true cR (.int .i64 64)) Q k) Q fun cS cT=>
 m R (o_pick j (.bool true) cS) cT fun f S=>
 mguard f false (fun k=>m R (o_fieldAddr 40 p 0) S k) S fun cU T=>
 mguard f false (fun k=>m R (o_load 3 cU) T k) T fun cV U=>
 mguard f false (fun k=>m R (o_indexAddr 116 b1 cV) U k) U fun cW V=>
 mguard f false (fun k=>m R (o_load 4 cW) V k) V fun cX cY=>
 m R (o_pick f (.bool true) cX) cY fun cZ c0=>
 cL cZ c0) fun c1 e1 W=>
 mif c1 (
 R (.returned (.bool false)) W) (
 m R (o_fieldAddr 40 p 0) W fun c2 c3=>
 m R (o_load 3 c2) c3 fun c4 c5=>
 m R (o_indexAddr 116 b1 c4) c5 fun c6 c7=>
 m R (o_store 4 c6 (.bool true)) c7 fun _ c8=>
 L c8))) fun e2 c9=>
 m R (o_bin .add 3 true r (.int .i64 1)) c9 fun dA dB=>
 F dA dB) (
 m R (o_fieldAddr 25 o 1) K fun dC dD=>
 m R (o_load 23 dC) dD fun X dE=>
 m R (o_builtin .len #[23] 3 [false] [X]) dE fun dF dG=>
 ml1 (.int .i64 0) dG fun l e3 dH s=>
 m R (o_bin .lss 3 false l dF) dH fun dI Y=>
 mif dI (
 m R (o_indexAddr 23 X l) Y fun dJ dK=>
 m R (o_load 69 dJ) dK fun dL dM=>
 m R (o_alloc 69) dM fun t dN=>
 m R (o_store 69 t dL) dN fun _ dO=>
 mj1 (fun dP=>
 m R (o_fieldAddr 69 t 0) dO fun dQ dR=>
 m R (o_load 4 dQ) dR fun dS dT=>
 m R (o_un .not dS) dT fun n Z=>
 mguard n true (fun k=>m R (o_load 69 t) Z k) Z fun dU aA=>
 mguard n true (fun k=>m R (o_call (fv 66) [dU]) aA k) aA fun dV aB=>
 mguard n true (fun k=>m R (o_un .not dV) aB k) aB fun dW dX=>
 m R (o_pick n dW (.bool false)) dX fun u dY=>
 dP u dY) fun u e4 aC=>
 mif u (
 R (.returned (.bool false)) aC) (
 m R (o_fieldAddr 69 t 3) aC fun dZ d0=>
 m R (o_load 47 dZ) d0 fun aD d1=>
 m R (o_builtin .len #[47] 3 [false] [aD]) d1 fun d2 d3=>
 ml1 (.int .i64 0) d3 fun g e5 d4 v=>
 m R (o_bin .lss 3 false g d2) d4 fun d5 aE=>
 mif d5 (
 m R (o_indexAddr 47 aD g) aE fun d6 d7=>
 m R (o_load 3 d6) d7 fun x d8=>
 mj1 (fun d9=>
 m R (o_bin .mul 3 true (.int .i64 2) l) d8 fun eA eB=>
 m R (o_bin .add 3 true eA (.int .i64 1)) eB fun eC eD=>
 m R (o_call (fv 60) [e,eC,x]) eD fun eE eF=>
 m R (o_un .not eE) eF fun d aF=>
 mguard d false (fun k=>m R (o_fieldAddr 25 o 0) aF k) aF fun eG aG=>
 mguard d false (fun k=>m R (o_load 22 eG) aG k) aG fun eH aH=>
 mguard d false (fun k=>m R (o_move x) aH k) aH fun eI aI=>
 mguard d false (fun k=>m R (o_indexAddr 22 eH eI) aI k) aI fun eJ aJ=>
 mguard d false (fun k=>m R (o_fieldAddr 40 eJ 0) aJ k) aJ fun eK aK=>
 mguard d false (fun k=>m R (o_load 3 eK) aK k) aK fun eL aL=>
 mguard d false (fun k=>m R (o_bin .eql 3 true eL (.int .i64 0)) aL k) aL fun eM eN=>
 m R (o_pick d (.bool true) eM) eN fun h aM=>
 mguard h false (fun k=>m R (o_move g) aM k) aM fun eO aN=>
 mguard h false (fun k=>m R (o_bin .gtr 3 true eO (.int .i64 0)) aN k) aN fun eP aO=>
 mguard h false (fun k=>m R (o_move eP) aO k) aO fun b aP=>
 mguard b true (fun k=>m R (o_move x) aP k) aP fun eQ aQ=>
 mguard b true (fun k=>m R (o_fieldAddr 69 t 3) aQ k) aQ fun a0 aR=>
 mguard b true (fun k=>m R (o_load 47 a0) aR k) aR fun a1 aS=>
 mguard b true (fun k=>m R (o_move g) aS k) aS fun a2 aT=>
 mguard b true (fun k=>m R (o_bin .sub 3 true a2 (.int .i64 1)) aT k) aT fun a3 aU=>
 mguard b true (fun k=>m R (o_indexAddr 47 a1 a3) aU k) aU fun a4 aV=>
 mguard b true (fun k=>m R (o_load 3 a4) aV k) aV fun a5 aW=>
 mguard b true (fun k=>m R (o_bin .leq 3 false eQ a5) aW k) aW fun a6 aX=>
 mguard h false (fun k=>m R (o_pick b a6 (.bool false)) aX k) aX fun a7 eR=>
 m R (o_pick h (.bool true) a7) eR fun i eS=>
 d9 i eS) fun i e6 aY=>
 mif i (
 R (.returned (.bool false)) aY) (
 m R (o_bin .add 3 true g (.int .i64 1)) aY fun a8 eT=>
 v a8 eT)) (
 m R (o_bin .add 3 true l (.int .i64 1)) aE fun a9 eU=>
 s a9 eU))) (
 m R (o_bin .eql 3 true e (.int .i64 0)) Y fun a aZ=>
 mguard a false (fun k=>m R (o_fieldAddr 25 o 0) aZ k) aZ fun bA y=>
 mguard a false (fun k=>m R (o_load 22 bA) y k) y fun bB z=>
 mguard a false (fun k=>m R (o_move e) z k) z fun bC A=>
 mguard a false (fun k=>m R (o_bin .sub 3 true bC (.int .i64 1)) A k) A fun bD B=>
 mguard a false (fun k=>m R (o_indexAddr 22 bB bD) B k) B fun bE C=>
 mguard a false (fun k=>m R (o_fieldAddr 40 bE 0) C k) C fun bF D=>
 mguard a false (fun k=>m R (o_load 3 bF) D k) D fun bG E=>
 mguard a false (fun k=>m R (o_bin .gtr 3 true bG (.int .i64 0)) E k) E fun bH bI=>
 m R (o_pick a (.bool true) bH) bI fun bJ bK=>
 R (.returned bJ) bK)))
def A_tree_Right:Ann:=⟨[(6,[28],36028796750528580),(14,[58],P_ 111+P_ 11+P_ 2-P_ 58-P_ 7),(19,[74],P_ 110+P_ 11+P_ 2-P_ 74-P_ 9)],[(3,[24],33538048),(12,[],18014397435740228),(10,[36],P_ 51-P_ 36),(17,[70],P_ 71-P_ 63),(22,[108],P_ 109-P_ 79)],[],[],[]⟩
theorem C_tree_Right (h:F_tree_Right x0 w R):Calls Tryz.prog 24 #[x0] w R:=cc A_tree_Right [x0] Tryz.func24 h
def F_climb_pub (I b:Value) (w:World) (R:Ending→World→Prop):Prop:=
 m R (o_box 25 I) w fun c J=>
 m R (o_alloc 34) J fun d K=>
 m R (o_bin .rem 3 true b (.int .i64 2)) K fun L M=>
 m R (o_bin .eql 3 true L (.int .i64 0)) M fun N a=>
 mif N (
 ∃ S:Rl,
 dp Tryz.prog (o_fieldAddr 25 c 0) fun O=>
 dqS Tryz.prog S a (o_load 22 O) fun f=>
 dp Tryz.prog (o_bin .quo 3 true b (.int .i64 2)) fun g=>
 dp Tryz.prog (o_indexAddr 22 f g) fun h=>
 dp Tryz.prog (o_fieldAddr 40 h 1) fun i=>
 dqS Tryz.prog S a (o_load 34 i) fun j=>
 dp Tryz.prog (o_fieldAddr 25 c 0) fun l=>
 dqS Tryz.prog S a (o_load 22 l) fun n=>
 dp Tryz.prog (o_bin .quo 3 true b (.int .i64 2)) fun o=>
 dp Tryz.prog (o_indexAddr 22 n o) fun p=>
 dp Tryz.prog (o_fieldAddr 40 p 0) fun q=>
 dqS Tryz.prog S a (o_load 3 q) fun r=>
 dp Tryz.prog (o_bin .gtr 3 true r (.int .i64 0)) fun s=>
 dfS Tryz.prog S a (o_store 34 d j) true fun _ Q=>
 dend Q fun t=>
 rcell Tryz.prog 34 d t fun e=>
 R (.returned (.tuple #[e,s])) t) (
 ∃ S:Rl,
 dp Tryz.prog (o_fieldAddr 25 c 1) fun u=>
 dqS Tryz.prog S a (o_load 23 u) fun v=>
 dp Tryz.prog (o_bin .quo 3 true b (.int .i64 2)) fun x=>
 dp Tryz.prog (o_indexAddr 23 v x) fun y=>
 dp Tryz.prog (o_fieldAddr 69 y 1) fun z=>
 dqS Tryz.prog S a (o_load 34 z) fun A=>
 dp Tryz.prog (o_fieldAddr 25 c 1) fun B=>
 dqS Tryz.prog S a (o_load 23 B) fun C=>
 dp Tryz.prog (o_bin .quo 3 true b (.int .i64 2)) fun D=>
 dp Tryz.prog (o_indexAddr 23 C D) fun E=>
 dp Tryz.prog (o_fieldAddr 69 E 0) fun F=>
 dqS Tryz.prog S a (o_load 4 F) fun G=>
 dfS Tryz.prog S a (o_store 34 d A) true fun _ T=>
 dend T fun H=>
 rcell Tryz.prog 34 d H fun e=>
 R (.returned (.tuple #[e,G])) H)
def A_climb_pub:Ann:=⟨[],[],[(2,[⟨0,.q none,4,0,512⟩,⟨1,.q (some 0),512,1,1024⟩,⟨2,.q none,2,0,2048⟩,⟨3,.q none,2048,4,4096⟩,⟨4,.q none,5120,15,8192⟩,⟨5,.q none,8192,31,16384⟩,⟨6,.q (some 0),16384,63,32768⟩,⟨7,.q none,4,0,65536⟩,⟨8,.q (some 0),65536,128,131072⟩,⟨9,.q none,2,0,262144⟩,⟨10,.q none,262144,512,524288⟩,⟨11,.q none,655360,1920,1048576⟩,⟨12,.q none,1048576,3968,2097152⟩,⟨13,.q (some 0),2097152,8064,4194304⟩,⟨14,.q none,4194304,16256,8388608⟩,⟨15,.f 0 true,32784,127,0⟩,⟨16,.q none,8388608,65535,32⟩]),(3,[⟨0,.q none,4,0,16777216⟩,⟨1,.q (some 0),16777216,1,33554432⟩,⟨2,.q none,2,0,67108864⟩,⟨3,.q none,67108864,4,P_ 27⟩,⟨4,.q none,167772160,15,P_ 28⟩,⟨5,.q none,P_ 28,31,P_ 29⟩,⟨6,.q (some 0),P_ 29,63,P_ 30⟩,⟨7,.q none,4,0,P_ 31⟩,⟨8,.q (some 0),P_ 31,128,P_ 32⟩,⟨9,.q none,2,0,P_ 33⟩,⟨10,.q none,P_ 33,512,P_ 34⟩,⟨11,.q none,21474836480,1920,P_ 35⟩,⟨12,.q none,P_ 35,3968,P_ 36⟩,⟨13,.q (some 0),P_ 36,8064,P_ 37⟩,⟨14,.f 0 true,1073741840,127,0⟩,⟨15,.q none,P_ 37,32767,32⟩])],[],[2,3]⟩
theorem C_climb_pub (h:F_climb_pub x0 x1 w R):Calls Tryz.prog 25 #[x0,x1] w R:=cc A_climb_pub [x0,x1] Tryz.func25 h
def F_climb_sorted (b:Value) (w:World) (R:Ending→World→Prop):Prop:=
 m R (o_call (fv 67) [b]) w fun a c=>
 m R (o_call (fv 68) [a,(fv 69)]) c fun g d=>
 m R (o_call (fv 70) [a,(fv 71)]) d fun e f=>
 R (.returned e) f
def A_climb_sorted:Ann:=⟨[],[],[],[],[]⟩
theorem C_climb_sorted (h:F_climb_sorted x0 w R):Calls Tryz.prog 26 #[x0] w R:=cc A_climb_sorted [x0] Tryz.func26 h
def F_bevyref09_Pub (I b:Value) (w:World) (R:Ending→World→Prop):Prop:=
 m R (o_box 25 I) w fun c J=>
 m R (o_alloc 34) J fun d K=>
 m R (o_bin .rem 3 true b (.int .i64 2)) K fun L M=>
 m R (o_bin .eql 3 true L (.int .i64 0)) M fun N a=>
 mif N (
 ∃ S:Rl,
 dp Tryz.prog (o_fieldAddr 25 c 0) fun O=>
 dqS Tryz.prog S a (o_load 22 O) fun f=>
 dp Tryz.prog (o_bin .quo 3 true b (.int .i64 2)) fun g=>
 dp Tryz.prog (o_indexAddr 22 f g) fun h=>
 dp Tryz.prog (o_fieldAddr 40 h 1) fun i=>
 dqS Tryz.prog S a (o_load 34 i) fun j=>
 dp Tryz.prog (o_fieldAddr 25 c 0) fun l=>
 dqS Tryz.prog S a (o_load 22 l) fun n=>
 dp Tryz.prog (o_bin .quo 3 true b (.int .i64 2)) fun o=>
 dp Tryz.prog (o_indexAddr 22 n o) fun p=>
 dp Tryz.prog (o_fieldAddr 40 p 0) fun q=>
 dqS Tryz.prog S a (o_load 3 q) fun r=>
 dp Tryz.prog (o_bin .neq 3 true r (.int .i64 0)) fun s=>
 dfS Tryz.prog S a (o_store 34 d j) true fun _ Q=>
 dend Q fun t=>
 rcell Tryz.prog 34 d t fun e=>
 R (.returned (.tuple #[e,s])) t) (
 ∃ S:Rl,
 dp Tryz.prog (o_fieldAddr 25 c 1) fun u=>
 dqS Tryz.prog S a (o_load 23 u) fun v=>
 dp Tryz.prog (o_bin .quo 3 true b (.int .i64 2)) fun x=>
 dp Tryz.prog (o_indexAddr 23 v x) fun y=>
 dp Tryz.prog (o_fieldAddr 69 y 1) fun z=>
 dqS Tryz.prog S a (o_load 34 z) fun A=>
 dp Tryz.prog (o_fieldAddr 25 c 1) fun B=>
 dqS Tryz.prog S a (o_load 23 B) fun C=>
 dp Tryz.prog (o_bin .quo 3 true b (.int .i64 2)) fun D=>
 dp Tryz.prog (o_indexAddr 23 C D) fun E=>
 dp Tryz.prog (o_fieldAddr 69 E 0) fun F=>
 dqS Tryz.prog S a (o_load 4 F) fun G=>
 dfS Tryz.prog S a (o_store 34 d A) true fun _ T=>
 dend T fun H=>
 rcell Tryz.prog 34 d H fun e=>
 R (.returned (.tuple #[e,G])) H)
def A_bevyref09_Pub:Ann:=⟨[],[],[(2,[⟨0,.q none,4,0,512⟩,⟨1,.q (some 0),512,1,1024⟩,⟨2,.q none,2,0,2048⟩,⟨3,.q none,2048,4,4096⟩,⟨4,.q none,5120,15,8192⟩,⟨5,.q none,8192,31,16384⟩,⟨6,.q (some 0),16384,63,32768⟩,⟨7,.q none,4,0,65536⟩,⟨8,.q (some 0),65536,128,131072⟩,⟨9,.q none,2,0,262144⟩,⟨10,.q none,262144,512,524288⟩,⟨11,.q none,655360,1920,1048576⟩,⟨12,.q none,1048576,3968,2097152⟩,⟨13,.q (some 0),2097152,8064,4194304⟩,⟨14,.q none,4194304,16256,8388608⟩,⟨15,.f 0 true,32784,127,0⟩,⟨16,.q none,8388608,65535,32⟩]),(3,[⟨0,.q none,4,0,16777216⟩,⟨1,.q (some 0),16777216,1,33554432⟩,⟨2,.q none,2,0,67108864⟩,⟨3,.q none,67108864,4,P_ 27⟩,⟨4,.q none,167772160,15,P_ 28⟩,⟨5,.q none,P_ 28,31,P_ 29⟩,⟨6,.q (some 0),P_ 29,63,P_ 30⟩,⟨7,.q none,4,0,P_ 31⟩,⟨8,.q (some 0),P_ 31,128,P_ 32⟩,⟨9,.q none,2,0,P_ 33⟩,⟨10,.q none,P_ 33,512,P_ 34⟩,⟨11,.q none,21474836480,1920,P_ 35⟩,⟨12,.q none,P_ 35,3968,P_ 36⟩,⟨13,.q (some 0),P_ 36,8064,P_ 37⟩,⟨14,.f 0 true,1073741840,127,0⟩,⟨15,.q none,P_ 37,32767,32⟩])],[],[2,3]⟩
theorem C_bevyref09_Pub (h:F_bevyref09_Pub x0 x1 w R):Calls Tryz.prog 28 #[x0,x1] w R:=cc A_bevyref09_Pub [x0,x1] Tryz.func28 h
def F_tree_clone (aD:Value) (w:World) (R:Ending→World→Prop):Prop:=
 m R (o_box 25 aD) w fun g aE=>
 m R (o_alloc 25) aE fun r b=>
 mj1 (fun q=>
 ((
 dp Tryz.prog (o_fieldAddr 25 g 0) fun h=>
 dq Tryz.prog b (o_load 22 h) fun i=>
 dp Tryz.prog (o_fieldAddr 25 g 1) fun j=>
 dq Tryz.prog b (o_load 23 j) fun l=>
 df Tryz.prog b (o_call (fv 72) [i]) true fun n aF=>
 df Tryz.prog aF (o_call (fv 73) [l]) false fun c aG=>
 dp Tryz.prog (o_build 25 [(0,n),(1,c)]) fun d=>
 df Tryz.prog aG (o_alloc 25) true fun a aH=>
 df Tryz.prog aH (o_store 25 a d) false fun _ aI=>
 dend aI fun aJ=>
 q a aJ)∧(
 dp Tryz.prog (o_fieldAddr 25 g 0) fun h=>
 dq Tryz.prog b (o_load 22 h) fun i=>
 dp Tryz.prog (o_fieldAddr 25 g 1) fun j=>
 dq Tryz.prog b (o_load 23 j) fun l=>
 df Tryz.prog b (o_call (fv 72) [i]) true fun n aK=>
 df Tryz.prog aK (o_alloc 25) true fun a aL=>
 df Tryz.prog aL (o_call (fv 73) [l]) false fun c s=>
 dp Tryz.prog (o_build 25 [(0,n),(1,c)]) fun d=>
 df Tryz.prog s (o_store 25 a d) false fun _ t=>
 dend t fun u=>
 q a u)∧(
 dp Tryz.prog (o_fieldAddr 25 g 0) fun h=>
 dq Tryz.prog b (o_load 22 h) fun i=>
 dp Tryz.prog (o_fieldAddr 25 g 1) fun j=>
 dq Tryz.prog b (o_load 23 j) fun l=>
 df Tryz.prog b (o_alloc 25) true fun a v=>
 df Tryz.prog v (o_call (fv 72) [i]) true fun n x=>
 df Tryz.prog x (o_call (fv 73) [l]) false fun c y=>
 dp Tryz.prog (o_build 25 [(0,n),(1,c)]) fun d=>
 df Tryz.prog y (o_store 25 a d) false fun _ z=>
 dend z fun A=>
 q a A))) fun a aN B=>
 m R (o_fieldAddr 25 a 1) B fun C D=>
 m R (o_load 23 C) D fun E F=>
 m R (o_builtin .len #[23] 3 [false] [E]) F fun G H=>
 ml1 (.int .i64 0) H fun f aO I o=>
 m R (o_bin .lss 3 false f G) I fun J e=>
 mif J (
 dp Tryz.prog (o_fieldAddr 25 a 1) fun K=>
 dq Tryz.prog e (o_load 23 K) fun L=>
 dp Tryz.prog (o_fieldAddr 25 a 1) fun M=>
 dq Tryz.prog e (o_load 23 M) fun N=>
 dp Tryz.prog (o_indexAddr 23 N f) fun O=>
 dp Tryz.prog (o_fieldAddr 69 O 3) fun Q=>
 dq Tryz.prog e (o_load 47 Q) fun S=>
 df Tryz.prog e (o_call (fv 74) [S]) true fun T U=>
 dp Tryz.prog (o_indexAddr 23 L f) fun V=>
 dp Tryz.prog (o_fieldAddr 69 V 3) fun W=>
 df Tryz.prog U (o_store 47 W T) false fun _ X=>
 dend X fun Y=>
 m R (o_bin .add 3 true f (.int .i64 1)) Y fun Z aA=>
 o Z aA) (
 m R (o_load 25 a) e fun aB aC=>
 m R (o_store 25 r aB) aC fun _ p=>
 rcell Tryz.prog 25 r p fun aM=>
 R (.returned aM) p)
def A_tree_clone:Ann:=⟨[(3,[15],2147450896)],[(2,[3],4072)],[(5,[⟨0,.q none,8,0,262144⟩,⟨1,.q (some 0),262144,1,524288⟩,⟨2,.q none,16,0,1048576⟩,⟨3,.q none,8,0,2097152⟩,⟨4,.q (some 0),2097152,8,4194304⟩,⟨5,.q none,16,0,8388608⟩,⟨6,.q none,12582912,56,16777216⟩,⟨7,.q none,16777216,120,33554432⟩,⟨8,.q (some 0),33554432,248,67108864⟩,⟨9,.f 0 true,67108864,504,P_ 27⟩,⟨10,.q none,1572864,1023,P_ 28⟩,⟨11,.q none,P_ 28,2047,P_ 29⟩,⟨12,.f 1 false,671088640,4095,0⟩])],[(1,[⟨[0,1,3,4,2,5,6,7,8],[⟨0,.q none,2,0,32⟩,⟨1,.q (some 0),32,1,64⟩,⟨2,.f 0 true,64,3,128⟩,⟨3,.q none,2,0,256⟩,⟨4,.q (some 0),256,8,512⟩,⟨5,.f 1 false,512,31,1024⟩,⟨6,.q none,1152,63,2048⟩,⟨7,.f 2 true,0,0,8⟩,⟨8,.f 3 false,2056,255,0⟩]⟩,⟨[0,1,3,4,2,7,5,6,8],[⟨0,.q none,2,0,32⟩,⟨1,.q (some 0),32,1,64⟩,⟨2,.f 0 true,64,3,128⟩,⟨3,.q none,2,0,256⟩,⟨4,.q (some 0),256,8,512⟩,⟨5,.f 2 false,512,31,1024⟩,⟨6,.q none,1152,63,2048⟩,⟨7,.f 1 true,0,0,8⟩,⟨8,.f 3 false,2056,255,0⟩]⟩,⟨[0,1,3,4,7,2,5,6,8],[⟨0,.q none,2,0,32⟩,⟨1,.q (some 0),32,1,64⟩,⟨2,.f 1 true,64,3,128⟩,⟨3,.q none,2,0,256⟩,⟨4,.q (some 0),256,8,512⟩,⟨5,.f 2 false,512,31,1024⟩,⟨6,.q none,1152,63,2048⟩,⟨7,.f 0 true,0,0,8⟩,⟨8,.f 3 false,2056,255,0⟩]⟩])],[]⟩
theorem C_tree_clone (h:F_tree_clone x0 w R):Calls Tryz.prog 30 #[x0] w R:=cc A_tree_clone [x0] Tryz.func30 h
def F_slices_Index_api_Leaf_api_Leaf (d l:Value) (w:World) (R:Ending→World→Prop):Prop:=
 m R (o_box 40 l) w fun n o=>
 m R (o_builtin .len #[22] 3 [false] [d]) o fun p q=>
 ml1 (.int .i64 0) q fun a u r b=>
 m R (o_bin .lss 3 false a p) r fun s c=>
 mif s (
 dq Tryz.prog c (o_load 40 n) fun e=>
 dp Tryz.prog (o_indexAddr 22 d a) fun f=>
 dq Tryz.prog c (o_load 40 f) fun g=>
 dp Tryz.prog (o_bin .eql 40 false e g) fun h=>
 dend c fun i=>
 mif h (
 R (.returned a) i) (
 m R (o_bin .add 3 true a (.int .i64 1)) i fun j t=>
 b j t)) (
 R (.returned (.int .i64 (-1))) c)
def A_slices_Index_api_Leaf_api_Leaf:Ann:=⟨[(2,[8],524080)],[],[(4,[⟨0,.q (some 0),8,0,2048⟩,⟨1,.q none,1,0,4096⟩,⟨2,.q none,32,0,8192⟩,⟨3,.q none,12288,6,16384⟩,⟨4,.q (some 0),16384,14,32768⟩,⟨5,.q none,34816,31,65536⟩])],[],[]⟩
theorem C_slices_Index_api_Leaf_api_Leaf (h:F_slices_Index_api_Leaf_api_Leaf x0 x1 w R):Calls Tryz.prog 31 #[x0,x1] w R:=cc A_slices_Index_api_Leaf_api_Leaf [x0,x1] Tryz.func31 h
def F_slices_BinarySearch_int_int (g D:Value) (w:World) (R:Ending→World→Prop):Prop:=
 m R (o_builtin .len #[47] 3 [false] [g]) w fun h aJ=>
 ml2 (.int .i64 0) h aJ fun c E aR aK d=>
 m R (o_bin .lss 3 false c E) aK fun F G=>
 mif F (
 m R (o_bin .add 3 false c E) G fun H aL=>
 m R (o_conv 3 59 H) aL fun I aM=>
 m R (o_bin .shr 59 true I (.int .u64 1)) aM fun J aN=>
 m R (o_conv 59 3 J) aN fun e aO=>
 m R (o_indexAddr 47 g e) aO fun K aP=>
 m R (o_load 3 K) aP fun L aQ=>
 m R (o_call (fv 76) [L,D]) aQ fun M i=>
 mif M (
 m R (o_bin .add 3 true e (.int .i64 1)) i fun N O=>
 d N E O) (
 d c e i)) (
 m R (o_bin .lss 3 false c h) G fun a j=>
 mguard a true (fun k=>m R (o_move g) j k) j fun Q l=>
 mguard a true (fun k=>m R (o_move c) l k) l fun S n=>
 mguard a true (fun k=>m R (o_indexAddr 47 Q S) n k) n fun T o=>
 mguard a true (fun k=>m R (o_load 3 T) o k) o fun U p=>
 mguard a true (fun k=>m R (o_move D) p k) p fun V q=>
 mguard a true (fun k=>m R (o_bin .eql 3 false U V) q k) q fun W r=>
 mguard a true (fun k=>m R (o_move W) r k) r fun b s=>
 mguard b false (fun k=>m R (o_move g) s k) s fun X t=>
 mguard b false (fun k=>m R (o_move c) t k) t fun Y u=>
 mguard b false (fun k=>m R (o_indexAddr 47 X Y) u k) u fun Z v=>
 mguard b false (fun k=>m R (o_load 3 Z) v k) v fun aA x=>
 mguard b false (fun k=>m R (o_call (fv 77) [aA]) x k) x fun aB y=>
 mguard b false (fun k=>m R (o_move aB) y k) y fun f z=>
 mguard f true (fun k=>m R (o_move D) z k) z fun aC A=>
 mguard f true (fun k=>m R (o_call (fv 77) [aC]) A k) A fun aD B=>
 mguard b false (fun k=>m R (o_pick f aD (.bool false)) B k) B fun aE C=>
 mguard a true (fun k=>m R (o_pick b (.bool true) aE) C k) C fun aF aG=>
 m R (o_pick a aF (.bool false)) aG fun aH aI=>
 R (.returned (.tuple #[c,aH])) aI)
def A_slices_BinarySearch_int_int:Ann:=⟨[(3,[7,8],2147476352)],[],[],[],[]⟩
theorem C_slices_BinarySearch_int_int (h:F_slices_BinarySearch_int_int x0 x1 w R):Calls Tryz.prog 33 #[x0,x1] w R:=cc A_slices_BinarySearch_int_int [x0,x1] Tryz.func33 h
def F_slices_Insert_int_int (d c f:Value) (w:World) (R:Ending→World→Prop):Prop:=
 m R (o_slice 47 d (some c) none none) w fun aP aJ=>
 m R (o_builtin .len #[47] 3 [false] [f]) aJ fun a aK=>
 m R (o_bin .eql 3 true a (.int .i64 0)) aK fun i j=>
 mif i (
 R (.returned d) j) (
 m R (o_builtin .len #[47] 3 [false] [d]) j fun e aL=>
 m R (o_bin .eql 3 false c e) aL fun l n=>
 mif l (
 m R (o_builtin .append #[47,47] 47 [false,false] [d,f]) n fun o aM=>
 R (.returned o) aM) (
 m R (o_bin .add 3 false e a) n fun p aN=>
 m R (o_builtin .cap #[47] 3 [false] [d]) aN fun q aO=>
 m R (o_bin .gtr 3 false p q) aO fun r s=>
 mif r (
 m R (o_slice 47 d none (some c) none) s fun t u=>
 m R (o_bin .add 3 false e a) u fun v x=>
 m R (o_bin .sub 3 false v c) x fun y z=>
 m R (o_builtin .append #[47,3] 47 [false,false] [t,y]) z fun g A=>
 m R (o_slice 47 g (some c) none none) A fun B C=>
 m R (o_builtin .copy #[47,47] 3 [false,false] [B,f]) C fun aQ D=>
 dp Tryz.prog (o_bin .add 3 false c a) fun E=>
 dp Tryz.prog (o_slice 47 g (some E) none none) fun F=>
 dp Tryz.prog (o_slice 47 d (some c) none none) fun G=>
 df Tryz.prog D (o_builtin .copy #[47,47] 3 [false,false] [F,G]) false fun aR H=>
 dend H fun I=>
 R (.returned g) I) (
 m R (o_bin .add 3 false e a) s fun J K=>
 m R (o_slice 47 d none (some J) none) K fun b L=>
 m R (o_bin .add 3 false c a) L fun M N=>
 m R (o_slice 47 b (some M) none none) N fun O Q=>
 m R (o_call (fv 78) [f,O]) Q fun S T=>
 m R (o_un .not S) T fun U h=>
 mif U (
 dp Tryz.prog (o_bin .add 3 false c a) fun V=>
 dp Tryz.prog (o_slice 47 b (some V) none none) fun W=>
 dp Tryz.prog (o_slice 47 b (some c) none none) fun X=>
 df Tryz.prog h (o_builtin .copy #[47,47] 3 [false,false] [W,X]) false fun aS Y=>
 dend Y fun Z=>
 m R (o_slice 47 b (some c) none none) Z fun aA aB=>
 m R (o_builtin .copy #[47,47] 3 [false,false] [aA,f]) aB fun aT aC=>
 R (.returned b) aC) (
 m R (o_slice 47 b (some e) none none) h fun aD aE=>
 m R (o_builtin .copy #[47,47] 3 [false,false] [aD,f]) aE fun aU aF=>
 m R (o_slice 47 b (some c) none none) aF fun aG aH=>
 m R (o_call (fv 79) [aG,a]) aH fun aV aI=>
 R (.returned b) aI))))
def A_slices_Insert_int_int:Ann:=⟨[],[],[(11,[⟨0,.q none,512,0,P_ 46⟩,⟨1,.q none,2,0,P_ 47⟩,⟨2,.q none,128,0,P_ 48⟩,⟨3,.q none,P_ 49-P_ 47,6,P_ 49⟩,⟨4,.q none,P_ 49+P_ 46,15,P_ 50⟩,⟨5,.q none,1,0,P_ 51⟩,⟨6,.q none,2,0,P_ 52⟩,⟨7,.q none,P_ 53-P_ 51,96,P_ 53⟩,⟨8,.f 0 false,P_ 53+P_ 50,255,P_ 54⟩]),(15,[⟨0,.q none,1,0,P_ 69⟩,⟨1,.q none,2,0,P_ 70⟩,⟨2,.q none,128,0,P_ 71⟩,⟨3,.q none,P_ 72-P_ 70,6,P_ 72⟩,⟨4,.q none,P_ 72+P_ 69,15,P_ 73⟩,⟨5,.q none,1,0,P_ 74⟩,⟨6,.q none,2,0,P_ 75⟩,⟨7,.q none,P_ 76-P_ 74,96,P_ 76⟩,⟨8,.f 0 false,P_ 76+P_ 73,255,P_ 77⟩])],[],[]⟩
theorem C_slices_Insert_int_int (h:F_slices_Insert_int_int x0 x1 x2 w R):Calls Tryz.prog 34 #[x0,x1,x2] w R:=cc A_slices_Insert_int_int [x0,x1,x2] Tryz.func34 h
def F_prim_public (c:Value) (w:World) (R:Ending→World→Prop):Prop:=
 m R (o_box 34 c) w fun d e=>
 m R (o_alloc 34) e fun a f=>
 m R (o_slice 34 d none none none) f fun g h=>
 m R (o_conv 99 9 g) h fun i j=>
 m R (o_buildSlice 70 2 [(0,(.string (ByteArray.mk #[112,117,98]))),(1,i)]) j fun l n=>
 m R (o_call (fv 80) [l]) n fun o p=>
 m R (o_store 34 a o) p fun _ b=>
 rcell Tryz.prog 34 a b fun q=>
 R (.returned q) b
def A_prim_public:Ann:=⟨[],[],[],[],[]⟩
theorem C_prim_public (h:F_prim_public x0 w R):Calls Tryz.prog 35 #[x0] w R:=cc A_prim_public [x0] Tryz.func35 h
def F_book_Book_Note (a bI:Value) (w:World) (R:Ending→World→Prop):Prop:=
 m R (o_box 86 bI) w fun d bJ=>
 m R (o_fieldAddr 86 d 1) bJ fun bK bL=>
 m R (o_load 54 bK) bL fun bM bN=>
 m R (o_builtin .len #[54] 3 [false] [bM]) bN fun o bO=>
 m R (o_bin .eql 3 true o (.int .i64 0)) bO fun p q=>
 mif p (
 R (.returned (.int .i64 1)) q) (
 m R (o_bin .eql 82 true a (.pointer none)) q fun r s=>
 mif r (
 R (.returned (.int .i64 0)) s) (
 m R (o_load 86 d) s fun t bP=>
 m R (o_call (fv 81) [t]) bP fun g bQ=>
 m R (o_nilCheck a) bQ fun u bR=>
 m R (o_fieldAddr 136 u 1) bR fun v x=>
 m R (o_load 132 v) x fun y z=>
 m R (o_lookup 132 y g false) z fun A h=>
 mif A (
 R (.returned (.int .i64 0)) h) (
 m R (o_nilCheck a) h fun B C=>
 m R (o_fieldAddr 136 B 0) C fun D E=>
 m R (o_load 131 D) E fun F G=>
 m R (o_builtin .len #[131] 3 [false] [F]) G fun H I=>
 m R (o_bin .geq 3 true H (.int .i64 1048576)) I fun J i=>
 mif J (
 R (.returned (.int .i64 9)) i) (
 m R (o_nilCheck a) i fun K L=>
 m R (o_fieldAddr 136 K 1) L fun M N=>
 m R (o_load 132 M) N fun O Q=>
 m R (o_mapUpdate 132 O g (.bool true)) Q fun _ S=>
 m R (o_fieldAddr 86 d 0) S fun T U=>
 m R (o_load 54 T) U fun j V=>
 m R (o_builtin .len #[54] 3 [false] [j]) V fun W X=>
 ml1 (.int .i64 0) X fun e bS Y f=>
 m R (o_bin .lss 3 false e W) Y fun Z b=>
 mif Z (
 m R (o_indexAddr 54 j e) b fun aA aB=>
 m R (o_load 34 aA) aB fun aC aD=>
 m R (o_alloc 34) aD fun aE aF=>
 m R (o_store 34 aE aC) aF fun _ c=>
 dp Tryz.prog (o_nilCheck a) fun aG=>
 dp Tryz.prog (o_fieldAddr 136 aG 2) fun aH=>
 dq Tryz.prog c (o_load 133 aH) fun l=>
 dq Tryz.prog c (o_load 34 aE) fun aI=>
 dp Tryz.prog (o_nilCheck a) fun aJ=>
 dp Tryz.prog (o_fieldAddr 136 aJ 0) fun aK=>
 dq Tryz.prog c (o_load 131 aK) fun aL=>
 dp Tryz.prog (o_builtin .len #[131] 3 [false] [aL]) fun aM=>
 df Tryz.prog c (o_buildSlice 47 1 [(0,aM)]) true fun aN aO=>
 df Tryz.prog aO (o_mapEntry 133 l aI) false fun n aP=>
 dp Tryz.prog (o_extract n 0) fun aQ=>
 df Tryz.prog aP (o_builtin .append #[47,47] 47 [false,false] [aQ,aN]) false fun aR aS=>
 dp Tryz.prog (o_extract n 1) fun aT=>
 df Tryz.prog aS (o_entryStore 133 l aT aR) false fun _ aU=>
 dend aU fun aV=>
 m R (o_bin .add 3 true e (.int .i64 1)) aV fun aW aX=>
 f aW aX) (
 dp Tryz.prog (o_nilCheck a) fun aY=>
 dp Tryz.prog (o_fieldAddr 136 aY 0) fun aZ=>
 dq Tryz.prog b (o_load 131 aZ) fun a0=>
 dp Tryz.prog (o_fieldAddr 86 d 0) fun a1=>
 dq Tryz.prog b (o_load 54 a1) fun a2=>
 df Tryz.prog b (o_call (fv 82) [a2]) true fun a3 a4=>
 dp Tryz.prog (o_fieldAddr 86 d 1) fun a5=>
 dq Tryz.prog b (o_load 54 a5) fun a6=>
 df Tryz.prog a4 (o_call (fv 82) [a6]) true fun a7 a8=>
 dp Tryz.prog (o_build 86 [(0,a3),(1,a7)]) fun a9=>
 df Tryz.prog a8 (o_buildSlice 131 1 [(0,a9)]) true fun bA bB=>
 df Tryz.prog bB (o_builtin .append #[131,131] 131 [false,false] [a0,bA]) false fun bC bD=>
 dp Tryz.prog (o_nilCheck a) fun bE=>
 dp Tryz.prog (o_fieldAddr 136 bE 0) fun bF=>
 df Tryz.prog bD (o_store 131 bF bC) false fun _ bG=>
 dend bG fun bH=>
 R (.returned (.int .i64 0)) bH)))))
def A_book_Book_Note:Ann:=⟨[(12,[38],288230101273804928)],[],[(14,[⟨0,.q none,1,0,P_ 42⟩,⟨1,.q none,P_ 42,1,P_ 43⟩,⟨2,.q none,P_ 43,3,P_ 44⟩,⟨3,.q (some 0),P_ 44,7,P_ 45⟩,⟨4,.q (some 0),128,0,P_ 46⟩,⟨5,.q none,1,0,P_ 48⟩,⟨6,.q none,P_ 48,32,P_ 49⟩,⟨7,.q none,P_ 49,96,P_ 50⟩,⟨8,.q (some 0),P_ 50,224,P_ 51⟩,⟨9,.q none,P_ 51,480,P_ 52⟩,⟨10,.f 0 true,P_ 52,992,P_ 53⟩,⟨11,.f 1 false,P_ 47-P_ 45,2047,P_ 54⟩,⟨12,.q none,P_ 54,4095,P_ 47⟩,⟨13,.f 2 false,P_ 53+P_ 47,8191,P_ 55⟩,⟨14,.q none,P_ 54,4095,P_ 56⟩,⟨15,.f 3 false,108121575428980736,32767,0⟩]),(16,[⟨0,.q none,1,0,P_ 58⟩,⟨1,.q none,1,0,P_ 59⟩,⟨2,.q none,P_ 59,2,P_ 60⟩,⟨3,.q none,P_ 60,6,P_ 61⟩,⟨4,.q (some 0),P_ 61,14,P_ 62⟩,⟨5,.q none,8,0,P_ 63⟩,⟨6,.q (some 0),P_ 63,32,P_ 64⟩,⟨7,.f 0 true,P_ 64,96,P_ 65⟩,⟨8,.q none,8,0,P_ 66⟩,⟨9,.q (some 0),P_ 66,256,P_ 67⟩,⟨10,.f 1 true,P_ 67,992,P_ 68⟩,⟨11,.q none,P_ 68+P_ 65,2016,P_ 69⟩,⟨12,.f 2 true,P_ 69,4064,P_ 70⟩,⟨13,.f 3 false,P_ 70+P_ 62,8190,P_ 71⟩,⟨14,.q none,P_ 58,16383,P_ 72⟩,⟨15,.q none,P_ 72,32767,P_ 73⟩,⟨16,.f 4 false,P_ 73+P_ 71,65535,0⟩])],[],[]⟩
theorem C_book_Book_Note (h:F_book_Book_Note x0 x1 w R):Calls Tryz.prog 36 #[x0,x1] w R:=cc A_book_Book_Note [x0,x1] Tryz.func36 h
def F_prim_Mark (c:Value) (w:World) (R:Ending→World→Prop):Prop:=
 m R (o_box 34 c) w fun d e=>
 m R (o_alloc 34) e fun a f=>
 m R (o_slice 34 d none none none) f fun g h=>
 m R (o_conv 99 9 g) h fun i j=>
 m R (o_buildSlice 70 2 [(0,(.string (ByteArray.mk #[109,97,114,107]))),(1,i)]) j fun l n=>
 m R (o_call (fv 80) [l]) n fun o p=>
 m R (o_store 34 a o) p fun _ b=>
 rcell Tryz.prog 34 a b fun q=>
 R (.returned q) b
def A_prim_Mark:Ann:=⟨[],[],[],[],[]⟩
theorem C_prim_Mark (h:F_prim_Mark x0 w R):Calls Tryz.prog 37 #[x0] w R:=cc A_prim_Mark [x0] Tryz.func37 h
def F_tree_sound (g:Value) (w:World) (R:Ending→World→Prop):Prop:=
 m R (o_box 25 g) w fun c h=>
 m R (o_alloc 25) h fun a i=>
 m R (o_load 25 c) i fun j l=>
 m R (o_call (fv 24) [j]) l fun n d=>
 mif n (
 m R (o_load 25 c) d fun o p=>
 m R (o_store 25 a o) p fun _ e=>
 rcell Tryz.prog 25 a e fun b=>
 R (.returned b) e) (
 m R (o_build 25 []) d fun q r=>
 m R (o_store 25 a q) r fun _ f=>
 rcell Tryz.prog 25 a f fun b=>
 R (.returned b) f)
def A_tree_sound:Ann:=⟨[],[],[],[],[]⟩
theorem C_tree_sound (h:F_tree_sound x0 w R):Calls Tryz.prog 38 #[x0] w R:=cc A_tree_sound [x0] Tryz.func38 h
def F_slices_IndexFunc_api_Leaf_api_Leaf (c j:Value) (w:World) (R:Ending→World→Prop):Prop:=
 m R (o_builtin .len #[22] 3 [false] [c]) w fun l n=>
 ml1 (.int .i64 0) n fun a t o b=>
 m R (o_bin .lss 3 false a l) o fun p d=>
 mif p (
 m R (o_indexAddr 22 c a) d fun e q=>
 m R (o_load 40 e) q fun f r=>
 m R (o_call j [f]) r fun g h=>
 mif g (
 R (.returned a) h) (
 m R (o_bin .add 3 true a (.int .i64 1)) h fun i s=>
 b i s)) (
 R (.returned (.int .i64 (-1))) d)
def A_slices_IndexFunc_api_Leaf_api_Leaf:Ann:=⟨[(2,[8],524080)],[],[],[],[]⟩
theorem C_slices_IndexFunc_api_Leaf_api_Leaf (h:F_slices_IndexFunc_api_Leaf_api_Leaf x0 x1 w R):Calls Tryz.prog 40 #[x0,x1] w R:=cc A_slices_IndexFunc_api_Leaf_api_Leaf [x0,x1] Tryz.func40 h
def F_tree_Place_1 (a b:Value) (w:World) (R:Ending→World→Prop):Prop:=
 m R (o_box 40 a) w fun c d=>
 m R (o_fieldAddr 40 c 0) d fun e f=>
 m R (o_load 3 e) f fun g h=>
 m R (o_load 3 b) h fun i j=>
 m R (o_bin .eql 3 false g i) j fun l n=>
 R (.returned l) n
def A_tree_Place_1:Ann:=⟨[],[],[],[],[]⟩
theorem C_tree_Place_1 (h:F_tree_Place_1 x0 x1 w R):Calls Tryz.prog 41 #[x0,x1] w R:=cc A_tree_Place_1 [x0,x1] Tryz.func41 h
def F_tree_none (G h:Value) (w:World) (R:Ending→World→Prop):Prop:=
 m R (o_box 25 G) w fun i H=>
 m R (o_bin .lss 3 true h (.int .i64 0)) H fun b j=>
 mguard b false (fun k=>m R (o_move h) j k) j fun I l=>
 mguard b false (fun k=>m R (o_fieldAddr 25 i 0) l k) l fun J n=>
 mguard b false (fun k=>m R (o_load 22 J) n k) n fun o p=>
 mguard b false (fun k=>m R (o_builtin .len #[22] 3 [false] [o]) p k) p fun q r=>
 mguard b false (fun k=>m R (o_bin .geq 3 false I q) r k) r fun s K=>
 m R (o_pick b (.bool true) s) K fun a t=>
 mguard a false (fun k=>m R (o_fieldAddr 25 i 0) t k) t fun u v=>
 mguard a false (fun k=>m R (o_load 22 u) v k) v fun x c=>
 mguard a false (fun k=>m R (o_move h) c k) c fun y d=>
 mguard a false (fun k=>m R (o_indexAddr 22 x y) d k) d fun z e=>
 mguard a false (fun k=>m R (o_fieldAddr 40 z 0) e k) e fun A f=>
 mguard a false (fun k=>m R (o_load 3 A) f k) f fun B g=>
 mguard a false (fun k=>m R (o_bin .eql 3 true B (.int .i64 0)) g k) g fun C D=>
 m R (o_pick a (.bool true) C) D fun E F=>
 R (.returned E) F
def A_tree_none:Ann:=⟨[],[],[],[],[]⟩
theorem C_tree_none (h:F_tree_none x0 x1 w R):Calls Tryz.prog 42 #[x0,x1] w R:=cc A_tree_none [x0,x1] Tryz.func42 h
def F_tree_blank (A B:Value) (w:World) (R:Ending→World→Prop):Prop:=
 m R (o_box 25 A) w fun d C=>
 m R (o_fieldAddr 25 d 0) C fun D E=>
 m R (o_load 22 D) E fun F G=>
 m R (o_builtin .len #[22] 3 [false] [F]) G fun H I=>
 m R (o_call (fv 32) [H,B]) I fun c J=>
 m R (o_builtin .len #[47] 3 [false] [c]) J fun e K=>
 ml1 (.int .i64 0) K fun a N L b=>
 m R (o_bin .lss 3 false a e) L fun f g=>
 mif f (
 m R (o_indexAddr 47 c a) g fun h M=>
 m R (o_load 3 h) M fun i j=>
 m R (o_fieldAddr 25 d 1) j fun l n=>
 m R (o_load 23 l) n fun o p=>
 m R (o_bin .quo 3 true i (.int .i64 2)) p fun q r=>
 m R (o_build 69 []) r fun s t=>
 m R (o_indexAddr 23 o q) t fun u v=>
 m R (o_store 69 u s) v fun _ x=>
 m R (o_bin .add 3 true a (.int .i64 1)) x fun y z=>
 b y z) (
 R (.returned (.tuple #[])) g)
def A_tree_blank:Ann:=⟨[(2,[12],8384544)],[],[],[],[]⟩
theorem C_tree_blank (h:F_tree_blank x0 x1 w R):Calls Tryz.prog 43 #[x0,x1] w R:=cc A_tree_blank [x0,x1] Tryz.func43 h
def F_climb_blank (G h:Value) (w:World) (R:Ending→World→Prop):Prop:=
 m R (o_box 25 G) w fun i H=>
 m R (o_bin .lss 3 true h (.int .i64 0)) H fun b j=>
 mguard b false (fun k=>m R (o_move h) j k) j fun I l=>
 mguard b false (fun k=>m R (o_fieldAddr 25 i 0) l k) l fun J n=>
 mguard b false (fun k=>m R (o_load 22 J) n k) n fun o p=>
 mguard b false (fun k=>m R (o_builtin .len #[22] 3 [false] [o]) p k) p fun q r=>
 mguard b false (fun k=>m R (o_bin .geq 3 false I q) r k) r fun s K=>
 m R (o_pick b (.bool true) s) K fun a t=>
 mguard a false (fun k=>m R (o_fieldAddr 25 i 0) t k) t fun u v=>
 mguard a false (fun k=>m R (o_load 22 u) v k) v fun x c=>
 mguard a false (fun k=>m R (o_move h) c k) c fun y d=>
 mguard a false (fun k=>m R (o_indexAddr 22 x y) d k) d fun z e=>
 mguard a false (fun k=>m R (o_fieldAddr 40 z 0) e k) e fun A f=>
 mguard a false (fun k=>m R (o_load 3 A) f k) f fun B g=>
 mguard a false (fun k=>m R (o_bin .eql 3 true B (.int .i64 0)) g k) g fun C D=>
 m R (o_pick a (.bool true) C) D fun E F=>
 R (.returned E) F
def A_climb_blank:Ann:=⟨[],[],[],[],[]⟩
theorem C_climb_blank (h:F_climb_blank x0 x1 w R):Calls Tryz.prog 44 #[x0,x1] w R:=cc A_climb_blank [x0,x1] Tryz.func44 h
def F_climb_up (f g X:Value) (w:World) (R:Ending→World→Prop):Prop:=
 m R (o_box 34 X) w fun b Y=>
 m R (o_alloc 34) Y fun h Z=>
 m R (o_builtin .len #[47] 3 [false] [g]) Z fun i aA=>
 ml3 (.slice none 0 0) (.slice none 0 0) (.int .i64 0) aA fun j d a aG aB c=>
 m R (o_bin .lss 3 false a i) aB fun l n=>
 mif l (
 m R (o_indexAddr 47 g a) n fun o aC=>
 m R (o_load 3 o) aC fun p aD=>
 mj0 (fun q=>
 m R (o_bin .gtr 3 true a (.int .i64 0)) aD fun r s=>
 mif r (
 m R (o_load 34 b) s fun t aE=>
 m R (o_call (fv 46) [f,t,(.string (ByteArray.mk #[112,97,116,104])),(.string (ByteArray.mk #[]))]) aE fun u v=>
 m R (o_store 34 b u) v fun _ x=>
 q x) (
 q s)) fun aH y=>
 m R (o_load 34 b) y fun z A=>
 m R (o_buildSlice 54 1 [(0,z)]) A fun B C=>
 m R (o_builtin .append #[54,54] 54 [false,false] [j,B]) C fun D E=>
 m R (o_load 34 b) E fun F G=>
 m R (o_call (fv 46) [f,F,(.string (ByteArray.mk #[110,111,100,101])),(.string (ByteArray.mk #[]))]) G fun H I=>
 m R (o_build 43 [(0,p),(1,H)]) I fun J K=>
 m R (o_buildSlice 26 1 [(0,J)]) K fun L M=>
 m R (o_builtin .append #[26,26] 26 [false,false] [d,L]) M fun N O=>
 m R (o_bin .add 3 true a (.int .i64 1)) O fun Q S=>
 c D N Q S) (
 m R (o_load 34 b) n fun T U=>
 m R (o_call (fv 46) [f,T,(.string (ByteArray.mk #[99,111,109,109,105,116])),(.string (ByteArray.mk #[]))]) U fun V W=>
 m R (o_store 34 h V) W fun _ e=>
 rcell Tryz.prog 34 h e fun aF=>
 R (.returned (.tuple #[j,d,aF])) e)
def A_climb_up:Ann:=⟨[(4,[9,10,15],274877881856)],[(8,[],32505856)],[],[],[]⟩
theorem C_climb_up (h:F_climb_up x0 x1 x2 w R):Calls Tryz.prog 45 #[x0,x1,x2] w R:=cc A_climb_up [x0,x1,x2] Tryz.func45 h
def F_prim_Derive (s t u v:Value) (w:World) (R:Ending→World→Prop):Prop:=
 m R (o_box 34 t) w fun c x=>
 m R (o_alloc 34) x fun d y=>
 m R (o_load 34 c) y fun e z=>
 m R (o_call (fv 85) [e,u,v]) z fun f A=>
 m R (o_alloc 34) A fun b B=>
 m R (o_store 34 b f) B fun _ C=>
 m R (o_load 34 c) C fun g D=>
 m R (o_buildSlice 54 1 [(0,g)]) D fun h E=>
 m R (o_load 34 b) E fun i F=>
 m R (o_buildSlice 54 1 [(0,i)]) F fun j l=>
 m R (o_build 86 [(0,h),(1,j)]) l fun n o=>
 m R (o_call (fv 36) [s,n]) o fun H p=>
 m R (o_load 34 b) p fun q r=>
 m R (o_store 34 d q) r fun _ a=>
 rcell Tryz.prog 34 d a fun G=>
 R (.returned G) a
def A_prim_Derive:Ann:=⟨[],[],[],[],[]⟩
theorem C_prim_Derive (h:F_prim_Derive x0 x1 x2 x3 w R):Calls Tryz.prog 46 #[x0,x1,x2,x3] w R:=cc A_prim_Derive [x0,x1,x2,x3] Tryz.func46 h
def F_climb_beside (I J d K:Value) (w:World) (R:Ending→World→Prop):Prop:=
 m R (o_box 25 I) w fun e L=>
 m R (o_box 47 K) L fun M N=>
 m R (o_bin .mul 3 true (.int .i64 2) J) N fun f O=>
 m R (o_builtin .len #[47] 3 [false] [d]) O fun g Q=>
 ml3 (.slice none 0 0) f (.int .i64 0) Q fun h i a V S b=>
 m R (o_bin .lss 3 false a g) S fun j l=>
 mif j (
 m R (o_indexAddr 47 d a) l fun n T=>
 m R (o_load 3 n) T fun o c=>
 dq Tryz.prog c (o_load 25 e) fun p=>
 dp Tryz.prog (o_fieldAddr 25 e 0) fun q=>
 dq Tryz.prog c (o_load 22 q) fun r=>
 dp Tryz.prog (o_builtin .len #[22] 3 [false] [r]) fun s=>
 df Tryz.prog c (o_call (fv 87) [s,i]) true fun t U=>
 df Tryz.prog U (o_call (fv 86) [p,t]) false fun u v=>
 dend v fun x=>
 m R (o_func (.func 89) [] [M]) x fun y z=>
 m R (o_call (fv 88) [u,y]) z fun A B=>
 m R (o_buildSlice 95 1 [(0,A)]) B fun C D=>
 m R (o_builtin .append #[95,95] 95 [false,false] [h,C]) D fun E F=>
 m R (o_bin .add 3 true a (.int .i64 1)) F fun G H=>
 b E o G H) (
 R (.returned h) l)
def A_climb_beside:Ann:=⟨[(4,[9,10,18],137438705152)],[],[(6,[⟨0,.q (some 0),16,0,4194304⟩,⟨1,.q none,16,0,8388608⟩,⟨2,.q (some 0),8388608,2,16777216⟩,⟨3,.q none,16777216,6,33554432⟩,⟨4,.q none,1024,0,67108864⟩,⟨5,.f 0 true,100663296,30,P_ 27⟩,⟨6,.f 1 false,138412032,63,P_ 28⟩,⟨7,.q none,P_ 28,127,8192⟩])],[],[]⟩
theorem C_climb_beside (h:F_climb_beside x0 x1 x2 x3 w R):Calls Tryz.prog 47 #[x0,x1,x2,x3] w R:=cc A_climb_beside [x0,x1,x2,x3] Tryz.func47 h
def F_prim_Wrap (j aM aN aO v aP:Value) (w:World) (R:Ending→World→Prop):Prop:=
 m R (o_box 34 aM) w fun l aQ=>
 m R (o_box 34 aN) aQ fun s aR=>
 m R (o_builtin .len #[9] 3 [false] [v]) aR fun x aS=>
 m R (o_bin .gtr 3 true x (.int .i64 65536)) aS fun y i=>
 mif y (
 R (.returned (.string (ByteArray.mk #[]))) i) (
 mj1 (fun z=>
 ((
 dq Tryz.prog i (o_load 34 l) fun n=>
 dp Tryz.prog (o_slice 34 s none none none) fun o=>
 dq Tryz.prog i (o_conv 99 9 o) fun p=>
 df Tryz.prog i (o_call (fv 91) [n,p]) false fun q aT=>
 df Tryz.prog aT (o_alloc 34) true fun a aU=>
 df Tryz.prog aU (o_store 34 a q) false fun _ aV=>
 dend aV fun aW=>
 z a aW)∧(
 dq Tryz.prog i (o_load 34 l) fun n=>
 dp Tryz.prog (o_slice 34 s none none none) fun o=>
 dq Tryz.prog i (o_conv 99 9 o) fun p=>
 df Tryz.prog i (o_alloc 34) true fun a aX=>
 df Tryz.prog aX (o_call (fv 91) [n,p]) false fun q A=>
 df Tryz.prog A (o_store 34 a q) false fun _ B=>
 dend B fun C=>
 z a C))) fun a aZ b=>
 mj0 (fun u=>
 ((
 dq Tryz.prog b (o_load 34 l) fun c=>
 dq Tryz.prog b (o_load 34 a) fun d=>
 df Tryz.prog b (o_call (fv 37) [c]) true fun e D=>
 df Tryz.prog D (o_buildSlice 54 1 [(0,e)]) true fun f E=>
 df Tryz.prog E (o_buildSlice 54 1 [(0,d)]) true fun g F=>
 dp Tryz.prog (o_build 86 [(0,f),(1,g)]) fun h=>
 df Tryz.prog F (o_call (fv 36) [j,h]) false fun t G=>
 dend G fun H=>
 u H)∧(
 dq Tryz.prog b (o_load 34 l) fun c=>
 dq Tryz.prog b (o_load 34 a) fun d=>
 df Tryz.prog b (o_call (fv 37) [c]) true fun e I=>
 df Tryz.prog I (o_buildSlice 54 1 [(0,d)]) true fun g J=>
 df Tryz.prog J (o_buildSlice 54 1 [(0,e)]) true fun f K=>
 dp Tryz.prog (o_build 86 [(0,f),(1,g)]) fun h=>
 df Tryz.prog K (o_call (fv 36) [j,h]) false fun t L=>
 dend L fun M=>
 u M)∧(
 dq Tryz.prog b (o_load 34 l) fun c=>
 dq Tryz.prog b (o_load 34 a) fun d=>
 df Tryz.prog b (o_buildSlice 54 1 [(0,d)]) true fun g N=>
 df Tryz.prog N (o_call (fv 37) [c]) true fun e O=>
 df Tryz.prog O (o_buildSlice 54 1 [(0,e)]) true fun f Q=>
 dp Tryz.prog (o_build 86 [(0,f),(1,g)]) fun h=>
 df Tryz.prog Q (o_call (fv 36) [j,h]) false fun t S=>
 dend S fun T=>
 u T))) fun a0 U=>
 m R (o_load 34 s) U fun V W=>
 m R (o_buildSlice 54 1 [(0,V)]) W fun X Y=>
 m R (o_load 34 a) Y fun Z aA=>
 m R (o_buildSlice 54 1 [(0,Z)]) aA fun aB aC=>
 m R (o_build 86 [(0,X),(1,aB)]) aC fun aD aE=>
 m R (o_call (fv 36) [j,aD]) aE fun aY r=>
 dp Tryz.prog (o_slice 34 s none none none) fun aF=>
 dq Tryz.prog r (o_conv 99 9 aF) fun aG=>
 dq Tryz.prog r (o_load 34 a) fun aH=>
 df Tryz.prog r (o_call (fv 92) [j,aH,aO,v,aP]) true fun aI aJ=>
 dp Tryz.prog (o_bin .add 9 false aG aI) fun aK=>
 dend aJ fun aL=>
 R (.returned aK) aL)
def A_prim_Wrap:Ann:=⟨[],[(4,[13],1974272),(5,[],534773760)],[(6,[⟨0,.q none,256,0,P_ 36⟩,⟨1,.q (some 0),P_ 36,1,P_ 37⟩,⟨2,.q none,1,0,P_ 38⟩,⟨3,.q (some 0),8192,0,P_ 39⟩,⟨4,.q none,8,0,P_ 40⟩,⟨5,.q none,16,0,P_ 41⟩,⟨6,.q none,32,0,P_ 42⟩,⟨7,.f 0 true,8521215115264,124,P_ 43⟩,⟨8,.q none,8933531975680,255,P_ 44⟩,⟨9,.q none,P_ 44,511,4096⟩])],[(3,[⟨[0,1,2,3,4,5],[⟨0,.q (some 0),128,0,131072⟩,⟨1,.q none,256,0,262144⟩,⟨2,.q (some 0),262144,2,524288⟩,⟨3,.f 0 false,655360,7,1048576⟩,⟨4,.f 1 true,0,0,8192⟩,⟨5,.f 2 false,1056768,31,0⟩]⟩,⟨[0,1,2,4,3,5],[⟨0,.q (some 0),128,0,131072⟩,⟨1,.q none,256,0,262144⟩,⟨2,.q (some 0),262144,2,524288⟩,⟨3,.f 1 false,655360,7,1048576⟩,⟨4,.f 0 true,0,0,8192⟩,⟨5,.f 2 false,1056768,31,0⟩]⟩]),(4,[⟨[0,1,4,2,3,5,6,7],[⟨0,.q none,1,0,2097152⟩,⟨1,.q (some 0),128,0,4194304⟩,⟨2,.f 0 true,4194304,2,8388608⟩,⟨3,.f 1 true,8388608,6,16777216⟩,⟨4,.q (some 0),8192,0,33554432⟩,⟨5,.f 2 true,33554432,16,67108864⟩,⟨6,.q none,83886080,62,P_ 27⟩,⟨7,.f 3 false,136314880,127,P_ 28⟩]⟩,⟨[0,1,4,2,5,3,6,7],[⟨0,.q none,1,0,2097152⟩,⟨1,.q (some 0),128,0,4194304⟩,⟨2,.f 0 true,4194304,2,8388608⟩,⟨3,.f 2 true,8388608,6,16777216⟩,⟨4,.q (some 0),8192,0,33554432⟩,⟨5,.f 1 true,33554432,16,67108864⟩,⟨6,.q none,83886080,62,P_ 27⟩,⟨7,.f 3 false,136314880,127,P_ 28⟩]⟩,⟨[0,1,4,5,2,3,6,7],[⟨0,.q none,1,0,2097152⟩,⟨1,.q (some 0),128,0,4194304⟩,⟨2,.f 1 true,4194304,2,8388608⟩,⟨3,.f 2 true,8388608,6,16777216⟩,⟨4,.q (some 0),8192,0,33554432⟩,⟨5,.f 0 true,33554432,16,67108864⟩,⟨6,.q none,83886080,62,P_ 27⟩,⟨7,.f 3 false,136314880,127,P_ 28⟩]⟩])],[]⟩
theorem C_prim_Wrap (h:F_prim_Wrap x0 x1 x2 x3 x4 x5 w R):Calls Tryz.prog 48 #[x0,x1,x2,x3,x4,x5] w R:=cc A_prim_Wrap [x0,x1,x2,x3,x4,x5] Tryz.func48 h
def F_climb_num (d:Value) (w:World) (R:Ending→World→Prop):Prop:=
 m R (o_call (fv 93) []) w fun e q=>
 m R (o_builtin .len #[47] 3 [false] [d]) q fun f r=>
 ml1 (.int .i64 0) r fun a B s b=>
 m R (o_bin .lss 3 false a f) s fun g h=>
 mif g (
 m R (o_indexAddr 47 d a) h fun i t=>
 m R (o_load 3 i) t fun j u=>
 m R (o_call (fv 94) [e,j]) u fun z v=>
 m R (o_bin .add 3 true a (.int .i64 1)) v fun l x=>
 b l x) (
 m R (o_call (fv 95) [e]) h fun c y=>
 m R (o_extract c 0) y fun n o=>
 m R (o_extract c 1) o fun A p=>
 R (.returned n) p)
def A_climb_num:Ann:=⟨[(3,[11],522272)],[],[],[],[]⟩
theorem C_climb_num (h:F_climb_num x0 w R):Calls Tryz.prog 49 #[x0] w R:=cc A_climb_num [x0] Tryz.func49 h
def F_tree_Path (cM q cN C:Value) (w:World) (R:Ending→World→Prop):Prop:=
 m R (o_box 25 cM) w fun c cO=>
 m R (o_box 34 cN) cO fun cP cQ=>
 m R (o_alloc 25) cQ fun f cR=>
 m R (o_load 25 c) cR fun D cS=>
 m R (o_call (fv 24) [D]) cS fun E cT=>
 m R (o_un .not E) cT fun F G=>
 mif F (
 m R (o_build 25 []) G fun H cU=>
 m R (o_store 25 f H) cU fun _ I=>
 rcell Tryz.prog 25 f I fun l=>
 R (.returned (.tuple #[l,(.int .i64 1)])) I) (
 m R (o_load 25 c) G fun J cV=>
 m R (o_call (fv 42) [J,q]) cV fun K u=>
 mif K (
 m R (o_build 25 []) u fun L M=>
 m R (o_store 25 f L) M fun _ v=>
 rcell Tryz.prog 25 f v fun l=>
 R (.returned (.tuple #[l,(.int .i64 7)])) v) (
 m R (o_fieldAddr 25 c 0) u fun N O=>
 m R (o_load 22 N) O fun Q T=>
 m R (o_builtin .len #[22] 3 [false] [Q]) T fun n U=>
 m R (o_call (fv 32) [n,q]) U fun o V=>
 m R (o_builtin .len #[47] 3 [false] [o]) V fun W X=>
 m R (o_builtin .len #[54] 3 [false] [C]) X fun Y Z=>
 m R (o_bin .neq 3 false W Y) Z fun aA x=>
 mif aA (
 m R (o_build 25 []) x fun aB aC=>
 m R (o_store 25 f aB) aC fun _ y=>
 rcell Tryz.prog 25 f y fun l=>
 R (.returned (.tuple #[l,(.int .i64 16)])) y) (
 m R (o_load 25 c) x fun aD aE=>
 m R (o_call (fv 30) [aD]) aE fun aF aG=>
 m R (o_store 25 c aF) aG fun _ aH=>
 m R (o_build 34 []) aH fun aI aJ=>
 m R (o_alloc 34) aJ fun g aK=>
 m R (o_store 34 g aI) aK fun _ aL=>
 m R (o_builtin .len #[47] 3 [false] [o]) aL fun aM aN=>
 m R (o_bin .sub 3 true aM (.int .i64 1)) aN fun aO aP=>
 ml1 aO aP fun d cW aQ r=>
 m R (o_bin .geq 3 true d (.int .i64 0)) aQ fun aR a=>
 mif aR (
 dp Tryz.prog (o_fieldAddr 25 c 1) fun aS=>
 dq Tryz.prog a (o_load 23 aS) fun aT=>
 dp Tryz.prog (o_indexAddr 47 o d) fun aU=>
 dq Tryz.prog a (o_load 3 aU) fun aV=>
 dp Tryz.prog (o_bin .quo 3 true aV (.int .i64 2)) fun aW=>
 dp Tryz.prog (o_indexAddr 54 C d) fun aX=>
 dq Tryz.prog a (o_load 34 aX) fun aY=>
 dq Tryz.prog a (o_load 34 g) fun aZ=>
 dp Tryz.prog (o_build 69 [(0,(.bool true)),(1,aY),(2,aZ)]) fun a0=>
 dp Tryz.prog (o_indexAddr 23 aT aW) fun a1=>
 df Tryz.prog a (o_store 69 a1 a0) false fun _ a2=>
 dend a2 fun a3=>
 m R (o_bin .mul 3 true (.int .i64 2) q) a3 fun a4 a5=>
 mj1 (fun z=>
 m R (o_bin .gtr 3 true d (.int .i64 0)) a5 fun a6 A=>
 mif a6 (
 m R (o_bin .sub 3 true d (.int .i64 1)) A fun a7 a8=>
 m R (o_indexAddr 47 o a7) a8 fun a9 bA=>
 m R (o_load 3 a9) bA fun bB bC=>
 z bB bC) (
 z a4 A)) fun s cX e=>
 mj1 (fun t=>
 ((
 dq Tryz.prog e (o_load 25 c) fun h=>
 df Tryz.prog e (o_call (fv 87) [n,s]) true fun i bD=>
 df Tryz.prog bD (o_call (fv 96) [h,i]) false fun j bE=>
 df Tryz.prog bE (o_alloc 34) true fun b bF=>
 df Tryz.prog bF (o_store 34 b j) false fun _ bG=>
 dend bG fun bH=>
 t b bH)∧(
 dq Tryz.prog e (o_load 25 c) fun h=>
 df Tryz.prog e (o_call (fv 87) [n,s]) true fun i bI=>
 df Tryz.prog bI (o_alloc 34) true fun b bJ=>
 df Tryz.prog bJ (o_call (fv 96) [h,i]) false fun j bK=>
 df Tryz.prog bK (o_store 34 b j) false fun _ bL=>
 dend bL fun bM=>
 t b bM)∧(
 dq Tryz.prog e (o_load 25 c) fun h=>
 df Tryz.prog e (o_alloc 34) true fun b bN=>
 df Tryz.prog bN (o_call (fv 87) [n,s]) true fun i bO=>
 df Tryz.prog bO (o_call (fv 96) [h,i]) false fun j bP=>
 df Tryz.prog bP (o_store 34 b j) false fun _ bQ=>
 dend bQ fun bR=>
 t b bR))) fun b cY p=>
 dp Tryz.prog (o_indexAddr 54 C d) fun bS=>
 dp Tryz.prog (o_slice 34 bS none none none) fun bT=>
 dq Tryz.prog p (o_conv 99 9 bT) fun bU=>
 dp Tryz.prog (o_slice 34 g none none none) fun bV=>
 dq Tryz.prog p (o_conv 99 9 bV) fun bW=>
 dp Tryz.prog (o_slice 34 b none none none) fun bX=>
 dq Tryz.prog p (o_conv 99 9 bX) fun bY=>
 df Tryz.prog p (o_buildSlice 70 4 [(0,(.string (ByteArray.mk #[97,98,111,118,101]))),(1,bU),(2,bW),(3,bY)]) false fun bZ b0=>
 df Tryz.prog b0 (o_call (fv 80) [bZ]) false fun b1 b2=>
 df Tryz.prog b2 (o_store 34 g b1) false fun _ b3=>
 dend b3 fun b4=>
 m R (o_bin .sub 3 true d (.int .i64 1)) b4 fun b5 b6=>
 r b5 b6) (
 ∃ S:Rl,
 dp Tryz.prog (o_fieldAddr 25 c 0) fun b7=>
 dqS Tryz.prog S a (o_load 22 b7) fun b8=>
 dp Tryz.prog (o_fieldAddr 25 c 0) fun b9=>
 dqS Tryz.prog S a (o_load 22 b9) fun cA=>
 dqS Tryz.prog S a (o_load 34 cP) fun cB=>
 dqS Tryz.prog S a (o_load 34 g) fun cC=>
 dp Tryz.prog (o_indexAddr 22 b8 q) fun cD=>
 dp Tryz.prog (o_fieldAddr 40 cD 1) fun cE=>
 dfS Tryz.prog S a (o_store 34 cE cB) true fun _ cF=>
 dp Tryz.prog (o_indexAddr 22 cA q) fun cG=>
 dp Tryz.prog (o_fieldAddr 40 cG 3) fun cH=>
 dfS Tryz.prog S cF (o_store 34 cH cC) false fun _ cI=>
 dend cI fun cJ=>
 m R (o_load 25 c) cJ fun cK cL=>
 m R (o_store 25 f cK) cL fun _ B=>
 rcell Tryz.prog 25 f B fun l=>
 R (.returned (.tuple #[l,(.int .i64 0)])) B))))
def A_tree_Path:Ann:=⟨[(12,[13],P_ 87+P_ 16-P_ 44-P_ 13)],[(18,[14],P_ 71+P_ 14-P_ 64),(19,[15],P_ 76+P_ 15-P_ 71)],[(14,[⟨0,.q none,16,0,P_ 48⟩,⟨1,.q (some 0),P_ 48,1,P_ 49⟩,⟨2,.q none,2048,0,P_ 50⟩,⟨3,.q none,8192,0,P_ 51⟩,⟨4,.q none,P_ 52-P_ 50,12,P_ 52⟩,⟨5,.q (some 0),P_ 52,28,P_ 53⟩,⟨6,.q none,P_ 53,60,P_ 54⟩,⟨7,.q none,8,0,P_ 55⟩,⟨8,.q none,8192,0,P_ 56⟩,⟨9,.q none,P_ 57-P_ 55,384,P_ 57⟩,⟨10,.q (some 0),P_ 57,896,P_ 58⟩,⟨11,.q (some 0),4096,0,P_ 59⟩,⟨12,.q none,P_ 60-P_ 58,3968,P_ 60⟩,⟨13,.q none,P_ 54+P_ 49,8191,P_ 61⟩,⟨14,.f 0 false,P_ 62-P_ 60,16383,0⟩]),(19,[⟨0,.q none,8,0,P_ 76⟩,⟨1,.q none,8192,0,P_ 77⟩,⟨2,.q none,P_ 78-P_ 76,3,P_ 78⟩,⟨3,.q none,P_ 78,7,P_ 79⟩,⟨4,.q (some 0),P_ 79,15,P_ 80⟩,⟨5,.q none,4096,0,P_ 81⟩,⟨6,.q (some 0),P_ 81,32,P_ 82⟩,⟨7,.q none,32768,0,P_ 83⟩,⟨8,.q (some 0),P_ 83,128,P_ 84⟩,⟨9,.f 0 false,P_ 84+P_ 82+P_ 80,511,P_ 85⟩,⟨10,.f 1 false,P_ 85,1023,P_ 86⟩,⟨11,.f 2 false,P_ 86+P_ 12,2047,0⟩]),(20,[⟨0,.q none,16,0,P_ 87⟩,⟨1,.q (some 0),P_ 87,1,P_ 88⟩,⟨2,.q none,2,0,P_ 89⟩,⟨3,.q none,16,0,P_ 90⟩,⟨4,.q (some 0),P_ 90,8,P_ 91⟩,⟨5,.q none,2,0,P_ 92⟩,⟨6,.q (some 0),64,0,P_ 93⟩,⟨7,.q (some 0),4096,0,P_ 94⟩,⟨8,.q none,P_ 90-P_ 88,199,P_ 95⟩,⟨9,.q none,P_ 95,455,P_ 96⟩,⟨10,.f 0 true,P_ 96+P_ 93,967,0⟩,⟨11,.q none,P_ 93-P_ 91,2047,P_ 97⟩,⟨12,.q none,P_ 97,4095,P_ 98⟩,⟨13,.f 1 false,P_ 98+P_ 94,8191,0⟩])],[(18,[⟨[0,1,2,3,4,5,6],[⟨0,.q (some 0),16,0,P_ 71⟩,⟨1,.q none,1024,0,P_ 72⟩,⟨2,.q none,16384,0,P_ 73⟩,⟨3,.f 0 true,P_ 74-P_ 72,6,P_ 74⟩,⟨4,.f 1 false,P_ 74+P_ 71,15,P_ 75⟩,⟨5,.f 2 true,0,0,32768⟩,⟨6,.f 3 false,P_ 75+P_ 15,63,0⟩]⟩,⟨[0,1,2,3,5,4,6],[⟨0,.q (some 0),16,0,P_ 71⟩,⟨1,.q none,1024,0,P_ 72⟩,⟨2,.q none,16384,0,P_ 73⟩,⟨3,.f 0 true,P_ 74-P_ 72,6,P_ 74⟩,⟨4,.f 2 false,P_ 74+P_ 71,15,P_ 75⟩,⟨5,.f 1 true,0,0,32768⟩,⟨6,.f 3 false,P_ 75+P_ 15,63,0⟩]⟩,⟨[0,1,2,5,3,4,6],[⟨0,.q (some 0),16,0,P_ 71⟩,⟨1,.q none,1024,0,P_ 72⟩,⟨2,.q none,16384,0,P_ 73⟩,⟨3,.f 1 true,P_ 74-P_ 72,6,P_ 74⟩,⟨4,.f 2 false,P_ 74+P_ 71,15,P_ 75⟩,⟨5,.f 0 true,0,0,32768⟩,⟨6,.f 3 false,P_ 75+P_ 15,63,0⟩]⟩])],[20]⟩
theorem C_tree_Path (h:F_tree_Path x0 x1 x2 x3 w R):Calls Tryz.prog 50 #[x0,x1,x2,x3] w R:=cc A_tree_Path [x0,x1,x2,x3] Tryz.func50 h
def F_bevyref07_There (e g:Value) (w:World) (R:Ending→World→Prop):Prop:=
 m R (o_bin .geq 3 true e (.int .i64 1)) w fun f h=>
 mguard f true (fun k=>m R (o_move e) h k) h fun B i=>
 mguard f true (fun k=>m R (o_bin .leq 3 true B (.int .i64 64)) i k) i fun C D=>
 m R (o_pick f C (.bool false)) D fun b j=>
 mguard b true (fun k=>m R (o_move g) j k) j fun l n=>
 mguard b true (fun k=>m R (o_bin .geq 3 true l (.int .i64 0)) n k) n fun o E=>
 m R (o_pick b o (.bool false)) E fun a p=>
 mguard a true (fun k=>m R (o_move g) p k) p fun q r=>
 mguard a true (fun k=>m R (o_move e) r k) r fun s t=>
 mguard a true (fun k=>m R (o_bin .mul 3 true (.int .i64 2) s) t k) t fun u c=>
 mguard a true (fun k=>m R (o_bin .sub 3 true u (.int .i64 2)) c k) c fun v d=>
 mguard a true (fun k=>m R (o_bin .leq 3 false q v) d k) d fun x y=>
 m R (o_pick a x (.bool false)) y fun z A=>
 R (.returned z) A
def A_bevyref07_There:Ann:=⟨[],[],[],[],[]⟩
theorem C_bevyref07_There (h:F_bevyref07_There x0 x1 w R):Calls Tryz.prog 51 #[x0,x1] w R:=cc A_bevyref07_There [x0,x1] Tryz.func51 h
def F_bevyref07_Above (b c:Value) (w:World) (R:Ending→World→Prop):Prop:=
 m R (o_call (fv 51) [b,c]) w fun d h=>
 m R (o_un .not d) h fun e f=>
 mif e (
 R (.returned (.int .i64 (-1))) f) (
 m R (o_call (fv 97) [(.int .i64 0),b,c,(.int .i64 (-1)),(.int .i64 (-1))]) f fun a i=>
 m R (o_extract a 0) i fun p j=>
 m R (o_extract a 1) j fun q l=>
 m R (o_extract a 2) l fun g n=>
 m R (o_extract a 3) n fun r o=>
 R (.returned g) o)
def A_bevyref07_Above:Ann:=⟨[],[],[],[],[]⟩
theorem C_bevyref07_Above (h:F_bevyref07_Above x0 x1 w R):Calls Tryz.prog 52 #[x0,x1] w R:=cc A_bevyref07_Above [x0,x1] Tryz.func52 h
def F_bevyref07_Holds (o p c:Value) (w:World) (R:Ending→World→Prop):Prop:=
 m R (o_call (fv 98) [o,p]) w fun b q=>
 m R (o_extract b 0) q fun d r=>
 m R (o_extract b 1) r fun e s=>
 m R (o_bin .geq 3 false c d) s fun a f=>
 mguard a true (fun k=>m R (o_move c) f k) f fun g h=>
 mguard a true (fun k=>m R (o_move e) h k) h fun i j=>
 mguard a true (fun k=>m R (o_bin .lss 3 false g i) j k) j fun l t=>
 m R (o_pick a l (.bool false)) t fun n u=>
 R (.returned n) u
def A_bevyref07_Holds:Ann:=⟨[],[],[],[],[]⟩
theorem C_bevyref07_Holds (h:F_bevyref07_Holds x0 x1 x2 w R):Calls Tryz.prog 53 #[x0,x1,x2] w R:=cc A_bevyref07_Holds [x0,x1,x2] Tryz.func53 h
def F_slices_Index_int_int (c j:Value) (w:World) (R:Ending→World→Prop):Prop:=
 m R (o_builtin .len #[47] 3 [false] [c]) w fun l n=>
 ml1 (.int .i64 0) n fun a t o b=>
 m R (o_bin .lss 3 false a l) o fun p d=>
 mif p (
 m R (o_indexAddr 47 c a) d fun e q=>
 m R (o_load 3 e) q fun f r=>
 m R (o_bin .eql 3 false j f) r fun g h=>
 mif g (
 R (.returned a) h) (
 m R (o_bin .add 3 true a (.int .i64 1)) h fun i s=>
 b i s)) (
 R (.returned (.int .i64 (-1))) d)
def A_slices_Index_int_int:Ann:=⟨[(2,[8],524080)],[],[],[],[]⟩
theorem C_slices_Index_int_int (h:F_slices_Index_int_int x0 x1 w R):Calls Tryz.prog 54 #[x0,x1] w R:=cc A_slices_Index_int_int [x0,x1] Tryz.func54 h
def F_climb_risen (v x bD bE:Value) (w:World) (R:Ending→World→Prop):Prop:=
 m R (o_box 34 bD) w fun y bF=>
 m R (o_alloc 56) bF fun h bG=>
 m R (o_load 34 y) bG fun z bH=>
 m R (o_call (fv 45) [(.pointer none),x,z]) bH fun c bI=>
 m R (o_extract c 0) bI fun bO bJ=>
 m R (o_extract c 1) bJ fun j bK=>
 m R (o_extract c 2) bK fun A bL=>
 m R (o_alloc 34) bL fun B bM=>
 m R (o_store 34 B A) bM fun _ bN=>
 m R (o_builtin .len #[26] 3 [false] [j]) bN fun C D=>
 ml1 (.int .i64 0) D fun b bR E i=>
 m R (o_bin .lss 3 false b C) E fun F l=>
 mif F (
 m R (o_indexAddr 26 j b) l fun G H=>
 m R (o_load 43 G) H fun I J=>
 m R (o_alloc 43) J fun n K=>
 m R (o_store 43 n I) K fun _ d=>
 dp Tryz.prog (o_fieldAddr 43 n 1) fun L=>
 dq Tryz.prog d (o_load 34 L) fun M=>
 df Tryz.prog d (o_call (fv 11) [(.pointer none),M]) true fun N O=>
 dp Tryz.prog (o_indexAddr 54 bE b) fun Q=>
 dq Tryz.prog d (o_load 34 Q) fun S=>
 dp Tryz.prog (o_bin .neq 34 false N S) fun T=>
 dend O fun o=>
 mif T (
 m R (o_build 56 []) o fun U V=>
 m R (o_store 56 h U) V fun _ p=>
 rcell Tryz.prog 56 h p fun u=>
 R (.returned (.tuple #[u,(.bool false)])) p) (
 m R (o_bin .add 3 true b (.int .i64 1)) o fun W X=>
 i W X)) (
 m R (o_alloc 56) l fun a Y=>
 m R (o_load 34 y) Y fun Z aA=>
 m R (o_call (fv 45) [v,x,Z]) aA fun e aB=>
 m R (o_extract e 0) aB fun aC aD=>
 m R (o_extract e 1) aD fun aE aF=>
 m R (o_extract e 2) aF fun aG aH=>
 m R (o_fieldAddr 56 a 2) aH fun aI aJ=>
 m R (o_store 54 aI aC) aJ fun _ aK=>
 m R (o_fieldAddr 56 a 3) aK fun aL aM=>
 m R (o_store 26 aL aE) aM fun _ aN=>
 m R (o_fieldAddr 56 a 4) aN fun aO aP=>
 m R (o_store 34 aO aG) aP fun _ aQ=>
 m R (o_fieldAddr 56 a 3) aQ fun aR aS=>
 m R (o_load 26 aR) aS fun q aT=>
 m R (o_builtin .len #[26] 3 [false] [q]) aT fun aU aV=>
 ml1 (.int .i64 0) aV fun f bP aW g=>
 m R (o_bin .lss 3 false f aU) aW fun aX r=>
 mif aX (
 m R (o_indexAddr 26 q f) r fun aY aZ=>
 m R (o_load 43 aY) aZ fun a0 a1=>
 m R (o_alloc 43) a1 fun s a2=>
 m R (o_store 43 s a0) a2 fun _ a3=>
 m R (o_fieldAddr 43 s 1) a3 fun a4 a5=>
 m R (o_load 34 a4) a5 fun a6 a7=>
 m R (o_call (fv 11) [v,a6]) a7 fun bQ a8=>
 m R (o_bin .add 3 true f (.int .i64 1)) a8 fun a9 bA=>
 g a9 bA) (
 m R (o_load 56 a) r fun bB bC=>
 m R (o_store 56 h bB) bC fun _ t=>
 rcell Tryz.prog 56 h t fun u=>
 R (.returned (.tuple #[u,(.bool true)])) t))
def A_climb_risen:Ann:=⟨[(3,[27],4397912318464),(11,[56],P_ 65+P_ 17-P_ 56)],[],[(5,[⟨0,.q none,16384,0,P_ 32⟩,⟨1,.q (some 0),P_ 32,1,P_ 33⟩,⟨2,.f 0 true,P_ 33,3,P_ 34⟩,⟨3,.q none,8,0,P_ 35⟩,⟨4,.q none,8192,0,P_ 36⟩,⟨5,.q none,103079215104,24,P_ 37⟩,⟨6,.q (some 0),P_ 37,56,P_ 38⟩,⟨7,.q none,292057776128,127,P_ 39⟩])],[],[]⟩
theorem C_climb_risen (h:F_climb_risen x0 x1 x2 x3 w R):Calls Tryz.prog 56 #[x0,x1,x2,x3] w R:=cc A_climb_risen [x0,x1,x2,x3] Tryz.func56 h
def F_climb_cloned (aK:Value) (w:World) (R:Ending→World→Prop):Prop:=
 m R (o_box 56 aK) w fun c aL=>
 m R (o_alloc 56) aL fun t b=>
 mj1 (fun s=>
 ((
 dp Tryz.prog (o_fieldAddr 56 c 0) fun j=>
 dp Tryz.prog (o_fieldAddr 25 j 0) fun l=>
 dq Tryz.prog b (o_load 22 l) fun n=>
 dp Tryz.prog (o_fieldAddr 56 c 0) fun o=>
 dp Tryz.prog (o_fieldAddr 25 o 1) fun d=>
 dq Tryz.prog b (o_load 23 d) fun e=>
 df Tryz.prog b (o_call (fv 72) [n]) true fun p aM=>
 df Tryz.prog aM (o_call (fv 73) [e]) false fun f aN=>
 dp Tryz.prog (o_build 25 [(0,p),(1,f)]) fun g=>
 df Tryz.prog aN (o_alloc 25) true fun a aO=>
 df Tryz.prog aO (o_store 25 a g) false fun _ aP=>
 dend aP fun aQ=>
 s a aQ)∧(
 dp Tryz.prog (o_fieldAddr 56 c 0) fun j=>
 dp Tryz.prog (o_fieldAddr 25 j 0) fun l=>
 dq Tryz.prog b (o_load 22 l) fun n=>
 dp Tryz.prog (o_fieldAddr 56 c 0) fun o=>
 dp Tryz.prog (o_fieldAddr 25 o 1) fun d=>
 dq Tryz.prog b (o_load 23 d) fun e=>
 df Tryz.prog b (o_call (fv 72) [n]) true fun p aR=>
 df Tryz.prog aR (o_alloc 25) true fun a aS=>
 df Tryz.prog aS (o_call (fv 73) [e]) false fun f u=>
 dp Tryz.prog (o_build 25 [(0,p),(1,f)]) fun g=>
 df Tryz.prog u (o_store 25 a g) false fun _ v=>
 dend v fun x=>
 s a x)∧(
 dp Tryz.prog (o_fieldAddr 56 c 0) fun j=>
 dp Tryz.prog (o_fieldAddr 25 j 0) fun l=>
 dq Tryz.prog b (o_load 22 l) fun n=>
 dp Tryz.prog (o_fieldAddr 56 c 0) fun o=>
 dp Tryz.prog (o_fieldAddr 25 o 1) fun d=>
 dq Tryz.prog b (o_load 23 d) fun e=>
 df Tryz.prog b (o_alloc 25) true fun a y=>
 df Tryz.prog y (o_call (fv 72) [n]) true fun p z=>
 df Tryz.prog z (o_call (fv 73) [e]) false fun f A=>
 dp Tryz.prog (o_build 25 [(0,p),(1,f)]) fun g=>
 df Tryz.prog A (o_store 25 a g) false fun _ B=>
 dend B fun C=>
 s a C))) fun a aU D=>
 m R (o_fieldAddr 25 a 1) D fun E F=>
 m R (o_load 23 E) F fun G H=>
 m R (o_builtin .len #[23] 3 [false] [G]) H fun I J=>
 ml1 (.int .i64 0) J fun i aV K q=>
 m R (o_bin .lss 3 false i I) K fun L h=>
 mif L (
 dp Tryz.prog (o_fieldAddr 25 a 1) fun M=>
 dq Tryz.prog h (o_load 23 M) fun N=>
 dp Tryz.prog (o_fieldAddr 25 a 1) fun O=>
 dq Tryz.prog h (o_load 23 O) fun Q=>
 dp Tryz.prog (o_indexAddr 23 Q i) fun S=>
 dp Tryz.prog (o_fieldAddr 69 S 3) fun T=>
 dq Tryz.prog h (o_load 47 T) fun U=>
 df Tryz.prog h (o_call (fv 74) [U]) true fun V W=>
 dp Tryz.prog (o_indexAddr 23 N i) fun X=>
 dp Tryz.prog (o_fieldAddr 69 X 3) fun Y=>
 df Tryz.prog W (o_store 47 Y V) false fun _ Z=>
 dend Z fun aA=>
 m R (o_bin .add 3 true i (.int .i64 1)) aA fun aB aC=>
 q aB aC) (
 m R (o_load 25 a) h fun aD aE=>
 m R (o_fieldAddr 56 c 0) aE fun aF aG=>
 m R (o_store 25 aF aD) aG fun _ aH=>
 m R (o_load 56 c) aH fun aI aJ=>
 m R (o_store 56 t aI) aJ fun _ r=>
 rcell Tryz.prog 56 t r fun aT=>
 R (.returned aT) r)
def A_climb_cloned:Ann:=⟨[(3,[17],8589803536)],[(2,[3],16360)],[(5,[⟨0,.q none,8,0,1048576⟩,⟨1,.q (some 0),1048576,1,2097152⟩,⟨2,.q none,16,0,4194304⟩,⟨3,.q none,8,0,8388608⟩,⟨4,.q (some 0),8388608,8,16777216⟩,⟨5,.q none,16,0,33554432⟩,⟨6,.q none,50331648,56,67108864⟩,⟨7,.q none,67108864,120,P_ 27⟩,⟨8,.q (some 0),P_ 27,248,P_ 28⟩,⟨9,.f 0 true,P_ 28,504,P_ 29⟩,⟨10,.q none,6291456,1023,P_ 30⟩,⟨11,.q none,P_ 30,2047,P_ 31⟩,⟨12,.f 1 false,2684354560,4095,0⟩])],[(1,[⟨[0,1,2,4,5,6,3,7,8,9,10],[⟨0,.q none,2,0,32⟩,⟨1,.q none,32,1,64⟩,⟨2,.q (some 0),64,3,128⟩,⟨3,.f 0 true,128,7,256⟩,⟨4,.q none,2,0,512⟩,⟨5,.q none,512,16,1024⟩,⟨6,.q (some 0),1024,48,2048⟩,⟨7,.f 1 false,2048,127,4096⟩,⟨8,.q none,4352,255,8192⟩,⟨9,.f 2 true,0,0,8⟩,⟨10,.f 3 false,8200,1023,0⟩]⟩,⟨[0,1,2,4,5,6,3,9,7,8,10],[⟨0,.q none,2,0,32⟩,⟨1,.q none,32,1,64⟩,⟨2,.q (some 0),64,3,128⟩,⟨3,.f 0 true,128,7,256⟩,⟨4,.q none,2,0,512⟩,⟨5,.q none,512,16,1024⟩,⟨6,.q (some 0),1024,48,2048⟩,⟨7,.f 2 false,2048,127,4096⟩,⟨8,.q none,4352,255,8192⟩,⟨9,.f 1 true,0,0,8⟩,⟨10,.f 3 false,8200,1023,0⟩]⟩,⟨[0,1,2,4,5,6,9,3,7,8,10],[⟨0,.q none,2,0,32⟩,⟨1,.q none,32,1,64⟩,⟨2,.q (some 0),64,3,128⟩,⟨3,.f 1 true,128,7,256⟩,⟨4,.q none,2,0,512⟩,⟨5,.q none,512,16,1024⟩,⟨6,.q (some 0),1024,48,2048⟩,⟨7,.f 2 false,2048,127,4096⟩,⟨8,.q none,4352,255,8192⟩,⟨9,.f 0 true,0,0,8⟩,⟨10,.f 3 false,8200,1023,0⟩]⟩])],[]⟩
theorem C_climb_cloned (h:F_climb_cloned x0 w R):Calls Tryz.prog 57 #[x0] w R:=cc A_climb_cloned [x0] Tryz.func57 h
def F_slices_IndexFunc_int_int (c j:Value) (w:World) (R:Ending→World→Prop):Prop:=
 m R (o_builtin .len #[47] 3 [false] [c]) w fun l n=>
 ml1 (.int .i64 0) n fun a t o b=>
 m R (o_bin .lss 3 false a l) o fun p d=>
 mif p (
 m R (o_indexAddr 47 c a) d fun e q=>
 m R (o_load 3 e) q fun f r=>
 m R (o_call j [f]) r fun g h=>
 mif g (
 R (.returned a) h) (
 m R (o_bin .add 3 true a (.int .i64 1)) h fun i s=>
 b i s)) (
 R (.returned (.int .i64 (-1))) d)
def A_slices_IndexFunc_int_int:Ann:=⟨[(2,[8],524080)],[],[],[],[]⟩
theorem C_slices_IndexFunc_int_int (h:F_slices_IndexFunc_int_int x0 x1 w R):Calls Tryz.prog 58 #[x0,x1] w R:=cc A_slices_IndexFunc_int_int [x0,x1] Tryz.func58 h
def F_climb_Follow_1 (a b c:Value) (w:World) (R:Ending→World→Prop):Prop:=
 m R (o_load 3 b) w fun d e=>
 m R (o_load 3 c) e fun f g=>
 m R (o_call (fv 60) [d,a,f]) g fun h i=>
 R (.returned h) i
def A_climb_Follow_1:Ann:=⟨[],[],[],[],[]⟩
theorem C_climb_Follow_1 (h:F_climb_Follow_1 x0 x1 x2 w R):Calls Tryz.prog 59 #[x0,x1,x2] w R:=cc A_climb_Follow_1 [x0,x1,x2] Tryz.func59 h
def F_bough_Holds (o p c:Value) (w:World) (R:Ending→World→Prop):Prop:=
 m R (o_call (fv 100) [o,p]) w fun b q=>
 m R (o_extract b 0) q fun d r=>
 m R (o_extract b 1) r fun e s=>
 m R (o_bin .geq 3 false c d) s fun a f=>
 mguard a true (fun k=>m R (o_move c) f k) f fun g h=>
 mguard a true (fun k=>m R (o_move e) h k) h fun i j=>
 mguard a true (fun k=>m R (o_bin .lss 3 false g i) j k) j fun l t=>
 m R (o_pick a l (.bool false)) t fun n u=>
 R (.returned n) u
def A_bough_Holds:Ann:=⟨[],[],[],[],[]⟩
theorem C_bough_Holds (h:F_bough_Holds x0 x1 x2 w R):Calls Tryz.prog 60 #[x0,x1,x2] w R:=cc A_bough_Holds [x0,x1,x2] Tryz.func60 h
def F_climb_opened (s aE aF t:Value) (w:World) (R:Ending→World→Prop):Prop:=
 m R (o_alloc 34) w fun a aG=>
 m R (o_builtin .len #[47] 3 [false] [s]) aG fun u aH=>
 ml1 (.int .i64 0) aH fun c aO aI e=>
 m R (o_bin .lss 3 false c u) aI fun v x=>
 mif v (
 m R (o_indexAddr 47 s c) x fun y aJ=>
 m R (o_load 3 y) aJ fun z aK=>
 m R (o_alloc 3) aK fun f aL=>
 m R (o_store 3 f z) aL fun _ aM=>
 m R (o_func (.func 102) [] [f]) aM fun A aN=>
 m R (o_call (fv 101) [t,A]) aN fun g B=>
 m R (o_bin .lss 3 true g (.int .i64 0)) B fun C d=>
 mif C (
 m R (o_bin .add 3 true c (.int .i64 1)) d fun D E=>
 e D E) (
 dp Tryz.prog (o_indexAddr 26 t g) fun F=>
 dp Tryz.prog (o_fieldAddr 43 F 1) fun G=>
 dq Tryz.prog d (o_load 34 G) fun H=>
 dp Tryz.prog (o_indexAddr 70 aE c) fun I=>
 dq Tryz.prog d (o_load 9 I) fun J=>
 df Tryz.prog d (o_call (fv 103) [H,aF,J]) false fun h K=>
 dp Tryz.prog (o_extract h 0) fun i=>
 dp Tryz.prog (o_extract h 1) fun j=>
 dend K fun L=>
 m R (o_bin .neq 35 true j (.int .i64 0)) L fun M l=>
 mif M (
 m R (o_build 34 []) l fun N O=>
 m R (o_store 34 a N) O fun _ n=>
 rcell Tryz.prog 34 a n fun b=>
 R (.returned (.tuple #[b,j])) n) (
 m R (o_builtin .len #[9] 3 [false] [i]) l fun Q S=>
 m R (o_bin .neq 3 true Q (.int .i64 32)) S fun T o=>
 mif T (
 m R (o_build 34 []) o fun U V=>
 m R (o_store 34 a U) V fun _ p=>
 rcell Tryz.prog 34 a p fun b=>
 R (.returned (.tuple #[b,(.int .i64 3)])) p) (
 m R (o_conv 9 99 i) o fun W X=>
 m R (o_arrayAt 34 W) X fun Y Z=>
 m R (o_load 34 Y) Z fun aA aB=>
 m R (o_store 34 a aA) aB fun _ q=>
 rcell Tryz.prog 34 a q fun b=>
 R (.returned (.tuple #[b,(.int .i64 0)])) q)))) (
 m R (o_build 34 []) x fun aC aD=>
 m R (o_store 34 a aC) aD fun _ r=>
 rcell Tryz.prog 34 a r fun b=>
 R (.returned (.tuple #[b,(.int .i64 10)])) r)
def A_climb_opened:Ann:=⟨[(2,[17],72057594037829120)],[],[(6,[⟨0,.q none,8,0,P_ 28⟩,⟨1,.q none,4096,0,P_ 29⟩,⟨2,.q none,805306368,3,P_ 30⟩,⟨3,.q none,P_ 30,7,P_ 31⟩,⟨4,.q (some 0),P_ 31,15,P_ 32⟩,⟨5,.q none,4,0,P_ 33⟩,⟨6,.q none,2,0,P_ 34⟩,⟨7,.q none,1024,0,P_ 35⟩,⟨8,.q none,51539607552,192,P_ 36⟩,⟨9,.q (some 0),P_ 36,448,P_ 37⟩,⟨10,.f 0 false,150323855360,1023,P_ 38⟩,⟨11,.q none,P_ 38,2047,P_ 27⟩,⟨12,.q none,P_ 27,4095,P_ 39⟩,⟨13,.q none,P_ 27,4095,P_ 40⟩,⟨14,.q none,P_ 39,8191,8192⟩,⟨15,.q none,P_ 40,32767,16384⟩])],[],[]⟩
theorem C_climb_opened (h:F_climb_opened x0 x1 x2 x3 w R):Calls Tryz.prog 61 #[x0,x1,x2,x3] w R:=cc A_climb_opened [x0,x1,x2,x3] Tryz.func61 h
def F_slices_Clone_string_string (a:Value) (w:World) (R:Ending→World→Prop):Prop:=
 m R (o_bin .eql 70 true a (.slice none 0 0)) w fun c b=>
 mif c (
 R (.returned (.slice none 0 0)) b) (
 m R (o_buildSlice 70 0 []) b fun d e=>
 m R (o_builtin .append #[70,70] 70 [false,false] [d,a]) e fun f g=>
 R (.returned f) g)
def A_slices_Clone_string_string:Ann:=⟨[],[],[],[],[]⟩
theorem C_slices_Clone_string_string (h:F_slices_Clone_string_string x0 w R):Calls Tryz.prog 62 #[x0] w R:=cc A_slices_Clone_string_string [x0] Tryz.func62 h
def F_bevyref07_Same (d e:Value) (w:World) (R:Ending→World→Prop):Prop:=
 m R (o_builtin .len #[47] 3 [false] [d]) w fun s t=>
 m R (o_builtin .len #[47] 3 [false] [e]) t fun u v=>
 m R (o_bin .neq 3 false s u) v fun f g=>
 mif f (
 R (.returned (.bool false)) g) (
 ml1 (.int .i64 0) g fun a A x b=>
 m R (o_builtin .len #[47] 3 [false] [d]) x fun h y=>
 m R (o_bin .lss 3 false a h) y fun i c=>
 mif i (
 dp Tryz.prog (o_indexAddr 47 d a) fun j=>
 dq Tryz.prog c (o_load 3 j) fun l=>
 dp Tryz.prog (o_indexAddr 47 e a) fun n=>
 dq Tryz.prog c (o_load 3 n) fun o=>
 dp Tryz.prog (o_bin .neq 3 false l o) fun p=>
 dend c fun q=>
 mif p (
 R (.returned (.bool false)) q) (
 m R (o_bin .add 3 true a (.int .i64 1)) q fun r z=>
 b r z)) (
 R (.returned (.bool true)) c))
def A_bevyref07_Same:Ann:=⟨[(4,[5],67106864)],[],[(6,[⟨0,.q none,1,0,131072⟩,⟨1,.q none,32,0,262144⟩,⟨2,.q none,393216,3,524288⟩,⟨3,.q (some 0),524288,7,1048576⟩,⟨4,.q none,2,0,2097152⟩,⟨5,.q none,32,0,4194304⟩,⟨6,.q none,6291456,48,8388608⟩,⟨7,.q (some 0),8388608,112,16777216⟩,⟨8,.q none,17825792,255,33554432⟩])],[],[]⟩
theorem C_bevyref07_Same (h:F_bevyref07_Same x0 x1 w R):Calls Tryz.prog 63 #[x0,x1] w R:=cc A_bevyref07_Same [x0,x1] Tryz.func63 h
end Go.Proofs.YtpjodlnlmaaihaaGreat
