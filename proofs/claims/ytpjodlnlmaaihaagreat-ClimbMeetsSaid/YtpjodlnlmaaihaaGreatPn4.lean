/- Part 4 of the proof. -/
import Derived.Test.YtpjodlnlmaaihaaGreatPn3
set_option linter.unusedVariables false
set_option linter.unusedVariables false
namespace Go.Proofs.YtpjodlnlmaaihaaGreat
def F_bevyref02_Sum (c0:Value) (w:World) (R:Ending→World→Prop):Prop:=
 m R (o_alloc 33) w fun c1 gM=>
 m R (o_build 160 [(0,(.int .u32 1116352408)),(1,(.int .u32 1899447441)),(2,(.int .u32 3049323471)),(3,(.int .u32 3921009573)),(4,(.int .u32 961987163)),(5,(.int .u32 1508970993)),(6,(.int .u32 2453635748)),(7,(.int .u32 2870763221)),(8,(.int .u32 3624381080)),(9,(.int .u32 310598401)),(10,(.int .u32 607225278)),(11,(.int .u32 1426881987)),(12,(.int .u32 1925078388)),(13,(.int .u32 2162078206)),(14,(.int .u32 2614888103)),(15,(.int .u32 3248222580)),(16,(.int .u32 3835390401)),(17,(.int .u32 4022224774)),(18,(.int .u32 264347078)),(19,(.int .u32 604807628)),(20,(.int .u32 770255983)),(21,(.int .u32 1249150122)),(22,(.int .u32 1555081692)),(23,(.int .u32 1996064986)),(24,(.int .u32 2554220882)),(25,(.int .u32 2821834349)),(26,(.int .u32 2952996808)),(27,(.int .u32 3210313671)),(28,(.int .u32 3336571891)),(29,(.int .u32 3584528711)),(30,(.int .u32 113926993)),(31,(.int .u32 338241895)),(32,(.int .u32 666307205)),(33,(.int .u32 773529912)),(34,(.int .u32 1294757372)),(35,(.int .u32 1396182291)),(36,(.int .u32 1695183700)),(37,(.int .u32 1986661051)),(38,(.int .u32 2177026350)),(39,(.int .u32 2456956037)),(40,(.int .u32 2730485921)),(41,(.int .u32 2820302411)),(42,(.int .u32 3259730800)),(43,(.int .u32 3345764771)),(44,(.int .u32 3516065817)),(45,(.int .u32 3600352804)),(46,(.int .u32 4094571909)),(47,(.int .u32 275423344)),(48,(.int .u32 430227734)),(49,(.int .u32 506948616)),(50,(.int .u32 659060556)),(51,(.int .u32 883997877)),(52,(.int .u32 958139571)),(53,(.int .u32 1322822218)),(54,(.int .u32 1537002063)),(55,(.int .u32 1747873779)),(56,(.int .u32 1955562222)),(57,(.int .u32 2024104815)),(58,(.int .u32 2227730452)),(59,(.int .u32 2361852424)),(60,(.int .u32 2428436474)),(61,(.int .u32 2756734187)),(62,(.int .u32 3204031479)),(63,(.int .u32 3329325298))]) gM fun c2 gN=>
 m R (o_alloc 160) gN fun c3 gO=>
 m R (o_store 160 c3 c2) gO fun _ gP=>
 m R (o_conv 9 99 c0) gP fun c4 gQ=>
 m R (o_buildSlice 99 1 [(0,(.int .u8 128))]) gQ fun c5 gR=>
 m R (o_builtin .append #[99,99] 99 [false,false] [c4,c5]) gR fun c6 gS=>
 ml1 c6 gS fun i g2 gT D=>
 m R (o_builtin .len #[99] 3 [false] [i]) gT fun c7 gU=>
 m R (o_bin .rem 3 true c7 (.int .i64 64)) gU fun c8 c9=>
 m R (o_bin .neq 3 true c8 (.int .i64 56)) c9 fun dA F=>
 mif dA (
 m R (o_buildSlice 99 1 [(0,(.int .u8 0))]) F fun dB dC=>
 m R (o_builtin .append #[99,99] 99 [false,false] [i,dB]) dC fun dD dE=>
 D dD dE) (
 m R (o_builtin .len #[9] 3 [false] [c0]) F fun dF dG=>
 m R (o_conv 3 161 dF) dG fun dH dI=>
 m R (o_bin .mul 161 true dH (.int .u64 8)) dI fun dJ dK=>
 ml2 i (.int .i64 0) dK fun i M g3 dL E=>
 m R (o_bin .lss 3 true M (.int .i64 8)) dL fun dM G=>
 mif dM (
 m R (o_bin .mul 3 true (.int .i64 8) M) G fun dN dO=>
 m R (o_bin .sub 3 true (.int .i64 56) dN) dO fun dP dQ=>
 m R (o_conv 3 59 dP) dQ fun dR dS=>
 m R (o_bin .shr 161 false dJ dR) dS fun dT dU=>
 m R (o_conv 161 5 dT) dU fun dV dW=>
 m R (o_buildSlice 99 1 [(0,dV)]) dW fun dX dY=>
 m R (o_builtin .append #[99,99] 99 [false,false] [i,dX]) dY fun dZ d0=>
 m R (o_bin .add 3 true M (.int .i64 1)) d0 fun d1 d2=>
 E dZ d1 d2) (
 m R (o_build 162 [(0,(.int .u32 1779033703)),(1,(.int .u32 3144134277)),(2,(.int .u32 1013904242)),(3,(.int .u32 2773480762)),(4,(.int .u32 1359893119)),(5,(.int .u32 2600822924)),(6,(.int .u32 528734635)),(7,(.int .u32 1541459225))]) G fun d3 d4=>
 m R (o_alloc 162) d4 fun p d5=>
 m R (o_store 162 p d3) d5 fun _ d6=>
 ml1 (.int .i64 0) d6 fun N gW d7 q=>
 m R (o_builtin .len #[99] 3 [false] [i]) d7 fun d8 d9=>
 m R (o_bin .lss 3 false N d8) d9 fun eA H=>
 mif eA (
 m R (o_alloc 160) H fun j eB=>
 ml1 (.int .i64 0) eB fun l gX eC r=>
 m R (o_bin .lss 3 true l (.int .i64 16)) eC fun eD I=>
 mif eD (
 m R (o_bin .mul 3 true (.int .i64 4) l) I fun eE eF=>
 m R (o_bin .add 3 false N eE) eF fun eG eH=>
 m R (o_call (fv 104) [i,eG]) eH fun eI eJ=>
 m R (o_indexAddr 160 j l) eJ fun eK eL=>
 m R (o_store 159 eK eI) eL fun _ eM=>
 m R (o_bin .add 3 true l (.int .i64 1)) eM fun eN eO=>
 r eN eO) (
 ml1 (.int .i64 16) I fun b gY eP s=>
 m R (o_bin .lss 3 true b (.int .i64 64)) eP fun eQ J=>
 mif eQ (
 m R (o_bin .sub 3 true b (.int .i64 15)) J fun eR eS=>
 m R (o_indexAddr 160 j eR) eS fun eT eU=>
 m R (o_load 159 eT) eU fun t eV=>
 m R (o_bin .sub 3 true b (.int .i64 2)) eV fun eW eX=>
 m R (o_indexAddr 160 j eW) eX fun eY eZ=>
 m R (o_load 159 eY) eZ fun u v=>
 dp Tryz.prog (o_bin .sub 3 true b (.int .i64 16)) fun e0=>
 dp Tryz.prog (o_indexAddr 160 j e0) fun e1=>
 dq Tryz.prog v (o_load 159 e1) fun e2=>
 dp Tryz.prog (o_bin .sub 3 true b (.int .i64 7)) fun e3=>
 dp Tryz.prog (o_indexAddr 160 j e3) fun e4=>
 dq Tryz.prog v (o_load 159 e4) fun e5=>
 dp Tryz.prog (o_bin .add 159 false e2 e5) fun e6=>
 df Tryz.prog v (o_call (fv 105) [t,(.int .u64 7)]) true fun e7 e8=>
 df Tryz.prog e8 (o_call (fv 105) [t,(.int .u64 18)]) true fun e9 fA=>
 dp Tryz.prog (o_bin .xor 159 false e7 e9) fun fB=>
 dp Tryz.prog (o_bin .shr 159 true t (.int .u64 3)) fun O=>
 dp Tryz.prog (o_bin .xor 159 false fB O) fun Q=>
 dp Tryz.prog (o_bin .add 159 false e6 Q) fun S=>
 df Tryz.prog fA (o_call (fv 105) [u,(.int .u64 17)]) true fun T fC=>
 df Tryz.prog fC (o_call (fv 105) [u,(.int .u64 19)]) true fun U fD=>
 dp Tryz.prog (o_bin .xor 159 false T U) fun V=>
 dp Tryz.prog (o_bin .shr 159 true u (.int .u64 10)) fun W=>
 dp Tryz.prog (o_bin .xor 159 false V W) fun X=>
 dp Tryz.prog (o_bin .add 159 false S X) fun Y=>
 dp Tryz.prog (o_indexAddr 160 j b) fun Z=>
 df Tryz.prog fD (o_store 159 Z Y) false fun _ fE=>
 dend fE fun fF=>
 m R (o_bin .add 3 true b (.int .i64 1)) fF fun fG fH=>
 s fG fH) (
 m R (o_load 162 p) J fun aA fI=>
 m R (o_alloc 162) fI fun a fJ=>
 m R (o_store 162 a aA) fJ fun _ fK=>
 ml1 (.int .i64 0) fK fun n gZ fL x=>
 m R (o_bin .lss 3 true n (.int .i64 64)) fL fun aB K=>
 mif aB (
 m R (o_indexAddr 162 a (.int .i64 4)) K fun aC fM=>
 m R (o_load 159 aC) fM fun c fN=>
 m R (o_indexAddr 162 a (.int .i64 0)) fN fun aD fO=>
 m R (o_load 159 aD) fO fun d e=>
 dp Tryz.prog (o_indexAddr 162 a (.int .i64 7)) fun aE=>
 dq Tryz.prog e (o_load 159 aE) fun aF=>
 df Tryz.prog e (o_call (fv 105) [c,(.int .u64 6)]) true fun aG fP=>
 df Tryz.prog fP (o_call (fv 105) [c,(.int .u64 11)]) true fun aH fQ=>
 dp Tryz.prog (o_bin .xor 159 false aG aH) fun aI=>
 df Tryz.prog fQ (o_call (fv 105) [c,(.int .u64 25)]) true fun aJ fR=>
 dp Tryz.prog (o_bin .xor 159 false aI aJ) fun aK=>
 dp Tryz.prog (o_bin .add 159 false aF aK) fun aL=>
 dp Tryz.prog (o_indexAddr 162 a (.int .i64 5)) fun aM=>
 dq Tryz.prog e (o_load 159 aM) fun aN=>
 dp Tryz.prog (o_bin .and 159 false c aN) fun aO=>
 dp Tryz.prog (o_un .xor c) fun aP=>
 dp Tryz.prog (o_indexAddr 162 a (.int .i64 6)) fun aQ=>
 dq Tryz.prog e (o_load 159 aQ) fun aR=>
 dp Tryz.prog (o_bin .and 159 false aP aR) fun aS=>
 dp Tryz.prog (o_bin .xor 159 false aO aS) fun aT=>
 dp Tryz.prog (o_bin .add 159 false aL aT) fun aU=>
 dp Tryz.prog (o_indexAddr 160 c3 n) fun aV=>
 dq Tryz.prog e (o_load 159 aV) fun aW=>
 dp Tryz.prog (o_bin .add 159 false aU aW) fun aX=>
 dp Tryz.prog (o_indexAddr 160 j n) fun aY=>
 dq Tryz.prog e (o_load 159 aY) fun aZ=>
 dp Tryz.prog (o_bin .add 159 false aX aZ) fun y=>
 dend fR fun f=>
 df Tryz.prog f (o_call (fv 105) [d,(.int .u64 2)]) true fun a0 fS=>
 df Tryz.prog fS (o_call (fv 105) [d,(.int .u64 13)]) true fun a1 fT=>
 dp Tryz.prog (o_bin .xor 159 false a0 a1) fun a2=>
 df Tryz.prog fT (o_call (fv 105) [d,(.int .u64 22)]) true fun a3 fU=>
 dp Tryz.prog (o_bin .xor 159 false a2 a3) fun a4=>
 dp Tryz.prog (o_indexAddr 162 a (.int .i64 1)) fun a5=>
 dq Tryz.prog f (o_load 159 a5) fun a6=>
 dp Tryz.prog (o_bin .and 159 false d a6) fun a7=>
 dp Tryz.prog (o_indexAddr 162 a (.int .i64 2)) fun a8=>
 dq Tryz.prog f (o_load 159 a8) fun a9=>
 dp Tryz.prog (o_bin .and 159 false d a9) fun bA=>
 dp Tryz.prog (o_bin .xor 159 false a7 bA) fun bB=>
 dp Tryz.prog (o_indexAddr 162 a (.int .i64 1)) fun bC=>
 dq Tryz.prog f (o_load 159 bC) fun bD=>
 dp Tryz.prog (o_indexAddr 162 a (.int .i64 2)) fun bE=>
 dq Tryz.prog f (o_load 159 bE) fun bF=>
 dp Tryz.prog (o_bin .and 159 false bD bF) fun bG=>
 dp Tryz.prog (o_bin .xor 159 false bB bG) fun bH=>
 dp Tryz.prog (o_bin .add 159 false a4 bH) fun bI=>
 dend fU fun fV=>
 m R (o_bin .add 159 false y bI) fV fun bJ fW=>
 m R (o_indexAddr 162 a (.int .i64 0)) fW fun bK fX=>
 m R (o_load 159 bK) fX fun bL fY=>
 m R (o_indexAddr 162 a (.int .i64 1)) fY fun bM fZ=>
 m R (o_load 159 bM) fZ fun bN f0=>
 m R (o_indexAddr 162 a (.int .i64 2)) f0 fun bO f1=>
 m R (o_load 159 bO) f1 fun bP f2=>
 m R (o_indexAddr 162 a (.int .i64 3)) f2 fun bQ f3=>
 m R (o_load 159 bQ) f3 fun bR f4=>
 m R (o_bin .add 159 false bR y) f4 fun bS f5=>
 m R (o_indexAddr 162 a (.int .i64 4)) f5 fun bT f6=>
 m R (o_load 159 bT) f6 fun bU f7=>
 m R (o_indexAddr 162 a (.int .i64 5)) f7 fun bV f8=>
 m R (o_load 159 bV) f8 fun bW f9=>
 m R (o_indexAddr 162 a (.int .i64 6)) f9 fun bX gA=>
 m R (o_load 159 bX) gA fun bY gB=>
 m R (o_build 162 [(0,bJ),(1,bL),(2,bN),(3,bP),(4,bS),(5,bU),(6,bW),(7,bY)]) gB fun bZ gC=>
 m R (o_store 162 a bZ) gC fun _ gD=>
 m R (o_bin .add 3 true n (.int .i64 1)) gD fun b0 gE=>
 x b0 gE) (
 ml1 (.int .i64 0) K fun g g0 gF z=>
 m R (o_bin .lss 3 true g (.int .i64 8)) gF fun b1 o=>
 mif b1 (
 dp Tryz.prog (o_indexAddr 162 p g) fun b2=>
 dq Tryz.prog o (o_load 159 b2) fun b3=>
 dp Tryz.prog (o_indexAddr 162 a g) fun b4=>
 dq Tryz.prog o (o_load 159 b4) fun b5=>
 dp Tryz.prog (o_bin .add 159 false b3 b5) fun b6=>
 dp Tryz.prog (o_indexAddr 162 p g) fun b7=>
 df Tryz.prog o (o_store 159 b7 b6) false fun _ gG=>
 dend gG fun gH=>
 m R (o_bin .add 3 true g (.int .i64 1)) gH fun b8 gI=>
 z b8 gI) (
 m R (o_bin .add 3 true N (.int .i64 64)) o fun gJ gK=>
 q gJ gK))))) (
 m R (o_alloc 33) H fun L gL=>
 ml1 (.int .i64 0) gL fun h g1 b9 A=>
 m R (o_bin .lss 3 true h (.int .i64 32)) b9 fun cA B=>
 mif cA (
 m R (o_bin .quo 3 true h (.int .i64 4)) B fun cB cC=>
 m R (o_indexAddr 162 p cB) cC fun cD cE=>
 m R (o_load 159 cD) cE fun cF cG=>
 m R (o_bin .rem 3 true h (.int .i64 4)) cG fun cH cI=>
 m R (o_bin .mul 3 true (.int .i64 8) cH) cI fun cJ cK=>
 m R (o_bin .sub 3 true (.int .i64 24) cJ) cK fun cL cM=>
 m R (o_conv 3 59 cL) cM fun cN cO=>
 m R (o_bin .shr 159 false cF cN) cO fun cP cQ=>
 m R (o_conv 159 5 cP) cQ fun cR cS=>
 m R (o_indexAddr 33 L h) cS fun cT cU=>
 m R (o_store 5 cT cR) cU fun _ cV=>
 m R (o_bin .add 3 true h (.int .i64 1)) cV fun cW cX=>
 A cW cX) (
 m R (o_load 33 L) B fun cY cZ=>
 m R (o_store 33 c1 cY) cZ fun _ C=>
 rcell Tryz.prog 33 c1 C fun gV=>
 R (.returned gV) C))))
def A_bevyref02_Sum:Ann:=⟨[(4,[4],68182605840),(8,[4,6],18013298997854288),(13,[8],P_ 210+P_ 21-P_ 55-P_ 8),(17,[10],P_ 73+P_ 10-P_ 61),(21,[11],P_ 114+P_ 14-P_ 73-P_ 11),(28,[15],P_ 197+P_ 20-P_ 115-P_ 15),(36,[20],P_ 210+P_ 20-P_ 197),(41,[22],P_ 227+P_ 22-P_ 210)],[],[(25,[⟨0,.q none,2048,0,P_ 85⟩,⟨1,.q none,2048,0,P_ 86⟩,⟨2,.q none,P_ 86,2,P_ 87⟩,⟨3,.q none,P_ 87+P_ 9,6,P_ 88⟩,⟨4,.q (some 0),P_ 88,14,P_ 89⟩,⟨5,.q none,2048,0,P_ 90⟩,⟨6,.q none,P_ 90,32,P_ 91⟩,⟨7,.q none,P_ 91+P_ 9,96,P_ 92⟩,⟨8,.q (some 0),P_ 92,224,P_ 93⟩,⟨9,.q none,P_ 93+P_ 89,510,P_ 94⟩,⟨10,.q none,4096,0,P_ 95⟩,⟨11,.f 0 true,P_ 95,1024,P_ 96⟩,⟨12,.q none,4096,0,P_ 97⟩,⟨13,.f 1 true,P_ 97,7168,P_ 98⟩,⟨14,.q none,P_ 98+P_ 96,15360,P_ 99⟩,⟨15,.q none,4096,0,P_ 100⟩,⟨16,.q none,P_ 100,32768,P_ 101⟩,⟨17,.q none,P_ 101+P_ 99,130048,P_ 102⟩,⟨18,.q none,P_ 102+P_ 94,262142,P_ 103⟩,⟨19,.q none,8192,0,P_ 104⟩,⟨20,.f 2 true,P_ 104,539648,P_ 105⟩,⟨21,.q none,8192,0,P_ 106⟩,⟨22,.f 3 true,P_ 106,3685376,P_ 107⟩,⟨23,.q none,P_ 107+P_ 105,7879680,P_ 108⟩,⟨24,.q none,8192,0,P_ 109⟩,⟨25,.q none,P_ 109,16777216,P_ 110⟩,⟨26,.q none,P_ 110+P_ 108,66599936,P_ 111⟩,⟨27,.q none,P_ 111+P_ 103,134217726,P_ 112⟩,⟨28,.q none,P_ 85+P_ 9,268435455,P_ 113⟩,⟨29,.f 4 false,P_ 114-P_ 112,536870911,0⟩]),(32,[⟨0,.q none,16384,0,P_ 123⟩,⟨1,.q (some 0),P_ 123,1,P_ 124⟩,⟨2,.q none,65536,0,P_ 125⟩,⟨3,.f 0 true,P_ 125,4,P_ 126⟩,⟨4,.q none,65536,0,P_ 127⟩,⟨5,.f 1 true,P_ 127,28,P_ 128⟩,⟨6,.q none,P_ 128+P_ 126,60,P_ 129⟩,⟨7,.q none,65536,0,P_ 130⟩,⟨8,.f 2 true,P_ 130,188,P_ 131⟩,⟨9,.q none,P_ 131+P_ 129,508,P_ 132⟩,⟨10,.q none,P_ 132+P_ 124,1023,P_ 133⟩,⟨11,.q none,65536,0,P_ 134⟩,⟨12,.q none,16384,0,P_ 135⟩,⟨13,.q (some 0),P_ 135,4096,P_ 136⟩,⟨14,.q none,P_ 136+P_ 134,14336,P_ 137⟩,⟨15,.q none,65536,0,P_ 138⟩,⟨16,.q none,P_ 138,32768,P_ 139⟩,⟨17,.q none,16384,0,P_ 140⟩,⟨18,.q (some 0),P_ 140,131072,P_ 141⟩,⟨19,.q none,P_ 141+P_ 139,491520,P_ 142⟩,⟨20,.q none,P_ 142+P_ 137,1046528,P_ 143⟩,⟨21,.q none,P_ 143+P_ 133,2097151,P_ 144⟩,⟨22,.q none,32768,0,P_ 145⟩,⟨23,.q none,P_ 145+P_ 3,4194304,P_ 146⟩,⟨24,.q (some 0),P_ 146,12582912,P_ 147⟩,⟨25,.q none,P_ 147+P_ 144,33554431,P_ 148⟩,⟨26,.q none,32768,0,P_ 149⟩,⟨27,.q none,P_ 149+P_ 9,67108864,P_ 150⟩,⟨28,.q (some 0),P_ 150,201326592,P_ 151⟩,⟨29,.q none,P_ 151+P_ 148,536870911,P_ 152⟩,⟨30,.q none,P_ 152,1073741823,262144⟩]),(33,[⟨0,.q none,131072,0,P_ 153⟩,⟨1,.f 0 true,P_ 153,1,P_ 154⟩,⟨2,.q none,131072,0,P_ 155⟩,⟨3,.f 1 true,P_ 155,7,P_ 156⟩,⟨4,.q none,P_ 156+P_ 154,15,P_ 157⟩,⟨5,.q none,131072,0,P_ 158⟩,⟨6,.f 2 true,P_ 158,47,P_ 159⟩,⟨7,.q none,P_ 159+P_ 157,127,P_ 160⟩,⟨8,.q none,131072,0,P_ 161⟩,⟨9,.q none,16384,0,P_ 162⟩,⟨10,.q (some 0),P_ 162,512,P_ 163⟩,⟨11,.q none,P_ 163+P_ 161,1792,P_ 164⟩,⟨12,.q none,131072,0,P_ 165⟩,⟨13,.q none,16384,0,P_ 166⟩,⟨14,.q (some 0),P_ 166,8192,P_ 167⟩,⟨15,.q none,P_ 167+P_ 165,28672,P_ 168⟩,⟨16,.q none,P_ 168+P_ 164,65280,P_ 169⟩,⟨17,.q none,16384,0,P_ 170⟩,⟨18,.q (some 0),P_ 170,131072,P_ 171⟩,⟨19,.q none,16384,0,P_ 172⟩,⟨20,.q (some 0),P_ 172,524288,P_ 173⟩,⟨21,.q none,P_ 173+P_ 171,1966080,P_ 174⟩,⟨22,.q none,P_ 174+P_ 169,4194048,P_ 175⟩,⟨23,.q none,P_ 175+P_ 160,8388607,P_ 176⟩,⟨24,.q none,P_ 176,16777215,524288⟩]),(38,[⟨0,.q none,1048576,0,P_ 201⟩,⟨1,.q none,1048576,0,P_ 202⟩,⟨2,.q none,P_ 202+P_ 7,2,P_ 203⟩,⟨3,.q (some 0),P_ 203,6,P_ 204⟩,⟨4,.q none,1048576,0,P_ 205⟩,⟨5,.q none,P_ 205+P_ 14,16,P_ 206⟩,⟨6,.q (some 0),P_ 206,48,P_ 207⟩,⟨7,.q none,P_ 207+P_ 204,126,P_ 208⟩,⟨8,.q none,P_ 201+P_ 7,255,P_ 209⟩,⟨9,.f 0 false,P_ 210-P_ 208,511,0⟩])],[],[]⟩
variable {x0 x1 x2 x3 x4 x5 x6 x7 x8 x9:Value} {w:World} {R:Ending→World→Prop}
theorem C_bevyref02_Sum (h:F_bevyref02_Sum x0 w R):Calls Tryz.prog 64 #[x0] w R:=cc A_bevyref02_Sum [x0] Tryz.func64 h
def F_bevyref05_text (a:Value) (w:World) (R:Ending→World→Prop):Prop:=
 m R (o_box 33 a) w fun b c=>
 m R (o_slice 33 b none none none) c fun d e=>
 m R (o_conv 99 9 d) e fun f g=>
 R (.returned f) g
def A_bevyref05_text:Ann:=⟨[],[],[],[],[]⟩
theorem C_bevyref05_text (h:F_bevyref05_text x0 w R):Calls Tryz.prog 65 #[x0] w R:=cc A_bevyref05_text [x0] Tryz.func65 h
def F_tree_zero (G:Value) (w:World) (R:Ending→World→Prop):Prop:=
 m R (o_box 69 G) w fun d H=>
 m R (o_fieldAddr 69 d 0) H fun I J=>
 m R (o_load 4 I) J fun K L=>
 m R (o_un .not K) L fun c n=>
 mguard c true (fun k=>m R (o_fieldAddr 69 d 1) n k) n fun M o=>
 mguard c true (fun k=>m R (o_load 34 M) o k) o fun N p=>
 mguard c true (fun k=>m R (o_build 34 []) p k) p fun O q=>
 mguard c true (fun k=>m R (o_bin .eql 34 false N O) q k) q fun r Q=>
 m R (o_pick c r (.bool false)) Q fun a s=>
 mguard a true (fun k=>m R (o_fieldAddr 69 d 2) s k) s fun t e=>
 mguard a true (fun k=>m R (o_load 34 t) e k) e fun u f=>
 mguard a true (fun k=>m R (o_build 34 []) f k) f fun v g=>
 mguard a true (fun k=>m R (o_bin .eql 34 false u v) g k) g fun x y=>
 m R (o_pick a x (.bool false)) y fun b h=>
 mguard b true (fun k=>m R (o_fieldAddr 69 d 3) h k) h fun z i=>
 mguard b true (fun k=>m R (o_load 47 z) i k) i fun A j=>
 mguard b true (fun k=>m R (o_builtin .len #[47] 3 [false] [A]) j k) j fun B l=>
 mguard b true (fun k=>m R (o_bin .eql 3 true B (.int .i64 0)) l k) l fun C D=>
 m R (o_pick b C (.bool false)) D fun E F=>
 R (.returned E) F
def A_tree_zero:Ann:=⟨[],[],[],[],[]⟩
theorem C_tree_zero (h:F_tree_zero x0 w R):Calls Tryz.prog 66 #[x0] w R:=cc A_tree_zero [x0] Tryz.func66 h
def F_slices_Clone_api_Key_api_Key (a:Value) (w:World) (R:Ending→World→Prop):Prop:=
 m R (o_bin .eql 26 true a (.slice none 0 0)) w fun c b=>
 mif c (
 R (.returned (.slice none 0 0)) b) (
 m R (o_buildSlice 26 0 []) b fun d e=>
 m R (o_builtin .append #[26,26] 26 [false,false] [d,a]) e fun f g=>
 R (.returned f) g)
def A_slices_Clone_api_Key_api_Key:Ann:=⟨[],[],[],[],[]⟩
theorem C_slices_Clone_api_Key_api_Key (h:F_slices_Clone_api_Key_api_Key x0 w R):Calls Tryz.prog 67 #[x0] w R:=cc A_slices_Clone_api_Key_api_Key [x0] Tryz.func67 h
def F_slices_SortStableFunc_api_Key_api_Key (a b:Value) (w:World) (R:Ending→World→Prop):Prop:=
 m R (o_builtin .len #[26] 3 [false] [a]) w fun c d=>
 m R (o_call (fv 106) [a,c,b]) d fun f e=>
 R (.returned (.tuple #[])) e
def A_slices_SortStableFunc_api_Key_api_Key:Ann:=⟨[],[],[],[],[]⟩
theorem C_slices_SortStableFunc_api_Key_api_Key (h:F_slices_SortStableFunc_api_Key_api_Key x0 x1 w R):Calls Tryz.prog 68 #[x0,x1] w R:=cc A_slices_SortStableFunc_api_Key_api_Key [x0,x1] Tryz.func68 h
def F_climb_sorted_1 (a b:Value) (w:World) (R:Ending→World→Prop):Prop:=
 m R (o_box 43 a) w fun c d=>
 m R (o_box 43 b) d fun e f=>
 m R (o_fieldAddr 43 c 0) f fun g h=>
 m R (o_load 3 g) h fun i j=>
 m R (o_fieldAddr 43 e 0) j fun l n=>
 m R (o_load 3 l) n fun o p=>
 m R (o_bin .sub 3 false i o) p fun q r=>
 R (.returned q) r
def A_climb_sorted_1:Ann:=⟨[],[],[],[],[]⟩
theorem C_climb_sorted_1 (h:F_climb_sorted_1 x0 x1 w R):Calls Tryz.prog 69 #[x0,x1] w R:=cc A_climb_sorted_1 [x0,x1] Tryz.func69 h
def F_slices_CompactFunc_api_Key_api_Key (b l:Value) (w:World) (R:Ending→World→Prop):Prop:=
 m R (o_builtin .len #[26] 3 [false] [b]) w fun aF aG=>
 m R (o_bin .lss 3 true aF (.int .i64 2)) aG fun n o=>
 mif n (
 R (.returned b) o) (
 ml1 (.int .i64 1) o fun a aN aH f=>
 m R (o_builtin .len #[26] 3 [false] [b]) aH fun p aI=>
 m R (o_bin .lss 3 false a p) aI fun q g=>
 mif q (
 dp Tryz.prog (o_indexAddr 26 b a) fun r=>
 dq Tryz.prog g (o_load 43 r) fun s=>
 dp Tryz.prog (o_bin .sub 3 true a (.int .i64 1)) fun t=>
 dp Tryz.prog (o_indexAddr 26 b t) fun u=>
 dq Tryz.prog g (o_load 43 u) fun v=>
 df Tryz.prog g (o_call l [s,v]) false fun x aJ=>
 dend aJ fun y=>
 mif x (
 m R (o_slice 26 b (some a) none none) y fun c aK=>
 ml2 a (.int .i64 1) aK fun a e aO aL h=>
 m R (o_builtin .len #[26] 3 [false] [c]) aL fun z A=>
 m R (o_bin .lss 3 false e z) A fun B d=>
 mif B (
 mj1 (fun i=>
 dp Tryz.prog (o_indexAddr 26 c e) fun C=>
 dq Tryz.prog d (o_load 43 C) fun D=>
 dp Tryz.prog (o_bin .sub 3 true e (.int .i64 1)) fun E=>
 dp Tryz.prog (o_indexAddr 26 c E) fun F=>
 dq Tryz.prog d (o_load 43 F) fun G=>
 df Tryz.prog d (o_call l [D,G]) false fun H I=>
 dp Tryz.prog (o_un .not H) fun J=>
 dend I fun j=>
 mif J (
 m R (o_indexAddr 26 c e) j fun K L=>
 m R (o_load 43 K) L fun M N=>
 m R (o_indexAddr 26 b a) N fun O Q=>
 m R (o_store 43 O M) Q fun _ S=>
 m R (o_bin .add 3 true a (.int .i64 1)) S fun T U=>
 i T U) (
 i a j)) fun a aM V=>
 m R (o_bin .add 3 true e (.int .i64 1)) V fun W X=>
 h a W X) (
 m R (o_slice 26 b (some a) none none) d fun Y Z=>
 m R (o_builtin .clear #[26] 0 [false] [Y]) Z fun _ aA=>
 m R (o_slice 26 b none (some a) none) aA fun aB aC=>
 R (.returned aB) aC)) (
 m R (o_bin .add 3 true a (.int .i64 1)) y fun aD aE=>
 f aD aE)) (
 R (.returned b) g))
def A_slices_CompactFunc_api_Key_api_Key:Ann:=⟨[(4,[5],36893488147419099376),(9,[5,7],576460748008456352)],[(10,[5],576460477425516576)],[(6,[⟨0,.q none,2,0,262144⟩,⟨1,.q none,1,0,524288⟩,⟨2,.q none,32,0,1048576⟩,⟨3,.q none,1572864,6,2097152⟩,⟨4,.q (some 0),2097152,14,4194304⟩,⟨5,.q none,1,0,8388608⟩,⟨6,.q none,32,0,16777216⟩,⟨7,.q none,16777216,64,33554432⟩,⟨8,.q none,41943040,224,67108864⟩,⟨9,.q (some 0),67108864,480,P_ 27⟩,⟨10,.f 0 false,138674176,1023,P_ 28⟩]),(11,[⟨0,.q none,2,0,P_ 38⟩,⟨1,.q none,64,0,P_ 39⟩,⟨2,.q none,128,0,P_ 40⟩,⟨3,.q none,1649267441664,6,P_ 41⟩,⟨4,.q (some 0),P_ 41,14,P_ 42⟩,⟨5,.q none,64,0,P_ 43⟩,⟨6,.q none,128,0,P_ 44⟩,⟨7,.q none,P_ 44,64,P_ 45⟩,⟨8,.q none,P_ 45+P_ 43,224,P_ 46⟩,⟨9,.q (some 0),P_ 46,480,P_ 47⟩,⟨10,.f 0 false,145410412773376,1023,P_ 48⟩,⟨11,.q none,P_ 48,2047,P_ 49⟩])],[],[]⟩
theorem C_slices_CompactFunc_api_Key_api_Key (h:F_slices_CompactFunc_api_Key_api_Key x0 x1 w R):Calls Tryz.prog 70 #[x0,x1] w R:=cc A_slices_CompactFunc_api_Key_api_Key [x0,x1] Tryz.func70 h
def F_climb_sorted_2 (a b:Value) (w:World) (R:Ending→World→Prop):Prop:=
 m R (o_box 43 a) w fun c d=>
 m R (o_box 43 b) d fun e f=>
 m R (o_fieldAddr 43 c 0) f fun g h=>
 m R (o_load 3 g) h fun i j=>
 m R (o_fieldAddr 43 e 0) j fun l n=>
 m R (o_load 3 l) n fun o p=>
 m R (o_bin .eql 3 false i o) p fun q r=>
 R (.returned q) r
def A_climb_sorted_2:Ann:=⟨[],[],[],[],[]⟩
theorem C_climb_sorted_2 (h:F_climb_sorted_2 x0 x1 w R):Calls Tryz.prog 71 #[x0,x1] w R:=cc A_climb_sorted_2 [x0,x1] Tryz.func71 h
def F_slices_Clone_api_Leaf_api_Leaf (a:Value) (w:World) (R:Ending→World→Prop):Prop:=
 m R (o_bin .eql 22 true a (.slice none 0 0)) w fun c b=>
 mif c (
 R (.returned (.slice none 0 0)) b) (
 m R (o_buildSlice 22 0 []) b fun d e=>
 m R (o_builtin .append #[22,22] 22 [false,false] [d,a]) e fun f g=>
 R (.returned f) g)
def A_slices_Clone_api_Leaf_api_Leaf:Ann:=⟨[],[],[],[],[]⟩
theorem C_slices_Clone_api_Leaf_api_Leaf (h:F_slices_Clone_api_Leaf_api_Leaf x0 w R):Calls Tryz.prog 72 #[x0] w R:=cc A_slices_Clone_api_Leaf_api_Leaf [x0] Tryz.func72 h
def F_slices_Clone_api_Parent_api_Parent (a:Value) (w:World) (R:Ending→World→Prop):Prop:=
 m R (o_bin .eql 23 true a (.slice none 0 0)) w fun c b=>
 mif c (
 R (.returned (.slice none 0 0)) b) (
 m R (o_buildSlice 23 0 []) b fun d e=>
 m R (o_builtin .append #[23,23] 23 [false,false] [d,a]) e fun f g=>
 R (.returned f) g)
def A_slices_Clone_api_Parent_api_Parent:Ann:=⟨[],[],[],[],[]⟩
theorem C_slices_Clone_api_Parent_api_Parent (h:F_slices_Clone_api_Parent_api_Parent x0 w R):Calls Tryz.prog 73 #[x0] w R:=cc A_slices_Clone_api_Parent_api_Parent [x0] Tryz.func73 h
def F_slices_Clone_int_int (a:Value) (w:World) (R:Ending→World→Prop):Prop:=
 m R (o_bin .eql 47 true a (.slice none 0 0)) w fun c b=>
 mif c (
 R (.returned (.slice none 0 0)) b) (
 m R (o_buildSlice 47 0 []) b fun d e=>
 m R (o_builtin .append #[47,47] 47 [false,false] [d,a]) e fun f g=>
 R (.returned f) g)
def A_slices_Clone_int_int:Ann:=⟨[],[],[],[],[]⟩
theorem C_slices_Clone_int_int (h:F_slices_Clone_int_int x0 w R):Calls Tryz.prog 74 #[x0] w R:=cc A_slices_Clone_int_int [x0] Tryz.func74 h
def F_bough_up (a b:Value) (w:World) (R:Ending→World→Prop):Prop:=
 m R (o_box 3 a) w fun c d=>
 m R (o_box 3 b) d fun e f=>
 m R (o_func (.func 107) [] [c,e]) f fun g h=>
 R (.returned g) h
def A_bough_up:Ann:=⟨[],[],[],[],[]⟩
theorem C_bough_up (h:F_bough_up x0 x1 w R):Calls Tryz.prog 75 #[x0,x1] w R:=cc A_bough_up [x0,x1] Tryz.func75 h
def F_cmp_Less_int (c d:Value) (w:World) (R:Ending→World→Prop):Prop:=
 m R (o_call (fv 109) [c]) w fun b e=>
 mguard b true (fun k=>m R (o_move d) e k) e fun r f=>
 mguard b true (fun k=>m R (o_call (fv 109) [r]) f k) f fun s g=>
 mguard b true (fun k=>m R (o_un .not s) g k) g fun h t=>
 m R (o_pick b h (.bool false)) t fun a i=>
 mguard a false (fun k=>m R (o_move c) i k) i fun j l=>
 mguard a false (fun k=>m R (o_move d) l k) l fun n o=>
 mguard a false (fun k=>m R (o_bin .lss 3 false j n) o k) o fun p u=>
 m R (o_pick a (.bool true) p) u fun q v=>
 R (.returned q) v
def A_cmp_Less_int:Ann:=⟨[],[],[],[],[]⟩
theorem C_cmp_Less_int (h:F_cmp_Less_int x0 x1 w R):Calls Tryz.prog 76 #[x0,x1] w R:=cc A_cmp_Less_int [x0,x1] Tryz.func76 h
def F_slices_isNaN_int (a:Value) (w:World) (R:Ending→World→Prop):Prop:=
 m R (o_bin .neq 3 false a a) w fun b c=>
 R (.returned b) c
def A_slices_isNaN_int:Ann:=⟨[],[],[],[],[]⟩
theorem C_slices_isNaN_int (h:F_slices_isNaN_int x0 w R):Calls Tryz.prog 77 #[x0] w R:=cc A_slices_isNaN_int [x0] Tryz.func77 h
def F_sha_Sum (o:Value) (w:World) (R:Ending→World→Prop):Prop:=
 m R (o_alloc 34) w fun p bX=>
 m R (o_build 162 [(0,(.int .u32 1779033703)),(1,(.int .u32 3144134277)),(2,(.int .u32 1013904242)),(3,(.int .u32 2773480762)),(4,(.int .u32 1359893119)),(5,(.int .u32 2600822924)),(6,(.int .u32 528734635)),(7,(.int .u32 1541459225))]) bX fun q bY=>
 m R (o_call (fv 111) []) bY fun r bZ=>
 m R (o_build 170 [(0,q),(3,r)]) bZ fun s b0=>
 m R (o_box 170 s) b0 fun a b1=>
 m R (o_builtin .len #[70] 3 [false] [o]) b1 fun t b2=>
 ml1 (.int .i64 0) b2 fun d cA b3 g=>
 m R (o_bin .lss 3 false d t) b3 fun u v=>
 mif u (
 m R (o_indexAddr 70 o d) v fun x b4=>
 m R (o_load 9 x) b4 fun y z=>
 m R (o_call (fv 112) [a,y]) z fun b6 A=>
 m R (o_bin .add 3 true d (.int .i64 1)) A fun B C=>
 g B C) (
 m R (o_alloc 172) v fun n D=>
 m R (o_indexAddr 172 n (.int .i64 0)) D fun E F=>
 m R (o_store 5 E (.int .u8 128)) F fun _ G=>
 m R (o_nilCheck a) G fun H I=>
 m R (o_fieldAddr 170 H 2) I fun J K=>
 m R (o_load 3 J) K fun L M=>
 m R (o_bin .add 3 true L (.int .i64 8)) M fun N O=>
 m R (o_bin .rem 3 true N (.int .i64 64)) O fun Q S=>
 m R (o_bin .sub 3 true (.int .i64 64) Q) S fun h T=>
 ml1 (.int .i64 0) T fun c b7 U e=>
 m R (o_bin .lss 3 true c (.int .i64 8)) U fun V i=>
 mif V (
 m R (o_bin .add 3 false h c) i fun W X=>
 m R (o_nilCheck a) X fun Y Z=>
 m R (o_fieldAddr 170 Y 2) Z fun aA aB=>
 m R (o_load 3 aA) aB fun aC aD=>
 m R (o_conv 3 161 aC) aD fun aE aF=>
 m R (o_bin .mul 161 true aE (.int .u64 8)) aF fun aG aH=>
 m R (o_bin .mul 3 true (.int .i64 8) c) aH fun aI aJ=>
 m R (o_bin .sub 3 true (.int .i64 56) aI) aJ fun aK aL=>
 m R (o_bin .shr 161 false aG aK) aL fun aM aN=>
 m R (o_conv 161 5 aM) aN fun aO aP=>
 m R (o_indexAddr 172 n W) aP fun aQ aR=>
 m R (o_store 5 aQ aO) aR fun _ aS=>
 m R (o_bin .add 3 true c (.int .i64 1)) aS fun aT aU=>
 e aT aU) (
 m R (o_bin .add 3 true h (.int .i64 8)) i fun aV aW=>
 m R (o_slice 172 n none (some aV) none) aW fun aX aY=>
 m R (o_conv 99 9 aX) aY fun aZ a0=>
 m R (o_call (fv 112) [a,aZ]) a0 fun b8 a1=>
 m R (o_alloc 34) a1 fun a2 a3=>
 ml1 (.int .i64 0) a3 fun b b9 a4 f=>
 m R (o_bin .lss 3 true b (.int .i64 32)) a4 fun a5 j=>
 mif a5 (
 m R (o_bin .quo 3 true b (.int .i64 4)) j fun a6 a7=>
 m R (o_nilCheck a) a7 fun a8 a9=>
 m R (o_fieldAddr 170 a8 0) a9 fun bA bB=>
 m R (o_indexAddr 162 bA a6) bB fun bC bD=>
 m R (o_load 159 bC) bD fun bE bF=>
 m R (o_bin .rem 3 true b (.int .i64 4)) bF fun bG bH=>
 m R (o_bin .mul 3 true (.int .i64 8) bG) bH fun bI bJ=>
 m R (o_bin .sub 3 true (.int .i64 24) bI) bJ fun bK bL=>
 m R (o_bin .shr 159 false bE bK) bL fun bM bN=>
 m R (o_conv 159 5 bM) bN fun bO bP=>
 m R (o_indexAddr 34 a2 b) bP fun bQ bR=>
 m R (o_store 5 bQ bO) bR fun _ bS=>
 m R (o_bin .add 3 true b (.int .i64 1)) bS fun bT bU=>
 f bT bU) (
 m R (o_load 34 a2) j fun bV bW=>
 m R (o_store 34 p bV) bW fun _ l=>
 rcell Tryz.prog 34 p l fun b5=>
 R (.returned b5) l)))
def A_sha_Sum:Ann:=⟨[(3,[17],33423392),(11,[33],4503591037436160),(18,[58],P_ 77+P_ 10-P_ 58)],[],[],[],[]⟩
theorem C_sha_Sum (h:F_sha_Sum x0 w R):Calls Tryz.prog 80 #[x0] w R:=cc A_sha_Sum [x0] Tryz.func80 h
def F_slices_Clone_api_Hash_api_Hash (a:Value) (w:World) (R:Ending→World→Prop):Prop:=
 m R (o_bin .eql 54 true a (.slice none 0 0)) w fun c b=>
 mif c (
 R (.returned (.slice none 0 0)) b) (
 m R (o_buildSlice 54 0 []) b fun d e=>
 m R (o_builtin .append #[54,54] 54 [false,false] [d,a]) e fun f g=>
 R (.returned f) g)
def A_slices_Clone_api_Hash_api_Hash:Ann:=⟨[],[],[],[],[]⟩
theorem C_slices_Clone_api_Hash_api_Hash (h:F_slices_Clone_api_Hash_api_Hash x0 w R):Calls Tryz.prog 82 #[x0] w R:=cc A_slices_Clone_api_Hash_api_Hash [x0] Tryz.func82 h
def F_mac_Derive (i a j:Value) (w:World) (R:Ending→World→Prop):Prop:=
 m R (o_box 34 i) w fun l n=>
 m R (o_alloc 34) n fun b c=>
 dp Tryz.prog (o_slice 34 l none none none) fun o=>
 dq Tryz.prog c (o_conv 99 9 o) fun p=>
 dp Tryz.prog (o_builtin .len #[9] 3 [false] [a]) fun d=>
 df Tryz.prog c (o_call (fv 124) [d]) true fun e q=>
 df Tryz.prog q (o_buildSlice 70 3 [(0,e),(1,a),(2,j)]) true fun f r=>
 df Tryz.prog r (o_call (fv 123) [p,f]) false fun g s=>
 df Tryz.prog s (o_store 34 b g) false fun _ t=>
 dend t fun h=>
 rcell Tryz.prog 34 b h fun u=>
 R (.returned u) h
def A_mac_Derive:Ann:=⟨[],[],[(1,[⟨0,.q none,8,0,128⟩,⟨1,.q (some 0),128,1,256⟩,⟨2,.q none,2,0,512⟩,⟨3,.q none,512,4,1024⟩,⟨4,.f 0 true,1024,12,2048⟩,⟨5,.q none,2,0,4096⟩,⟨6,.q none,4,0,8192⟩,⟨7,.f 1 true,14336,124,16384⟩,⟨8,.f 2 false,16640,255,32768⟩,⟨9,.f 3 false,32832,511,0⟩])],[],[]⟩
theorem C_mac_Derive (h:F_mac_Derive x0 x1 x2 w R):Calls Tryz.prog 85 #[x0,x1,x2] w R:=cc A_mac_Derive [x0,x1,x2] Tryz.func85 h
def F_tree_Resolve (M j:Value) (w:World) (R:Ending→World→Prop):Prop:=
 m R (o_box 25 M) w fun c N=>
 m R (o_load 25 c) N fun O Q=>
 m R (o_call (fv 38) [O]) Q fun S T=>
 m R (o_store 25 c S) T fun _ U=>
 m R (o_fieldAddr 25 c 0) U fun o V=>
 m R (o_load 22 o) V fun p W=>
 m R (o_builtin .len #[22] 3 [false] [p]) W fun q X=>
 m R (o_alloc 3) X fun l Y=>
 m R (o_store 3 l q) Y fun _ Z=>
 m R (o_alloc 47) Z fun r s=>
 m R (o_alloc 148) s fun n t=>
 m R (o_func (.func 125) [] [c,r,n,l]) t fun u v=>
 m R (o_store 148 n u) v fun _ x=>
 mj0 (fun y=>
 mj1 (fun aA=>
 m R (o_bin .geq 3 true j (.int .i64 0)) x fun a d=>
 mguard a true (fun k=>m R (o_move j) d k) d fun z e=>
 mguard a true (fun k=>m R (o_load 3 l) e k) e fun A f=>
 mguard a true (fun k=>m R (o_bin .mul 3 true (.int .i64 2) A) f k) f fun B g=>
 mguard a true (fun k=>m R (o_bin .sub 3 true B (.int .i64 1)) g k) g fun C h=>
 mguard a true (fun k=>m R (o_bin .lss 3 false z C) h k) h fun D E=>
 m R (o_pick a D (.bool false)) E fun b F=>
 aA b F) fun b aC i=>
 mif b (
 m R (o_load 148 n) i fun G H=>
 m R (o_call G [j]) H fun aB I=>
 y I) (
 y i)) fun aD J=>
 m R (o_load 47 r) J fun K L=>
 R (.returned K) L
def A_tree_Resolve:Ann:=⟨[],[(8,[],67092480),(7,[22],8372224)],[],[],[]⟩
theorem C_tree_Resolve (h:F_tree_Resolve x0 x1 w R):Calls Tryz.prog 86 #[x0,x1] w R:=cc A_tree_Resolve [x0,x1] Tryz.func86 h
def F_bough_Beside (b c:Value) (w:World) (R:Ending→World→Prop):Prop:=
 m R (o_call (fv 108) [b,c]) w fun a j=>
 m R (o_bin .lss 3 true a (.int .i64 0)) j fun d e=>
 mif d (
 R (.returned (.int .i64 (-1))) e) (
 m R (o_bin .lss 3 false c a) e fun f g=>
 mif f (
 m R (o_call (fv 127) [b,a]) g fun h l=>
 R (.returned h) l) (
 m R (o_call (fv 126) [b,a]) g fun i n=>
 R (.returned i) n))
def A_bough_Beside:Ann:=⟨[],[],[],[],[]⟩
theorem C_bough_Beside (h:F_bough_Beside x0 x1 w R):Calls Tryz.prog 87 #[x0,x1] w R:=cc A_bough_Beside [x0,x1] Tryz.func87 h
def F_slices_DeleteFunc_int_int (a h:Value) (w:World) (R:Ending→World→Prop):Prop:=
 m R (o_call (fv 58) [a,h]) w fun c I=>
 m R (o_bin .eql 3 true c (.int .i64 (-1))) I fun i j=>
 mif i (
 R (.returned a) j) (
 m R (o_bin .add 3 true c (.int .i64 1)) j fun l J=>
 ml2 c l J fun b g Q K d=>
 m R (o_builtin .len #[47] 3 [false] [a]) K fun n L=>
 m R (o_bin .lss 3 false g n) L fun o p=>
 mif o (
 mj1 (fun q=>
 m R (o_indexAddr 47 a g) p fun r M=>
 m R (o_load 3 r) M fun e N=>
 m R (o_call h [e]) N fun s O=>
 m R (o_un .not s) O fun t f=>
 mif t (
 m R (o_indexAddr 47 a b) f fun u v=>
 m R (o_store 3 u e) v fun _ x=>
 m R (o_bin .add 3 true b (.int .i64 1)) x fun y z=>
 q y z) (
 q b f)) fun b S A=>
 m R (o_bin .add 3 true g (.int .i64 1)) A fun B C=>
 d b B C) (
 m R (o_slice 47 a (some b) none none) p fun D E=>
 m R (o_builtin .clear #[47] 0 [false] [D]) E fun _ F=>
 m R (o_slice 47 a none (some b) none) F fun G H=>
 R (.returned G) H))
def A_slices_DeleteFunc_int_int:Ann:=⟨[(5,[5,6],68719411424)],[(6,[5],68715282592)],[],[],[]⟩
theorem C_slices_DeleteFunc_int_int (h:F_slices_DeleteFunc_int_int x0 x1 w R):Calls Tryz.prog 88 #[x0,x1] w R:=cc A_slices_DeleteFunc_int_int [x0,x1] Tryz.func88 h
def F_climb_beside_1 (b j:Value) (w:World) (R:Ending→World→Prop):Prop:=
 m R (o_bin .rem 3 true b (.int .i64 2)) w fun l n=>
 m R (o_bin .eql 3 true l (.int .i64 0)) n fun a c=>
 mguard a true (fun k=>m R (o_load 47 j) c k) c fun o d=>
 mguard a true (fun k=>m R (o_move b) d k) d fun p e=>
 mguard a true (fun k=>m R (o_bin .quo 3 true p (.int .i64 2)) e k) e fun f g=>
 mguard a true (fun k=>m R (o_call (fv 90) [o,f]) g k) g fun h q=>
 m R (o_pick a h (.bool false)) q fun i r=>
 R (.returned i) r
def A_climb_beside_1:Ann:=⟨[],[],[],[],[]⟩
theorem C_climb_beside_1 (h:F_climb_beside_1 x0 x1 w R):Calls Tryz.prog 89 #[x0,x1] w R:=cc A_climb_beside_1 [x0,x1] Tryz.func89 h
def F_slices_Contains_int_int (a b:Value) (w:World) (R:Ending→World→Prop):Prop:=
 m R (o_call (fv 54) [a,b]) w fun c d=>
 m R (o_bin .geq 3 true c (.int .i64 0)) d fun e f=>
 R (.returned e) f
def A_slices_Contains_int_int:Ann:=⟨[],[],[],[],[]⟩
theorem C_slices_Contains_int_int (h:F_slices_Contains_int_int x0 x1 w R):Calls Tryz.prog 90 #[x0,x1] w R:=cc A_slices_Contains_int_int [x0,x1] Tryz.func90 h
def F_prim_shared (c d:Value) (w:World) (R:Ending→World→Prop):Prop:=
 m R (o_box 34 c) w fun e f=>
 m R (o_alloc 34) f fun a g=>
 m R (o_slice 34 e none none none) g fun h i=>
 m R (o_conv 99 9 h) i fun j l=>
 m R (o_buildSlice 70 3 [(0,(.string (ByteArray.mk #[107,101,109]))),(1,j),(2,d)]) l fun n o=>
 m R (o_call (fv 80) [n]) o fun p q=>
 m R (o_store 34 a p) q fun _ b=>
 rcell Tryz.prog 34 a b fun r=>
 R (.returned r) b
def A_prim_shared:Ann:=⟨[],[],[],[],[]⟩
theorem C_prim_shared (h:F_prim_shared x0 x1 w R):Calls Tryz.prog 91 #[x0,x1] w R:=cc A_prim_shared [x0,x1] Tryz.func91 h
def F_prim_Seal (j I J l h:Value) (w:World) (R:Ending→World→Prop):Prop:=
 m R (o_box 34 I) w fun f K=>
 m R (o_builtin .len #[9] 3 [false] [l]) K fun n L=>
 m R (o_bin .gtr 3 true n (.int .i64 65536)) L fun o p=>
 mif o (
 R (.returned (.string (ByteArray.mk #[]))) p) (
 mj0 (fun i=>
 m R (o_builtin .len #[54] 3 [false] [h]) p fun q M=>
 m R (o_bin .gtr 3 true q (.int .i64 0)) M fun r a=>
 mif r (
 ((
 dq Tryz.prog a (o_load 34 f) fun b=>
 df Tryz.prog a (o_buildSlice 54 1 [(0,b)]) false fun c N=>
 df Tryz.prog N (o_call (fv 82) [h]) true fun d O=>
 dp Tryz.prog (o_build 86 [(0,c),(1,d)]) fun e=>
 df Tryz.prog O (o_call (fv 36) [j,e]) false fun s Q=>
 dend Q fun S=>
 i S)∧(
 dq Tryz.prog a (o_load 34 f) fun b=>
 df Tryz.prog a (o_call (fv 82) [h]) true fun d t=>
 df Tryz.prog t (o_buildSlice 54 1 [(0,b)]) false fun c u=>
 dp Tryz.prog (o_build 86 [(0,c),(1,d)]) fun e=>
 df Tryz.prog u (o_call (fv 36) [j,e]) false fun s v=>
 dend v fun x=>
 i x))) (
 i a)) fun T y=>
 m R (o_load 34 f) y fun z A=>
 m R (o_call (fv 128) [z,l]) A fun g B=>
 m R (o_load 34 f) B fun C D=>
 m R (o_call (fv 129) [C,J,g]) D fun E F=>
 m R (o_bin .add 9 false g E) F fun G H=>
 R (.returned G) H)
def A_prim_Seal:Ann:=⟨[],[(5,[],33521664)],[],[(4,[⟨[0,1,3,2,4,5,6],[⟨0,.q none,1,0,262144⟩,⟨1,.q (some 0),64,0,524288⟩,⟨2,.f 0 false,524288,2,1048576⟩,⟨3,.q none,16,0,2097152⟩,⟨4,.f 1 true,2097152,8,4194304⟩,⟨5,.q none,5242880,30,8388608⟩,⟨6,.f 2 false,8650752,63,16777216⟩]⟩,⟨[0,1,3,4,2,5,6],[⟨0,.q none,1,0,262144⟩,⟨1,.q (some 0),64,0,524288⟩,⟨2,.f 1 false,524288,2,1048576⟩,⟨3,.q none,16,0,2097152⟩,⟨4,.f 0 true,2097152,8,4194304⟩,⟨5,.q none,5242880,30,8388608⟩,⟨6,.f 2 false,8650752,63,16777216⟩]⟩])],[]⟩
theorem C_prim_Seal (h:F_prim_Seal x0 x1 x2 x3 x4 w R):Calls Tryz.prog 92 #[x0,x1,x2,x3,x4] w R:=cc A_prim_Seal [x0,x1,x2,x3,x4] Tryz.func92 h
def F_wire_New (w:World) (R:Ending→World→Prop):Prop:=
 m R (o_build 188 []) w fun a b=>
 m R (o_box 188 a) b fun c d=>
 R (.returned c) d
def A_wire_New:Ann:=⟨[],[],[],[],[]⟩
theorem C_wire_New (h:F_wire_New w R):Calls Tryz.prog 93 #[] w R:=cc A_wire_New [] Tryz.func93 h
def F_wire_Writer_Num (f g:Value) (w:World) (R:Ending→World→Prop):Prop:=
 m R (o_bin .eql 146 true f (.pointer none)) w fun a3 x=>
 mif a3 (
 R (.returned (.tuple #[])) x) (
 mj1 (fun a4=>
 m R (o_bin .lss 3 true g (.int .i64 0)) x fun c y=>
 mguard c false (fun k=>m R (o_move g) y k) y fun z A=>
 mguard c false (fun k=>m R (o_bin .gtr 3 true z (.int .i64 4611686018427387903)) A k) A fun B a5=>
 m R (o_pick c (.bool true) B) a5 fun d a6=>
 a4 d a6) fun d bD C=>
 mif d (
 m R (o_nilCheck f) C fun D a7=>
 m R (o_fieldAddr 188 D 1) a7 fun E a8=>
 m R (o_store 4 E (.bool true)) a8 fun _ a9=>
 R (.returned (.tuple #[])) a9) (
 ml1 (.int .i64 0) C fun e bE F h=>
 mj0 (fun bA=>
 m R (o_bin .lss 3 true e (.int .i64 3)) F fun a j=>
 mguard a true (fun k=>m R (o_move g) j k) j fun G l=>
 mguard a true (fun k=>m R (o_call (fv 130) []) l k) l fun H n=>
 mguard a true (fun k=>m R (o_move e) n k) n fun I o=>
 mguard a true (fun k=>m R (o_index 189 H I) o k) o fun J p=>
 mguard a true (fun k=>m R (o_bin .geq 3 false G J) p k) p fun K L=>
 m R (o_pick a K (.bool false)) L fun M q=>
 mif M (
 bA q) (
 m R (o_bin .shl 3 true (.int .i64 1) e) q fun r N=>
 ml1 (.int .i64 0) N fun b bF O i=>
 m R (o_bin .lss 3 false b r) O fun Q s=>
 mif Q (
 m R (o_bin .sub 3 true r (.int .i64 1)) s fun S T=>
 m R (o_bin .sub 3 false S b) T fun U V=>
 m R (o_bin .mul 3 true (.int .i64 8) U) V fun W X=>
 m R (o_bin .shr 3 false g W) X fun Y Z=>
 m R (o_conv 3 5 Y) Z fun t aA=>
 mj1 (fun u=>
 m R (o_bin .eql 3 true b (.int .i64 0)) aA fun aB v=>
 mif aB (
 m R (o_bin .shl 3 true e (.int .u64 6)) v fun aC aD=>
 m R (o_conv 3 5 aC) aD fun aE aF=>
 m R (o_bin .or 5 false t aE) aF fun aG aH=>
 u aG aH) (
 u t v)) fun bB bC aI=>
 m R (o_nilCheck f) aI fun aJ aK=>
 m R (o_fieldAddr 188 aJ 0) aK fun aL aM=>
 m R (o_load 99 aL) aM fun aN aO=>
 m R (o_buildSlice 99 1 [(0,bB)]) aO fun aP aQ=>
 m R (o_builtin .append #[99,99] 99 [false,false] [aN,aP]) aQ fun aR aS=>
 m R (o_nilCheck f) aS fun aT aU=>
 m R (o_fieldAddr 188 aT 0) aU fun aV aW=>
 m R (o_store 99 aV aR) aW fun _ aX=>
 m R (o_bin .add 3 true b (.int .i64 1)) aX fun aY aZ=>
 i aY aZ) (
 R (.returned (.tuple #[])) s))) fun bG a0=>
 m R (o_bin .add 3 true e (.int .i64 1)) a0 fun a1 a2=>
 h a1 a2))
def A_wire_Writer_Num:Ann:=⟨[(4,[4],1073217552),(8,[33],4611686009837453504)],[(2,[15],64512),(5,[],267911168),(13,[7],2234207627640960)],[],[],[]⟩
theorem C_wire_Writer_Num (h:F_wire_Writer_Num x0 x1 w R):Calls Tryz.prog 94 #[x0,x1] w R:=cc A_wire_Writer_Num [x0,x1] Tryz.func94 h
def F_wire_Writer_End (c:Value) (w:World) (R:Ending→World→Prop):Prop:=
 mj1 (fun r=>
 m R (o_bin .eql 146 true c (.pointer none)) w fun a d=>
 mguard a false (fun k=>m R (o_move c) d k) d fun s e=>
 mguard a false (fun k=>m R (o_nilCheck s) e k) e fun t f=>
 mguard a false (fun k=>m R (o_fieldAddr 188 t 1) f k) f fun u g=>
 mguard a false (fun k=>m R (o_load 4 u) g k) g fun h v=>
 m R (o_pick a (.bool true) h) v fun b x=>
 r b x) fun b A i=>
 mif b (
 R (.returned (.tuple #[(.string (ByteArray.mk #[])),(.int .i64 1)])) i) (
 m R (o_nilCheck c) i fun j y=>
 m R (o_fieldAddr 188 j 0) y fun l z=>
 m R (o_load 99 l) z fun n o=>
 m R (o_conv 99 9 n) o fun p q=>
 R (.returned (.tuple #[p,(.int .i64 0)])) q)
def A_wire_Writer_End:Ann:=⟨[],[(2,[11],4080)],[],[],[]⟩
theorem C_wire_Writer_End (h:F_wire_Writer_End x0 w R):Calls Tryz.prog 95 #[x0] w R:=cc A_wire_Writer_End [x0] Tryz.func95 h
def F_tree_HashAt (I l:Value) (w:World) (R:Ending→World→Prop):Prop:=
 m R (o_box 25 I) w fun c J=>
 m R (o_alloc 34) J fun d K=>
 m R (o_load 25 c) K fun L M=>
 m R (o_call (fv 38) [L]) M fun N O=>
 m R (o_store 25 c N) O fun _ Q=>
 mj1 (fun S=>
 m R (o_bin .lss 3 true l (.int .i64 0)) Q fun a o=>
 mguard a false (fun k=>m R (o_move l) o k) o fun p q=>
 mguard a false (fun k=>m R (o_fieldAddr 25 c 0) q k) q fun r s=>
 mguard a false (fun k=>m R (o_load 22 r) s k) s fun t u=>
 mguard a false (fun k=>m R (o_builtin .len #[22] 3 [false] [t]) u k) u fun v e=>
 mguard a false (fun k=>m R (o_bin .mul 3 true (.int .i64 2) v) e k) e fun x f=>
 mguard a false (fun k=>m R (o_bin .sub 3 true x (.int .i64 1)) f k) f fun y g=>
 mguard a false (fun k=>m R (o_bin .geq 3 false p y) g k) g fun z A=>
 m R (o_pick a (.bool true) z) A fun b B=>
 S b B) fun b T h=>
 mif b (
 m R (o_build 34 []) h fun C D=>
 m R (o_store 34 d C) D fun _ i=>
 rcell Tryz.prog 34 d i fun n=>
 R (.returned n) i) (
 m R (o_load 25 c) h fun E F=>
 m R (o_call (fv 131) [E,l]) F fun G H=>
 m R (o_store 34 d G) H fun _ j=>
 rcell Tryz.prog 34 d j fun n=>
 R (.returned n) j)
def A_tree_HashAt:Ann:=⟨[],[(3,[17],262016)],[],[],[]⟩
theorem C_tree_HashAt (h:F_tree_HashAt x0 x1 w R):Calls Tryz.prog 96 #[x0,x1] w R:=cc A_tree_HashAt [x0,x1] Tryz.func96 h
def F_bevyref07_find (e f g N O:Value) (w:World) (R:Ending→World→Prop):Prop:=
 m R (o_call (fv 132) [e,f]) w fun b Q=>
 m R (o_bin .eql 3 false b g) Q fun h i=>
 mif h (
 R (.returned (.tuple #[e,f,N,O])) i) (
 m R (o_call (fv 133) [f]) i fun a S=>
 m R (o_call (fv 132) [e,a]) S fun j T=>
 m R (o_bin .add 3 false e a) T fun l U=>
 m R (o_bin .sub 3 false f a) U fun n V=>
 m R (o_call (fv 132) [l,n]) V fun o W=>
 m R (o_bin .lss 3 false g b) W fun p q=>
 mif p (
 m R (o_call (fv 97) [e,a,g,b,o]) q fun c X=>
 m R (o_extract c 0) X fun r s=>
 m R (o_extract c 1) s fun t u=>
 m R (o_extract c 2) u fun v x=>
 m R (o_extract c 3) x fun y z=>
 R (.returned (.tuple #[r,t,v,y])) z) (
 m R (o_bin .add 3 false e a) q fun A B=>
 m R (o_bin .sub 3 false f a) B fun C D=>
 m R (o_call (fv 97) [A,C,g,b,j]) D fun d E=>
 m R (o_extract d 0) E fun F G=>
 m R (o_extract d 1) G fun H I=>
 m R (o_extract d 2) I fun J K=>
 m R (o_extract d 3) K fun L M=>
 R (.returned (.tuple #[F,H,J,L])) M))
def A_bevyref07_find:Ann:=⟨[],[],[],[],[]⟩
theorem C_bevyref07_find (h:F_bevyref07_find x0 x1 x2 x3 x4 w R):Calls Tryz.prog 97 #[x0,x1,x2,x3,x4] w R:=cc A_bevyref07_find [x0,x1,x2,x3,x4] Tryz.func97 h
def F_bevyref07_Leaves (c d:Value) (w:World) (R:Ending→World→Prop):Prop:=
 m R (o_call (fv 51) [c,d]) w fun e j=>
 m R (o_un .not e) j fun f g=>
 mif f (
 R (.returned (.tuple #[(.int .i64 0),(.int .i64 0)])) g) (
 m R (o_call (fv 97) [(.int .i64 0),c,d,(.int .i64 (-1)),(.int .i64 (-1))]) g fun a l=>
 m R (o_extract a 0) l fun b n=>
 m R (o_extract a 1) n fun h o=>
 m R (o_extract a 2) o fun s p=>
 m R (o_extract a 3) p fun t q=>
 m R (o_bin .add 3 false b h) q fun i r=>
 R (.returned (.tuple #[b,i])) r)
def A_bevyref07_Leaves:Ann:=⟨[],[],[],[],[]⟩
theorem C_bevyref07_Leaves (h:F_bevyref07_Leaves x0 x1 w R):Calls Tryz.prog 98 #[x0,x1] w R:=cc A_bevyref07_Leaves [x0,x1] Tryz.func98 h
def F_bough_there (e g:Value) (w:World) (R:Ending→World→Prop):Prop:=
 m R (o_bin .geq 3 true e (.int .i64 1)) w fun f h=>
 mguard f true (fun k=>m R (o_move e) h k) h fun B i=>
 mguard f true (fun k=>m R (o_bin .leq 3 true B (.int .i64 64)) i k) i fun C D=>
 m R (o_pick f C (.bool false)) D fun b j=>
 mguard b true (fun k=>m R (o_move g) j k) j fun l n=>
 mguard b true (fun k=>m R (o_bin .geq 3 true l (.int .i64 0)) n k) n fun o E=>
 m R (o_pick b o (.bool false)) E fun a p=>
 mguard a true (fun k=>m R (o_move g) p k) p fun q r=>
 mguard a true (fun k=>m R (o_move e) r k) r fun s t=>
 mguard a true (fun k=>m R (o_bin .mul 3 true (.int .i64 2) s) t k) t fun u c=>
 mguard a true (fun k=>m R (o_bin .sub 3 true u (.int .i64 2)) c k) c fun v d=>
 mguard a true (fun k=>m R (o_bin .leq 3 false q v) d k) d fun x y=>
 m R (o_pick a x (.bool false)) y fun z A=>
 R (.returned z) A
def A_bough_there:Ann:=⟨[],[],[],[],[]⟩
theorem C_bough_there (h:F_bough_there x0 x1 w R):Calls Tryz.prog 99 #[x0,x1] w R:=cc A_bough_there [x0,x1] Tryz.func99 h
def F_bough_Leaves (c a:Value) (w:World) (R:Ending→World→Prop):Prop:=
 m R (o_call (fv 99) [c,a]) w fun r s=>
 m R (o_un .not r) s fun d e=>
 mif d (
 R (.returned (.tuple #[(.int .i64 0),(.int .i64 0)])) e) (
 m R (o_call (fv 134) [a]) e fun f t=>
 m R (o_bin .shl 3 true (.int .i64 1) f) t fun b u=>
 m R (o_bin .add 3 true a (.int .i64 1)) u fun g v=>
 m R (o_bin .sub 3 false g b) v fun h x=>
 m R (o_bin .quo 3 true h (.int .i64 2)) x fun i y=>
 m R (o_bin .add 3 true a (.int .i64 1)) y fun j z=>
 m R (o_bin .add 3 false j b) z fun l A=>
 m R (o_bin .quo 3 true l (.int .i64 2)) A fun n o=>
 m R (o_builtin .min #[3,3] 3 [false,false] [n,c]) o fun p q=>
 R (.returned (.tuple #[i,p])) q)
def A_bough_Leaves:Ann:=⟨[],[],[],[],[]⟩
theorem C_bough_Leaves (h:F_bough_Leaves x0 x1 w R):Calls Tryz.prog 100 #[x0,x1] w R:=cc A_bough_Leaves [x0,x1] Tryz.func100 h
def F_slices_IndexFunc_api_Key_api_Key (c j:Value) (w:World) (R:Ending→World→Prop):Prop:=
 m R (o_builtin .len #[26] 3 [false] [c]) w fun l n=>
 ml1 (.int .i64 0) n fun a t o b=>
 m R (o_bin .lss 3 false a l) o fun p d=>
 mif p (
 m R (o_indexAddr 26 c a) d fun e q=>
 m R (o_load 43 e) q fun f r=>
 m R (o_call j [f]) r fun g h=>
 mif g (
 R (.returned a) h) (
 m R (o_bin .add 3 true a (.int .i64 1)) h fun i s=>
 b i s)) (
 R (.returned (.int .i64 (-1))) d)
def A_slices_IndexFunc_api_Key_api_Key:Ann:=⟨[(2,[8],524080)],[],[],[],[]⟩
theorem C_slices_IndexFunc_api_Key_api_Key (h:F_slices_IndexFunc_api_Key_api_Key x0 x1 w R):Calls Tryz.prog 101 #[x0,x1] w R:=cc A_slices_IndexFunc_api_Key_api_Key [x0,x1] Tryz.func101 h
def F_climb_opened_1 (a b:Value) (w:World) (R:Ending→World→Prop):Prop:=
 m R (o_box 43 a) w fun c d=>
 m R (o_fieldAddr 43 c 0) d fun e f=>
 m R (o_load 3 e) f fun g h=>
 m R (o_load 3 b) h fun i j=>
 m R (o_bin .eql 3 false g i) j fun l n=>
 R (.returned l) n
def A_climb_opened_1:Ann:=⟨[],[],[],[],[]⟩
theorem C_climb_opened_1 (h:F_climb_opened_1 x0 x1 w R):Calls Tryz.prog 102 #[x0,x1] w R:=cc A_climb_opened_1 [x0,x1] Tryz.func102 h
def F_prim_Unwrap (n o b:Value) (w:World) (R:Ending→World→Prop):Prop:=
 m R (o_box 34 n) w fun p q=>
 m R (o_builtin .len #[9] 3 [false] [b]) q fun r s=>
 m R (o_bin .lss 3 true r (.int .i64 48)) s fun d c=>
 mif d (
 R (.returned (.tuple #[(.string (ByteArray.mk #[])),(.int .i64 2)])) c) (
 dq Tryz.prog c (o_load 34 p) fun e=>
 df Tryz.prog c (o_call (fv 35) [e]) false fun f t=>
 dp Tryz.prog (o_slice 9 b none (some (.int .i64 32)) none) fun g=>
 df Tryz.prog t (o_call (fv 91) [f,g]) false fun h u=>
 dp Tryz.prog (o_slice 9 b (some (.int .i64 32)) none none) fun i=>
 df Tryz.prog u (o_call (fv 135) [h,o,i]) false fun a v=>
 dp Tryz.prog (o_extract a 0) fun j=>
 dp Tryz.prog (o_extract a 1) fun l=>
 dend v fun x=>
 R (.returned (.tuple #[j,l])) x)
def A_prim_Unwrap:Ann:=⟨[],[],[(3,[⟨0,.q (some 0),8,0,2048⟩,⟨1,.f 0 false,2048,1,4096⟩,⟨2,.q none,4,0,8192⟩,⟨3,.q none,8192,4,16384⟩,⟨4,.f 1 false,20480,15,32768⟩,⟨5,.q none,2,0,65536⟩,⟨6,.q none,4,0,131072⟩,⟨7,.q none,131072,64,262144⟩,⟨8,.f 2 false,360448,255,524288⟩,⟨9,.q none,524288,511,1048576⟩,⟨10,.q none,524288,511,2097152⟩,⟨11,.q none,1048576,2047,64⟩,⟨12,.q none,2097152,4095,128⟩])],[],[]⟩
theorem C_prim_Unwrap (h:F_prim_Unwrap x0 x1 x2 w R):Calls Tryz.prog 103 #[x0,x1,x2] w R:=cc A_prim_Unwrap [x0,x1,x2] Tryz.func103 h
def F_bevyref02_word (a b:Value) (w:World) (R:Ending→World→Prop):Prop:=
 dp Tryz.prog (o_indexAddr 99 a b) fun x=>
 dq Tryz.prog w (o_load 5 x) fun y=>
 dp Tryz.prog (o_conv 5 159 y) fun z=>
 dp Tryz.prog (o_bin .shl 159 true z (.int .u64 24)) fun c=>
 dp Tryz.prog (o_bin .add 3 true b (.int .i64 1)) fun d=>
 dp Tryz.prog (o_indexAddr 99 a d) fun e=>
 dq Tryz.prog w (o_load 5 e) fun f=>
 dp Tryz.prog (o_conv 5 159 f) fun g=>
 dp Tryz.prog (o_bin .shl 159 true g (.int .u64 16)) fun h=>
 dp Tryz.prog (o_bin .or 159 false c h) fun i=>
 dp Tryz.prog (o_bin .add 3 true b (.int .i64 2)) fun j=>
 dp Tryz.prog (o_indexAddr 99 a j) fun l=>
 dq Tryz.prog w (o_load 5 l) fun n=>
 dp Tryz.prog (o_conv 5 159 n) fun o=>
 dp Tryz.prog (o_bin .shl 159 true o (.int .u64 8)) fun p=>
 dp Tryz.prog (o_bin .or 159 false i p) fun q=>
 dp Tryz.prog (o_bin .add 3 true b (.int .i64 3)) fun r=>
 dp Tryz.prog (o_indexAddr 99 a r) fun s=>
 dq Tryz.prog w (o_load 5 s) fun t=>
 dp Tryz.prog (o_conv 5 159 t) fun u=>
 dp Tryz.prog (o_bin .or 159 false q u) fun v=>
 dend w fun A=>
 R (.returned v) A
def A_bevyref02_word:Ann:=⟨[],[],[(1,[⟨0,.q none,1,0,32⟩,⟨1,.q none,2,0,64⟩,⟨2,.q none,96,3,128⟩,⟨3,.q (some 0),128,7,256⟩,⟨4,.q none,256,15,512⟩,⟨5,.q none,512,31,1024⟩,⟨6,.q none,1,0,2048⟩,⟨7,.q none,2,0,4096⟩,⟨8,.q none,4096,128,8192⟩,⟨9,.q none,10240,448,16384⟩,⟨10,.q (some 0),16384,960,32768⟩,⟨11,.q none,32768,1984,65536⟩,⟨12,.q none,65536,4032,131072⟩,⟨13,.q none,132096,8191,262144⟩,⟨14,.q none,1,0,524288⟩,⟨15,.q none,2,0,1048576⟩,⟨16,.q none,1048576,32768,2097152⟩,⟨17,.q none,2621440,114688,4194304⟩,⟨18,.q (some 0),4194304,245760,8388608⟩,⟨19,.q none,8388608,507904,16777216⟩,⟨20,.q none,16777216,1032192,33554432⟩,⟨21,.q none,33816576,2097151,67108864⟩,⟨22,.q none,1,0,P_ 27⟩,⟨23,.q none,2,0,P_ 28⟩,⟨24,.q none,P_ 28,8388608,P_ 29⟩,⟨25,.q none,671088640,29360128,P_ 30⟩,⟨26,.q (some 0),P_ 30,62914560,P_ 31⟩,⟨27,.q none,P_ 31,130023424,P_ 32⟩,⟨28,.q none,4362076160,268435455,P_ 33⟩,⟨29,.q none,P_ 33,536870911,16⟩])],[],[]⟩
theorem C_bevyref02_word (h:F_bevyref02_word x0 x1 w R):Calls Tryz.prog 104 #[x0,x1] w R:=cc A_bevyref02_word [x0,x1] Tryz.func104 h
def F_bevyref02_turned (a b:Value) (w:World) (R:Ending→World→Prop):Prop:=
 m R (o_bin .shr 159 false a b) w fun f g=>
 m R (o_bin .sub 59 true (.int .u64 32) b) g fun c h=>
 m R (o_bin .shl 159 false a c) h fun d i=>
 m R (o_bin .or 159 false f d) i fun e j=>
 R (.returned e) j
def A_bevyref02_turned:Ann:=⟨[],[],[],[],[]⟩
theorem C_bevyref02_turned (h:F_bevyref02_turned x0 x1 w R):Calls Tryz.prog 105 #[x0,x1] w R:=cc A_bevyref02_turned [x0,x1] Tryz.func105 h
def F_slices_stableCmpFunc_api_Key (e c f:Value) (w:World) (R:Ending→World→Prop):Prop:=
 ml2 (.int .i64 0) (.int .i64 20) w fun b a Y K g=>
 m R (o_bin .leq 3 false a c) K fun p q=>
 mif p (
 m R (o_call (fv 136) [e,b,a,f]) q fun T L=>
 m R (o_bin .add 3 false a (.int .i64 20)) L fun r M=>
 g a r M) (
 m R (o_call (fv 136) [e,b,c,f]) q fun U N=>
 ml1 (.int .i64 20) N fun d Z O h=>
 m R (o_bin .lss 3 false d c) O fun s t=>
 mif s (
 m R (o_bin .mul 3 true (.int .i64 2) d) t fun u Q=>
 ml2 (.int .i64 0) u Q fun b a aA S i=>
 m R (o_bin .leq 3 false a c) S fun v j=>
 mif v (
 m R (o_bin .add 3 false b d) j fun x y=>
 m R (o_call (fv 137) [e,b,x,a,f]) y fun V z=>
 m R (o_bin .mul 3 true (.int .i64 2) d) z fun A B=>
 m R (o_bin .add 3 false a A) B fun C D=>
 i a C D) (
 mj0 (fun l=>
 m R (o_bin .add 3 false b d) j fun n E=>
 m R (o_bin .lss 3 false n c) E fun F o=>
 mif F (
 m R (o_call (fv 137) [e,b,n,c,f]) o fun W G=>
 l G) (
 l o)) fun X H=>
 m R (o_bin .mul 3 true d (.int .i64 2)) H fun I J=>
 h I J)) (
 R (.returned (.tuple #[])) t))
def A_slices_stableCmpFunc_api_Key:Ann:=⟨[(2,[7,8],8386944),(7,[6],9223372036586341312),(9,[7,8],562941363487104)],[(16,[],P_ 61+P_ 9-P_ 49)],[],[],[]⟩
theorem C_slices_stableCmpFunc_api_Key (h:F_slices_stableCmpFunc_api_Key x0 x1 x2 w R):Calls Tryz.prog 106 #[x0,x1,x2] w R:=cc A_slices_stableCmpFunc_api_Key [x0,x1,x2] Tryz.func106 h
def F_bough_Above (h a:Value) (w:World) (R:Ending→World→Prop):Prop:=
 mj1 (fun B=>
 m R (o_call (fv 99) [h,a]) w fun C D=>
 m R (o_un .not C) D fun b i=>
 mguard b false (fun k=>m R (o_move a) i k) i fun j l=>
 mguard b false (fun k=>m R (o_move h) l k) l fun n o=>
 mguard b false (fun k=>m R (o_call (fv 138) [n]) o k) o fun p q=>
 mguard b false (fun k=>m R (o_bin .eql 3 false j p) q k) q fun r E=>
 m R (o_pick b (.bool true) r) E fun c F=>
 B c F) fun c H s=>
 mif c (
 R (.returned (.int .i64 (-1))) s) (
 ml1 a s fun a I G e=>
 m R (o_call (fv 134) [a]) G fun f t=>
 dp Tryz.prog (o_bin .add 3 true f (.int .i64 1)) fun u=>
 dp Tryz.prog (o_bin .shl 3 true (.int .i64 1) u) fun v=>
 dp Tryz.prog (o_bin .andNot 3 false a v) fun x=>
 dp Tryz.prog (o_bin .shl 3 true (.int .i64 1) f) fun y=>
 dp Tryz.prog (o_bin .or 3 false x y) fun d=>
 dend t fun z=>
 m R (o_call (fv 99) [h,d]) z fun A g=>
 mif A (
 R (.returned d) g) (
 e d g))
def A_bough_Above:Ann:=⟨[(3,[1],1073676338)],[(2,[15],65472)],[(4,[⟨0,.q none,2,0,262144⟩,⟨1,.q none,32,0,524288⟩,⟨2,.q none,524288,2,1048576⟩,⟨3,.q none,1048576,6,2097152⟩,⟨4,.q none,2359296,15,4194304⟩,⟨5,.q none,32,0,8388608⟩,⟨6,.q none,8388608,32,16777216⟩,⟨7,.q none,20971520,127,33554432⟩,⟨8,.q none,33554432,255,2⟩])],[],[]⟩
theorem C_bough_Above (h:F_bough_Above x0 x1 w R):Calls Tryz.prog 108 #[x0,x1] w R:=cc A_bough_Above [x0,x1] Tryz.func108 h
def F_cmp_isNaN_int (a:Value) (w:World) (R:Ending→World→Prop):Prop:=
 m R (o_bin .neq 3 false a a) w fun b c=>
 R (.returned b) c
def A_cmp_isNaN_int:Ann:=⟨[],[],[],[],[]⟩
theorem C_cmp_isNaN_int (h:F_cmp_isNaN_int x0 w R):Calls Tryz.prog 109 #[x0] w R:=cc A_cmp_isNaN_int [x0] Tryz.func109 h
def F_sha_rounds (w:World) (R:Ending→World→Prop):Prop:=
 m R (o_alloc 160) w fun a c=>
 m R (o_build 160 [(0,(.int .u32 1116352408)),(1,(.int .u32 1899447441)),(2,(.int .u32 3049323471)),(3,(.int .u32 3921009573)),(4,(.int .u32 961987163)),(5,(.int .u32 1508970993)),(6,(.int .u32 2453635748)),(7,(.int .u32 2870763221)),(8,(.int .u32 3624381080)),(9,(.int .u32 310598401)),(10,(.int .u32 607225278)),(11,(.int .u32 1426881987)),(12,(.int .u32 1925078388)),(13,(.int .u32 2162078206)),(14,(.int .u32 2614888103)),(15,(.int .u32 3248222580)),(16,(.int .u32 3835390401)),(17,(.int .u32 4022224774)),(18,(.int .u32 264347078)),(19,(.int .u32 604807628)),(20,(.int .u32 770255983)),(21,(.int .u32 1249150122)),(22,(.int .u32 1555081692)),(23,(.int .u32 1996064986)),(24,(.int .u32 2554220882)),(25,(.int .u32 2821834349)),(26,(.int .u32 2952996808)),(27,(.int .u32 3210313671)),(28,(.int .u32 3336571891)),(29,(.int .u32 3584528711)),(30,(.int .u32 113926993)),(31,(.int .u32 338241895)),(32,(.int .u32 666307205)),(33,(.int .u32 773529912)),(34,(.int .u32 1294757372)),(35,(.int .u32 1396182291)),(36,(.int .u32 1695183700)),(37,(.int .u32 1986661051)),(38,(.int .u32 2177026350)),(39,(.int .u32 2456956037)),(40,(.int .u32 2730485921)),(41,(.int .u32 2820302411)),(42,(.int .u32 3259730800)),(43,(.int .u32 3345764771)),(44,(.int .u32 3516065817)),(45,(.int .u32 3600352804)),(46,(.int .u32 4094571909)),(47,(.int .u32 275423344)),(48,(.int .u32 430227734)),(49,(.int .u32 506948616)),(50,(.int .u32 659060556)),(51,(.int .u32 883997877)),(52,(.int .u32 958139571)),(53,(.int .u32 1322822218)),(54,(.int .u32 1537002063)),(55,(.int .u32 1747873779)),(56,(.int .u32 1955562222)),(57,(.int .u32 2024104815)),(58,(.int .u32 2227730452)),(59,(.int .u32 2361852424)),(60,(.int .u32 2428436474)),(61,(.int .u32 2756734187)),(62,(.int .u32 3204031479)),(63,(.int .u32 3329325298))]) c fun d e=>
 m R (o_store 160 a d) e fun _ b=>
 rcell Tryz.prog 160 a b fun f=>
 R (.returned f) b
def A_sha_rounds:Ann:=⟨[],[],[],[],[]⟩
theorem C_sha_rounds (h:F_sha_rounds w R):Calls Tryz.prog 111 #[] w R:=cc A_sha_rounds [] Tryz.func111 h
def F_sha_state_put (b c:Value) (w:World) (R:Ending→World→Prop):Prop:=
 ml1 c w fun c Y K a=>
 m R (o_builtin .len #[9] 3 [false] [c]) K fun L M=>
 m R (o_bin .gtr 3 true L (.int .i64 0)) M fun N g=>
 mif N (
 dp Tryz.prog (o_nilCheck b) fun O=>
 dp Tryz.prog (o_fieldAddr 170 O 1) fun h=>
 dp Tryz.prog (o_nilCheck b) fun i=>
 dp Tryz.prog (o_fieldAddr 170 i 2) fun j=>
 dq Tryz.prog g (o_load 3 j) fun l=>
 dp Tryz.prog (o_bin .rem 3 true l (.int .i64 64)) fun n=>
 dp Tryz.prog (o_slice 168 h (some n) none none) fun o=>
 df Tryz.prog g (o_builtin .copy #[99,9] 3 [false,false] [o,c]) false fun d Q=>
 dend Q fun S=>
 m R (o_slice 9 c (some d) none none) S fun e T=>
 m R (o_nilCheck b) T fun p U=>
 m R (o_fieldAddr 170 p 2) U fun q V=>
 m R (o_load 3 q) V fun r W=>
 m R (o_bin .add 3 false r d) W fun s t=>
 m R (o_nilCheck b) t fun u v=>
 m R (o_fieldAddr 170 u 2) v fun x y=>
 m R (o_store 3 x s) y fun _ z=>
 m R (o_nilCheck b) z fun A B=>
 m R (o_fieldAddr 170 A 2) B fun C D=>
 m R (o_load 3 C) D fun E F=>
 m R (o_bin .rem 3 true E (.int .i64 64)) F fun G H=>
 m R (o_bin .eql 3 true G (.int .i64 0)) H fun I f=>
 mif I (
 m R (o_call (fv 140) [b]) f fun X J=>
 a e J) (
 a e f)) (
 R (.returned (.tuple #[])) g)
def A_sha_state_put:Ann:=⟨[(0,[1],274877906930)],[],[(1,[⟨0,.q none,1,0,256⟩,⟨1,.q none,256,1,512⟩,⟨2,.q none,512,3,1024⟩,⟨3,.q none,1,0,2048⟩,⟨4,.q none,2048,8,4096⟩,⟨5,.q none,4096,24,8192⟩,⟨6,.q (some 0),8192,56,16384⟩,⟨7,.q none,16384,120,32768⟩,⟨8,.q none,33792,255,65536⟩,⟨9,.q none,2,0,131072⟩,⟨10,.f 0 false,196608,1023,262144⟩,⟨11,.q none,262144,2047,16⟩])],[],[]⟩
theorem C_sha_state_put (h:F_sha_state_put x0 x1 w R):Calls Tryz.prog 112 #[x0,x1] w R:=cc A_sha_state_put [x0,x1] Tryz.func112 h
def F_mac_Code (b aX:Value) (w:World) (R:Ending→World→Prop):Prop:=
 m R (o_alloc 34) w fun i aY=>
 mj1 (fun j=>
 m R (o_builtin .len #[9] 3 [false] [b]) aY fun l aZ=>
 m R (o_bin .gtr 3 true l (.int .i64 64)) aZ fun n o=>
 mif n (
 m R (o_buildSlice 70 1 [(0,b)]) o fun p a0=>
 m R (o_call (fv 80) [p]) a0 fun q a1=>
 m R (o_alloc 34) a1 fun r a2=>
 m R (o_store 34 r q) a2 fun _ a3=>
 m R (o_slice 34 r none none none) a3 fun s a4=>
 m R (o_conv 99 9 s) a4 fun t a5=>
 j t a5) (
 j b o)) fun b a9 u=>
 m R (o_alloc 168) u fun d v=>
 m R (o_alloc 168) v fun e x=>
 m R (o_slice 168 d none none none) x fun y z=>
 m R (o_builtin .copy #[99,9] 3 [false,false] [y,b]) z fun a7 A=>
 m R (o_slice 168 e none none none) A fun B C=>
 m R (o_builtin .copy #[99,9] 3 [false,false] [B,b]) C fun a8 D=>
 ml1 (.int .i64 0) D fun a bA E f=>
 m R (o_bin .lss 3 true a (.int .i64 64)) E fun F g=>
 mif F (
 m R (o_indexAddr 168 d a) g fun G H=>
 m R (o_load 5 G) H fun I J=>
 m R (o_bin .xor 5 true I (.int .u8 54)) J fun K L=>
 m R (o_indexAddr 168 d a) L fun M N=>
 m R (o_store 5 M K) N fun _ O=>
 m R (o_indexAddr 168 e a) O fun Q S=>
 m R (o_load 5 Q) S fun T U=>
 m R (o_bin .xor 5 true T (.int .u8 92)) U fun V W=>
 m R (o_indexAddr 168 e a) W fun X Y=>
 m R (o_store 5 X V) Y fun _ Z=>
 m R (o_bin .add 3 true a (.int .i64 1)) Z fun aA aB=>
 f aA aB) (
 m R (o_slice 168 d none none none) g fun aC aD=>
 m R (o_conv 99 9 aC) aD fun aE aF=>
 m R (o_buildSlice 70 1 [(0,aE)]) aF fun aG aH=>
 m R (o_builtin .append #[70,70] 70 [false,false] [aG,aX]) aH fun aI aJ=>
 m R (o_call (fv 80) [aI]) aJ fun aK aL=>
 m R (o_alloc 34) aL fun aM aN=>
 m R (o_store 34 aM aK) aN fun _ c=>
 dp Tryz.prog (o_slice 168 e none none none) fun aO=>
 dq Tryz.prog c (o_conv 99 9 aO) fun aP=>
 dp Tryz.prog (o_slice 34 aM none none none) fun aQ=>
 dq Tryz.prog c (o_conv 99 9 aQ) fun aR=>
 df Tryz.prog c (o_buildSlice 70 2 [(0,aP),(1,aR)]) false fun aS aT=>
 df Tryz.prog aT (o_call (fv 80) [aS]) false fun aU aV=>
 df Tryz.prog aV (o_store 34 i aU) false fun _ aW=>
 dend aW fun h=>
 rcell Tryz.prog 34 i h fun a6=>
 R (.returned a6) h)
def A_mac_Code:Ann:=⟨[(8,[24],274861129984)],[(4,[0],261153)],[(14,[⟨0,.q none,128,0,P_ 44⟩,⟨1,.q (some 0),P_ 44,1,P_ 45⟩,⟨2,.q none,512,0,P_ 46⟩,⟨3,.q (some 0),P_ 46,4,P_ 47⟩,⟨4,.f 0 false,P_ 47+P_ 45,15,P_ 48⟩,⟨5,.f 1 false,P_ 48,31,P_ 49⟩,⟨6,.f 2 false,P_ 49+P_ 4,63,0⟩])],[],[]⟩
theorem C_mac_Code (h:F_mac_Code x0 x1 w R):Calls Tryz.prog 123 #[x0,x1] w R:=cc A_mac_Code [x0,x1] Tryz.func123 h
def F_mac_four (a:Value) (w:World) (R:Ending→World→Prop):Prop:=
 m R (o_bin .shr 3 true a (.int .u64 24)) w fun g h=>
 m R (o_conv 3 5 g) h fun i j=>
 m R (o_bin .shr 3 true a (.int .u64 16)) j fun l n=>
 m R (o_conv 3 5 l) n fun o p=>
 m R (o_bin .shr 3 true a (.int .u64 8)) p fun b q=>
 m R (o_conv 3 5 b) q fun c r=>
 m R (o_conv 3 5 a) r fun d s=>
 m R (o_buildSlice 99 4 [(0,i),(1,o),(2,c),(3,d)]) s fun e t=>
 m R (o_conv 99 9 e) t fun f u=>
 R (.returned f) u
def A_mac_four:Ann:=⟨[],[],[],[],[]⟩
theorem C_mac_four (h:F_mac_four x0 w R):Calls Tryz.prog 124 #[x0] w R:=cc A_mac_four [x0] Tryz.func124 h
def F_tree_Resolve_1 (a i c j l:Value) (w:World) (R:Ending→World→Prop):Prop:=
 m R (o_bin .rem 3 true a (.int .i64 2)) w fun n bD=>
 m R (o_bin .eql 3 true n (.int .i64 0)) bD fun o p=>
 mif o (
 m R (o_fieldAddr 25 i 0) p fun q bE=>
 m R (o_load 22 q) bE fun r bF=>
 m R (o_bin .quo 3 true a (.int .i64 2)) bF fun s bG=>
 m R (o_indexAddr 22 r s) bG fun t bH=>
 m R (o_fieldAddr 40 t 0) bH fun u bI=>
 m R (o_load 3 u) bI fun v bJ=>
 m R (o_bin .gtr 3 true v (.int .i64 0)) bJ fun x y=>
 mif x (
 m R (o_load 47 c) y fun z A=>
 m R (o_buildSlice 47 1 [(0,a)]) A fun B C=>
 m R (o_builtin .append #[47,47] 47 [false,false] [z,B]) C fun D E=>
 m R (o_store 47 c D) E fun _ F=>
 R (.returned (.tuple #[])) F) (
 R (.returned (.tuple #[])) y)) (
 m R (o_fieldAddr 25 i 1) p fun G H=>
 m R (o_load 23 G) H fun I J=>
 m R (o_bin .quo 3 true a (.int .i64 2)) J fun K L=>
 m R (o_indexAddr 23 I K) L fun M N=>
 m R (o_fieldAddr 69 M 0) N fun O Q=>
 m R (o_load 4 O) Q fun S b=>
 mif S (
 m R (o_load 47 c) b fun T U=>
 m R (o_buildSlice 47 1 [(0,a)]) U fun V W=>
 m R (o_builtin .append #[47,47] 47 [false,false] [T,V]) W fun X Y=>
 m R (o_store 47 c X) Y fun _ Z=>
 m R (o_fieldAddr 25 i 1) Z fun aA aB=>
 m R (o_load 23 aA) aB fun aC aD=>
 m R (o_bin .quo 3 true a (.int .i64 2)) aD fun aE aF=>
 m R (o_indexAddr 23 aC aE) aF fun aG aH=>
 m R (o_fieldAddr 69 aG 3) aH fun aI aJ=>
 m R (o_load 47 aI) aJ fun g aK=>
 m R (o_builtin .len #[47] 3 [false] [g]) aK fun aL aM=>
 ml1 (.int .i64 0) aM fun d bO aN f=>
 m R (o_bin .lss 3 false d aL) aN fun aO h=>
 mif aO (
 m R (o_indexAddr 47 g d) h fun aP aQ=>
 m R (o_load 3 aP) aQ fun aR aS=>
 m R (o_load 47 c) aS fun aT aU=>
 m R (o_bin .mul 3 true (.int .i64 2) aR) aU fun aV aW=>
 m R (o_buildSlice 47 1 [(0,aV)]) aW fun aX aY=>
 m R (o_builtin .append #[47,47] 47 [false,false] [aT,aX]) aY fun aZ a0=>
 m R (o_store 47 c aZ) a0 fun _ a1=>
 m R (o_bin .add 3 true d (.int .i64 1)) a1 fun a2 a3=>
 f a2 a3) (
 R (.returned (.tuple #[])) h)) (
 dq Tryz.prog b (o_load 148 j) fun bK=>
 dq Tryz.prog b (o_load 3 l) fun bL=>
 df Tryz.prog b (o_call (fv 126) [bL,a]) true fun a4 a5=>
 df Tryz.prog a5 (o_call bK [a4]) false fun bM a6=>
 dend a6 fun e=>
 dq Tryz.prog e (o_load 148 j) fun a7=>
 dq Tryz.prog e (o_load 3 l) fun a8=>
 df Tryz.prog e (o_call (fv 127) [a8,a]) true fun a9 bA=>
 df Tryz.prog bA (o_call a7 [a9]) false fun bN bB=>
 dend bB fun bC=>
 R (.returned (.tuple #[])) bC))
def A_tree_Resolve_1:Ann:=⟨[(8,[54],P_ 64+P_ 7-P_ 54)],[],[(0,[⟨0,.q (some 0),8,0,256⟩,⟨1,.q (some 0),16,0,512⟩,⟨2,.q none,1,0,1024⟩,⟨3,.f 0 true,1536,6,2048⟩,⟨4,.f 1 false,2304,15,4096⟩]),(1,[⟨0,.q (some 0),8,0,8192⟩,⟨1,.q (some 0),16,0,16384⟩,⟨2,.q none,1,0,32768⟩,⟨3,.f 0 true,49152,6,65536⟩,⟨4,.f 1 false,73728,15,131072⟩])],[],[]⟩
theorem C_tree_Resolve_1 (h:F_tree_Resolve_1 x0 x1 x2 x3 x4 w R):Calls Tryz.prog 125 #[x0,x1,x2,x3,x4] w R:=cc A_tree_Resolve_1 [x0,x1,x2,x3,x4] Tryz.func125 h
def F_bough_Left (l a:Value) (w:World) (R:Ending→World→Prop):Prop:=
 mj1 (fun b=>
 m R (o_call (fv 99) [l,a]) w fun n c=>
 mif n (
 m R (o_call (fv 134) [a]) c fun d o=>
 b d o) (
 b (.int .i64 0) c)) fun e t p=>
 m R (o_bin .eql 3 true e (.int .i64 0)) p fun f g=>
 mif f (
 R (.returned (.int .i64 (-1))) g) (
 m R (o_bin .sub 3 true e (.int .i64 1)) g fun h q=>
 m R (o_bin .shl 3 true (.int .i64 1) h) q fun i r=>
 m R (o_bin .sub 3 false a i) r fun j s=>
 R (.returned j) s)
def A_bough_Left:Ann:=⟨[],[(4,[5],2016)],[],[],[]⟩
theorem C_bough_Left (h:F_bough_Left x0 x1 w R):Calls Tryz.prog 126 #[x0,x1] w R:=cc A_bough_Left [x0,x1] Tryz.func126 h
def F_bough_Right (d a:Value) (w:World) (R:Ending→World→Prop):Prop:=
 mj1 (fun e=>
 m R (o_call (fv 99) [d,a]) w fun A f=>
 mif A (
 m R (o_call (fv 134) [a]) f fun g B=>
 e g B) (
 e (.int .i64 0) f)) fun h I C=>
 m R (o_bin .eql 3 true h (.int .i64 0)) C fun i j=>
 mif i (
 R (.returned (.int .i64 (-1))) j) (
 m R (o_bin .sub 3 true h (.int .i64 1)) j fun l D=>
 m R (o_bin .shl 3 true (.int .i64 1) l) D fun n E=>
 m R (o_bin .add 3 false a n) E fun o F=>
 ml1 o F fun a J G b=>
 m R (o_call (fv 99) [d,a]) G fun p H=>
 m R (o_un .not p) H fun q c=>
 mif q (
 m R (o_call (fv 134) [a]) c fun r s=>
 m R (o_bin .sub 3 true r (.int .i64 1)) s fun t u=>
 m R (o_bin .shl 3 true (.int .i64 1) t) u fun v x=>
 m R (o_bin .sub 3 false a v) x fun y z=>
 b y z) (
 R (.returned a) c))
def A_bough_Right:Ann:=⟨[(7,[1],268173314)],[(4,[5],2016)],[],[],[]⟩
theorem C_bough_Right (h:F_bough_Right x0 x1 w R):Calls Tryz.prog 127 #[x0,x1] w R:=cc A_bough_Right [x0,x1] Tryz.func127 h
def F_prim_cross (z f:Value) (w:World) (R:Ending→World→Prop):Prop:=
 m R (o_box 34 z) w fun A B=>
 m R (o_load 34 A) B fun C D=>
 m R (o_call (fv 85) [C,(.string (ByteArray.mk #[115,116,114,101,97,109])),(.string (ByteArray.mk #[]))]) D fun E F=>
 m R (o_builtin .len #[9] 3 [false] [f]) F fun g G=>
 m R (o_call (fv 146) [E,g]) G fun h H=>
 m R (o_builtin .len #[9] 3 [false] [f]) H fun e I=>
 m R (o_makeSlice 99 e e) I fun a J=>
 m R (o_builtin .copy #[99,9] 3 [false,false] [a,f]) J fun M K=>
 m R (o_builtin .len #[99] 3 [false] [a]) K fun i L=>
 ml1 (.int .i64 0) L fun b N j d=>
 m R (o_bin .lss 3 false b i) j fun l c=>
 mif l (
 dp Tryz.prog (o_indexAddr 99 a b) fun n=>
 dq Tryz.prog c (o_load 5 n) fun o=>
 dp Tryz.prog (o_index 9 h b) fun p=>
 dp Tryz.prog (o_bin .xor 5 false o p) fun q=>
 dp Tryz.prog (o_indexAddr 99 a b) fun r=>
 df Tryz.prog c (o_store 5 r q) false fun _ s=>
 dend s fun t=>
 m R (o_bin .add 3 true b (.int .i64 1)) t fun u v=>
 d u v) (
 m R (o_conv 99 9 a) c fun x y=>
 R (.returned x) y)
def A_prim_cross:Ann:=⟨[(5,[21],17177772160)],[],[(7,[⟨0,.q none,64,0,16777216⟩,⟨1,.q none,128,0,33554432⟩,⟨2,.q none,50331648,3,67108864⟩,⟨3,.q (some 0),67108864,7,P_ 27⟩,⟨4,.q none,32,0,P_ 28⟩,⟨5,.q none,128,0,P_ 29⟩,⟨6,.q none,805306368,48,P_ 30⟩,⟨7,.q none,1207959552,127,P_ 31⟩,⟨8,.q none,50331648,255,P_ 32⟩,⟨9,.f 0 false,6442450944,511,0⟩])],[],[]⟩
theorem C_prim_cross (h:F_prim_cross x0 x1 w R):Calls Tryz.prog 128 #[x0,x1] w R:=cc A_prim_cross [x0,x1] Tryz.func128 h
def F_prim_tag (e f g:Value) (w:World) (R:Ending→World→Prop):Prop:=
 m R (o_box 34 e) w fun h i=>
 m R (o_load 34 h) i fun j l=>
 m R (o_call (fv 85) [j,(.string (ByteArray.mk #[116,97,103])),(.string (ByteArray.mk #[]))]) l fun n o=>
 m R (o_call (fv 85) [n,f,g]) o fun a p=>
 m R (o_alloc 34) p fun b q=>
 m R (o_store 34 b a) q fun _ r=>
 m R (o_slice 34 b none (some (.int .i64 16)) none) r fun c s=>
 m R (o_conv 99 9 c) s fun d t=>
 R (.returned d) t
def A_prim_tag:Ann:=⟨[],[],[],[],[]⟩
theorem C_prim_tag (h:F_prim_tag x0 x1 x2 w R):Calls Tryz.prog 129 #[x0,x1,x2] w R:=cc A_prim_tag [x0,x1,x2] Tryz.func129 h
def F_wire_bounds (w:World) (R:Ending→World→Prop):Prop:=
 m R (o_alloc 189) w fun a c=>
 m R (o_build 189 [(0,(.int .i64 64)),(1,(.int .i64 16384)),(2,(.int .i64 1073741824)),(3,(.int .i64 4611686018427387903))]) c fun d e=>
 m R (o_store 189 a d) e fun _ b=>
 rcell Tryz.prog 189 a b fun f=>
 R (.returned f) b
def A_wire_bounds:Ann:=⟨[],[],[],[],[]⟩
theorem C_wire_bounds (h:F_wire_bounds w R):Calls Tryz.prog 130 #[] w R:=cc A_wire_bounds [] Tryz.func130 h
def F_tree_hashAt (aT b:Value) (w:World) (R:Ending→World→Prop):Prop:=
 m R (o_box 25 aT) w fun c aU=>
 m R (o_alloc 34) aU fun d aV=>
 m R (o_call (fv 93) []) aV fun a aW=>
 m R (o_bin .rem 3 true b (.int .i64 2)) aW fun o aX=>
 m R (o_bin .eql 3 true o (.int .i64 0)) aX fun p q=>
 mif p (
 m R (o_fieldAddr 25 c 0) q fun r aY=>
 m R (o_load 22 r) aY fun s aZ=>
 m R (o_bin .quo 3 true b (.int .i64 2)) aZ fun t a0=>
 m R (o_indexAddr 22 s t) a0 fun u a1=>
 m R (o_load 40 u) a1 fun v x=>
 m R (o_call (fv 147) [a,v]) x fun a2 y=>
 m R (o_call (fv 95) [a]) y fun e z=>
 m R (o_extract e 0) z fun A B=>
 m R (o_extract e 1) B fun a3 C=>
 m R (o_buildSlice 70 2 [(0,(.string (ByteArray.mk #[108,101,97,102]))),(1,A)]) C fun D E=>
 m R (o_call (fv 80) [D]) E fun F G=>
 m R (o_store 34 d F) G fun _ f=>
 rcell Tryz.prog 34 d f fun n=>
 R (.returned n) f) (
 m R (o_fieldAddr 25 c 0) q fun H I=>
 m R (o_load 22 H) I fun J K=>
 m R (o_builtin .len #[22] 3 [false] [J]) K fun g L=>
 m R (o_fieldAddr 25 c 1) L fun M N=>
 m R (o_load 23 M) N fun O Q=>
 m R (o_bin .quo 3 true b (.int .i64 2)) Q fun S T=>
 m R (o_indexAddr 23 O S) T fun U V=>
 m R (o_load 69 U) V fun W X=>
 m R (o_call (fv 148) [a,W]) X fun a4 h=>
 dq Tryz.prog h (o_load 25 c) fun Y=>
 df Tryz.prog h (o_call (fv 126) [g,b]) true fun Z aA=>
 df Tryz.prog aA (o_call (fv 131) [Y,Z]) false fun aB aC=>
 df Tryz.prog aC (o_call (fv 149) [a,aB]) false fun a5 aD=>
 dend aD fun i=>
 dq Tryz.prog i (o_load 25 c) fun aE=>
 df Tryz.prog i (o_call (fv 127) [g,b]) true fun aF aG=>
 df Tryz.prog aG (o_call (fv 131) [aE,aF]) false fun aH aI=>
 df Tryz.prog aI (o_call (fv 149) [a,aH]) false fun a6 aJ=>
 dend aJ fun aK=>
 m R (o_call (fv 95) [a]) aK fun j aL=>
 m R (o_extract j 0) aL fun aM aN=>
 m R (o_extract j 1) aN fun a7 aO=>
 m R (o_buildSlice 70 2 [(0,(.string (ByteArray.mk #[110,111,100,101]))),(1,aM)]) aO fun aP aQ=>
 m R (o_call (fv 80) [aP]) aQ fun aR aS=>
 m R (o_store 34 d aR) aS fun _ l=>
 rcell Tryz.prog 34 d l fun n=>
 R (.returned n) l)
def A_tree_hashAt:Ann:=⟨[],[],[(8,[⟨0,.q none,32,0,P_ 42⟩,⟨1,.q (some 0),4,0,P_ 43⟩,⟨2,.q none,256,0,P_ 44⟩,⟨3,.q none,2,0,P_ 45⟩,⟨4,.f 0 true,P_ 46-P_ 44,12,P_ 46⟩,⟨5,.f 1 false,P_ 46+P_ 43,30,P_ 47⟩,⟨6,.f 2 false,P_ 47+P_ 42,63,P_ 48⟩]),(9,[⟨0,.q none,32,0,P_ 49⟩,⟨1,.q (some 0),4,0,P_ 50⟩,⟨2,.q none,256,0,P_ 51⟩,⟨3,.q none,2,0,P_ 52⟩,⟨4,.f 0 true,P_ 53-P_ 51,12,P_ 53⟩,⟨5,.f 1 false,P_ 53+P_ 50,30,P_ 54⟩,⟨6,.f 2 false,P_ 54+P_ 49,63,P_ 55⟩])],[],[]⟩
theorem C_tree_hashAt (h:F_tree_hashAt x0 x1 w R):Calls Tryz.prog 131 #[x0,x1] w R:=cc A_tree_hashAt [x0,x1] Tryz.func131 h
def F_bevyref07_root (a b:Value) (w:World) (R:Ending→World→Prop):Prop:=
 m R (o_bin .eql 3 true b (.int .i64 1)) w fun h c=>
 mif h (
 m R (o_bin .mul 3 true (.int .i64 2) a) c fun i j=>
 R (.returned i) j) (
 m R (o_call (fv 133) [b]) c fun d l=>
 m R (o_bin .add 3 false a d) l fun e n=>
 m R (o_bin .mul 3 true (.int .i64 2) e) n fun f o=>
 m R (o_bin .sub 3 true f (.int .i64 1)) o fun g p=>
 R (.returned g) p)
def A_bevyref07_root:Ann:=⟨[],[],[],[],[]⟩
theorem C_bevyref07_root (h:F_bevyref07_root x0 x1 w R):Calls Tryz.prog 132 #[x0,x1] w R:=cc A_bevyref07_root [x0,x1] Tryz.func132 h
def F_bevyref07_half (d:Value) (w:World) (R:Ending→World→Prop):Prop:=
 ml1 (.int .i64 1) w fun b l e a=>
 m R (o_bin .mul 3 true (.int .i64 2) b) e fun f g=>
 m R (o_bin .lss 3 false f d) g fun h c=>
 mif h (
 m R (o_bin .mul 3 true (.int .i64 2) b) c fun i j=>
 a i j) (
 R (.returned b) c)
def A_bevyref07_half:Ann:=⟨[(2,[3],1016)],[],[],[],[]⟩
theorem C_bevyref07_half (h:F_bevyref07_half x0 w R):Calls Tryz.prog 133 #[x0] w R:=cc A_bevyref07_half [x0] Tryz.func133 h
def F_bough_level (a:Value) (w:World) (R:Ending→World→Prop):Prop:=
 ml2 a (.int .i64 0) w fun a c o f b=>
 m R (o_bin .and 3 true a (.int .i64 1)) f fun g h=>
 m R (o_bin .eql 3 true g (.int .i64 1)) h fun i d=>
 mif i (
 m R (o_bin .shr 3 true a (.int .u64 1)) d fun j l=>
 m R (o_bin .add 3 true c (.int .i64 1)) l fun e n=>
 b j e n) (
 R (.returned c) d)
def A_bough_level:Ann:=⟨[(2,[0,3],2041)],[],[],[],[]⟩
theorem C_bough_level (h:F_bough_level x0 w R):Calls Tryz.prog 134 #[x0] w R:=cc A_bough_level [x0] Tryz.func134 h
def F_prim_Open (t u b:Value) (w:World) (R:Ending→World→Prop):Prop:=
 m R (o_box 34 t) w fun e v=>
 m R (o_builtin .len #[9] 3 [false] [b]) v fun f x=>
 m R (o_bin .sub 3 true f (.int .i64 16)) x fun a y=>
 m R (o_bin .lss 3 true a (.int .i64 0)) y fun g h=>
 mif g (
 R (.returned (.tuple #[(.string (ByteArray.mk #[])),(.int .i64 2)])) h) (
 m R (o_bin .gtr 3 true a (.int .i64 65536)) h fun i c=>
 mif i (
 R (.returned (.tuple #[(.string (ByteArray.mk #[])),(.int .i64 5)])) c) (
 dq Tryz.prog c (o_load 34 e) fun j=>
 dp Tryz.prog (o_slice 9 b none (some a) none) fun l=>
 df Tryz.prog c (o_call (fv 129) [j,u,l]) false fun n z=>
 dp Tryz.prog (o_slice 9 b (some a) none none) fun o=>
 dp Tryz.prog (o_bin .neq 9 false n o) fun p=>
 dend z fun d=>
 mif p (
 R (.returned (.tuple #[(.string (ByteArray.mk #[])),(.int .i64 6)])) d) (
 dq Tryz.prog d (o_load 34 e) fun q=>
 dp Tryz.prog (o_slice 9 b none (some a) none) fun r=>
 df Tryz.prog d (o_call (fv 128) [q,r]) false fun s A=>
 dend A fun B=>
 R (.returned (.tuple #[s,(.int .i64 0)])) B)))
def A_prim_Open:Ann:=⟨[],[],[(6,[⟨0,.q (some 0),8,0,524288⟩,⟨1,.q none,2,0,1048576⟩,⟨2,.q none,4,0,2097152⟩,⟨3,.q none,256,0,4194304⟩,⟨4,.q none,6291456,12,8388608⟩,⟨5,.f 0 false,9961472,31,16777216⟩,⟨6,.q none,4,0,33554432⟩,⟨7,.q none,256,0,67108864⟩,⟨8,.q none,100663296,192,P_ 27⟩,⟨9,.q none,150994944,511,P_ 28⟩,⟨10,.q none,P_ 28,1023,262144⟩]),(8,[⟨0,.q (some 0),8,0,P_ 29⟩,⟨1,.q none,4,0,P_ 30⟩,⟨2,.q none,256,0,P_ 31⟩,⟨3,.q none,3221225472,6,P_ 32⟩,⟨4,.f 0 false,4831838208,15,P_ 33⟩,⟨5,.q none,P_ 33,31,64⟩,⟨6,.q none,0,63,128⟩])],[],[]⟩
theorem C_prim_Open (h:F_prim_Open x0 x1 x2 w R):Calls Tryz.prog 135 #[x0,x1,x2] w R:=cc A_prim_Open [x0,x1,x2] Tryz.func135 h
def F_slices_insertionSortCmpFunc_api_Key (c i S T:Value) (w:World) (R:Ending→World→Prop):Prop:=
 m R (o_bin .add 3 true i (.int .i64 1)) w fun j U=>
 ml1 j U fun g aA V d=>
 m R (o_bin .lss 3 false g S) V fun l n=>
 mif l (
 ml1 g n fun b aB e f=>
 mj0 (fun W=>
 dp Tryz.prog (o_bin .gtr 3 false b i) fun a=>
 qguard a true (fun k=>dp Tryz.prog (o_move T) k) fun o=>
 qguard a true (fun k=>dp Tryz.prog (o_move c) k) fun p=>
 qguard a true (fun k=>dp Tryz.prog (o_move b) k) fun q=>
 qguard a true (fun k=>dp Tryz.prog (o_indexAddr 26 p q) k) fun r=>
 qguard a true (fun k=>dq Tryz.prog e (o_load 43 r) k) fun s=>
 qguard a true (fun k=>dp Tryz.prog (o_move c) k) fun t=>
 qguard a true (fun k=>dp Tryz.prog (o_move b) k) fun u=>
 qguard a true (fun k=>dp Tryz.prog (o_bin .sub 3 true u (.int .i64 1)) k) fun v=>
 qguard a true (fun k=>dp Tryz.prog (o_indexAddr 26 t v) k) fun x=>
 qguard a true (fun k=>dq Tryz.prog e (o_load 43 x) k) fun y=>
 mguard a true (fun k=>df Tryz.prog e (o_call o [s,y]) false k) e fun z X=>
 qguard a true (fun k=>dp Tryz.prog (o_bin .lss 3 true z (.int .i64 0)) k) fun A=>
 dp Tryz.prog (o_pick a A (.bool false)) fun B=>
 dend X fun C=>
 mif B (
 W C) (
 m R (o_bin .add 3 true g (.int .i64 1)) C fun D Y=>
 d D Y)) fun aC h=>
 dp Tryz.prog (o_bin .sub 3 true b (.int .i64 1)) fun E=>
 dp Tryz.prog (o_bin .sub 3 true b (.int .i64 1)) fun F=>
 dp Tryz.prog (o_indexAddr 26 c F) fun G=>
 dq Tryz.prog h (o_load 43 G) fun H=>
 dp Tryz.prog (o_indexAddr 26 c b) fun I=>
 dq Tryz.prog h (o_load 43 I) fun J=>
 dp Tryz.prog (o_indexAddr 26 c b) fun K=>
 df Tryz.prog h (o_store 43 K H) false fun _ Z=>
 dp Tryz.prog (o_indexAddr 26 c E) fun L=>
 df Tryz.prog Z (o_store 43 L J) false fun _ M=>
 dend M fun N=>
 m R (o_bin .sub 3 true b (.int .i64 1)) N fun O Q=>
 f O Q) (
 R (.returned (.tuple #[])) n)
def A_slices_insertionSortCmpFunc_api_Key:Ann:=⟨[(1,[8],9007199254737664),(4,[9],9007199254479360)],[(6,[],34359476224)],[(4,[⟨0,.q none,512,0,262144⟩,⟨1,.q none,2,0,524288⟩,⟨2,.q none,786432,3,1048576⟩,⟨3,.q none,1048576,7,2097152⟩,⟨4,.q none,2097160,15,4194304⟩,⟨5,.q none,2097153,15,8388608⟩,⟨6,.q none,2097664,15,16777216⟩,⟨7,.q none,27262976,111,33554432⟩,⟨8,.q (some 0),35651584,239,67108864⟩,⟨9,.q none,2097153,15,P_ 27⟩,⟨10,.q none,2097664,15,P_ 28⟩,⟨11,.q none,270532608,1039,P_ 29⟩,⟨12,.q none,673185792,3599,P_ 30⟩,⟨13,.q (some 0),1075838976,7695,P_ 31⟩,⟨14,.f 0 false,2220883968,16383,P_ 32⟩,⟨15,.q none,4297064448,32767,P_ 33⟩,⟨16,.q none,8592031744,65535,P_ 34⟩]),(6,[⟨0,.q none,1,0,P_ 37⟩,⟨1,.q none,512,0,P_ 38⟩,⟨2,.q none,1,0,P_ 39⟩,⟨3,.q none,512,0,P_ 40⟩,⟨4,.q none,P_ 40,8,P_ 41⟩,⟨5,.q none,1,0,P_ 42⟩,⟨6,.q none,512,0,P_ 43⟩,⟨7,.q none,P_ 43,64,P_ 44⟩,⟨8,.q none,P_ 44+P_ 42,224,P_ 45⟩,⟨9,.q (some 0),P_ 45,480,P_ 46⟩,⟨10,.q none,1,0,P_ 47⟩,⟨11,.q none,512,0,P_ 48⟩,⟨12,.q none,P_ 49-P_ 47,3072,P_ 49⟩,⟨13,.q (some 0),P_ 49,7168,P_ 50⟩,⟨14,.q none,412316860416,16355,P_ 51⟩,⟨15,.f 0 false,P_ 51+P_ 46,32739,0⟩,⟨16,.q none,2748779069440,65535,P_ 52⟩,⟨17,.f 1 false,P_ 52+P_ 50,131071,0⟩])],[],[]⟩
theorem C_slices_insertionSortCmpFunc_api_Key (h:F_slices_insertionSortCmpFunc_api_Key x0 x1 x2 x3 w R):Calls Tryz.prog 136 #[x0,x1,x2,x3] w R:=cc A_slices_insertionSortCmpFunc_api_Key [x0,x1,x2,x3] Tryz.func136 h
def F_slices_symMergeCmpFunc_api_Key (a n d B C:Value) (w:World) (R:Ending→World→Prop):Prop:=
 m R (o_bin .sub 3 false d n) w fun bR d2=>
 m R (o_bin .eql 3 true bR (.int .i64 1)) d2 fun bS bT=>
 mif bS (
 ml2 d B bT fun v D eK d3 x=>
 m R (o_bin .lss 3 false v D) d3 fun bU bV=>
 mif bU (
 m R (o_bin .add 3 false v D) bV fun bW d4=>
 m R (o_conv 3 59 bW) d4 fun bX d5=>
 m R (o_bin .shr 59 true bX (.int .u64 1)) d5 fun bY d6=>
 m R (o_conv 59 3 bY) d6 fun E aJ=>
 dp Tryz.prog (o_indexAddr 26 a E) fun bZ=>
 dq Tryz.prog aJ (o_load 43 bZ) fun b0=>
 dp Tryz.prog (o_indexAddr 26 a n) fun b1=>
 dq Tryz.prog aJ (o_load 43 b1) fun b2=>
 df Tryz.prog aJ (o_call C [b0,b2]) false fun b3 d7=>
 dp Tryz.prog (o_bin .lss 3 true b3 (.int .i64 0)) fun b4=>
 dend d7 fun L=>
 mif b4 (
 m R (o_bin .add 3 true E (.int .i64 1)) L fun b5 b6=>
 x b5 D b6) (
 x v E L)) (
 ml1 n bV fun f eL b7 K=>
 m R (o_bin .sub 3 true v (.int .i64 1)) b7 fun b8 b9=>
 m R (o_bin .lss 3 false f b8) b9 fun cA y=>
 mif cA (
 dp Tryz.prog (o_bin .add 3 true f (.int .i64 1)) fun cB=>
 dp Tryz.prog (o_bin .add 3 true f (.int .i64 1)) fun cC=>
 dp Tryz.prog (o_indexAddr 26 a cC) fun cD=>
 dq Tryz.prog y (o_load 43 cD) fun cE=>
 dp Tryz.prog (o_indexAddr 26 a f) fun cF=>
 dq Tryz.prog y (o_load 43 cF) fun cG=>
 dp Tryz.prog (o_indexAddr 26 a f) fun cH=>
 df Tryz.prog y (o_store 43 cH cE) false fun _ cI=>
 dp Tryz.prog (o_indexAddr 26 a cB) fun cJ=>
 df Tryz.prog cI (o_store 43 cJ cG) false fun _ cK=>
 dend cK fun cL=>
 m R (o_bin .add 3 true f (.int .i64 1)) cL fun cM cN=>
 K cM cN) (
 R (.returned (.tuple #[])) y))) (
 m R (o_bin .sub 3 false B d) bT fun cO cP=>
 m R (o_bin .eql 3 true cO (.int .i64 1)) cP fun cQ M=>
 mif cQ (
 ml2 n d M fun z F eB cR o=>
 m R (o_bin .lss 3 false z F) cR fun cS N=>
 mif cS (
 m R (o_bin .add 3 false z F) N fun cT cU=>
 m R (o_conv 3 59 cT) cU fun cV cW=>
 m R (o_bin .shr 59 true cV (.int .u64 1)) cW fun cX cY=>
 m R (o_conv 59 3 cX) cY fun G H=>
 dp Tryz.prog (o_indexAddr 26 a d) fun cZ=>
 dq Tryz.prog H (o_load 43 cZ) fun c0=>
 dp Tryz.prog (o_indexAddr 26 a G) fun c1=>
 dq Tryz.prog H (o_load 43 c1) fun aK=>
 df Tryz.prog H (o_call C [c0,aK]) false fun aL c2=>
 dp Tryz.prog (o_bin .lss 3 true aL (.int .i64 0)) fun aM=>
 dp Tryz.prog (o_un .not aM) fun aN=>
 dend c2 fun O=>
 mif aN (
 m R (o_bin .add 3 true G (.int .i64 1)) O fun aO c3=>
 o aO F c3) (
 o z G O)) (
 ml1 d N fun g eC c4 I=>
 m R (o_bin .gtr 3 false g z) c4 fun aP A=>
 mif aP (
 dp Tryz.prog (o_bin .sub 3 true g (.int .i64 1)) fun aQ=>
 dp Tryz.prog (o_bin .sub 3 true g (.int .i64 1)) fun aR=>
 dp Tryz.prog (o_indexAddr 26 a aR) fun aS=>
 dq Tryz.prog A (o_load 43 aS) fun aT=>
 dp Tryz.prog (o_indexAddr 26 a g) fun aU=>
 dq Tryz.prog A (o_load 43 aU) fun aV=>
 dp Tryz.prog (o_indexAddr 26 a g) fun aW=>
 df Tryz.prog A (o_store 43 aW aT) false fun _ c5=>
 dp Tryz.prog (o_indexAddr 26 a aQ) fun aX=>
 df Tryz.prog c5 (o_store 43 aX aV) false fun _ c6=>
 dend c6 fun c7=>
 m R (o_bin .sub 3 true g (.int .i64 1)) c7 fun aY c8=>
 I aY c8) (
 R (.returned (.tuple #[])) A))) (
 m R (o_bin .add 3 false n B) M fun aZ c9=>
 m R (o_conv 3 59 aZ) c9 fun a0 dA=>
 m R (o_bin .shr 59 true a0 (.int .u64 1)) dA fun a1 dB=>
 m R (o_conv 59 3 a1) dB fun c dC=>
 m R (o_bin .add 3 false c d) dC fun r dD=>
 mj2 (fun Q=>
 m R (o_bin .gtr 3 false d c) dD fun a2 S=>
 mif a2 (
 m R (o_bin .sub 3 false r B) S fun a3 dE=>
 Q a3 c dE) (
 Q n d S)) fun b p eD dF=>
 m R (o_bin .sub 3 true r (.int .i64 1)) dF fun a4 dG=>
 ml2 b p dG fun b p eE dH q=>
 m R (o_bin .lss 3 false b p) dH fun a5 T=>
 mif a5 (
 m R (o_bin .add 3 false b p) T fun a6 dI=>
 m R (o_conv 3 59 a6) dI fun a7 dJ=>
 m R (o_bin .shr 59 true a7 (.int .u64 1)) dJ fun a8 dK=>
 m R (o_conv 59 3 a8) dK fun h J=>
 dp Tryz.prog (o_bin .sub 3 false a4 h) fun a9=>
 dp Tryz.prog (o_indexAddr 26 a a9) fun bA=>
 dq Tryz.prog J (o_load 43 bA) fun bB=>
 dp Tryz.prog (o_indexAddr 26 a h) fun bC=>
 dq Tryz.prog J (o_load 43 bC) fun bD=>
 df Tryz.prog J (o_call C [bB,bD]) false fun bE dL=>
 dp Tryz.prog (o_bin .lss 3 true bE (.int .i64 0)) fun bF=>
 dp Tryz.prog (o_un .not bF) fun bG=>
 dend dL fun U=>
 mif bG (
 m R (o_bin .add 3 true h (.int .i64 1)) U fun bH dM=>
 q bH p dM) (
 q b h U)) (
 m R (o_bin .sub 3 false r b) T fun e dN=>
 mj0 (fun V=>
 mj1 (fun dO=>
 m R (o_bin .lss 3 false b d) dN fun i W=>
 mguard i true (fun k=>m R (o_move d) W k) W fun bI X=>
 mguard i true (fun k=>m R (o_move e) X k) X fun bJ Y=>
 mguard i true (fun k=>m R (o_bin .lss 3 false bI bJ) Y k) Y fun bK dP=>
 m R (o_pick i bK (.bool false)) dP fun s dQ=>
 dO s dQ) fun s eF Z=>
 mif s (
 m R (o_call (fv 150) [a,b,d,e,C]) Z fun d8 dR=>
 V dR) (
 V Z)) fun eG dS=>
 mj0 (fun aA=>
 mj1 (fun dT=>
 m R (o_bin .lss 3 false n b) dS fun j aB=>
 mguard j true (fun k=>m R (o_move b) aB k) aB fun bL aC=>
 mguard j true (fun k=>m R (o_move c) aC k) aC fun bM aD=>
 mguard j true (fun k=>m R (o_bin .lss 3 false bL bM) aD k) aD fun bN dU=>
 m R (o_pick j bN (.bool false)) dU fun t dV=>
 dT t dV) fun t eH aE=>
 mif t (
 m R (o_call (fv 137) [a,n,b,c,C]) aE fun d9 dW=>
 aA dW) (
 aA aE)) fun eI dX=>
 mj1 (fun dY=>
 m R (o_bin .lss 3 false c e) dX fun l aF=>
 mguard l true (fun k=>m R (o_move e) aF k) aF fun bO aG=>
 mguard l true (fun k=>m R (o_move B) aG k) aG fun bP aH=>
 mguard l true (fun k=>m R (o_bin .lss 3 false bO bP) aH k) aH fun bQ dZ=>
 m R (o_pick l bQ (.bool false)) dZ fun u d0=>
 dY u d0) fun u eJ aI=>
 mif u (
 m R (o_call (fv 137) [a,c,e,B,C]) aI fun eA d1=>
 R (.returned (.tuple #[])) d1) (
 R (.returned (.tuple #[])) aI))))
def A_slices_symMergeCmpFunc_api_Key:Ann:=⟨[(3,[10,11],18014396362005504),(9,[13],P_ 77+P_ 13-P_ 55),(15,[14,15],P_ 107+P_ 17-P_ 83-P_ 14),(21,[17],P_ 129+P_ 17-P_ 108),(33,[20,21],P_ 175+P_ 24-P_ 149-P_ 22-P_ 20)],[(32,[20,21],P_ 147+P_ 22-P_ 138-P_ 20),(41,[],P_ 192-P_ 178),(40,[185],P_ 186-P_ 178),(43,[],P_ 206-P_ 192),(42,[199],P_ 200-P_ 192),(44,[213],P_ 214-P_ 206)],[(5,[⟨0,.q none,16,0,P_ 40⟩,⟨1,.q none,1,0,P_ 41⟩,⟨2,.q none,4096,0,P_ 42⟩,⟨3,.q none,6597069766656,6,P_ 43⟩,⟨4,.q (some 0),P_ 43,14,P_ 44⟩,⟨5,.q none,1,0,P_ 45⟩,⟨6,.q none,2,0,P_ 46⟩,⟨7,.q none,P_ 47-P_ 45,96,P_ 47⟩,⟨8,.q (some 0),P_ 47,224,P_ 48⟩,⟨9,.f 0 false,300166674382848,511,P_ 49⟩,⟨10,.q none,P_ 49,1023,P_ 50⟩]),(11,[⟨0,.q none,1,0,P_ 61⟩,⟨1,.q none,8192,0,P_ 62⟩,⟨2,.q none,1,0,P_ 63⟩,⟨3,.q none,8192,0,P_ 64⟩,⟨4,.q none,P_ 64,8,P_ 65⟩,⟨5,.q none,1,0,P_ 66⟩,⟨6,.q none,8192,0,P_ 67⟩,⟨7,.q none,P_ 67,64,P_ 68⟩,⟨8,.q none,P_ 68+P_ 66,224,P_ 69⟩,⟨9,.q (some 0),P_ 69,480,P_ 70⟩,⟨10,.q none,1,0,P_ 71⟩,⟨11,.q none,8192,0,P_ 72⟩,⟨12,.q none,P_ 73-P_ 71,3072,P_ 73⟩,⟨13,.q (some 0),P_ 73,7168,P_ 74⟩,⟨14,.q none,P_ 63-P_ 61,16355,P_ 75⟩,⟨15,.f 0 false,P_ 75+P_ 70,32739,0⟩,⟨16,.q none,P_ 65+P_ 63,65535,P_ 76⟩,⟨17,.f 1 false,P_ 76+P_ 74,131071,0⟩]),(17,[⟨0,.q none,16,0,P_ 92⟩,⟨1,.q none,1,0,P_ 93⟩,⟨2,.q none,4,0,P_ 94⟩,⟨3,.q none,P_ 95-P_ 93,6,P_ 95⟩,⟨4,.q (some 0),P_ 95,14,P_ 96⟩,⟨5,.q none,1,0,P_ 97⟩,⟨6,.q none,65536,0,P_ 98⟩,⟨7,.q none,P_ 99-P_ 97,96,P_ 99⟩,⟨8,.q (some 0),P_ 99,224,P_ 100⟩,⟨9,.f 0 false,P_ 100+P_ 96+P_ 92,511,P_ 101⟩,⟨10,.q none,P_ 101,1023,P_ 102⟩,⟨11,.q none,P_ 102,2047,P_ 103⟩]),(23,[⟨0,.q none,1,0,P_ 113⟩,⟨1,.q none,131072,0,P_ 114⟩,⟨2,.q none,1,0,P_ 115⟩,⟨3,.q none,131072,0,P_ 116⟩,⟨4,.q none,P_ 116,8,P_ 117⟩,⟨5,.q none,1,0,P_ 118⟩,⟨6,.q none,131072,0,P_ 119⟩,⟨7,.q none,P_ 119,64,P_ 120⟩,⟨8,.q none,P_ 120+P_ 118,224,P_ 121⟩,⟨9,.q (some 0),P_ 121,480,P_ 122⟩,⟨10,.q none,1,0,P_ 123⟩,⟨11,.q none,131072,0,P_ 124⟩,⟨12,.q none,P_ 125-P_ 123,3072,P_ 125⟩,⟨13,.q (some 0),P_ 125,7168,P_ 126⟩,⟨14,.q none,P_ 115-P_ 113,16355,P_ 127⟩,⟨15,.f 0 false,P_ 127+P_ 122,32739,0⟩,⟨16,.q none,P_ 117+P_ 115,65535,P_ 128⟩,⟨17,.f 1 false,P_ 128+P_ 126,131071,0⟩]),(35,[⟨0,.q none,16,0,P_ 158⟩,⟨1,.q none,1,0,P_ 159⟩,⟨2,.q none,4194304,0,P_ 160⟩,⟨3,.q none,8388608,0,P_ 161⟩,⟨4,.q none,P_ 162-P_ 160,12,P_ 162⟩,⟨5,.q none,P_ 162+P_ 159,30,P_ 163⟩,⟨6,.q (some 0),P_ 163,62,P_ 164⟩,⟨7,.q none,1,0,P_ 165⟩,⟨8,.q none,8388608,0,P_ 166⟩,⟨9,.q none,P_ 167-P_ 165,384,P_ 167⟩,⟨10,.q (some 0),P_ 167,896,P_ 168⟩,⟨11,.f 0 false,P_ 168+P_ 164+P_ 158,2047,P_ 169⟩,⟨12,.q none,P_ 169,4095,P_ 170⟩,⟨13,.q none,P_ 170,8191,P_ 171⟩])],[],[]⟩
theorem C_slices_symMergeCmpFunc_api_Key (h:F_slices_symMergeCmpFunc_api_Key x0 x1 x2 x3 x4 w R):Calls Tryz.prog 137 #[x0,x1,x2,x3,x4] w R:=cc A_slices_symMergeCmpFunc_api_Key [x0,x1,x2,x3,x4] Tryz.func137 h
def F_bough_Root (c:Value) (w:World) (R:Ending→World→Prop):Prop:=
 m R (o_call (fv 99) [c,(.int .i64 0)]) w fun h i=>
 m R (o_un .not h) i fun j d=>
 mif j (
 R (.returned (.int .i64 (-1))) d) (
 ml1 (.int .i64 1) d fun b q l a=>
 m R (o_bin .lss 3 false b c) l fun n e=>
 mif n (
 m R (o_bin .mul 3 true b (.int .i64 2)) e fun f o=>
 a f o) (
 m R (o_bin .sub 3 true b (.int .i64 1)) e fun g p=>
 R (.returned g) p))
def A_bough_Root:Ann:=⟨[(4,[3],3976)],[],[],[],[]⟩
theorem C_bough_Root (h:F_bough_Root x0 w R):Calls Tryz.prog 138 #[x0] w R:=cc A_bough_Root [x0] Tryz.func138 h
def F_sha_state_turn (b:Value) (w:World) (R:Ending→World→Prop):Prop:=
 m R (o_alloc 160) w fun f d9=>
 ml1 (.int .i64 0) d9 fun i eI eA y=>
 m R (o_bin .lss 3 true i (.int .i64 16)) eA fun bT bU=>
 mif bT (
 m R (o_nilCheck b) bU fun bV eB=>
 m R (o_fieldAddr 170 bV 1) eB fun bW eC=>
 m R (o_bin .mul 3 true (.int .i64 4) i) eC fun bX eD=>
 m R (o_slice 168 bW (some bX) none none) eD fun j o=>
 dp Tryz.prog (o_indexAddr 99 j (.int .i64 0)) fun bY=>
 dq Tryz.prog o (o_load 5 bY) fun bZ=>
 dp Tryz.prog (o_conv 5 159 bZ) fun b0=>
 dp Tryz.prog (o_bin .shl 159 true b0 (.int .u64 24)) fun b1=>
 dp Tryz.prog (o_indexAddr 99 j (.int .i64 1)) fun b2=>
 dq Tryz.prog o (o_load 5 b2) fun b3=>
 dp Tryz.prog (o_conv 5 159 b3) fun b4=>
 dp Tryz.prog (o_bin .shl 159 true b4 (.int .u64 16)) fun b5=>
 dp Tryz.prog (o_bin .or 159 false b1 b5) fun b6=>
 dp Tryz.prog (o_indexAddr 99 j (.int .i64 2)) fun b7=>
 dq Tryz.prog o (o_load 5 b7) fun b8=>
 dp Tryz.prog (o_conv 5 159 b8) fun b9=>
 dp Tryz.prog (o_bin .shl 159 true b9 (.int .u64 8)) fun cA=>
 dp Tryz.prog (o_bin .or 159 false b6 cA) fun cB=>
 dp Tryz.prog (o_indexAddr 99 j (.int .i64 3)) fun cC=>
 dq Tryz.prog o (o_load 5 cC) fun cD=>
 dp Tryz.prog (o_conv 5 159 cD) fun cE=>
 dp Tryz.prog (o_bin .or 159 false cB cE) fun cF=>
 dp Tryz.prog (o_indexAddr 160 f i) fun cG=>
 df Tryz.prog o (o_store 159 cG cF) false fun _ eE=>
 dend eE fun eF=>
 m R (o_bin .add 3 true i (.int .i64 1)) eF fun cH cI=>
 y cH cI) (
 ml1 (.int .i64 16) bU fun g eJ cJ z=>
 m R (o_bin .lss 3 true g (.int .i64 64)) cJ fun cK a=>
 mif cK (
 dp Tryz.prog (o_bin .sub 3 true g (.int .i64 15)) fun cL=>
 dp Tryz.prog (o_indexAddr 160 f cL) fun cM=>
 dq Tryz.prog a (o_load 159 cM) fun p=>
 dp Tryz.prog (o_bin .sub 3 true g (.int .i64 2)) fun cN=>
 dp Tryz.prog (o_indexAddr 160 f cN) fun cO=>
 dq Tryz.prog a (o_load 159 cO) fun q=>
 dend a fun r=>
 dp Tryz.prog (o_bin .sub 3 true g (.int .i64 16)) fun cP=>
 dp Tryz.prog (o_indexAddr 160 f cP) fun cQ=>
 dq Tryz.prog r (o_load 159 cQ) fun cR=>
 dp Tryz.prog (o_bin .sub 3 true g (.int .i64 7)) fun cS=>
 dp Tryz.prog (o_indexAddr 160 f cS) fun cT=>
 dq Tryz.prog r (o_load 159 cT) fun cU=>
 dp Tryz.prog (o_bin .add 159 false cR cU) fun cV=>
 df Tryz.prog r (o_call (fv 151) [p,(.int .i64 (-7))]) true fun cW cX=>
 df Tryz.prog cX (o_call (fv 151) [p,(.int .i64 (-18))]) true fun cY cZ=>
 dp Tryz.prog (o_bin .xor 159 false cW cY) fun c0=>
 dp Tryz.prog (o_bin .shr 159 true p (.int .u64 3)) fun c1=>
 dp Tryz.prog (o_bin .xor 159 false c0 c1) fun c2=>
 dp Tryz.prog (o_bin .add 159 false cV c2) fun c3=>
 df Tryz.prog cZ (o_call (fv 151) [q,(.int .i64 (-17))]) true fun c4 c5=>
 df Tryz.prog c5 (o_call (fv 151) [q,(.int .i64 (-19))]) true fun c6 c7=>
 dp Tryz.prog (o_bin .xor 159 false c4 c6) fun c8=>
 dp Tryz.prog (o_bin .shr 159 true q (.int .u64 10)) fun c9=>
 dp Tryz.prog (o_bin .xor 159 false c8 c9) fun dA=>
 dp Tryz.prog (o_bin .add 159 false c3 dA) fun dB=>
 dp Tryz.prog (o_indexAddr 160 f g) fun dC=>
 df Tryz.prog c7 (o_store 159 dC dB) false fun _ dD=>
 dend dD fun dE=>
 m R (o_bin .add 3 true g (.int .i64 1)) dE fun dF dG=>
 z dF dG) (
 dp Tryz.prog (o_nilCheck b) fun dH=>
 dp Tryz.prog (o_fieldAddr 170 dH 0) fun dI=>
 dp Tryz.prog (o_indexAddr 162 dI (.int .i64 0)) fun dJ=>
 dq Tryz.prog a (o_load 159 dJ) fun F=>
 dp Tryz.prog (o_nilCheck b) fun G=>
 dp Tryz.prog (o_fieldAddr 170 G 0) fun H=>
 dp Tryz.prog (o_indexAddr 162 H (.int .i64 1)) fun I=>
 dq Tryz.prog a (o_load 159 I) fun J=>
 dp Tryz.prog (o_nilCheck b) fun K=>
 dp Tryz.prog (o_fieldAddr 170 K 0) fun L=>
 dp Tryz.prog (o_indexAddr 162 L (.int .i64 2)) fun M=>
 dq Tryz.prog a (o_load 159 M) fun N=>
 dp Tryz.prog (o_nilCheck b) fun O=>
 dp Tryz.prog (o_fieldAddr 170 O 0) fun Q=>
 dp Tryz.prog (o_indexAddr 162 Q (.int .i64 3)) fun S=>
 dq Tryz.prog a (o_load 159 S) fun T=>
 dp Tryz.prog (o_nilCheck b) fun U=>
 dp Tryz.prog (o_fieldAddr 170 U 0) fun V=>
 dp Tryz.prog (o_indexAddr 162 V (.int .i64 4)) fun W=>
 dq Tryz.prog a (o_load 159 W) fun X=>
 dp Tryz.prog (o_nilCheck b) fun Y=>
 dp Tryz.prog (o_fieldAddr 170 Y 0) fun Z=>
 dp Tryz.prog (o_indexAddr 162 Z (.int .i64 5)) fun aA=>
 dq Tryz.prog a (o_load 159 aA) fun aB=>
 dp Tryz.prog (o_nilCheck b) fun aC=>
 dp Tryz.prog (o_fieldAddr 170 aC 0) fun aD=>
 dp Tryz.prog (o_indexAddr 162 aD (.int .i64 6)) fun aE=>
 dq Tryz.prog a (o_load 159 aE) fun aF=>
 dp Tryz.prog (o_nilCheck b) fun aG=>
 dp Tryz.prog (o_fieldAddr 170 aG 0) fun aH=>
 dp Tryz.prog (o_indexAddr 162 aH (.int .i64 7)) fun aI=>
 dq Tryz.prog a (o_load 159 aI) fun aJ=>
 dend a fun dK=>
 ml9 F J N T X aB aF aJ (.int .i64 0) dK fun h A l B c s t C e eG dL u=>
 m R (o_bin .lss 3 true e (.int .i64 64)) dL fun aK n=>
 mif aK (
 df Tryz.prog n (o_call (fv 151) [c,(.int .i64 (-6))]) true fun aL dM=>
 df Tryz.prog dM (o_call (fv 151) [c,(.int .i64 (-11))]) true fun aM dN=>
 dp Tryz.prog (o_bin .xor 159 false aL aM) fun aN=>
 df Tryz.prog dN (o_call (fv 151) [c,(.int .i64 (-25))]) true fun aO dO=>
 dp Tryz.prog (o_bin .xor 159 false aN aO) fun aP=>
 dp Tryz.prog (o_bin .add 159 false C aP) fun aQ=>
 dp Tryz.prog (o_bin .and 159 false c s) fun aR=>
 dp Tryz.prog (o_un .xor c) fun aS=>
 dp Tryz.prog (o_bin .and 159 false aS t) fun aT=>
 dp Tryz.prog (o_bin .xor 159 false aR aT) fun aU=>
 dp Tryz.prog (o_bin .add 159 false aQ aU) fun aV=>
 dp Tryz.prog (o_nilCheck b) fun aW=>
 dp Tryz.prog (o_fieldAddr 170 aW 3) fun aX=>
 dp Tryz.prog (o_indexAddr 160 aX e) fun aY=>
 dq Tryz.prog n (o_load 159 aY) fun aZ=>
 dp Tryz.prog (o_bin .add 159 false aV aZ) fun a0=>
 dp Tryz.prog (o_indexAddr 160 f e) fun a1=>
 dq Tryz.prog n (o_load 159 a1) fun a2=>
 dp Tryz.prog (o_bin .add 159 false a0 a2) fun v=>
 dend dO fun dP=>
 m R (o_call (fv 151) [h,(.int .i64 (-2))]) dP fun a3 dQ=>
 m R (o_call (fv 151) [h,(.int .i64 (-13))]) dQ fun a4 dR=>
 m R (o_bin .xor 159 false a3 a4) dR fun a5 dS=>
 m R (o_call (fv 151) [h,(.int .i64 (-22))]) dS fun a6 dT=>
 m R (o_bin .xor 159 false a5 a6) dT fun a7 dU=>
 m R (o_bin .and 159 false h A) dU fun a8 dV=>
 m R (o_bin .and 159 false h l) dV fun a9 dW=>
 m R (o_bin .xor 159 false a8 a9) dW fun bA dX=>
 m R (o_bin .and 159 false A l) dX fun bB dY=>
 m R (o_bin .xor 159 false bA bB) dY fun bC dZ=>
 m R (o_bin .add 159 false a7 bC) dZ fun bD d0=>
 m R (o_bin .add 159 false B v) d0 fun bE d1=>
 m R (o_bin .add 159 false v bD) d1 fun bF d2=>
 m R (o_bin .add 3 true e (.int .i64 1)) d2 fun bG d3=>
 u bF h A l bE c s t bG d3) (
 m R (o_build 162 [(0,h),(1,A),(2,l),(3,B),(4,c),(5,s),(6,t),(7,C)]) n fun bH d4=>
 ml1 (.int .i64 0) d4 fun d eH d5 x=>
 m R (o_bin .lss 3 true d (.int .i64 8)) d5 fun bI D=>
 mif bI (
 m R (o_index 162 bH d) D fun bJ E=>
 dp Tryz.prog (o_nilCheck b) fun bK=>
 dp Tryz.prog (o_fieldAddr 170 bK 0) fun bL=>
 dp Tryz.prog (o_indexAddr 162 bL d) fun bM=>
 dq Tryz.prog E (o_load 159 bM) fun bN=>
 dp Tryz.prog (o_bin .add 159 false bN bJ) fun bO=>
 dp Tryz.prog (o_nilCheck b) fun bP=>
 dp Tryz.prog (o_fieldAddr 170 bP 0) fun bQ=>
 dp Tryz.prog (o_indexAddr 162 bQ d) fun bR=>
 df Tryz.prog E (o_store 159 bR bO) false fun _ d6=>
 dend d6 fun d7=>
 m R (o_bin .add 3 true d (.int .i64 1)) d7 fun bS d8=>
 x bS d8) (
 R (.returned (.tuple #[])) D))))
def A_sha_state_turn:Ann:=⟨[(2,[21],36028797016866840),(8,[5],P_ 96+P_ 8-P_ 55-P_ 5),(14,[8,9,10,11,12,13,14,15,136],P_ 202+P_ 19-P_ 136-P_ 8),(21,[211],P_ 227+P_ 21-P_ 211-P_ 19)],[],[(5,[⟨0,.q none,8,0,P_ 30⟩,⟨1,.q none,16,0,P_ 31⟩,⟨2,.q none,P_ 31,2,P_ 32⟩,⟨3,.q (some 0),P_ 32,6,P_ 33⟩,⟨4,.q none,P_ 33,14,P_ 34⟩,⟨5,.q none,P_ 34,30,P_ 35⟩,⟨6,.q none,16,0,P_ 36⟩,⟨7,.q none,P_ 36,64,P_ 37⟩,⟨8,.q (some 0),P_ 37,192,P_ 38⟩,⟨9,.q none,P_ 38,448,P_ 39⟩,⟨10,.q none,P_ 39,960,P_ 40⟩,⟨11,.q none,1133871366144,2046,P_ 41⟩,⟨12,.q none,16,0,P_ 42⟩,⟨13,.q none,P_ 42,4096,P_ 43⟩,⟨14,.q (some 0),P_ 43,12288,P_ 44⟩,⟨15,.q none,P_ 44,28672,P_ 45⟩,⟨16,.q none,P_ 45,61440,P_ 46⟩,⟨17,.q none,P_ 46+P_ 41,131070,P_ 47⟩,⟨18,.q none,16,0,P_ 48⟩,⟨19,.q none,P_ 48,262144,P_ 49⟩,⟨20,.q (some 0),P_ 49,786432,P_ 50⟩,⟨21,.q none,P_ 50,1835008,P_ 51⟩,⟨22,.q none,P_ 51+P_ 47,4194302,P_ 52⟩,⟨23,.q none,1073741828,8388607,P_ 53⟩,⟨24,.f 0 false,P_ 54-P_ 52,16777215,0⟩]),(10,[⟨0,.q none,32,0,P_ 59⟩,⟨1,.q none,P_ 59,1,P_ 60⟩,⟨2,.q none,P_ 60+P_ 2,3,P_ 61⟩,⟨3,.q (some 0),P_ 61,7,P_ 62⟩,⟨4,.q none,32,0,P_ 63⟩,⟨5,.q none,P_ 63,16,P_ 64⟩,⟨6,.q none,P_ 64+P_ 2,48,P_ 65⟩,⟨7,.q (some 0),P_ 65,112,P_ 66⟩,⟨8,.q none,P_ 62,15,64⟩,⟨9,.q none,P_ 66,511,128⟩]),(11,[⟨0,.q none,32,0,P_ 67⟩,⟨1,.q none,32,0,P_ 68⟩,⟨2,.q none,P_ 68,2,P_ 69⟩,⟨3,.q none,P_ 69+P_ 2,6,P_ 70⟩,⟨4,.q (some 0),P_ 70,14,P_ 71⟩,⟨5,.q none,32,0,P_ 72⟩,⟨6,.q none,P_ 72,32,P_ 73⟩,⟨7,.q none,P_ 73+P_ 2,96,P_ 74⟩,⟨8,.q (some 0),P_ 74,224,P_ 75⟩,⟨9,.q none,P_ 75+P_ 71,510,P_ 76⟩,⟨10,.q none,64,0,P_ 77⟩,⟨11,.f 0 true,P_ 77,1024,P_ 78⟩,⟨12,.q none,64,0,P_ 79⟩,⟨13,.f 1 true,P_ 79,7168,P_ 80⟩,⟨14,.q none,P_ 80+P_ 78,15360,P_ 81⟩,⟨15,.q none,64,0,P_ 82⟩,⟨16,.q none,P_ 82,32768,P_ 83⟩,⟨17,.q none,P_ 83+P_ 81,130048,P_ 84⟩,⟨18,.q none,P_ 84+P_ 76,262142,P_ 85⟩,⟨19,.q none,128,0,P_ 86⟩,⟨20,.f 2 true,P_ 86,539648,P_ 87⟩,⟨21,.q none,128,0,P_ 88⟩,⟨22,.f 3 true,P_ 88,3685376,P_ 89⟩,⟨23,.q none,P_ 89+P_ 87,7879680,P_ 90⟩,⟨24,.q none,128,0,P_ 91⟩,⟨25,.q none,P_ 91,16777216,P_ 92⟩,⟨26,.q none,P_ 92+P_ 90,66599936,P_ 93⟩,⟨27,.q none,P_ 93+P_ 85,134217726,P_ 94⟩,⟨28,.q none,P_ 67+P_ 2,268435455,P_ 95⟩,⟨29,.f 4 false,P_ 96-P_ 94,536870911,0⟩]),(12,[⟨0,.q none,1,0,P_ 96⟩,⟨1,.q none,P_ 96,1,P_ 97⟩,⟨2,.q none,P_ 97,3,P_ 98⟩,⟨3,.q none,P_ 98,7,P_ 99⟩,⟨4,.q (some 0),P_ 99,15,P_ 100⟩,⟨5,.q none,1,0,P_ 101⟩,⟨6,.q none,P_ 101,32,P_ 102⟩,⟨7,.q none,P_ 102,96,P_ 103⟩,⟨8,.q none,P_ 103,224,P_ 104⟩,⟨9,.q (some 0),P_ 104,480,P_ 105⟩,⟨10,.q none,1,0,P_ 106⟩,⟨11,.q none,P_ 106,1024,P_ 107⟩,⟨12,.q none,P_ 107,3072,P_ 108⟩,⟨13,.q none,P_ 108,7168,P_ 109⟩,⟨14,.q (some 0),P_ 109,15360,P_ 110⟩,⟨15,.q none,1,0,P_ 111⟩,⟨16,.q none,P_ 111,32768,P_ 112⟩,⟨17,.q none,P_ 112,98304,P_ 113⟩,⟨18,.q none,P_ 113,229376,P_ 114⟩,⟨19,.q (some 0),P_ 114,491520,P_ 115⟩,⟨20,.q none,1,0,P_ 116⟩,⟨21,.q none,P_ 116,1048576,P_ 117⟩,⟨22,.q none,P_ 117,3145728,P_ 118⟩,⟨23,.q none,P_ 118,7340032,P_ 119⟩,⟨24,.q (some 0),P_ 119,15728640,P_ 120⟩,⟨25,.q none,1,0,P_ 121⟩,⟨26,.q none,P_ 121,33554432,P_ 122⟩,⟨27,.q none,P_ 122,100663296,P_ 123⟩,⟨28,.q none,P_ 123,234881024,P_ 124⟩,⟨29,.q (some 0),P_ 124,503316480,P_ 125⟩,⟨30,.q none,1,0,P_ 126⟩,⟨31,.q none,P_ 126,P_ 30,P_ 127⟩,⟨32,.q none,P_ 127,3221225472,P_ 128⟩,⟨33,.q none,P_ 128,7516192768,P_ 129⟩,⟨34,.q (some 0),P_ 129,16106127360,P_ 130⟩,⟨35,.q none,1,0,P_ 131⟩,⟨36,.q none,P_ 131,P_ 35,P_ 132⟩,⟨37,.q none,P_ 132,103079215104,P_ 133⟩,⟨38,.q none,P_ 133,240518168576,P_ 134⟩,⟨39,.q (some 0),P_ 134,515396075520,P_ 135⟩,⟨40,.q none,P_ 100,31,256⟩,⟨41,.q none,P_ 105,1099511628799,512⟩,⟨42,.q none,P_ 110,3298534916095,1024⟩,⟨43,.q none,P_ 115,7696582443007,2048⟩,⟨44,.q none,P_ 120,16492707971071,4096⟩,⟨45,.q none,P_ 125,34085934202879,8192⟩,⟨46,.q none,P_ 130,69303592288255,16384⟩,⟨47,.q none,P_ 135,P_ 47-P_ 0,32768⟩]),(16,[⟨0,.q none,32768,0,P_ 139⟩,⟨1,.q none,4096,0,P_ 140⟩,⟨2,.f 0 true,P_ 140,2,P_ 141⟩,⟨3,.q none,4096,0,P_ 142⟩,⟨4,.f 1 true,P_ 142,14,P_ 143⟩,⟨5,.q none,P_ 143+P_ 141,30,P_ 144⟩,⟨6,.q none,4096,0,P_ 145⟩,⟨7,.f 2 true,P_ 145,94,P_ 146⟩,⟨8,.q none,P_ 146+P_ 144,254,P_ 147⟩,⟨9,.q none,P_ 147+P_ 139,511,P_ 148⟩,⟨10,.q none,4096,0,P_ 149⟩,⟨11,.q none,8192,0,P_ 150⟩,⟨12,.q none,P_ 151-P_ 149,3072,P_ 151⟩,⟨13,.q none,4096,0,P_ 152⟩,⟨14,.q none,P_ 152,8192,P_ 153⟩,⟨15,.q none,16384,0,P_ 154⟩,⟨16,.q none,P_ 155-P_ 153,57344,P_ 155⟩,⟨17,.q none,P_ 155+P_ 151,130048,P_ 156⟩,⟨18,.q none,P_ 156+P_ 148,262143,P_ 157⟩,⟨19,.q none,1,0,P_ 158⟩,⟨20,.q none,65536,0,P_ 159⟩,⟨21,.q none,P_ 158,524288,P_ 160⟩,⟨22,.q none,P_ 160,2621440,P_ 161⟩,⟨23,.q none,P_ 161+P_ 159,7864320,P_ 162⟩,⟨24,.q (some 0),P_ 162,16252928,P_ 163⟩,⟨25,.q none,P_ 163+P_ 157,33554431,P_ 164⟩,⟨26,.q none,65536,0,P_ 165⟩,⟨27,.q none,P_ 165+P_ 2,67108864,P_ 166⟩,⟨28,.q (some 0),P_ 166,201326592,P_ 167⟩,⟨29,.q none,P_ 167+P_ 164,536870911,P_ 168⟩,⟨30,.q none,P_ 168,1073741823,131072⟩]),(23,[⟨0,.q none,1,0,P_ 215⟩,⟨1,.q none,524288,0,P_ 216⟩,⟨2,.q none,P_ 215,1,P_ 217⟩,⟨3,.q none,P_ 217,5,P_ 218⟩,⟨4,.q none,P_ 218+P_ 216,15,P_ 219⟩,⟨5,.q (some 0),P_ 219,31,P_ 220⟩,⟨6,.q none,1048576,0,P_ 221⟩,⟨7,.q none,P_ 222-P_ 220,127,P_ 222⟩,⟨8,.q none,P_ 215,1,P_ 223⟩,⟨9,.q none,P_ 223,257,P_ 224⟩,⟨10,.q none,P_ 224+P_ 216,1023,P_ 225⟩,⟨11,.f 0 false,P_ 225+P_ 222,2047,0⟩])],[],[]⟩
theorem C_sha_state_turn (h:F_sha_state_turn x0 w R):Calls Tryz.prog 140 #[x0] w R:=cc A_sha_state_turn [x0] Tryz.func140 h
def F_mac_Stream (aK j:Value) (w:World) (R:Ending→World→Prop):Prop:=
 m R (o_box 34 aK) w fun l aL=>
 mj1 (fun aM=>
 m R (o_bin .lss 3 true j (.int .i64 1)) aL fun p r=>
 mguard p false (fun k=>m R (o_move j) r k) r fun s t=>
 mguard p false (fun k=>m R (o_bin .gtr 3 true s (.int .i64 65536)) t k) t fun u aN=>
 m R (o_pick p (.bool true) u) aN fun h aO=>
 aM h aO) fun h aR v=>
 mif h (
 R (.returned (.string (ByteArray.mk #[]))) v) (
 ml2 (.slice none 0 0) (.int .i64 0) v fun q i aS aP n=>
 m R (o_builtin .len #[99] 3 [false] [q]) aP fun x aQ=>
 m R (o_bin .lss 3 false x j) aQ fun y g=>
 mif y (
 mj1 (fun o=>
 ((
 dp Tryz.prog (o_slice 34 l none none none) fun b=>
 dq Tryz.prog g (o_conv 99 9 b) fun c=>
 df Tryz.prog g (o_call (fv 124) [i]) true fun d z=>
 df Tryz.prog z (o_buildSlice 70 1 [(0,d)]) true fun e A=>
 df Tryz.prog A (o_call (fv 123) [c,e]) false fun f B=>
 df Tryz.prog B (o_alloc 34) true fun a C=>
 df Tryz.prog C (o_store 34 a f) false fun _ D=>
 dend D fun E=>
 o a E)∧(
 dp Tryz.prog (o_slice 34 l none none none) fun b=>
 dq Tryz.prog g (o_conv 99 9 b) fun c=>
 df Tryz.prog g (o_call (fv 124) [i]) true fun d F=>
 df Tryz.prog F (o_buildSlice 70 1 [(0,d)]) true fun e G=>
 df Tryz.prog G (o_alloc 34) true fun a H=>
 df Tryz.prog H (o_call (fv 123) [c,e]) false fun f I=>
 df Tryz.prog I (o_store 34 a f) false fun _ J=>
 dend J fun K=>
 o a K)∧(
 dp Tryz.prog (o_slice 34 l none none none) fun b=>
 dq Tryz.prog g (o_conv 99 9 b) fun c=>
 df Tryz.prog g (o_call (fv 124) [i]) true fun d L=>
 df Tryz.prog L (o_alloc 34) true fun a M=>
 df Tryz.prog M (o_buildSlice 70 1 [(0,d)]) true fun e N=>
 df Tryz.prog N (o_call (fv 123) [c,e]) false fun f O=>
 df Tryz.prog O (o_store 34 a f) false fun _ Q=>
 dend Q fun S=>
 o a S)∧(
 dp Tryz.prog (o_slice 34 l none none none) fun b=>
 dq Tryz.prog g (o_conv 99 9 b) fun c=>
 df Tryz.prog g (o_alloc 34) true fun a T=>
 df Tryz.prog T (o_call (fv 124) [i]) true fun d U=>
 df Tryz.prog U (o_buildSlice 70 1 [(0,d)]) true fun e V=>
 df Tryz.prog V (o_call (fv 123) [c,e]) false fun f W=>
 df Tryz.prog W (o_store 34 a f) false fun _ X=>
 dend X fun Y=>
 o a Y))) fun a aT Z=>
 m R (o_slice 34 a none none none) Z fun aA aB=>
 m R (o_builtin .append #[99,99] 99 [false,false] [q,aA]) aB fun aC aD=>
 m R (o_bin .add 3 true i (.int .i64 1)) aD fun aE aF=>
 n aC aE aF) (
 m R (o_slice 99 q none (some j) none) g fun aG aH=>
 m R (o_conv 99 9 aG) aH fun aI aJ=>
 R (.returned aI) aJ))
def A_mac_Stream:Ann:=⟨[(5,[5,6],536854752)],[(2,[13],16128),(8,[7],66060416)],[],[(7,[⟨[0,1,2,3,4,5,6,7],[⟨0,.q none,4,0,1048576⟩,⟨1,.q (some 0),1048576,1,2097152⟩,⟨2,.q none,64,0,4194304⟩,⟨3,.f 0 true,4194304,4,8388608⟩,⟨4,.f 1 true,8388608,12,16777216⟩,⟨5,.f 2 false,18874368,31,33554432⟩,⟨6,.f 3 true,0,0,128⟩,⟨7,.f 4 false,33554560,127,0⟩]⟩,⟨[0,1,2,3,4,6,5,7],[⟨0,.q none,4,0,1048576⟩,⟨1,.q (some 0),1048576,1,2097152⟩,⟨2,.q none,64,0,4194304⟩,⟨3,.f 0 true,4194304,4,8388608⟩,⟨4,.f 1 true,8388608,12,16777216⟩,⟨5,.f 3 false,18874368,31,33554432⟩,⟨6,.f 2 true,0,0,128⟩,⟨7,.f 4 false,33554560,127,0⟩]⟩,⟨[0,1,2,3,6,4,5,7],[⟨0,.q none,4,0,1048576⟩,⟨1,.q (some 0),1048576,1,2097152⟩,⟨2,.q none,64,0,4194304⟩,⟨3,.f 0 true,4194304,4,8388608⟩,⟨4,.f 2 true,8388608,12,16777216⟩,⟨5,.f 3 false,18874368,31,33554432⟩,⟨6,.f 1 true,0,0,128⟩,⟨7,.f 4 false,33554560,127,0⟩]⟩,⟨[0,1,2,6,3,4,5,7],[⟨0,.q none,4,0,1048576⟩,⟨1,.q (some 0),1048576,1,2097152⟩,⟨2,.q none,64,0,4194304⟩,⟨3,.f 1 true,4194304,4,8388608⟩,⟨4,.f 2 true,8388608,12,16777216⟩,⟨5,.f 3 false,18874368,31,33554432⟩,⟨6,.f 0 true,0,0,128⟩,⟨7,.f 4 false,33554560,127,0⟩]⟩])],[]⟩
theorem C_mac_Stream (h:F_mac_Stream x0 x1 w R):Calls Tryz.prog 146 #[x0,x1] w R:=cc A_mac_Stream [x0,x1] Tryz.func146 h
def F_tree_leafBytes (b B:Value) (w:World) (R:Ending→World→Prop):Prop:=
 m R (o_box 40 B) w fun a C=>
 m R (o_fieldAddr 40 a 0) C fun D E=>
 m R (o_load 3 D) E fun F G=>
 m R (o_bin .gtr 3 true F (.int .i64 0)) G fun H I=>
 m R (o_call (fv 153) [b,H]) I fun U J=>
 m R (o_fieldAddr 40 a 0) J fun K L=>
 m R (o_load 3 K) L fun c M=>
 m R (o_bin .gtr 3 true c (.int .i64 0)) M fun d e=>
 mif d (
 m R (o_fieldAddr 40 a 0) e fun f N=>
 m R (o_load 3 f) N fun g h=>
 m R (o_call (fv 94) [b,g]) h fun O i=>
 m R (o_fieldAddr 40 a 1) i fun j l=>
 m R (o_load 34 j) l fun n o=>
 m R (o_call (fv 149) [b,n]) o fun Q p=>
 m R (o_fieldAddr 40 a 2) p fun q r=>
 m R (o_load 34 q) r fun s t=>
 m R (o_call (fv 149) [b,s]) t fun S u=>
 m R (o_fieldAddr 40 a 3) u fun v x=>
 m R (o_load 34 v) x fun y z=>
 m R (o_call (fv 149) [b,y]) z fun T A=>
 R (.returned (.tuple #[])) A) (
 R (.returned (.tuple #[])) e)
def A_tree_leafBytes:Ann:=⟨[],[],[],[],[]⟩
theorem C_tree_leafBytes (h:F_tree_leafBytes x0 x1 w R):Calls Tryz.prog 147 #[x0,x1] w R:=cc A_tree_leafBytes [x0,x1] Tryz.func147 h
def F_tree_parentBytes (b O:Value) (w:World) (R:Ending→World→Prop):Prop:=
 m R (o_box 69 O) w fun a Q=>
 m R (o_fieldAddr 69 a 0) Q fun S T=>
 m R (o_load 4 S) T fun U V=>
 m R (o_call (fv 153) [b,U]) V fun aF W=>
 m R (o_fieldAddr 69 a 0) W fun g X=>
 m R (o_load 4 g) X fun h i=>
 mif h (
 m R (o_fieldAddr 69 a 1) i fun j Y=>
 m R (o_load 34 j) Y fun l Z=>
 m R (o_call (fv 149) [b,l]) Z fun aB aA=>
 m R (o_fieldAddr 69 a 2) aA fun n o=>
 m R (o_load 34 n) o fun p q=>
 m R (o_call (fv 149) [b,p]) q fun aC r=>
 m R (o_fieldAddr 69 a 3) r fun s t=>
 m R (o_load 47 s) t fun u v=>
 m R (o_builtin .len #[47] 3 [false] [u]) v fun x y=>
 m R (o_call (fv 94) [b,x]) y fun aD z=>
 m R (o_fieldAddr 69 a 3) z fun A B=>
 m R (o_load 47 A) B fun e C=>
 m R (o_builtin .len #[47] 3 [false] [e]) C fun D E=>
 ml1 (.int .i64 0) E fun c aG F d=>
 m R (o_bin .lss 3 false c D) F fun G f=>
 mif G (
 m R (o_indexAddr 47 e c) f fun H I=>
 m R (o_load 3 H) I fun J K=>
 m R (o_call (fv 94) [b,J]) K fun aE L=>
 m R (o_bin .add 3 true c (.int .i64 1)) L fun M N=>
 d M N) (
 R (.returned (.tuple #[])) f)) (
 R (.returned (.tuple #[])) i)
def A_tree_parentBytes:Ann:=⟨[(7,[28],68451041312)],[],[],[],[]⟩
theorem C_tree_parentBytes (h:F_tree_parentBytes x0 x1 w R):Calls Tryz.prog 148 #[x0,x1] w R:=cc A_tree_parentBytes [x0,x1] Tryz.func148 h
def F_wire_Writer_Hash (a h:Value) (w:World) (R:Ending→World→Prop):Prop:=
 m R (o_box 34 h) w fun i j=>
 m R (o_bin .neq 146 true a (.pointer none)) j fun l b=>
 mif l (
 dp Tryz.prog (o_nilCheck a) fun n=>
 dp Tryz.prog (o_fieldAddr 188 n 0) fun o=>
 dq Tryz.prog b (o_load 99 o) fun c=>
 dp Tryz.prog (o_slice 34 i none none none) fun d=>
 df Tryz.prog b (o_builtin .append #[99,99] 99 [false,false] [c,d]) false fun e p=>
 dp Tryz.prog (o_nilCheck a) fun f=>
 dp Tryz.prog (o_fieldAddr 188 f 0) fun g=>
 df Tryz.prog p (o_store 99 g e) false fun _ q=>
 dend q fun r=>
 R (.returned (.tuple #[])) r) (
 R (.returned (.tuple #[])) b)
def A_wire_Writer_Hash:Ann:=⟨[],[],[(2,[⟨0,.q none,1,0,64⟩,⟨1,.q none,1,0,128⟩,⟨2,.q none,128,2,256⟩,⟨3,.q none,256,6,512⟩,⟨4,.q (some 0),512,14,1024⟩,⟨5,.q none,8,0,2048⟩,⟨6,.f 0 false,3072,62,4096⟩,⟨7,.q none,64,127,8192⟩,⟨8,.q none,8192,255,16384⟩,⟨9,.f 1 false,20480,511,0⟩])],[],[]⟩
theorem C_wire_Writer_Hash (h:F_wire_Writer_Hash x0 x1 w R):Calls Tryz.prog 149 #[x0,x1] w R:=cc A_wire_Writer_Hash [x0,x1] Tryz.func149 h
def F_slices_rotateCmpFunc_api_Key (e C c D f:Value) (w:World) (R:Ending→World→Prop):Prop:=
 m R (o_bin .sub 3 false c C) w fun g E=>
 m R (o_bin .sub 3 false D c) E fun h F=>
 ml2 g h F fun a b O G d=>
 m R (o_bin .neq 3 false a b) G fun i j=>
 mif i (
 m R (o_bin .gtr 3 false a b) j fun l n=>
 mif l (
 m R (o_bin .sub 3 false c a) n fun o H=>
 m R (o_call (fv 154) [e,o,c,b,f]) H fun L I=>
 m R (o_bin .sub 3 false a b) I fun p J=>
 d p b J) (
 m R (o_bin .sub 3 false c a) n fun q K=>
 m R (o_bin .add 3 false c b) K fun r s=>
 m R (o_bin .sub 3 false r a) s fun t u=>
 m R (o_call (fv 154) [e,q,t,a,f]) u fun M v=>
 m R (o_bin .sub 3 false b a) v fun x y=>
 d a x y)) (
 m R (o_bin .sub 3 false c a) j fun z A=>
 m R (o_call (fv 154) [e,z,c,a,f]) A fun N B=>
 R (.returned (.tuple #[])) B)
def A_slices_rotateCmpFunc_api_Key:Ann:=⟨[(2,[10,11],1125899906583552)],[],[],[],[]⟩
theorem C_slices_rotateCmpFunc_api_Key (h:F_slices_rotateCmpFunc_api_Key x0 x1 x2 x3 x4 w R):Calls Tryz.prog 150 #[x0,x1,x2,x3,x4] w R:=cc A_slices_rotateCmpFunc_api_Key [x0,x1,x2,x3,x4] Tryz.func150 h
def F_math_bits_RotateLeft32 (a g:Value) (w:World) (R:Ending→World→Prop):Prop:=
 m R (o_conv 3 59 g) w fun h i=>
 m R (o_bin .and 59 true h (.int .u64 31)) i fun b j=>
 m R (o_bin .shl 159 false a b) j fun c l=>
 m R (o_bin .sub 59 true (.int .u64 32) b) l fun d n=>
 m R (o_bin .shr 159 false a d) n fun e o=>
 m R (o_bin .or 159 false c e) o fun f p=>
 R (.returned f) p
def A_math_bits_RotateLeft32:Ann:=⟨[],[],[],[],[]⟩
theorem C_math_bits_RotateLeft32 (h:F_math_bits_RotateLeft32 x0 x1 w R):Calls Tryz.prog 151 #[x0,x1] w R:=cc A_math_bits_RotateLeft32 [x0,x1] Tryz.func151 h
def F_wire_Writer_Flag (a A:Value) (w:World) (R:Ending→World→Prop):Prop:=
 m R (o_bin .eql 146 true a (.pointer none)) w fun B b=>
 mif B (
 R (.returned (.tuple #[])) b) (
 mif A (
 m R (o_nilCheck a) b fun C D=>
 m R (o_fieldAddr 188 C 0) D fun c E=>
 m R (o_load 99 c) E fun d F=>
 m R (o_buildSlice 99 1 [(0,(.int .u8 1))]) F fun e G=>
 m R (o_builtin .append #[99,99] 99 [false,false] [d,e]) G fun f H=>
 m R (o_nilCheck a) H fun g I=>
 m R (o_fieldAddr 188 g 0) I fun h J=>
 m R (o_store 99 h f) J fun _ K=>
 R (.returned (.tuple #[])) K) (
 m R (o_nilCheck a) b fun i j=>
 m R (o_fieldAddr 188 i 0) j fun l n=>
 m R (o_load 99 l) n fun o p=>
 m R (o_buildSlice 99 1 [(0,(.int .u8 0))]) p fun q r=>
 m R (o_builtin .append #[99,99] 99 [false,false] [o,q]) r fun s t=>
 m R (o_nilCheck a) t fun u v=>
 m R (o_fieldAddr 188 u 0) v fun x y=>
 m R (o_store 99 x s) y fun _ z=>
 R (.returned (.tuple #[])) z))
def A_wire_Writer_Flag:Ann:=⟨[],[],[],[],[]⟩
theorem C_wire_Writer_Flag (h:F_wire_Writer_Flag x0 x1 w R):Calls Tryz.prog 153 #[x0,x1] w R:=cc A_wire_Writer_Flag [x0,x1] Tryz.func153 h
def F_slices_swapRangeCmpFunc_api_Key (b e f u B:Value) (w:World) (R:Ending→World→Prop):Prop:=
 ml1 (.int .i64 0) w fun a C v c=>
 m R (o_bin .lss 3 false a u) v fun g d=>
 mif g (
 dp Tryz.prog (o_bin .add 3 false e a) fun h=>
 dp Tryz.prog (o_bin .add 3 false f a) fun i=>
 dp Tryz.prog (o_bin .add 3 false f a) fun j=>
 dp Tryz.prog (o_indexAddr 26 b j) fun l=>
 dq Tryz.prog d (o_load 43 l) fun n=>
 dp Tryz.prog (o_bin .add 3 false e a) fun o=>
 dp Tryz.prog (o_indexAddr 26 b o) fun p=>
 dq Tryz.prog d (o_load 43 p) fun q=>
 dp Tryz.prog (o_indexAddr 26 b h) fun r=>
 df Tryz.prog d (o_store 43 r n) false fun _ x=>
 dp Tryz.prog (o_indexAddr 26 b i) fun s=>
 df Tryz.prog x (o_store 43 s q) false fun _ y=>
 dend y fun z=>
 m R (o_bin .add 3 true a (.int .i64 1)) z fun t A=>
 c t A) (
 R (.returned (.tuple #[])) d)
def A_slices_swapRangeCmpFunc_api_Key:Ann:=⟨[(1,[10],274877905920)],[],[(3,[⟨0,.q none,1,0,65536⟩,⟨1,.q none,2,0,131072⟩,⟨2,.q none,1024,0,262144⟩,⟨3,.q none,393216,6,524288⟩,⟨4,.q none,1,0,1048576⟩,⟨5,.q none,4,0,2097152⟩,⟨6,.q none,1024,0,4194304⟩,⟨7,.q none,6291456,96,8388608⟩,⟨8,.q none,1,0,16777216⟩,⟨9,.q none,4,0,33554432⟩,⟨10,.q none,1024,0,67108864⟩,⟨11,.q none,100663296,1536,P_ 27⟩,⟨12,.q none,150994944,3840,P_ 28⟩,⟨13,.q (some 0),P_ 28,7936,P_ 29⟩,⟨14,.q none,1,0,P_ 30⟩,⟨15,.q none,2,0,P_ 31⟩,⟨16,.q none,1024,0,P_ 32⟩,⟨17,.q none,6442450944,98304,P_ 33⟩,⟨18,.q none,9663676416,245760,P_ 34⟩,⟨19,.q (some 0),P_ 34,507904,P_ 35⟩,⟨20,.q none,589824,1048335,P_ 36⟩,⟨21,.f 0 false,69256347648,2096911,0⟩,⟨22,.q none,9437184,4194303,P_ 37⟩,⟨23,.f 1 false,171798691840,8388607,0⟩])],[],[]⟩
theorem C_slices_swapRangeCmpFunc_api_Key (h:F_slices_swapRangeCmpFunc_api_Key x0 x1 x2 x3 x4 w R):Calls Tryz.prog 154 #[x0,x1,x2,x3,x4] w R:=cc A_slices_swapRangeCmpFunc_api_Key [x0,x1,x2,x3,x4] Tryz.func154 h
end Go.Proofs.YtpjodlnlmaaihaaGreat
namespace Go.Proofs.YtpjodlnlmaaihaaGreat
open Go.RowKit
theorem bits_or_comm (a b:Int):bits .or .u32 a b=bits .or .u32 b a:=by
 show IntKind.u32.wrap ((BitVec.ofInt 32 a ||| BitVec.ofInt 32 b).toNat:Int)=IntKind.u32.wrap ((BitVec.ofInt 32 b ||| BitVec.ofInt 32 a).toNat:Int)
 rw[BitVec.or_comm]
theorem wrap_u32_bd (a:Int):0≤IntKind.u32.wrap a∧IntKind.u32.wrap a<4294967296:=by
 have:IntKind.u32.wrap a=a%4294967296:=by simp[IntKind.wrap,IntKind.bits,IntKind.signed]
 rw[this];omega
def Wd (x:Int):Prop:=0≤x∧x<4294967296
theorem wd_or (a b:Int):Wd (bits .or .u32 a b):=wrap_u32_bd _
theorem wd_mod (a:Int):Wd (a%4294967296):=⟨by omega,by omega⟩
def rotr (x:Int) (k:Nat):Int:=bits .or .u32 (x / 2 ^ k) (x*2 ^ (32 - k)%4294967296)
def word4 (a b c d:Int):Int:=bits .or .u32 (bits .or .u32 (bits .or .u32 (a*16777216%4294967296) (b*65536%4294967296)) (c*256%4294967296)) d
def sig0 (x:Int):Int:=bits .xor .u32 (bits .xor .u32 (rotr x 7) (rotr x 18)) (x / 8)
def sig1 (x:Int):Int:=bits .xor .u32 (bits .xor .u32 (rotr x 17) (rotr x 19)) (x / 1024)
def nextw (a b x y:Int):Int:=(((a+b)%4294967296+sig0 x)%4294967296+sig1 y)%4294967296
def wl (bs:List Int):Nat→List Int
 | 0=>[]
 | i+1=>wl bs i++[if i<16 then word4 (bs.getD (4*i) 0) (bs.getD (4*i+1) 0) (bs.getD (4*i+2) 0) (bs.getD (4*i+3) 0)
   else nextw ((wl bs i).getD (i - 16) 0) ((wl bs i).getD (i - 7) 0) ((wl bs i).getD (i - 15) 0) ((wl bs i).getD (i - 2) 0)]
structure S8 where
 a:Int
 b:Int
 c:Int
 d:Int
 e:Int
 f:Int
 g:Int
 h:Int
 deriving DecidableEq
def S8.t1 (s:S8) (k w:Int):Int:=
 ((((s.h+bits .xor .u32 (bits .xor .u32 (rotr s.e 6) (rotr s.e 11)) (rotr s.e 25))%4294967296+bits .xor .u32 (bits .and .u32 s.e s.f) (bits .and .u32 (bits .xor .u32 4294967295 s.e) s.g))%4294967296+k)%4294967296+w)%4294967296
def S8.t2 (s:S8):Int:=
 (bits .xor .u32 (bits .xor .u32 (rotr s.a 2) (rotr s.a 13)) (rotr s.a 22)+bits .xor .u32 (bits .xor .u32 (bits .and .u32 s.a s.b) (bits .and .u32 s.a s.c)) (bits .and .u32 s.b s.c))%4294967296
def S8.rnd (s:S8) (k w:Int):S8:=⟨(s.t1 k w+s.t2)%4294967296,s.a,s.b,s.c,(s.d+s.t1 k w)%4294967296,s.e,s.f,s.g⟩
def kl:List Int:=[1116352408,1899447441,3049323471,3921009573,961987163,1508970993,2453635748,2870763221,3624381080,310598401,607225278,1426881987,1925078388,2162078206,2614888103,3248222580,3835390401,4022224774,264347078,604807628,770255983,1249150122,1555081692,1996064986,2554220882,2821834349,2952996808,3210313671,3336571891,3584528711,113926993,338241895,666307205,773529912,1294757372,1396182291,1695183700,1986661051,2177026350,2456956037,2730485921,2820302411,3259730800,3345764771,3516065817,3600352804,4094571909,275423344,430227734,506948616,659060556,883997877,958139571,1322822218,1537002063,1747873779,1955562222,2024104815,2227730452,2361852424,2428436474,2756734187,3204031479,3329325298]
def rl (ws:List Int):Nat→S8→S8
 | 0,s=>s
 | i+1,s=>(rl ws i s).rnd (kl.getD i 0) (ws.getD i 0)
def S8.add (s t:S8):S8:=⟨(s.a+t.a)%4294967296,(s.b+t.b)%4294967296,(s.c+t.c)%4294967296,(s.d+t.d)%4294967296,(s.e+t.e)%4294967296,(s.f+t.f)%4294967296,(s.g+t.g)%4294967296,(s.h+t.h)%4294967296⟩
def compress (s:S8) (bs:List Int):S8:=s.add (rl (wl bs 64) 64 s)
def h0:S8:=⟨1779033703,3144134277,1013904242,2773480762,1359893119,2600822924,528734635,1541459225⟩
def feed (x:S8 × List Int) (b:Int):S8 × List Int:=if x.2.length=63 then (compress x.1 (x.2++[b]),[]) else (x.1,x.2++[b])
end Go.Proofs.YtpjodlnlmaaihaaGreat
namespace Go.Proofs.YtpjodlnlmaaihaaGreat
@[simp] theorem kd_lit (n : Nat) : (OfNat.ofNat n : Kd) = Kd.ty n := rfl
theorem rot_k (x:Int) (k:Int) (c:Nat) (w:World) (h:Wd x) (hc:0<c∧c<32) (hk:bits .and .u64 (k%18446744073709551616) 31=((32 - c:Nat):Int)):
  Calls Tryz.prog 151 #[.int .u32 x,.int .i64 k] w fun e w'=>e=.returned (.int .u32 (rotr x c))∧w=w':=by
 obtain⟨h0,h1⟩:=h
 refine C_math_bits_RotateLeft32 ?_
 unfold F_math_bits_RotateLeft32
 refine mop_c trivial ?_
 refine mop_c trivial ?_
 rw[hk]
 (repeat (first|(refine mop_c ?_ ?_;first|exact trivial|omega)|(refine dp_c ?_ ?_;first|exact trivial|omega)))
 refine⟨?_,rfl⟩
 have e1:((32 - c:Nat):Int).toNat=32 - c:=by omega
 have e2:((32 - ((32 - c:Nat):Int))%18446744073709551616).toNat=c:=by omega
 rw[e1,e2,bits_or_comm]
 rfl
theorem turned_k (x:Int) (c:Nat) (w:World) (h:Wd x) (hc:0<c∧c<32):
  Calls Tryz.prog 105 #[.int .u32 x,.int .u64 (c:Int)] w fun e w'=>e=.returned (.int .u32 (rotr x c))∧w=w':=by
 obtain⟨h0,h1⟩:=h
 refine C_bevyref02_turned ?_
 unfold F_bevyref02_turned
 (repeat (first|(refine mop_c ?_ ?_;first|exact trivial|omega)|(refine dp_c ?_ ?_;first|exact trivial|omega)))
 refine⟨?_,rfl⟩
 have e1:((c:Nat):Int).toNat=c:=by omega
 have e2:((32 - (c:Int))%18446744073709551616).toNat=32 - c:=by omega
 rw[e1,e2]
 rfl
end Go.Proofs.YtpjodlnlmaaihaaGreat
namespace Go.Proofs.YtpjodlnlmaaihaaGreat
open Go.RowKit
theorem wl_len (bs:List Int):∀ i,(wl bs i).length=i
 | 0=>rfl
 | i+1=>by rw[wl,List.length_append,wl_len bs i];rfl
theorem wl_old (bs:List Int) (i j:Nat) (h:j<i):(wl bs (i+1)).getD j 0=(wl bs i).getD j 0:=by
 rw[wl,List.getD_eq_getElem?_getD,List.getElem?_append_left (by rw[wl_len];exact h)]
 rfl
theorem wl_new (bs:List Int) (i:Nat):(wl bs (i+1)).getD i 0=if i<16 then word4 (bs.getD (4*i) 0) (bs.getD (4*i+1) 0) (bs.getD (4*i+2) 0) (bs.getD (4*i+3) 0)
   else nextw ((wl bs i).getD (i - 16) 0) ((wl bs i).getD (i - 7) 0) ((wl bs i).getD (i - 15) 0) ((wl bs i).getD (i - 2) 0):=by
 conv=>lhs;rw[wl]
 rw[List.getD_eq_getElem?_getD,List.getElem?_append_right (by rw[wl_len];exact Nat.le_refl _),wl_len,Nat.sub_self]
 rfl
theorem wl_wd (bs:List Int):∀ i j,Wd ((wl bs i).getD j 0)
 | 0,j=>by simp[wl,Wd]
 | i+1,j=>by
  rcases Nat.lt_trichotomy j i with h|h|h
  ·rw[wl_old bs i j h];exact wl_wd bs i j
  ·subst h
   rw[wl_new]
   split
   ·exact wd_or _ _
   ·exact wd_mod _
  ·rw[List.getD_eq_getElem?_getD,List.getElem?_eq_none (by rw[wl_len];omega)]
   simp[Wd]
def stCells (hs bl:List Int) (n:Int):List Value:=u32s hs++(u8s bl++(Value.int .i64 n::u32s kl))
theorem kl_len:kl.length=64:=by decide
section
variable {hs bl:List Int} {n:Int}
theorem st_len (hh:hs.length=8) (hb:bl.length=64):(stCells hs bl n).length=137:=by
 simp[stCells,u32s,u8s,hh,hb,kl_len]
theorem st_h (hh:hs.length=8) (i:Nat) (hi:i<8):(stCells hs bl n)[i]?=some (.int .u32 (hs.getD i 0)):=by
 rw[stCells,List.getElem?_append_left (by simp[u32s];omega),u32s_at _ _ (by omega)]
theorem st_b (hh:hs.length=8) (hb:bl.length=64) (i:Nat) (hi:i<64):(stCells hs bl n)[8+i]?=some (.int .u8 (bl.getD i 0)):=by
 rw[stCells,List.getElem?_append_right (by simp[u32s];omega),List.getElem?_append_left (by simp[u32s,u8s];omega)]
 rw[show 8+i - (u32s hs).length=i by simp[u32s];omega,u8s_at _ _ (by omega)]
theorem st_n (hh:hs.length=8) (hb:bl.length=64):(stCells hs bl n)[72]?=some (.int .i64 n):=by
 rw[stCells,List.getElem?_append_right (by simp[u32s];omega),List.getElem?_append_right (by simp[u32s,u8s];omega)]
 rw[show 72 - (u32s hs).length - (u8s bl).length=0 by simp[u32s,u8s];omega]
 rfl
theorem st_k (hh:hs.length=8) (hb:bl.length=64) (i:Nat) (hi:i<64):(stCells hs bl n)[73+i]?=some (.int .u32 (kl.getD i 0)):=by
 rw[stCells,List.getElem?_append_right (by simp[u32s];omega),List.getElem?_append_right (by simp[u32s,u8s];omega)]
 rw[show 73+i - (u32s hs).length - (u8s bl).length=i+1 by simp[u32s,u8s];omega,List.getElem?_cons_succ,u32s_at _ _ (by rw[kl_len];exact hi)]
theorem st_set_h (hh:hs.length=8) (i:Nat) (hi:i<8) (v:Int):(stCells hs bl n).set i (.int .u32 v)=stCells (hs.set i v) bl n:=by
 rw[stCells,stCells,List.set_append,if_pos (by simp[u32s];omega)]
 simp[u32s,List.map_set]
theorem st_set_n (hh:hs.length=8) (hb:bl.length=64) (v:Int):(stCells hs bl n).set 72 (.int .i64 v)=stCells hs bl v:=by
 rw[stCells,stCells,List.set_append,if_neg (by simp[u32s];omega),List.set_append,if_neg (by simp[u32s,u8s];omega)]
 rw[show 72 - (u32s hs).length - (u8s bl).length=0 by simp[u32s,u8s];omega]
 rfl
end
theorem getD_bd (l:List Int) (i:Nat) (h:∀ x∈l,0≤x∧x<256):0≤l.getD i 0∧l.getD i 0<256:=by
 rw[List.getD_eq_getElem?_getD]
 cases hx:l[i]? with
 | none=>simp
 | some x=>exact h x (List.mem_of_getElem? hx)
theorem getD_wd (l:List Int) (i:Nat) (h:∀ x∈l,Wd x):Wd (l.getD i 0):=by
 rw[List.getD_eq_getElem?_getD]
 cases hx:l[i]? with
 | none=>simp[Wd]
 | some x=>exact h x (List.mem_of_getElem? hx)
def wk (bl:List Int) (k:Nat):List Int:=wl bl k++List.replicate (64 - k) 0
theorem wk_len (bl:List Int) (k:Nat) (h:k≤64):(wk bl k).length=64:=by simp[wk,wl_len];omega
theorem wk_at (bl:List Int) (k j:Nat) (h:j<k):(u32s (wk bl k))[j]?=some (.int .u32 ((wl bl k).getD j 0)):=by
 rw[u32s_at _ _ (by simp[wk,wl_len];omega),wk]
 congr 2
 rw[List.getD_eq_getElem?_getD,List.getElem?_append_left (by rw[wl_len];exact h)]
 rfl
theorem wk_set (bl:List Int) (k:Nat) (h:k<64) (v:Int) (hv:(wl bl (k+1)).getD k 0=v):(u32s (wk bl k)).set k (.int .u32 v)=u32s (wk bl (k+1)):=by
 have e:wl bl (k+1)=wl bl k++[v]:=by
  rw[wl]
  rw[wl_new]at hv
  rw[hv]
 unfold u32s wk
 rw[← List.map_set,List.set_append,if_neg (by rw[wl_len];omega),wl_len,Nat.sub_self,e,List.append_assoc]
 congr 2
 rw[show 64 - k=(64 - (k+1))+1 by omega,List.replicate_succ]
 rfl
def s8 (hs:List Int):S8:=⟨hs.getD 0 0,hs.getD 1 0,hs.getD 2 0,hs.getD 3 0,hs.getD 4 0,hs.getD 5 0,hs.getD 6 0,hs.getD 7 0⟩
def S8.list (s:S8):List Int:=[s.a,s.b,s.c,s.d,s.e,s.f,s.g,s.h]
structure S8.Ok (s:S8):Prop where
 a:Wd s.a
 b:Wd s.b
 c:Wd s.c
 d:Wd s.d
 e:Wd s.e
 f:Wd s.f
 g:Wd s.g
 h:Wd s.h
theorem rl_ok (ws:List Int) {s:S8} (h:s.Ok):∀ i,(rl ws i s).Ok
 | 0=>h
 | i+1=>by
  have h:=rl_ok ws h i
  exact⟨wd_mod _,h.a,h.b,h.c,wd_mod _,h.e,h.f,h.g⟩
def addK (hs ts:List Int):Nat→List Int
 | 0=>hs
 | i+1=>(addK hs ts i).set i ((hs.getD i 0+ts.getD i 0)%4294967296)
theorem addK_len (hs ts:List Int):∀ i,(addK hs ts i).length=hs.length
 | 0=>rfl
 | i+1=>by rw[addK,List.length_set,addK_len hs ts i]
theorem addK_at (hs ts:List Int):∀ i j,i≤j→(addK hs ts i).getD j 0=hs.getD j 0
 | 0,j,_=>rfl
 | i+1,j,h=>by
  rw[addK,List.getD_eq_getElem?_getD,List.getElem?_set_ne (by omega),← List.getD_eq_getElem?_getD]
  exact addK_at hs ts i j (by omega)
theorem addK_end (hs:List Int) (s:S8) (hh:hs.length=8):addK hs s.list 8=((s8 hs).add s).list:=by
 match hs,hh with
 | [a,b,c,d,e,f,g,h],_=>rfl
theorem build8 (a b c d e f g h:Int):Pur Tryz.prog (o_build 162 [(0,.int .u32 a),(1,.int .u32 b),(2,.int .u32 c),(3,.int .u32 d),(4,.int .u32 e),(5,.int .u32 f),(6,.int .u32 g),(7,.int .u32 h)])
 (.agg (u32s [a,b,c,d,e,f,g,h]).toArray):=fun w=>by kernel_rfl
set_option maxRecDepth 100000 in
set_option maxHeartbeats 2000000 in
theorem turn_ok (b:Nat) (hs bl:List Int) (n:Int) (w:World) (hb:Blf w b 170 (stCells hs bl n)) (hh:hs.length=8) (hbl:bl.length=64) (hby:∀ x∈bl,0≤x∧x<256) (hhw:∀ x∈hs,Wd x):
  Calls Tryz.prog 140 #[.pointer (some ⟨b,0,none⟩)] w fun e w'=>e=.returned (.tuple #[])∧St w [⟨b,170,stCells (compress (s8 hs) bl).list bl n,false⟩] w':=by
 refine C_sha_state_turn ?_
 unfold F_sha_state_turn
 refine mop_new (St.oneF hb) (fun g w1 h1=>?_)
 refine⟨fun x w2=>∃ k:Nat,k≤16∧x=.int .i64 k∧St w [⟨g,160,u32s (wk bl k),true⟩,⟨b,170,stCells hs bl n,false⟩] w2,fun x _=>16 - (intOf x).toNat,⟨0,by omega,rfl,h1⟩,?_⟩
 rintro x21 u w2 ⟨k,hk,rfl,h2⟩
 refine mop_c trivial ?_
 refine mif_dec (fun hlt=>?_) (fun hge=>?_)
 ·have q0:=getD_bd bl (4*k) hby
  have q1:=getD_bd bl (4*k+1) hby
  have q2:=getD_bd bl (4*k+2) hby
  have q3:=getD_bd bl (4*k+3) hby
  (repeat (first|(refine mop_c ?_ ?_;first|exact trivial|omega)|(refine dp_c ?_ ?_;first|exact trivial|omega)))
  refine dq_ld ((h2.cell 1 rfl (8+4*k)).trans (st_b hh hbl (4*k) (by omega))) (by omega) ?_
  (repeat (first|(refine mop_c ?_ ?_;first|exact trivial|omega)|(refine dp_c ?_ ?_;first|exact trivial|omega)))
  refine dq_ld ((h2.cell 1 rfl (8+(4*k+1))).trans (st_b hh hbl (4*k+1) (by omega))) (by omega) ?_
  (repeat (first|(refine mop_c ?_ ?_;first|exact trivial|omega)|(refine dp_c ?_ ?_;first|exact trivial|omega)))
  refine dq_ld ((h2.cell 1 rfl (8+(4*k+2))).trans (st_b hh hbl (4*k+2) (by omega))) (by omega) ?_
  (repeat (first|(refine mop_c ?_ ?_;first|exact trivial|omega)|(refine dp_c ?_ ?_;first|exact trivial|omega)))
  refine dq_ld ((h2.cell 1 rfl (8+(4*k+3))).trans (st_b hh hbl (4*k+3) (by omega))) (by omega) ?_
  (repeat (first|(refine mop_c ?_ ?_;first|exact trivial|omega)|(refine dp_c ?_ ?_;first|exact trivial|omega)))
  refine df_st (j:=k) h2 (by omega) (by simp[u32s,wk_len bl k (by omega)];omega) rfl (fun w3 h3=>?_)
  refine dend_intro fun w4 hd=>?_
  have h4:=h3.drawn hd
  (repeat (first|(refine mop_c ?_ ?_;first|exact trivial|omega)|(refine dp_c ?_ ?_;first|exact trivial|omega)))
  refine⟨⟨k+1,by omega,rfl,?_⟩,by simp[intOf];omega⟩
  rw[wk_set bl k (by omega)]at h4
  ·exact h4
  ·rw[wl_new,if_pos (by omega)]
   rfl
 ·obtain rfl:k=16:=by omega
  refine⟨fun x w2=>∃ k:Nat,16≤k∧k≤64∧x=.int .i64 k∧St w [⟨g,160,u32s (wk bl k),true⟩,⟨b,170,stCells hs bl n,false⟩] w2,fun x _=>64 - (intOf x).toNat,⟨16,by omega,by omega,rfl,h2⟩,?_⟩
  clear h1 h2
  rintro x5 u2 w3 ⟨k,hk0,hk,rfl,h3⟩
  refine mop_c trivial ?_
  refine mif_dec (fun hlt=>?_) (fun hge=>?_)
  ·have d15:=wl_wd bl k (k - 15)
   have d2:=wl_wd bl k (k - 2)
   (repeat (first|(refine mop_c ?_ ?_;first|exact trivial|omega)|(refine dp_c ?_ ?_;first|exact trivial|omega)))
   refine dq_ld ((h3.cell 0 rfl (k - 15)).trans (wk_at bl k (k - 15) (by omega))) (by omega) ?_
   (repeat (first|(refine mop_c ?_ ?_;first|exact trivial|omega)|(refine dp_c ?_ ?_;first|exact trivial|omega)))
   refine dq_ld ((h3.cell 0 rfl (k - 2)).trans (wk_at bl k (k - 2) (by omega))) (by omega) ?_
   refine dend_intro fun w4 hd=>?_
   have h4:=h3.drawn hd
   (repeat (first|(refine mop_c ?_ ?_;first|exact trivial|omega)|(refine dp_c ?_ ?_;first|exact trivial|omega)))
   refine dq_ld ((h4.cell 0 rfl (k - 16)).trans (wk_at bl k (k - 16) (by omega))) (by omega) ?_
   (repeat (first|(refine mop_c ?_ ?_;first|exact trivial|omega)|(refine dp_c ?_ ?_;first|exact trivial|omega)))
   refine dq_ld ((h4.cell 0 rfl (k - 7)).trans (wk_at bl k (k - 7) (by omega))) (by omega) ?_
   (repeat (first|(refine mop_c ?_ ?_;first|exact trivial|omega)|(refine dp_c ?_ ?_;first|exact trivial|omega)))
   refine df_eq (fun w=>rot_k _ (-7) 7 w d15 (by decide) (by decide)) fun w5 hd5=>?_
   refine df_eq (fun w=>rot_k _ (-18) 18 w d15 (by decide) (by decide)) fun w6 hd6=>?_
   (repeat (first|(refine mop_c ?_ ?_;first|exact trivial|omega)|(refine dp_c ?_ ?_;first|exact trivial|omega)))
   refine df_eq (fun w=>rot_k _ (-17) 17 w d2 (by decide) (by decide)) fun w7 hd7=>?_
   refine df_eq (fun w=>rot_k _ (-19) 19 w d2 (by decide) (by decide)) fun w8 hd8=>?_
   (repeat (first|(refine mop_c ?_ ?_;first|exact trivial|omega)|(refine dp_c ?_ ?_;first|exact trivial|omega)))
   have h8:=h4.drawn (((hd5.trans hd6).trans hd7).trans hd8)
   refine df_st (j:=k) h8 (by omega) (by simp[u32s,wk_len bl k hk];omega) rfl (fun w9 h9=>?_)
   refine dend_intro fun w10 hd10=>?_
   have h10:=h9.drawn hd10
   (repeat (first|(refine mop_c ?_ ?_;first|exact trivial|omega)|(refine dp_c ?_ ?_;first|exact trivial|omega)))
   refine⟨⟨k+1,by omega,by omega,rfl,?_⟩,by simp[intOf];omega⟩
   rw[wk_set bl k (by omega)]at h10
   ·exact h10
   ·rw[wl_new,if_neg (by omega)]
    rfl
  ·obtain rfl:k=64:=by omega
   have hw:wk bl 64=wl bl 64:=by simp[wk]
   have hWl:(wl bl 64).length=64:=wl_len bl 64
   have hcomp:compress (s8 hs) bl=(s8 hs).add (rl (wl bl 64) 64 (s8 hs)):=rfl
   rw[hw]at h3
   rw[hcomp]
   clear hw hcomp
   generalize wl bl 64=W at h3 hWl ⊢
   (repeat (first|(refine mop_c ?_ ?_;first|exact trivial|omega)|(refine dp_c ?_ ?_;first|exact trivial|omega)))
   refine dq_ld ((h3.cell 1 rfl 0).trans (st_h hh 0 (by omega))) rfl ?_
   (repeat (first|(refine mop_c ?_ ?_;first|exact trivial|omega)|(refine dp_c ?_ ?_;first|exact trivial|omega)))
   refine dq_ld ((h3.cell 1 rfl 1).trans (st_h hh 1 (by omega))) rfl ?_
   (repeat (first|(refine mop_c ?_ ?_;first|exact trivial|omega)|(refine dp_c ?_ ?_;first|exact trivial|omega)))
   refine dq_ld ((h3.cell 1 rfl 2).trans (st_h hh 2 (by omega))) rfl ?_
   (repeat (first|(refine mop_c ?_ ?_;first|exact trivial|omega)|(refine dp_c ?_ ?_;first|exact trivial|omega)))
   refine dq_ld ((h3.cell 1 rfl 3).trans (st_h hh 3 (by omega))) rfl ?_
   (repeat (first|(refine mop_c ?_ ?_;first|exact trivial|omega)|(refine dp_c ?_ ?_;first|exact trivial|omega)))
   refine dq_ld ((h3.cell 1 rfl 4).trans (st_h hh 4 (by omega))) rfl ?_
   (repeat (first|(refine mop_c ?_ ?_;first|exact trivial|omega)|(refine dp_c ?_ ?_;first|exact trivial|omega)))
   refine dq_ld ((h3.cell 1 rfl 5).trans (st_h hh 5 (by omega))) rfl ?_
   (repeat (first|(refine mop_c ?_ ?_;first|exact trivial|omega)|(refine dp_c ?_ ?_;first|exact trivial|omega)))
   refine dq_ld ((h3.cell 1 rfl 6).trans (st_h hh 6 (by omega))) rfl ?_
   (repeat (first|(refine mop_c ?_ ?_;first|exact trivial|omega)|(refine dp_c ?_ ?_;first|exact trivial|omega)))
   refine dq_ld ((h3.cell 1 rfl 7).trans (st_h hh 7 (by omega))) rfl ?_
   refine dend_intro fun w4 hd=>?_
   have h4:=h3.drawn hd
   clear h3
   have hok:(s8 hs).Ok:=⟨getD_wd _ _ hhw,getD_wd _ _ hhw,getD_wd _ _ hhw,getD_wd _ _ hhw,getD_wd _ _ hhw,getD_wd _ _ hhw,getD_wd _ _ hhw,getD_wd _ _ hhw⟩
   refine⟨fun xa xb xc xd xe xf xg xh x w2=>∃ i:Nat,i≤64∧x=.int .i64 i∧xa=.int .u32 (rl W i (s8 hs)).a∧xb=.int .u32 (rl W i (s8 hs)).b∧xc=.int .u32 (rl W i (s8 hs)).c∧xd=.int .u32 (rl W i (s8 hs)).d ∧
     xe=.int .u32 (rl W i (s8 hs)).e∧xf=.int .u32 (rl W i (s8 hs)).f∧xg=.int .u32 (rl W i (s8 hs)).g∧xh=.int .u32 (rl W i (s8 hs)).h ∧
     St w [⟨g,160,u32s W,true⟩,⟨b,170,stCells hs bl n,false⟩] w2,fun _ _ _ _ _ _ _ _ x _=>64 - (intOf x).toNat,⟨0,by omega,rfl,rfl,rfl,rfl,rfl,rfl,rfl,rfl,rfl,h4⟩,?_⟩
   clear h4 hd
   rintro xa xb xc xd xe xf xg xh x u3 w5 ⟨i,hi,rfl,rfl,rfl,rfl,rfl,rfl,rfl,rfl,rfl,h5⟩
   have hr:=rl_ok W hok i
   have hrs:rl W (i+1) (s8 hs)=(rl W i (s8 hs)).rnd (kl.getD i 0) (W.getD i 0):=rfl
   obtain⟨s',hs'⟩:∃ s',s'=rl W (i+1) (s8 hs):=⟨_,rfl⟩
   obtain⟨s,hs64⟩:∃ s,rl W i (s8 hs)=s:=⟨_,rfl⟩
   rw[← hs']at hrs
   rw[hs64]at hr hrs
   rw[hs64]
   refine mop_c trivial ?_
   refine mif_dec (fun hlt=>?_) (fun hge=>?_)
   ·refine df_eq (fun w=>rot_k _ (-6) 6 w hr.e (by decide) (by decide)) fun w6 hd6=>?_
    refine df_eq (fun w=>rot_k _ (-11) 11 w hr.e (by decide) (by decide)) fun w7 hd7=>?_
    (repeat (first|(refine mop_c ?_ ?_;first|exact trivial|omega)|(refine dp_c ?_ ?_;first|exact trivial|omega)))
    refine df_eq (fun w=>rot_k _ (-25) 25 w hr.e (by decide) (by decide)) fun w8 hd8=>?_
    (repeat (first|(refine mop_c ?_ ?_;first|exact trivial|omega)|(refine dp_c ?_ ?_;first|exact trivial|omega)))
    refine dq_ld ((h5.cell 1 rfl (73+i)).trans (st_k hh hbl i (by omega))) (by omega) ?_
    (repeat (first|(refine mop_c ?_ ?_;first|exact trivial|omega)|(refine dp_c ?_ ?_;first|exact trivial|omega)))
    refine dq_ld ((h5.cell 0 rfl i).trans (u32s_at W i (by omega))) (by omega) ?_
    (repeat (first|(refine mop_c ?_ ?_;first|exact trivial|omega)|(refine dp_c ?_ ?_;first|exact trivial|omega)))
    refine dend_intro fun w9 hd9=>?_
    have h9:=h5.drawn (((hd6.trans hd7).trans hd8).trans hd9)
    refine mop_eq (rot_k _ (-2) 2 _ hr.a (by decide) (by decide)) ?_
    refine mop_eq (rot_k _ (-13) 13 _ hr.a (by decide) (by decide)) ?_
    (repeat (first|(refine mop_c ?_ ?_;first|exact trivial|omega)|(refine dp_c ?_ ?_;first|exact trivial|omega)))
    refine mop_eq (rot_k _ (-22) 22 _ hr.a (by decide) (by decide)) ?_
    (repeat (first|(refine mop_c ?_ ?_;first|exact trivial|omega)|(refine dp_c ?_ ?_;first|exact trivial|omega)))
    refine⟨⟨i+1,by omega,rfl,?_,?_,?_,?_,?_,?_,?_,?_,h9⟩,by simp[intOf];omega⟩
    all_goals (rw[← hs',hrs];rfl)
   ·obtain rfl:i=64:=by omega
    refine mop_pur (build8 _ _ _ _ _ _ _ _) ?_
    have hrs:rl W 64 (s8 hs)=s:=hs64
    refine⟨fun x w2=>∃ i:Nat,i≤8∧x=.int .i64 i∧St w [⟨b,170,stCells (addK hs s.list i) bl n,false⟩,⟨g,160,u32s W,true⟩] w2,fun x _=>8 - (intOf x).toNat,⟨0,by omega,rfl,h5.swap⟩,?_⟩
    clear h5
    rintro x u4 w6 ⟨i,hi,rfl,h6⟩
    refine mop_c trivial ?_
    refine mif_dec (fun hlt=>?_) (fun hge=>?_)
    ·refine mop_pur (p_index_array _ 159 8 _ _ _ (.int .u32 (s.list.getD i 0)) (by kernel_rfl) (by kernel_rfl) (by omega) (by omega) ?_) ?_
     ·have:=u32s_at s.list i (by simp[S8.list];omega)
      have e:((i:Nat):Int).toNat=i:=by omega
      rw[e,List.getElem?_toArray]
      exact this
     have hal:=addK_len hs s.list i
     (repeat (first|(refine mop_c ?_ ?_;first|exact trivial|omega)|(refine dp_c ?_ ?_;first|exact trivial|omega)))
     refine dq_ld ((h6.cell 0 rfl i).trans (st_h (by omega) i (by omega))) (by omega) ?_
     (repeat (first|(refine mop_c ?_ ?_;first|exact trivial|omega)|(refine dp_c ?_ ?_;first|exact trivial|omega)))
     refine df_st (j:=i) h6 (by omega) (by rw[st_len (by omega) hbl];omega) rfl (fun w7 h7=>?_)
     refine dend_intro fun w8 hd8=>?_
     have h8:=h7.drawn hd8
     (repeat (first|(refine mop_c ?_ ?_;first|exact trivial|omega)|(refine dp_c ?_ ?_;first|exact trivial|omega)))
     refine⟨⟨i+1,by omega,rfl,?_⟩,by simp[intOf];omega⟩
     rw[st_set_h (by omega) i (by omega),addK_at hs s.list i i (Nat.le_refl i)]at h8
     exact h8
    ·obtain rfl:i=8:=by omega
     refine⟨rfl,?_⟩
     rw[hrs,← addK_end hs s hh]
     exact h6.swap.drop
end Go.Proofs.YtpjodlnlmaaihaaGreat
namespace Go.Proofs.YtpjodlnlmaaihaaGreat
open Go.RowKit
def feedAll (x:S8 × List Int) (bs:List Int):S8 × List Int:=bs.foldl feed x
theorem feedAll_append (x:S8 × List Int) (a b:List Int):feedAll x (a++b)=feedAll (feedAll x a) b:=by simp[feedAll]
theorem feedAll_short (s:S8):∀ (bs p:List Int),p.length+bs.length<64→feedAll (s,p) bs=(s,p++bs)
 | [],p,_=>by simp[feedAll]
 | b::bs,p,h=>by
  have h1:feed (s,p) b=(s,p++[b]):=by
   unfold feed
   rw[if_neg (by simp at h ⊢;omega)]
  show feedAll (feed (s,p) b) bs=_
  rw[h1,feedAll_short s bs (p++[b]) (by simp at h ⊢;omega)]
  simp
theorem feedAll_full (s:S8) (bs p:List Int) (hb:0<bs.length) (h:p.length+bs.length=64):feedAll (s,p) bs=(compress s (p++bs),[]):=by
 obtain⟨cs,c,rfl⟩:∃ cs c,bs=cs++[c]:=⟨bs.dropLast,bs.getLast (by intro e;simp[e]at hb),(List.dropLast_concat_getLast _).symm⟩
 rw[feedAll_append,feedAll_short s cs p (by simp at h;omega)]
 show feed (s,p++cs) c=_
 unfold feed
 rw[if_pos (by simp at h ⊢;omega)]
 simp
theorem compress_ok {s:S8} (bs:List Int):(compress s bs).Ok:=⟨wd_mod _,wd_mod _,wd_mod _,wd_mod _,wd_mod _,wd_mod _,wd_mod _,wd_mod _⟩
structure Dig (x:S8 × List Int) (n:Nat) (bl:List Int):Prop where
 ok:x.1.Ok
 len:bl.length=64
 by_:∀ c∈bl,0≤c∧c<256
 pend:x.2.length=n%64
 has:bl.take x.2.length=x.2
theorem s8_list (s:S8):s8 s.list=s:=rfl
theorem list_wd {s:S8} (h:s.Ok):∀ x∈s.list,Wd x:=by
 intro x hx
 simp only[S8.list,List.mem_cons,List.not_mem_nil,or_false]at hx
 rcases hx with rfl|rfl|rfl|rfl|rfl|rfl|rfl|rfl
 ·exact h.a
 ·exact h.b
 ·exact h.c
 ·exact h.d
 ·exact h.e
 ·exact h.f
 ·exact h.g
 ·exact h.h
def blCopy (bl bs:List Int) (i:Nat):List Int:=bl.take i++bs++bl.drop (i+bs.length)
theorem st_lay (hs bl bs:List Int) (n:Int) (i:Nat) (hh:hs.length=8) (hb:bl.length=64) (hi:i+bs.length≤64):lay (stCells hs bl n) (u8s bs) (8+i)=stCells hs (blCopy bl bs i) n:=by
 have e8:(u32s hs).length=8:=by simp[u32s,hh]
 have ebs:(u8s bs).length=bs.length:=by simp[u8s]
 unfold lay stCells
 rw[List.take_append,List.take_of_length_le (by omega),List.drop_append,List.drop_eq_nil_of_le (by omega),e8,ebs]
 rw[show 8+i - 8=i by omega,show 8+i+bs.length - 8=i+bs.length by omega]
 rw[List.take_append_of_le_length (by simp[u8s];omega),List.drop_append_of_le_length (by simp[u8s];omega)]
 simp[u8s,blCopy]
theorem put_step {x:S8 × List Int} {n:Nat} {bl bs:List Int} (h:Dig x n bl) (hbs:∀ c∈bs,0≤c∧c<256) (hl:n%64+bs.length≤64) (h0:0<bs.length):
  let bl':=blCopy bl bs (n%64)
  (∀ c∈bl',0≤c∧c<256)∧bl'.length=64∧(n%64+bs.length<64→Dig (feedAll x bs) (n+bs.length) bl'∧(feedAll x bs).1=x.1)∧(n%64+bs.length=64→(feedAll x bs).1=compress x.1 bl'∧Dig (feedAll x bs) (n+bs.length) bl'):=by
 obtain⟨s,p⟩:=x
 obtain⟨hok,hlen,hby,hp,hhas⟩:=h
 simp only[]at hp hhas hok
 have hpn:p.length≤64:=by omega
 have hb1:∀ c∈blCopy bl bs (n%64),0≤c∧c<256:=fun c hc=>by
  simp only[blCopy,List.mem_append]at hc
  rcases hc with (hc|hc)|hc
  ·exact hby c (List.mem_of_mem_take hc)
  ·exact hbs c hc
  ·exact hby c (List.mem_of_mem_drop hc)
 have hb2:(blCopy bl bs (n%64)).length=64:=by simp[blCopy,hlen];omega
 have hpre:(blCopy bl bs (n%64)).take (p.length+bs.length)=p++bs:=by
  unfold blCopy
  rw[hp]at hhas
  rw[hhas,hp,List.take_append_of_le_length (by simp[hp]),List.take_of_length_le (by simp[hp])]
 refine⟨hb1,hb2,fun hlt=>?_,fun heq=>?_⟩
 ·have e:=feedAll_short s bs p (by omega)
  rw[e]
  exact⟨⟨hok,hb2,hb1,by simp[hp];omega,by simpa using hpre⟩,rfl⟩
 ·have e:=feedAll_full s bs p h0 (by omega)
  rw[e]
  have hall:blCopy bl bs (n%64)=p++bs:=by
   rw[← hpre,List.take_of_length_le (by omega)]
  refine⟨by rw[hall],compress_ok _,hb2,hb1,?_,rfl⟩
  simp
  omega
def strLen:Value→Nat
 | .string s=>s.size
 | _=>0
theorem ints_extract (s:ByteArray) (i j:Nat):ints (s.extract i j)=((ints s).take j).drop i:=by
 simp[ints,List.map_drop,List.map_take]
 rw[List.drop_take]
theorem extract_extract (s:ByteArray) (k m:Nat) (h:k+m≤s.size):(s.extract k s.size).extract m (s.size - k)=s.extract (k+m) s.size:=by
 rw[← str_ints ((s.extract k s.size).extract m (s.size - k)),← str_ints (s.extract (k+m) s.size),ints_extract,ints_extract,ints_extract]
 congr 1
 have hl:=ints_length s
 have e:(ints s).take s.size=ints s:=List.take_of_length_le (by omega)
 rw[e,List.take_of_length_le (by rw[List.length_drop];omega),List.drop_drop]
set_option maxRecDepth 100000 in
theorem put_ok (b:Nat) (x:S8 × List Int) (n:Nat) (bl:List Int) (t:ByteArray) (w:World) (hb:Blf w b 170 (stCells x.1.list bl n)) (hd:Dig x n bl) (hn:n+t.size<9223372036854775808):
  Calls Tryz.prog 112 #[.pointer (some ⟨b,0,none⟩),.string t] w fun e w'=>e=.returned (.tuple #[])∧∃ bl',Dig (feedAll x (ints t)) (n+t.size) bl'∧St w [⟨b,170,stCells (feedAll x (ints t)).1.list bl' ((n+t.size:Nat):Int),false⟩] w':=by
 refine C_sha_state_put ?_
 unfold F_sha_state_put
 refine⟨fun v w2=>∃ (k:Nat) (bl':List Int),k≤t.size∧v=.string (t.extract k t.size)∧Dig (feedAll x ((ints t).take k)) (n+k) bl'∧St w [⟨b,170,stCells (feedAll x ((ints t).take k)).1.list bl' ((n+k:Nat):Int),false⟩] w2,fun v _=>strLen v,⟨0,bl,by omega,by simp,by simpa [feedAll] using hd,by simp[feedAll];exact St.oneF hb⟩,?_⟩
 rintro v u w1 ⟨k,bl',hk,rfl,hd1,h1⟩
 have hsz:(t.extract k t.size).size=t.size - k:=by simp
 refine mop_c trivial ?_
 rw[hsz]
 refine mop_c trivial ?_
 refine mif_dec (fun hlt=>?_) (fun hge=>?_)
 ·have hll:0<t.size - k:=by omega
  (repeat (first|(refine mop_c ?_ ?_;first|exact trivial|omega)|(refine dp_c ?_ ?_;first|exact trivial|omega)))
  have hlist:(feedAll x ((ints t).take k)).1.list.length=8:=rfl
  refine dq_ld ((h1.cell 0 rfl 72).trans (st_n hlist hd1.len)) rfl ?_
  (repeat (first|(refine mop_c ?_ ?_;first|exact trivial|omega)|(refine dp_c ?_ ?_;first|exact trivial|omega)))
  refine df_mop fun w2 hd2=>?_
  have hi:((((n+k:Nat):Int))%64).toNat=(n+k)%64:=by omega
  rw[hi]
  obtain⟨w3,hr,h3⟩:=run_copy_string (P:=Tryz.prog) (o:=0+8+(n+k)%64) (m:=64 - (n+k)%64) (c:=64 - (n+k)%64) (s:=t.extract k t.size) (dT:=99) (sT:=9) (ty:=3) (e:=5) (ks:=[false,false]) (h1.drawn hd2) (by kernel_rfl) (by kernel_rfl) (by rw[st_len hlist hd1.len];omega)
  refine mop_run hr ⟨(fun e=>by cases e),?_⟩
  have hm:min (t.extract k t.size).size (64 - (n+k)%64)=min (t.size - k) (64 - (n+k)%64):=by rw[hsz]
  rw[hm]at h3 ⊢
  obtain⟨m,hmm⟩:∃ m,m=min (t.size - k) (64 - (n+k)%64):=⟨_,rfl⟩
  rw[← hmm]at h3 ⊢
  have hbl:((ints (t.extract k t.size)).take m).length=m:=by rw[List.length_take,ints_length,hsz];omega
  have hbr:∀ c∈(ints (t.extract k t.size)).take m,0≤c∧c<256:=fun c hc=>ints_range _ c (List.mem_of_mem_take hc)
  rw[show 0+8+(n+k)%64=8+(n+k)%64 by omega,st_lay _ _ _ _ _ hlist hd1.len (by rw[hbl];omega)]at h3
  have hstep:=put_step hd1 hbr (by rw[hbl];omega) (by rw[hbl];omega)
  have hfeed:feedAll (feedAll x ((ints t).take k)) ((ints (t.extract k t.size)).take m)=feedAll x ((ints t).take (k+m)):=by
   have e:(ints t).take t.size=ints t:=List.take_of_length_le (by rw[ints_length];omega)
   rw[← feedAll_append,ints_extract,e,← List.take_add]
  rw[hfeed,hbl]at hstep
  have hext:=extract_extract t k m (by omega)
  generalize blCopy bl' ((ints (t.extract k t.size)).take m) ((n+k)%64)=bl2 at h3 hstep
  obtain⟨hby2,hlen2,hs1,hs2⟩:=hstep
  refine dend_intro fun w4 hd4=>?_
  have h4:=h3.drawn hd4
  clear h1 h3 hr hfeed
  refine mop_c (by rw[hsz];omega) ?_
  rw[hsz,Int.toNat_natCast,hext]
  (repeat (first|(refine mop_c ?_ ?_;first|exact trivial|omega)|(refine dp_c ?_ ?_;first|exact trivial|omega)))
  refine mop_ld ((h4.cell 0 rfl 72).trans (st_n hlist hlen2)) rfl ?_
  (repeat (first|(refine mop_c ?_ ?_;first|exact trivial|omega)|(refine dp_c ?_ ?_;first|exact trivial|omega)))
  refine mop_st (j:=72) h4 rfl (by rw[st_len hlist hlen2];omega) rfl (fun w5 h5=>?_)
  rw[st_set_n hlist hlen2]at h5
  (repeat (first|(refine mop_c ?_ ?_;first|exact trivial|omega)|(refine dp_c ?_ ?_;first|exact trivial|omega)))
  refine mop_ld ((h5.cell 0 rfl 72).trans (st_n hlist hlen2)) rfl ?_
  (repeat (first|(refine mop_c ?_ ?_;first|exact trivial|omega)|(refine dp_c ?_ ?_;first|exact trivial|omega)))
  have hsz2:(t.extract (k+m) t.size).size=t.size - (k+m):=by simp
  have hnk:((n+k:Nat):Int)+(m:Int)=((n+(k+m):Nat):Int):=by omega
  rw[hnk]at h5 ⊢
  refine mif_dec (fun hz=>?_) (fun hnz=>?_)
  ·obtain⟨hs3,hs4⟩:=hs2 (by omega)
   refine mop_to (turn_ok b _ bl2 _ w5 h5.head hlist hlen2 hby2 (list_wd hd1.ok)) ?_
   rintro e w6 ⟨rfl,h6⟩
   have h7:=h5.call1 h6
   rw[s8_list,← hs3]at h7
   exact⟨⟨k+m,bl2,by omega,rfl,by rw[← Nat.add_assoc];exact hs4,h7⟩,by simp only[strLen,hsz,hsz2];omega⟩
  ·obtain⟨hs3,hs4⟩:=hs1 (by omega)
   rw[← hs4]at h5
   exact⟨⟨k+m,bl2,by omega,rfl,by rw[← Nat.add_assoc];exact hs3,h5⟩,by simp only[strLen,hsz,hsz2];omega⟩
 ·obtain rfl:k=t.size:=by omega
  have e:(ints t).take t.size=ints t:=List.take_of_length_le (by rw[ints_length];omega)
  rw[e]at hd1 h1
  exact⟨rfl,bl',hd1,h1⟩
end Go.Proofs.YtpjodlnlmaaihaaGreat
namespace Go.Proofs.YtpjodlnlmaaihaaGreat
open Go.RowKit
def lenB (n:Nat) (i:Nat):Int:=((n:Int)%18446744073709551616*8%18446744073709551616) / 2 ^ (56 - 8*(i:Int)).toNat%256
def padding (n:Nat):List Int:=(128::List.replicate (63 - (n+8)%64) 0)++(List.range 8).map (lenB n)
def outAt (l:List Int) (i:Nat):Int:=l.getD (i / 4) 0 / 2 ^ (24 - 8*(i%4))%256
def outB (s:S8):List Int:=(List.range 32).map (outAt s.list)
def shaSum (bs:List Int):List Int:=outB (feedAll (h0,[]) (bs++padding bs.length)).1
theorem shaSum_length (bs:List Int):(shaSum bs).length=32:=by simp[shaSum,outB]
theorem outB_range (s:S8):∀ x∈outB s,0≤x∧x<256:=by
 intro x hx
 obtain⟨i,_,rfl⟩:=List.mem_map.1 hx
 unfold outAt
 omega
theorem shaSum_range (bs:List Int):∀ x∈shaSum bs,0≤x∧x<256:=outB_range _
def fill (f:Nat→Int) (n i:Nat):List Int:=(List.range i).map f++List.replicate (n - i) 0
theorem fill_length (f:Nat→Int) (n i:Nat) (h:i≤n):(fill f n i).length=n:=by simp[fill];omega
theorem fill_set (f:Nat→Int) (n i:Nat) (h:i<n):(fill f n i).set i (f i)=fill f n (i+1):=by
 unfold fill
 rw[List.set_append,if_neg (by simp),List.length_map,List.length_range,Nat.sub_self,List.range_succ,List.map_append,List.append_assoc]
 congr 1
 rw[show n - i=(n - (i+1))+1 by omega,List.replicate_succ]
 rfl
theorem set_u8s (l:List Int) (i:Nat) (v:Int):(u8s l).set i (.int .u8 v)=u8s (l.set i v):=by simp[u8s,List.map_set]
theorem u8s_length (l:List Int):(u8s l).length=l.length:=by simp[u8s]
def hv (l:List Int):Value:=.agg (u8s l).toArray
theorem cells_of_row {w:World} {b:Nat} {t:TypeId} {cs:List Value} (h:Blf w b t cs):∀ k v,cs[k]?=some v→w.cell? ⟨b,0+k,none⟩=some v:=fun k v hk=>by
 rw[Nat.zero_add,h.cell];exact hk
theorem lay_all (cs vs:List Value) (h:vs.length=cs.length):lay cs vs 0=vs:=by
 unfold lay
 rw[List.take_zero,List.nil_append,List.drop_eq_nil_of_le (by omega),List.append_nil]
set_option maxRecDepth 100000 in
theorem rounds_ok (w:World):Calls Tryz.prog 111 #[] w fun e w'=>e=.returned (.agg (u32s kl).toArray)∧St w [] w':=by
 refine C_sha_rounds ?_
 unfold F_sha_rounds
 refine mop_new (St.nil w) (fun g w1 h1=>?_)
 refine mop_pur (v:=.agg (u32s kl).toArray) (fun w=>by kernel_rfl) ?_
 refine mop_storeN (q:=true) (k:=64) (by kernel_rfl) h1 rfl (by intro u hu;obtain⟨x,_,rfl⟩:=List.mem_map.1 (show u∈kl.map (Value.int .u32) from hu);rfl) (by simp) (fun w2 h2=>?_)
 have e:lay (List.replicate 64 (Value.int .u32 0)) (Value.agg (u32s kl).toArray).cells.toList 0=u32s kl:=lay_all _ _ rfl
 rw[e]at h2
 refine rcell_ldN (cells_of_row h2.head) rfl ?_
 exact⟨rfl,h2.drop⟩
def cat (ss:List ByteArray):List Int:=(ss.map ints).flatten
theorem cat_take (ss:List ByteArray) (k:Nat) (h:k<ss.length):cat (ss.take (k+1))=cat (ss.take k)++ints ss[k]:=by
 unfold cat
 rw[List.take_succ_eq_append_getElem h,List.map_append,List.flatten_append]
 simp only[List.map_cons,List.map_nil,List.flatten_cons,List.flatten_nil,List.append_nil]
theorem cat_append (a b:List ByteArray):cat (a++b)=cat a++cat b:=by simp only[cat,List.map_append,List.flatten_append]
theorem cat_le (ss:List ByteArray) (k:Nat):(cat (ss.take k)).length≤(cat ss).length:=by
 conv=>rhs;rw[← List.take_append_drop k ss,cat_append,List.length_append]
 omega
theorem lenB_range (n i:Nat):0≤lenB n i∧lenB n i<256:=by unfold lenB;omega
theorem padding_range (n:Nat):∀ x∈padding n,0≤x∧x<256:=by
 intro x hx
 simp only[padding,List.mem_append,List.mem_cons,List.mem_replicate,List.mem_map]at hx
 rcases hx with (rfl|⟨_,rfl⟩)|⟨i,_,rfl⟩
 ·omega
 ·omega
 ·exact lenB_range n i
theorem dig0:Dig (h0,[]) 0 (List.replicate 64 0):=by
 refine⟨⟨?_,?_,?_,?_,?_,?_,?_,?_⟩,by simp,?_,rfl,by simp⟩
 all_goals first
  | (constructor <;> decide)
  | (intro c hc;rw[List.eq_of_mem_replicate hc];omega)
def tailK (n z i:Nat):List Int:=(128::List.replicate z 0)++fill (lenB n) (71 - z) i
theorem tailK_length (n z i:Nat) (hz:z≤63) (hi:i≤8):(tailK n z i).length=72:=by
 simp[tailK,fill_length (lenB n) (71 - z) i (by omega)];omega
theorem tailK_set (n z i:Nat) (hz:z≤63) (hi:i<8):(tailK n z i).set (z+1+i) (lenB n i)=tailK n z (i+1):=by
 unfold tailK
 rw[List.set_append,if_neg (by simp),List.length_cons,List.length_replicate,show z+1+i - (z+1)=i by omega,fill_set _ _ _ (by omega)]
theorem tailK_zero (n z:Nat) (hz:z≤63):(List.replicate 72 (0:Int)).set 0 128=tailK n z 0:=by
 unfold tailK fill
 rw[show 72=(z+(71 - z))+1 by omega,List.replicate_succ,List.set_cons_zero,← List.replicate_append_replicate]
 simp
theorem tailK_end (n:Nat):(tailK n (63 - (n+8)%64) 8).take (63 - (n+8)%64+9)=padding n:=by
 unfold tailK fill padding
 rw[← List.append_assoc,List.take_append_of_le_length (by simp),List.take_of_length_le (by simp)]
set_option maxRecDepth 100000 in
set_option maxHeartbeats 1000000 in
theorem sum_ok (A:Option Addr) (ss:List ByteArray) (c:Nat) (w:World) (hr:Rd w A (ss.map .string)) (hss:ss.length<9223372036854775807) (hsz:(cat ss).length<4611686018427387904):
  Calls Tryz.prog 80 #[.slice A ss.length c] w fun e w'=>e=.returned (hv (shaSum (cat ss)))∧St w [] w':=by
 refine C_sha_Sum ?_
 unfold F_sha_Sum
 refine mop_new (St.nil w) (fun go w1 h1=>?_)
 refine mop_pur (build8 _ _ _ _ _ _ _ _) ?_
 refine mop_to (rounds_ok w1) ?_
 rintro e w2 ⟨rfl,h2⟩
 have h2:=h1.call0 h2
 refine mop_pur (v:=.agg (stCells h0.list (List.replicate 64 0) 0).toArray) (fun w=>by kernel_rfl) ?_
 refine mop_box h2 (fun b w3 h3=>?_)
 have h3:St w [⟨b,170,stCells h0.list (List.replicate 64 0) 0,true⟩,⟨go,34,u8s (List.replicate 32 0),true⟩] w3:=h3
 clear h1 h2
 refine mop_c trivial ?_
 refine⟨fun v w2=>∃ (k:Nat) (bl:List Int),k≤ss.length∧v=.int .i64 k∧Dig (feedAll (h0,[]) (cat (ss.take k))) (cat (ss.take k)).length bl ∧
   St w [⟨b,170,stCells (feedAll (h0,[]) (cat (ss.take k))).1.list bl ((cat (ss.take k)).length:Int),true⟩,⟨go,34,u8s (List.replicate 32 0),true⟩] w2,fun v _=>ss.length - (intOf v).toNat,⟨0,_,by omega,rfl,dig0,h3⟩,?_⟩
 clear h3
 rintro v u w4 ⟨k,bl,hk,rfl,hd,h4⟩
 refine mop_c trivial ?_
 refine mif_dec (fun hlt=>?_) (fun hge=>?_)
 ·have hk':k<ss.length:=by omega
  have x0:(ss.map Value.string)[k]?=some (.string ss[k]):=by simp[hk']
  obtain⟨ab,ao,rfl,hab,hc⟩:=hr.at_ x0
  (repeat (first|(refine mop_c ?_ ?_;first|exact trivial|omega)|(refine dp_c ?_ ?_;first|exact trivial|omega)))
  refine mop_ld (j:=ao+k) ((h4.old (p:=⟨ab,ao+k,none⟩) hab (by intro q hq hn;simp at hq;rcases hq with rfl|rfl <;> cases hn)).trans (hc k _ x0)) (by omega) ?_
  have hcl:=cat_le ss (k+1)
  rw[cat_take ss k hk',List.length_append,ints_length]at hcl
  refine mop_to (put_ok b _ _ bl ss[k] w4 h4.head hd (by omega)) ?_
  rintro e w5 ⟨rfl,bl',hd5,h5⟩
  have h6:=h4.call1 h5
  (repeat (first|(refine mop_c ?_ ?_;first|exact trivial|omega)|(refine dp_c ?_ ?_;first|exact trivial|omega)))
  rw[← feedAll_append,← ints_length,← List.length_append,← cat_take ss k hk']at hd5 h6
  exact⟨⟨k+1,bl',hk',rfl,hd5,h6⟩,by simp[intOf];omega⟩
 ·obtain rfl:k=ss.length:=by omega
  rw[List.take_length]at hd h4
  obtain⟨n,hn⟩:∃ n,n=(cat ss).length:=⟨_,rfl⟩
  have hsum:shaSum (cat ss)=outB (feedAll (feedAll (h0,[]) (cat ss)) (padding n)).1:=by rw[shaSum,feedAll_append,hn]
  rw[hsum]
  rw[← hn]at hd h4 hsz
  generalize feedAll (h0,[]) (cat ss)=x at hd h4
  have hl8:x.1.list.length=8:=rfl
  refine mop_new h4 (fun gt w5 h5=>?_)
  (repeat (first|(refine mop_c ?_ ?_;first|exact trivial|omega)|(refine dp_c ?_ ?_;first|exact trivial|omega)))
  refine mop_st (j:=0) h5 rfl (by simp) rfl (fun w6 h6=>?_)
  (repeat (first|(refine mop_c ?_ ?_;first|exact trivial|omega)|(refine dp_c ?_ ?_;first|exact trivial|omega)))
  refine mop_ld ((h6.cell 1 rfl 72).trans (st_n hl8 hd.len)) rfl ?_
  (repeat (first|(refine mop_c ?_ ?_;first|exact trivial|omega)|(refine dp_c ?_ ?_;first|exact trivial|omega)))
  have hz:(64:Int) - ((n:Int)+8)%64=((63 - (n+8)%64+1:Nat):Int):=by omega
  rw[hz]
  have h6:St w [⟨gt,172,u8s (tailK n (63 - (n+8)%64) 0),true⟩,⟨b,170,stCells x.1.list bl (n:Int),true⟩,⟨go,34,u8s (List.replicate 32 0),true⟩] w6:=by
   rw[← tailK_zero n (63 - (n+8)%64) (by omega),← set_u8s]
   exact h6
  have hend:=tailK_end n
  obtain⟨z,hzz⟩:∃ z,z=63 - (n+8)%64:=⟨_,rfl⟩
  rw[← hzz]at h6 hend ⊢
  have hz63:z≤63:=by omega
  clear hz hzz
  refine⟨fun v w2=>∃ i:Nat,i≤8∧v=.int .i64 i∧St w [⟨gt,172,u8s (tailK n z i),true⟩,⟨b,170,stCells x.1.list bl (n:Int),true⟩,⟨go,34,u8s (List.replicate 32 0),true⟩] w2,fun v _=>8 - (intOf v).toNat,⟨0,by omega,rfl,h6⟩,?_⟩
  clear h4 h5 h6
  rintro v u2 w7 ⟨i,hi,rfl,h7⟩
  refine mop_c trivial ?_
  refine mif_dec (fun hlt=>?_) (fun hge=>?_)
  ·(repeat (first|(refine mop_c ?_ ?_;first|exact trivial|omega)|(refine dp_c ?_ ?_;first|exact trivial|omega)))
   refine mop_ld ((h7.cell 1 rfl 72).trans (st_n hl8 hd.len)) rfl ?_
   (repeat (first|(refine mop_c ?_ ?_;first|exact trivial|omega)|(refine dp_c ?_ ?_;first|exact trivial|omega)))
   refine mop_st (j:=z+1+i) h7 (by omega) (by rw[u8s_length,tailK_length n z i hz63 (by omega)];omega) rfl (fun w8 h8=>?_)
   have h8:St w [⟨gt,172,u8s (tailK n z (i+1)),true⟩,⟨b,170,stCells x.1.list bl (n:Int),true⟩,⟨go,34,u8s (List.replicate 32 0),true⟩] w8:=by
    rw[← tailK_set n z i hz63 (by omega),← set_u8s]
    exact h8
   (repeat (first|(refine mop_c ?_ ?_;first|exact trivial|omega)|(refine dp_c ?_ ?_;first|exact trivial|omega)))
   exact⟨⟨i+1,by omega,rfl,h8⟩,by simp[intOf];omega⟩
  ·obtain rfl:i=8:=by omega
   (repeat (first|(refine mop_c ?_ ?_;first|exact trivial|omega)|(refine dp_c ?_ ?_;first|exact trivial|omega)))
   have hto:(((z+1:Nat):Int)+8).toNat=z+9:=by omega
   rw[hto]
   have htl:=tailK_length n z 8 hz63 (by omega)
   refine mop_purW (pw_conv_bytes 99 9 5 gt 0 (z+9) 72 (padding n) (by kernel_rfl) (by kernel_rfl) (by kernel_rfl) (by rw[← hend,List.length_take,htl];omega) (fun i hi=>?_)) ?_
   ·rw[h7.head.cell,← hend,Nat.zero_add,u8s_at _ _ (by omega)]
    congr 2
    simp[List.getD,hi]
   have hpl:(padding n).length=z+9:=by rw[← hend,List.length_take,htl];omega
   have hps:(strOfNums (padding n)).size=z+9:=by rw[← ints_length,ints_str _ (padding_range n),hpl]
   have h7:=h7.swap
   refine mop_to (put_ok b x n bl (strOfNums (padding n)) w7 h7.head hd (by omega)) ?_
   rintro e w8 ⟨rfl,bl',hd8,h8⟩
   rw[ints_str _ (padding_range n)]at hd8 h8
   have h9:=h7.call1 h8
   generalize feedAll x (padding n)=y at hd8 h9 ⊢
   clear h7 h8
   have hy8:y.1.list.length=8:=rfl
   refine mop_new h9 (fun gu w9 h10=>?_)
   refine⟨fun v w2=>∃ i:Nat,i≤32∧v=.int .i64 i∧∃ L,St w (⟨gu,34,u8s (fill (outAt y.1.list) 32 i),true⟩::⟨b,170,stCells y.1.list bl' ((n+(strOfNums (padding n)).size:Nat):Int),true⟩::⟨gt,172,L,true⟩::⟨go,34,u8s (List.replicate 32 0),true⟩::[]) w2,fun v _=>32 - (intOf v).toNat,⟨0,by omega,rfl,_,h10⟩,?_⟩
   clear h9 h10
   rintro v u3 w10 ⟨i,hi,rfl,L,h11⟩
   refine mop_c trivial ?_
   refine mif_dec (fun hlt=>?_) (fun hge=>?_)
   ·(repeat (first|(refine mop_c ?_ ?_;first|exact trivial|omega)|(refine dp_c ?_ ?_;first|exact trivial|omega)))
    have hq:(0+0+((i:Int) / 4).toNat)=0+i / 4:=by omega
    refine mop_ld ((h11.cell 1 rfl (i / 4)).trans (st_h hy8 (i / 4) (by omega))) (by omega) ?_
    (repeat (first|(refine mop_c ?_ ?_;first|exact trivial|omega)|(refine dp_c ?_ ?_;first|exact trivial|omega)))
    refine mop_st (j:=i) h11 (by omega) (by rw[u8s_length,fill_length _ _ _ hi];omega) rfl (fun w11 h12=>?_)
    have h12:St w (⟨gu,34,u8s (fill (outAt y.1.list) 32 (i+1)),true⟩::⟨b,170,stCells y.1.list bl' ((n+(strOfNums (padding n)).size:Nat):Int),true⟩::⟨gt,172,L,true⟩::⟨go,34,u8s (List.replicate 32 0),true⟩::[]) w11:=by
     rw[← fill_set _ _ _ (by omega),← set_u8s]
     have e:outAt y.1.list i=y.1.list.getD (i / 4) 0 / 2 ^ ((24:Int) - 8*((i:Int)%4)).toNat%256:=by
      unfold outAt
      congr 3
      omega
     rw[e]
     exact h12
    (repeat (first|(refine mop_c ?_ ?_;first|exact trivial|omega)|(refine dp_c ?_ ?_;first|exact trivial|omega)))
    exact⟨⟨i+1,by omega,rfl,L,h12⟩,by simp[intOf];omega⟩
   ·obtain rfl:i=32:=by omega
    have hf:fill (outAt y.1.list) 32 32=outB y.1:=by simp[fill,outB]
    rw[hf]at h11
    have hol:(u8s (outB y.1)).length=32:=by simp[outB,u8s]
    refine mop_ldN (cells_of_row h11.head) hol rfl ?_
    have h13:=h11.drop.drop.drop
    refine mop_storeN (q:=true) (k:=32) (by kernel_rfl) h13 (by simpa [Value.cells] using hol) (by intro u hu;exact u8s_one _ u hu) (by simp[u8s]) (fun w12 h14=>?_)
    have e:lay (u8s (List.replicate 32 0)) (Value.agg (u8s (outB y.1)).toArray).cells.toList 0=u8s (outB y.1):=lay_all _ _ (by show(u8s (outB y.1)).length=_;rw[hol];simp[u8s])
    rw[e]at h14
    refine rcell_ldN (cells_of_row h14.head) hol ?_
    exact⟨rfl,h14.drop⟩
end Go.Proofs.YtpjodlnlmaaihaaGreat
namespace Go.Proofs.YtpjodlnlmaaihaaGreat
open Go.RowKit
theorem word_ok (g o n c:Nat) (i:Nat) (a0 a1 a2 a3:Int) (w:World) (hn:i+4≤n) (hi:i<4611686018427387904)
  (h0:w.cell? ⟨g,o+i,none⟩=some (.int .u8 a0)) (h1:w.cell? ⟨g,o+(i+1),none⟩=some (.int .u8 a1)) (h2:w.cell? ⟨g,o+(i+2),none⟩=some (.int .u8 a2)) (h3:w.cell? ⟨g,o+(i+3),none⟩=some (.int .u8 a3))
  (b0:0≤a0∧a0<256) (b1:0≤a1∧a1<256) (b2:0≤a2∧a2<256) (b3:0≤a3∧a3<256):
  Calls Tryz.prog 104 #[.slice (some ⟨g,o,none⟩) n c,.int .i64 (i:Int)] w fun e w'=>e=.returned (.int .u32 (word4 a0 a1 a2 a3))∧Drawn w w':=by
 refine C_bevyref02_word ?_
 unfold F_bevyref02_word
 (repeat (first|(refine mop_c ?_ ?_;first|exact trivial|omega)|(refine dp_c ?_ ?_;first|exact trivial|omega)))
 refine dq_ld h0 (by omega) ?_
 (repeat (first|(refine mop_c ?_ ?_;first|exact trivial|omega)|(refine dp_c ?_ ?_;first|exact trivial|omega)))
 refine dq_ld h1 (by omega) ?_
 (repeat (first|(refine mop_c ?_ ?_;first|exact trivial|omega)|(refine dp_c ?_ ?_;first|exact trivial|omega)))
 refine dq_ld h2 (by omega) ?_
 (repeat (first|(refine mop_c ?_ ?_;first|exact trivial|omega)|(refine dp_c ?_ ?_;first|exact trivial|omega)))
 refine dq_ld h3 (by omega) ?_
 (repeat (first|(refine mop_c ?_ ?_;first|exact trivial|omega)|(refine dp_c ?_ ?_;first|exact trivial|omega)))
 refine dend_intro fun w1 hd=>?_
 exact⟨rfl,hd⟩
def blocks (M:List Int):Nat→S8
 | 0=>h0
 | j+1=>compress (blocks M j) ((M.drop (64*j)).take 64)
theorem blocks_feed (M:List Int):∀ j,64*j≤M.length→feedAll (h0,[]) (M.take (64*j))=(blocks M j,[])
 | 0,_=>rfl
 | j+1,h=>by
  rw[show 64*(j+1)=64*j+64 by omega,List.take_add,feedAll_append,blocks_feed M j (by omega)]
  rw[feedAll_full _ _ _ (by simp;omega) (by simp;omega)]
  rfl
theorem blocks_ok (M:List Int):∀ j,(blocks M j).Ok
 | 0=>dig0.ok
 | _+1=>compress_ok _
theorem block_at (M:List Int) (j i:Nat) (hi:i<64):((M.drop (64*j)).take 64).getD i 0=M.getD (64*j+i) 0:=by
 simp[List.getD,hi]
theorem buildb (v:Int) (w:World):(o_buildSlice 99 1 [(0,.int .u8 v)]).run Tryz.prog w=.ok (.value (.slice (some ⟨w.heap.size,0,none⟩) 1 1)) (w.alloc (.cells (Value.int .u8 v).cells.toList.toArray 5)):=by kernel_rfl
theorem row_at (M:List Int) (sp:List Value) (i:Nat) (h:i<M.length):(u8s M++sp)[i]?=some (.int .u8 (M.getD i 0)):=by
 rw[List.getElem?_append_left (by rw[u8s_length];exact h),u8s_at M i h]
def slen:Value→Nat
 | .slice _ n _=>n
 | _=>0
theorem u8s_append (a b:List Int):u8s (a++b)=u8s a++u8s b:=by simp[u8s]
theorem u32s_one (l:List Int):∀ u∈u32s l,u.oneCell'=true:=by
 intro u hu
 obtain⟨x,_,rfl⟩:=List.mem_map.1 hu
 rfl
theorem u32s_length (l:List Int):(u32s l).length=l.length:=by simp[u32s]
theorem set_u32s (l:List Int) (i:Nat) (v:Int):(u32s l).set i (.int .u32 v)=u32s (l.set i v):=by simp[u32s,List.map_set]
set_option maxRecDepth 100000 in
set_option maxHeartbeats 2000000 in
theorem refsum_ok (s:ByteArray) (w:World) (hsz:s.size<1099511627776):Calls Tryz.prog 64 #[.string s] w fun e w'=>e=.returned (hv (shaSum (ints s)))∧St w [] w':=by
 refine C_bevyref02_Sum ?_
 unfold F_bevyref02_Sum
 refine mop_new (St.nil w) (fun go w1 h1=>?_)
 refine mop_pur (v:=.agg (u32s kl).toArray) (fun w=>by kernel_rfl) ?_
 refine mop_new h1 (fun gk w2 h2=>?_)
 refine mop_storeN (q:=true) (k:=64) (by kernel_rfl) h2 rfl (u32s_one kl) (by simp) (fun w3 h3=>?_)
 have e1:lay (List.replicate 64 (Value.int .u32 0)) (Value.agg (u32s kl).toArray).cells.toList 0=u32s kl:=lay_all _ _ rfl
 rw[e1]at h3
 clear h1 h2
 obtain⟨A,cap,w4,hr4,h4⟩:=run_bytes_of_text (P:=Tryz.prog) 9 99 5 s (by kernel_rfl) (by kernel_rfl) (by kernel_rfl) (by unfold maxLen;omega) h3
 refine mop_run hr4 ?_
 refine mop_push h4 rfl (by intro u hu;cases hu with|head=>rfl|tail _ hu=>cases hu) (buildb _ _) (by unfold maxLen;omega) (by omega) (fun A1 cap1 w5 h5=>?_)
 obtain⟨n,hn⟩:∃ n,n=s.size:=⟨_,rfl⟩
 have hil:(ints s).length=n:=by rw[ints_length,hn]
 rw[← hn]at h5 hsz ⊢
 refine⟨fun v w2=>∃ (z cap:Nat) (A:Option Addr),z≤63 - (n+8)%64∧v=.slice A (n+1+z) cap∧RowSt w 5 1 [⟨gk,160,u32s kl,true⟩,⟨go,33,List.replicate 32 (.int .u8 0),true⟩] A (n+1+z) cap (u8s (ints s++(128::List.replicate z 0))) w2,fun v _=>n+100 - slen v,⟨0,_,_,by omega,rfl,by rw[u8s_append];exact h5⟩,?_⟩
 clear h3 h4 h5 hr4
 rintro v u w6 ⟨z,cap,A,hz,rfl,h6⟩
 (repeat (first|(refine mop_c ?_ ?_;first|exact trivial|omega)|(refine dp_c ?_ ?_;first|exact trivial|omega)))
 refine mif_dec (fun hne=>?_) (fun heq=>?_)
 ·refine mop_push h6 rfl (by intro u hu;cases hu with|head=>rfl|tail _ hu=>cases hu) (buildb _ _) (by unfold maxLen;omega) (by omega) (fun A1 cap1 w7 h7=>?_)
  refine⟨⟨z+1,cap1,A1,by omega,rfl,?_⟩,by simp[slen];omega⟩
  have e:ints s++(128::List.replicate (z+1) 0)=(ints s++(128::List.replicate z 0))++[0]:=by
   rw[List.append_assoc,List.cons_append,← List.replicate_succ']
  rw[e,u8s_append]
  exact h7
 ·obtain rfl:z=63 - (n+8)%64:=by omega
  refine mop_c trivial ?_
  rw[← hn]
  (repeat (first|(refine mop_c ?_ ?_;first|exact trivial|omega)|(refine dp_c ?_ ?_;first|exact trivial|omega)))
  refine⟨fun v x w2=>∃ (i cap:Nat) (A:Option Addr),i≤8∧x=.int .i64 i∧v=.slice A (n+1+(63 - (n+8)%64)+i) cap∧RowSt w 5 1 [⟨gk,160,u32s kl,true⟩,⟨go,33,List.replicate 32 (.int .u8 0),true⟩] A (n+1+(63 - (n+8)%64)+i) cap (u8s ((ints s++(128::List.replicate (63 - (n+8)%64) 0))++(List.range i).map (lenB n))) w2,
   fun _ x _=>8 - (intOf x).toNat,⟨0,_,_,by omega,rfl,rfl,by simpa using h6⟩,?_⟩
  clear h6
  rintro v x u2 w7 ⟨i,cap,A,hi,rfl,rfl,h7⟩
  refine mop_c trivial ?_
  refine mif_dec (fun hlt=>?_) (fun hge=>?_)
  ·(repeat (first|(refine mop_c ?_ ?_;first|exact trivial|omega)|(refine dp_c ?_ ?_;first|exact trivial|omega)))
   refine mop_push h7 rfl (by intro u hu;cases hu with|head=>rfl|tail _ hu=>cases hu) (buildb _ _) (by unfold maxLen;omega) (by omega) (fun A1 cap1 w8 h8=>?_)
   (repeat (first|(refine mop_c ?_ ?_;first|exact trivial|omega)|(refine dp_c ?_ ?_;first|exact trivial|omega)))
   refine⟨⟨i+1,cap1,A1,by omega,rfl,rfl,?_⟩,by simp[intOf];omega⟩
   have e:lenB n i=((n:Int)%18446744073709551616*8%18446744073709551616) / 2 ^ ((56 - 8*(i:Int))%18446744073709551616).toNat%256:=by
    unfold lenB
    congr 4
    omega
   rw[List.range_succ,List.map_append,← List.append_assoc,u8s_append,List.map_cons,List.map_nil,e]
   exact h8
  ·obtain rfl:i=8:=by omega
   have hM:(ints s++(128::List.replicate (63 - (n+8)%64) 0))++(List.range 8).map (lenB n)=ints s++padding n:=by rw[padding,List.append_assoc]
   rw[hM]at h7
   have hfin:shaSum (ints s)=outB (feedAll (h0,[]) (ints s++padding n)).1:=by rw[shaSum,hil]
   rw[hfin]
   have hMl:(ints s++padding n).length=n+1+(63 - (n+8)%64)+8:=by simp[padding,hil];omega
   have hMr:∀ c∈ints s++padding n,0≤c∧c<256:=fun c hc=>by
    rcases List.mem_append.1 hc with hc|hc
    ·exact ints_range s c hc
    ·exact padding_range n c hc
   generalize ints s++padding n=M at h7 hMl hMr ⊢
   obtain⟨N,hN⟩:∃ N,N=n+1+(63 - (n+8)%64)+8:=⟨_,rfl⟩
   rw[← hN]at h7 hMl ⊢
   have hN64:N%64=0:=by omega
   have hNb:N<1099511627776+200:=by omega
   clear hM hfin hil
   obtain⟨gm,sp,rfl,h8,_,_⟩:=h7.at_ (by omega)
   clear h7
   refine mop_pur (build8 _ _ _ _ _ _ _ _) ?_
   refine mop_new h8 (fun gv w8 h9=>?_)
   refine mop_storeN (q:=true) (k:=8) (by kernel_rfl) h9 rfl (u32s_one h0.list) (by simp) (fun w9 h10=>?_)
   have e8:lay (List.replicate 8 (Value.int .u32 0)) (Value.agg (u32s h0.list).toArray).cells.toList 0=u32s h0.list:=lay_all _ _ rfl
   have h10:St w [⟨gv,162,u32s h0.list,true⟩,⟨gm,5,u8s M++sp,true⟩,⟨gk,160,u32s kl,true⟩,⟨go,33,List.replicate 32 (.int .u8 0),true⟩] w9:=by
    rw[← e8];exact h10
   refine⟨fun x w2=>∃ j:Nat,64*j≤N∧x=.int .i64 ((64*j:Nat):Int)∧St w [⟨gv,162,u32s (blocks M j).list,true⟩,⟨gm,5,u8s M++sp,true⟩,⟨gk,160,u32s kl,true⟩,⟨go,33,List.replicate 32 (.int .u8 0),true⟩] w2,
    fun x _=>N - (intOf x).toNat,⟨0,by omega,rfl,h10⟩,?_⟩
   clear h8 h9 h10
   rintro x u3 w10 ⟨j,hj,rfl,h10⟩
   (repeat (first|(refine mop_c ?_ ?_;first|exact trivial|omega)|(refine dp_c ?_ ?_;first|exact trivial|omega)))
   refine mif_dec (fun hlt=>?_) (fun hge=>?_)
   ·have hj2:64*j+64≤N:=by omega
    have hbl:blocks M (j+1)=(blocks M j).add (rl (wl ((M.drop (64*j)).take 64) 64) 64 (blocks M j)):=rfl
    have hbat:=fun i hi=>block_at M j i hi
    have hsok:=blocks_ok M j
    generalize (M.drop (64*j)).take 64=bl at hbl hbat
    obtain⟨S',hS⟩:∃ S',S'=blocks M (j+1):=⟨_,rfl⟩
    rw[← hS]at hbl
    refine mop_new h10 (fun gw w11 h11=>?_)
    refine⟨fun x w2=>∃ i:Nat,i≤16∧x=.int .i64 i∧St w [⟨gw,160,u32s (wk bl i),true⟩,⟨gv,162,u32s (blocks M j).list,true⟩,⟨gm,5,u8s M++sp,true⟩,⟨gk,160,u32s kl,true⟩,⟨go,33,List.replicate 32 (.int .u8 0),true⟩] w2,
     fun x _=>16 - (intOf x).toNat,⟨0,by omega,rfl,h11⟩,?_⟩
    clear h10 h11
    rintro x u4 w12 ⟨i,hi,rfl,h12⟩
    (repeat (first|(refine mop_c ?_ ?_;first|exact trivial|omega)|(refine dp_c ?_ ?_;first|exact trivial|omega)))
    refine mif_dec (fun hlt2=>?_) (fun hge2=>?_)
    ·(repeat (first|(refine mop_c ?_ ?_;first|exact trivial|omega)|(refine dp_c ?_ ?_;first|exact trivial|omega)))
     rw[show((64*j:Nat):Int)+4*(i:Int)=((64*j+4*i:Nat):Int) by omega]
     refine mop_to (word_ok gm 0 N cap (64*j+4*i) (M.getD (64*j+4*i) 0) (M.getD (64*j+4*i+1) 0) (M.getD (64*j+4*i+2) 0) (M.getD (64*j+4*i+3) 0) w12 (by omega) (by omega)
      ?_ ?_ ?_ ?_ (getD_bd M _ hMr) (getD_bd M _ hMr) (getD_bd M _ hMr) (getD_bd M _ hMr)) ?_
     ·rw[Nat.zero_add];exact(h12.cell 2 rfl _).trans (row_at M sp _ (by omega))
     ·rw[Nat.zero_add];exact(h12.cell 2 rfl _).trans (row_at M sp _ (by omega))
     ·rw[Nat.zero_add];exact(h12.cell 2 rfl _).trans (row_at M sp _ (by omega))
     ·rw[Nat.zero_add];exact(h12.cell 2 rfl _).trans (row_at M sp _ (by omega))
     rintro e w13 ⟨rfl,hd13⟩
     have h13:=h12.drawn hd13
     (repeat (first|(refine mop_c ?_ ?_;first|exact trivial|omega)|(refine dp_c ?_ ?_;first|exact trivial|omega)))
     refine mop_st (j:=i) h13 (by omega) (by rw[u32s_length,wk_len bl i (by omega)];omega) rfl (fun w14 h14=>?_)
     (repeat (first|(refine mop_c ?_ ?_;first|exact trivial|omega)|(refine dp_c ?_ ?_;first|exact trivial|omega)))
     refine⟨⟨i+1,by omega,rfl,?_⟩,by simp[intOf];omega⟩
     rw[wk_set bl i (by omega)]at h14
     ·exact h14
     ·rw[wl_new,if_pos (by omega),hbat _ (by omega),hbat _ (by omega),hbat _ (by omega),hbat _ (by omega),← Nat.add_assoc,← Nat.add_assoc,← Nat.add_assoc]
    ·obtain rfl:i=16:=by omega
     refine⟨fun x w2=>∃ k:Nat,16≤k∧k≤64∧x=.int .i64 k∧St w [⟨gw,160,u32s (wk bl k),true⟩,⟨gv,162,u32s (blocks M j).list,true⟩,⟨gm,5,u8s M++sp,true⟩,⟨gk,160,u32s kl,true⟩,⟨go,33,List.replicate 32 (.int .u8 0),true⟩] w2,
      fun x _=>64 - (intOf x).toNat,⟨16,by omega,by omega,rfl,h12⟩,?_⟩
     clear h12
     rintro x u5 w13 ⟨k,hk0,hk,rfl,h13⟩
     (repeat (first|(refine mop_c ?_ ?_;first|exact trivial|omega)|(refine dp_c ?_ ?_;first|exact trivial|omega)))
     refine mif_dec (fun hlt3=>?_) (fun hge3=>?_)
     ·have d15:=wl_wd bl k (k - 15)
      have d2:=wl_wd bl k (k - 2)
      (repeat (first|(refine mop_c ?_ ?_;first|exact trivial|omega)|(refine dp_c ?_ ?_;first|exact trivial|omega)))
      refine mop_ld ((h13.cell 0 rfl (k - 15)).trans (wk_at bl k (k - 15) (by omega))) (by omega) ?_
      (repeat (first|(refine mop_c ?_ ?_;first|exact trivial|omega)|(refine dp_c ?_ ?_;first|exact trivial|omega)))
      refine mop_ld ((h13.cell 0 rfl (k - 2)).trans (wk_at bl k (k - 2) (by omega))) (by omega) ?_
      (repeat (first|(refine mop_c ?_ ?_;first|exact trivial|omega)|(refine dp_c ?_ ?_;first|exact trivial|omega)))
      refine dq_ld ((h13.cell 0 rfl (k - 16)).trans (wk_at bl k (k - 16) (by omega))) (by omega) ?_
      (repeat (first|(refine mop_c ?_ ?_;first|exact trivial|omega)|(refine dp_c ?_ ?_;first|exact trivial|omega)))
      refine dq_ld ((h13.cell 0 rfl (k - 7)).trans (wk_at bl k (k - 7) (by omega))) (by omega) ?_
      (repeat (first|(refine mop_c ?_ ?_;first|exact trivial|omega)|(refine dp_c ?_ ?_;first|exact trivial|omega)))
      refine df_eq (fun w=>turned_k _ 7 w d15 (by decide)) fun w5 hd5=>?_
      refine df_eq (fun w=>turned_k _ 18 w d15 (by decide)) fun w6 hd6=>?_
      (repeat (first|(refine mop_c ?_ ?_;first|exact trivial|omega)|(refine dp_c ?_ ?_;first|exact trivial|omega)))
      refine df_eq (fun w=>turned_k _ 17 w d2 (by decide)) fun w7 hd7=>?_
      refine df_eq (fun w=>turned_k _ 19 w d2 (by decide)) fun w8 hd8=>?_
      (repeat (first|(refine mop_c ?_ ?_;first|exact trivial|omega)|(refine dp_c ?_ ?_;first|exact trivial|omega)))
      have h14:=h13.drawn (((hd5.trans hd6).trans hd7).trans hd8)
      refine df_st (j:=k) h14 (by omega) (by rw[u32s_length,wk_len bl k hk];omega) rfl (fun w9 h15=>?_)
      refine dend_intro fun w10 hd10=>?_
      have h16:=h15.drawn hd10
      (repeat (first|(refine mop_c ?_ ?_;first|exact trivial|omega)|(refine dp_c ?_ ?_;first|exact trivial|omega)))
      refine⟨⟨k+1,by omega,by omega,rfl,?_⟩,by simp[intOf];omega⟩
      rw[wk_set bl k (by omega)]at h16
      ·exact h16
      ·rw[wl_new,if_neg (by omega)]
       rfl
     ·obtain rfl:k=64:=by omega
      have hw:wk bl 64=wl bl 64:=by simp[wk]
      have hWl:(wl bl 64).length=64:=wl_len bl 64
      rw[hw]at h13
      clear hw
      generalize wl bl 64=W at h13 hWl hbl
      refine mop_ldN (cells_of_row (h13.mem (k:=1) rfl)) rfl rfl ?_
      refine mop_new h13 (fun gs w14 h14=>?_)
      refine mop_storeN (q:=true) (k:=8) (by kernel_rfl) h14 rfl (u32s_one (blocks M j).list) (by simp) (fun w15 h15=>?_)
      have e9:lay (List.replicate 8 (Value.int .u32 0)) (Value.agg (u32s (blocks M j).list).toArray).cells.toList 0=u32s (blocks M j).list:=lay_all _ _ rfl
      rw[e9]at h15
      clear h13 h14 e9
      generalize blocks M j=s0 at hbl hsok h15
      refine⟨fun x w2=>∃ i:Nat,i≤64∧x=.int .i64 i∧St w [⟨gs,162,u32s (rl W i s0).list,true⟩,⟨gw,160,u32s W,true⟩,⟨gv,162,u32s s0.list,true⟩,⟨gm,5,u8s M++sp,true⟩,⟨gk,160,u32s kl,true⟩,⟨go,33,List.replicate 32 (.int .u8 0),true⟩] w2,
       fun x _=>64 - (intOf x).toNat,⟨0,by omega,rfl,h15⟩,?_⟩
      clear h15
      rintro x u6 w16 ⟨i,hi4,rfl,h16⟩
      have hr:=rl_ok W hsok i
      have hrs:rl W (i+1) s0=(rl W i s0).rnd (kl.getD i 0) (W.getD i 0):=rfl
      obtain⟨s',hs'⟩:∃ s',s'=rl W (i+1) s0:=⟨_,rfl⟩
      obtain⟨t,ht⟩:∃ t,rl W i s0=t:=⟨_,rfl⟩
      rw[← hs']at hrs
      rw[ht]at hr hrs h16
      (repeat (first|(refine mop_c ?_ ?_;first|exact trivial|omega)|(refine dp_c ?_ ?_;first|exact trivial|omega)))
      refine mif_dec (fun hlt4=>?_) (fun hge4=>?_)
      ·(repeat (first|(refine mop_c ?_ ?_;first|exact trivial|omega)|(refine dp_c ?_ ?_;first|exact trivial|omega)))
       refine mop_ld ((h16.cell 0 rfl 4).trans (show(u32s t.list)[4]?=some (.int .u32 t.e) from rfl)) (by omega) ?_
       (repeat (first|(refine mop_c ?_ ?_;first|exact trivial|omega)|(refine dp_c ?_ ?_;first|exact trivial|omega)))
       refine mop_ld ((h16.cell 0 rfl 0).trans (show(u32s t.list)[0]?=some (.int .u32 t.a) from rfl)) (by omega) ?_
       (repeat (first|(refine mop_c ?_ ?_;first|exact trivial|omega)|(refine dp_c ?_ ?_;first|exact trivial|omega)))
       refine dq_ld ((h16.cell 0 rfl 7).trans (show(u32s t.list)[7]?=some (.int .u32 t.h) from rfl)) (by omega) ?_
       refine df_eq (fun w=>turned_k _ 6 w hr.e (by decide)) fun w5 hd5=>?_
       refine df_eq (fun w=>turned_k _ 11 w hr.e (by decide)) fun w6 hd6=>?_
       (repeat (first|(refine mop_c ?_ ?_;first|exact trivial|omega)|(refine dp_c ?_ ?_;first|exact trivial|omega)))
       refine df_eq (fun w=>turned_k _ 25 w hr.e (by decide)) fun w7 hd7=>?_
       (repeat (first|(refine mop_c ?_ ?_;first|exact trivial|omega)|(refine dp_c ?_ ?_;first|exact trivial|omega)))
       refine dq_ld ((h16.cell 0 rfl 5).trans (show(u32s t.list)[5]?=some (.int .u32 t.f) from rfl)) (by omega) ?_
       (repeat (first|(refine mop_c ?_ ?_;first|exact trivial|omega)|(refine dp_c ?_ ?_;first|exact trivial|omega)))
       refine dq_ld ((h16.cell 0 rfl 6).trans (show(u32s t.list)[6]?=some (.int .u32 t.g) from rfl)) (by omega) ?_
       (repeat (first|(refine mop_c ?_ ?_;first|exact trivial|omega)|(refine dp_c ?_ ?_;first|exact trivial|omega)))
       refine dq_ld ((h16.cell 4 rfl i).trans (u32s_at kl i (by rw[kl_len];omega))) (by omega) ?_
       (repeat (first|(refine mop_c ?_ ?_;first|exact trivial|omega)|(refine dp_c ?_ ?_;first|exact trivial|omega)))
       refine dq_ld ((h16.cell 1 rfl i).trans (u32s_at W i (by omega))) (by omega) ?_
       (repeat (first|(refine mop_c ?_ ?_;first|exact trivial|omega)|(refine dp_c ?_ ?_;first|exact trivial|omega)))
       refine dend_intro fun w8 hd8=>?_
       have h17:=h16.drawn (((hd5.trans hd6).trans hd7).trans hd8)
       refine df_eq (fun w=>turned_k _ 2 w hr.a (by decide)) fun w9 hd9=>?_
       refine df_eq (fun w=>turned_k _ 13 w hr.a (by decide)) fun w10 hd10=>?_
       (repeat (first|(refine mop_c ?_ ?_;first|exact trivial|omega)|(refine dp_c ?_ ?_;first|exact trivial|omega)))
       refine df_eq (fun w=>turned_k _ 22 w hr.a (by decide)) fun w11 hd11=>?_
       (repeat (first|(refine mop_c ?_ ?_;first|exact trivial|omega)|(refine dp_c ?_ ?_;first|exact trivial|omega)))
       refine dq_ld ((h17.cell 0 rfl 1).trans (show(u32s t.list)[1]?=some (.int .u32 t.b) from rfl)) (by omega) ?_
       (repeat (first|(refine mop_c ?_ ?_;first|exact trivial|omega)|(refine dp_c ?_ ?_;first|exact trivial|omega)))
       refine dq_ld ((h17.cell 0 rfl 2).trans (show(u32s t.list)[2]?=some (.int .u32 t.c) from rfl)) (by omega) ?_
       (repeat (first|(refine mop_c ?_ ?_;first|exact trivial|omega)|(refine dp_c ?_ ?_;first|exact trivial|omega)))
       refine dq_ld ((h17.cell 0 rfl 1).trans (show(u32s t.list)[1]?=some (.int .u32 t.b) from rfl)) (by omega) ?_
       (repeat (first|(refine mop_c ?_ ?_;first|exact trivial|omega)|(refine dp_c ?_ ?_;first|exact trivial|omega)))
       refine dq_ld ((h17.cell 0 rfl 2).trans (show(u32s t.list)[2]?=some (.int .u32 t.c) from rfl)) (by omega) ?_
       (repeat (first|(refine mop_c ?_ ?_;first|exact trivial|omega)|(refine dp_c ?_ ?_;first|exact trivial|omega)))
       refine dend_intro fun w12 hd12=>?_
       have h18:=h17.drawn (((hd9.trans hd10).trans hd11).trans hd12)
       clear h16 h17
       (repeat (first|(refine mop_c ?_ ?_;first|exact trivial|omega)|(refine dp_c ?_ ?_;first|exact trivial|omega)))
       refine mop_ld ((h18.cell 0 rfl 0).trans (show(u32s t.list)[0]?=some (.int .u32 t.a) from rfl)) (by omega) ?_
       (repeat (first|(refine mop_c ?_ ?_;first|exact trivial|omega)|(refine dp_c ?_ ?_;first|exact trivial|omega)))
       refine mop_ld ((h18.cell 0 rfl 1).trans (show(u32s t.list)[1]?=some (.int .u32 t.b) from rfl)) (by omega) ?_
       (repeat (first|(refine mop_c ?_ ?_;first|exact trivial|omega)|(refine dp_c ?_ ?_;first|exact trivial|omega)))
       refine mop_ld ((h18.cell 0 rfl 2).trans (show(u32s t.list)[2]?=some (.int .u32 t.c) from rfl)) (by omega) ?_
       (repeat (first|(refine mop_c ?_ ?_;first|exact trivial|omega)|(refine dp_c ?_ ?_;first|exact trivial|omega)))
       refine mop_ld ((h18.cell 0 rfl 3).trans (show(u32s t.list)[3]?=some (.int .u32 t.d) from rfl)) (by omega) ?_
       (repeat (first|(refine mop_c ?_ ?_;first|exact trivial|omega)|(refine dp_c ?_ ?_;first|exact trivial|omega)))
       refine mop_ld ((h18.cell 0 rfl 4).trans (show(u32s t.list)[4]?=some (.int .u32 t.e) from rfl)) (by omega) ?_
       (repeat (first|(refine mop_c ?_ ?_;first|exact trivial|omega)|(refine dp_c ?_ ?_;first|exact trivial|omega)))
       refine mop_ld ((h18.cell 0 rfl 5).trans (show(u32s t.list)[5]?=some (.int .u32 t.f) from rfl)) (by omega) ?_
       (repeat (first|(refine mop_c ?_ ?_;first|exact trivial|omega)|(refine dp_c ?_ ?_;first|exact trivial|omega)))
       refine mop_ld ((h18.cell 0 rfl 6).trans (show(u32s t.list)[6]?=some (.int .u32 t.g) from rfl)) (by omega) ?_
       refine mop_pur (v:=.agg (u32s s'.list).toArray) (by rw[hrs];exact build8 _ _ _ _ _ _ _ _) ?_
       refine mop_storeN (q:=true) (k:=8) (by kernel_rfl) h18 rfl (u32s_one s'.list) (by simp[u32s,S8.list]) (fun w13 h19=>?_)
       have e9:lay (u32s t.list) (Value.agg (u32s s'.list).toArray).cells.toList 0=u32s s'.list:=lay_all _ _ rfl
       rw[e9]at h19
       (repeat (first|(refine mop_c ?_ ?_;first|exact trivial|omega)|(refine dp_c ?_ ?_;first|exact trivial|omega)))
       exact⟨⟨i+1,by omega,rfl,by rw[← hs'];exact h19⟩,by simp[intOf];omega⟩
      ·obtain rfl:i=64:=by omega
       rw[ht]at hbl
       refine⟨fun x w2=>∃ i:Nat,i≤8∧x=.int .i64 i∧St w [⟨gv,162,u32s (addK s0.list t.list i),true⟩,⟨gs,162,u32s t.list,true⟩,⟨gw,160,u32s W,true⟩,⟨gm,5,u8s M++sp,true⟩,⟨gk,160,u32s kl,true⟩,⟨go,33,List.replicate 32 (.int .u8 0),true⟩] w2,
        fun x _=>8 - (intOf x).toNat,⟨0,by omega,rfl,h16.up2⟩,?_⟩
       clear h16
       rintro x u7 w17 ⟨i,hi5,rfl,h17⟩
       (repeat (first|(refine mop_c ?_ ?_;first|exact trivial|omega)|(refine dp_c ?_ ?_;first|exact trivial|omega)))
       have hal:(addK s0.list t.list i).length=8:=addK_len s0.list t.list i
       refine mif_dec (fun hlt5=>?_) (fun hge5=>?_)
       ·(repeat (first|(refine mop_c ?_ ?_;first|exact trivial|omega)|(refine dp_c ?_ ?_;first|exact trivial|omega)))
        refine dq_ld ((h17.cell 0 rfl i).trans (u32s_at _ i (by omega))) (by omega) ?_
        (repeat (first|(refine mop_c ?_ ?_;first|exact trivial|omega)|(refine dp_c ?_ ?_;first|exact trivial|omega)))
        refine dq_ld ((h17.cell 1 rfl i).trans (u32s_at t.list i (by simp[S8.list];omega))) (by omega) ?_
        (repeat (first|(refine mop_c ?_ ?_;first|exact trivial|omega)|(refine dp_c ?_ ?_;first|exact trivial|omega)))
        refine df_st (j:=i) h17 (by omega) (by rw[u32s_length];omega) rfl (fun w18 h18=>?_)
        refine dend_intro fun w19 hd19=>?_
        have h19:=h18.drawn hd19
        (repeat (first|(refine mop_c ?_ ?_;first|exact trivial|omega)|(refine dp_c ?_ ?_;first|exact trivial|omega)))
        refine⟨⟨i+1,by omega,rfl,?_⟩,by simp[intOf];omega⟩
        rw[set_u32s,addK_at s0.list t.list i i (Nat.le_refl i)]at h19
        exact h19
       ·obtain rfl:i=8:=by omega
        (repeat (first|(refine mop_c ?_ ?_;first|exact trivial|omega)|(refine dp_c ?_ ?_;first|exact trivial|omega)))
        refine⟨⟨j+1,by omega,by simp only[Value.int.injEq,true_and];omega,?_⟩,by simp[intOf];omega⟩
        have e10:=addK_end s0.list t rfl
        rw[s8_list,← hbl]at e10
        rw[e10]at h17
        rw[← hS]
        exact h17.swap.drop.swap.drop
   ·have hjN:64*j=M.length:=by omega
    have hfin:feedAll (h0,[]) M=(blocks M j,[]):=by
     have:=blocks_feed M j (by omega)
     rwa [hjN,List.take_length]at this
    rw[hfin]
    generalize blocks M j=y at h10
    have hy8:y.list.length=8:=rfl
    refine mop_new h10 (fun gu w11 h11=>?_)
    refine⟨fun x w2=>∃ i:Nat,i≤32∧x=.int .i64 i∧St w [⟨gu,33,u8s (fill (outAt y.list) 32 i),true⟩,⟨gv,162,u32s y.list,true⟩,⟨gm,5,u8s M++sp,true⟩,⟨gk,160,u32s kl,true⟩,⟨go,33,List.replicate 32 (.int .u8 0),true⟩] w2,
     fun x _=>32 - (intOf x).toNat,⟨0,by omega,rfl,h11⟩,?_⟩
    clear h10 h11
    rintro x u4 w12 ⟨i,hi,rfl,h12⟩
    (repeat (first|(refine mop_c ?_ ?_;first|exact trivial|omega)|(refine dp_c ?_ ?_;first|exact trivial|omega)))
    refine mif_dec (fun hlt2=>?_) (fun hge2=>?_)
    ·(repeat (first|(refine mop_c ?_ ?_;first|exact trivial|omega)|(refine dp_c ?_ ?_;first|exact trivial|omega)))
     refine mop_ld ((h12.cell 1 rfl (i / 4)).trans (u32s_at y.list (i / 4) (by omega))) (by omega) ?_
     (repeat (first|(refine mop_c ?_ ?_;first|exact trivial|omega)|(refine dp_c ?_ ?_;first|exact trivial|omega)))
     refine mop_st (j:=i) h12 (by omega) (by rw[u8s_length,fill_length _ _ _ hi];omega) rfl (fun w13 h13=>?_)
     (repeat (first|(refine mop_c ?_ ?_;first|exact trivial|omega)|(refine dp_c ?_ ?_;first|exact trivial|omega)))
     refine⟨⟨i+1,by omega,rfl,?_⟩,by simp[intOf];omega⟩
     rw[← fill_set _ _ _ (by omega),← set_u8s]
     have e:outAt y.list i=y.list.getD (i / 4) 0 / 2 ^ (((24:Int) - 8*((i:Int)%4))%18446744073709551616).toNat%256:=by
      unfold outAt
      congr 3
      omega
     rw[e]
     exact h13
    ·obtain rfl:i=32:=by omega
     have hf:fill (outAt y.list) 32 32=outB y:=by simp[fill,outB]
     rw[hf]at h12
     have hol:(u8s (outB y)).length=32:=by simp[outB,u8s]
     refine mop_ldN (cells_of_row h12.head) hol rfl ?_
     have h13:=h12.drop.drop.drop.drop
     refine mop_storeN (q:=true) (k:=32) (by kernel_rfl) h13 (by simpa [Value.cells] using hol) (by intro u hu;exact u8s_one _ u hu) (by simp) (fun w14 h14=>?_)
     have e:lay (List.replicate 32 (Value.int .u8 0)) (Value.agg (u8s (outB y)).toArray).cells.toList 0=u8s (outB y):=lay_all _ _ (by show(u8s (outB y)).length=_;rw[hol];simp)
     rw[e]at h14
     refine rcell_ldN (cells_of_row h14.head) hol ?_
     exact⟨rfl,h14.drop⟩
end Go.Proofs.YtpjodlnlmaaihaaGreat
namespace Go.Proofs.YtpjodlnlmaaihaaGreat
open Go.RowKit
theorem buildstr (s:ByteArray) (w:World):(o_buildSlice 70 1 [(0,.string s)]).run Tryz.prog w=.ok (.value (.slice (some ⟨w.heap.size,0,none⟩) 1 1)) (w.alloc (.cells [Value.string s].toArray 9)):=by kernel_rfl
theorem sum_one (s:ByteArray) (w:World) (hsz:s.size<4611686018427387904):Calls Tryz.prog 80 #[.slice (some ⟨w.heap.size,0,none⟩) 1 1] (w.alloc (.cells [Value.string s].toArray 9)) fun e w'=>e=.returned (hv (shaSum (ints s)))∧St w [] w':=by
 have h:=sum_ok (some ⟨w.heap.size,0,none⟩) [s] 1 (w.alloc (.cells [Value.string s].toArray 9)) (rd_new w [Value.string s] 9) (by simp) (by simpa [cat,ints_length] using hsz)
 refine h.mono ?_
 rintro e w' ⟨rfl,h'⟩
 refine⟨by simp[cat],?_⟩
 have:=(St.nil w).alloc 9 [.string s]
 exact this.drop.call0 h'
theorem strOfNums_append (a b:List Int):strOfNums a++strOfNums b=strOfNums (a++b):=by
 apply ByteArray.ext
 simp[strOfNums]
theorem St.ext {w w':World} {L:List Bk} (h:St w L w') (hn:∀ b∈L,b.nw=true):Ext w w':=
 h.only.mono (fun i _ hi=>by
  obtain⟨b,hb,h2,_⟩:=hi
  rw[hn b hb]at h2
  cases h2)
theorem St.ext0 {w w':World} (h:St w [] w'):Ext w w':=h.ext (fun _ h=>by cases h)
theorem p_index_str (s:ByteArray) (i:Int) (h0:0≤i) (h1:i<s.size):Pur Tryz.prog (o_index 9 (.string s) (.int .i64 i)) (.int .u8 ((ints s).getD i.toNat 0)):=p_index_string (P:=Tryz.prog) 9 s .i64 i (by kernel_rfl) h0 h1
end Go.Proofs.YtpjodlnlmaaihaaGreat
