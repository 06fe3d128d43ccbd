/- Part 4 of the proof. -/
import Derived.Test.YtgbenhmdamnmcaaGreatPa3
set_option linter.unusedVariables false
set_option linter.unusedVariables false
namespace Go.Proofs.YtgbenhmdamnmcaaGreat
def F_prim_Pub (n G:Value) (w:World) (R:Ending→World→Prop):Prop:=
 m R (o_box 23 G) w fun i H=>
 m R (o_alloc 23) H fun p I=>
 m R (o_load 23 i) I fun J K=>
 m R (o_call (fv 120) [J]) K fun L M=>
 m R (o_alloc 23) M fun g N=>
 m R (o_store 23 g L) N fun _ a=>
 mj0 (fun o=>
 ((
 dq Tryz.prog a (o_load 23 i) fun h=>
 dq Tryz.prog a (o_load 23 g) fun b=>
 df Tryz.prog a (o_buildSlice 137 1 [(0,h)]) true fun c O=>
 df Tryz.prog O (o_call (fv 122) [b]) true fun d Q=>
 df Tryz.prog Q (o_buildSlice 137 1 [(0,d)]) true fun e S=>
 dp Tryz.prog (o_build 199 [(0,c),(1,e)]) fun f=>
 df Tryz.prog S (o_call (fv 121) [n,f]) false fun j q=>
 dend q fun r=>
 o r)∧(
 dq Tryz.prog a (o_load 23 i) fun h=>
 dq Tryz.prog a (o_load 23 g) fun b=>
 df Tryz.prog a (o_call (fv 122) [b]) true fun d s=>
 df Tryz.prog s (o_buildSlice 137 1 [(0,h)]) true fun c t=>
 df Tryz.prog t (o_buildSlice 137 1 [(0,d)]) true fun e u=>
 dp Tryz.prog (o_build 199 [(0,c),(1,e)]) fun f=>
 df Tryz.prog u (o_call (fv 121) [n,f]) false fun j v=>
 dend v fun x=>
 o x)∧(
 dq Tryz.prog a (o_load 23 i) fun h=>
 dq Tryz.prog a (o_load 23 g) fun b=>
 df Tryz.prog a (o_call (fv 122) [b]) true fun d y=>
 df Tryz.prog y (o_buildSlice 137 1 [(0,d)]) true fun e z=>
 df Tryz.prog z (o_buildSlice 137 1 [(0,h)]) true fun c A=>
 dp Tryz.prog (o_build 199 [(0,c),(1,e)]) fun f=>
 df Tryz.prog A (o_call (fv 121) [n,f]) false fun j B=>
 dend B fun C=>
 o C))) fun U D=>
 m R (o_load 23 g) D fun E F=>
 m R (o_store 23 p E) F fun _ l=>
 rcell Tryz.prog 23 p l fun T=>
 R (.returned T) l
def A_prim_Pub:Ann:=⟨[],[(3,[],65280)],[],[(2,[⟨[0,1,3,2,4,5,6,7],[⟨0,.q none,1,0,256⟩,⟨1,.q (some 0),8,0,512⟩,⟨2,.f 0 true,512,2,1024⟩,⟨3,.q (some 0),32,0,2048⟩,⟨4,.f 1 true,2048,8,4096⟩,⟨5,.f 2 true,4096,24,8192⟩,⟨6,.q none,9216,62,16384⟩,⟨7,.f 3 false,16640,127,32768⟩]⟩,⟨[0,1,3,4,2,5,6,7],[⟨0,.q none,1,0,256⟩,⟨1,.q (some 0),8,0,512⟩,⟨2,.f 1 true,512,2,1024⟩,⟨3,.q (some 0),32,0,2048⟩,⟨4,.f 0 true,2048,8,4096⟩,⟨5,.f 2 true,4096,24,8192⟩,⟨6,.q none,9216,62,16384⟩,⟨7,.f 3 false,16640,127,32768⟩]⟩,⟨[0,1,3,4,5,2,6,7],[⟨0,.q none,1,0,256⟩,⟨1,.q (some 0),8,0,512⟩,⟨2,.f 2 true,512,2,1024⟩,⟨3,.q (some 0),32,0,2048⟩,⟨4,.f 0 true,2048,8,4096⟩,⟨5,.f 1 true,4096,24,8192⟩,⟨6,.q none,9216,62,16384⟩,⟨7,.f 3 false,16640,127,32768⟩]⟩])],[]⟩
variable {x0 x1 x2 x3 x4 x5 x6 x7 x8 x9:Value} {w:World} {R:Ending→World→Prop}
theorem C_prim_Pub (h:F_prim_Pub x0 x1 w R):Calls Tryz.prog 62 #[x0,x1] w R:=cc A_prim_Pub [x0,x1] Tryz.func62 h
def F_keys_Said (c d:Value) (w:World) (R:Ending→World→Prop):Prop:=
 m R (o_box 23 c) w fun e f=>
 m R (o_alloc 23) f fun a g=>
 m R (o_slice 23 e none none none) g fun h i=>
 m R (o_conv 89 9 h) i fun j l=>
 m R (o_buildSlice 41 3 [(0,(.string (ByteArray.mk #[115,97,105,100]))),(1,j),(2,d)]) l fun n o=>
 m R (o_call (fv 34) [n]) o fun p q=>
 m R (o_store 23 a p) q fun _ b=>
 rcell Tryz.prog 23 a b fun r=>
 R (.returned r) b
def A_keys_Said:Ann:=⟨[],[],[],[],[]⟩
theorem C_keys_Said (h:F_keys_Said x0 x1 w R):Calls Tryz.prog 63 #[x0,x1] w R:=cc A_keys_Said [x0,x1] Tryz.func63 h
def F_keys_Context (n o p q:Value) (w:World) (R:Ending→World→Prop):Prop:=
 m R (o_box 23 n) w fun r s=>
 m R (o_box 23 p) s fun t u=>
 m R (o_box 23 q) u fun v x=>
 m R (o_call (fv 36) []) x fun a y=>
 m R (o_load 23 r) y fun c z=>
 m R (o_call (fv 84) [a,c]) z fun E A=>
 m R (o_call (fv 85) [a,o]) A fun F B=>
 m R (o_load 23 t) B fun d C=>
 m R (o_call (fv 84) [a,d]) C fun G D=>
 m R (o_load 23 v) D fun e f=>
 m R (o_call (fv 84) [a,e]) f fun H g=>
 m R (o_call (fv 38) [a]) g fun b h=>
 m R (o_extract b 0) h fun i j=>
 m R (o_extract b 1) j fun I l=>
 R (.returned i) l
def A_keys_Context:Ann:=⟨[],[],[],[],[]⟩
theorem C_keys_Context (h:F_keys_Context x0 x1 x2 x3 w R):Calls Tryz.prog 64 #[x0,x1,x2,x3] w R:=cc A_keys_Context [x0,x1,x2,x3] Tryz.func64 h
def F_tree_Hash (u:Value) (w:World) (R:Ending→World→Prop):Prop:=
 m R (o_box 58 u) w fun a v=>
 m R (o_alloc 23) v fun b x=>
 m R (o_load 58 a) x fun y z=>
 m R (o_call (fv 123) [y]) z fun A B=>
 m R (o_store 58 a A) B fun _ C=>
 m R (o_fieldAddr 58 a 0) C fun D E=>
 m R (o_load 55 D) E fun F G=>
 m R (o_builtin .len #[55] 3 [false] [F]) G fun H I=>
 m R (o_bin .eql 3 true H (.int .i64 0)) I fun J c=>
 mif J (
 m R (o_buildSlice 41 1 [(0,(.string (ByteArray.mk #[110,111,110,101])))]) c fun K g=>
 m R (o_call (fv 34) [K]) g fun h i=>
 m R (o_store 23 b h) i fun _ d=>
 rcell Tryz.prog 23 b d fun f=>
 R (.returned f) d) (
 dq Tryz.prog c (o_load 58 a) fun j=>
 dp Tryz.prog (o_fieldAddr 58 a 0) fun l=>
 dq Tryz.prog c (o_load 55 l) fun n=>
 dp Tryz.prog (o_builtin .len #[55] 3 [false] [n]) fun o=>
 df Tryz.prog c (o_call (fv 125) [o]) true fun p q=>
 df Tryz.prog q (o_call (fv 124) [j,p]) false fun r s=>
 df Tryz.prog s (o_store 23 b r) false fun _ t=>
 dend t fun e=>
 rcell Tryz.prog 23 b e fun f=>
 R (.returned f) e)
def A_tree_Hash:Ann:=⟨[],[],[(4,[⟨0,.q (some 0),2,0,2048⟩,⟨1,.q none,2,0,4096⟩,⟨2,.q (some 0),4096,2,8192⟩,⟨3,.q none,8192,6,16384⟩,⟨4,.f 0 true,16384,14,32768⟩,⟨5,.f 1 false,34816,31,65536⟩,⟨6,.f 2 false,65540,63,0⟩])],[],[]⟩
theorem C_tree_Hash (h:F_tree_Hash x0 w R):Calls Tryz.prog 65 #[x0] w R:=cc A_tree_Hash [x0] Tryz.func65 h
def F_keys_Make (g aO aP:Value) (w:World) (R:Ending→World→Prop):Prop:=
 m R (o_box 23 aO) w fun h aQ=>
 m R (o_alloc 123) aQ fun j aR=>
 m R (o_load 23 h) aR fun l aS=>
 m R (o_build 123 [(0,l)]) aS fun n aT=>
 m R (o_alloc 123) aT fun a aU=>
 m R (o_store 123 a n) aU fun _ aV=>
 m R (o_load 23 h) aV fun o aW=>
 m R (o_call (fv 67) [g,o,(.string (ByteArray.mk #[119,101,108,99,111,109,101])),(.string (ByteArray.mk #[]))]) aW fun p aX=>
 m R (o_fieldAddr 123 a 1) aX fun q aY=>
 m R (o_store 23 q p) aY fun _ r=>
 m R (o_load 23 h) r fun s t=>
 m R (o_call (fv 67) [g,s,(.string (ByteArray.mk #[101,112,111,99,104])),aP]) t fun u v=>
 m R (o_fieldAddr 123 a 2) v fun x y=>
 m R (o_store 23 x u) y fun _ z=>
 m R (o_fieldAddr 123 a 3) z fun A B=>
 m R (o_build 203 [(0,A),(1,(.string (ByteArray.mk #[105,110,105,116])))]) B fun C D=>
 m R (o_fieldAddr 123 a 4) D fun E F=>
 m R (o_build 203 [(0,E),(1,(.string (ByteArray.mk #[99,111,110,102,105,114,109])))]) F fun G H=>
 m R (o_fieldAddr 123 a 5) H fun I J=>
 m R (o_build 203 [(0,I),(1,(.string (ByteArray.mk #[97,112,112,115])))]) J fun K L=>
 m R (o_fieldAddr 123 a 6) L fun M N=>
 m R (o_build 203 [(0,M),(1,(.string (ByteArray.mk #[101,120,112,111,114,116])))]) N fun O Q=>
 m R (o_build 204 [(0,C),(1,G),(2,K),(3,O)]) Q fun S T=>
 ml1 (.int .i64 0) T fun c a0 U d=>
 m R (o_bin .lss 3 true c (.int .i64 4)) U fun V e=>
 mif V (
 m R (o_index 204 S c) e fun W X=>
 m R (o_alloc 203) X fun i Y=>
 m R (o_store 203 i W) Y fun _ b=>
 dp Tryz.prog (o_fieldAddr 203 i 0) fun Z=>
 dq Tryz.prog b (o_load 202 Z) fun aA=>
 dp Tryz.prog (o_fieldAddr 123 a 2) fun aB=>
 dq Tryz.prog b (o_load 23 aB) fun aC=>
 dp Tryz.prog (o_fieldAddr 203 i 1) fun aD=>
 dq Tryz.prog b (o_load 9 aD) fun aE=>
 df Tryz.prog b (o_call (fv 67) [g,aC,aE,(.string (ByteArray.mk #[]))]) true fun aF aG=>
 dp Tryz.prog (o_nilCheck aA) fun aH=>
 df Tryz.prog aG (o_store 23 aH aF) false fun _ aI=>
 dend aI fun aJ=>
 m R (o_bin .add 3 true c (.int .i64 1)) aJ fun aK aL=>
 d aK aL) (
 m R (o_load 123 a) e fun aM aN=>
 m R (o_store 123 j aM) aN fun _ f=>
 rcell Tryz.prog 123 j f fun aZ=>
 R (.returned aZ) f)
def A_keys_Make:Ann:=⟨[(5,[30],8795019280896)],[],[(7,[⟨0,.q none,512,0,P_ 33⟩,⟨1,.q (some 0),P_ 33,1,P_ 34⟩,⟨2,.q none,1,0,P_ 35⟩,⟨3,.q none,128,0,P_ 36⟩,⟨4,.q (some 0),P_ 36,8,P_ 37⟩,⟨5,.q none,512,0,P_ 38⟩,⟨6,.q (some 0),P_ 38,32,P_ 39⟩,⟨7,.f 0 true,721554505728,124,P_ 40⟩,⟨8,.q none,P_ 34,255,P_ 41⟩,⟨9,.f 1 false,3298534883328,511,0⟩])],[],[]⟩
theorem C_keys_Make (h:F_keys_Make x0 x1 x2 w R):Calls Tryz.prog 66 #[x0,x1,x2] w R:=cc A_keys_Make [x0,x1,x2] Tryz.func66 h
def F_prim_Derive (s t u v:Value) (w:World) (R:Ending→World→Prop):Prop:=
 m R (o_box 23 t) w fun c x=>
 m R (o_alloc 23) x fun d y=>
 m R (o_load 23 c) y fun e z=>
 m R (o_call (fv 126) [e,u,v]) z fun f A=>
 m R (o_alloc 23) A fun b B=>
 m R (o_store 23 b f) B fun _ C=>
 m R (o_load 23 c) C fun g D=>
 m R (o_buildSlice 137 1 [(0,g)]) D fun h E=>
 m R (o_load 23 b) E fun i F=>
 m R (o_buildSlice 137 1 [(0,i)]) F fun j l=>
 m R (o_build 199 [(0,h),(1,j)]) l fun n o=>
 m R (o_call (fv 121) [s,n]) o fun H p=>
 m R (o_load 23 b) p fun q r=>
 m R (o_store 23 d q) r fun _ a=>
 rcell Tryz.prog 23 d a fun G=>
 R (.returned G) a
def A_prim_Derive:Ann:=⟨[],[],[],[],[]⟩
theorem C_prim_Derive (h:F_prim_Derive x0 x1 x2 x3 w R):Calls Tryz.prog 67 #[x0,x1,x2,x3] w R:=cc A_prim_Derive [x0,x1,x2,x3] Tryz.func67 h
def F_era_Make (J c5 K c6 c7:Value) (w:World) (R:Ending→World→Prop):Prop:=
 m R (o_box 62 c5) w fun b c8=>
 m R (o_box 123 c7) c8 fun i c9=>
 mj1 (fun dA=>
 m R (o_fieldAddr 62 b 3) c9 fun L dB=>
 m R (o_load 58 L) dB fun M dC=>
 m R (o_call (fv 127) [M]) dC fun N dD=>
 m R (o_un .not N) dD fun d O=>
 mguard d false (fun k=>m R (o_fieldAddr 62 b 2) O k) O fun Q S=>
 mguard d false (fun k=>m R (o_load 3 Q) S k) S fun T U=>
 mguard d false (fun k=>m R (o_bin .lss 3 true T (.int .i64 0)) U k) U fun V dE=>
 m R (o_pick d (.bool true) V) dE fun e l=>
 mguard e false (fun k=>m R (o_fieldAddr 62 b 2) l k) l fun W n=>
 mguard e false (fun k=>m R (o_load 3 W) n k) n fun X o=>
 mguard e false (fun k=>m R (o_bin .gtr 3 true X (.int .i64 4611686018427387903)) o k) o fun Y Z=>
 m R (o_pick e (.bool true) Y) Z fun f p=>
 mguard f false (fun k=>m R (o_fieldAddr 62 b 5) p k) p fun aA q=>
 mguard f false (fun k=>m R (o_slice 60 aA none none none) q k) q fun aB r=>
 mguard f false (fun k=>m R (o_call (fv 128) [aB,(fv 129)]) r k) r fun aC aD=>
 m R (o_pick f (.bool true) aC) aD fun aE aF=>
 dA aE aF) fun aG dJ s=>
 mif aG (
 R (.returned (.tuple #[(.pointer none),(.int .i64 1)])) s) (
 m R (o_fieldAddr 62 b 3) s fun aH aI=>
 m R (o_load 58 aH) aI fun aJ aK=>
 m R (o_call (fv 76) [aJ,K]) aK fun aL aM=>
 m R (o_bin .lss 3 true aL (.int .i64 0)) aM fun aN c=>
 mif aN (
 R (.returned (.tuple #[(.pointer none),(.int .i64 12)])) c) (
 dq Tryz.prog c (o_load 62 b) fun aO=>
 dp Tryz.prog (o_fieldAddr 62 b 3) fun aP=>
 dq Tryz.prog c (o_load 58 aP) fun aQ=>
 df Tryz.prog c (o_call (fv 130) [aQ,c6]) true fun aR aS=>
 dp Tryz.prog (o_fieldAddr 123 i 6) fun aT=>
 dq Tryz.prog c (o_load 23 aT) fun aU=>
 dp Tryz.prog (o_build 67 [(0,aO),(1,K),(2,aR),(7,aU)]) fun aV=>
 df Tryz.prog aS (o_box 67 aV) false fun a aW=>
 dend aW fun aX=>
 m R (o_fieldAddr 62 b 3) aX fun aY aZ=>
 m R (o_load 58 aY) aZ fun a0 a1=>
 m R (o_call (fv 131) [a0]) a1 fun a2 a3=>
 m R (o_nilCheck a) a3 fun a4 a5=>
 m R (o_fieldAddr 67 a4 0) a5 fun a6 a7=>
 m R (o_fieldAddr 62 a6 3) a7 fun a8 a9=>
 m R (o_store 58 a8 a2) a9 fun _ bA=>
 m R (o_fieldAddr 123 i 3) bA fun bB bC=>
 m R (o_load 23 bB) bC fun bD bE=>
 m R (o_call (fv 132) [bD,(.int .i64 32)]) bE fun t bF=>
 m R (o_extract t 0) bF fun bG bH=>
 m R (o_extract t 1) bH fun dG bI=>
 m R (o_nilCheck a) bI fun bJ bK=>
 m R (o_fieldAddr 67 bJ 3) bK fun bL bM=>
 m R (o_store 64 bL bG) bM fun _ bN=>
 m R (o_nilCheck a) bN fun bO bP=>
 m R (o_fieldAddr 67 bO 0) bP fun bQ bR=>
 m R (o_fieldAddr 62 bQ 3) bR fun bS bT=>
 m R (o_fieldAddr 58 bS 0) bT fun bU bV=>
 m R (o_load 55 bU) bV fun u bW=>
 m R (o_builtin .len #[55] 3 [false] [u]) bW fun bX bY=>
 ml1 (.int .i64 0) bY fun g dK bZ j=>
 m R (o_bin .lss 3 false g bX) bZ fun b0 h=>
 mif b0 (
 m R (o_indexAddr 55 u g) h fun b1 b2=>
 m R (o_load 118 b1) b2 fun b3 b4=>
 m R (o_alloc 118) b4 fun v b5=>
 m R (o_store 118 v b3) b5 fun _ b6=>
 mj1 (fun x=>
 m R (o_fieldAddr 118 v 0) b6 fun b7 b8=>
 m R (o_load 3 b7) b8 fun b9 cA=>
 m R (o_bin .gtr 3 true b9 (.int .i64 0)) cA fun cB y=>
 mif cB (
 m R (o_fieldAddr 123 i 5) y fun cC cD=>
 m R (o_load 23 cC) cD fun cE cF=>
 m R (o_call (fv 133) [J,cE,g]) cF fun cG cH=>
 m R (o_call (fv 132) [cG,(.int .i64 8)]) cH fun z cI=>
 m R (o_extract z 0) cI fun cJ cK=>
 m R (o_extract z 1) cK fun dH cL=>
 x cJ cL) (
 x (.pointer none) y)) fun cM dI cN=>
 m R (o_nilCheck a) cN fun cO cP=>
 m R (o_fieldAddr 67 cO 5) cP fun cQ cR=>
 m R (o_load 65 cQ) cR fun cS cT=>
 m R (o_buildSlice 65 1 [(0,cM)]) cT fun cU cV=>
 m R (o_builtin .append #[65,65] 65 [false,false] [cS,cU]) cV fun cW cX=>
 m R (o_nilCheck a) cX fun A cY=>
 m R (o_fieldAddr 67 A 5) cY fun B cZ=>
 m R (o_store 65 B cW) cZ fun _ c0=>
 m R (o_bin .add 3 true g (.int .i64 1)) c0 fun C c1=>
 j C c1) (
 dp Tryz.prog (o_fieldAddr 62 b 0) fun D=>
 dq Tryz.prog h (o_load 23 D) fun E=>
 df Tryz.prog h (o_call (fv 135) [E]) true fun F c2=>
 dp Tryz.prog (o_bin .add 9 true (.string (ByteArray.mk #[101,112,111,99,104,32])) F) fun G=>
 dp Tryz.prog (o_fieldAddr 123 i 2) fun H=>
 dq Tryz.prog h (o_load 23 H) fun I=>
 df Tryz.prog c2 (o_call (fv 134) [J,G,I]) false fun dF c3=>
 dend c3 fun c4=>
 R (.returned (.tuple #[a,(.int .i64 0)])) c4)))
def A_era_Make:Ann:=⟨[(9,[75],P_ 103+P_ 16-P_ 75-P_ 13)],[(2,[16],68719411200),(14,[15],P_ 92+P_ 15-P_ 80)],[(5,[⟨0,.q (some 0),64,0,P_ 42⟩,⟨1,.q none,4,0,P_ 43⟩,⟨2,.q none,64,0,P_ 44⟩,⟨3,.q (some 0),P_ 44,4,P_ 45⟩,⟨4,.q none,8,0,P_ 46⟩,⟨5,.f 0 true,P_ 47-P_ 45,28,P_ 47⟩,⟨6,.q none,512,0,P_ 48⟩,⟨7,.q (some 0),P_ 48,64,P_ 49⟩,⟨8,.q none,716881581309952,255,P_ 50⟩,⟨9,.f 1 false,P_ 50,511,P_ 51⟩,⟨10,.q none,P_ 51,1023,4096⟩]),(16,[⟨0,.q none,1,0,P_ 103⟩,⟨1,.q none,64,0,P_ 104⟩,⟨2,.q (some 0),P_ 104,2,P_ 105⟩,⟨3,.f 0 true,P_ 105,6,P_ 106⟩,⟨4,.q none,P_ 106,14,P_ 107⟩,⟨5,.q none,512,0,P_ 108⟩,⟨6,.q (some 0),P_ 108,32,P_ 109⟩,⟨7,.f 1 false,P_ 109+P_ 107+P_ 103,127,P_ 110⟩])],[],[]⟩
theorem C_era_Make (h:F_era_Make x0 x1 x2 x3 x4 w R):Calls Tryz.prog 68 #[x0,x1,x2,x3,x4] w R:=cc A_era_Make [x0,x1,x2,x3,x4] Tryz.func68 h
def F_bevyref05_Verify (c:Value) (w:World) (R:Ending→World→Prop):Prop:=
 m R (o_box 22 c) w fun d e=>
 m R (o_alloc 22) e fun a f=>
 m R (o_load 22 d) f fun g h=>
 m R (o_call (fv 136) [g]) h fun i j=>
 m R (o_bin .add 9 true (.string (ByteArray.mk #[118,101,114])) i) j fun l n=>
 m R (o_call (fv 35) [l]) n fun o p=>
 m R (o_store 22 a o) p fun _ b=>
 rcell Tryz.prog 22 a b fun q=>
 R (.returned q) b
def A_bevyref05_Verify:Ann:=⟨[],[],[],[],[]⟩
theorem C_bevyref05_Verify (h:F_bevyref05_Verify x0 w R):Calls Tryz.prog 69 #[x0] w R:=cc A_bevyref05_Verify [x0] Tryz.func69 h
def F_bevylaw13_Deck (c:Value) (w:World) (R:Ending→World→Prop):Prop:=
 ml2 (.slice none 0 0) (.int .i64 0) w fun d a v l b=>
 m R (o_bin .lss 3 true a (.int .i64 3)) l fun n e=>
 mif n (
 m R (o_call (fv 137) [c,a]) e fun f o=>
 m R (o_call (fv 22) [c,a]) o fun g p=>
 m R (o_build 116 [(0,f),(1,g)]) p fun h q=>
 m R (o_buildSlice 111 1 [(0,h)]) q fun i r=>
 m R (o_builtin .append #[111,111] 111 [false,false] [d,i]) r fun j s=>
 m R (o_bin .add 3 true a (.int .i64 1)) s fun t u=>
 b j t u) (
 R (.returned d) e)
def A_bevylaw13_Deck:Ann:=⟨[(3,[3,4],524280)],[],[],[],[]⟩
theorem C_bevylaw13_Deck (h:F_bevylaw13_Deck x0 w R):Calls Tryz.prog 70 #[x0] w R:=cc A_bevylaw13_Deck [x0] Tryz.func70 h
def F_bevyref05_Pub (c:Value) (w:World) (R:Ending→World→Prop):Prop:=
 m R (o_box 22 c) w fun d e=>
 m R (o_alloc 22) e fun a f=>
 m R (o_load 22 d) f fun g h=>
 m R (o_call (fv 136) [g]) h fun i j=>
 m R (o_bin .add 9 true (.string (ByteArray.mk #[112,117,98])) i) j fun l n=>
 m R (o_call (fv 35) [l]) n fun o p=>
 m R (o_store 22 a o) p fun _ b=>
 rcell Tryz.prog 22 a b fun q=>
 R (.returned q) b
def A_bevyref05_Pub:Ann:=⟨[],[],[],[],[]⟩
theorem C_bevyref05_Pub (h:F_bevyref05_Pub x0 w R):Calls Tryz.prog 71 #[x0] w R:=cc A_bevyref05_Pub [x0] Tryz.func71 h
def F_era_Era_Place (b:Value) (w:World) (R:Ending→World→Prop):Prop:=
 m R (o_bin .eql 46 true b (.pointer none)) w fun g a=>
 mif g (
 R (.returned (.int .i64 (-1))) a) (
 dp Tryz.prog (o_nilCheck b) fun h=>
 dp Tryz.prog (o_fieldAddr 67 h 0) fun i=>
 dp Tryz.prog (o_fieldAddr 62 i 3) fun j=>
 dq Tryz.prog a (o_load 58 j) fun l=>
 dp Tryz.prog (o_nilCheck b) fun c=>
 dp Tryz.prog (o_fieldAddr 67 c 1) fun d=>
 dq Tryz.prog a (o_load 3 d) fun e=>
 df Tryz.prog a (o_call (fv 76) [l,e]) false fun f n=>
 dend n fun o=>
 R (.returned f) o)
def A_era_Era_Place:Ann:=⟨[],[],[(3,[⟨0,.q none,1,0,32⟩,⟨1,.q none,32,1,64⟩,⟨2,.q none,64,3,128⟩,⟨3,.q none,128,7,256⟩,⟨4,.q (some 0),256,15,512⟩,⟨5,.q none,1,0,1024⟩,⟨6,.q none,1024,32,2048⟩,⟨7,.q none,2048,96,4096⟩,⟨8,.q (some 0),4096,224,8192⟩,⟨9,.f 0 false,8704,511,16384⟩,⟨10,.q none,16384,1023,4⟩])],[],[]⟩
theorem C_era_Era_Place (h:F_era_Era_Place x0 w R):Calls Tryz.prog 72 #[x0] w R:=cc A_era_Era_Place [x0] Tryz.func72 h
def F_prim_Verify (c:Value) (w:World) (R:Ending→World→Prop):Prop:=
 m R (o_box 23 c) w fun d e=>
 m R (o_alloc 23) e fun a f=>
 m R (o_slice 23 d none none none) f fun g h=>
 m R (o_conv 89 9 g) h fun i j=>
 m R (o_buildSlice 41 2 [(0,(.string (ByteArray.mk #[118,101,114]))),(1,i)]) j fun l n=>
 m R (o_call (fv 34) [l]) n fun o p=>
 m R (o_store 23 a o) p fun _ b=>
 rcell Tryz.prog 23 a b fun q=>
 R (.returned q) b
def A_prim_Verify:Ann:=⟨[],[],[],[],[]⟩
theorem C_prim_Verify (h:F_prim_Verify x0 w R):Calls Tryz.prog 73 #[x0] w R:=cc A_prim_Verify [x0] Tryz.func73 h
def F_change_Fit (eC eD aZ eE eF eG n:Value) (w:World) (R:Ending→World→Prop):Prop:=
 m R (o_box 58 eC) w fun o eH=>
 m R (o_box 60 eD) eH fun a0 eI=>
 m R (o_box 23 eE) eI fun a1 eJ=>
 m R (o_load 58 o) eJ fun a2 eK=>
 m R (o_call (fv 127) [a2]) eK fun a3 eL=>
 m R (o_un .not a3) eL fun a4 a5=>
 mif a4 (
 R (.returned (.int .i64 1)) a5) (
 m R (o_builtin .len #[24] 3 [false] [n]) a5 fun a6 eM=>
 m R (o_bin .gtr 3 true a6 (.int .i64 16)) eM fun a7 a8=>
 mif a7 (
 R (.returned (.int .i64 5)) a8) (
 m R (o_makeMap 214 none) a8 fun u eN=>
 m R (o_builtin .len #[24] 3 [false] [n]) eN fun a9 bA=>
 ml1 (.int .i64 0) bA fun g eT bB t=>
 m R (o_bin .lss 3 false g a9) bB fun bC v=>
 mif bC (
 mj0 (fun x=>
 m R (o_indexAddr 24 n g) v fun bD bE=>
 m R (o_load 75 bD) bE fun bF bG=>
 m R (o_alloc 75) bG fun a bH=>
 m R (o_store 75 a bF) bH fun _ bI=>
 m R (o_load 58 o) bI fun bJ bK=>
 m R (o_fieldAddr 75 a 2) bK fun bL bM=>
 m R (o_load 3 bL) bM fun bN bO=>
 m R (o_call (fv 76) [bJ,bN]) bO fun y bP=>
 m R (o_load 75 a) bP fun bQ bR=>
 m R (o_call (fv 31) [bQ]) bR fun bS bT=>
 m R (o_un .not bS) bT fun bU z=>
 mif bU (
 R (.returned (.int .i64 3)) z) (
 mj1 (fun bV=>
 m R (o_fieldAddr 75 a 0) z fun bW bX=>
 m R (o_load 23 bW) bX fun bY bZ=>
 m R (o_load 23 a1) bZ fun b0 b1=>
 m R (o_bin .neq 23 false bY b0) b1 fun h A=>
 mguard h false (fun k=>m R (o_fieldAddr 75 a 1) A k) A fun b2 B=>
 mguard h false (fun k=>m R (o_load 3 b2) B k) B fun b3 C=>
 mguard h false (fun k=>m R (o_move eF) C k) C fun b4 D=>
 mguard h false (fun k=>m R (o_bin .neq 3 false b3 b4) D k) D fun b5 b6=>
 m R (o_pick h (.bool true) b5) b6 fun b7 b8=>
 bV b7 b8) fun b9 eP E=>
 mif b9 (
 R (.returned (.int .i64 1)) E) (
 m R (o_bin .lss 3 true y (.int .i64 0)) E fun cA i=>
 mif cA (
 R (.returned (.int .i64 12)) i) (
 dq Tryz.prog i (o_load 75 a) fun cB=>
 dp Tryz.prog (o_fieldAddr 58 o 0) fun cC=>
 dq Tryz.prog i (o_load 55 cC) fun cD=>
 dp Tryz.prog (o_indexAddr 55 cD y) fun cE=>
 dp Tryz.prog (o_fieldAddr 118 cE 2) fun cF=>
 dq Tryz.prog i (o_load 23 cF) fun cG=>
 df Tryz.prog i (o_call (fv 138) [cB,cG]) false fun cH cI=>
 dp Tryz.prog (o_un .not cH) fun cJ=>
 dend cI fun j=>
 mif cJ (
 R (.returned (.int .i64 18)) j) (
 mj1 (fun cK=>
 dp Tryz.prog (o_bin .gtr 3 true g (.int .i64 0)) fun b=>
 qguard b true (fun k=>dp Tryz.prog (o_move n) k) fun cL=>
 qguard b true (fun k=>dp Tryz.prog (o_move g) k) fun cM=>
 qguard b true (fun k=>dp Tryz.prog (o_bin .sub 3 true cM (.int .i64 1)) k) fun cN=>
 qguard b true (fun k=>dp Tryz.prog (o_indexAddr 24 cL cN) k) fun cO=>
 qguard b true (fun k=>dq Tryz.prog j (o_load 75 cO) k) fun cP=>
 qguard b true (fun k=>dq Tryz.prog j (o_load 75 a) k) fun cQ=>
 mguard b true (fun k=>df Tryz.prog j (o_call (fv 139) [cP,cQ]) false k) j fun cR l=>
 qguard b true (fun k=>dp Tryz.prog (o_un .not cR) k) fun cS=>
 dp Tryz.prog (o_pick b cS (.bool false)) fun d=>
 qguard d false (fun k=>dp Tryz.prog (o_move u) k) fun cT=>
 qguard d false (fun k=>dp Tryz.prog (o_fieldAddr 75 a 4) k) fun cU=>
 qguard d false (fun k=>dp Tryz.prog (o_fieldAddr 73 cU 1) k) fun cV=>
 qguard d false (fun k=>dq Tryz.prog l (o_load 3 cV) k) fun cW=>
 qguard d false (fun k=>dq Tryz.prog l (o_lookup 214 cT cW false) k) fun cX=>
 dp Tryz.prog (o_pick d (.bool true) cX) fun c=>
 qguard c false (fun k=>dp Tryz.prog (o_fieldAddr 75 a 4) k) fun cY=>
 qguard c false (fun k=>dp Tryz.prog (o_fieldAddr 73 cY 0) k) fun cZ=>
 qguard c false (fun k=>dq Tryz.prog l (o_load 3 cZ) k) fun c0=>
 qguard c false (fun k=>dp Tryz.prog (o_bin .neq 3 true c0 (.int .i64 1)) k) fun c1=>
 qguard c false (fun k=>dp Tryz.prog (o_move c1) k) fun e=>
 qguard e true (fun k=>dp Tryz.prog (o_fieldAddr 75 a 4) k) fun L=>
 qguard e true (fun k=>dp Tryz.prog (o_fieldAddr 73 L 1) k) fun M=>
 qguard e true (fun k=>dq Tryz.prog l (o_load 3 M) k) fun N=>
 qguard e true (fun k=>dp Tryz.prog (o_move eG) k) fun O=>
 qguard e true (fun k=>dp Tryz.prog (o_bin .eql 3 false N O) k) fun Q=>
 qguard c false (fun k=>dp Tryz.prog (o_pick e Q (.bool false)) k) fun S=>
 dp Tryz.prog (o_pick c (.bool true) S) fun T=>
 dend l fun c2=>
 cK T c2) fun c3 eQ F=>
 mif c3 (
 R (.returned (.int .i64 17)) F) (
 m R (o_fieldAddr 75 a 4) F fun U c4=>
 m R (o_fieldAddr 73 U 1) c4 fun V c5=>
 m R (o_load 3 V) c5 fun W c6=>
 m R (o_mapUpdate 214 u W (.bool true)) c6 fun _ c7=>
 m R (o_load 58 o) c7 fun X c8=>
 m R (o_fieldAddr 75 a 4) c8 fun Y c9=>
 m R (o_fieldAddr 73 Y 1) c9 fun Z dA=>
 m R (o_load 3 Z) dA fun aA dB=>
 m R (o_call (fv 76) [X,aA]) dB fun aB dC=>
 m R (o_bin .geq 3 true aB (.int .i64 0)) dC fun p dD=>
 mj1 (fun dE=>
 m R (o_fieldAddr 75 a 4) dD fun aC dF=>
 m R (o_fieldAddr 73 aC 0) dF fun aD dG=>
 m R (o_load 3 aD) dG fun aE dH=>
 m R (o_bin .eql 3 true aE (.int .i64 1)) dH fun q G=>
 mguard q true (fun k=>m R (o_move p) G k) G fun aF dI=>
 m R (o_pick q aF (.bool false)) dI fun aG dJ=>
 dE aG dJ) fun aH eR H=>
 mif aH (
 R (.returned (.int .i64 8)) H) (
 m R (o_fieldAddr 75 a 4) H fun aI dK=>
 m R (o_fieldAddr 73 aI 0) dK fun aJ dL=>
 m R (o_load 3 aJ) dL fun aK dM=>
 m R (o_bin .eql 3 true aK (.int .i64 1)) dM fun aL I=>
 mif aL (
 m R (o_load 60 a0) I fun aM dN=>
 m R (o_fieldAddr 75 a 4) dN fun aN dO=>
 m R (o_fieldAddr 73 aN 1) dO fun aO dP=>
 m R (o_load 3 aO) dP fun aP dQ=>
 m R (o_call (fv 140) [aM,aZ,aP]) dQ fun r dR=>
 m R (o_extract r 0) dR fun aQ dS=>
 m R (o_extract r 1) dS fun s dT=>
 m R (o_alloc 118) dT fun dU dV=>
 m R (o_store 118 dU aQ) dV fun _ dW=>
 m R (o_bin .neq 34 true s (.int .i64 0)) dW fun aR J=>
 mif aR (
 R (.returned s) J) (
 x J)) (
 m R (o_un .not p) I fun aS K=>
 mif aS (
 R (.returned (.int .i64 7)) K) (
 x K))))))))) fun eS dX=>
 m R (o_bin .add 3 true g (.int .i64 1)) dX fun aT dY=>
 t aT dY) (
 m R (o_load 58 o) v fun aU dZ=>
 m R (o_load 60 a0) dZ fun aV d0=>
 m R (o_call (fv 75) [aU,aV,aZ,n]) d0 fun f d1=>
 m R (o_extract f 0) d1 fun aW d2=>
 m R (o_extract f 1) d2 fun aX d3=>
 m R (o_extract f 2) d3 fun eO d4=>
 m R (o_extract f 3) d4 fun aY d5=>
 m R (o_alloc 58) d5 fun d6 d7=>
 m R (o_alloc 60) d7 fun d8 d9=>
 m R (o_store 58 d6 aW) d9 fun _ eA=>
 m R (o_store 60 d8 aX) eA fun _ eB=>
 R (.returned aY) eB)))
def A_change_Fit:Ann:=⟨[(7,[37],P_ 146+P_ 22+P_ 14-P_ 37-P_ 16)],[(30,[],P_ 145+P_ 22+P_ 14-P_ 39-P_ 16),(13,[50],P_ 61-P_ 50),(19,[74],P_ 107-P_ 74),(23,[117],P_ 125-P_ 117)],[(16,[⟨0,.q (some 0),131072,0,P_ 65⟩,⟨1,.q none,128,0,P_ 66⟩,⟨2,.q (some 0),P_ 66,2,P_ 67⟩,⟨3,.q none,262144,0,P_ 68⟩,⟨4,.q none,P_ 69-P_ 67,14,P_ 69⟩,⟨5,.q none,P_ 69,30,P_ 70⟩,⟨6,.q (some 0),P_ 70,62,P_ 71⟩,⟨7,.f 0 false,P_ 71+P_ 65,127,P_ 72⟩,⟨8,.q none,P_ 72,255,P_ 73⟩,⟨9,.q none,P_ 73,511,P_ 64⟩]),(18,[⟨0,.q none,65536,0,P_ 75⟩,⟨1,.q none,P_ 75,1,P_ 76⟩,⟨2,.q none,P_ 76,3,P_ 77⟩,⟨3,.q none,P_ 77+P_ 6,7,P_ 78⟩,⟨4,.q none,P_ 77+P_ 16,7,P_ 79⟩,⟨5,.q none,P_ 79+P_ 77,23,P_ 80⟩,⟨6,.q none,P_ 81-P_ 79-P_ 77,63,P_ 81⟩,⟨7,.q (some 0),P_ 81+P_ 77,127,P_ 82⟩,⟨8,.q (some 0),P_ 77+P_ 17,7,P_ 83⟩,⟨9,.f 0 false,P_ 84+P_ 77-P_ 82,511,P_ 84⟩,⟨10,.q none,P_ 84+P_ 77,1023,P_ 85⟩,⟨11,.q none,P_ 85+P_ 77,2047,P_ 86⟩,⟨12,.q none,P_ 86,4095,P_ 87⟩,⟨13,.q none,P_ 87+P_ 15,8191,P_ 88⟩,⟨14,.q none,P_ 87+P_ 17,8191,P_ 89⟩,⟨15,.q none,P_ 89+P_ 87,24575,P_ 90⟩,⟨16,.q (some 1),P_ 90+P_ 87,57343,P_ 91⟩,⟨17,.q (some 1),P_ 91+P_ 89-P_ 87,131071,P_ 92⟩,⟨18,.q none,P_ 92+P_ 87,262143,P_ 93⟩,⟨19,.q none,P_ 93,524287,P_ 94⟩,⟨20,.q none,P_ 94+P_ 17,1048575,P_ 95⟩,⟨21,.q none,P_ 96-P_ 94,2097151,P_ 96⟩,⟨22,.q (some 1),P_ 96+P_ 94,4194303,P_ 97⟩,⟨23,.q none,P_ 97+P_ 94,8388607,P_ 98⟩,⟨24,.q none,P_ 98+P_ 94,16777215,P_ 99⟩,⟨25,.q none,P_ 99+P_ 17,33554431,P_ 100⟩,⟨26,.q none,P_ 101-P_ 99,67108863,P_ 101⟩,⟨27,.q (some 1),P_ 101+P_ 99,134217727,P_ 102⟩,⟨28,.q none,P_ 99+P_ 5,33554431,P_ 103⟩,⟨29,.q none,P_ 104+P_ 99-P_ 102,536870911,P_ 104⟩,⟨30,.q none,P_ 104+P_ 99+P_ 94,1073741823,P_ 105⟩,⟨31,.q none,P_ 105+P_ 94,2147483647,P_ 106⟩,⟨32,.q none,P_ 106,4294967295,P_ 74⟩])],[],[]⟩
theorem C_change_Fit (h:F_change_Fit x0 x1 x2 x3 x4 x5 x6 w R):Calls Tryz.prog 74 #[x0,x1,x2,x3,x4,x5,x6] w R:=cc A_change_Fit [x0,x1,x2,x3,x4,x5,x6] Tryz.func74 h
def F_change_Apply (d1 d2 d3 aI:Value) (w:World) (R:Ending→World→Prop):Prop:=
 m R (o_box 58 d1) w fun a d4=>
 m R (o_box 60 d2) d4 fun z d5=>
 m R (o_alloc 58) d5 fun n d6=>
 m R (o_alloc 60) d6 fun o d7=>
 m R (o_load 58 a) d7 fun aJ d8=>
 m R (o_call (fv 127) [aJ]) d8 fun aK d9=>
 m R (o_un .not aK) d9 fun aL A=>
 mif aL (
 m R (o_build 58 []) A fun aM eA=>
 m R (o_build 60 []) eA fun aN eB=>
 m R (o_store 58 n aM) eB fun _ aO=>
 m R (o_store 60 o aN) aO fun _ p=>
 rcell Tryz.prog 58 n p fun q=>
 rcell Tryz.prog 60 o p fun r=>
 R (.returned (.tuple #[q,r,(.slice none 0 0),(.int .i64 1)])) p) (
 dp Tryz.prog (o_fieldAddr 58 a 0) fun aP=>
 dq Tryz.prog A (o_load 55 aP) fun aQ=>
 df Tryz.prog A (o_call (fv 141) [aQ]) true fun aR aS=>
 dp Tryz.prog (o_fieldAddr 58 a 1) fun aT=>
 dq Tryz.prog A (o_load 56 aT) fun aU=>
 df Tryz.prog aS (o_call (fv 142) [aU]) false fun aV aW=>
 dp Tryz.prog (o_fieldAddr 58 a 0) fun aX=>
 df Tryz.prog aW (o_store 55 aX aR) false fun _ aY=>
 dp Tryz.prog (o_fieldAddr 58 a 1) fun aZ=>
 df Tryz.prog aY (o_store 56 aZ aV) false fun _ a0=>
 dend a0 fun a1=>
 m R (o_fieldAddr 58 a 1) a1 fun a2 a3=>
 m R (o_load 56 a2) a3 fun a4 a5=>
 m R (o_builtin .len #[56] 3 [false] [a4]) a5 fun a6 a7=>
 ml1 (.int .i64 0) a7 fun j eE a8 B=>
 m R (o_bin .lss 3 false j a6) a8 fun a9 f=>
 mif a9 (
 dp Tryz.prog (o_fieldAddr 58 a 1) fun bA=>
 dq Tryz.prog f (o_load 56 bA) fun bB=>
 dp Tryz.prog (o_fieldAddr 58 a 1) fun bC=>
 dq Tryz.prog f (o_load 56 bC) fun bD=>
 dp Tryz.prog (o_indexAddr 56 bD j) fun bE=>
 dp Tryz.prog (o_fieldAddr 222 bE 3) fun bF=>
 dq Tryz.prog f (o_load 133 bF) fun bG=>
 df Tryz.prog f (o_call (fv 143) [bG]) true fun bH bI=>
 dp Tryz.prog (o_indexAddr 56 bB j) fun bJ=>
 dp Tryz.prog (o_fieldAddr 222 bJ 3) fun bK=>
 df Tryz.prog bI (o_store 133 bK bH) false fun _ bL=>
 dend bL fun bM=>
 m R (o_bin .add 3 true j (.int .i64 1)) bM fun bN bO=>
 B bN bO) (
 m R (o_builtin .len #[24] 3 [false] [aI]) f fun bP bQ=>
 ml2 (.slice none 0 0) (.int .i64 0) bQ fun b s eC bR t=>
 m R (o_bin .lss 3 false s bP) bR fun bS l=>
 mif bS (
 m R (o_indexAddr 24 aI s) l fun bT bU=>
 m R (o_load 75 bT) bU fun bV bW=>
 m R (o_alloc 75) bW fun C bX=>
 m R (o_store 75 C bV) bX fun _ bY=>
 m R (o_fieldAddr 75 C 4) bY fun bZ b0=>
 m R (o_load 73 bZ) b0 fun b1 b2=>
 m R (o_alloc 73) b2 fun c b3=>
 m R (o_store 73 c b1) b3 fun _ b4=>
 mj2 (fun d=>
 m R (o_fieldAddr 73 c 0) b4 fun b5 b6=>
 m R (o_load 3 b5) b6 fun u b7=>
 m R (o_bin .eql 3 true u (.int .i64 2)) b7 fun b8 e=>
 mif b8 (
 dq Tryz.prog e (o_load 58 a) fun b9=>
 dq Tryz.prog e (o_load 58 a) fun cA=>
 dp Tryz.prog (o_fieldAddr 73 c 1) fun cB=>
 dq Tryz.prog e (o_load 3 cB) fun cC=>
 df Tryz.prog e (o_call (fv 76) [cA,cC]) true fun cD cE=>
 dp Tryz.prog (o_fieldAddr 73 c 2) fun cF=>
 dq Tryz.prog e (o_load 23 cF) fun cG=>
 df Tryz.prog cE (o_call (fv 144) [b9,cD,cG]) false fun D cH=>
 dp Tryz.prog (o_extract D 0) fun cI=>
 dp Tryz.prog (o_extract D 1) fun cJ=>
 df Tryz.prog cH (o_store 58 a cI) false fun _ cK=>
 dend cK fun cL=>
 d b cJ cL) (
 m R (o_bin .eql 3 true u (.int .i64 3)) e fun cM g=>
 mif cM (
 dq Tryz.prog g (o_load 58 a) fun cN=>
 dq Tryz.prog g (o_load 58 a) fun cO=>
 dp Tryz.prog (o_fieldAddr 73 c 1) fun cP=>
 dq Tryz.prog g (o_load 3 cP) fun cQ=>
 df Tryz.prog g (o_call (fv 76) [cO,cQ]) true fun cR cS=>
 df Tryz.prog cS (o_call (fv 145) [cN,cR]) false fun E cT=>
 dp Tryz.prog (o_extract E 0) fun cU=>
 dp Tryz.prog (o_extract E 1) fun cV=>
 df Tryz.prog cT (o_store 58 a cU) false fun _ cW=>
 dend cW fun cX=>
 d b cV cX) (
 m R (o_bin .eql 3 true u (.int .i64 1)) g fun cY F=>
 mif cY (
 m R (o_alloc 118) F fun G cZ=>
 m R (o_load 60 z) cZ fun c0 c1=>
 m R (o_fieldAddr 73 c 1) c1 fun c2 c3=>
 m R (o_load 3 c2) c3 fun c4 c5=>
 m R (o_call (fv 140) [c0,d3,c4]) c5 fun H c6=>
 m R (o_extract H 0) c6 fun c7 c8=>
 m R (o_extract H 1) c8 fun I c9=>
 m R (o_store 118 G c7) c9 fun _ dA=>
 m R (o_bin .eql 34 true I (.int .i64 0)) dA fun dB J=>
 mif dB (
 m R (o_load 58 a) J fun dC dD=>
 m R (o_load 118 G) dD fun N dE=>
 m R (o_call (fv 146) [dC,N]) dE fun h dF=>
 m R (o_extract h 0) dF fun O dG=>
 m R (o_extract h 1) dG fun Q dH=>
 m R (o_extract h 2) dH fun i dI=>
 m R (o_store 58 a O) dI fun _ dJ=>
 m R (o_bin .eql 34 true i (.int .i64 0)) dJ fun T K=>
 mif T (
 m R (o_fieldAddr 73 c 1) K fun U dK=>
 m R (o_load 3 U) dK fun V dL=>
 m R (o_bin .sub 3 true V (.int .i64 1)) dL fun v dM=>
 m R (o_indexAddr 60 z v) dM fun W dN=>
 m R (o_load 3 W) dN fun X dO=>
 m R (o_bin .add 3 true X (.int .i64 1)) dO fun Y dP=>
 m R (o_indexAddr 60 z v) dP fun Z dQ=>
 m R (o_store 3 Z Y) dQ fun _ dR=>
 m R (o_buildSlice 133 1 [(0,Q)]) dR fun aA dS=>
 m R (o_builtin .append #[133,133] 133 [false,false] [b,aA]) dS fun aB dT=>
 d aB i dT) (
 d b i K)) (
 d b I J)) (
 d b (.int .i64 7) F)))) fun b L eD dU=>
 m R (o_bin .neq 34 true L (.int .i64 0)) dU fun aC M=>
 mif aC (
 m R (o_build 58 []) M fun aD dV=>
 m R (o_build 60 []) dV fun aE dW=>
 m R (o_store 58 n aD) dW fun _ dX=>
 m R (o_store 60 o aE) dX fun _ x=>
 rcell Tryz.prog 58 n x fun q=>
 rcell Tryz.prog 60 o x fun r=>
 R (.returned (.tuple #[q,r,(.slice none 0 0),L])) x) (
 m R (o_bin .add 3 true s (.int .i64 1)) M fun aF dY=>
 t b aF dY)) (
 ∃ S:Rl,
 dqS Tryz.prog S l (o_load 58 a) fun aG=>
 dqS Tryz.prog S l (o_load 60 z) fun aH=>
 dfS Tryz.prog S l (o_store 58 n aG) true fun _ dZ=>
 dfS Tryz.prog S dZ (o_store 60 o aH) false fun _ d0=>
 dend d0 fun y=>
 rcell Tryz.prog 58 n y fun q=>
 rcell Tryz.prog 60 o y fun r=>
 R (.returned (.tuple #[q,r,b,(.int .i64 0)])) y)))
def A_change_Apply:Ann:=⟨[(6,[36],4503530907901952),(11,[12,54],21267647932558653966442898565977054208)],[(30,[12,17],P_ 118+P_ 20+P_ 12-P_ 60-P_ 17)],[(4,[⟨0,.q none,16,0,33554432⟩,⟨1,.q (some 0),33554432,1,67108864⟩,⟨2,.f 0 true,67108864,3,P_ 27⟩,⟨3,.q none,16,0,P_ 28⟩,⟨4,.q (some 0),P_ 28,8,P_ 29⟩,⟨5,.f 1 false,P_ 29,31,P_ 30⟩,⟨6,.q none,16,31,P_ 31⟩,⟨7,.f 2 false,2281701376,127,0⟩,⟨8,.q none,16,255,P_ 32⟩,⟨9,.f 3 false,5368709120,511,0⟩]),(8,[⟨0,.q none,16,0,P_ 39⟩,⟨1,.q (some 0),P_ 39,1,P_ 40⟩,⟨2,.q none,8192,0,P_ 41⟩,⟨3,.q none,16,0,P_ 42⟩,⟨4,.q (some 0),P_ 42,8,P_ 43⟩,⟨5,.q none,8192,0,P_ 44⟩,⟨6,.q none,P_ 45-P_ 43,56,P_ 45⟩,⟨7,.q none,P_ 45,120,P_ 46⟩,⟨8,.q (some 0),P_ 46,248,P_ 47⟩,⟨9,.f 0 true,P_ 47,504,P_ 48⟩,⟨10,.q none,3298534883328,1023,P_ 49⟩,⟨11,.q none,P_ 49,2047,P_ 50⟩,⟨12,.f 1 false,P_ 50+P_ 48,4095,0⟩]),(18,[⟨0,.q (some 0),16,0,P_ 65⟩,⟨1,.q (some 0),16,0,P_ 66⟩,⟨2,.q none,65536,0,P_ 67⟩,⟨3,.q (some 0),P_ 67,4,P_ 68⟩,⟨4,.f 0 true,P_ 68+P_ 66,14,P_ 69⟩,⟨5,.q none,65536,0,P_ 70⟩,⟨6,.q (some 0),P_ 70,32,P_ 71⟩,⟨7,.f 1 false,P_ 71+P_ 69+P_ 65,127,P_ 72⟩,⟨8,.q none,P_ 72,255,P_ 64⟩,⟨9,.q none,P_ 64,511,P_ 73⟩,⟨10,.q none,P_ 64,511,P_ 74⟩,⟨11,.f 2 false,P_ 73+P_ 4,1023,0⟩,⟨12,.q none,P_ 74,4095,131072⟩]),(20,[⟨0,.q (some 0),16,0,P_ 78⟩,⟨1,.q (some 0),16,0,P_ 79⟩,⟨2,.q none,65536,0,P_ 80⟩,⟨3,.q (some 0),P_ 80,4,P_ 81⟩,⟨4,.f 0 true,P_ 81+P_ 79,14,P_ 82⟩,⟨5,.f 1 false,P_ 82+P_ 78,31,P_ 83⟩,⟨6,.q none,P_ 83,63,P_ 77⟩,⟨7,.q none,P_ 77,127,P_ 84⟩,⟨8,.q none,P_ 77,127,P_ 85⟩,⟨9,.f 2 false,P_ 84+P_ 4,255,0⟩,⟨10,.q none,P_ 85,1023,131072⟩]),(33,[⟨0,.q (some 0),16,0,P_ 124⟩,⟨1,.q (some 0),32,0,P_ 125⟩,⟨2,.q none,4096,0,P_ 126⟩,⟨3,.f 0 true,P_ 124+P_ 8,1,0⟩,⟨4,.f 1 false,P_ 125+P_ 9,11,0⟩,⟨5,.q none,P_ 126,31,1024⟩,⟨6,.q none,0,63,2048⟩])],[],[33]⟩
theorem C_change_Apply (h:F_change_Apply x0 x1 x2 x3 w R):Calls Tryz.prog 75 #[x0,x1,x2,x3] w R:=cc A_change_Apply [x0,x1,x2,x3] Tryz.func75 h
def F_tree_Place (e f:Value) (w:World) (R:Ending→World→Prop):Prop:=
 m R (o_box 58 e) w fun g h=>
 m R (o_box 3 f) h fun a i=>
 m R (o_load 3 a) i fun j l=>
 m R (o_bin .lss 3 true j (.int .i64 1)) l fun n b=>
 mif n (
 R (.returned (.int .i64 (-1))) b) (
 m R (o_load 58 g) b fun o p=>
 m R (o_call (fv 123) [o]) p fun q r=>
 m R (o_field 58 q 0) r fun s t=>
 m R (o_func (.func 148) [] [a]) t fun c u=>
 m R (o_call (fv 147) [s,c]) u fun d v=>
 R (.returned d) v)
def A_tree_Place:Ann:=⟨[],[],[],[],[]⟩
theorem C_tree_Place (h:F_tree_Place x0 x1 w R):Calls Tryz.prog 76 #[x0,x1] w R:=cc A_tree_Place [x0,x1] Tryz.func76 h
def F_climb_Grow (d gA N gB X gC:Value) (w:World) (R:Ending→World→Prop):Prop:=
 m R (o_box 58 gA) w fun W gD=>
 m R (o_box 23 gB) gD fun O gE=>
 m R (o_alloc 139) gE fun I gF=>
 m R (o_load 58 W) gF fun c2 gG=>
 m R (o_call (fv 127) [c2]) gG fun c3 gH=>
 m R (o_un .not c3) gH fun c4 c5=>
 mif c4 (
 m R (o_build 139 []) c5 fun c6 gI=>
 m R (o_store 139 I c6) gI fun _ c7=>
 rcell Tryz.prog 139 I c7 fun J=>
 R (.returned (.tuple #[J,(.int .i64 1)])) c7) (
 m R (o_load 58 W) c5 fun c8 gJ=>
 m R (o_call (fv 149) [c8,N]) gJ fun c9 aI=>
 mif c9 (
 m R (o_build 139 []) aI fun dA dB=>
 m R (o_store 139 I dA) dB fun _ aJ=>
 rcell Tryz.prog 139 I aJ fun J=>
 R (.returned (.tuple #[J,(.int .i64 7)])) aJ) (
 m R (o_builtin .len #[9] 3 [false] [X]) aI fun dC dD=>
 m R (o_bin .gtr 3 true dC (.int .i64 65536)) dD fun dE aK=>
 mif dE (
 m R (o_build 139 []) aK fun dF dG=>
 m R (o_store 139 I dF) dG fun _ aL=>
 rcell Tryz.prog 139 I aL fun J=>
 R (.returned (.tuple #[J,(.int .i64 5)])) aL) (
 m R (o_fieldAddr 58 W 0) aK fun dH dI=>
 m R (o_load 55 dH) dI fun dJ dK=>
 m R (o_builtin .len #[55] 3 [false] [dJ]) dK fun dL dM=>
 m R (o_call (fv 89) [dL,N]) dM fun M e=>
 mj3 (fun Y=>
 ∃ S:Rl,
 ((
 dp Tryz.prog (o_bin .mul 3 true (.int .i64 2) N) fun y=>
 dqS Tryz.prog S e (o_load 23 O) fun z=>
 dfS Tryz.prog S e (o_buildSlice 133 1 [(0,y)]) true fun A dN=>
 dfS Tryz.prog S dN (o_builtin .append #[133,133] 133 [false,false] [A,M]) true fun B dO=>
 dfS Tryz.prog S dO (o_call (fv 67) [d,z,(.string (ByteArray.mk #[108,101,97,102])),(.string (ByteArray.mk #[]))]) false fun C dP=>
 dfS Tryz.prog S dP (o_call (fv 150) [d,B,C]) false fun b dQ=>
 dp Tryz.prog (o_extract b 0) fun D=>
 dp Tryz.prog (o_extract b 1) fun E=>
 dp Tryz.prog (o_extract b 2) fun F=>
 dfS Tryz.prog S dQ (o_alloc 23) true fun c dR=>
 dfS Tryz.prog S dR (o_store 23 c F) false fun _ dS=>
 dend dS fun dT=>
 Y D E c dT)∧(
 dp Tryz.prog (o_bin .mul 3 true (.int .i64 2) N) fun y=>
 dqS Tryz.prog S e (o_load 23 O) fun z=>
 dfS Tryz.prog S e (o_buildSlice 133 1 [(0,y)]) true fun A dU=>
 dfS Tryz.prog S dU (o_builtin .append #[133,133] 133 [false,false] [A,M]) true fun B dV=>
 dfS Tryz.prog S dV (o_call (fv 67) [d,z,(.string (ByteArray.mk #[108,101,97,102])),(.string (ByteArray.mk #[]))]) false fun C dW=>
 dfS Tryz.prog S dW (o_alloc 23) true fun c dX=>
 dfS Tryz.prog S dX (o_call (fv 150) [d,B,C]) false fun b dY=>
 dp Tryz.prog (o_extract b 0) fun D=>
 dp Tryz.prog (o_extract b 1) fun E=>
 dp Tryz.prog (o_extract b 2) fun F=>
 dfS Tryz.prog S dY (o_store 23 c F) false fun _ dZ=>
 dend dZ fun d0=>
 Y D E c d0)∧(
 dp Tryz.prog (o_bin .mul 3 true (.int .i64 2) N) fun y=>
 dqS Tryz.prog S e (o_load 23 O) fun z=>
 dfS Tryz.prog S e (o_buildSlice 133 1 [(0,y)]) true fun A d1=>
 dfS Tryz.prog S d1 (o_builtin .append #[133,133] 133 [false,false] [A,M]) true fun B d2=>
 dfS Tryz.prog S d2 (o_alloc 23) true fun c d3=>
 dfS Tryz.prog S d3 (o_call (fv 67) [d,z,(.string (ByteArray.mk #[108,101,97,102])),(.string (ByteArray.mk #[]))]) false fun C d4=>
 dfS Tryz.prog S d4 (o_call (fv 150) [d,B,C]) false fun b d5=>
 dp Tryz.prog (o_extract b 0) fun D=>
 dp Tryz.prog (o_extract b 1) fun E=>
 dp Tryz.prog (o_extract b 2) fun F=>
 dfS Tryz.prog S d5 (o_store 23 c F) false fun _ d6=>
 dend d6 fun d7=>
 Y D E c d7)∧(
 dp Tryz.prog (o_bin .mul 3 true (.int .i64 2) N) fun y=>
 dqS Tryz.prog S e (o_load 23 O) fun z=>
 dfS Tryz.prog S e (o_buildSlice 133 1 [(0,y)]) true fun A d8=>
 dfS Tryz.prog S d8 (o_alloc 23) true fun c d9=>
 dfS Tryz.prog S d9 (o_builtin .append #[133,133] 133 [false,false] [A,M]) true fun B eA=>
 dfS Tryz.prog S eA (o_call (fv 67) [d,z,(.string (ByteArray.mk #[108,101,97,102])),(.string (ByteArray.mk #[]))]) false fun C eB=>
 dfS Tryz.prog S eB (o_call (fv 150) [d,B,C]) false fun b eC=>
 dp Tryz.prog (o_extract b 0) fun D=>
 dp Tryz.prog (o_extract b 1) fun E=>
 dp Tryz.prog (o_extract b 2) fun F=>
 dfS Tryz.prog S eC (o_store 23 c F) false fun _ eD=>
 dend eD fun eE=>
 Y D E c eE)∧(
 dp Tryz.prog (o_bin .mul 3 true (.int .i64 2) N) fun y=>
 dqS Tryz.prog S e (o_load 23 O) fun z=>
 dfS Tryz.prog S e (o_alloc 23) true fun c eF=>
 dfS Tryz.prog S eF (o_buildSlice 133 1 [(0,y)]) true fun A eG=>
 dfS Tryz.prog S eG (o_builtin .append #[133,133] 133 [false,false] [A,M]) true fun B eH=>
 dfS Tryz.prog S eH (o_call (fv 67) [d,z,(.string (ByteArray.mk #[108,101,97,102])),(.string (ByteArray.mk #[]))]) false fun C eI=>
 dfS Tryz.prog S eI (o_call (fv 150) [d,B,C]) false fun b eJ=>
 dp Tryz.prog (o_extract b 0) fun D=>
 dp Tryz.prog (o_extract b 1) fun E=>
 dp Tryz.prog (o_extract b 2) fun F=>
 dfS Tryz.prog S eJ (o_store 23 c F) false fun _ eK=>
 dend eK fun eL=>
 Y D E c eL))) fun aM Z c gQ eM=>
 m R (o_alloc 139) eM fun K eN=>
 m R (o_builtin .len #[63] 3 [false] [Z]) eN fun eO eP=>
 ml2 (.slice none 0 0) (.int .i64 0) eP fun T aA gM eQ aB=>
 m R (o_bin .lss 3 false aA eO) eQ fun eR aN=>
 mif eR (
 m R (o_indexAddr 63 Z aA) aN fun eS eT=>
 m R (o_load 128 eS) eT fun eU eV=>
 m R (o_alloc 128) eV fun aO eW=>
 m R (o_store 128 aO eU) eW fun _ eX=>
 m R (o_fieldAddr 128 aO 1) eX fun eY eZ=>
 m R (o_load 23 eY) eZ fun e0 e1=>
 m R (o_call (fv 62) [d,e0]) e1 fun e2 e3=>
 m R (o_buildSlice 137 1 [(0,e2)]) e3 fun e4 e5=>
 m R (o_builtin .append #[137,137] 137 [false,false] [T,e4]) e5 fun e6 e7=>
 m R (o_bin .add 3 true aA (.int .i64 1)) e7 fun e8 e9=>
 aB e6 e8 e9) (
 m R (o_load 58 W) aN fun fA fB=>
 m R (o_call (fv 151) [fA,N,M,gC]) fB fun aP fC=>
 m R (o_builtin .len #[234] 3 [false] [aP]) fC fun fD fE=>
 ml1 (.int .i64 0) fE fun G gN fF aC=>
 m R (o_bin .lss 3 false G fD) fF fun fG U=>
 mif fG (
 m R (o_indexAddr 234 aP G) U fun fH fI=>
 m R (o_load 133 fH) fI fun aQ fJ=>
 m R (o_bin .add 3 true G (.int .i64 1)) fJ fun fK fL=>
 m R (o_indexAddr 137 T fK) fL fun fM fN=>
 m R (o_load 23 fM) fN fun fO fP=>
 m R (o_build 43 [(0,fO)]) fP fun fQ fR=>
 m R (o_alloc 43) fR fun f fS=>
 m R (o_store 43 f fQ) fS fun _ fT=>
 m R (o_builtin .len #[133] 3 [false] [aQ]) fT fun fU fV=>
 ml1 (.int .i64 0) fV fun L gO fW aD=>
 m R (o_bin .lss 3 false L fU) fW fun fX aR=>
 mif fX (
 mj0 (fun V=>
 m R (o_indexAddr 133 aQ L) aR fun aS fY=>
 m R (o_load 3 aS) fY fun aT fZ=>
 m R (o_load 58 W) fZ fun aU f0=>
 m R (o_call (fv 152) [aU,aT]) f0 fun aE f1=>
 m R (o_extract aE 0) f1 fun aV f2=>
 m R (o_extract aE 1) f2 fun gK f3=>
 m R (o_alloc 23) f3 fun Q f4=>
 m R (o_store 23 Q aV) f4 fun _ f5=>
 m R (o_bin .add 3 true G (.int .i64 1)) f5 fun aW f6=>
 m R (o_indexAddr 137 aM aW) f6 fun aX f7=>
 m R (o_load 23 aX) f7 fun aY f8=>
 m R (o_alloc 23) f8 fun H f9=>
 m R (o_store 23 H aY) f9 fun _ a=>
 ((
 dp Tryz.prog (o_fieldAddr 43 f 1) fun g=>
 dq Tryz.prog a (o_load 41 g) fun h=>
 dq Tryz.prog a (o_load 23 Q) fun i=>
 dq Tryz.prog a (o_load 23 O) fun j=>
 dp Tryz.prog (o_slice 23 H none none none) fun l=>
 dq Tryz.prog a (o_conv 89 9 l) fun n=>
 dq Tryz.prog a (o_load 23 H) fun o=>
 df Tryz.prog a (o_buildSlice 133 2 [(0,G),(1,L)]) true fun p aZ=>
 df Tryz.prog aZ (o_call (fv 153) [p]) true fun q a0=>
 df Tryz.prog a0 (o_call (fv 67) [d,j,(.string (ByteArray.mk #[119,114,97,112])),q]) true fun r a1=>
 df Tryz.prog a1 (o_buildSlice 137 1 [(0,o)]) true fun s a2=>
 df Tryz.prog a2 (o_call (fv 93) [d,i,r,X,n,s]) true fun t a3=>
 df Tryz.prog a3 (o_buildSlice 41 1 [(0,t)]) true fun u a4=>
 df Tryz.prog a4 (o_builtin .append #[41,41] 41 [false,false] [h,u]) false fun v a5=>
 dp Tryz.prog (o_fieldAddr 43 f 1) fun x=>
 df Tryz.prog a5 (o_store 41 x v) false fun _ a6=>
 dend a6 fun a7=>
 V a7)∧(
 dp Tryz.prog (o_fieldAddr 43 f 1) fun g=>
 dq Tryz.prog a (o_load 41 g) fun h=>
 dq Tryz.prog a (o_load 23 Q) fun i=>
 dq Tryz.prog a (o_load 23 O) fun j=>
 dp Tryz.prog (o_slice 23 H none none none) fun l=>
 dq Tryz.prog a (o_conv 89 9 l) fun n=>
 dq Tryz.prog a (o_load 23 H) fun o=>
 df Tryz.prog a (o_buildSlice 133 2 [(0,G),(1,L)]) true fun p a8=>
 df Tryz.prog a8 (o_call (fv 153) [p]) true fun q a9=>
 df Tryz.prog a9 (o_buildSlice 137 1 [(0,o)]) true fun s bA=>
 df Tryz.prog bA (o_call (fv 67) [d,j,(.string (ByteArray.mk #[119,114,97,112])),q]) true fun r bB=>
 df Tryz.prog bB (o_call (fv 93) [d,i,r,X,n,s]) true fun t bC=>
 df Tryz.prog bC (o_buildSlice 41 1 [(0,t)]) true fun u bD=>
 df Tryz.prog bD (o_builtin .append #[41,41] 41 [false,false] [h,u]) false fun v bE=>
 dp Tryz.prog (o_fieldAddr 43 f 1) fun x=>
 df Tryz.prog bE (o_store 41 x v) false fun _ bF=>
 dend bF fun bG=>
 V bG)∧(
 dp Tryz.prog (o_fieldAddr 43 f 1) fun g=>
 dq Tryz.prog a (o_load 41 g) fun h=>
 dq Tryz.prog a (o_load 23 Q) fun i=>
 dq Tryz.prog a (o_load 23 O) fun j=>
 dp Tryz.prog (o_slice 23 H none none none) fun l=>
 dq Tryz.prog a (o_conv 89 9 l) fun n=>
 dq Tryz.prog a (o_load 23 H) fun o=>
 df Tryz.prog a (o_buildSlice 133 2 [(0,G),(1,L)]) true fun p bH=>
 df Tryz.prog bH (o_buildSlice 137 1 [(0,o)]) true fun s bI=>
 df Tryz.prog bI (o_call (fv 153) [p]) true fun q bJ=>
 df Tryz.prog bJ (o_call (fv 67) [d,j,(.string (ByteArray.mk #[119,114,97,112])),q]) true fun r bK=>
 df Tryz.prog bK (o_call (fv 93) [d,i,r,X,n,s]) true fun t bL=>
 df Tryz.prog bL (o_buildSlice 41 1 [(0,t)]) true fun u bM=>
 df Tryz.prog bM (o_builtin .append #[41,41] 41 [false,false] [h,u]) false fun v bN=>
 dp Tryz.prog (o_fieldAddr 43 f 1) fun x=>
 df Tryz.prog bN (o_store 41 x v) false fun _ bO=>
 dend bO fun bP=>
 V bP)∧(
 dp Tryz.prog (o_fieldAddr 43 f 1) fun g=>
 dq Tryz.prog a (o_load 41 g) fun h=>
 dq Tryz.prog a (o_load 23 Q) fun i=>
 dq Tryz.prog a (o_load 23 O) fun j=>
 dp Tryz.prog (o_slice 23 H none none none) fun l=>
 dq Tryz.prog a (o_conv 89 9 l) fun n=>
 dq Tryz.prog a (o_load 23 H) fun o=>
 df Tryz.prog a (o_buildSlice 137 1 [(0,o)]) true fun s bQ=>
 df Tryz.prog bQ (o_buildSlice 133 2 [(0,G),(1,L)]) true fun p bR=>
 df Tryz.prog bR (o_call (fv 153) [p]) true fun q bS=>
 df Tryz.prog bS (o_call (fv 67) [d,j,(.string (ByteArray.mk #[119,114,97,112])),q]) true fun r bT=>
 df Tryz.prog bT (o_call (fv 93) [d,i,r,X,n,s]) true fun t bU=>
 df Tryz.prog bU (o_buildSlice 41 1 [(0,t)]) true fun u bV=>
 df Tryz.prog bV (o_builtin .append #[41,41] 41 [false,false] [h,u]) false fun v bW=>
 dp Tryz.prog (o_fieldAddr 43 f 1) fun x=>
 df Tryz.prog bW (o_store 41 x v) false fun _ bX=>
 dend bX fun bY=>
 V bY))) fun gP bZ=>
 m R (o_bin .add 3 true L (.int .i64 1)) bZ fun b0 b1=>
 aD b0 b1) (
 m R (o_fieldAddr 139 K 1) aR fun b2 b3=>
 m R (o_load 25 b2) b3 fun b4 b5=>
 m R (o_load 43 f) b5 fun b6 b7=>
 m R (o_buildSlice 25 1 [(0,b6)]) b7 fun b8 b9=>
 m R (o_builtin .append #[25,25] 25 [false,false] [b4,b8]) b9 fun cA cB=>
 m R (o_fieldAddr 139 K 1) cB fun cC cD=>
 m R (o_store 25 cC cA) cD fun _ cE=>
 m R (o_bin .add 3 true G (.int .i64 1)) cE fun cF cG=>
 aC cF cG)) (
 dq Tryz.prog U (o_load 58 W) fun cH=>
 dp Tryz.prog (o_indexAddr 137 T (.int .i64 0)) fun cI=>
 dq Tryz.prog U (o_load 23 cI) fun cJ=>
 dp Tryz.prog (o_slice 137 T (some (.int .i64 1)) none none) fun cK=>
 df Tryz.prog U (o_call (fv 154) [cH,N,cJ,cK]) false fun aF cL=>
 dp Tryz.prog (o_extract aF 0) fun cM=>
 dp Tryz.prog (o_extract aF 1) fun gL=>
 dp Tryz.prog (o_fieldAddr 139 K 0) fun cN=>
 df Tryz.prog cL (o_store 58 cN cM) false fun _ cO=>
 dend cO fun aG=>
 ∃ S:Rl,
 dp Tryz.prog (o_slice 137 aM (some (.int .i64 1)) none none) fun cP=>
 dqS Tryz.prog S aG (o_load 23 c) fun cQ=>
 dfS Tryz.prog S aG (o_call (fv 155) [Z]) true fun cR cS=>
 dp Tryz.prog (o_fieldAddr 139 K 2) fun cT=>
 dfS Tryz.prog S cS (o_store 137 cT cP) true fun _ cU=>
 dp Tryz.prog (o_fieldAddr 139 K 4) fun cV=>
 dfS Tryz.prog S cU (o_store 23 cV cQ) false fun _ cW=>
 dp Tryz.prog (o_fieldAddr 139 K 3) fun cX=>
 dfS Tryz.prog S cW (o_store 63 cX cR) false fun _ cY=>
 dend cY fun cZ=>
 m R (o_load 139 K) cZ fun c0 c1=>
 m R (o_store 139 I c0) c1 fun _ aH=>
 rcell Tryz.prog 139 I aH fun J=>
 R (.returned (.tuple #[J,(.int .i64 0)])) aH)))))
def A_climb_Grow:Ann:=⟨[(12,[19,66],302157667927362458091520),(17,[84],P_ 141+P_ 30-P_ 84-P_ 22),(21,[97],P_ 134+P_ 30-P_ 97-P_ 25)],[(9,[15,16,17],18445618173802938368),(26,[],P_ 133+P_ 30-P_ 99-P_ 25)],[(29,[⟨0,.q (some 0),128,0,P_ 142⟩,⟨1,.q none,4,0,P_ 143⟩,⟨2,.q none,524288,0,P_ 144⟩,⟨3,.q none,P_ 144,4,P_ 145⟩,⟨4,.q (some 0),P_ 145,12,P_ 146⟩,⟨5,.q none,524288,0,P_ 147⟩,⟨6,.q none,P_ 147,32,P_ 148⟩,⟨7,.f 0 false,P_ 148+P_ 146+P_ 144-P_ 142,127,P_ 149⟩,⟨8,.q none,P_ 149,255,P_ 141⟩,⟨9,.q none,P_ 141,511,P_ 150⟩,⟨10,.q none,P_ 141,511,P_ 151⟩,⟨11,.q none,262144,1023,P_ 152⟩,⟨12,.f 1 false,P_ 152+P_ 150,3071,0⟩]),(30,[⟨0,.q none,32768,0,P_ 153⟩,⟨1,.q none,P_ 153,1,P_ 154⟩,⟨2,.q (some 0),131072,0,P_ 155⟩,⟨3,.q none,65536,0,P_ 156⟩,⟨4,.f 0 true,P_ 156,8,P_ 157⟩,⟨5,.q none,262144,3,P_ 158⟩,⟨6,.f 1 true,P_ 158+P_ 154,59,0⟩,⟨7,.q none,262144,127,P_ 159⟩,⟨8,.f 2 false,P_ 159+P_ 155,255,0⟩,⟨9,.q none,262144,511,P_ 160⟩,⟨10,.f 3 false,P_ 160+P_ 157,1023,0⟩])],[(8,[⟨[0,1,2,4,6,7,3,5,8,9,10,11,12,13,14,15,16,17],[⟨0,.q none,1,0,P_ 51⟩,⟨1,.q none,4,0,P_ 52⟩,⟨2,.q none,P_ 52,2,P_ 53⟩,⟨3,.f 0 true,P_ 53,6,P_ 54⟩,⟨4,.q none,16384,0,P_ 55⟩,⟨5,.f 1 true,P_ 56-P_ 54,30,P_ 56⟩,⟨6,.q none,1,0,P_ 57⟩,⟨7,.q (some 0),512,0,P_ 58⟩,⟨8,.f 2 false,P_ 59-P_ 57,254,P_ 59⟩,⟨9,.f 3 false,650770146155036672,511,P_ 60⟩,⟨10,.q none,P_ 60,1023,P_ 50⟩,⟨11,.q none,P_ 50,2047,P_ 61⟩,⟨12,.q none,P_ 50,2047,P_ 62⟩,⟨13,.q none,P_ 50,2047,P_ 63⟩,⟨14,.f 4 true,0,0,131072⟩,⟨15,.q none,P_ 61,20479,32768⟩,⟨16,.q none,P_ 62,57343,65536⟩,⟨17,.f 5 false,P_ 63+P_ 17,131071,0⟩]⟩,⟨[0,1,2,4,6,7,3,5,8,14,9,10,11,12,13,15,16,17],[⟨0,.q none,1,0,P_ 51⟩,⟨1,.q none,4,0,P_ 52⟩,⟨2,.q none,P_ 52,2,P_ 53⟩,⟨3,.f 0 true,P_ 53,6,P_ 54⟩,⟨4,.q none,16384,0,P_ 55⟩,⟨5,.f 1 true,P_ 56-P_ 54,30,P_ 56⟩,⟨6,.q none,1,0,P_ 57⟩,⟨7,.q (some 0),512,0,P_ 58⟩,⟨8,.f 2 false,P_ 59-P_ 57,254,P_ 59⟩,⟨9,.f 4 false,650770146155036672,511,P_ 60⟩,⟨10,.q none,P_ 60,1023,P_ 50⟩,⟨11,.q none,P_ 50,2047,P_ 61⟩,⟨12,.q none,P_ 50,2047,P_ 62⟩,⟨13,.q none,P_ 50,2047,P_ 63⟩,⟨14,.f 3 true,0,0,131072⟩,⟨15,.q none,P_ 61,20479,32768⟩,⟨16,.q none,P_ 62,57343,65536⟩,⟨17,.f 5 false,P_ 63+P_ 17,131071,0⟩]⟩,⟨[0,1,2,4,6,7,3,5,14,8,9,10,11,12,13,15,16,17],[⟨0,.q none,1,0,P_ 51⟩,⟨1,.q none,4,0,P_ 52⟩,⟨2,.q none,P_ 52,2,P_ 53⟩,⟨3,.f 0 true,P_ 53,6,P_ 54⟩,⟨4,.q none,16384,0,P_ 55⟩,⟨5,.f 1 true,P_ 56-P_ 54,30,P_ 56⟩,⟨6,.q none,1,0,P_ 57⟩,⟨7,.q (some 0),512,0,P_ 58⟩,⟨8,.f 3 false,P_ 59-P_ 57,254,P_ 59⟩,⟨9,.f 4 false,650770146155036672,511,P_ 60⟩,⟨10,.q none,P_ 60,1023,P_ 50⟩,⟨11,.q none,P_ 50,2047,P_ 61⟩,⟨12,.q none,P_ 50,2047,P_ 62⟩,⟨13,.q none,P_ 50,2047,P_ 63⟩,⟨14,.f 2 true,0,0,131072⟩,⟨15,.q none,P_ 61,20479,32768⟩,⟨16,.q none,P_ 62,57343,65536⟩,⟨17,.f 5 false,P_ 63+P_ 17,131071,0⟩]⟩,⟨[0,1,2,4,6,7,3,14,5,8,9,10,11,12,13,15,16,17],[⟨0,.q none,1,0,P_ 51⟩,⟨1,.q none,4,0,P_ 52⟩,⟨2,.q none,P_ 52,2,P_ 53⟩,⟨3,.f 0 true,P_ 53,6,P_ 54⟩,⟨4,.q none,16384,0,P_ 55⟩,⟨5,.f 2 true,P_ 56-P_ 54,30,P_ 56⟩,⟨6,.q none,1,0,P_ 57⟩,⟨7,.q (some 0),512,0,P_ 58⟩,⟨8,.f 3 false,P_ 59-P_ 57,254,P_ 59⟩,⟨9,.f 4 false,650770146155036672,511,P_ 60⟩,⟨10,.q none,P_ 60,1023,P_ 50⟩,⟨11,.q none,P_ 50,2047,P_ 61⟩,⟨12,.q none,P_ 50,2047,P_ 62⟩,⟨13,.q none,P_ 50,2047,P_ 63⟩,⟨14,.f 1 true,0,0,131072⟩,⟨15,.q none,P_ 61,20479,32768⟩,⟨16,.q none,P_ 62,57343,65536⟩,⟨17,.f 5 false,P_ 63+P_ 17,131071,0⟩]⟩,⟨[0,1,2,4,6,7,14,3,5,8,9,10,11,12,13,15,16,17],[⟨0,.q none,1,0,P_ 51⟩,⟨1,.q none,4,0,P_ 52⟩,⟨2,.q none,P_ 52,2,P_ 53⟩,⟨3,.f 1 true,P_ 53,6,P_ 54⟩,⟨4,.q none,16384,0,P_ 55⟩,⟨5,.f 2 true,P_ 56-P_ 54,30,P_ 56⟩,⟨6,.q none,1,0,P_ 57⟩,⟨7,.q (some 0),512,0,P_ 58⟩,⟨8,.f 3 false,P_ 59-P_ 57,254,P_ 59⟩,⟨9,.f 4 false,650770146155036672,511,P_ 60⟩,⟨10,.q none,P_ 60,1023,P_ 50⟩,⟨11,.q none,P_ 50,2047,P_ 61⟩,⟨12,.q none,P_ 50,2047,P_ 62⟩,⟨13,.q none,P_ 50,2047,P_ 63⟩,⟨14,.f 0 true,0,0,131072⟩,⟨15,.q none,P_ 61,20479,32768⟩,⟨16,.q none,P_ 62,57343,65536⟩,⟨17,.f 5 false,P_ 63+P_ 17,131071,0⟩]⟩]),(25,[⟨[0,1,2,3,4,5,6,7,11,12,13,14,8,9,10,15,16,17,18,19,20],[⟨0,.q none,16777216,0,P_ 113⟩,⟨1,.q (some 0),P_ 113,1,P_ 114⟩,⟨2,.q none,1,0,P_ 115⟩,⟨3,.q (some 0),P_ 27,0,P_ 116⟩,⟨4,.q none,1,0,P_ 117⟩,⟨5,.q (some 0),512,0,P_ 118⟩,⟨6,.q none,4194304,0,P_ 119⟩,⟨7,.q none,33554432,0,P_ 120⟩,⟨8,.f 0 true,P_ 121-P_ 119,192,P_ 121⟩,⟨9,.f 1 true,P_ 121,448,P_ 122⟩,⟨10,.f 2 true,P_ 122+P_ 119-P_ 117,1008,P_ 123⟩,⟨11,.q none,16,0,P_ 124⟩,⟨12,.q none,P_ 29,0,P_ 125⟩,⟨13,.q (some 0),P_ 125,4096,P_ 126⟩,⟨14,.q (some 0),P_ 29,0,P_ 127⟩,⟨15,.f 3 true,P_ 127,16384,P_ 128⟩,⟨16,.f 4 true,457379045674615896141994360648339816448,65532,P_ 129⟩,⟨17,.f 5 true,P_ 129,131068,P_ 130⟩,⟨18,.f 6 false,P_ 130+P_ 114,262143,P_ 131⟩,⟨19,.q none,16777216,524287,P_ 132⟩,⟨20,.f 7 false,P_ 133-P_ 131,1048575,0⟩]⟩,⟨[0,1,2,3,4,5,6,7,11,12,13,14,8,9,15,10,16,17,18,19,20],[⟨0,.q none,16777216,0,P_ 113⟩,⟨1,.q (some 0),P_ 113,1,P_ 114⟩,⟨2,.q none,1,0,P_ 115⟩,⟨3,.q (some 0),P_ 27,0,P_ 116⟩,⟨4,.q none,1,0,P_ 117⟩,⟨5,.q (some 0),512,0,P_ 118⟩,⟨6,.q none,4194304,0,P_ 119⟩,⟨7,.q none,33554432,0,P_ 120⟩,⟨8,.f 0 true,P_ 121-P_ 119,192,P_ 121⟩,⟨9,.f 1 true,P_ 121,448,P_ 122⟩,⟨10,.f 3 true,P_ 122+P_ 119-P_ 117,1008,P_ 123⟩,⟨11,.q none,16,0,P_ 124⟩,⟨12,.q none,P_ 29,0,P_ 125⟩,⟨13,.q (some 0),P_ 125,4096,P_ 126⟩,⟨14,.q (some 0),P_ 29,0,P_ 127⟩,⟨15,.f 2 true,P_ 127,16384,P_ 128⟩,⟨16,.f 4 true,457379045674615896141994360648339816448,65532,P_ 129⟩,⟨17,.f 5 true,P_ 129,131068,P_ 130⟩,⟨18,.f 6 false,P_ 130+P_ 114,262143,P_ 131⟩,⟨19,.q none,16777216,524287,P_ 132⟩,⟨20,.f 7 false,P_ 133-P_ 131,1048575,0⟩]⟩,⟨[0,1,2,3,4,5,6,7,11,12,13,14,8,15,9,10,16,17,18,19,20],[⟨0,.q none,16777216,0,P_ 113⟩,⟨1,.q (some 0),P_ 113,1,P_ 114⟩,⟨2,.q none,1,0,P_ 115⟩,⟨3,.q (some 0),P_ 27,0,P_ 116⟩,⟨4,.q none,1,0,P_ 117⟩,⟨5,.q (some 0),512,0,P_ 118⟩,⟨6,.q none,4194304,0,P_ 119⟩,⟨7,.q none,33554432,0,P_ 120⟩,⟨8,.f 0 true,P_ 121-P_ 119,192,P_ 121⟩,⟨9,.f 2 true,P_ 121,448,P_ 122⟩,⟨10,.f 3 true,P_ 122+P_ 119-P_ 117,1008,P_ 123⟩,⟨11,.q none,16,0,P_ 124⟩,⟨12,.q none,P_ 29,0,P_ 125⟩,⟨13,.q (some 0),P_ 125,4096,P_ 126⟩,⟨14,.q (some 0),P_ 29,0,P_ 127⟩,⟨15,.f 1 true,P_ 127,16384,P_ 128⟩,⟨16,.f 4 true,457379045674615896141994360648339816448,65532,P_ 129⟩,⟨17,.f 5 true,P_ 129,131068,P_ 130⟩,⟨18,.f 6 false,P_ 130+P_ 114,262143,P_ 131⟩,⟨19,.q none,16777216,524287,P_ 132⟩,⟨20,.f 7 false,P_ 133-P_ 131,1048575,0⟩]⟩,⟨[0,1,2,3,4,5,6,7,11,12,13,14,15,8,9,10,16,17,18,19,20],[⟨0,.q none,16777216,0,P_ 113⟩,⟨1,.q (some 0),P_ 113,1,P_ 114⟩,⟨2,.q none,1,0,P_ 115⟩,⟨3,.q (some 0),P_ 27,0,P_ 116⟩,⟨4,.q none,1,0,P_ 117⟩,⟨5,.q (some 0),512,0,P_ 118⟩,⟨6,.q none,4194304,0,P_ 119⟩,⟨7,.q none,33554432,0,P_ 120⟩,⟨8,.f 1 true,P_ 121-P_ 119,192,P_ 121⟩,⟨9,.f 2 true,P_ 121,448,P_ 122⟩,⟨10,.f 3 true,P_ 122+P_ 119-P_ 117,1008,P_ 123⟩,⟨11,.q none,16,0,P_ 124⟩,⟨12,.q none,P_ 29,0,P_ 125⟩,⟨13,.q (some 0),P_ 125,4096,P_ 126⟩,⟨14,.q (some 0),P_ 29,0,P_ 127⟩,⟨15,.f 0 true,P_ 127,16384,P_ 128⟩,⟨16,.f 4 true,457379045674615896141994360648339816448,65532,P_ 129⟩,⟨17,.f 5 true,P_ 129,131068,P_ 130⟩,⟨18,.f 6 false,P_ 130+P_ 114,262143,P_ 131⟩,⟨19,.q none,16777216,524287,P_ 132⟩,⟨20,.f 7 false,P_ 133-P_ 131,1048575,0⟩]⟩])],[8,30]⟩
theorem C_climb_Grow (h:F_climb_Grow x0 x1 x2 x3 x4 x5 w R):Calls Tryz.prog 77 #[x0,x1,x2,x3,x4,x5] w R:=cc A_climb_Grow [x0,x1,x2,x3,x4,x5] Tryz.func77 h
def F_slices_Clone_api_Proposal_api_Proposal (a:Value) (w:World) (R:Ending→World→Prop):Prop:=
 m R (o_bin .eql 24 true a (.slice none 0 0)) w fun c b=>
 mif c (
 R (.returned (.slice none 0 0)) b) (
 m R (o_buildSlice 24 0 []) b fun d e=>
 m R (o_builtin .append #[24,24] 24 [false,false] [d,a]) e fun f g=>
 R (.returned f) g)
def A_slices_Clone_api_Proposal_api_Proposal:Ann:=⟨[],[],[],[],[]⟩
theorem C_slices_Clone_api_Proposal_api_Proposal (h:F_slices_Clone_api_Proposal_api_Proposal x0 w R):Calls Tryz.prog 78 #[x0] w R:=cc A_slices_Clone_api_Proposal_api_Proposal [x0] Tryz.func78 h
def F_ppr_Row_Take (b aA l:Value) (w:World) (R:Ending→World→Prop):Prop:=
 m R (o_alloc 23) w fun c aB=>
 m R (o_call (fv 156) [b,l]) aB fun n aC=>
 m R (o_un .not n) aC fun o p=>
 mif o (
 m R (o_build 23 []) p fun q aD=>
 m R (o_store 23 c q) aD fun _ r=>
 rcell Tryz.prog 23 c r fun d=>
 R (.returned (.tuple #[d,(.int .i64 1)])) r) (
 m R (o_call (fv 157) [b,l]) p fun f aE=>
 m R (o_extract f 0) aE fun a aF=>
 m R (o_extract f 1) aF fun s aG=>
 m R (o_un .not s) aG fun t u=>
 mif t (
 m R (o_build 23 []) u fun v x=>
 m R (o_store 23 c v) x fun _ g=>
 rcell Tryz.prog 23 c g fun d=>
 R (.returned (.tuple #[d,(.int .i64 10)])) g) (
 m R (o_call (fv 158) [b,aA,a,l]) u fun h y=>
 m R (o_extract h 0) y fun z A=>
 m R (o_extract h 1) A fun B C=>
 m R (o_alloc 23) C fun i D=>
 m R (o_store 23 i z) D fun _ e=>
 ∃ S:Rl,
 dp Tryz.prog (o_nilCheck b) fun E=>
 dp Tryz.prog (o_fieldAddr 247 E 1) fun F=>
 dqS Tryz.prog S e (o_load 243 F) fun G=>
 dp Tryz.prog (o_slice 243 G none (some a) (some a)) fun H=>
 dfS Tryz.prog S e (o_builtin .append #[243,243] 243 [false,false] [H,B]) true fun I J=>
 dp Tryz.prog (o_nilCheck b) fun K=>
 dp Tryz.prog (o_fieldAddr 247 K 1) fun L=>
 dqS Tryz.prog S e (o_load 243 L) fun M=>
 dp Tryz.prog (o_bin .add 3 true a (.int .i64 1)) fun N=>
 dp Tryz.prog (o_slice 243 M (some N) none none) fun O=>
 dfS Tryz.prog S J (o_builtin .append #[243,243] 243 [false,false] [I,O]) false fun Q T=>
 dp Tryz.prog (o_nilCheck b) fun U=>
 dp Tryz.prog (o_fieldAddr 247 U 1) fun V=>
 dfS Tryz.prog S T (o_store 243 V Q) false fun _ W=>
 dend W fun X=>
 m R (o_load 23 i) X fun Y Z=>
 m R (o_store 23 c Y) Z fun _ j=>
 rcell Tryz.prog 23 c j fun d=>
 R (.returned (.tuple #[d,(.int .i64 0)])) j))
def A_ppr_Row_Take:Ann:=⟨[],[],[(7,[⟨0,.q none,1,0,P_ 34⟩,⟨1,.q none,1,0,P_ 35⟩,⟨2,.q none,P_ 35,2,P_ 36⟩,⟨3,.q none,P_ 36,6,P_ 37⟩,⟨4,.q (some 0),P_ 37,14,P_ 38⟩,⟨5,.q none,256,0,P_ 39⟩,⟨6,.q none,256,0,P_ 40⟩,⟨7,.q none,1924145348608,126,P_ 41⟩,⟨8,.q none,2048,0,P_ 42⟩,⟨9,.f 0 true,6597069766656,510,P_ 43⟩,⟨10,.q none,1,0,P_ 44⟩,⟨11,.q none,P_ 44,1024,P_ 45⟩,⟨12,.q none,P_ 45,3072,P_ 46⟩,⟨13,.q (some 0),P_ 46,7168,P_ 47⟩,⟨14,.q none,256,0,P_ 48⟩,⟨15,.q none,P_ 48,16384,P_ 49⟩,⟨16,.q none,P_ 49+P_ 47,64512,P_ 50⟩,⟨17,.f 1 false,P_ 50+P_ 43,131070,P_ 51⟩,⟨18,.q none,P_ 34,262143,P_ 52⟩,⟨19,.q none,P_ 52,524287,P_ 53⟩,⟨20,.f 2 false,P_ 53+P_ 51,1048575,0⟩])],[],[7]⟩
theorem C_ppr_Row_Take (h:F_ppr_Row_Take x0 x1 x2 w R):Calls Tryz.prog 79 #[x0,x1,x2] w R:=cc A_ppr_Row_Take [x0,x1,x2] Tryz.func79 h
def F_keys_Spot (v:Value) (w:World) (R:Ending→World→Prop):Prop:=
 m R (o_buildSlice 41 2 [(0,(.string (ByteArray.mk #[115,112,111,116]))),(1,v)]) w fun x y=>
 m R (o_call (fv 34) [x]) y fun z A=>
 m R (o_alloc 23) A fun d B=>
 m R (o_store 23 d z) B fun _ C=>
 m R (o_slice 23 d none (some (.int .i64 4)) none) C fun c D=>
 m R (o_builtin .len #[89] 3 [false] [c]) D fun e E=>
 ml2 (.int .i64 0) (.int .i64 0) E fun f a H F b=>
 m R (o_bin .lss 3 false a e) F fun g h=>
 mif g (
 m R (o_indexAddr 89 c a) h fun i G=>
 m R (o_load 5 i) G fun j l=>
 m R (o_bin .shl 3 true f (.int .u64 8)) l fun n o=>
 m R (o_conv 5 3 j) o fun p q=>
 m R (o_bin .or 3 false n p) q fun r s=>
 m R (o_bin .add 3 true a (.int .i64 1)) s fun t u=>
 b r t u) (
 R (.returned f) h)
def A_keys_Spot:Ann:=⟨[(4,[4,12],4190288)],[],[],[],[]⟩
theorem C_keys_Spot (h:F_keys_Spot x0 w R):Calls Tryz.prog 80 #[x0] w R:=cc A_keys_Spot [x0] Tryz.func80 h
def F_commit_frame (b y z A:Value) (w:World) (R:Ending→World→Prop):Prop:=
 m R (o_box 58 y) w fun B C=>
 m R (o_box 60 z) C fun D E=>
 m R (o_box 28 A) E fun c F=>
 m R (o_alloc 62) F fun d a=>
 dp Tryz.prog (o_nilCheck b) fun e=>
 dp Tryz.prog (o_fieldAddr 67 e 0) fun f=>
 dp Tryz.prog (o_fieldAddr 62 f 0) fun g=>
 dq Tryz.prog a (o_load 23 g) fun h=>
 dp Tryz.prog (o_fieldAddr 28 c 1) fun i=>
 dq Tryz.prog a (o_load 3 i) fun j=>
 dq Tryz.prog a (o_load 58 B) fun l=>
 dp Tryz.prog (o_nilCheck b) fun n=>
 dp Tryz.prog (o_fieldAddr 67 n 0) fun o=>
 dp Tryz.prog (o_fieldAddr 62 o 4) fun p=>
 dq Tryz.prog a (o_load 23 p) fun q=>
 dq Tryz.prog a (o_load 28 c) fun r=>
 df Tryz.prog a (o_call (fv 13) [r]) true fun s G=>
 df Tryz.prog G (o_call (fv 63) [q,s]) true fun t H=>
 dq Tryz.prog a (o_load 60 D) fun u=>
 dp Tryz.prog (o_build 62 [(1,h),(2,j),(3,l),(4,t),(5,u)]) fun v=>
 df Tryz.prog H (o_store 62 d v) false fun _ I=>
 dend I fun x=>
 rcell Tryz.prog 62 d x fun J=>
 R (.returned J) x
def A_commit_frame:Ann:=⟨[],[],[(1,[⟨0,.q none,1,0,512⟩,⟨1,.q none,512,1,1024⟩,⟨2,.q none,1024,3,2048⟩,⟨3,.q none,2048,7,4096⟩,⟨4,.q (some 0),4096,15,8192⟩,⟨5,.q none,128,0,16384⟩,⟨6,.q (some 0),16384,32,32768⟩,⟨7,.q (some 0),32,0,65536⟩,⟨8,.q none,1,0,131072⟩,⟨9,.q none,131072,256,262144⟩,⟨10,.q none,262144,768,524288⟩,⟨11,.q none,524288,1792,1048576⟩,⟨12,.q (some 0),1048576,3840,2097152⟩,⟨13,.q (some 0),128,0,4194304⟩,⟨14,.f 0 true,4194304,8192,8388608⟩,⟨15,.f 1 true,10485760,32512,16777216⟩,⟨16,.q (some 0),64,0,33554432⟩,⟨17,.q none,50438144,131071,67108864⟩,⟨18,.f 2 false,67109120,262143,0⟩])],[],[]⟩
theorem C_commit_frame (h:F_commit_frame x0 x1 x2 x3 w R):Calls Tryz.prog 81 #[x0,x1,x2,x3] w R:=cc A_commit_frame [x0,x1,x2,x3] Tryz.func81 h
def F_prim_Mix (x y z:Value) (w:World) (R:Ending→World→Prop):Prop:=
 m R (o_box 23 y) w fun c A=>
 m R (o_box 23 z) A fun d B=>
 m R (o_alloc 23) B fun e C=>
 m R (o_load 23 c) C fun D E=>
 m R (o_load 23 d) E fun F G=>
 m R (o_call (fv 159) [D,F]) G fun f H=>
 m R (o_alloc 23) H fun b I=>
 m R (o_store 23 b f) I fun _ J=>
 m R (o_load 23 c) J fun g K=>
 m R (o_load 23 d) K fun h i=>
 m R (o_buildSlice 137 2 [(0,g),(1,h)]) i fun j l=>
 m R (o_load 23 b) l fun n o=>
 m R (o_buildSlice 137 1 [(0,n)]) o fun p q=>
 m R (o_build 199 [(0,j),(1,p)]) q fun r s=>
 m R (o_call (fv 121) [x,r]) s fun M t=>
 m R (o_load 23 b) t fun u v=>
 m R (o_store 23 e u) v fun _ a=>
 rcell Tryz.prog 23 e a fun L=>
 R (.returned L) a
def A_prim_Mix:Ann:=⟨[],[],[],[],[]⟩
theorem C_prim_Mix (h:F_prim_Mix x0 x1 x2 w R):Calls Tryz.prog 82 #[x0,x1,x2] w R:=cc A_prim_Mix [x0,x1,x2] Tryz.func82 h
def F_commit_context (f:Value) (w:World) (R:Ending→World→Prop):Prop:=
 m R (o_box 62 f) w fun b a=>
 dp Tryz.prog (o_fieldAddr 62 b 1) fun g=>
 dq Tryz.prog a (o_load 23 g) fun h=>
 dp Tryz.prog (o_fieldAddr 62 b 2) fun i=>
 dq Tryz.prog a (o_load 3 i) fun j=>
 dp Tryz.prog (o_fieldAddr 62 b 3) fun l=>
 dq Tryz.prog a (o_load 58 l) fun n=>
 df Tryz.prog a (o_call (fv 65) [n]) true fun o p=>
 dp Tryz.prog (o_fieldAddr 62 b 4) fun c=>
 dq Tryz.prog a (o_load 23 c) fun d=>
 df Tryz.prog p (o_call (fv 64) [h,j,o,d]) false fun e q=>
 dend q fun r=>
 R (.returned e) r
def A_commit_context:Ann:=⟨[],[],[(1,[⟨0,.q none,2,0,8⟩,⟨1,.q (some 0),8,1,16⟩,⟨2,.q none,2,0,32⟩,⟨3,.q (some 0),32,4,64⟩,⟨4,.q none,2,0,128⟩,⟨5,.q (some 0),128,16,256⟩,⟨6,.f 0 true,256,48,512⟩,⟨7,.q none,2,0,1024⟩,⟨8,.q (some 0),1024,128,2048⟩,⟨9,.f 1 false,2640,511,4096⟩,⟨10,.q none,4096,1023,4⟩])],[],[]⟩
theorem C_commit_context (h:F_commit_context x0 w R):Calls Tryz.prog 83 #[x0] w R:=cc A_commit_context [x0] Tryz.func83 h
def F_wire_Writer_Hash (a h:Value) (w:World) (R:Ending→World→Prop):Prop:=
 m R (o_box 23 h) w fun i j=>
 m R (o_bin .neq 80 true a (.pointer none)) j fun l b=>
 mif l (
 dp Tryz.prog (o_nilCheck a) fun n=>
 dp Tryz.prog (o_fieldAddr 177 n 0) fun o=>
 dq Tryz.prog b (o_load 89 o) fun c=>
 dp Tryz.prog (o_slice 23 i none none none) fun d=>
 df Tryz.prog b (o_builtin .append #[89,89] 89 [false,false] [c,d]) false fun e p=>
 dp Tryz.prog (o_nilCheck a) fun f=>
 dp Tryz.prog (o_fieldAddr 177 f 0) fun g=>
 df Tryz.prog p (o_store 89 g e) false fun _ q=>
 dend q fun r=>
 R (.returned (.tuple #[])) r) (
 R (.returned (.tuple #[])) b)
def A_wire_Writer_Hash:Ann:=⟨[],[],[(2,[⟨0,.q none,1,0,64⟩,⟨1,.q none,1,0,128⟩,⟨2,.q none,128,2,256⟩,⟨3,.q none,256,6,512⟩,⟨4,.q (some 0),512,14,1024⟩,⟨5,.q none,8,0,2048⟩,⟨6,.f 0 false,3072,62,4096⟩,⟨7,.q none,64,127,8192⟩,⟨8,.q none,8192,255,16384⟩,⟨9,.f 1 false,20480,511,0⟩])],[],[]⟩
theorem C_wire_Writer_Hash (h:F_wire_Writer_Hash x0 x1 w R):Calls Tryz.prog 84 #[x0,x1] w R:=cc A_wire_Writer_Hash [x0,x1] Tryz.func84 h
def F_wire_Writer_Num (f g:Value) (w:World) (R:Ending→World→Prop):Prop:=
 m R (o_bin .eql 80 true f (.pointer none)) w fun a3 x=>
 mif a3 (
 R (.returned (.tuple #[])) x) (
 mj1 (fun a4=>
 m R (o_bin .lss 3 true g (.int .i64 0)) x fun c y=>
 mguard c false (fun k=>m R (o_move g) y k) y fun z A=>
 mguard c false (fun k=>m R (o_bin .gtr 3 true z (.int .i64 4611686018427387903)) A k) A fun B a5=>
 m R (o_pick c (.bool true) B) a5 fun d a6=>
 a4 d a6) fun d bD C=>
 mif d (
 m R (o_nilCheck f) C fun D a7=>
 m R (o_fieldAddr 177 D 1) a7 fun E a8=>
 m R (o_store 4 E (.bool true)) a8 fun _ a9=>
 R (.returned (.tuple #[])) a9) (
 ml1 (.int .i64 0) C fun e bE F h=>
 mj0 (fun bA=>
 m R (o_bin .lss 3 true e (.int .i64 3)) F fun a j=>
 mguard a true (fun k=>m R (o_move g) j k) j fun G l=>
 mguard a true (fun k=>m R (o_call (fv 116) []) l k) l fun H n=>
 mguard a true (fun k=>m R (o_move e) n k) n fun I o=>
 mguard a true (fun k=>m R (o_index 190 H I) o k) o fun J p=>
 mguard a true (fun k=>m R (o_bin .geq 3 false G J) p k) p fun K L=>
 m R (o_pick a K (.bool false)) L fun M q=>
 mif M (
 bA q) (
 m R (o_bin .shl 3 true (.int .i64 1) e) q fun r N=>
 ml1 (.int .i64 0) N fun b bF O i=>
 m R (o_bin .lss 3 false b r) O fun Q s=>
 mif Q (
 m R (o_bin .sub 3 true r (.int .i64 1)) s fun S T=>
 m R (o_bin .sub 3 false S b) T fun U V=>
 m R (o_bin .mul 3 true (.int .i64 8) U) V fun W X=>
 m R (o_bin .shr 3 false g W) X fun Y Z=>
 m R (o_conv 3 5 Y) Z fun t aA=>
 mj1 (fun u=>
 m R (o_bin .eql 3 true b (.int .i64 0)) aA fun aB v=>
 mif aB (
 m R (o_bin .shl 3 true e (.int .u64 6)) v fun aC aD=>
 m R (o_conv 3 5 aC) aD fun aE aF=>
 m R (o_bin .or 5 false t aE) aF fun aG aH=>
 u aG aH) (
 u t v)) fun bB bC aI=>
 m R (o_nilCheck f) aI fun aJ aK=>
 m R (o_fieldAddr 177 aJ 0) aK fun aL aM=>
 m R (o_load 89 aL) aM fun aN aO=>
 m R (o_buildSlice 89 1 [(0,bB)]) aO fun aP aQ=>
 m R (o_builtin .append #[89,89] 89 [false,false] [aN,aP]) aQ fun aR aS=>
 m R (o_nilCheck f) aS fun aT aU=>
 m R (o_fieldAddr 177 aT 0) aU fun aV aW=>
 m R (o_store 89 aV aR) aW fun _ aX=>
 m R (o_bin .add 3 true b (.int .i64 1)) aX fun aY aZ=>
 i aY aZ) (
 R (.returned (.tuple #[])) s))) fun bG a0=>
 m R (o_bin .add 3 true e (.int .i64 1)) a0 fun a1 a2=>
 h a1 a2))
def A_wire_Writer_Num:Ann:=⟨[(4,[4],1073217552),(8,[33],4611686009837453504)],[(2,[15],64512),(5,[],267911168),(13,[7],2234207627640960)],[],[],[]⟩
theorem C_wire_Writer_Num (h:F_wire_Writer_Num x0 x1 w R):Calls Tryz.prog 85 #[x0,x1] w R:=cc A_wire_Writer_Num [x0,x1] Tryz.func85 h
def F_wire_Writer_Text (a b:Value) (w:World) (R:Ending→World→Prop):Prop:=
 m R (o_bin .eql 80 true a (.pointer none)) w fun v c=>
 mif v (
 R (.returned (.tuple #[])) c) (
 m R (o_builtin .len #[9] 3 [false] [b]) c fun x y=>
 m R (o_bin .gtr 3 true x (.int .i64 65536)) y fun z d=>
 mif z (
 m R (o_nilCheck a) d fun e A=>
 m R (o_fieldAddr 177 e 1) A fun f B=>
 m R (o_store 4 f (.bool true)) B fun _ C=>
 R (.returned (.tuple #[])) C) (
 m R (o_builtin .len #[9] 3 [false] [b]) d fun g D=>
 m R (o_call (fv 85) [a,g]) D fun G E=>
 m R (o_nilCheck a) E fun h F=>
 m R (o_fieldAddr 177 h 0) F fun i j=>
 m R (o_load 89 i) j fun l n=>
 m R (o_builtin .append #[89,9] 89 [false,false] [l,b]) n fun o p=>
 m R (o_nilCheck a) p fun q r=>
 m R (o_fieldAddr 177 q 0) r fun s t=>
 m R (o_store 89 s o) t fun _ u=>
 R (.returned (.tuple #[])) u))
def A_wire_Writer_Text:Ann:=⟨[],[],[],[],[]⟩
theorem C_wire_Writer_Text (h:F_wire_Writer_Text x0 x1 w R):Calls Tryz.prog 86 #[x0,x1] w R:=cc A_wire_Writer_Text [x0,x1] Tryz.func86 h
def F_tree_Pack (aN:Value) (w:World) (R:Ending→World→Prop):Prop:=
 m R (o_box 58 aN) w fun e aO=>
 m R (o_load 58 e) aO fun n aP=>
 m R (o_call (fv 127) [n]) aP fun o aQ=>
 m R (o_un .not o) aQ fun p q=>
 mif p (
 R (.returned (.string (ByteArray.mk #[]))) q) (
 m R (o_call (fv 36) []) q fun a aR=>
 m R (o_fieldAddr 58 e 0) aR fun r aS=>
 m R (o_load 55 r) aS fun s aT=>
 m R (o_builtin .len #[55] 3 [false] [s]) aT fun t aU=>
 m R (o_call (fv 85) [a,t]) aU fun aW aV=>
 m R (o_fieldAddr 58 e 0) aV fun u v=>
 m R (o_load 55 u) v fun g x=>
 m R (o_builtin .len #[55] 3 [false] [g]) x fun y z=>
 ml1 (.int .i64 0) z fun b a1 A f=>
 m R (o_bin .lss 3 false b y) A fun B h=>
 mif B (
 m R (o_indexAddr 55 g b) h fun C D=>
 m R (o_load 118 C) D fun E F=>
 m R (o_alloc 118) F fun G H=>
 m R (o_store 118 G E) H fun _ I=>
 m R (o_load 118 G) I fun J K=>
 m R (o_call (fv 160) [a,J]) K fun aX L=>
 m R (o_bin .add 3 true b (.int .i64 1)) L fun M N=>
 f M N) (
 m R (o_fieldAddr 58 e 1) h fun O Q=>
 m R (o_load 56 O) Q fun i S=>
 m R (o_builtin .len #[56] 3 [false] [i]) S fun T U=>
 ml1 (.int .i64 0) U fun c aY V d=>
 m R (o_bin .lss 3 false c T) V fun W j=>
 mif W (
 m R (o_indexAddr 56 i c) j fun X Y=>
 m R (o_load 222 X) Y fun Z aA=>
 m R (o_alloc 222) aA fun aB aC=>
 m R (o_store 222 aB Z) aC fun _ aD=>
 m R (o_load 222 aB) aD fun aE aF=>
 m R (o_call (fv 161) [a,aE]) aF fun aZ aG=>
 m R (o_bin .add 3 true c (.int .i64 1)) aG fun aH aI=>
 d aH aI) (
 m R (o_call (fv 38) [a]) j fun l aJ=>
 m R (o_extract l 0) aJ fun aK aL=>
 m R (o_extract l 1) aL fun a0 aM=>
 R (.returned aK) aM)))
def A_tree_Pack:Ann:=⟨[(6,[22],1069547552),(11,[33],2190433321088)],[],[],[],[]⟩
theorem C_tree_Pack (h:F_tree_Pack x0 w R):Calls Tryz.prog 87 #[x0] w R:=cc A_tree_Pack [x0] Tryz.func87 h
def F_prim_Seal (j I J l h:Value) (w:World) (R:Ending→World→Prop):Prop:=
 m R (o_box 23 I) w fun f K=>
 m R (o_builtin .len #[9] 3 [false] [l]) K fun n L=>
 m R (o_bin .gtr 3 true n (.int .i64 65536)) L fun o p=>
 mif o (
 R (.returned (.string (ByteArray.mk #[]))) p) (
 mj0 (fun i=>
 m R (o_builtin .len #[137] 3 [false] [h]) p fun q M=>
 m R (o_bin .gtr 3 true q (.int .i64 0)) M fun r a=>
 mif r (
 ((
 dq Tryz.prog a (o_load 23 f) fun b=>
 df Tryz.prog a (o_buildSlice 137 1 [(0,b)]) false fun c N=>
 df Tryz.prog N (o_call (fv 162) [h]) true fun d O=>
 dp Tryz.prog (o_build 199 [(0,c),(1,d)]) fun e=>
 df Tryz.prog O (o_call (fv 121) [j,e]) false fun s Q=>
 dend Q fun S=>
 i S)∧(
 dq Tryz.prog a (o_load 23 f) fun b=>
 df Tryz.prog a (o_call (fv 162) [h]) true fun d t=>
 df Tryz.prog t (o_buildSlice 137 1 [(0,b)]) false fun c u=>
 dp Tryz.prog (o_build 199 [(0,c),(1,d)]) fun e=>
 df Tryz.prog u (o_call (fv 121) [j,e]) false fun s v=>
 dend v fun x=>
 i x))) (
 i a)) fun T y=>
 m R (o_load 23 f) y fun z A=>
 m R (o_call (fv 163) [z,l]) A fun g B=>
 m R (o_load 23 f) B fun C D=>
 m R (o_call (fv 164) [C,J,g]) D fun E F=>
 m R (o_bin .add 9 false g E) F fun G H=>
 R (.returned G) H)
def A_prim_Seal:Ann:=⟨[],[(5,[],33521664)],[],[(4,[⟨[0,1,3,2,4,5,6],[⟨0,.q none,1,0,262144⟩,⟨1,.q (some 0),64,0,524288⟩,⟨2,.f 0 false,524288,2,1048576⟩,⟨3,.q none,16,0,2097152⟩,⟨4,.f 1 true,2097152,8,4194304⟩,⟨5,.q none,5242880,30,8388608⟩,⟨6,.f 2 false,8650752,63,16777216⟩]⟩,⟨[0,1,3,4,2,5,6],[⟨0,.q none,1,0,262144⟩,⟨1,.q (some 0),64,0,524288⟩,⟨2,.f 1 false,524288,2,1048576⟩,⟨3,.q none,16,0,2097152⟩,⟨4,.f 0 true,2097152,8,4194304⟩,⟨5,.q none,5242880,30,8388608⟩,⟨6,.f 2 false,8650752,63,16777216⟩]⟩])],[]⟩
theorem C_prim_Seal (h:F_prim_Seal x0 x1 x2 x3 x4 w R):Calls Tryz.prog 88 #[x0,x1,x2,x3,x4] w R:=cc A_prim_Seal [x0,x1,x2,x3,x4] Tryz.func88 h
def F_commit_coming (f:Value) (w:World) (R:Ending→World→Prop):Prop:=
 m R (o_builtin .len #[24] 3 [false] [f]) w fun F G=>
 ml2 (.slice none 0 0) (.int .i64 0) G fun a d Q H b=>
 m R (o_bin .lss 3 false d F) H fun I g=>
 mif I (
 mj1 (fun h=>
 m R (o_indexAddr 24 f d) g fun i J=>
 m R (o_load 75 i) J fun j K=>
 m R (o_alloc 75) K fun e L=>
 m R (o_store 75 e j) L fun _ M=>
 m R (o_fieldAddr 75 e 4) M fun l N=>
 m R (o_fieldAddr 73 l 0) N fun n O=>
 m R (o_load 3 n) O fun o p=>
 m R (o_bin .eql 3 true o (.int .i64 1)) p fun q c=>
 mif q (
 m R (o_fieldAddr 75 e 4) c fun r s=>
 m R (o_fieldAddr 73 r 1) s fun t u=>
 m R (o_load 3 t) u fun v x=>
 m R (o_buildSlice 133 1 [(0,v)]) x fun y z=>
 m R (o_builtin .append #[133,133] 133 [false,false] [a,y]) z fun A B=>
 h A B) (
 h a c)) fun a S C=>
 m R (o_bin .add 3 true d (.int .i64 1)) C fun D E=>
 b a D E) (
 R (.returned a) g)
def A_commit_coming:Ann:=⟨[(3,[3,8],8388392)],[(7,[3],4193320)],[],[],[]⟩
theorem C_commit_coming (h:F_commit_coming x0 w R):Calls Tryz.prog 90 #[x0] w R:=cc A_commit_coming [x0] Tryz.func90 h
def F_slices_Index_int_int (c j:Value) (w:World) (R:Ending→World→Prop):Prop:=
 m R (o_builtin .len #[133] 3 [false] [c]) w fun l n=>
 ml1 (.int .i64 0) n fun a t o b=>
 m R (o_bin .lss 3 false a l) o fun p d=>
 mif p (
 m R (o_indexAddr 133 c a) d fun e q=>
 m R (o_load 3 e) q fun f r=>
 m R (o_bin .eql 3 false j f) r fun g h=>
 mif g (
 R (.returned a) h) (
 m R (o_bin .add 3 true a (.int .i64 1)) h fun i s=>
 b i s)) (
 R (.returned (.int .i64 (-1))) d)
def A_slices_Index_int_int:Ann:=⟨[(2,[8],524080)],[],[],[],[]⟩
theorem C_slices_Index_int_int (h:F_slices_Index_int_int x0 x1 w R):Calls Tryz.prog 91 #[x0,x1] w R:=cc A_slices_Index_int_int [x0,x1] Tryz.func91 h
def F_prim_Wrap (j aM aN aO v aP:Value) (w:World) (R:Ending→World→Prop):Prop:=
 m R (o_box 23 aM) w fun l aQ=>
 m R (o_box 23 aN) aQ fun s aR=>
 m R (o_builtin .len #[9] 3 [false] [v]) aR fun x aS=>
 m R (o_bin .gtr 3 true x (.int .i64 65536)) aS fun y i=>
 mif y (
 R (.returned (.string (ByteArray.mk #[]))) i) (
 mj1 (fun z=>
 ((
 dq Tryz.prog i (o_load 23 l) fun n=>
 dp Tryz.prog (o_slice 23 s none none none) fun o=>
 dq Tryz.prog i (o_conv 89 9 o) fun p=>
 df Tryz.prog i (o_call (fv 168) [n,p]) false fun q aT=>
 df Tryz.prog aT (o_alloc 23) true fun a aU=>
 df Tryz.prog aU (o_store 23 a q) false fun _ aV=>
 dend aV fun aW=>
 z a aW)∧(
 dq Tryz.prog i (o_load 23 l) fun n=>
 dp Tryz.prog (o_slice 23 s none none none) fun o=>
 dq Tryz.prog i (o_conv 89 9 o) fun p=>
 df Tryz.prog i (o_alloc 23) true fun a aX=>
 df Tryz.prog aX (o_call (fv 168) [n,p]) false fun q A=>
 df Tryz.prog A (o_store 23 a q) false fun _ B=>
 dend B fun C=>
 z a C))) fun a aZ b=>
 mj0 (fun u=>
 ((
 dq Tryz.prog b (o_load 23 l) fun c=>
 dq Tryz.prog b (o_load 23 a) fun d=>
 df Tryz.prog b (o_call (fv 122) [c]) true fun e D=>
 df Tryz.prog D (o_buildSlice 137 1 [(0,e)]) true fun f E=>
 df Tryz.prog E (o_buildSlice 137 1 [(0,d)]) true fun g F=>
 dp Tryz.prog (o_build 199 [(0,f),(1,g)]) fun h=>
 df Tryz.prog F (o_call (fv 121) [j,h]) false fun t G=>
 dend G fun H=>
 u H)∧(
 dq Tryz.prog b (o_load 23 l) fun c=>
 dq Tryz.prog b (o_load 23 a) fun d=>
 df Tryz.prog b (o_call (fv 122) [c]) true fun e I=>
 df Tryz.prog I (o_buildSlice 137 1 [(0,d)]) true fun g J=>
 df Tryz.prog J (o_buildSlice 137 1 [(0,e)]) true fun f K=>
 dp Tryz.prog (o_build 199 [(0,f),(1,g)]) fun h=>
 df Tryz.prog K (o_call (fv 121) [j,h]) false fun t L=>
 dend L fun M=>
 u M)∧(
 dq Tryz.prog b (o_load 23 l) fun c=>
 dq Tryz.prog b (o_load 23 a) fun d=>
 df Tryz.prog b (o_buildSlice 137 1 [(0,d)]) true fun g N=>
 df Tryz.prog N (o_call (fv 122) [c]) true fun e O=>
 df Tryz.prog O (o_buildSlice 137 1 [(0,e)]) true fun f Q=>
 dp Tryz.prog (o_build 199 [(0,f),(1,g)]) fun h=>
 df Tryz.prog Q (o_call (fv 121) [j,h]) false fun t S=>
 dend S fun T=>
 u T))) fun a0 U=>
 m R (o_load 23 s) U fun V W=>
 m R (o_buildSlice 137 1 [(0,V)]) W fun X Y=>
 m R (o_load 23 a) Y fun Z aA=>
 m R (o_buildSlice 137 1 [(0,Z)]) aA fun aB aC=>
 m R (o_build 199 [(0,X),(1,aB)]) aC fun aD aE=>
 m R (o_call (fv 121) [j,aD]) aE fun aY r=>
 dp Tryz.prog (o_slice 23 s none none none) fun aF=>
 dq Tryz.prog r (o_conv 89 9 aF) fun aG=>
 dq Tryz.prog r (o_load 23 a) fun aH=>
 df Tryz.prog r (o_call (fv 88) [j,aH,aO,v,aP]) true fun aI aJ=>
 dp Tryz.prog (o_bin .add 9 false aG aI) fun aK=>
 dend aJ fun aL=>
 R (.returned aK) aL)
def A_prim_Wrap:Ann:=⟨[],[(4,[13],1974272),(5,[],534773760)],[(6,[⟨0,.q none,256,0,P_ 36⟩,⟨1,.q (some 0),P_ 36,1,P_ 37⟩,⟨2,.q none,1,0,P_ 38⟩,⟨3,.q (some 0),8192,0,P_ 39⟩,⟨4,.q none,8,0,P_ 40⟩,⟨5,.q none,16,0,P_ 41⟩,⟨6,.q none,32,0,P_ 42⟩,⟨7,.f 0 true,8521215115264,124,P_ 43⟩,⟨8,.q none,8933531975680,255,P_ 44⟩,⟨9,.q none,P_ 44,511,4096⟩])],[(3,[⟨[0,1,2,3,4,5],[⟨0,.q (some 0),128,0,131072⟩,⟨1,.q none,256,0,262144⟩,⟨2,.q (some 0),262144,2,524288⟩,⟨3,.f 0 false,655360,7,1048576⟩,⟨4,.f 1 true,0,0,8192⟩,⟨5,.f 2 false,1056768,31,0⟩]⟩,⟨[0,1,2,4,3,5],[⟨0,.q (some 0),128,0,131072⟩,⟨1,.q none,256,0,262144⟩,⟨2,.q (some 0),262144,2,524288⟩,⟨3,.f 1 false,655360,7,1048576⟩,⟨4,.f 0 true,0,0,8192⟩,⟨5,.f 2 false,1056768,31,0⟩]⟩]),(4,[⟨[0,1,4,2,3,5,6,7],[⟨0,.q none,1,0,2097152⟩,⟨1,.q (some 0),128,0,4194304⟩,⟨2,.f 0 true,4194304,2,8388608⟩,⟨3,.f 1 true,8388608,6,16777216⟩,⟨4,.q (some 0),8192,0,33554432⟩,⟨5,.f 2 true,33554432,16,67108864⟩,⟨6,.q none,83886080,62,P_ 27⟩,⟨7,.f 3 false,136314880,127,P_ 28⟩]⟩,⟨[0,1,4,2,5,3,6,7],[⟨0,.q none,1,0,2097152⟩,⟨1,.q (some 0),128,0,4194304⟩,⟨2,.f 0 true,4194304,2,8388608⟩,⟨3,.f 2 true,8388608,6,16777216⟩,⟨4,.q (some 0),8192,0,33554432⟩,⟨5,.f 1 true,33554432,16,67108864⟩,⟨6,.q none,83886080,62,P_ 27⟩,⟨7,.f 3 false,136314880,127,P_ 28⟩]⟩,⟨[0,1,4,5,2,3,6,7],[⟨0,.q none,1,0,2097152⟩,⟨1,.q (some 0),128,0,4194304⟩,⟨2,.f 1 true,4194304,2,8388608⟩,⟨3,.f 2 true,8388608,6,16777216⟩,⟨4,.q (some 0),8192,0,33554432⟩,⟨5,.f 0 true,33554432,16,67108864⟩,⟨6,.q none,83886080,62,P_ 27⟩,⟨7,.f 3 false,136314880,127,P_ 28⟩]⟩])],[]⟩
theorem C_prim_Wrap (h:F_prim_Wrap x0 x1 x2 x3 x4 x5 w R):Calls Tryz.prog 93 #[x0,x1,x2,x3,x4,x5] w R:=cc A_prim_Wrap [x0,x1,x2,x3,x4,x5] Tryz.func93 h
def F_keys_Tag (e f:Value) (w:World) (R:Ending→World→Prop):Prop:=
 m R (o_box 23 e) w fun g h=>
 m R (o_box 23 f) h fun i j=>
 m R (o_alloc 23) j fun b a=>
 dp Tryz.prog (o_slice 23 g none none none) fun l=>
 dq Tryz.prog a (o_conv 89 9 l) fun n=>
 dp Tryz.prog (o_slice 23 i none none none) fun o=>
 dq Tryz.prog a (o_conv 89 9 o) fun p=>
 df Tryz.prog a (o_buildSlice 41 2 [(0,(.string (ByteArray.mk #[116,97,103]))),(1,p)]) true fun q r=>
 df Tryz.prog r (o_call (fv 169) [n,q]) false fun c s=>
 df Tryz.prog s (o_store 23 b c) false fun _ t=>
 dend t fun d=>
 rcell Tryz.prog 23 b d fun u=>
 R (.returned u) d
def A_keys_Tag:Ann:=⟨[],[],[(1,[⟨0,.q none,4,0,32⟩,⟨1,.q (some 0),32,1,64⟩,⟨2,.q none,8,0,128⟩,⟨3,.q (some 0),128,4,256⟩,⟨4,.f 0 true,256,12,512⟩,⟨5,.f 1 false,576,31,1024⟩,⟨6,.f 2 false,1040,63,0⟩])],[],[]⟩
theorem C_keys_Tag (h:F_keys_Tag x0 x1 w R):Calls Tryz.prog 95 #[x0,x1] w R:=cc A_keys_Tag [x0,x1] Tryz.func95 h
def F_prim_Sign (c d:Value) (w:World) (R:Ending→World→Prop):Prop:=
 m R (o_box 23 c) w fun e f=>
 m R (o_alloc 23) f fun a g=>
 m R (o_load 23 e) g fun h i=>
 m R (o_call (fv 73) [h]) i fun j l=>
 m R (o_call (fv 170) [j,d]) l fun n o=>
 m R (o_store 23 a n) o fun _ b=>
 rcell Tryz.prog 23 a b fun p=>
 R (.returned p) b
def A_prim_Sign:Ann:=⟨[],[],[],[],[]⟩
theorem C_prim_Sign (h:F_prim_Sign x0 x1 w R):Calls Tryz.prog 96 #[x0,x1] w R:=cc A_prim_Sign [x0,x1] Tryz.func96 h
def F_slices_IndexFunc_string_string (c j:Value) (w:World) (R:Ending→World→Prop):Prop:=
 m R (o_builtin .len #[41] 3 [false] [c]) w fun l n=>
 ml1 (.int .i64 0) n fun a t o b=>
 m R (o_bin .lss 3 false a l) o fun p d=>
 mif p (
 m R (o_indexAddr 41 c a) d fun e q=>
 m R (o_load 9 e) q fun f r=>
 m R (o_call j [f]) r fun g h=>
 mif g (
 R (.returned a) h) (
 m R (o_bin .add 3 true a (.int .i64 1)) h fun i s=>
 b i s)) (
 R (.returned (.int .i64 (-1))) d)
def A_slices_IndexFunc_string_string:Ann:=⟨[(2,[8],524080)],[],[],[],[]⟩
theorem C_slices_IndexFunc_string_string (h:F_slices_IndexFunc_string_string x0 x1 w R):Calls Tryz.prog 97 #[x0,x1] w R:=cc A_slices_IndexFunc_string_string [x0,x1] Tryz.func97 h
def F_slices_IndexFunc_api_Proposal_api_Proposal (c j:Value) (w:World) (R:Ending→World→Prop):Prop:=
 m R (o_builtin .len #[24] 3 [false] [c]) w fun l n=>
 ml1 (.int .i64 0) n fun a t o b=>
 m R (o_bin .lss 3 false a l) o fun p d=>
 mif p (
 m R (o_indexAddr 24 c a) d fun e q=>
 m R (o_load 75 e) q fun f r=>
 m R (o_call j [f]) r fun g h=>
 mif g (
 R (.returned a) h) (
 m R (o_bin .add 3 true a (.int .i64 1)) h fun i s=>
 b i s)) (
 R (.returned (.int .i64 (-1))) d)
def A_slices_IndexFunc_api_Proposal_api_Proposal:Ann:=⟨[(2,[8],524080)],[],[],[],[]⟩
theorem C_slices_IndexFunc_api_Proposal_api_Proposal (h:F_slices_IndexFunc_api_Proposal_api_Proposal x0 x1 w R):Calls Tryz.prog 98 #[x0,x1] w R:=cc A_slices_IndexFunc_api_Proposal_api_Proposal [x0,x1] Tryz.func98 h
def F_change_named (b:Value) (w:World) (R:Ending→World→Prop):Prop:=
 m R (o_bin .geq 3 true b (.int .i64 1)) w fun a c=>
 mguard a true (fun k=>m R (o_move b) c k) c fun e d=>
 mguard a true (fun k=>m R (o_bin .leq 3 true e (.int .i64 64)) d k) d fun f g=>
 m R (o_pick a f (.bool false)) g fun h i=>
 R (.returned h) i
def A_change_named:Ann:=⟨[],[],[],[],[]⟩
theorem C_change_named (h:F_change_named x0 w R):Calls Tryz.prog 99 #[x0] w R:=cc A_change_named [x0] Tryz.func99 h
def F_slices_IndexFunc_api_Welcome_api_Welcome (c j:Value) (w:World) (R:Ending→World→Prop):Prop:=
 m R (o_builtin .len #[26] 3 [false] [c]) w fun l n=>
 ml1 (.int .i64 0) n fun a t o b=>
 m R (o_bin .lss 3 false a l) o fun p d=>
 mif p (
 m R (o_indexAddr 26 c a) d fun e q=>
 m R (o_load 45 e) q fun f r=>
 m R (o_call j [f]) r fun g h=>
 mif g (
 R (.returned a) h) (
 m R (o_bin .add 3 true a (.int .i64 1)) h fun i s=>
 b i s)) (
 R (.returned (.int .i64 (-1))) d)
def A_slices_IndexFunc_api_Welcome_api_Welcome:Ann:=⟨[(2,[8],524080)],[],[],[],[]⟩
theorem C_slices_IndexFunc_api_Welcome_api_Welcome (h:F_slices_IndexFunc_api_Welcome_api_Welcome x0 x1 w R):Calls Tryz.prog 100 #[x0,x1] w R:=cc A_slices_IndexFunc_api_Welcome_api_Welcome [x0,x1] Tryz.func100 h
def F_sha_rounds (w:World) (R:Ending→World→Prop):Prop:=
 m R (o_alloc 166) w fun a c=>
 m R (o_build 166 [(0,(.int .u32 1116352408)),(1,(.int .u32 1899447441)),(2,(.int .u32 3049323471)),(3,(.int .u32 3921009573)),(4,(.int .u32 961987163)),(5,(.int .u32 1508970993)),(6,(.int .u32 2453635748)),(7,(.int .u32 2870763221)),(8,(.int .u32 3624381080)),(9,(.int .u32 310598401)),(10,(.int .u32 607225278)),(11,(.int .u32 1426881987)),(12,(.int .u32 1925078388)),(13,(.int .u32 2162078206)),(14,(.int .u32 2614888103)),(15,(.int .u32 3248222580)),(16,(.int .u32 3835390401)),(17,(.int .u32 4022224774)),(18,(.int .u32 264347078)),(19,(.int .u32 604807628)),(20,(.int .u32 770255983)),(21,(.int .u32 1249150122)),(22,(.int .u32 1555081692)),(23,(.int .u32 1996064986)),(24,(.int .u32 2554220882)),(25,(.int .u32 2821834349)),(26,(.int .u32 2952996808)),(27,(.int .u32 3210313671)),(28,(.int .u32 3336571891)),(29,(.int .u32 3584528711)),(30,(.int .u32 113926993)),(31,(.int .u32 338241895)),(32,(.int .u32 666307205)),(33,(.int .u32 773529912)),(34,(.int .u32 1294757372)),(35,(.int .u32 1396182291)),(36,(.int .u32 1695183700)),(37,(.int .u32 1986661051)),(38,(.int .u32 2177026350)),(39,(.int .u32 2456956037)),(40,(.int .u32 2730485921)),(41,(.int .u32 2820302411)),(42,(.int .u32 3259730800)),(43,(.int .u32 3345764771)),(44,(.int .u32 3516065817)),(45,(.int .u32 3600352804)),(46,(.int .u32 4094571909)),(47,(.int .u32 275423344)),(48,(.int .u32 430227734)),(49,(.int .u32 506948616)),(50,(.int .u32 659060556)),(51,(.int .u32 883997877)),(52,(.int .u32 958139571)),(53,(.int .u32 1322822218)),(54,(.int .u32 1537002063)),(55,(.int .u32 1747873779)),(56,(.int .u32 1955562222)),(57,(.int .u32 2024104815)),(58,(.int .u32 2227730452)),(59,(.int .u32 2361852424)),(60,(.int .u32 2428436474)),(61,(.int .u32 2756734187)),(62,(.int .u32 3204031479)),(63,(.int .u32 3329325298))]) c fun d e=>
 m R (o_store 166 a d) e fun _ b=>
 rcell Tryz.prog 166 a b fun f=>
 R (.returned f) b
def A_sha_rounds:Ann:=⟨[],[],[],[],[]⟩
theorem C_sha_rounds (h:F_sha_rounds w R):Calls Tryz.prog 101 #[] w R:=cc A_sha_rounds [] Tryz.func101 h
def F_sha_state_put (b c:Value) (w:World) (R:Ending→World→Prop):Prop:=
 ml1 c w fun c Y K a=>
 m R (o_builtin .len #[9] 3 [false] [c]) K fun L M=>
 m R (o_bin .gtr 3 true L (.int .i64 0)) M fun N g=>
 mif N (
 dp Tryz.prog (o_nilCheck b) fun O=>
 dp Tryz.prog (o_fieldAddr 170 O 1) fun h=>
 dp Tryz.prog (o_nilCheck b) fun i=>
 dp Tryz.prog (o_fieldAddr 170 i 2) fun j=>
 dq Tryz.prog g (o_load 3 j) fun l=>
 dp Tryz.prog (o_bin .rem 3 true l (.int .i64 64)) fun n=>
 dp Tryz.prog (o_slice 168 h (some n) none none) fun o=>
 df Tryz.prog g (o_builtin .copy #[89,9] 3 [false,false] [o,c]) false fun d Q=>
 dend Q fun S=>
 m R (o_slice 9 c (some d) none none) S fun e T=>
 m R (o_nilCheck b) T fun p U=>
 m R (o_fieldAddr 170 p 2) U fun q V=>
 m R (o_load 3 q) V fun r W=>
 m R (o_bin .add 3 false r d) W fun s t=>
 m R (o_nilCheck b) t fun u v=>
 m R (o_fieldAddr 170 u 2) v fun x y=>
 m R (o_store 3 x s) y fun _ z=>
 m R (o_nilCheck b) z fun A B=>
 m R (o_fieldAddr 170 A 2) B fun C D=>
 m R (o_load 3 C) D fun E F=>
 m R (o_bin .rem 3 true E (.int .i64 64)) F fun G H=>
 m R (o_bin .eql 3 true G (.int .i64 0)) H fun I f=>
 mif I (
 m R (o_call (fv 171) [b]) f fun X J=>
 a e J) (
 a e f)) (
 R (.returned (.tuple #[])) g)
def A_sha_state_put:Ann:=⟨[(0,[1],274877906930)],[],[(1,[⟨0,.q none,1,0,256⟩,⟨1,.q none,256,1,512⟩,⟨2,.q none,512,3,1024⟩,⟨3,.q none,1,0,2048⟩,⟨4,.q none,2048,8,4096⟩,⟨5,.q none,4096,24,8192⟩,⟨6,.q (some 0),8192,56,16384⟩,⟨7,.q none,16384,120,32768⟩,⟨8,.q none,33792,255,65536⟩,⟨9,.q none,2,0,131072⟩,⟨10,.f 0 false,196608,1023,262144⟩,⟨11,.q none,262144,2047,16⟩])],[],[]⟩
theorem C_sha_state_put (h:F_sha_state_put x0 x1 w R):Calls Tryz.prog 102 #[x0,x1] w R:=cc A_sha_state_put [x0,x1] Tryz.func102 h
def F_bevyref02_word (a b:Value) (w:World) (R:Ending→World→Prop):Prop:=
 dp Tryz.prog (o_indexAddr 89 a b) fun x=>
 dq Tryz.prog w (o_load 5 x) fun y=>
 dp Tryz.prog (o_conv 5 164 y) fun z=>
 dp Tryz.prog (o_bin .shl 164 true z (.int .u64 24)) fun c=>
 dp Tryz.prog (o_bin .add 3 true b (.int .i64 1)) fun d=>
 dp Tryz.prog (o_indexAddr 89 a d) fun e=>
 dq Tryz.prog w (o_load 5 e) fun f=>
 dp Tryz.prog (o_conv 5 164 f) fun g=>
 dp Tryz.prog (o_bin .shl 164 true g (.int .u64 16)) fun h=>
 dp Tryz.prog (o_bin .or 164 false c h) fun i=>
 dp Tryz.prog (o_bin .add 3 true b (.int .i64 2)) fun j=>
 dp Tryz.prog (o_indexAddr 89 a j) fun l=>
 dq Tryz.prog w (o_load 5 l) fun n=>
 dp Tryz.prog (o_conv 5 164 n) fun o=>
 dp Tryz.prog (o_bin .shl 164 true o (.int .u64 8)) fun p=>
 dp Tryz.prog (o_bin .or 164 false i p) fun q=>
 dp Tryz.prog (o_bin .add 3 true b (.int .i64 3)) fun r=>
 dp Tryz.prog (o_indexAddr 89 a r) fun s=>
 dq Tryz.prog w (o_load 5 s) fun t=>
 dp Tryz.prog (o_conv 5 164 t) fun u=>
 dp Tryz.prog (o_bin .or 164 false q u) fun v=>
 dend w fun A=>
 R (.returned v) A
def A_bevyref02_word:Ann:=⟨[],[],[(1,[⟨0,.q none,1,0,32⟩,⟨1,.q none,2,0,64⟩,⟨2,.q none,96,3,128⟩,⟨3,.q (some 0),128,7,256⟩,⟨4,.q none,256,15,512⟩,⟨5,.q none,512,31,1024⟩,⟨6,.q none,1,0,2048⟩,⟨7,.q none,2,0,4096⟩,⟨8,.q none,4096,128,8192⟩,⟨9,.q none,10240,448,16384⟩,⟨10,.q (some 0),16384,960,32768⟩,⟨11,.q none,32768,1984,65536⟩,⟨12,.q none,65536,4032,131072⟩,⟨13,.q none,132096,8191,262144⟩,⟨14,.q none,1,0,524288⟩,⟨15,.q none,2,0,1048576⟩,⟨16,.q none,1048576,32768,2097152⟩,⟨17,.q none,2621440,114688,4194304⟩,⟨18,.q (some 0),4194304,245760,8388608⟩,⟨19,.q none,8388608,507904,16777216⟩,⟨20,.q none,16777216,1032192,33554432⟩,⟨21,.q none,33816576,2097151,67108864⟩,⟨22,.q none,1,0,P_ 27⟩,⟨23,.q none,2,0,P_ 28⟩,⟨24,.q none,P_ 28,8388608,P_ 29⟩,⟨25,.q none,671088640,29360128,P_ 30⟩,⟨26,.q (some 0),P_ 30,62914560,P_ 31⟩,⟨27,.q none,P_ 31,130023424,P_ 32⟩,⟨28,.q none,4362076160,268435455,P_ 33⟩,⟨29,.q none,P_ 33,536870911,16⟩])],[],[]⟩
theorem C_bevyref02_word (h:F_bevyref02_word x0 x1 w R):Calls Tryz.prog 103 #[x0,x1] w R:=cc A_bevyref02_word [x0,x1] Tryz.func103 h
def F_bevyref02_turned (a b:Value) (w:World) (R:Ending→World→Prop):Prop:=
 m R (o_bin .shr 164 false a b) w fun f g=>
 m R (o_bin .sub 173 true (.int .u64 32) b) g fun c h=>
 m R (o_bin .shl 164 false a c) h fun d i=>
 m R (o_bin .or 164 false f d) i fun e j=>
 R (.returned e) j
def A_bevyref02_turned:Ann:=⟨[],[],[],[],[]⟩
theorem C_bevyref02_turned (h:F_bevyref02_turned x0 x1 w R):Calls Tryz.prog 104 #[x0,x1] w R:=cc A_bevyref02_turned [x0,x1] Tryz.func104 h
def F_commit_list_api_Proposal (r c s:Value) (w:World) (R:Ending→World→Prop):Prop:=
 m R (o_builtin .len #[24] 3 [false] [c]) w fun d t=>
 m R (o_call (fv 85) [r,d]) t fun C u=>
 m R (o_builtin .len #[24] 3 [false] [c]) u fun e v=>
 ml1 (.int .i64 0) v fun a E x b=>
 m R (o_bin .lss 3 false a e) x fun f g=>
 mif f (
 m R (o_indexAddr 24 c a) g fun h y=>
 m R (o_load 75 h) y fun i z=>
 m R (o_alloc 75) z fun j A=>
 m R (o_store 75 j i) A fun _ B=>
 m R (o_load 75 j) B fun l n=>
 m R (o_call s [l]) n fun D o=>
 m R (o_bin .add 3 true a (.int .i64 1)) o fun p q=>
 b p q) (
 R (.returned (.tuple #[])) g)
def A_commit_list_api_Proposal:Ann:=⟨[(2,[14],4178048)],[],[],[],[]⟩
theorem C_commit_list_api_Proposal (h:F_commit_list_api_Proposal x0 x1 x2 w R):Calls Tryz.prog 105 #[x0,x1,x2] w R:=cc A_commit_list_api_Proposal [x0,x1,x2] Tryz.func105 h
def F_commit_core_1 (b c:Value) (w:World) (R:Ending→World→Prop):Prop:=
 m R (o_box 75 b) w fun d a=>
 dq Tryz.prog a (o_load 80 c) fun e=>
 dq Tryz.prog a (o_load 75 d) fun f=>
 df Tryz.prog a (o_call (fv 107) [f]) true fun g h=>
 df Tryz.prog h (o_call (fv 86) [e,g]) false fun l i=>
 dend i fun j=>
 R (.returned (.tuple #[])) j
def A_commit_core_1:Ann:=⟨[],[],[(1,[⟨0,.q (some 0),2,0,8⟩,⟨1,.q (some 0),4,0,16⟩,⟨2,.f 0 true,16,2,32⟩,⟨3,.f 1 false,40,7,64⟩])],[],[]⟩
theorem C_commit_core_1 (h:F_commit_core_1 x0 x1 w R):Calls Tryz.prog 106 #[x0,x1] w R:=cc A_commit_core_1 [x0,x1] Tryz.func106 h
def F_change_Pack (e:Value) (w:World) (R:Ending→World→Prop):Prop:=
 m R (o_box 75 e) w fun b f=>
 m R (o_load 75 b) f fun g h=>
 m R (o_call (fv 31) [g]) h fun i j=>
 m R (o_un .not i) j fun l a=>
 mif l (
 R (.returned (.string (ByteArray.mk #[]))) a) (
 dq Tryz.prog a (o_load 75 b) fun n=>
 df Tryz.prog a (o_call (fv 172) [n]) true fun o p=>
 dp Tryz.prog (o_fieldAddr 75 b 5) fun q=>
 dp Tryz.prog (o_slice 23 q none none none) fun r=>
 dq Tryz.prog a (o_conv 89 9 r) fun c=>
 dp Tryz.prog (o_bin .add 9 false o c) fun d=>
 dend p fun s=>
 R (.returned d) s)
def A_change_Pack:Ann:=⟨[],[],[(3,[⟨0,.q (some 0),2,0,64⟩,⟨1,.f 0 true,64,1,128⟩,⟨2,.q none,2,0,256⟩,⟨3,.q none,256,4,512⟩,⟨4,.q (some 0),512,12,1024⟩,⟨5,.q none,1152,31,2048⟩,⟨6,.q none,2048,63,4⟩])],[],[]⟩
theorem C_change_Pack (h:F_change_Pack x0 w R):Calls Tryz.prog 107 #[x0] w R:=cc A_change_Pack [x0] Tryz.func107 h
def F_commit_list_api_Rung (r c s:Value) (w:World) (R:Ending→World→Prop):Prop:=
 m R (o_builtin .len #[25] 3 [false] [c]) w fun d t=>
 m R (o_call (fv 85) [r,d]) t fun C u=>
 m R (o_builtin .len #[25] 3 [false] [c]) u fun e v=>
 ml1 (.int .i64 0) v fun a E x b=>
 m R (o_bin .lss 3 false a e) x fun f g=>
 mif f (
 m R (o_indexAddr 25 c a) g fun h y=>
 m R (o_load 43 h) y fun i z=>
 m R (o_alloc 43) z fun j A=>
 m R (o_store 43 j i) A fun _ B=>
 m R (o_load 43 j) B fun l n=>
 m R (o_call s [l]) n fun D o=>
 m R (o_bin .add 3 true a (.int .i64 1)) o fun p q=>
 b p q) (
 R (.returned (.tuple #[])) g)
def A_commit_list_api_Rung:Ann:=⟨[(2,[14],4178048)],[],[],[],[]⟩
theorem C_commit_list_api_Rung (h:F_commit_list_api_Rung x0 x1 x2 w R):Calls Tryz.prog 108 #[x0,x1,x2] w R:=cc A_commit_list_api_Rung [x0,x1,x2] Tryz.func108 h
def F_commit_core_2 (g a:Value) (w:World) (R:Ending→World→Prop):Prop:=
 m R (o_box 43 g) w fun b h=>
 m R (o_load 80 a) h fun i j=>
 m R (o_fieldAddr 43 b 0) j fun l n=>
 m R (o_load 23 l) n fun o p=>
 m R (o_call (fv 84) [i,o]) p fun A q=>
 m R (o_load 80 a) q fun r s=>
 m R (o_fieldAddr 43 b 1) s fun t u=>
 m R (o_load 41 t) u fun v x=>
 m R (o_load 80 a) x fun c y=>
 m R (o_func (.func 86) [c] []) y fun d e=>
 m R (o_call (fv 110) [r,v,d]) e fun z f=>
 R (.returned (.tuple #[])) f
def A_commit_core_2:Ann:=⟨[],[],[],[],[]⟩
theorem C_commit_core_2 (h:F_commit_core_2 x0 x1 w R):Calls Tryz.prog 109 #[x0,x1] w R:=cc A_commit_core_2 [x0,x1] Tryz.func109 h
def F_commit_list_string (l c n:Value) (w:World) (R:Ending→World→Prop):Prop:=
 m R (o_builtin .len #[41] 3 [false] [c]) w fun d o=>
 m R (o_call (fv 85) [l,d]) o fun x p=>
 m R (o_builtin .len #[41] 3 [false] [c]) p fun e q=>
 ml1 (.int .i64 0) q fun a z r b=>
 m R (o_bin .lss 3 false a e) r fun f g=>
 mif f (
 m R (o_indexAddr 41 c a) g fun h s=>
 m R (o_load 9 h) s fun i t=>
 m R (o_call n [i]) t fun y u=>
 m R (o_bin .add 3 true a (.int .i64 1)) u fun j v=>
 b j v) (
 R (.returned (.tuple #[])) g)
def A_commit_list_string:Ann:=⟨[(2,[14],4178048)],[],[],[],[]⟩
theorem C_commit_list_string (h:F_commit_list_string x0 x1 x2 w R):Calls Tryz.prog 110 #[x0,x1,x2] w R:=cc A_commit_list_string [x0,x1,x2] Tryz.func110 h
def F_commit_list_api_Welcome (r c s:Value) (w:World) (R:Ending→World→Prop):Prop:=
 m R (o_builtin .len #[26] 3 [false] [c]) w fun d t=>
 m R (o_call (fv 85) [r,d]) t fun C u=>
 m R (o_builtin .len #[26] 3 [false] [c]) u fun e v=>
 ml1 (.int .i64 0) v fun a E x b=>
 m R (o_bin .lss 3 false a e) x fun f g=>
 mif f (
 m R (o_indexAddr 26 c a) g fun h y=>
 m R (o_load 45 h) y fun i z=>
 m R (o_alloc 45) z fun j A=>
 m R (o_store 45 j i) A fun _ B=>
 m R (o_load 45 j) B fun l n=>
 m R (o_call s [l]) n fun D o=>
 m R (o_bin .add 3 true a (.int .i64 1)) o fun p q=>
 b p q) (
 R (.returned (.tuple #[])) g)
def A_commit_list_api_Welcome:Ann:=⟨[(2,[14],4178048)],[],[],[],[]⟩
theorem C_commit_list_api_Welcome (h:F_commit_list_api_Welcome x0 x1 x2 w R):Calls Tryz.prog 113 #[x0,x1,x2] w R:=cc A_commit_list_api_Welcome [x0,x1,x2] Tryz.func113 h
def F_commit_signed_1 (j a:Value) (w:World) (R:Ending→World→Prop):Prop:=
 m R (o_box 45 j) w fun b l=>
 m R (o_load 80 a) l fun n o=>
 m R (o_fieldAddr 45 b 0) o fun p q=>
 m R (o_load 3 p) q fun r s=>
 m R (o_call (fv 85) [n,r]) s fun E t=>
 m R (o_load 80 a) t fun u v=>
 m R (o_fieldAddr 45 b 1) v fun x y=>
 m R (o_load 3 x) y fun z A=>
 m R (o_call (fv 85) [u,z]) A fun C B=>
 m R (o_load 80 a) B fun c d=>
 m R (o_fieldAddr 45 b 2) d fun e f=>
 m R (o_load 9 e) f fun g h=>
 m R (o_call (fv 86) [c,g]) h fun D i=>
 R (.returned (.tuple #[])) i
def A_commit_signed_1:Ann:=⟨[],[],[],[],[]⟩
theorem C_commit_signed_1 (h:F_commit_signed_1 x0 x1 w R):Calls Tryz.prog 114 #[x0,x1] w R:=cc A_commit_signed_1 [x0,x1] Tryz.func114 h
def F_wire_bounds (w:World) (R:Ending→World→Prop):Prop:=
 m R (o_alloc 190) w fun a c=>
 m R (o_build 190 [(0,(.int .i64 64)),(1,(.int .i64 16384)),(2,(.int .i64 1073741824)),(3,(.int .i64 4611686018427387903))]) c fun d e=>
 m R (o_store 190 a d) e fun _ b=>
 rcell Tryz.prog 190 a b fun f=>
 R (.returned f) b
def A_wire_bounds:Ann:=⟨[],[],[],[],[]⟩
theorem C_wire_bounds (h:F_wire_bounds w R):Calls Tryz.prog 116 #[] w R:=cc A_wire_bounds [] Tryz.func116 h
def F_prim_public (c:Value) (w:World) (R:Ending→World→Prop):Prop:=
 m R (o_box 23 c) w fun d e=>
 m R (o_alloc 23) e fun a f=>
 m R (o_slice 23 d none none none) f fun g h=>
 m R (o_conv 89 9 g) h fun i j=>
 m R (o_buildSlice 41 2 [(0,(.string (ByteArray.mk #[112,117,98]))),(1,i)]) j fun l n=>
 m R (o_call (fv 34) [l]) n fun o p=>
 m R (o_store 23 a o) p fun _ b=>
 rcell Tryz.prog 23 a b fun q=>
 R (.returned q) b
def A_prim_public:Ann:=⟨[],[],[],[],[]⟩
theorem C_prim_public (h:F_prim_public x0 w R):Calls Tryz.prog 120 #[x0] w R:=cc A_prim_public [x0] Tryz.func120 h
def F_book_Book_Note (a bI:Value) (w:World) (R:Ending→World→Prop):Prop:=
 m R (o_box 199 bI) w fun d bJ=>
 m R (o_fieldAddr 199 d 1) bJ fun bK bL=>
 m R (o_load 137 bK) bL fun bM bN=>
 m R (o_builtin .len #[137] 3 [false] [bM]) bN fun o bO=>
 m R (o_bin .eql 3 true o (.int .i64 0)) bO fun p q=>
 mif p (
 R (.returned (.int .i64 1)) q) (
 m R (o_bin .eql 110 true a (.pointer none)) q fun r s=>
 mif r (
 R (.returned (.int .i64 0)) s) (
 m R (o_load 199 d) s fun t bP=>
 m R (o_call (fv 173) [t]) bP fun g bQ=>
 m R (o_nilCheck a) bQ fun u bR=>
 m R (o_fieldAddr 265 u 1) bR fun v x=>
 m R (o_load 261 v) x fun y z=>
 m R (o_lookup 261 y g false) z fun A h=>
 mif A (
 R (.returned (.int .i64 0)) h) (
 m R (o_nilCheck a) h fun B C=>
 m R (o_fieldAddr 265 B 0) C fun D E=>
 m R (o_load 260 D) E fun F G=>
 m R (o_builtin .len #[260] 3 [false] [F]) G fun H I=>
 m R (o_bin .geq 3 true H (.int .i64 1048576)) I fun J i=>
 mif J (
 R (.returned (.int .i64 9)) i) (
 m R (o_nilCheck a) i fun K L=>
 m R (o_fieldAddr 265 K 1) L fun M N=>
 m R (o_load 261 M) N fun O Q=>
 m R (o_mapUpdate 261 O g (.bool true)) Q fun _ S=>
 m R (o_fieldAddr 199 d 0) S fun T U=>
 m R (o_load 137 T) U fun j V=>
 m R (o_builtin .len #[137] 3 [false] [j]) V fun W X=>
 ml1 (.int .i64 0) X fun e bS Y f=>
 m R (o_bin .lss 3 false e W) Y fun Z b=>
 mif Z (
 m R (o_indexAddr 137 j e) b fun aA aB=>
 m R (o_load 23 aA) aB fun aC aD=>
 m R (o_alloc 23) aD fun aE aF=>
 m R (o_store 23 aE aC) aF fun _ c=>
 dp Tryz.prog (o_nilCheck a) fun aG=>
 dp Tryz.prog (o_fieldAddr 265 aG 2) fun aH=>
 dq Tryz.prog c (o_load 262 aH) fun l=>
 dq Tryz.prog c (o_load 23 aE) fun aI=>
 dp Tryz.prog (o_nilCheck a) fun aJ=>
 dp Tryz.prog (o_fieldAddr 265 aJ 0) fun aK=>
 dq Tryz.prog c (o_load 260 aK) fun aL=>
 dp Tryz.prog (o_builtin .len #[260] 3 [false] [aL]) fun aM=>
 df Tryz.prog c (o_buildSlice 133 1 [(0,aM)]) true fun aN aO=>
 df Tryz.prog aO (o_mapEntry 262 l aI) false fun n aP=>
 dp Tryz.prog (o_extract n 0) fun aQ=>
 df Tryz.prog aP (o_builtin .append #[133,133] 133 [false,false] [aQ,aN]) false fun aR aS=>
 dp Tryz.prog (o_extract n 1) fun aT=>
 df Tryz.prog aS (o_entryStore 262 l aT aR) false fun _ aU=>
 dend aU fun aV=>
 m R (o_bin .add 3 true e (.int .i64 1)) aV fun aW aX=>
 f aW aX) (
 dp Tryz.prog (o_nilCheck a) fun aY=>
 dp Tryz.prog (o_fieldAddr 265 aY 0) fun aZ=>
 dq Tryz.prog b (o_load 260 aZ) fun a0=>
 dp Tryz.prog (o_fieldAddr 199 d 0) fun a1=>
 dq Tryz.prog b (o_load 137 a1) fun a2=>
 df Tryz.prog b (o_call (fv 162) [a2]) true fun a3 a4=>
 dp Tryz.prog (o_fieldAddr 199 d 1) fun a5=>
 dq Tryz.prog b (o_load 137 a5) fun a6=>
 df Tryz.prog a4 (o_call (fv 162) [a6]) true fun a7 a8=>
 dp Tryz.prog (o_build 199 [(0,a3),(1,a7)]) fun a9=>
 df Tryz.prog a8 (o_buildSlice 260 1 [(0,a9)]) true fun bA bB=>
 df Tryz.prog bB (o_builtin .append #[260,260] 260 [false,false] [a0,bA]) false fun bC bD=>
 dp Tryz.prog (o_nilCheck a) fun bE=>
 dp Tryz.prog (o_fieldAddr 265 bE 0) fun bF=>
 df Tryz.prog bD (o_store 260 bF bC) false fun _ bG=>
 dend bG fun bH=>
 R (.returned (.int .i64 0)) bH)))))
def A_book_Book_Note:Ann:=⟨[(12,[38],288230101273804928)],[],[(14,[⟨0,.q none,1,0,P_ 42⟩,⟨1,.q none,P_ 42,1,P_ 43⟩,⟨2,.q none,P_ 43,3,P_ 44⟩,⟨3,.q (some 0),P_ 44,7,P_ 45⟩,⟨4,.q (some 0),128,0,P_ 46⟩,⟨5,.q none,1,0,P_ 48⟩,⟨6,.q none,P_ 48,32,P_ 49⟩,⟨7,.q none,P_ 49,96,P_ 50⟩,⟨8,.q (some 0),P_ 50,224,P_ 51⟩,⟨9,.q none,P_ 51,480,P_ 52⟩,⟨10,.f 0 true,P_ 52,992,P_ 53⟩,⟨11,.f 1 false,P_ 47-P_ 45,2047,P_ 54⟩,⟨12,.q none,P_ 54,4095,P_ 47⟩,⟨13,.f 2 false,P_ 53+P_ 47,8191,P_ 55⟩,⟨14,.q none,P_ 54,4095,P_ 56⟩,⟨15,.f 3 false,108121575428980736,32767,0⟩]),(16,[⟨0,.q none,1,0,P_ 58⟩,⟨1,.q none,1,0,P_ 59⟩,⟨2,.q none,P_ 59,2,P_ 60⟩,⟨3,.q none,P_ 60,6,P_ 61⟩,⟨4,.q (some 0),P_ 61,14,P_ 62⟩,⟨5,.q none,8,0,P_ 63⟩,⟨6,.q (some 0),P_ 63,32,P_ 64⟩,⟨7,.f 0 true,P_ 64,96,P_ 65⟩,⟨8,.q none,8,0,P_ 66⟩,⟨9,.q (some 0),P_ 66,256,P_ 67⟩,⟨10,.f 1 true,P_ 67,992,P_ 68⟩,⟨11,.q none,P_ 68+P_ 65,2016,P_ 69⟩,⟨12,.f 2 true,P_ 69,4064,P_ 70⟩,⟨13,.f 3 false,P_ 70+P_ 62,8190,P_ 71⟩,⟨14,.q none,P_ 58,16383,P_ 72⟩,⟨15,.q none,P_ 72,32767,P_ 73⟩,⟨16,.f 4 false,P_ 73+P_ 71,65535,0⟩])],[],[]⟩
theorem C_book_Book_Note (h:F_book_Book_Note x0 x1 w R):Calls Tryz.prog 121 #[x0,x1] w R:=cc A_book_Book_Note [x0,x1] Tryz.func121 h
def F_prim_Mark (c:Value) (w:World) (R:Ending→World→Prop):Prop:=
 m R (o_box 23 c) w fun d e=>
 m R (o_alloc 23) e fun a f=>
 m R (o_slice 23 d none none none) f fun g h=>
 m R (o_conv 89 9 g) h fun i j=>
 m R (o_buildSlice 41 2 [(0,(.string (ByteArray.mk #[109,97,114,107]))),(1,i)]) j fun l n=>
 m R (o_call (fv 34) [l]) n fun o p=>
 m R (o_store 23 a o) p fun _ b=>
 rcell Tryz.prog 23 a b fun q=>
 R (.returned q) b
def A_prim_Mark:Ann:=⟨[],[],[],[],[]⟩
theorem C_prim_Mark (h:F_prim_Mark x0 w R):Calls Tryz.prog 122 #[x0] w R:=cc A_prim_Mark [x0] Tryz.func122 h
def F_tree_sound (g:Value) (w:World) (R:Ending→World→Prop):Prop:=
 m R (o_box 58 g) w fun c h=>
 m R (o_alloc 58) h fun a i=>
 m R (o_load 58 c) i fun j l=>
 m R (o_call (fv 127) [j]) l fun n d=>
 mif n (
 m R (o_load 58 c) d fun o p=>
 m R (o_store 58 a o) p fun _ e=>
 rcell Tryz.prog 58 a e fun b=>
 R (.returned b) e) (
 m R (o_build 58 []) d fun q r=>
 m R (o_store 58 a q) r fun _ f=>
 rcell Tryz.prog 58 a f fun b=>
 R (.returned b) f)
def A_tree_sound:Ann:=⟨[],[],[],[],[]⟩
theorem C_tree_sound (h:F_tree_sound x0 w R):Calls Tryz.prog 123 #[x0] w R:=cc A_tree_sound [x0] Tryz.func123 h
def F_tree_hashAt (aT b:Value) (w:World) (R:Ending→World→Prop):Prop:=
 m R (o_box 58 aT) w fun c aU=>
 m R (o_alloc 23) aU fun d aV=>
 m R (o_call (fv 36) []) aV fun a aW=>
 m R (o_bin .rem 3 true b (.int .i64 2)) aW fun o aX=>
 m R (o_bin .eql 3 true o (.int .i64 0)) aX fun p q=>
 mif p (
 m R (o_fieldAddr 58 c 0) q fun r aY=>
 m R (o_load 55 r) aY fun s aZ=>
 m R (o_bin .quo 3 true b (.int .i64 2)) aZ fun t a0=>
 m R (o_indexAddr 55 s t) a0 fun u a1=>
 m R (o_load 118 u) a1 fun v x=>
 m R (o_call (fv 160) [a,v]) x fun a2 y=>
 m R (o_call (fv 38) [a]) y fun e z=>
 m R (o_extract e 0) z fun A B=>
 m R (o_extract e 1) B fun a3 C=>
 m R (o_buildSlice 41 2 [(0,(.string (ByteArray.mk #[108,101,97,102]))),(1,A)]) C fun D E=>
 m R (o_call (fv 34) [D]) E fun F G=>
 m R (o_store 23 d F) G fun _ f=>
 rcell Tryz.prog 23 d f fun n=>
 R (.returned n) f) (
 m R (o_fieldAddr 58 c 0) q fun H I=>
 m R (o_load 55 H) I fun J K=>
 m R (o_builtin .len #[55] 3 [false] [J]) K fun g L=>
 m R (o_fieldAddr 58 c 1) L fun M N=>
 m R (o_load 56 M) N fun O Q=>
 m R (o_bin .quo 3 true b (.int .i64 2)) Q fun S T=>
 m R (o_indexAddr 56 O S) T fun U V=>
 m R (o_load 222 U) V fun W X=>
 m R (o_call (fv 161) [a,W]) X fun a4 h=>
 dq Tryz.prog h (o_load 58 c) fun Y=>
 df Tryz.prog h (o_call (fv 174) [g,b]) true fun Z aA=>
 df Tryz.prog aA (o_call (fv 124) [Y,Z]) false fun aB aC=>
 df Tryz.prog aC (o_call (fv 84) [a,aB]) false fun a5 aD=>
 dend aD fun i=>
 dq Tryz.prog i (o_load 58 c) fun aE=>
 df Tryz.prog i (o_call (fv 175) [g,b]) true fun aF aG=>
 df Tryz.prog aG (o_call (fv 124) [aE,aF]) false fun aH aI=>
 df Tryz.prog aI (o_call (fv 84) [a,aH]) false fun a6 aJ=>
 dend aJ fun aK=>
 m R (o_call (fv 38) [a]) aK fun j aL=>
 m R (o_extract j 0) aL fun aM aN=>
 m R (o_extract j 1) aN fun a7 aO=>
 m R (o_buildSlice 41 2 [(0,(.string (ByteArray.mk #[110,111,100,101]))),(1,aM)]) aO fun aP aQ=>
 m R (o_call (fv 34) [aP]) aQ fun aR aS=>
 m R (o_store 23 d aR) aS fun _ l=>
 rcell Tryz.prog 23 d l fun n=>
 R (.returned n) l)
def A_tree_hashAt:Ann:=⟨[],[],[(8,[⟨0,.q none,32,0,P_ 42⟩,⟨1,.q (some 0),4,0,P_ 43⟩,⟨2,.q none,256,0,P_ 44⟩,⟨3,.q none,2,0,P_ 45⟩,⟨4,.f 0 true,P_ 46-P_ 44,12,P_ 46⟩,⟨5,.f 1 false,P_ 46+P_ 43,30,P_ 47⟩,⟨6,.f 2 false,P_ 47+P_ 42,63,P_ 48⟩]),(9,[⟨0,.q none,32,0,P_ 49⟩,⟨1,.q (some 0),4,0,P_ 50⟩,⟨2,.q none,256,0,P_ 51⟩,⟨3,.q none,2,0,P_ 52⟩,⟨4,.f 0 true,P_ 53-P_ 51,12,P_ 53⟩,⟨5,.f 1 false,P_ 53+P_ 50,30,P_ 54⟩,⟨6,.f 2 false,P_ 54+P_ 49,63,P_ 55⟩])],[],[]⟩
theorem C_tree_hashAt (h:F_tree_hashAt x0 x1 w R):Calls Tryz.prog 124 #[x0,x1] w R:=cc A_tree_hashAt [x0,x1] Tryz.func124 h
def F_bough_Root (c:Value) (w:World) (R:Ending→World→Prop):Prop:=
 m R (o_call (fv 166) [c,(.int .i64 0)]) w fun h i=>
 m R (o_un .not h) i fun j d=>
 mif j (
 R (.returned (.int .i64 (-1))) d) (
 ml1 (.int .i64 1) d fun b q l a=>
 m R (o_bin .lss 3 false b c) l fun n e=>
 mif n (
 m R (o_bin .mul 3 true b (.int .i64 2)) e fun f o=>
 a f o) (
 m R (o_bin .sub 3 true b (.int .i64 1)) e fun g p=>
 R (.returned g) p))
def A_bough_Root:Ann:=⟨[(4,[3],3976)],[],[],[],[]⟩
theorem C_bough_Root (h:F_bough_Root x0 w R):Calls Tryz.prog 125 #[x0] w R:=cc A_bough_Root [x0] Tryz.func125 h
def F_mac_Derive (i a j:Value) (w:World) (R:Ending→World→Prop):Prop:=
 m R (o_box 23 i) w fun l n=>
 m R (o_alloc 23) n fun b c=>
 dp Tryz.prog (o_slice 23 l none none none) fun o=>
 dq Tryz.prog c (o_conv 89 9 o) fun p=>
 dp Tryz.prog (o_builtin .len #[9] 3 [false] [a]) fun d=>
 df Tryz.prog c (o_call (fv 176) [d]) true fun e q=>
 df Tryz.prog q (o_buildSlice 41 3 [(0,e),(1,a),(2,j)]) true fun f r=>
 df Tryz.prog r (o_call (fv 169) [p,f]) false fun g s=>
 df Tryz.prog s (o_store 23 b g) false fun _ t=>
 dend t fun h=>
 rcell Tryz.prog 23 b h fun u=>
 R (.returned u) h
def A_mac_Derive:Ann:=⟨[],[],[(1,[⟨0,.q none,8,0,128⟩,⟨1,.q (some 0),128,1,256⟩,⟨2,.q none,2,0,512⟩,⟨3,.q none,512,4,1024⟩,⟨4,.f 0 true,1024,12,2048⟩,⟨5,.q none,2,0,4096⟩,⟨6,.q none,4,0,8192⟩,⟨7,.f 1 true,14336,124,16384⟩,⟨8,.f 2 false,16640,255,32768⟩,⟨9,.f 3 false,32832,511,0⟩])],[],[]⟩
theorem C_mac_Derive (h:F_mac_Derive x0 x1 x2 w R):Calls Tryz.prog 126 #[x0,x1,x2] w R:=cc A_mac_Derive [x0,x1,x2] Tryz.func126 h
def F_tree_Right (eV:Value) (w:World) (R:Ending→World→Prop):Prop:=
 m R (o_box 58 eV) w fun o eW=>
 m R (o_fieldAddr 58 o 0) eW fun bL eX=>
 m R (o_load 55 bL) eX fun bM eY=>
 m R (o_builtin .len #[55] 3 [false] [bM]) eY fun e eZ=>
 mj1 (fun e0=>
 m R (o_bin .gtr 3 true e (.int .i64 64)) eZ fun c bN=>
 mguard c false (fun k=>m R (o_fieldAddr 58 o 1) bN k) bN fun bO bP=>
 mguard c false (fun k=>m R (o_load 56 bO) bP k) bP fun bQ bR=>
 mguard c false (fun k=>m R (o_builtin .len #[56] 3 [false] [bQ]) bR k) bR fun bS bT=>
 mguard c false (fun k=>m R (o_move e) bT k) bT fun bU bV=>
 mguard c false (fun k=>m R (o_bin .sub 3 true bU (.int .i64 1)) bV k) bV fun bW G=>
 mguard c false (fun k=>m R (o_builtin .max #[3,3] 3 [false,true] [bW,(.int .i64 0)]) G k) G fun bX H=>
 mguard c false (fun k=>m R (o_bin .neq 3 false bS bX) H k) H fun bY bZ=>
 m R (o_pick c (.bool true) bY) bZ fun q b0=>
 e0 q b0) fun q e7 I=>
 mif q (
 R (.returned (.bool false)) I) (
 m R (o_alloc 267) I fun b1 b2=>
 m R (o_fieldAddr 58 o 0) b2 fun b3 b4=>
 m R (o_load 55 b3) b4 fun J b5=>
 m R (o_builtin .len #[55] 3 [false] [J]) b5 fun b6 b7=>
 ml1 (.int .i64 0) b7 fun r e8 b8 F=>
 m R (o_bin .lss 3 false r b6) b8 fun b9 K=>
 mif b9 (
 mj0 (fun L=>
 m R (o_indexAddr 55 J r) K fun cA cB=>
 m R (o_load 118 cA) cB fun cC cD=>
 m R (o_alloc 118) cD fun p cE=>
 m R (o_store 118 p cC) cE fun _ cF=>
 m R (o_load 118 p) cF fun cG cH=>
 m R (o_build 118 []) cH fun cI cJ=>
 m R (o_bin .eql 118 false cG cI) cJ fun cK M=>
 mif cK (
 L M) (
 mj1 (fun cL=>
 m R (o_fieldAddr 118 p 0) M fun cM cN=>
 m R (o_load 3 cM) cN fun cO cP=>
 m R (o_bin .lss 3 true cO (.int .i64 1)) cP fun j N=>
 mguard j false (fun k=>m R (o_fieldAddr 118 p 0) N k) N fun cQ O=>
 mguard j false (fun k=>m R (o_load 3 cQ) O k) O fun cR Q=>
 mguard j false (fun k=>m R (o_bin .gtr 3 true cR (.int .i64 64)) Q k) Q fun cS cT=>
 m R (o_pick j (.bool true) cS) cT fun f S=>
 mguard f false (fun k=>m R (o_fieldAddr 118 p 0) S k) S fun cU T=>
 mguard f false (fun k=>m R (o_load 3 cU) T k) T fun cV U=>
 mguard f false (fun k=>m R (o_indexAddr 267 b1 cV) U k) U fun cW V=>
 mguard f false (fun k=>m R (o_load 4 cW) V k) V fun cX cY=>
 m R (o_pick f (.bool true) cX) cY fun cZ c0=>
 cL cZ c0) fun c1 e1 W=>
 mif c1 (
 R (.returned (.bool false)) W) (
 m R (o_fieldAddr 118 p 0) W fun c2 c3=>
 m R (o_load 3 c2) c3 fun c4 c5=>
 m R (o_indexAddr 267 b1 c4) c5 fun c6 c7=>
 m R (o_store 4 c6 (.bool true)) c7 fun _ c8=>
 L c8))) fun e2 c9=>
 m R (o_bin .add 3 true r (.int .i64 1)) c9 fun dA dB=>
 F dA dB) (
 m R (o_fieldAddr 58 o 1) K fun dC dD=>
 m R (o_load 56 dC) dD fun X dE=>
 m R (o_builtin .len #[56] 3 [false] [X]) dE fun dF dG=>
 ml1 (.int .i64 0) dG fun l e3 dH s=>
 m R (o_bin .lss 3 false l dF) dH fun dI Y=>
 mif dI (
 m R (o_indexAddr 56 X l) Y fun dJ dK=>
 m R (o_load 222 dJ) dK fun dL dM=>
 m R (o_alloc 222) dM fun t dN=>
 m R (o_store 222 t dL) dN fun _ dO=>
 mj1 (fun dP=>
 m R (o_fieldAddr 222 t 0) dO fun dQ dR=>
 m R (o_load 4 dQ) dR fun dS dT=>
 m R (o_un .not dS) dT fun n Z=>
 mguard n true (fun k=>m R (o_load 222 t) Z k) Z fun dU aA=>
 mguard n true (fun k=>m R (o_call (fv 177) [dU]) aA k) aA fun dV aB=>
 mguard n true (fun k=>m R (o_un .not dV) aB k) aB fun dW dX=>
 m R (o_pick n dW (.bool false)) dX fun u dY=>
 dP u dY) fun u e4 aC=>
 mif u (
 R (.returned (.bool false)) aC) (
 m R (o_fieldAddr 222 t 3) aC fun dZ d0=>
 m R (o_load 133 dZ) d0 fun aD d1=>
 m R (o_builtin .len #[133] 3 [false] [aD]) d1 fun d2 d3=>
 ml1 (.int .i64 0) d3 fun g e5 d4 v=>
 m R (o_bin .lss 3 false g d2) d4 fun d5 aE=>
 mif d5 (
 m R (o_indexAddr 133 aD g) aE fun d6 d7=>
 m R (o_load 3 d6) d7 fun x d8=>
 mj1 (fun d9=>
 m R (o_bin .mul 3 true (.int .i64 2) l) d8 fun eA eB=>
 m R (o_bin .add 3 true eA (.int .i64 1)) eB fun eC eD=>
 m R (o_call (fv 167) [e,eC,x]) eD fun eE eF=>
 m R (o_un .not eE) eF fun d aF=>
 mguard d false (fun k=>m R (o_fieldAddr 58 o 0) aF k) aF fun eG aG=>
 mguard d false (fun k=>m R (o_load 55 eG) aG k) aG fun eH aH=>
 mguard d false (fun k=>m R (o_move x) aH k) aH fun eI aI=>
 mguard d false (fun k=>m R (o_indexAddr 55 eH eI) aI k) aI fun eJ aJ=>
 mguard d false (fun k=>m R (o_fieldAddr 118 eJ 0) aJ k) aJ fun eK aK=>
 mguard d false (fun k=>m R (o_load 3 eK) aK k) aK fun eL aL=>
 mguard d false (fun k=>m R (o_bin .eql 3 true eL (.int .i64 0)) aL k) aL fun eM eN=>
 m R (o_pick d (.bool true) eM) eN fun h aM=>
 mguard h false (fun k=>m R (o_move g) aM k) aM fun eO aN=>
 mguard h false (fun k=>m R (o_bin .gtr 3 true eO (.int .i64 0)) aN k) aN fun eP aO=>
 mguard h false (fun k=>m R (o_move eP) aO k) aO fun b aP=>
 mguard b true (fun k=>m R (o_move x) aP k) aP fun eQ aQ=>
 mguard b true (fun k=>m R (o_fieldAddr 222 t 3) aQ k) aQ fun a0 aR=>
 mguard b true (fun k=>m R (o_load 133 a0) aR k) aR fun a1 aS=>
 mguard b true (fun k=>m R (o_move g) aS k) aS fun a2 aT=>
 mguard b true (fun k=>m R (o_bin .sub 3 true a2 (.int .i64 1)) aT k) aT fun a3 aU=>
 mguard b true (fun k=>m R (o_indexAddr 133 a1 a3) aU k) aU fun a4 aV=>
 mguard b true (fun k=>m R (o_load 3 a4) aV k) aV fun a5 aW=>
 mguard b true (fun k=>m R (o_bin .leq 3 false eQ a5) aW k) aW fun a6 aX=>
 mguard h false (fun k=>m R (o_pick b a6 (.bool false)) aX k) aX fun a7 eR=>
 m R (o_pick h (.bool true) a7) eR fun i eS=>
 d9 i eS) fun i e6 aY=>
 mif i (
 R (.returned (.bool false)) aY) (
 m R (o_bin .add 3 true g (.int .i64 1)) aY fun a8 eT=>
 v a8 eT)) (
 m R (o_bin .add 3 true l (.int .i64 1)) aE fun a9 eU=>
 s a9 eU))) (
 m R (o_bin .eql 3 true e (.int .i64 0)) Y fun a aZ=>
 mguard a false (fun k=>m R (o_fieldAddr 58 o 0) aZ k) aZ fun bA y=>
 mguard a false (fun k=>m R (o_load 55 bA) y k) y fun bB z=>
 mguard a false (fun k=>m R (o_move e) z k) z fun bC A=>
 mguard a false (fun k=>m R (o_bin .sub 3 true bC (.int .i64 1)) A k) A fun bD B=>
 mguard a false (fun k=>m R (o_indexAddr 55 bB bD) B k) B fun bE C=>
 mguard a false (fun k=>m R (o_fieldAddr 118 bE 0) C k) C fun bF D=>
 mguard a false (fun k=>m R (o_load 3 bF) D k) D fun bG E=>
 mguard a false (fun k=>m R (o_bin .gtr 3 true bG (.int .i64 0)) E k) E fun bH bI=>
 m R (o_pick a (.bool true) bH) bI fun bJ bK=>
 R (.returned bJ) bK)))
def A_tree_Right:Ann:=⟨[(6,[28],36028796750528580),(14,[58],P_ 111+P_ 11+P_ 2-P_ 58-P_ 7),(19,[74],P_ 110+P_ 11+P_ 2-P_ 74-P_ 9)],[(3,[24],33538048),(12,[],18014397435740228),(10,[36],P_ 51-P_ 36),(17,[70],P_ 71-P_ 63),(22,[108],P_ 109-P_ 79)],[],[],[]⟩
theorem C_tree_Right (h:F_tree_Right x0 w R):Calls Tryz.prog 127 #[x0] w R:=cc A_tree_Right [x0] Tryz.func127 h
def F_slices_ContainsFunc_int_int (a b:Value) (w:World) (R:Ending→World→Prop):Prop:=
 m R (o_call (fv 178) [a,b]) w fun c d=>
 m R (o_bin .geq 3 true c (.int .i64 0)) d fun e f=>
 R (.returned e) f
def A_slices_ContainsFunc_int_int:Ann:=⟨[],[],[],[],[]⟩
theorem C_slices_ContainsFunc_int_int (h:F_slices_ContainsFunc_int_int x0 x1 w R):Calls Tryz.prog 128 #[x0,x1] w R:=cc A_slices_ContainsFunc_int_int [x0,x1] Tryz.func128 h
def F_era_Make_1 (b:Value) (w:World) (R:Ending→World→Prop):Prop:=
 m R (o_bin .lss 3 true b (.int .i64 0)) w fun a c=>
 mguard a false (fun k=>m R (o_move b) c k) c fun e d=>
 mguard a false (fun k=>m R (o_bin .gtr 3 true e (.int .i64 4611686018427387903)) d k) d fun f g=>
 m R (o_pick a (.bool true) f) g fun h i=>
 R (.returned h) i
def A_era_Make_1:Ann:=⟨[],[],[],[],[]⟩
theorem C_era_Make_1 (h:F_era_Make_1 x0 w R):Calls Tryz.prog 129 #[x0] w R:=cc A_era_Make_1 [x0] Tryz.func129 h
def F_climb_Keep (a6 y:Value) (w:World) (R:Ending→World→Prop):Prop:=
 m R (o_box 58 a6) w fun x a7=>
 m R (o_load 58 x) a7 fun z a8=>
 m R (o_call (fv 127) [z]) a8 fun A a9=>
 m R (o_un .not A) a9 fun B C=>
 mif B (
 R (.returned (.slice none 0 0)) C) (
 m R (o_builtin .len #[63] 3 [false] [y]) C fun D bA=>
 ml2 (.slice none 0 0) (.int .i64 0) bA fun d f bH bB i=>
 m R (o_bin .lss 3 false f D) bB fun E F=>
 mif E (
 mj1 (fun g=>
 m R (o_indexAddr 63 y f) F fun G bC=>
 m R (o_load 128 G) bC fun H bD=>
 m R (o_alloc 128) bD fun e I=>
 m R (o_store 128 e H) I fun _ J=>
 mj0 (fun bE=>
 m R (o_fieldAddr 128 e 0) J fun K L=>
 m R (o_load 3 K) L fun M N=>
 m R (o_bin .lss 3 true M (.int .i64 0)) N fun a j=>
 mguard a false (fun k=>m R (o_fieldAddr 128 e 0) j k) j fun O l=>
 mguard a false (fun k=>m R (o_load 3 O) l k) l fun Q n=>
 mguard a false (fun k=>m R (o_fieldAddr 58 x 0) n k) n fun S o=>
 mguard a false (fun k=>m R (o_load 55 S) o k) o fun T p=>
 mguard a false (fun k=>m R (o_builtin .len #[55] 3 [false] [T]) p k) p fun U q=>
 mguard a false (fun k=>m R (o_bin .mul 3 true (.int .i64 2) U) q k) q fun V r=>
 mguard a false (fun k=>m R (o_bin .sub 3 true V (.int .i64 2)) r k) r fun W s=>
 mguard a false (fun k=>m R (o_bin .gtr 3 false Q W) s k) s fun X Y=>
 m R (o_pick a (.bool true) X) Y fun Z t=>
 mif Z (
 g d t) (
 bE t)) fun bI aA=>
 m R (o_load 58 x) aA fun aB aC=>
 m R (o_fieldAddr 128 e 0) aC fun aD aE=>
 m R (o_load 3 aD) aE fun aF aG=>
 m R (o_call (fv 152) [aB,aF]) aG fun u aH=>
 m R (o_extract u 0) aH fun aI aJ=>
 m R (o_extract u 1) aJ fun b aK=>
 m R (o_alloc 23) aK fun aL aM=>
 m R (o_store 23 aL aI) aM fun _ c=>
 mj1 (fun aN=>
 qguard b true (fun k=>dp Tryz.prog (o_fieldAddr 128 e 1) k) fun aO=>
 qguard b true (fun k=>dq Tryz.prog c (o_load 23 aO) k) fun aP=>
 mguard b true (fun k=>df Tryz.prog c (o_call (fv 62) [(.pointer none),aP]) true k) c fun aQ aR=>
 qguard b true (fun k=>dq Tryz.prog c (o_load 23 aL) k) fun aS=>
 qguard b true (fun k=>dp Tryz.prog (o_bin .eql 23 false aQ aS) k) fun aT=>
 dp Tryz.prog (o_pick b aT (.bool false)) fun h=>
 dend aR fun aU=>
 aN h aU) fun h bF v=>
 mif h (
 m R (o_load 128 e) v fun aV aW=>
 m R (o_buildSlice 63 1 [(0,aV)]) aW fun aX aY=>
 m R (o_builtin .append #[63,63] 63 [false,false] [d,aX]) aY fun aZ a0=>
 g aZ a0) (
 g d v)) fun d bG a1=>
 m R (o_bin .add 3 true f (.int .i64 1)) a1 fun a2 a3=>
 i d a2 a3) (
 m R (o_call (fv 155) [d]) F fun a4 a5=>
 R (.returned a4) a5))
def A_climb_Keep:Ann:=⟨[(5,[5,15],4503599627338656)],[(11,[5],2251799813555104),(8,[],4294443008),(10,[46],P_ 47-P_ 39)],[(9,[⟨0,.q none,512,0,P_ 39⟩,⟨1,.q none,P_ 39,1,P_ 40⟩,⟨2,.q none,P_ 40+P_ 7,3,P_ 41⟩,⟨3,.q (some 0),3298534883328,7,P_ 42⟩,⟨4,.f 0 true,5497558138880,15,P_ 43⟩,⟨5,.q (some 0),P_ 40+P_ 8,3,P_ 44⟩,⟨6,.q none,27487790694400,63,P_ 45⟩,⟨7,.q none,P_ 45+P_ 40,127,P_ 46⟩])],[],[]⟩
theorem C_climb_Keep (h:F_climb_Keep x0 x1 w R):Calls Tryz.prog 130 #[x0,x1] w R:=cc A_climb_Keep [x0,x1] Tryz.func130 h
def F_era_copied (aD:Value) (w:World) (R:Ending→World→Prop):Prop:=
 m R (o_box 58 aD) w fun g aE=>
 m R (o_alloc 58) aE fun r b=>
 mj1 (fun q=>
 ((
 dp Tryz.prog (o_fieldAddr 58 g 0) fun h=>
 dq Tryz.prog b (o_load 55 h) fun i=>
 dp Tryz.prog (o_fieldAddr 58 g 1) fun j=>
 dq Tryz.prog b (o_load 56 j) fun l=>
 df Tryz.prog b (o_call (fv 141) [i]) true fun n aF=>
 df Tryz.prog aF (o_call (fv 142) [l]) false fun c aG=>
 dp Tryz.prog (o_build 58 [(0,n),(1,c)]) fun d=>
 df Tryz.prog aG (o_alloc 58) true fun a aH=>
 df Tryz.prog aH (o_store 58 a d) false fun _ aI=>
 dend aI fun aJ=>
 q a aJ)∧(
 dp Tryz.prog (o_fieldAddr 58 g 0) fun h=>
 dq Tryz.prog b (o_load 55 h) fun i=>
 dp Tryz.prog (o_fieldAddr 58 g 1) fun j=>
 dq Tryz.prog b (o_load 56 j) fun l=>
 df Tryz.prog b (o_call (fv 141) [i]) true fun n aK=>
 df Tryz.prog aK (o_alloc 58) true fun a aL=>
 df Tryz.prog aL (o_call (fv 142) [l]) false fun c s=>
 dp Tryz.prog (o_build 58 [(0,n),(1,c)]) fun d=>
 df Tryz.prog s (o_store 58 a d) false fun _ t=>
 dend t fun u=>
 q a u)∧(
 dp Tryz.prog (o_fieldAddr 58 g 0) fun h=>
 dq Tryz.prog b (o_load 55 h) fun i=>
 dp Tryz.prog (o_fieldAddr 58 g 1) fun j=>
 dq Tryz.prog b (o_load 56 j) fun l=>
 df Tryz.prog b (o_alloc 58) true fun a v=>
 df Tryz.prog v (o_call (fv 141) [i]) true fun n x=>
 df Tryz.prog x (o_call (fv 142) [l]) false fun c y=>
 dp Tryz.prog (o_build 58 [(0,n),(1,c)]) fun d=>
 df Tryz.prog y (o_store 58 a d) false fun _ z=>
 dend z fun A=>
 q a A))) fun a aN B=>
 m R (o_fieldAddr 58 a 1) B fun C D=>
 m R (o_load 56 C) D fun E F=>
 m R (o_builtin .len #[56] 3 [false] [E]) F fun G H=>
 ml1 (.int .i64 0) H fun f aO I o=>
 m R (o_bin .lss 3 false f G) I fun J e=>
 mif J (
 dp Tryz.prog (o_fieldAddr 58 a 1) fun K=>
 dq Tryz.prog e (o_load 56 K) fun L=>
 dp Tryz.prog (o_fieldAddr 58 a 1) fun M=>
 dq Tryz.prog e (o_load 56 M) fun N=>
 dp Tryz.prog (o_indexAddr 56 N f) fun O=>
 dp Tryz.prog (o_fieldAddr 222 O 3) fun Q=>
 dq Tryz.prog e (o_load 133 Q) fun S=>
 df Tryz.prog e (o_call (fv 143) [S]) true fun T U=>
 dp Tryz.prog (o_indexAddr 56 L f) fun V=>
 dp Tryz.prog (o_fieldAddr 222 V 3) fun W=>
 df Tryz.prog U (o_store 133 W T) false fun _ X=>
 dend X fun Y=>
 m R (o_bin .add 3 true f (.int .i64 1)) Y fun Z aA=>
 o Z aA) (
 m R (o_load 58 a) e fun aB aC=>
 m R (o_store 58 r aB) aC fun _ p=>
 rcell Tryz.prog 58 r p fun aM=>
 R (.returned aM) p)
def A_era_copied:Ann:=⟨[(3,[15],2147450896)],[(2,[3],4072)],[(5,[⟨0,.q none,8,0,262144⟩,⟨1,.q (some 0),262144,1,524288⟩,⟨2,.q none,16,0,1048576⟩,⟨3,.q none,8,0,2097152⟩,⟨4,.q (some 0),2097152,8,4194304⟩,⟨5,.q none,16,0,8388608⟩,⟨6,.q none,12582912,56,16777216⟩,⟨7,.q none,16777216,120,33554432⟩,⟨8,.q (some 0),33554432,248,67108864⟩,⟨9,.f 0 true,67108864,504,P_ 27⟩,⟨10,.q none,1572864,1023,P_ 28⟩,⟨11,.q none,P_ 28,2047,P_ 29⟩,⟨12,.f 1 false,671088640,4095,0⟩])],[(1,[⟨[0,1,3,4,2,5,6,7,8],[⟨0,.q none,2,0,32⟩,⟨1,.q (some 0),32,1,64⟩,⟨2,.f 0 true,64,3,128⟩,⟨3,.q none,2,0,256⟩,⟨4,.q (some 0),256,8,512⟩,⟨5,.f 1 false,512,31,1024⟩,⟨6,.q none,1152,63,2048⟩,⟨7,.f 2 true,0,0,8⟩,⟨8,.f 3 false,2056,255,0⟩]⟩,⟨[0,1,3,4,2,7,5,6,8],[⟨0,.q none,2,0,32⟩,⟨1,.q (some 0),32,1,64⟩,⟨2,.f 0 true,64,3,128⟩,⟨3,.q none,2,0,256⟩,⟨4,.q (some 0),256,8,512⟩,⟨5,.f 2 false,512,31,1024⟩,⟨6,.q none,1152,63,2048⟩,⟨7,.f 1 true,0,0,8⟩,⟨8,.f 3 false,2056,255,0⟩]⟩,⟨[0,1,3,4,7,2,5,6,8],[⟨0,.q none,2,0,32⟩,⟨1,.q (some 0),32,1,64⟩,⟨2,.f 1 true,64,3,128⟩,⟨3,.q none,2,0,256⟩,⟨4,.q (some 0),256,8,512⟩,⟨5,.f 2 false,512,31,1024⟩,⟨6,.q none,1152,63,2048⟩,⟨7,.f 0 true,0,0,8⟩,⟨8,.f 3 false,2056,255,0⟩]⟩])],[]⟩
theorem C_era_copied (h:F_era_copied x0 w R):Calls Tryz.prog 131 #[x0] w R:=cc A_era_copied [x0] Tryz.func131 h
def F_ppr_New (q b:Value) (w:World) (R:Ending→World→Prop):Prop:=
 m R (o_box 23 q) w fun r s=>
 mj1 (fun t=>
 m R (o_bin .lss 3 true b (.int .i64 1)) s fun c d=>
 mguard c false (fun k=>m R (o_move b) d k) d fun u e=>
 mguard c false (fun k=>m R (o_bin .gtr 3 true u (.int .i64 32)) e k) e fun f v=>
 m R (o_pick c (.bool true) f) v fun a x=>
 t a x) fun a B g=>
 mif a (
 R (.returned (.tuple #[(.pointer none),(.int .i64 1)])) g) (
 m R (o_load 23 r) g fun h y=>
 m R (o_build 271 [(2,h)]) y fun i z=>
 m R (o_buildSlice 243 1 [(0,i)]) z fun j A=>
 m R (o_build 247 [(0,b),(1,j)]) A fun l n=>
 m R (o_box 247 l) n fun o p=>
 R (.returned (.tuple #[o,(.int .i64 0)])) p)
def A_ppr_New:Ann:=⟨[],[(2,[11],4032)],[],[],[]⟩
theorem C_ppr_New (h:F_ppr_New x0 x1 w R):Calls Tryz.prog 132 #[x0,x1] w R:=cc A_ppr_New [x0,x1] Tryz.func132 h
def F_keys_App (C D g:Value) (w:World) (R:Ending→World→Prop):Prop:=
 m R (o_box 23 D) w fun E F=>
 m R (o_alloc 23) F fun c G=>
 mj1 (fun H=>
 m R (o_bin .lss 3 true g (.int .i64 0)) G fun a i=>
 mguard a false (fun k=>m R (o_move g) i k) i fun j l=>
 mguard a false (fun k=>m R (o_bin .geq 3 true j (.int .i64 64)) l k) l fun n I=>
 m R (o_pick a (.bool true) n) I fun b J=>
 H b J) fun b N o=>
 mif b (
 m R (o_build 23 []) o fun p K=>
 m R (o_store 23 c p) K fun _ q=>
 rcell Tryz.prog 23 c q fun h=>
 R (.returned h) q) (
 m R (o_call (fv 36) []) o fun d r=>
 m R (o_call (fv 85) [d,g]) r fun L s=>
 m R (o_call (fv 38) [d]) s fun e t=>
 m R (o_extract e 0) t fun u v=>
 m R (o_extract e 1) v fun M x=>
 m R (o_load 23 E) x fun y z=>
 m R (o_call (fv 67) [C,y,(.string (ByteArray.mk #[97,112,112])),u]) z fun A B=>
 m R (o_store 23 c A) B fun _ f=>
 rcell Tryz.prog 23 c f fun h=>
 R (.returned h) f)
def A_keys_App:Ann:=⟨[],[(2,[15],64512)],[],[],[]⟩
theorem C_keys_App (h:F_keys_App x0 x1 x2 w R):Calls Tryz.prog 133 #[x0,x1,x2] w R:=cc A_keys_App [x0,x1,x2] Tryz.func133 h
def F_book_Book_Name (b f g:Value) (w:World) (R:Ending→World→Prop):Prop:=
 m R (o_box 23 g) w fun h i=>
 m R (o_bin .neq 110 true b (.pointer none)) i fun j a=>
 mif j (
 dp Tryz.prog (o_nilCheck b) fun l=>
 dp Tryz.prog (o_fieldAddr 265 l 3) fun c=>
 dq Tryz.prog a (o_load 263 c) fun d=>
 dq Tryz.prog a (o_load 23 h) fun e=>
 df Tryz.prog a (o_mapUpdate 263 d f e) false fun _ n=>
 dend n fun o=>
 R (.returned (.tuple #[])) o) (
 R (.returned (.tuple #[])) a)
def A_book_Book_Name:Ann:=⟨[],[],[(2,[⟨0,.q none,1,0,256⟩,⟨1,.q none,256,1,512⟩,⟨2,.q none,512,3,1024⟩,⟨3,.q (some 0),1024,7,2048⟩,⟨4,.q none,2,0,4096⟩,⟨5,.q (some 0),32,0,8192⟩,⟨6,.f 0 false,14336,63,0⟩])],[],[]⟩
theorem C_book_Book_Name (h:F_book_Book_Name x0 x1 x2 w R):Calls Tryz.prog 134 #[x0,x1,x2] w R:=cc A_book_Book_Name [x0,x1,x2] Tryz.func134 h
def F_sha_Hex (q:Value) (w:World) (R:Ending→World→Prop):Prop:=
 m R (o_box 23 q) w fun r s=>
 m R (o_load 23 r) s fun t u=>
 ml2 (.slice none 0 0) (.int .i64 0) u fun c b D v a=>
 m R (o_bin .lss 3 true b (.int .i64 32)) v fun x d=>
 mif x (
 m R (o_index 23 t b) d fun e y=>
 dp Tryz.prog (o_bin .shr 5 true e (.int .u64 4)) fun f=>
 dp Tryz.prog (o_index 9 (.string (ByteArray.mk #[48,49,50,51,52,53,54,55,56,57,97,98,99,100,101,102])) f) fun g=>
 dp Tryz.prog (o_bin .and 5 true e (.int .u8 15)) fun h=>
 dp Tryz.prog (o_index 9 (.string (ByteArray.mk #[48,49,50,51,52,53,54,55,56,57,97,98,99,100,101,102])) h) fun i=>
 df Tryz.prog y (o_buildSlice 89 2 [(0,g),(1,i)]) false fun j z=>
 df Tryz.prog z (o_builtin .append #[89,89] 89 [false,false] [c,j]) false fun l A=>
 dend A fun B=>
 m R (o_bin .add 3 true b (.int .i64 1)) B fun n C=>
 a l n C) (
 m R (o_conv 89 9 c) d fun o p=>
 R (.returned o) p)
def A_sha_Hex:Ann:=⟨[(3,[3,7],1048488)],[],[(5,[⟨0,.q none,8,0,1024⟩,⟨1,.q none,32,0,2048⟩,⟨2,.q none,2048,2,4096⟩,⟨3,.q none,4096,6,8192⟩,⟨4,.q none,32,0,16384⟩,⟨5,.q none,16384,16,32768⟩,⟨6,.q none,32768,48,65536⟩,⟨7,.f 0 false,73728,126,131072⟩,⟨8,.f 1 false,132096,255,262144⟩,⟨9,.q none,262144,511,8⟩])],[],[]⟩
theorem C_sha_Hex (h:F_sha_Hex x0 w R):Calls Tryz.prog 135 #[x0] w R:=cc A_sha_Hex [x0] Tryz.func135 h
def F_bevyref05_text (a:Value) (w:World) (R:Ending→World→Prop):Prop:=
 m R (o_box 22 a) w fun b c=>
 m R (o_slice 22 b none none none) c fun d e=>
 m R (o_conv 89 9 d) e fun f g=>
 R (.returned f) g
def A_bevyref05_text:Ann:=⟨[],[],[],[],[]⟩
theorem C_bevyref05_text (h:F_bevyref05_text x0 w R):Calls Tryz.prog 136 #[x0] w R:=cc A_bevyref05_text [x0] Tryz.func136 h
def F_bevylaw13_Init (c d:Value) (w:World) (R:Ending→World→Prop):Prop:=
 m R (o_alloc 23) w fun a e=>
 m R (o_conv 3 5 c) e fun f g=>
 m R (o_conv 3 5 d) g fun h i=>
 m R (o_build 23 [(0,f),(1,h),(2,(.int .u8 1))]) i fun j l=>
 m R (o_store 23 a j) l fun _ b=>
 rcell Tryz.prog 23 a b fun n=>
 R (.returned n) b
def A_bevylaw13_Init:Ann:=⟨[],[],[],[],[]⟩
theorem C_bevylaw13_Init (h:F_bevylaw13_Init x0 x1 w R):Calls Tryz.prog 137 #[x0,x1] w R:=cc A_bevylaw13_Init [x0,x1] Tryz.func137 h
def F_slices_Clone_api_Leaf_api_Leaf (a:Value) (w:World) (R:Ending→World→Prop):Prop:=
 m R (o_bin .eql 55 true a (.slice none 0 0)) w fun c b=>
 mif c (
 R (.returned (.slice none 0 0)) b) (
 m R (o_buildSlice 55 0 []) b fun d e=>
 m R (o_builtin .append #[55,55] 55 [false,false] [d,a]) e fun f g=>
 R (.returned f) g)
def A_slices_Clone_api_Leaf_api_Leaf:Ann:=⟨[],[],[],[],[]⟩
theorem C_slices_Clone_api_Leaf_api_Leaf (h:F_slices_Clone_api_Leaf_api_Leaf x0 w R):Calls Tryz.prog 141 #[x0] w R:=cc A_slices_Clone_api_Leaf_api_Leaf [x0] Tryz.func141 h
def F_slices_Clone_api_Parent_api_Parent (a:Value) (w:World) (R:Ending→World→Prop):Prop:=
 m R (o_bin .eql 56 true a (.slice none 0 0)) w fun c b=>
 mif c (
 R (.returned (.slice none 0 0)) b) (
 m R (o_buildSlice 56 0 []) b fun d e=>
 m R (o_builtin .append #[56,56] 56 [false,false] [d,a]) e fun f g=>
 R (.returned f) g)
def A_slices_Clone_api_Parent_api_Parent:Ann:=⟨[],[],[],[],[]⟩
theorem C_slices_Clone_api_Parent_api_Parent (h:F_slices_Clone_api_Parent_api_Parent x0 w R):Calls Tryz.prog 142 #[x0] w R:=cc A_slices_Clone_api_Parent_api_Parent [x0] Tryz.func142 h
def F_slices_Clone_int_int (a:Value) (w:World) (R:Ending→World→Prop):Prop:=
 m R (o_bin .eql 133 true a (.slice none 0 0)) w fun c b=>
 mif c (
 R (.returned (.slice none 0 0)) b) (
 m R (o_buildSlice 133 0 []) b fun d e=>
 m R (o_builtin .append #[133,133] 133 [false,false] [d,a]) e fun f g=>
 R (.returned f) g)
def A_slices_Clone_int_int:Ann:=⟨[],[],[],[],[]⟩
theorem C_slices_Clone_int_int (h:F_slices_Clone_int_int x0 w R):Calls Tryz.prog 143 #[x0] w R:=cc A_slices_Clone_int_int [x0] Tryz.func143 h
def F_slices_IndexFunc_api_Leaf_api_Leaf (c j:Value) (w:World) (R:Ending→World→Prop):Prop:=
 m R (o_builtin .len #[55] 3 [false] [c]) w fun l n=>
 ml1 (.int .i64 0) n fun a t o b=>
 m R (o_bin .lss 3 false a l) o fun p d=>
 mif p (
 m R (o_indexAddr 55 c a) d fun e q=>
 m R (o_load 118 e) q fun f r=>
 m R (o_call j [f]) r fun g h=>
 mif g (
 R (.returned a) h) (
 m R (o_bin .add 3 true a (.int .i64 1)) h fun i s=>
 b i s)) (
 R (.returned (.int .i64 (-1))) d)
def A_slices_IndexFunc_api_Leaf_api_Leaf:Ann:=⟨[(2,[8],524080)],[],[],[],[]⟩
theorem C_slices_IndexFunc_api_Leaf_api_Leaf (h:F_slices_IndexFunc_api_Leaf_api_Leaf x0 x1 w R):Calls Tryz.prog 147 #[x0,x1] w R:=cc A_slices_IndexFunc_api_Leaf_api_Leaf [x0,x1] Tryz.func147 h
def F_tree_Place_1 (a b:Value) (w:World) (R:Ending→World→Prop):Prop:=
 m R (o_box 118 a) w fun c d=>
 m R (o_fieldAddr 118 c 0) d fun e f=>
 m R (o_load 3 e) f fun g h=>
 m R (o_load 3 b) h fun i j=>
 m R (o_bin .eql 3 false g i) j fun l n=>
 R (.returned l) n
def A_tree_Place_1:Ann:=⟨[],[],[],[],[]⟩
theorem C_tree_Place_1 (h:F_tree_Place_1 x0 x1 w R):Calls Tryz.prog 148 #[x0,x1] w R:=cc A_tree_Place_1 [x0,x1] Tryz.func148 h
def F_climb_blank (G h:Value) (w:World) (R:Ending→World→Prop):Prop:=
 m R (o_box 58 G) w fun i H=>
 m R (o_bin .lss 3 true h (.int .i64 0)) H fun b j=>
 mguard b false (fun k=>m R (o_move h) j k) j fun I l=>
 mguard b false (fun k=>m R (o_fieldAddr 58 i 0) l k) l fun J n=>
 mguard b false (fun k=>m R (o_load 55 J) n k) n fun o p=>
 mguard b false (fun k=>m R (o_builtin .len #[55] 3 [false] [o]) p k) p fun q r=>
 mguard b false (fun k=>m R (o_bin .geq 3 false I q) r k) r fun s K=>
 m R (o_pick b (.bool true) s) K fun a t=>
 mguard a false (fun k=>m R (o_fieldAddr 58 i 0) t k) t fun u v=>
 mguard a false (fun k=>m R (o_load 55 u) v k) v fun x c=>
 mguard a false (fun k=>m R (o_move h) c k) c fun y d=>
 mguard a false (fun k=>m R (o_indexAddr 55 x y) d k) d fun z e=>
 mguard a false (fun k=>m R (o_fieldAddr 118 z 0) e k) e fun A f=>
 mguard a false (fun k=>m R (o_load 3 A) f k) f fun B g=>
 mguard a false (fun k=>m R (o_bin .eql 3 true B (.int .i64 0)) g k) g fun C D=>
 m R (o_pick a (.bool true) C) D fun E F=>
 R (.returned E) F
def A_climb_blank:Ann:=⟨[],[],[],[],[]⟩
theorem C_climb_blank (h:F_climb_blank x0 x1 w R):Calls Tryz.prog 149 #[x0,x1] w R:=cc A_climb_blank [x0,x1] Tryz.func149 h
def F_climb_up (f g X:Value) (w:World) (R:Ending→World→Prop):Prop:=
 m R (o_box 23 X) w fun b Y=>
 m R (o_alloc 23) Y fun h Z=>
 m R (o_builtin .len #[133] 3 [false] [g]) Z fun i aA=>
 ml3 (.slice none 0 0) (.slice none 0 0) (.int .i64 0) aA fun j d a aG aB c=>
 m R (o_bin .lss 3 false a i) aB fun l n=>
 mif l (
 m R (o_indexAddr 133 g a) n fun o aC=>
 m R (o_load 3 o) aC fun p aD=>
 mj0 (fun q=>
 m R (o_bin .gtr 3 true a (.int .i64 0)) aD fun r s=>
 mif r (
 m R (o_load 23 b) s fun t aE=>
 m R (o_call (fv 67) [f,t,(.string (ByteArray.mk #[112,97,116,104])),(.string (ByteArray.mk #[]))]) aE fun u v=>
 m R (o_store 23 b u) v fun _ x=>
 q x) (
 q s)) fun aH y=>
 m R (o_load 23 b) y fun z A=>
 m R (o_buildSlice 137 1 [(0,z)]) A fun B C=>
 m R (o_builtin .append #[137,137] 137 [false,false] [j,B]) C fun D E=>
 m R (o_load 23 b) E fun F G=>
 m R (o_call (fv 67) [f,F,(.string (ByteArray.mk #[110,111,100,101])),(.string (ByteArray.mk #[]))]) G fun H I=>
 m R (o_build 128 [(0,p),(1,H)]) I fun J K=>
 m R (o_buildSlice 63 1 [(0,J)]) K fun L M=>
 m R (o_builtin .append #[63,63] 63 [false,false] [d,L]) M fun N O=>
 m R (o_bin .add 3 true a (.int .i64 1)) O fun Q S=>
 c D N Q S) (
 m R (o_load 23 b) n fun T U=>
 m R (o_call (fv 67) [f,T,(.string (ByteArray.mk #[99,111,109,109,105,116])),(.string (ByteArray.mk #[]))]) U fun V W=>
 m R (o_store 23 h V) W fun _ e=>
 rcell Tryz.prog 23 h e fun aF=>
 R (.returned (.tuple #[j,d,aF])) e)
def A_climb_up:Ann:=⟨[(4,[9,10,15],274877881856)],[(8,[],32505856)],[],[],[]⟩
theorem C_climb_up (h:F_climb_up x0 x1 x2 w R):Calls Tryz.prog 150 #[x0,x1,x2] w R:=cc A_climb_up [x0,x1,x2] Tryz.func150 h
def F_climb_beside (I J d K:Value) (w:World) (R:Ending→World→Prop):Prop:=
 m R (o_box 58 I) w fun e L=>
 m R (o_box 133 K) L fun M N=>
 m R (o_bin .mul 3 true (.int .i64 2) J) N fun f O=>
 m R (o_builtin .len #[133] 3 [false] [d]) O fun g Q=>
 ml3 (.slice none 0 0) f (.int .i64 0) Q fun h i a V S b=>
 m R (o_bin .lss 3 false a g) S fun j l=>
 mif j (
 m R (o_indexAddr 133 d a) l fun n T=>
 m R (o_load 3 n) T fun o c=>
 dq Tryz.prog c (o_load 58 e) fun p=>
 dp Tryz.prog (o_fieldAddr 58 e 0) fun q=>
 dq Tryz.prog c (o_load 55 q) fun r=>
 dp Tryz.prog (o_builtin .len #[55] 3 [false] [r]) fun s=>
 df Tryz.prog c (o_call (fv 188) [s,i]) true fun t U=>
 df Tryz.prog U (o_call (fv 187) [p,t]) false fun u v=>
 dend v fun x=>
 m R (o_func (.func 190) [] [M]) x fun y z=>
 m R (o_call (fv 189) [u,y]) z fun A B=>
 m R (o_buildSlice 234 1 [(0,A)]) B fun C D=>
 m R (o_builtin .append #[234,234] 234 [false,false] [h,C]) D fun E F=>
 m R (o_bin .add 3 true a (.int .i64 1)) F fun G H=>
 b E o G H) (
 R (.returned h) l)
def A_climb_beside:Ann:=⟨[(4,[9,10,18],137438705152)],[],[(6,[⟨0,.q (some 0),16,0,4194304⟩,⟨1,.q none,16,0,8388608⟩,⟨2,.q (some 0),8388608,2,16777216⟩,⟨3,.q none,16777216,6,33554432⟩,⟨4,.q none,1024,0,67108864⟩,⟨5,.f 0 true,100663296,30,P_ 27⟩,⟨6,.f 1 false,138412032,63,P_ 28⟩,⟨7,.q none,P_ 28,127,8192⟩])],[],[]⟩
theorem C_climb_beside (h:F_climb_beside x0 x1 x2 x3 w R):Calls Tryz.prog 151 #[x0,x1,x2,x3] w R:=cc A_climb_beside [x0,x1,x2,x3] Tryz.func151 h
def F_climb_pub (I b:Value) (w:World) (R:Ending→World→Prop):Prop:=
 m R (o_box 58 I) w fun c J=>
 m R (o_alloc 23) J fun d K=>
 m R (o_bin .rem 3 true b (.int .i64 2)) K fun L M=>
 m R (o_bin .eql 3 true L (.int .i64 0)) M fun N a=>
 mif N (
 ∃ S:Rl,
 dp Tryz.prog (o_fieldAddr 58 c 0) fun O=>
 dqS Tryz.prog S a (o_load 55 O) fun f=>
 dp Tryz.prog (o_bin .quo 3 true b (.int .i64 2)) fun g=>
 dp Tryz.prog (o_indexAddr 55 f g) fun h=>
 dp Tryz.prog (o_fieldAddr 118 h 1) fun i=>
 dqS Tryz.prog S a (o_load 23 i) fun j=>
 dp Tryz.prog (o_fieldAddr 58 c 0) fun l=>
 dqS Tryz.prog S a (o_load 55 l) fun n=>
 dp Tryz.prog (o_bin .quo 3 true b (.int .i64 2)) fun o=>
 dp Tryz.prog (o_indexAddr 55 n o) fun p=>
 dp Tryz.prog (o_fieldAddr 118 p 0) fun q=>
 dqS Tryz.prog S a (o_load 3 q) fun r=>
 dp Tryz.prog (o_bin .gtr 3 true r (.int .i64 0)) fun s=>
 dfS Tryz.prog S a (o_store 23 d j) true fun _ Q=>
 dend Q fun t=>
 rcell Tryz.prog 23 d t fun e=>
 R (.returned (.tuple #[e,s])) t) (
 ∃ S:Rl,
 dp Tryz.prog (o_fieldAddr 58 c 1) fun u=>
 dqS Tryz.prog S a (o_load 56 u) fun v=>
 dp Tryz.prog (o_bin .quo 3 true b (.int .i64 2)) fun x=>
 dp Tryz.prog (o_indexAddr 56 v x) fun y=>
 dp Tryz.prog (o_fieldAddr 222 y 1) fun z=>
 dqS Tryz.prog S a (o_load 23 z) fun A=>
 dp Tryz.prog (o_fieldAddr 58 c 1) fun B=>
 dqS Tryz.prog S a (o_load 56 B) fun C=>
 dp Tryz.prog (o_bin .quo 3 true b (.int .i64 2)) fun D=>
 dp Tryz.prog (o_indexAddr 56 C D) fun E=>
 dp Tryz.prog (o_fieldAddr 222 E 0) fun F=>
 dqS Tryz.prog S a (o_load 4 F) fun G=>
 dfS Tryz.prog S a (o_store 23 d A) true fun _ T=>
 dend T fun H=>
 rcell Tryz.prog 23 d H fun e=>
 R (.returned (.tuple #[e,G])) H)
def A_climb_pub:Ann:=⟨[],[],[(2,[⟨0,.q none,4,0,512⟩,⟨1,.q (some 0),512,1,1024⟩,⟨2,.q none,2,0,2048⟩,⟨3,.q none,2048,4,4096⟩,⟨4,.q none,5120,15,8192⟩,⟨5,.q none,8192,31,16384⟩,⟨6,.q (some 0),16384,63,32768⟩,⟨7,.q none,4,0,65536⟩,⟨8,.q (some 0),65536,128,131072⟩,⟨9,.q none,2,0,262144⟩,⟨10,.q none,262144,512,524288⟩,⟨11,.q none,655360,1920,1048576⟩,⟨12,.q none,1048576,3968,2097152⟩,⟨13,.q (some 0),2097152,8064,4194304⟩,⟨14,.q none,4194304,16256,8388608⟩,⟨15,.f 0 true,32784,127,0⟩,⟨16,.q none,8388608,65535,32⟩]),(3,[⟨0,.q none,4,0,16777216⟩,⟨1,.q (some 0),16777216,1,33554432⟩,⟨2,.q none,2,0,67108864⟩,⟨3,.q none,67108864,4,P_ 27⟩,⟨4,.q none,167772160,15,P_ 28⟩,⟨5,.q none,P_ 28,31,P_ 29⟩,⟨6,.q (some 0),P_ 29,63,P_ 30⟩,⟨7,.q none,4,0,P_ 31⟩,⟨8,.q (some 0),P_ 31,128,P_ 32⟩,⟨9,.q none,2,0,P_ 33⟩,⟨10,.q none,P_ 33,512,P_ 34⟩,⟨11,.q none,21474836480,1920,P_ 35⟩,⟨12,.q none,P_ 35,3968,P_ 36⟩,⟨13,.q (some 0),P_ 36,8064,P_ 37⟩,⟨14,.f 0 true,1073741840,127,0⟩,⟨15,.q none,P_ 37,32767,32⟩])],[],[2,3]⟩
theorem C_climb_pub (h:F_climb_pub x0 x1 w R):Calls Tryz.prog 152 #[x0,x1] w R:=cc A_climb_pub [x0,x1] Tryz.func152 h
def F_climb_num (d:Value) (w:World) (R:Ending→World→Prop):Prop:=
 m R (o_call (fv 36) []) w fun e q=>
 m R (o_builtin .len #[133] 3 [false] [d]) q fun f r=>
 ml1 (.int .i64 0) r fun a B s b=>
 m R (o_bin .lss 3 false a f) s fun g h=>
 mif g (
 m R (o_indexAddr 133 d a) h fun i t=>
 m R (o_load 3 i) t fun j u=>
 m R (o_call (fv 85) [e,j]) u fun z v=>
 m R (o_bin .add 3 true a (.int .i64 1)) v fun l x=>
 b l x) (
 m R (o_call (fv 38) [e]) h fun c y=>
 m R (o_extract c 0) y fun n o=>
 m R (o_extract c 1) o fun A p=>
 R (.returned n) p)
def A_climb_num:Ann:=⟨[(3,[11],522272)],[],[],[],[]⟩
theorem C_climb_num (h:F_climb_num x0 w R):Calls Tryz.prog 153 #[x0] w R:=cc A_climb_num [x0] Tryz.func153 h
def F_tree_Path (cM q cN C:Value) (w:World) (R:Ending→World→Prop):Prop:=
 m R (o_box 58 cM) w fun c cO=>
 m R (o_box 23 cN) cO fun cP cQ=>
 m R (o_alloc 58) cQ fun f cR=>
 m R (o_load 58 c) cR fun D cS=>
 m R (o_call (fv 127) [D]) cS fun E cT=>
 m R (o_un .not E) cT fun F G=>
 mif F (
 m R (o_build 58 []) G fun H cU=>
 m R (o_store 58 f H) cU fun _ I=>
 rcell Tryz.prog 58 f I fun l=>
 R (.returned (.tuple #[l,(.int .i64 1)])) I) (
 m R (o_load 58 c) G fun J cV=>
 m R (o_call (fv 181) [J,q]) cV fun K u=>
 mif K (
 m R (o_build 58 []) u fun L M=>
 m R (o_store 58 f L) M fun _ v=>
 rcell Tryz.prog 58 f v fun l=>
 R (.returned (.tuple #[l,(.int .i64 7)])) v) (
 m R (o_fieldAddr 58 c 0) u fun N O=>
 m R (o_load 55 N) O fun Q T=>
 m R (o_builtin .len #[55] 3 [false] [Q]) T fun n U=>
 m R (o_call (fv 89) [n,q]) U fun o V=>
 m R (o_builtin .len #[133] 3 [false] [o]) V fun W X=>
 m R (o_builtin .len #[137] 3 [false] [C]) X fun Y Z=>
 m R (o_bin .neq 3 false W Y) Z fun aA x=>
 mif aA (
 m R (o_build 58 []) x fun aB aC=>
 m R (o_store 58 f aB) aC fun _ y=>
 rcell Tryz.prog 58 f y fun l=>
 R (.returned (.tuple #[l,(.int .i64 16)])) y) (
 m R (o_load 58 c) x fun aD aE=>
 m R (o_call (fv 182) [aD]) aE fun aF aG=>
 m R (o_store 58 c aF) aG fun _ aH=>
 m R (o_build 23 []) aH fun aI aJ=>
 m R (o_alloc 23) aJ fun g aK=>
 m R (o_store 23 g aI) aK fun _ aL=>
 m R (o_builtin .len #[133] 3 [false] [o]) aL fun aM aN=>
 m R (o_bin .sub 3 true aM (.int .i64 1)) aN fun aO aP=>
 ml1 aO aP fun d cW aQ r=>
 m R (o_bin .geq 3 true d (.int .i64 0)) aQ fun aR a=>
 mif aR (
 dp Tryz.prog (o_fieldAddr 58 c 1) fun aS=>
 dq Tryz.prog a (o_load 56 aS) fun aT=>
 dp Tryz.prog (o_indexAddr 133 o d) fun aU=>
 dq Tryz.prog a (o_load 3 aU) fun aV=>
 dp Tryz.prog (o_bin .quo 3 true aV (.int .i64 2)) fun aW=>
 dp Tryz.prog (o_indexAddr 137 C d) fun aX=>
 dq Tryz.prog a (o_load 23 aX) fun aY=>
 dq Tryz.prog a (o_load 23 g) fun aZ=>
 dp Tryz.prog (o_build 222 [(0,(.bool true)),(1,aY),(2,aZ)]) fun a0=>
 dp Tryz.prog (o_indexAddr 56 aT aW) fun a1=>
 df Tryz.prog a (o_store 222 a1 a0) false fun _ a2=>
 dend a2 fun a3=>
 m R (o_bin .mul 3 true (.int .i64 2) q) a3 fun a4 a5=>
 mj1 (fun z=>
 m R (o_bin .gtr 3 true d (.int .i64 0)) a5 fun a6 A=>
 mif a6 (
 m R (o_bin .sub 3 true d (.int .i64 1)) A fun a7 a8=>
 m R (o_indexAddr 133 o a7) a8 fun a9 bA=>
 m R (o_load 3 a9) bA fun bB bC=>
 z bB bC) (
 z a4 A)) fun s cX e=>
 mj1 (fun t=>
 ((
 dq Tryz.prog e (o_load 58 c) fun h=>
 df Tryz.prog e (o_call (fv 188) [n,s]) true fun i bD=>
 df Tryz.prog bD (o_call (fv 192) [h,i]) false fun j bE=>
 df Tryz.prog bE (o_alloc 23) true fun b bF=>
 df Tryz.prog bF (o_store 23 b j) false fun _ bG=>
 dend bG fun bH=>
 t b bH)∧(
 dq Tryz.prog e (o_load 58 c) fun h=>
 df Tryz.prog e (o_call (fv 188) [n,s]) true fun i bI=>
 df Tryz.prog bI (o_alloc 23) true fun b bJ=>
 df Tryz.prog bJ (o_call (fv 192) [h,i]) false fun j bK=>
 df Tryz.prog bK (o_store 23 b j) false fun _ bL=>
 dend bL fun bM=>
 t b bM)∧(
 dq Tryz.prog e (o_load 58 c) fun h=>
 df Tryz.prog e (o_alloc 23) true fun b bN=>
 df Tryz.prog bN (o_call (fv 188) [n,s]) true fun i bO=>
 df Tryz.prog bO (o_call (fv 192) [h,i]) false fun j bP=>
 df Tryz.prog bP (o_store 23 b j) false fun _ bQ=>
 dend bQ fun bR=>
 t b bR))) fun b cY p=>
 dp Tryz.prog (o_indexAddr 137 C d) fun bS=>
 dp Tryz.prog (o_slice 23 bS none none none) fun bT=>
 dq Tryz.prog p (o_conv 89 9 bT) fun bU=>
 dp Tryz.prog (o_slice 23 g none none none) fun bV=>
 dq Tryz.prog p (o_conv 89 9 bV) fun bW=>
 dp Tryz.prog (o_slice 23 b none none none) fun bX=>
 dq Tryz.prog p (o_conv 89 9 bX) fun bY=>
 df Tryz.prog p (o_buildSlice 41 4 [(0,(.string (ByteArray.mk #[97,98,111,118,101]))),(1,bU),(2,bW),(3,bY)]) false fun bZ b0=>
 df Tryz.prog b0 (o_call (fv 34) [bZ]) false fun b1 b2=>
 df Tryz.prog b2 (o_store 23 g b1) false fun _ b3=>
 dend b3 fun b4=>
 m R (o_bin .sub 3 true d (.int .i64 1)) b4 fun b5 b6=>
 r b5 b6) (
 ∃ S:Rl,
 dp Tryz.prog (o_fieldAddr 58 c 0) fun b7=>
 dqS Tryz.prog S a (o_load 55 b7) fun b8=>
 dp Tryz.prog (o_fieldAddr 58 c 0) fun b9=>
 dqS Tryz.prog S a (o_load 55 b9) fun cA=>
 dqS Tryz.prog S a (o_load 23 cP) fun cB=>
 dqS Tryz.prog S a (o_load 23 g) fun cC=>
 dp Tryz.prog (o_indexAddr 55 b8 q) fun cD=>
 dp Tryz.prog (o_fieldAddr 118 cD 1) fun cE=>
 dfS Tryz.prog S a (o_store 23 cE cB) true fun _ cF=>
 dp Tryz.prog (o_indexAddr 55 cA q) fun cG=>
 dp Tryz.prog (o_fieldAddr 118 cG 3) fun cH=>
 dfS Tryz.prog S cF (o_store 23 cH cC) false fun _ cI=>
 dend cI fun cJ=>
 m R (o_load 58 c) cJ fun cK cL=>
 m R (o_store 58 f cK) cL fun _ B=>
 rcell Tryz.prog 58 f B fun l=>
 R (.returned (.tuple #[l,(.int .i64 0)])) B))))
def A_tree_Path:Ann:=⟨[(12,[13],P_ 87+P_ 16-P_ 44-P_ 13)],[(18,[14],P_ 71+P_ 14-P_ 64),(19,[15],P_ 76+P_ 15-P_ 71)],[(14,[⟨0,.q none,16,0,P_ 48⟩,⟨1,.q (some 0),P_ 48,1,P_ 49⟩,⟨2,.q none,2048,0,P_ 50⟩,⟨3,.q none,8192,0,P_ 51⟩,⟨4,.q none,P_ 52-P_ 50,12,P_ 52⟩,⟨5,.q (some 0),P_ 52,28,P_ 53⟩,⟨6,.q none,P_ 53,60,P_ 54⟩,⟨7,.q none,8,0,P_ 55⟩,⟨8,.q none,8192,0,P_ 56⟩,⟨9,.q none,P_ 57-P_ 55,384,P_ 57⟩,⟨10,.q (some 0),P_ 57,896,P_ 58⟩,⟨11,.q (some 0),4096,0,P_ 59⟩,⟨12,.q none,P_ 60-P_ 58,3968,P_ 60⟩,⟨13,.q none,P_ 54+P_ 49,8191,P_ 61⟩,⟨14,.f 0 false,P_ 62-P_ 60,16383,0⟩]),(19,[⟨0,.q none,8,0,P_ 76⟩,⟨1,.q none,8192,0,P_ 77⟩,⟨2,.q none,P_ 78-P_ 76,3,P_ 78⟩,⟨3,.q none,P_ 78,7,P_ 79⟩,⟨4,.q (some 0),P_ 79,15,P_ 80⟩,⟨5,.q none,4096,0,P_ 81⟩,⟨6,.q (some 0),P_ 81,32,P_ 82⟩,⟨7,.q none,32768,0,P_ 83⟩,⟨8,.q (some 0),P_ 83,128,P_ 84⟩,⟨9,.f 0 false,P_ 84+P_ 82+P_ 80,511,P_ 85⟩,⟨10,.f 1 false,P_ 85,1023,P_ 86⟩,⟨11,.f 2 false,P_ 86+P_ 12,2047,0⟩]),(20,[⟨0,.q none,16,0,P_ 87⟩,⟨1,.q (some 0),P_ 87,1,P_ 88⟩,⟨2,.q none,2,0,P_ 89⟩,⟨3,.q none,16,0,P_ 90⟩,⟨4,.q (some 0),P_ 90,8,P_ 91⟩,⟨5,.q none,2,0,P_ 92⟩,⟨6,.q (some 0),64,0,P_ 93⟩,⟨7,.q (some 0),4096,0,P_ 94⟩,⟨8,.q none,P_ 90-P_ 88,199,P_ 95⟩,⟨9,.q none,P_ 95,455,P_ 96⟩,⟨10,.f 0 true,P_ 96+P_ 93,967,0⟩,⟨11,.q none,P_ 93-P_ 91,2047,P_ 97⟩,⟨12,.q none,P_ 97,4095,P_ 98⟩,⟨13,.f 1 false,P_ 98+P_ 94,8191,0⟩])],[(18,[⟨[0,1,2,3,4,5,6],[⟨0,.q (some 0),16,0,P_ 71⟩,⟨1,.q none,1024,0,P_ 72⟩,⟨2,.q none,16384,0,P_ 73⟩,⟨3,.f 0 true,P_ 74-P_ 72,6,P_ 74⟩,⟨4,.f 1 false,P_ 74+P_ 71,15,P_ 75⟩,⟨5,.f 2 true,0,0,32768⟩,⟨6,.f 3 false,P_ 75+P_ 15,63,0⟩]⟩,⟨[0,1,2,3,5,4,6],[⟨0,.q (some 0),16,0,P_ 71⟩,⟨1,.q none,1024,0,P_ 72⟩,⟨2,.q none,16384,0,P_ 73⟩,⟨3,.f 0 true,P_ 74-P_ 72,6,P_ 74⟩,⟨4,.f 2 false,P_ 74+P_ 71,15,P_ 75⟩,⟨5,.f 1 true,0,0,32768⟩,⟨6,.f 3 false,P_ 75+P_ 15,63,0⟩]⟩,⟨[0,1,2,5,3,4,6],[⟨0,.q (some 0),16,0,P_ 71⟩,⟨1,.q none,1024,0,P_ 72⟩,⟨2,.q none,16384,0,P_ 73⟩,⟨3,.f 1 true,P_ 74-P_ 72,6,P_ 74⟩,⟨4,.f 2 false,P_ 74+P_ 71,15,P_ 75⟩,⟨5,.f 0 true,0,0,32768⟩,⟨6,.f 3 false,P_ 75+P_ 15,63,0⟩]⟩])],[20]⟩
theorem C_tree_Path (h:F_tree_Path x0 x1 x2 x3 w R):Calls Tryz.prog 154 #[x0,x1,x2,x3] w R:=cc A_tree_Path [x0,x1,x2,x3] Tryz.func154 h
def F_climb_sorted (b:Value) (w:World) (R:Ending→World→Prop):Prop:=
 m R (o_call (fv 193) [b]) w fun a c=>
 m R (o_call (fv 194) [a,(fv 195)]) c fun g d=>
 m R (o_call (fv 196) [a,(fv 197)]) d fun e f=>
 R (.returned e) f
def A_climb_sorted:Ann:=⟨[],[],[],[],[]⟩
theorem C_climb_sorted (h:F_climb_sorted x0 w R):Calls Tryz.prog 155 #[x0] w R:=cc A_climb_sorted [x0] Tryz.func155 h
def F_ppr_Row_within (d e:Value) (w:World) (R:Ending→World→Prop):Prop:=
 m R (o_bin .neq 64 true d (.pointer none)) w fun c f=>
 mguard c true (fun k=>m R (o_move e) f k) f fun A g=>
 mguard c true (fun k=>m R (o_bin .geq 3 true A (.int .i64 0)) g k) g fun B C=>
 m R (o_pick c B (.bool false)) C fun a h=>
 mguard a true (fun k=>m R (o_move e) h k) h fun i j=>
 mguard a true (fun k=>m R (o_move d) j k) j fun l n=>
 mguard a true (fun k=>m R (o_nilCheck l) n k) n fun o p=>
 mguard a true (fun k=>m R (o_fieldAddr 247 o 0) p k) p fun q r=>
 mguard a true (fun k=>m R (o_load 3 q) r k) r fun s t=>
 mguard a true (fun k=>m R (o_bin .shl 3 true (.int .i64 1) s) t k) t fun u b=>
 mguard a true (fun k=>m R (o_bin .lss 3 false i u) b k) b fun v x=>
 m R (o_pick a v (.bool false)) x fun y z=>
 R (.returned y) z
def A_ppr_Row_within:Ann:=⟨[],[],[],[],[]⟩
theorem C_ppr_Row_within (h:F_ppr_Row_within x0 x1 w R):Calls Tryz.prog 156 #[x0,x1] w R:=cc A_ppr_Row_within [x0,x1] Tryz.func156 h
def F_ppr_Row_find (g C:Value) (w:World) (R:Ending→World→Prop):Prop:=
 m R (o_nilCheck g) w fun D E=>
 m R (o_fieldAddr 247 D 1) E fun h F=>
 m R (o_load 243 h) F fun d G=>
 m R (o_builtin .len #[243] 3 [false] [d]) G fun i H=>
 ml1 (.int .i64 0) H fun a M I c=>
 m R (o_bin .lss 3 false a i) I fun j l=>
 mif j (
 m R (o_indexAddr 243 d a) l fun n J=>
 m R (o_load 271 n) J fun o K=>
 m R (o_alloc 271) K fun f L=>
 m R (o_store 271 f o) L fun _ b=>
 dp Tryz.prog (o_nilCheck g) fun p=>
 dp Tryz.prog (o_fieldAddr 247 p 0) fun q=>
 dq Tryz.prog b (o_load 3 q) fun r=>
 dp Tryz.prog (o_fieldAddr 271 f 0) fun s=>
 dq Tryz.prog b (o_load 3 s) fun t=>
 dp Tryz.prog (o_bin .sub 3 false r t) fun u=>
 dp Tryz.prog (o_bin .shr 3 false C u) fun v=>
 dp Tryz.prog (o_fieldAddr 271 f 1) fun x=>
 dq Tryz.prog b (o_load 3 x) fun y=>
 dp Tryz.prog (o_bin .eql 3 false v y) fun z=>
 dend b fun e=>
 mif z (
 R (.returned (.tuple #[a,(.bool true)])) e) (
 m R (o_bin .add 3 true a (.int .i64 1)) e fun A B=>
 c A B)) (
 R (.returned (.tuple #[(.int .i64 0),(.bool false)])) l)
def A_ppr_Row_find:Ann:=⟨[(2,[13],4294959344)],[],[(4,[⟨0,.q none,2,0,262144⟩,⟨1,.q none,1,0,524288⟩,⟨2,.q none,524288,2,1048576⟩,⟨3,.q none,1048576,6,2097152⟩,⟨4,.q (some 0),2097152,14,4194304⟩,⟨5,.q none,128,0,8388608⟩,⟨6,.q (some 0),8388608,32,16777216⟩,⟨7,.q none,20971520,126,33554432⟩,⟨8,.q none,33816576,255,67108864⟩,⟨9,.q none,128,0,P_ 27⟩,⟨10,.q (some 0),P_ 27,512,P_ 28⟩,⟨11,.q none,335544320,2047,P_ 29⟩])],[],[]⟩
theorem C_ppr_Row_find (h:F_ppr_Row_find x0 x1 w R):Calls Tryz.prog 157 #[x0,x1] w R:=cc A_ppr_Row_find [x0,x1] Tryz.func157 h
end Go.Proofs.YtgbenhmdamnmcaaGreat
