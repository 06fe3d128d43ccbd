/- Part 3 of the proof. -/
import Derived.Test.YtgbenhmdamnmcaaGreatPa2
set_option linter.unusedVariables false
set_option linter.unusedVariables false
namespace Go.Proofs.YtgbenhmdamnmcaaGreat
def F_bevylaw13_CommitRights (o:Value) (w:World) (R:Ending→World→Prop):Prop:=
 m R (o_box 28 o) w fun d e=>
 dq Tryz.prog e (o_load 28 d) fun p=>
 df Tryz.prog e (o_call (fv 7) [p]) false fun b f=>
 mguard b false (fun k=>df Tryz.prog f (o_call (fv 8) []) false k) f fun q c=>
 qguard b false (fun k=>dp Tryz.prog (o_move q) k) fun a=>
 qguard a true (fun k=>dq Tryz.prog c (o_load 28 d) k) fun r=>
 mguard a true (fun k=>df Tryz.prog c (o_call (fv 9) [r]) true k) c fun s g=>
 qguard a true (fun k=>dq Tryz.prog c (o_load 28 d) k) fun h=>
 mguard a true (fun k=>df Tryz.prog g (o_call (fv 10) [h]) false k) g fun i t=>
 qguard a true (fun k=>dp Tryz.prog (o_bin .eql 4 false s i) k) fun j=>
 qguard b false (fun k=>dp Tryz.prog (o_pick a j (.bool false)) k) fun l=>
 dp Tryz.prog (o_pick b (.bool true) l) fun n=>
 dend t fun u=>
 R (.returned n) u
def A_bevylaw13_CommitRights:Ann:=⟨[],[],[(1,[⟨0,.q (some 0),2,0,8⟩,⟨1,.f 0 false,8,1,16⟩,⟨2,.q none,16,3,32⟩,⟨3,.f 1 false,32,7,64⟩,⟨4,.q none,96,15,128⟩,⟨5,.q (some 2),130,31,256⟩,⟨6,.f 2 true,384,63,512⟩,⟨7,.q (some 2),130,31,1024⟩,⟨8,.f 3 false,1152,255,2048⟩,⟨9,.q none,2688,511,4096⟩,⟨10,.q none,4256,1023,8192⟩,⟨11,.q none,8224,2047,16384⟩,⟨12,.q none,16384,4095,4⟩])],[],[]⟩
theorem cc(A:Ann) (args:List Value) {f:FuncId} {fn:Func} {w:World} {R:Ending→World→Prop} {Q:Prop} (hf:Tryz.prog.funcs[f]?=some fn) (h:Q) (hb:fn.body=some (fn.body.getD .skip):=by kernel_rfl) (hn:Nat.ble args.length fn.ntmps=true:=by kernel_rfl) (hok:codeOk fn.ntmps A (fn.body.getD .skip)=true:=by kernel_rfl) (he:cwp Tryz.prog A (fn.body.getD .skip) (retPost Tryz.prog fn.results.toList R) (argE args) w=Q:=by kernel_rfl):Calls Tryz.prog f args.toArray w R:=
 calls_cwp (A:=A) (args:=args) mixed hf hb hn hok (Eq.mpr he h)
variable {x0 x1 x2 x3 x4 x5 x6 x7 x8 x9:Value} {w:World} {R:Ending→World→Prop}
theorem C_bevylaw13_CommitRights (h:F_bevylaw13_CommitRights x0 w R):Calls Tryz.prog 3 #[x0] w R:=cc A_bevylaw13_CommitRights [x0] Tryz.func3 h
def F_bevylaw13_big (cF:Value) (w:World) (R:Ending→World→Prop):Prop:=
 m R (o_box 28 cF) w fun a cG=>
 mj1 (fun cH=>
 m R (o_fieldAddr 28 a 3) cG fun cI cJ=>
 m R (o_load 24 cI) cJ fun cK cL=>
 m R (o_builtin .len #[24] 3 [false] [cK]) cL fun cM cN=>
 m R (o_bin .gtr 3 true cM (.int .i64 40)) cN fun d D=>
 mguard d false (fun k=>m R (o_fieldAddr 28 a 6) D k) D fun E F=>
 mguard d false (fun k=>m R (o_load 25 E) F k) F fun G H=>
 mguard d false (fun k=>m R (o_builtin .len #[25] 3 [false] [G]) H k) H fun I J=>
 mguard d false (fun k=>m R (o_bin .gtr 3 true I (.int .i64 80)) J k) J fun K cO=>
 m R (o_pick d (.bool true) K) cO fun b j=>
 mguard b false (fun k=>m R (o_fieldAddr 28 a 8) j k) j fun L l=>
 mguard b false (fun k=>m R (o_load 26 L) l k) l fun M n=>
 mguard b false (fun k=>m R (o_builtin .len #[26] 3 [false] [M]) n k) n fun N o=>
 mguard b false (fun k=>m R (o_bin .gtr 3 true N (.int .i64 40)) o k) o fun O Q=>
 m R (o_pick b (.bool true) O) Q fun c p=>
 mguard c false (fun k=>m R (o_fieldAddr 28 a 7) p k) p fun S q=>
 mguard c false (fun k=>m R (o_load 9 S) q k) q fun T r=>
 mguard c false (fun k=>m R (o_builtin .len #[9] 3 [false] [T]) r k) r fun U s=>
 mguard c false (fun k=>m R (o_bin .gtr 3 true U (.int .i64 70000)) s k) s fun V W=>
 m R (o_pick c (.bool true) V) W fun e X=>
 cH e X) fun e cQ t=>
 mif e (
 R (.returned (.bool true)) t) (
 ml1 (.int .i64 0) t fun f cR Y h=>
 m R (o_fieldAddr 28 a 6) Y fun Z aA=>
 m R (o_load 25 Z) aA fun aB aC=>
 m R (o_builtin .len #[25] 3 [false] [aB]) aC fun aD aE=>
 m R (o_bin .lss 3 false f aD) aE fun aF u=>
 mif aF (
 m R (o_fieldAddr 28 a 6) u fun aG aH=>
 m R (o_load 25 aG) aH fun aI aJ=>
 m R (o_indexAddr 25 aI f) aJ fun aK aL=>
 m R (o_fieldAddr 43 aK 1) aL fun aM aN=>
 m R (o_load 41 aM) aN fun aO aP=>
 m R (o_builtin .len #[41] 3 [false] [aO]) aP fun aQ aR=>
 m R (o_bin .gtr 3 true aQ (.int .i64 80)) aR fun aS v=>
 mif aS (
 R (.returned (.bool true)) v) (
 ml1 (.int .i64 0) v fun B cS aT i=>
 m R (o_fieldAddr 28 a 6) aT fun aU aV=>
 m R (o_load 25 aU) aV fun aW aX=>
 m R (o_indexAddr 25 aW f) aX fun aY aZ=>
 m R (o_fieldAddr 43 aY 1) aZ fun a0 a1=>
 m R (o_load 41 a0) a1 fun a2 a3=>
 m R (o_builtin .len #[41] 3 [false] [a2]) a3 fun a4 a5=>
 m R (o_bin .lss 3 false B a4) a5 fun a6 x=>
 mif a6 (
 m R (o_fieldAddr 28 a 6) x fun a7 a8=>
 m R (o_load 25 a7) a8 fun a9 bA=>
 m R (o_indexAddr 25 a9 f) bA fun bB bC=>
 m R (o_fieldAddr 43 bB 1) bC fun bD bE=>
 m R (o_load 41 bD) bE fun bF bG=>
 m R (o_indexAddr 41 bF B) bG fun bH bI=>
 m R (o_load 9 bH) bI fun bJ bK=>
 m R (o_builtin .len #[9] 3 [false] [bJ]) bK fun bL bM=>
 m R (o_bin .gtr 3 true bL (.int .i64 2000)) bM fun bN y=>
 mif bN (
 R (.returned (.bool true)) y) (
 m R (o_bin .add 3 true B (.int .i64 1)) y fun bO bP=>
 i bO bP)) (
 m R (o_bin .add 3 true f (.int .i64 1)) x fun bQ bR=>
 h bQ bR))) (
 ml1 (.int .i64 0) u fun C cP bS g=>
 m R (o_fieldAddr 28 a 8) bS fun bT bU=>
 m R (o_load 26 bT) bU fun bV bW=>
 m R (o_builtin .len #[26] 3 [false] [bV]) bW fun bX bY=>
 m R (o_bin .lss 3 false C bX) bY fun bZ z=>
 mif bZ (
 m R (o_fieldAddr 28 a 8) z fun b0 b1=>
 m R (o_load 26 b0) b1 fun b2 b3=>
 m R (o_indexAddr 26 b2 C) b3 fun b4 b5=>
 m R (o_fieldAddr 45 b4 2) b5 fun b6 b7=>
 m R (o_load 9 b6) b7 fun b8 b9=>
 m R (o_builtin .len #[9] 3 [false] [b8]) b9 fun cA cB=>
 m R (o_bin .gtr 3 true cA (.int .i64 2000)) cB fun cC A=>
 mif cC (
 R (.returned (.bool true)) A) (
 m R (o_bin .add 3 true C (.int .i64 1)) A fun cD cE=>
 g cD cE)) (
 R (.returned (.bool false)) z)))
def P_(k:Nat):Nat:=2^k
def A_bevylaw13_big:Ann:=⟨[(4,[3],36893488147150667804),(9,[4],36893479351326081044),(14,[5],P_ 80+P_ 5+P_ 2-P_ 65)],[(2,[27],268435392)],[],[],[]⟩
theorem C_bevylaw13_big (h:F_bevylaw13_big x0 w R):Calls Tryz.prog 7 #[x0] w R:=cc A_bevylaw13_big [x0] Tryz.func7 h
def F_bevylaw13_awake (w:World) (R:Ending→World→Prop):Prop:=
 m R (o_call (fv 21) []) w fun aI aJ=>
 m R (o_build 23 [(0,(.int .u8 9))]) aJ fun aK aL=>
 m R (o_call (fv 22) [(.int .i64 1),(.int .i64 0)]) aL fun aM aN=>
 m R (o_call (fv 20) [(.pointer none),aI,(.int .i64 1),aK,aM]) aN fun l aO=>
 m R (o_extract l 0) aO fun n aP=>
 m R (o_extract l 1) aP fun aU aQ=>
 m R (o_call (fv 21) []) aQ fun o aR=>
 m R (o_call (fv 24) [(.int .i64 1)]) aR fun p aS=>
 m R (o_build 23 [(0,(.int .u8 8))]) aS fun q aT=>
 m R (o_call (fv 23) [(.pointer none),n,o,p,(.slice none 0 0),q]) aT fun f r=>
 m R (o_extract f 0) r fun s t=>
 m R (o_extract f 1) t fun g u=>
 m R (o_extract f 2) u fun v x=>
 m R (o_alloc 28) x fun e y=>
 m R (o_store 28 e s) y fun _ h=>
 dp Tryz.prog (o_bin .eql 34 true v (.int .i64 0)) fun i=>
 qguard i true (fun k=>dq Tryz.prog h (o_load 28 e) k) fun z=>
 mguard i true (fun k=>df Tryz.prog h (o_call (fv 9) [z]) false k) h fun A c=>
 dp Tryz.prog (o_pick i A (.bool false)) fun a=>
 qguard a true (fun k=>dp Tryz.prog (o_fieldAddr 28 e 6) k) fun B=>
 qguard a true (fun k=>dq Tryz.prog c (o_load 25 B) k) fun C=>
 qguard a true (fun k=>dp Tryz.prog (o_builtin .len #[25] 3 [false] [C]) k) fun D=>
 qguard a true (fun k=>dp Tryz.prog (o_fieldAddr 28 e 8) k) fun E=>
 qguard a true (fun k=>dq Tryz.prog c (o_load 26 E) k) fun F=>
 qguard a true (fun k=>dp Tryz.prog (o_builtin .len #[26] 3 [false] [F]) k) fun G=>
 qguard a true (fun k=>dp Tryz.prog (o_bin .add 3 false D G) k) fun H=>
 qguard a true (fun k=>dp Tryz.prog (o_fieldAddr 28 e 3) k) fun I=>
 qguard a true (fun k=>dq Tryz.prog c (o_load 24 I) k) fun J=>
 qguard a true (fun k=>dp Tryz.prog (o_builtin .len #[24] 3 [false] [J]) k) fun K=>
 qguard a true (fun k=>dp Tryz.prog (o_bin .add 3 false H K) k) fun L=>
 qguard a true (fun k=>dp Tryz.prog (o_bin .eql 3 true L (.int .i64 0)) k) fun M=>
 dp Tryz.prog (o_pick a M (.bool false)) fun j=>
 qguard j true (fun k=>dp Tryz.prog (o_move g) k) fun N=>
 qguard j true (fun k=>dp Tryz.prog (o_bin .neq 46 true N (.pointer none)) k) fun O=>
 dp Tryz.prog (o_pick j O (.bool false)) fun d=>
 qguard d true (fun k=>dp Tryz.prog (o_move g) k) fun Q=>
 qguard d true (fun k=>dp Tryz.prog (o_nilCheck Q) k) fun S=>
 qguard d true (fun k=>dp Tryz.prog (o_fieldAddr 67 S 0) k) fun T=>
 qguard d true (fun k=>dp Tryz.prog (o_fieldAddr 62 T 2) k) fun U=>
 qguard d true (fun k=>dq Tryz.prog c (o_load 3 U) k) fun V=>
 qguard d true (fun k=>dp Tryz.prog (o_bin .eql 3 true V (.int .i64 1)) k) fun W=>
 dp Tryz.prog (o_pick d W (.bool false)) fun b=>
 qguard b true (fun k=>dp Tryz.prog (o_move g) k) fun X=>
 qguard b true (fun k=>dp Tryz.prog (o_nilCheck X) k) fun Y=>
 qguard b true (fun k=>dp Tryz.prog (o_fieldAddr 67 Y 0) k) fun Z=>
 qguard b true (fun k=>dp Tryz.prog (o_fieldAddr 62 Z 0) k) fun aA=>
 qguard b true (fun k=>dq Tryz.prog c (o_load 23 aA) k) fun aB=>
 qguard b true (fun k=>dq Tryz.prog c (o_load 28 e) k) fun aC=>
 mguard b true (fun k=>df Tryz.prog c (o_call (fv 11) [aC]) true k) c fun aD aE=>
 qguard b true (fun k=>dp Tryz.prog (o_bin .eql 23 false aB aD) k) fun aF=>
 dp Tryz.prog (o_pick b aF (.bool false)) fun aG=>
 dend aE fun aH=>
 R (.returned aG) aH
def A_bevylaw13_awake:Ann:=⟨[],[],[(3,[⟨0,.q none,32,0,4194304⟩,⟨1,.q none,4194304,1,8388608⟩,⟨2,.q none,8388608,3,16777216⟩,⟨3,.q (some 0),16777224,7,33554432⟩,⟨4,.f 0 false,50331648,15,67108864⟩,⟨5,.q none,83886080,31,P_ 27⟩,⟨6,.q none,P_ 27,63,P_ 28⟩,⟨7,.q none,268435464,127,P_ 29⟩,⟨8,.q (some 1),805306368,255,P_ 30⟩,⟨9,.q none,1342177280,511,P_ 31⟩,⟨10,.q none,268435464,127,P_ 32⟩,⟨11,.q (some 1),4563402752,1151,P_ 33⟩,⟨12,.q none,8858370048,3199,P_ 34⟩,⟨13,.q none,19595788288,8191,P_ 35⟩,⟨14,.q none,268435464,127,P_ 36⟩,⟨15,.q (some 1),68987912192,16511,P_ 37⟩,⟨16,.q none,137707388928,49279,P_ 38⟩,⟨17,.q none,309506080768,131071,P_ 39⟩,⟨18,.q none,550024249344,262143,P_ 40⟩,⟨19,.q none,1099780063232,524287,P_ 41⟩,⟨20,.q none,P_ 41,1048575,P_ 42⟩,⟨21,.q none,P_ 42+P_ 4,2097151,P_ 43⟩,⟨22,.q none,P_ 44-P_ 42,4194303,P_ 44⟩,⟨23,.q none,P_ 44+P_ 42,8388607,P_ 45⟩,⟨24,.q none,P_ 45,16777215,P_ 46⟩,⟨25,.q none,P_ 46+P_ 4,33554431,P_ 47⟩,⟨26,.q none,P_ 48-P_ 46,67108863,P_ 48⟩,⟨27,.q none,P_ 48+P_ 46,134217727,P_ 49⟩,⟨28,.q none,P_ 49+P_ 46,268435455,P_ 50⟩,⟨29,.q (some 1),P_ 50+P_ 46,536870911,P_ 51⟩,⟨30,.q none,P_ 51+P_ 46,1073741823,P_ 52⟩,⟨31,.q none,P_ 52+P_ 46,2147483647,P_ 53⟩,⟨32,.q none,P_ 53,4294967295,P_ 54⟩,⟨33,.q none,P_ 54+P_ 4,8589934591,P_ 55⟩,⟨34,.q none,P_ 56-P_ 54,17179869183,P_ 56⟩,⟨35,.q none,P_ 56+P_ 54,34359738367,P_ 57⟩,⟨36,.q none,P_ 57+P_ 54,68719476735,P_ 58⟩,⟨37,.q (some 1),P_ 58+P_ 54,137438953471,P_ 59⟩,⟨38,.q (some 1),P_ 54+P_ 3,8589934591,P_ 60⟩,⟨39,.f 1 true,P_ 60+P_ 54,283467841535,P_ 61⟩,⟨40,.q none,2900318160026599424,P_ 40-P_ 0,P_ 62⟩,⟨41,.q none,P_ 62+P_ 54,P_ 41-P_ 0,P_ 63⟩,⟨42,.q none,P_ 63,P_ 42-P_ 0,1⟩])],[],[]⟩
theorem C_bevylaw13_awake (h:F_bevylaw13_awake w R):Calls Tryz.prog 8 #[] w R:=cc A_bevylaw13_awake [] Tryz.func8 h
def F_commit_Right (cG:Value) (w:World) (R:Ending→World→Prop):Prop:=
 m R (o_box 28 cG) w fun a cH=>
 mj1 (fun cI=>
 m R (o_fieldAddr 28 a 1) cH fun cJ cK=>
 m R (o_load 3 cJ) cK fun cL cM=>
 m R (o_bin .lss 3 true cL (.int .i64 1)) cM fun n Z=>
 mguard n false (fun k=>m R (o_fieldAddr 28 a 1) Z k) Z fun aA aB=>
 mguard n false (fun k=>m R (o_load 3 aA) aB k) aB fun aC aD=>
 mguard n false (fun k=>m R (o_bin .gtr 3 true aC (.int .i64 4611686018427387903)) aD k) aD fun aE cN=>
 m R (o_pick n (.bool true) aE) cN fun c aF=>
 mguard c false (fun k=>m R (o_fieldAddr 28 a 2) aF k) aF fun aG aH=>
 mguard c false (fun k=>m R (o_load 3 aG) aH k) aH fun aI p=>
 mguard c false (fun k=>m R (o_call (fv 25) [aI]) p k) p fun aJ q=>
 mguard c false (fun k=>m R (o_un .not aJ) q k) q fun aK aL=>
 m R (o_pick c (.bool true) aK) aL fun d r=>
 mguard d false (fun k=>m R (o_fieldAddr 28 a 3) r k) r fun aM s=>
 mguard d false (fun k=>m R (o_load 24 aM) s k) s fun aN t=>
 mguard d false (fun k=>m R (o_builtin .len #[24] 3 [false] [aN]) t k) t fun aO u=>
 mguard d false (fun k=>m R (o_bin .gtr 3 true aO (.int .i64 16)) u k) u fun aP aQ=>
 m R (o_pick d (.bool true) aP) aQ fun e v=>
 mguard e false (fun k=>m R (o_fieldAddr 28 a 6) v k) v fun aR x=>
 mguard e false (fun k=>m R (o_load 25 aR) x k) x fun aS y=>
 mguard e false (fun k=>m R (o_builtin .len #[25] 3 [false] [aS]) y k) y fun aT z=>
 mguard e false (fun k=>m R (o_bin .gtr 3 true aT (.int .i64 64)) z k) z fun aU aV=>
 m R (o_pick e (.bool true) aU) aV fun f A=>
 mguard f false (fun k=>m R (o_fieldAddr 28 a 7) A k) A fun aW B=>
 mguard f false (fun k=>m R (o_load 9 aW) B k) B fun aX C=>
 mguard f false (fun k=>m R (o_builtin .len #[9] 3 [false] [aX]) C k) C fun aY D=>
 mguard f false (fun k=>m R (o_bin .gtr 3 true aY (.int .i64 65536)) D k) D fun aZ a0=>
 m R (o_pick f (.bool true) aZ) a0 fun g E=>
 mguard g false (fun k=>m R (o_fieldAddr 28 a 8) E k) E fun a1 F=>
 mguard g false (fun k=>m R (o_load 26 a1) F k) F fun a2 G=>
 mguard g false (fun k=>m R (o_builtin .len #[26] 3 [false] [a2]) G k) G fun a3 H=>
 mguard g false (fun k=>m R (o_bin .gtr 3 true a3 (.int .i64 16)) H k) H fun a4 a5=>
 m R (o_pick g (.bool true) a4) a5 fun i a6=>
 cI i a6) fun i cP I=>
 mif i (
 R (.returned (.bool false)) I) (
 m R (o_alloc 40) I fun X a7=>
 m R (o_store 40 X (fv 26)) a7 fun _ a8=>
 m R (o_func (.func 27) [] [X]) a8 fun a9 bA=>
 m R (o_fieldAddr 28 a 6) bA fun bB bC=>
 m R (o_load 25 bB) bC fun J bD=>
 m R (o_builtin .len #[25] 3 [false] [J]) bD fun bE bF=>
 ml1 (.int .i64 0) bF fun j cQ bG o=>
 m R (o_bin .lss 3 false j bE) bG fun bH K=>
 mif bH (
 m R (o_indexAddr 25 J j) K fun bI bJ=>
 m R (o_load 43 bI) bJ fun bK bL=>
 m R (o_alloc 43) bL fun Y bM=>
 m R (o_store 43 Y bK) bM fun _ bN=>
 mj1 (fun cO=>
 m R (o_fieldAddr 43 Y 1) bN fun bO bP=>
 m R (o_load 41 bO) bP fun bQ bR=>
 m R (o_builtin .len #[41] 3 [false] [bQ]) bR fun bS bT=>
 m R (o_bin .gtr 3 true bS (.int .i64 64)) bT fun h L=>
 mguard h false (fun k=>m R (o_fieldAddr 43 Y 1) L k) L fun bU M=>
 mguard h false (fun k=>m R (o_load 41 bU) M k) M fun bV N=>
 mguard h false (fun k=>m R (o_load 40 X) N k) N fun bW O=>
 mguard h false (fun k=>m R (o_call (fv 28) [bV,bW]) O k) O fun bX bY=>
 m R (o_pick h (.bool true) bX) bY fun l bZ=>
 cO l bZ) fun l cR Q=>
 mif l (
 R (.returned (.bool false)) Q) (
 m R (o_bin .add 3 true j (.int .i64 1)) Q fun b0 b1=>
 o b0 b1)) (
 m R (o_fieldAddr 28 a 3) K fun b2 b3=>
 m R (o_load 24 b2) b3 fun b4 b5=>
 m R (o_call (fv 29) [b4,(fv 30)]) b5 fun b6 b7=>
 m R (o_un .not b6) b7 fun b S=>
 mguard b true (fun k=>m R (o_fieldAddr 28 a 8) S k) S fun b8 T=>
 mguard b true (fun k=>m R (o_load 26 b8) T k) T fun b9 U=>
 mguard b true (fun k=>m R (o_move a9) U k) U fun cA V=>
 mguard b true (fun k=>m R (o_call (fv 32) [b9,cA]) V k) V fun cB W=>
 mguard b true (fun k=>m R (o_un .not cB) W k) W fun cC cD=>
 m R (o_pick b cC (.bool false)) cD fun cE cF=>
 R (.returned cE) cF))
def A_commit_Right:Ann:=⟨[(6,[49],18446181123756130372)],[(2,[44],P_ 45-P_ 7),(9,[62],P_ 63-P_ 53)],[],[],[]⟩
theorem C_commit_Right (h:F_commit_Right x0 w R):Calls Tryz.prog 9 #[x0] w R:=cc A_commit_Right [x0] Tryz.func9 h
def F_bevyref13_Right (e5:Value) (w:World) (R:Ending→World→Prop):Prop:=
 m R (o_box 28 e5) w fun a e6=>
 mj1 (fun e7=>
 m R (o_fieldAddr 28 a 1) e6 fun e8 e9=>
 m R (o_load 3 e8) e9 fun fA fB=>
 m R (o_bin .lss 3 true fA (.int .i64 1)) fB fun l bM=>
 mguard l false (fun k=>m R (o_fieldAddr 28 a 1) bM k) bM fun bN bO=>
 mguard l false (fun k=>m R (o_load 3 bN) bO k) bO fun bP bQ=>
 mguard l false (fun k=>m R (o_bin .gtr 3 true bP (.int .i64 4611686018427387903)) bQ k) bQ fun bR fC=>
 m R (o_pick l (.bool true) bR) fC fun n bS=>
 mguard n false (fun k=>m R (o_fieldAddr 28 a 2) bS k) bS fun bT bU=>
 mguard n false (fun k=>m R (o_load 3 bT) bU k) bU fun bV G=>
 mguard n false (fun k=>m R (o_bin .lss 3 true bV (.int .i64 1)) G k) G fun bW bX=>
 m R (o_pick n (.bool true) bW) bX fun o H=>
 mguard o false (fun k=>m R (o_fieldAddr 28 a 2) H k) H fun bY I=>
 mguard o false (fun k=>m R (o_load 3 bY) I k) I fun bZ J=>
 mguard o false (fun k=>m R (o_bin .gtr 3 true bZ (.int .i64 64)) J k) J fun b0 b1=>
 m R (o_pick o (.bool true) b0) b1 fun f K=>
 mguard f false (fun k=>m R (o_fieldAddr 28 a 3) K k) K fun b2 L=>
 mguard f false (fun k=>m R (o_load 24 b2) L k) L fun b3 M=>
 mguard f false (fun k=>m R (o_builtin .len #[24] 3 [false] [b3]) M k) M fun b4 N=>
 mguard f false (fun k=>m R (o_bin .gtr 3 true b4 (.int .i64 16)) N k) N fun b5 b6=>
 m R (o_pick f (.bool true) b5) b6 fun g O=>
 mguard g false (fun k=>m R (o_fieldAddr 28 a 6) O k) O fun b7 Q=>
 mguard g false (fun k=>m R (o_load 25 b7) Q k) Q fun b8 S=>
 mguard g false (fun k=>m R (o_builtin .len #[25] 3 [false] [b8]) S k) S fun b9 T=>
 mguard g false (fun k=>m R (o_bin .gtr 3 true b9 (.int .i64 64)) T k) T fun cA cB=>
 m R (o_pick g (.bool true) cA) cB fun h U=>
 mguard h false (fun k=>m R (o_fieldAddr 28 a 7) U k) U fun cC V=>
 mguard h false (fun k=>m R (o_load 9 cC) V k) V fun cD W=>
 mguard h false (fun k=>m R (o_builtin .len #[9] 3 [false] [cD]) W k) W fun cE X=>
 mguard h false (fun k=>m R (o_bin .gtr 3 true cE (.int .i64 65536)) X k) X fun cF cG=>
 m R (o_pick h (.bool true) cF) cG fun i Y=>
 mguard i false (fun k=>m R (o_fieldAddr 28 a 8) Y k) Y fun cH Z=>
 mguard i false (fun k=>m R (o_load 26 cH) Z k) Z fun cI aA=>
 mguard i false (fun k=>m R (o_builtin .len #[26] 3 [false] [cI]) aA k) aA fun cJ aB=>
 mguard i false (fun k=>m R (o_bin .gtr 3 true cJ (.int .i64 16)) aB k) aB fun cK cL=>
 m R (o_pick i (.bool true) cK) cL fun q cM=>
 e7 q cM) fun q fG aC=>
 mif q (
 R (.returned (.bool false)) aC) (
 ml1 (.int .i64 0) aC fun aP fH cN E=>
 m R (o_fieldAddr 28 a 3) cN fun cO cP=>
 m R (o_load 24 cO) cP fun cQ cR=>
 m R (o_builtin .len #[24] 3 [false] [cQ]) cR fun cS cT=>
 m R (o_bin .lss 3 false aP cS) cT fun cU aD=>
 mif cU (
 m R (o_fieldAddr 28 a 3) aD fun cV cW=>
 m R (o_load 24 cV) cW fun cX cY=>
 m R (o_indexAddr 24 cX aP) cY fun cZ c0=>
 m R (o_load 75 cZ) c0 fun c1 c2=>
 m R (o_call (fv 33) [c1]) c2 fun c3 c4=>
 m R (o_un .not c3) c4 fun c5 aE=>
 mif c5 (
 R (.returned (.bool false)) aE) (
 m R (o_bin .add 3 true aP (.int .i64 1)) aE fun c6 c7=>
 E c6 c7)) (
 ml1 (.int .i64 0) aD fun r fI c8 F=>
 m R (o_fieldAddr 28 a 6) c8 fun c9 dA=>
 m R (o_load 25 c9) dA fun dB dC=>
 m R (o_builtin .len #[25] 3 [false] [dB]) dC fun dD dE=>
 m R (o_bin .lss 3 false r dD) dE fun dF aF=>
 mif dF (
 m R (o_fieldAddr 28 a 6) aF fun dG dH=>
 m R (o_load 25 dG) dH fun dI dJ=>
 m R (o_indexAddr 25 dI r) dJ fun dK dL=>
 m R (o_fieldAddr 43 dK 1) dL fun dM dN=>
 m R (o_load 41 dM) dN fun dO dP=>
 m R (o_builtin .len #[41] 3 [false] [dO]) dP fun dQ dR=>
 m R (o_bin .gtr 3 true dQ (.int .i64 64)) dR fun dS aG=>
 mif dS (
 R (.returned (.bool false)) aG) (
 ml1 (.int .i64 0) aG fun aQ fD dT s=>
 m R (o_fieldAddr 28 a 6) dT fun dU dV=>
 m R (o_load 25 dU) dV fun dW dX=>
 m R (o_indexAddr 25 dW r) dX fun dY dZ=>
 m R (o_fieldAddr 43 dY 1) dZ fun d0 d1=>
 m R (o_load 41 d0) d1 fun d2 d3=>
 m R (o_builtin .len #[41] 3 [false] [d2]) d3 fun d4 d5=>
 m R (o_bin .lss 3 false aQ d4) d5 fun d6 aH=>
 mif d6 (
 m R (o_fieldAddr 28 a 6) aH fun d7 d8=>
 m R (o_load 25 d7) d8 fun d9 eA=>
 m R (o_indexAddr 25 d9 r) eA fun eB eC=>
 m R (o_fieldAddr 43 eB 1) eC fun eD eE=>
 m R (o_load 41 eD) eE fun eF eG=>
 m R (o_indexAddr 41 eF aQ) eG fun eH eI=>
 m R (o_load 9 eH) eI fun eJ eK=>
 m R (o_builtin .len #[9] 3 [false] [eJ]) eK fun eL eM=>
 m R (o_bin .gtr 3 true eL (.int .i64 1024)) eM fun aR aI=>
 mif aR (
 R (.returned (.bool false)) aI) (
 m R (o_bin .add 3 true aQ (.int .i64 1)) aI fun eN eO=>
 s eN eO)) (
 m R (o_bin .add 3 true r (.int .i64 1)) aH fun eP eQ=>
 F eP eQ))) (
 ml1 (.int .i64 0) aF fun aS fE eR t=>
 m R (o_fieldAddr 28 a 8) eR fun aT eS=>
 m R (o_load 26 aT) eS fun aU eT=>
 m R (o_builtin .len #[26] 3 [false] [aU]) eT fun aV eU=>
 m R (o_bin .lss 3 false aS aV) eU fun aW aJ=>
 mif aW (
 m R (o_fieldAddr 28 a 8) aJ fun aX eV=>
 m R (o_load 26 aX) eV fun aY eW=>
 m R (o_indexAddr 26 aY aS) eW fun aZ eX=>
 m R (o_load 45 aZ) eX fun a0 eY=>
 m R (o_alloc 45) eY fun p eZ=>
 m R (o_store 45 p a0) eZ fun _ e0=>
 mj1 (fun e1=>
 m R (o_fieldAddr 45 p 0) e0 fun a1 e2=>
 m R (o_load 3 a1) e2 fun a2 e3=>
 m R (o_bin .lss 3 true a2 (.int .i64 1)) e3 fun c aK=>
 mguard c false (fun k=>m R (o_fieldAddr 45 p 0) aK k) aK fun a3 aL=>
 mguard c false (fun k=>m R (o_load 3 a3) aL k) aL fun a4 aM=>
 mguard c false (fun k=>m R (o_bin .gtr 3 true a4 (.int .i64 64)) aM k) aM fun a5 e4=>
 m R (o_pick c (.bool true) a5) e4 fun d aN=>
 mguard d false (fun k=>m R (o_fieldAddr 45 p 1) aN k) aN fun a6 aO=>
 mguard d false (fun k=>m R (o_load 3 a6) aO k) aO fun a7 u=>
 mguard d false (fun k=>m R (o_bin .lss 3 true a7 (.int .i64 0)) u k) u fun a8 a9=>
 m R (o_pick d (.bool true) a8) a9 fun e v=>
 mguard e false (fun k=>m R (o_fieldAddr 45 p 1) v k) v fun bA x=>
 mguard e false (fun k=>m R (o_load 3 bA) x k) x fun bB y=>
 mguard e false (fun k=>m R (o_bin .gtr 3 true bB (.int .i64 4611686018427387903)) y k) y fun bC bD=>
 m R (o_pick e (.bool true) bC) bD fun b z=>
 mguard b false (fun k=>m R (o_fieldAddr 45 p 2) z k) z fun bE A=>
 mguard b false (fun k=>m R (o_load 9 bE) A k) A fun bF B=>
 mguard b false (fun k=>m R (o_builtin .len #[9] 3 [false] [bF]) B k) B fun bG C=>
 mguard b false (fun k=>m R (o_bin .gtr 3 true bG (.int .i64 1024)) C k) C fun bH bI=>
 m R (o_pick b (.bool true) bH) bI fun j bJ=>
 e1 j bJ) fun j fF D=>
 mif j (
 R (.returned (.bool false)) D) (
 m R (o_bin .add 3 true aS (.int .i64 1)) D fun bK bL=>
 t bK bL)) (
 R (.returned (.bool true)) aJ))))
def A_bevyref13_Right:Ann:=⟨[(4,[3],18445618173802709004),(9,[4],P_ 101+P_ 6+P_ 2-P_ 64-P_ 4),(14,[5],P_ 101+P_ 5+P_ 2-P_ 79),(19,[6],P_ 137+P_ 8+P_ 2-P_ 101-P_ 6)],[(2,[49],P_ 50-P_ 8),(23,[136],P_ 137-P_ 113)],[],[],[]⟩
theorem C_bevyref13_Right (h:F_bevyref13_Right x0 w R):Calls Tryz.prog 10 #[x0] w R:=cc A_bevyref13_Right [x0] Tryz.func10 h
def F_commit_Id (j:Value) (w:World) (R:Ending→World→Prop):Prop:=
 m R (o_box 28 j) w fun d l=>
 m R (o_alloc 23) l fun a n=>
 m R (o_load 28 d) n fun o p=>
 m R (o_call (fv 9) [o]) p fun q r=>
 m R (o_un .not q) r fun s e=>
 mif s (
 m R (o_build 23 []) e fun t u=>
 m R (o_store 23 a t) u fun _ f=>
 rcell Tryz.prog 23 a f fun c=>
 R (.returned c) f) (
 m R (o_load 28 d) e fun v x=>
 m R (o_call (fv 15) [v]) x fun y z=>
 m R (o_buildSlice 41 2 [(0,(.string (ByteArray.mk #[101,112,111,99,104]))),(1,y)]) z fun A g=>
 m R (o_call (fv 34) [A]) g fun h i=>
 m R (o_store 23 a h) i fun _ b=>
 rcell Tryz.prog 23 a b fun c=>
 R (.returned c) b)
def A_commit_Id:Ann:=⟨[],[],[],[],[]⟩
theorem C_commit_Id (h:F_commit_Id x0 w R):Calls Tryz.prog 11 #[x0] w R:=cc A_commit_Id [x0] Tryz.func11 h
def F_commit_Core (h:Value) (w:World) (R:Ending→World→Prop):Prop:=
 m R (o_box 28 h) w fun b i=>
 m R (o_load 28 b) i fun j l=>
 m R (o_call (fv 9) [j]) l fun n o=>
 m R (o_un .not n) o fun p c=>
 mif p (
 R (.returned (.string (ByteArray.mk #[]))) c) (
 m R (o_call (fv 36) []) c fun d q=>
 m R (o_load 28 b) q fun e r=>
 m R (o_call (fv 37) [d,e]) r fun v s=>
 m R (o_call (fv 38) [d]) s fun a t=>
 m R (o_extract a 0) t fun f u=>
 m R (o_extract a 1) u fun x g=>
 R (.returned f) g)
def A_commit_Core:Ann:=⟨[],[],[],[],[]⟩
theorem C_commit_Core (h:F_commit_Core x0 w R):Calls Tryz.prog 13 #[x0] w R:=cc A_commit_Core [x0] Tryz.func13 h
def F_commit_Pack (e:Value) (w:World) (R:Ending→World→Prop):Prop:=
 m R (o_box 28 e) w fun b f=>
 m R (o_load 28 b) f fun g h=>
 m R (o_call (fv 9) [g]) h fun i j=>
 m R (o_un .not i) j fun l a=>
 mif l (
 R (.returned (.string (ByteArray.mk #[]))) a) (
 dq Tryz.prog a (o_load 28 b) fun n=>
 df Tryz.prog a (o_call (fv 43) [n]) true fun o p=>
 dp Tryz.prog (o_fieldAddr 28 b 10) fun q=>
 dp Tryz.prog (o_slice 23 q none none none) fun r=>
 dq Tryz.prog a (o_conv 89 9 r) fun c=>
 dp Tryz.prog (o_bin .add 9 false o c) fun d=>
 dend p fun s=>
 R (.returned d) s)
def A_commit_Pack:Ann:=⟨[],[],[(3,[⟨0,.q (some 0),2,0,64⟩,⟨1,.f 0 true,64,1,128⟩,⟨2,.q none,2,0,256⟩,⟨3,.q none,256,4,512⟩,⟨4,.q (some 0),512,12,1024⟩,⟨5,.q none,1152,31,2048⟩,⟨6,.q none,2048,63,4⟩])],[],[]⟩
theorem C_commit_Pack (h:F_commit_Pack x0 w R):Calls Tryz.prog 15 #[x0] w R:=cc A_commit_Pack [x0] Tryz.func15 h
def F_era_Found (A N t c9 dA:Value) (w:World) (R:Ending→World→Prop):Prop:=
 m R (o_box 23 c9) w fun dB dC=>
 m R (o_box 23 dA) dC fun O dD=>
 mj1 (fun dE=>
 m R (o_bin .lss 3 true t (.int .i64 1)) dD fun u Q=>
 mguard u false (fun k=>m R (o_move t) Q k) Q fun S T=>
 mguard u false (fun k=>m R (o_move N) T k) T fun U V=>
 mguard u false (fun k=>m R (o_builtin .len #[49] 3 [false] [U]) V k) V fun W X=>
 mguard u false (fun k=>m R (o_builtin .min #[3,3] 3 [false,true] [W,(.int .i64 64)]) X k) X fun Y Z=>
 mguard u false (fun k=>m R (o_bin .gtr 3 false S Y) Z k) Z fun aA dF=>
 m R (o_pick u (.bool true) aA) dF fun s aB=>
 mguard s false (fun k=>m R (o_move N) aB k) aB fun aC B=>
 mguard s false (fun k=>m R (o_move t) B k) B fun aD C=>
 mguard s false (fun k=>m R (o_bin .sub 3 true aD (.int .i64 1)) C k) C fun aE D=>
 mguard s false (fun k=>m R (o_indexAddr 49 aC aE) D k) D fun aF E=>
 mguard s false (fun k=>m R (o_fieldAddr 113 aF 1) E k) E fun aG F=>
 mguard s false (fun k=>m R (o_load 111 aG) F k) F fun aH G=>
 mguard s false (fun k=>m R (o_builtin .len #[111] 3 [false] [aH]) G k) G fun aI H=>
 mguard s false (fun k=>m R (o_bin .eql 3 true aI (.int .i64 0)) H k) H fun aJ aK=>
 m R (o_pick s (.bool true) aJ) aK fun z aL=>
 dE z aL) fun z dH I=>
 mif z (
 R (.returned (.tuple #[(.pointer none),(.int .i64 7)])) I) (
 m R (o_bin .sub 3 true t (.int .i64 1)) I fun aM aN=>
 m R (o_indexAddr 49 N aM) aN fun aO aP=>
 m R (o_load 113 aO) aP fun aQ aR=>
 m R (o_alloc 113) aR fun c aS=>
 m R (o_store 113 c aQ) aS fun _ v=>
 dq Tryz.prog v (o_load 23 O) fun aT=>
 df Tryz.prog v (o_call (fv 62) [(.pointer none),aT]) true fun aU aV=>
 dp Tryz.prog (o_fieldAddr 113 c 1) fun aW=>
 dq Tryz.prog v (o_load 111 aW) fun aX=>
 dp Tryz.prog (o_indexAddr 111 aX (.int .i64 0)) fun aY=>
 dp Tryz.prog (o_fieldAddr 116 aY 1) fun aZ=>
 dq Tryz.prog v (o_load 23 aZ) fun a0=>
 dp Tryz.prog (o_bin .neq 23 false aU a0) fun a1=>
 dend aV fun J=>
 mif a1 (
 R (.returned (.tuple #[(.pointer none),(.int .i64 16)])) J) (
 m R (o_load 23 O) J fun a2 a3=>
 m R (o_call (fv 62) [A,a2]) a3 fun dG a=>
 mj1 (fun y=>
 ((
 dp Tryz.prog (o_fieldAddr 113 c 1) fun d=>
 dq Tryz.prog a (o_load 111 d) fun e=>
 dp Tryz.prog (o_indexAddr 111 e (.int .i64 0)) fun f=>
 dp Tryz.prog (o_fieldAddr 116 f 1) fun g=>
 dq Tryz.prog a (o_load 23 g) fun h=>
 dp Tryz.prog (o_fieldAddr 113 c 0) fun i=>
 dq Tryz.prog a (o_load 23 i) fun j=>
 dp Tryz.prog (o_build 118 [(0,t),(1,h),(2,j)]) fun l=>
 dp Tryz.prog (o_build 23 []) fun n=>
 df Tryz.prog a (o_buildSlice 55 1 [(0,l)]) false fun o a4=>
 dp Tryz.prog (o_build 58 [(0,o)]) fun p=>
 df Tryz.prog a4 (o_call (fv 63) [n,(.string (ByteArray.mk #[102,111,117,110,100]))]) true fun q a5=>
 dp Tryz.prog (o_build 62 [(3,p),(4,q)]) fun r=>
 df Tryz.prog a5 (o_alloc 62) true fun b a6=>
 df Tryz.prog a6 (o_store 62 b r) false fun _ a7=>
 dend a7 fun a8=>
 y b a8)∧(
 dp Tryz.prog (o_fieldAddr 113 c 1) fun d=>
 dq Tryz.prog a (o_load 111 d) fun e=>
 dp Tryz.prog (o_indexAddr 111 e (.int .i64 0)) fun f=>
 dp Tryz.prog (o_fieldAddr 116 f 1) fun g=>
 dq Tryz.prog a (o_load 23 g) fun h=>
 dp Tryz.prog (o_fieldAddr 113 c 0) fun i=>
 dq Tryz.prog a (o_load 23 i) fun j=>
 dp Tryz.prog (o_build 118 [(0,t),(1,h),(2,j)]) fun l=>
 dp Tryz.prog (o_build 23 []) fun n=>
 df Tryz.prog a (o_buildSlice 55 1 [(0,l)]) false fun o a9=>
 dp Tryz.prog (o_build 58 [(0,o)]) fun p=>
 df Tryz.prog a9 (o_alloc 62) true fun b bA=>
 df Tryz.prog bA (o_call (fv 63) [n,(.string (ByteArray.mk #[102,111,117,110,100]))]) true fun q bB=>
 dp Tryz.prog (o_build 62 [(3,p),(4,q)]) fun r=>
 df Tryz.prog bB (o_store 62 b r) false fun _ bC=>
 dend bC fun bD=>
 y b bD)∧(
 dp Tryz.prog (o_fieldAddr 113 c 1) fun d=>
 dq Tryz.prog a (o_load 111 d) fun e=>
 dp Tryz.prog (o_indexAddr 111 e (.int .i64 0)) fun f=>
 dp Tryz.prog (o_fieldAddr 116 f 1) fun g=>
 dq Tryz.prog a (o_load 23 g) fun h=>
 dp Tryz.prog (o_fieldAddr 113 c 0) fun i=>
 dq Tryz.prog a (o_load 23 i) fun j=>
 dp Tryz.prog (o_build 118 [(0,t),(1,h),(2,j)]) fun l=>
 dp Tryz.prog (o_build 23 []) fun n=>
 df Tryz.prog a (o_call (fv 63) [n,(.string (ByteArray.mk #[102,111,117,110,100]))]) true fun q bE=>
 df Tryz.prog bE (o_buildSlice 55 1 [(0,l)]) false fun o bF=>
 dp Tryz.prog (o_build 58 [(0,o)]) fun p=>
 dp Tryz.prog (o_build 62 [(3,p),(4,q)]) fun r=>
 df Tryz.prog bF (o_alloc 62) true fun b bG=>
 df Tryz.prog bG (o_store 62 b r) false fun _ bH=>
 dend bH fun bI=>
 y b bI)∧(
 dp Tryz.prog (o_fieldAddr 113 c 1) fun d=>
 dq Tryz.prog a (o_load 111 d) fun e=>
 dp Tryz.prog (o_indexAddr 111 e (.int .i64 0)) fun f=>
 dp Tryz.prog (o_fieldAddr 116 f 1) fun g=>
 dq Tryz.prog a (o_load 23 g) fun h=>
 dp Tryz.prog (o_fieldAddr 113 c 0) fun i=>
 dq Tryz.prog a (o_load 23 i) fun j=>
 dp Tryz.prog (o_build 118 [(0,t),(1,h),(2,j)]) fun l=>
 dp Tryz.prog (o_build 23 []) fun n=>
 df Tryz.prog a (o_call (fv 63) [n,(.string (ByteArray.mk #[102,111,117,110,100]))]) true fun q bJ=>
 df Tryz.prog bJ (o_alloc 62) true fun b bK=>
 df Tryz.prog bK (o_buildSlice 55 1 [(0,l)]) false fun o bL=>
 dp Tryz.prog (o_build 58 [(0,o)]) fun p=>
 dp Tryz.prog (o_build 62 [(3,p),(4,q)]) fun r=>
 df Tryz.prog bL (o_store 62 b r) false fun _ bM=>
 dend bM fun bN=>
 y b bN)∧(
 dp Tryz.prog (o_fieldAddr 113 c 1) fun d=>
 dq Tryz.prog a (o_load 111 d) fun e=>
 dp Tryz.prog (o_indexAddr 111 e (.int .i64 0)) fun f=>
 dp Tryz.prog (o_fieldAddr 116 f 1) fun g=>
 dq Tryz.prog a (o_load 23 g) fun h=>
 dp Tryz.prog (o_fieldAddr 113 c 0) fun i=>
 dq Tryz.prog a (o_load 23 i) fun j=>
 dp Tryz.prog (o_build 118 [(0,t),(1,h),(2,j)]) fun l=>
 dp Tryz.prog (o_build 23 []) fun n=>
 df Tryz.prog a (o_alloc 62) true fun b bO=>
 df Tryz.prog bO (o_buildSlice 55 1 [(0,l)]) false fun o bP=>
 dp Tryz.prog (o_build 58 [(0,o)]) fun p=>
 df Tryz.prog bP (o_call (fv 63) [n,(.string (ByteArray.mk #[102,111,117,110,100]))]) true fun q bQ=>
 dp Tryz.prog (o_build 62 [(3,p),(4,q)]) fun r=>
 df Tryz.prog bQ (o_store 62 b r) false fun _ bR=>
 dend bR fun bS=>
 y b bS)∧(
 dp Tryz.prog (o_fieldAddr 113 c 1) fun d=>
 dq Tryz.prog a (o_load 111 d) fun e=>
 dp Tryz.prog (o_indexAddr 111 e (.int .i64 0)) fun f=>
 dp Tryz.prog (o_fieldAddr 116 f 1) fun g=>
 dq Tryz.prog a (o_load 23 g) fun h=>
 dp Tryz.prog (o_fieldAddr 113 c 0) fun i=>
 dq Tryz.prog a (o_load 23 i) fun j=>
 dp Tryz.prog (o_build 118 [(0,t),(1,h),(2,j)]) fun l=>
 dp Tryz.prog (o_build 23 []) fun n=>
 df Tryz.prog a (o_alloc 62) true fun b bT=>
 df Tryz.prog bT (o_call (fv 63) [n,(.string (ByteArray.mk #[102,111,117,110,100]))]) true fun q bU=>
 df Tryz.prog bU (o_buildSlice 55 1 [(0,l)]) false fun o bV=>
 dp Tryz.prog (o_build 58 [(0,o)]) fun p=>
 dp Tryz.prog (o_build 62 [(3,p),(4,q)]) fun r=>
 df Tryz.prog bV (o_store 62 b r) false fun _ bW=>
 dend bW fun bX=>
 y b bX))) fun b dI bY=>
 m R (o_bin .sub 3 true t (.int .i64 1)) bY fun bZ b0=>
 m R (o_fieldAddr 62 b 5) b0 fun b1 b2=>
 m R (o_indexAddr 60 b1 bZ) b2 fun b3 b4=>
 m R (o_store 3 b3 (.int .i64 1)) b4 fun _ x=>
 dp Tryz.prog (o_fieldAddr 62 b 1) fun b5=>
 dq Tryz.prog x (o_load 23 b5) fun b6=>
 dp Tryz.prog (o_fieldAddr 62 b 3) fun b7=>
 dq Tryz.prog x (o_load 58 b7) fun b8=>
 df Tryz.prog x (o_call (fv 65) [b8]) true fun b9 cA=>
 dp Tryz.prog (o_fieldAddr 62 b 4) fun cB=>
 dq Tryz.prog x (o_load 23 cB) fun cC=>
 df Tryz.prog cA (o_call (fv 64) [b6,(.int .i64 0),b9,cC]) false fun K cD=>
 dend cD fun cE=>
 m R (o_buildSlice 41 2 [(0,(.string (ByteArray.mk #[102,111,117,110,100]))),(1,K)]) cE fun cF cG=>
 m R (o_call (fv 34) [cF]) cG fun cH cI=>
 m R (o_fieldAddr 62 b 0) cI fun cJ cK=>
 m R (o_store 23 cJ cH) cK fun _ cL=>
 m R (o_load 23 dB) cL fun cM cN=>
 m R (o_call (fv 67) [A,cM,(.string (ByteArray.mk #[102,111,117,110,100])),(.string (ByteArray.mk #[]))]) cN fun cO cP=>
 m R (o_call (fv 66) [A,cO,K]) cP fun cQ cR=>
 m R (o_alloc 123) cR fun L cS=>
 m R (o_store 123 L cQ) cS fun _ cT=>
 m R (o_load 62 b) cT fun cU cV=>
 m R (o_load 23 O) cV fun cW cX=>
 m R (o_build 128 [(1,cW)]) cX fun cY cZ=>
 m R (o_buildSlice 63 1 [(0,cY)]) cZ fun c0 c1=>
 m R (o_load 123 L) c1 fun c2 c3=>
 m R (o_call (fv 68) [A,cU,t,c0,c2]) c3 fun M c4=>
 m R (o_extract M 0) c4 fun c5 c6=>
 m R (o_extract M 1) c6 fun c7 c8=>
 R (.returned (.tuple #[c5,c7])) c8))
def A_era_Found:Ann:=⟨[],[(2,[34],34359672832),(8,[13],P_ 65+P_ 13-P_ 51)],[(4,[⟨0,.q (some 0),512,0,P_ 40⟩,⟨1,.f 0 true,P_ 40,1,P_ 41⟩,⟨2,.q none,4096,0,P_ 42⟩,⟨3,.q (some 0),P_ 42,4,P_ 43⟩,⟨4,.q none,P_ 43,12,P_ 44⟩,⟨5,.q none,P_ 44,28,P_ 45⟩,⟨6,.q (some 0),P_ 45,60,P_ 46⟩,⟨7,.q none,P_ 46+P_ 41,127,P_ 47⟩]),(9,[⟨0,.q none,8192,0,P_ 69⟩,⟨1,.q (some 0),P_ 69,1,P_ 70⟩,⟨2,.q none,8192,0,P_ 71⟩,⟨3,.q (some 0),P_ 71,4,P_ 72⟩,⟨4,.f 0 true,P_ 72,12,P_ 73⟩,⟨5,.q none,8192,0,P_ 74⟩,⟨6,.q (some 0),P_ 74,32,P_ 75⟩,⟨7,.f 1 false,P_ 75+P_ 73+P_ 70,127,P_ 76⟩,⟨8,.q none,P_ 76,255,16384⟩])],[(7,[⟨[0,1,2,3,4,5,6,7,8,11,9,10,12,13,14,15],[⟨0,.q none,4,0,P_ 51⟩,⟨1,.q none,4096,0,P_ 52⟩,⟨2,.q (some 0),P_ 52,2,P_ 53⟩,⟨3,.q none,P_ 53,6,P_ 54⟩,⟨4,.q none,P_ 54,14,P_ 55⟩,⟨5,.q (some 0),P_ 55,30,P_ 56⟩,⟨6,.q none,4096,0,P_ 57⟩,⟨7,.q (some 0),P_ 57,64,P_ 58⟩,⟨8,.q none,362539770003324928,255,P_ 59⟩,⟨9,.f 0 false,P_ 59,511,P_ 60⟩,⟨10,.q none,P_ 60,1023,P_ 61⟩,⟨11,.q none,0,0,P_ 62⟩,⟨12,.f 1 true,P_ 62,2048,P_ 63⟩,⟨13,.q none,P_ 63+P_ 61,8191,P_ 64⟩,⟨14,.f 2 true,0,0,8192⟩,⟨15,.f 3 false,P_ 64+P_ 13,32767,0⟩]⟩,⟨[0,1,2,3,4,5,6,7,8,11,9,10,14,12,13,15],[⟨0,.q none,4,0,P_ 51⟩,⟨1,.q none,4096,0,P_ 52⟩,⟨2,.q (some 0),P_ 52,2,P_ 53⟩,⟨3,.q none,P_ 53,6,P_ 54⟩,⟨4,.q none,P_ 54,14,P_ 55⟩,⟨5,.q (some 0),P_ 55,30,P_ 56⟩,⟨6,.q none,4096,0,P_ 57⟩,⟨7,.q (some 0),P_ 57,64,P_ 58⟩,⟨8,.q none,362539770003324928,255,P_ 59⟩,⟨9,.f 0 false,P_ 59,511,P_ 60⟩,⟨10,.q none,P_ 60,1023,P_ 61⟩,⟨11,.q none,0,0,P_ 62⟩,⟨12,.f 2 true,P_ 62,2048,P_ 63⟩,⟨13,.q none,P_ 63+P_ 61,8191,P_ 64⟩,⟨14,.f 1 true,0,0,8192⟩,⟨15,.f 3 false,P_ 64+P_ 13,32767,0⟩]⟩,⟨[0,1,2,3,4,5,6,7,8,11,12,9,10,13,14,15],[⟨0,.q none,4,0,P_ 51⟩,⟨1,.q none,4096,0,P_ 52⟩,⟨2,.q (some 0),P_ 52,2,P_ 53⟩,⟨3,.q none,P_ 53,6,P_ 54⟩,⟨4,.q none,P_ 54,14,P_ 55⟩,⟨5,.q (some 0),P_ 55,30,P_ 56⟩,⟨6,.q none,4096,0,P_ 57⟩,⟨7,.q (some 0),P_ 57,64,P_ 58⟩,⟨8,.q none,362539770003324928,255,P_ 59⟩,⟨9,.f 1 false,P_ 59,511,P_ 60⟩,⟨10,.q none,P_ 60,1023,P_ 61⟩,⟨11,.q none,0,0,P_ 62⟩,⟨12,.f 0 true,P_ 62,2048,P_ 63⟩,⟨13,.q none,P_ 63+P_ 61,8191,P_ 64⟩,⟨14,.f 2 true,0,0,8192⟩,⟨15,.f 3 false,P_ 64+P_ 13,32767,0⟩]⟩,⟨[0,1,2,3,4,5,6,7,8,11,12,14,9,10,13,15],[⟨0,.q none,4,0,P_ 51⟩,⟨1,.q none,4096,0,P_ 52⟩,⟨2,.q (some 0),P_ 52,2,P_ 53⟩,⟨3,.q none,P_ 53,6,P_ 54⟩,⟨4,.q none,P_ 54,14,P_ 55⟩,⟨5,.q (some 0),P_ 55,30,P_ 56⟩,⟨6,.q none,4096,0,P_ 57⟩,⟨7,.q (some 0),P_ 57,64,P_ 58⟩,⟨8,.q none,362539770003324928,255,P_ 59⟩,⟨9,.f 2 false,P_ 59,511,P_ 60⟩,⟨10,.q none,P_ 60,1023,P_ 61⟩,⟨11,.q none,0,0,P_ 62⟩,⟨12,.f 0 true,P_ 62,2048,P_ 63⟩,⟨13,.q none,P_ 63+P_ 61,8191,P_ 64⟩,⟨14,.f 1 true,0,0,8192⟩,⟨15,.f 3 false,P_ 64+P_ 13,32767,0⟩]⟩,⟨[0,1,2,3,4,5,6,7,8,11,14,9,10,12,13,15],[⟨0,.q none,4,0,P_ 51⟩,⟨1,.q none,4096,0,P_ 52⟩,⟨2,.q (some 0),P_ 52,2,P_ 53⟩,⟨3,.q none,P_ 53,6,P_ 54⟩,⟨4,.q none,P_ 54,14,P_ 55⟩,⟨5,.q (some 0),P_ 55,30,P_ 56⟩,⟨6,.q none,4096,0,P_ 57⟩,⟨7,.q (some 0),P_ 57,64,P_ 58⟩,⟨8,.q none,362539770003324928,255,P_ 59⟩,⟨9,.f 1 false,P_ 59,511,P_ 60⟩,⟨10,.q none,P_ 60,1023,P_ 61⟩,⟨11,.q none,0,0,P_ 62⟩,⟨12,.f 2 true,P_ 62,2048,P_ 63⟩,⟨13,.q none,P_ 63+P_ 61,8191,P_ 64⟩,⟨14,.f 0 true,0,0,8192⟩,⟨15,.f 3 false,P_ 64+P_ 13,32767,0⟩]⟩,⟨[0,1,2,3,4,5,6,7,8,11,14,12,9,10,13,15],[⟨0,.q none,4,0,P_ 51⟩,⟨1,.q none,4096,0,P_ 52⟩,⟨2,.q (some 0),P_ 52,2,P_ 53⟩,⟨3,.q none,P_ 53,6,P_ 54⟩,⟨4,.q none,P_ 54,14,P_ 55⟩,⟨5,.q (some 0),P_ 55,30,P_ 56⟩,⟨6,.q none,4096,0,P_ 57⟩,⟨7,.q (some 0),P_ 57,64,P_ 58⟩,⟨8,.q none,362539770003324928,255,P_ 59⟩,⟨9,.f 2 false,P_ 59,511,P_ 60⟩,⟨10,.q none,P_ 60,1023,P_ 61⟩,⟨11,.q none,0,0,P_ 62⟩,⟨12,.f 1 true,P_ 62,2048,P_ 63⟩,⟨13,.q none,P_ 63+P_ 61,8191,P_ 64⟩,⟨14,.f 0 true,0,0,8192⟩,⟨15,.f 3 false,P_ 64+P_ 13,32767,0⟩]⟩])],[]⟩
theorem C_era_Found (h:F_era_Found x0 x1 x2 x3 x4 w R):Calls Tryz.prog 20 #[x0,x1,x2,x3,x4] w R:=cc A_era_Found [x0,x1,x2,x3,x4] Tryz.func20 h
def F_bevylaw13_Roll (w:World) (R:Ending→World→Prop):Prop:=
 ml2 (.slice none 0 0) (.int .i64 1) w fun h c aH X d=>
 m R (o_bin .leq 3 true c (.int .i64 6)) X fun Y i=>
 mif Y (
 m R (o_call (fv 24) [c]) i fun j Z=>
 m R (o_call (fv 69) [j]) Z fun l aA=>
 m R (o_build 113 [(0,l)]) aA fun n aB=>
 m R (o_alloc 113) aB fun e aC=>
 m R (o_store 113 e n) aC fun _ aD=>
 m R (o_call (fv 70) [c]) aD fun b aE=>
 ml1 (.int .i64 0) aE fun f aI aF g=>
 m R (o_builtin .len #[111] 3 [false] [b]) aF fun o p=>
 m R (o_bin .lss 3 false f o) p fun q a=>
 mif q (
 dp Tryz.prog (o_fieldAddr 113 e 1) fun r=>
 dq Tryz.prog a (o_load 111 r) fun s=>
 dp Tryz.prog (o_indexAddr 111 b f) fun t=>
 dp Tryz.prog (o_fieldAddr 116 t 0) fun u=>
 dq Tryz.prog a (o_load 23 u) fun v=>
 df Tryz.prog a (o_call (fv 71) [v]) true fun x y=>
 dp Tryz.prog (o_indexAddr 111 b f) fun z=>
 dp Tryz.prog (o_fieldAddr 116 z 1) fun A=>
 dq Tryz.prog a (o_load 23 A) fun B=>
 df Tryz.prog y (o_call (fv 71) [B]) true fun C D=>
 dp Tryz.prog (o_build 116 [(0,x),(1,C)]) fun E=>
 df Tryz.prog D (o_buildSlice 111 1 [(0,E)]) true fun F G=>
 df Tryz.prog G (o_builtin .append #[111,111] 111 [false,false] [s,F]) false fun H I=>
 dp Tryz.prog (o_fieldAddr 113 e 1) fun J=>
 df Tryz.prog I (o_store 111 J H) false fun _ K=>
 dend K fun L=>
 m R (o_bin .add 3 true f (.int .i64 1)) L fun M N=>
 g M N) (
 m R (o_load 113 e) a fun O Q=>
 m R (o_buildSlice 49 1 [(0,O)]) Q fun S T=>
 m R (o_builtin .append #[49,49] 49 [false,false] [h,S]) T fun U V=>
 m R (o_bin .add 3 true c (.int .i64 1)) V fun aG W=>
 d U aG W)) (
 R (.returned h) i)
def A_bevylaw13_Roll:Ann:=⟨[(3,[1,2],P_ 44-P_ 1),(8,[5],1099511562272)],[],[(10,[⟨0,.q none,8,0,4194304⟩,⟨1,.q (some 0),4194304,1,8388608⟩,⟨2,.q none,16,0,16777216⟩,⟨3,.q none,32,0,33554432⟩,⟨4,.q none,50331648,12,67108864⟩,⟨5,.q none,67108864,28,P_ 27⟩,⟨6,.q (some 0),P_ 27,60,P_ 28⟩,⟨7,.f 0 true,P_ 28,124,P_ 29⟩,⟨8,.q none,16,0,P_ 30⟩,⟨9,.q none,32,0,P_ 31⟩,⟨10,.q none,3221225472,768,P_ 32⟩,⟨11,.q none,P_ 32,1792,P_ 33⟩,⟨12,.q (some 0),P_ 33,3840,P_ 34⟩,⟨13,.f 1 true,P_ 34,8188,P_ 35⟩,⟨14,.q none,34896609280,16380,P_ 36⟩,⟨15,.f 2 true,P_ 36,32764,P_ 37⟩,⟨16,.f 3 false,137447342080,65535,P_ 38⟩,⟨17,.q none,8,131071,P_ 39⟩,⟨18,.f 4 false,824633720832,262143,0⟩])],[],[]⟩
theorem C_bevylaw13_Roll (h:F_bevylaw13_Roll w R):Calls Tryz.prog 21 #[] w R:=cc A_bevylaw13_Roll [] Tryz.func21 h
def F_bevylaw13_Leaf (c d:Value) (w:World) (R:Ending→World→Prop):Prop:=
 m R (o_alloc 23) w fun a e=>
 m R (o_conv 3 5 c) e fun f g=>
 m R (o_conv 3 5 d) g fun h i=>
 m R (o_build 23 [(0,f),(1,h),(2,(.int .u8 2))]) i fun j l=>
 m R (o_store 23 a j) l fun _ b=>
 rcell Tryz.prog 23 a b fun n=>
 R (.returned n) b
def A_bevylaw13_Leaf:Ann:=⟨[],[],[],[],[]⟩
theorem C_bevylaw13_Leaf (h:F_bevylaw13_Leaf x0 x1 w R):Calls Tryz.prog 22 #[x0,x1] w R:=cc A_bevylaw13_Leaf [x0,x1] Tryz.func22 h
def F_commit_Build (C c bA m5 bB m6:Value) (w:World) (R:Ending→World→Prop):Prop:=
 m R (o_box 23 m5) w fun jQ m7=>
 m R (o_box 23 m6) m7 fun b4 m8=>
 m R (o_alloc 28) m8 fun A m9=>
 m R (o_build 28 []) m9 fun jR nA=>
 m R (o_alloc 28) nA fun aB nB=>
 m R (o_store 28 aB jR) nB fun _ nC=>
 m R (o_bin .eql 46 true c (.pointer none)) nC fun jS jT=>
 mif jS (
 m R (o_load 28 aB) jT fun jU nD=>
 m R (o_store 28 A jU) nD fun _ jV=>
 rcell Tryz.prog 28 A jV fun E=>
 R (.returned (.tuple #[E,(.pointer none),(.int .i64 1)])) jV) (
 m R (o_nilCheck c) jT fun jW jX=>
 m R (o_fieldAddr 67 jW 4) jX fun jY jZ=>
 m R (o_load 3 jY) jZ fun j0 j1=>
 m R (o_bin .geq 3 true j0 (.int .i64 32)) j1 fun j2 cQ=>
 mif j2 (
 m R (o_load 28 aB) cQ fun j3 j4=>
 m R (o_store 28 A j3) j4 fun _ cR=>
 rcell Tryz.prog 28 A cR fun E=>
 R (.returned (.tuple #[E,(.pointer none),(.int .i64 9)])) cR) (
 m R (o_nilCheck c) cQ fun j5 j6=>
 m R (o_fieldAddr 67 j5 0) j6 fun j7 j8=>
 m R (o_fieldAddr 62 j7 2) j8 fun j9 kA=>
 m R (o_load 3 j9) kA fun kB kC=>
 m R (o_bin .geq 3 true kB (.int .i64 4611686018427387903)) kC fun kD b5=>
 mif kD (
 m R (o_load 28 aB) b5 fun kE kF=>
 m R (o_store 28 A kE) kF fun _ cS=>
 rcell Tryz.prog 28 A cS fun E=>
 R (.returned (.tuple #[E,(.pointer none),(.int .i64 5)])) cS) (
 dp Tryz.prog (o_nilCheck c) fun kG=>
 dp Tryz.prog (o_fieldAddr 67 kG 0) fun kH=>
 dp Tryz.prog (o_fieldAddr 62 kH 3) fun kI=>
 dp Tryz.prog (o_fieldAddr 58 kI 0) fun kJ=>
 dq Tryz.prog b5 (o_load 55 kJ) fun kK=>
 df Tryz.prog b5 (o_call (fv 72) [c]) true fun kL cT=>
 dp Tryz.prog (o_indexAddr 55 kK kL) fun kM=>
 dp Tryz.prog (o_fieldAddr 118 kM 2) fun kN=>
 dq Tryz.prog cT (o_load 23 kN) fun kO=>
 dq Tryz.prog b5 (o_load 23 jQ) fun kP=>
 df Tryz.prog cT (o_call (fv 73) [kP]) true fun kQ kR=>
 dp Tryz.prog (o_bin .neq 23 false kO kQ) fun kS=>
 dend kR fun aC=>
 mif kS (
 m R (o_load 28 aB) aC fun kT kU=>
 m R (o_store 28 A kT) kU fun _ cU=>
 rcell Tryz.prog 28 A cU fun E=>
 R (.returned (.tuple #[E,(.pointer none),(.int .i64 18)])) cU) (
 dp Tryz.prog (o_nilCheck c) fun kV=>
 dp Tryz.prog (o_fieldAddr 67 kV 0) fun kW=>
 dp Tryz.prog (o_fieldAddr 62 kW 3) fun kX=>
 dq Tryz.prog aC (o_load 58 kX) fun kY=>
 dp Tryz.prog (o_nilCheck c) fun kZ=>
 dp Tryz.prog (o_fieldAddr 67 kZ 0) fun k0=>
 dp Tryz.prog (o_fieldAddr 62 k0 5) fun k1=>
 dq Tryz.prog aC (o_load 60 k1) fun k2=>
 dp Tryz.prog (o_nilCheck c) fun k3=>
 dp Tryz.prog (o_fieldAddr 67 k3 0) fun k4=>
 dp Tryz.prog (o_fieldAddr 62 k4 0) fun k5=>
 dq Tryz.prog aC (o_load 23 k5) fun k6=>
 dp Tryz.prog (o_nilCheck c) fun k7=>
 dp Tryz.prog (o_fieldAddr 67 k7 0) fun k8=>
 dp Tryz.prog (o_fieldAddr 62 k8 2) fun cY=>
 dq Tryz.prog aC (o_load 3 cY) fun cZ=>
 dp Tryz.prog (o_nilCheck c) fun c0=>
 dp Tryz.prog (o_fieldAddr 67 c0 1) fun c1=>
 dq Tryz.prog aC (o_load 3 c1) fun c2=>
 df Tryz.prog aC (o_call (fv 74) [kY,k2,bA,k6,cZ,c2,bB]) false fun b9 k9=>
 dend k9 fun lA=>
 m R (o_bin .neq 34 true b9 (.int .i64 0)) lA fun c3 g=>
 mif c3 (
 m R (o_load 28 aB) g fun c4 lB=>
 m R (o_store 28 A c4) lB fun _ cV=>
 rcell Tryz.prog 28 A cV fun E=>
 R (.returned (.tuple #[E,(.pointer none),b9])) cV) (
 mj3 (fun bC=>
 ((
 dp Tryz.prog (o_nilCheck c) fun l=>
 dp Tryz.prog (o_fieldAddr 67 l 0) fun n=>
 dp Tryz.prog (o_fieldAddr 62 n 3) fun o=>
 dq Tryz.prog g (o_load 58 o) fun p=>
 dp Tryz.prog (o_nilCheck c) fun q=>
 dp Tryz.prog (o_fieldAddr 67 q 0) fun r=>
 dp Tryz.prog (o_fieldAddr 62 r 5) fun s=>
 dq Tryz.prog g (o_load 60 s) fun t=>
 df Tryz.prog g (o_call (fv 75) [p,t,bA,bB]) false fun a lC=>
 dp Tryz.prog (o_extract a 0) fun u=>
 dp Tryz.prog (o_extract a 1) fun v=>
 dp Tryz.prog (o_extract a 2) fun x=>
 dp Tryz.prog (o_extract a 3) fun aD=>
 df Tryz.prog lC (o_alloc 58) true fun e lD=>
 df Tryz.prog lD (o_alloc 60) true fun h lE=>
 df Tryz.prog lE (o_store 58 e u) false fun _ lF=>
 df Tryz.prog lF (o_store 60 h v) false fun _ lG=>
 dend lG fun lH=>
 bC e h x lH)∧(
 dp Tryz.prog (o_nilCheck c) fun l=>
 dp Tryz.prog (o_fieldAddr 67 l 0) fun n=>
 dp Tryz.prog (o_fieldAddr 62 n 3) fun o=>
 dq Tryz.prog g (o_load 58 o) fun p=>
 dp Tryz.prog (o_nilCheck c) fun q=>
 dp Tryz.prog (o_fieldAddr 67 q 0) fun r=>
 dp Tryz.prog (o_fieldAddr 62 r 5) fun s=>
 dq Tryz.prog g (o_load 60 s) fun t=>
 df Tryz.prog g (o_call (fv 75) [p,t,bA,bB]) false fun a lI=>
 dp Tryz.prog (o_extract a 0) fun u=>
 dp Tryz.prog (o_extract a 1) fun v=>
 dp Tryz.prog (o_extract a 2) fun x=>
 dp Tryz.prog (o_extract a 3) fun aD=>
 df Tryz.prog lI (o_alloc 60) true fun h lJ=>
 df Tryz.prog lJ (o_alloc 58) true fun e lK=>
 df Tryz.prog lK (o_store 58 e u) false fun _ lL=>
 df Tryz.prog lL (o_store 60 h v) false fun _ lM=>
 dend lM fun lN=>
 bC e h x lN)∧(
 dp Tryz.prog (o_nilCheck c) fun l=>
 dp Tryz.prog (o_fieldAddr 67 l 0) fun n=>
 dp Tryz.prog (o_fieldAddr 62 n 3) fun o=>
 dq Tryz.prog g (o_load 58 o) fun p=>
 dp Tryz.prog (o_nilCheck c) fun q=>
 dp Tryz.prog (o_fieldAddr 67 q 0) fun r=>
 dp Tryz.prog (o_fieldAddr 62 r 5) fun s=>
 dq Tryz.prog g (o_load 60 s) fun t=>
 df Tryz.prog g (o_alloc 58) true fun e lO=>
 df Tryz.prog lO (o_call (fv 75) [p,t,bA,bB]) false fun a lP=>
 dp Tryz.prog (o_extract a 0) fun u=>
 dp Tryz.prog (o_extract a 1) fun v=>
 dp Tryz.prog (o_extract a 2) fun x=>
 dp Tryz.prog (o_extract a 3) fun aD=>
 df Tryz.prog lP (o_alloc 60) true fun h lQ=>
 df Tryz.prog lQ (o_store 58 e u) false fun _ lR=>
 df Tryz.prog lR (o_store 60 h v) false fun _ lS=>
 dend lS fun lT=>
 bC e h x lT)∧(
 dp Tryz.prog (o_nilCheck c) fun l=>
 dp Tryz.prog (o_fieldAddr 67 l 0) fun n=>
 dp Tryz.prog (o_fieldAddr 62 n 3) fun o=>
 dq Tryz.prog g (o_load 58 o) fun p=>
 dp Tryz.prog (o_nilCheck c) fun q=>
 dp Tryz.prog (o_fieldAddr 67 q 0) fun r=>
 dp Tryz.prog (o_fieldAddr 62 r 5) fun s=>
 dq Tryz.prog g (o_load 60 s) fun t=>
 df Tryz.prog g (o_alloc 58) true fun e lU=>
 df Tryz.prog lU (o_alloc 60) true fun h lV=>
 df Tryz.prog lV (o_call (fv 75) [p,t,bA,bB]) false fun a lW=>
 dp Tryz.prog (o_extract a 0) fun u=>
 dp Tryz.prog (o_extract a 1) fun v=>
 dp Tryz.prog (o_extract a 2) fun x=>
 dp Tryz.prog (o_extract a 3) fun aD=>
 df Tryz.prog lW (o_store 58 e u) false fun _ lX=>
 df Tryz.prog lX (o_store 60 h v) false fun _ lY=>
 dend lY fun lZ=>
 bC e h x lZ)∧(
 dp Tryz.prog (o_nilCheck c) fun l=>
 dp Tryz.prog (o_fieldAddr 67 l 0) fun n=>
 dp Tryz.prog (o_fieldAddr 62 n 3) fun o=>
 dq Tryz.prog g (o_load 58 o) fun p=>
 dp Tryz.prog (o_nilCheck c) fun q=>
 dp Tryz.prog (o_fieldAddr 67 q 0) fun r=>
 dp Tryz.prog (o_fieldAddr 62 r 5) fun s=>
 dq Tryz.prog g (o_load 60 s) fun t=>
 df Tryz.prog g (o_alloc 60) true fun h l0=>
 df Tryz.prog l0 (o_call (fv 75) [p,t,bA,bB]) false fun a l1=>
 dp Tryz.prog (o_extract a 0) fun u=>
 dp Tryz.prog (o_extract a 1) fun v=>
 dp Tryz.prog (o_extract a 2) fun x=>
 dp Tryz.prog (o_extract a 3) fun aD=>
 df Tryz.prog l1 (o_alloc 58) true fun e l2=>
 df Tryz.prog l2 (o_store 58 e u) false fun _ l3=>
 df Tryz.prog l3 (o_store 60 h v) false fun _ l4=>
 dend l4 fun l5=>
 bC e h x l5)∧(
 dp Tryz.prog (o_nilCheck c) fun l=>
 dp Tryz.prog (o_fieldAddr 67 l 0) fun n=>
 dp Tryz.prog (o_fieldAddr 62 n 3) fun o=>
 dq Tryz.prog g (o_load 58 o) fun p=>
 dp Tryz.prog (o_nilCheck c) fun q=>
 dp Tryz.prog (o_fieldAddr 67 q 0) fun r=>
 dp Tryz.prog (o_fieldAddr 62 r 5) fun s=>
 dq Tryz.prog g (o_load 60 s) fun t=>
 df Tryz.prog g (o_alloc 60) true fun h l6=>
 df Tryz.prog l6 (o_alloc 58) true fun e l7=>
 df Tryz.prog l7 (o_call (fv 75) [p,t,bA,bB]) false fun a l8=>
 dp Tryz.prog (o_extract a 0) fun u=>
 dp Tryz.prog (o_extract a 1) fun v=>
 dp Tryz.prog (o_extract a 2) fun x=>
 dp Tryz.prog (o_extract a 3) fun aD=>
 df Tryz.prog l8 (o_store 58 e u) false fun _ l9=>
 df Tryz.prog l9 (o_store 60 h v) false fun _ mA=>
 dend mA fun mB=>
 bC e h x mB))) fun e h b6 nK mC=>
 m R (o_nilCheck c) mC fun c5 mD=>
 m R (o_fieldAddr 67 c5 0) mD fun c6 mE=>
 m R (o_fieldAddr 62 c6 0) mE fun c7 mF=>
 m R (o_slice 23 c7 none none none) mF fun c8 mG=>
 m R (o_conv 89 9 c8) mG fun aE cA=>
 dq Tryz.prog cA (o_load 58 e) fun c9=>
 dp Tryz.prog (o_nilCheck c) fun dA=>
 dp Tryz.prog (o_fieldAddr 67 dA 1) fun dB=>
 dq Tryz.prog cA (o_load 3 dB) fun dC=>
 df Tryz.prog cA (o_call (fv 76) [c9,dC]) false fun aA mH=>
 dend mH fun mI=>
 m R (o_load 58 e) mI fun dD mJ=>
 m R (o_load 23 b4) mJ fun dE mK=>
 m R (o_call (fv 77) [C,dD,aA,dE,aE,b6]) mK fun cB mL=>
 m R (o_extract cB 0) mL fun dF mM=>
 m R (o_extract cB 1) mM fun nE mN=>
 m R (o_alloc 139) mN fun F mO=>
 m R (o_store 139 F dF) mO fun _ mP=>
 m R (o_fieldAddr 139 F 0) mP fun dG mQ=>
 m R (o_fieldAddr 58 dG 0) mQ fun dH mR=>
 m R (o_load 55 dH) mR fun dI mS=>
 m R (o_indexAddr 55 dI aA) mS fun dJ mT=>
 m R (o_load 118 dJ) mT fun dK mU=>
 m R (o_alloc 118) mU fun bG mV=>
 m R (o_store 118 bG dK) mV fun _ B=>
 mj1 (fun cW=>
 ((
 dp Tryz.prog (o_nilCheck c) fun bH=>
 dp Tryz.prog (o_fieldAddr 67 bH 0) fun bI=>
 dp Tryz.prog (o_fieldAddr 62 bI 0) fun bJ=>
 dq Tryz.prog B (o_load 23 bJ) fun bK=>
 dp Tryz.prog (o_nilCheck c) fun bL=>
 dp Tryz.prog (o_fieldAddr 67 bL 0) fun bM=>
 dp Tryz.prog (o_fieldAddr 62 bM 2) fun bN=>
 dq Tryz.prog B (o_load 3 bN) fun bO=>
 dp Tryz.prog (o_bin .add 3 true bO (.int .i64 1)) fun bP=>
 dp Tryz.prog (o_nilCheck c) fun bQ=>
 dp Tryz.prog (o_fieldAddr 67 bQ 1) fun bR=>
 dq Tryz.prog B (o_load 3 bR) fun bS=>
 dp Tryz.prog (o_fieldAddr 118 bG 1) fun bT=>
 dq Tryz.prog B (o_load 23 bT) fun bU=>
 dp Tryz.prog (o_fieldAddr 118 bG 3) fun bV=>
 dq Tryz.prog B (o_load 23 bV) fun bW=>
 dp Tryz.prog (o_fieldAddr 139 F 1) fun bX=>
 dq Tryz.prog B (o_load 25 bX) fun bY=>
 df Tryz.prog B (o_call (fv 78) [bB]) true fun bZ mW=>
 dp Tryz.prog (o_build 28 [(0,bK),(1,bP),(2,bS),(3,bZ),(4,bU),(5,bW),(6,bY)]) fun b0=>
 df Tryz.prog mW (o_alloc 28) true fun i mX=>
 df Tryz.prog mX (o_store 28 i b0) false fun _ mY=>
 dend mY fun mZ=>
 cW i mZ)∧(
 dp Tryz.prog (o_nilCheck c) fun bH=>
 dp Tryz.prog (o_fieldAddr 67 bH 0) fun bI=>
 dp Tryz.prog (o_fieldAddr 62 bI 0) fun bJ=>
 dq Tryz.prog B (o_load 23 bJ) fun bK=>
 dp Tryz.prog (o_nilCheck c) fun bL=>
 dp Tryz.prog (o_fieldAddr 67 bL 0) fun bM=>
 dp Tryz.prog (o_fieldAddr 62 bM 2) fun bN=>
 dq Tryz.prog B (o_load 3 bN) fun bO=>
 dp Tryz.prog (o_bin .add 3 true bO (.int .i64 1)) fun bP=>
 dp Tryz.prog (o_nilCheck c) fun bQ=>
 dp Tryz.prog (o_fieldAddr 67 bQ 1) fun bR=>
 dq Tryz.prog B (o_load 3 bR) fun bS=>
 dp Tryz.prog (o_fieldAddr 118 bG 1) fun bT=>
 dq Tryz.prog B (o_load 23 bT) fun bU=>
 dp Tryz.prog (o_fieldAddr 118 bG 3) fun bV=>
 dq Tryz.prog B (o_load 23 bV) fun bW=>
 dp Tryz.prog (o_fieldAddr 139 F 1) fun bX=>
 dq Tryz.prog B (o_load 25 bX) fun bY=>
 df Tryz.prog B (o_alloc 28) true fun i m0=>
 df Tryz.prog m0 (o_call (fv 78) [bB]) true fun bZ m1=>
 dp Tryz.prog (o_build 28 [(0,bK),(1,bP),(2,bS),(3,bZ),(4,bU),(5,bW),(6,bY)]) fun b0=>
 df Tryz.prog m1 (o_store 28 i b0) false fun _ m2=>
 dend m2 fun m3=>
 cW i m3))) fun i nL H=>
 mj2 (fun b7=>
 ((
 dp Tryz.prog (o_nilCheck c) fun J=>
 dp Tryz.prog (o_fieldAddr 67 J 3) fun K=>
 dq Tryz.prog H (o_load 64 K) fun L=>
 dq Tryz.prog H (o_load 28 i) fun M=>
 df Tryz.prog H (o_call (fv 13) [M]) true fun N dL=>
 df Tryz.prog dL (o_call (fv 80) [N]) true fun O dM=>
 df Tryz.prog dM (o_call (fv 79) [L,C,O]) false fun y dN=>
 dp Tryz.prog (o_extract y 0) fun Q=>
 dp Tryz.prog (o_extract y 1) fun S=>
 df Tryz.prog dN (o_alloc 23) true fun j dO=>
 df Tryz.prog dO (o_store 23 j Q) false fun _ dP=>
 dend dP fun dQ=>
 b7 j S dQ)∧(
 dp Tryz.prog (o_nilCheck c) fun J=>
 dp Tryz.prog (o_fieldAddr 67 J 3) fun K=>
 dq Tryz.prog H (o_load 64 K) fun L=>
 dq Tryz.prog H (o_load 28 i) fun M=>
 df Tryz.prog H (o_call (fv 13) [M]) true fun N dR=>
 df Tryz.prog dR (o_call (fv 80) [N]) true fun O dS=>
 df Tryz.prog dS (o_alloc 23) true fun j dT=>
 df Tryz.prog dT (o_call (fv 79) [L,C,O]) false fun y dU=>
 dp Tryz.prog (o_extract y 0) fun Q=>
 dp Tryz.prog (o_extract y 1) fun S=>
 df Tryz.prog dU (o_store 23 j Q) false fun _ dV=>
 dend dV fun dW=>
 b7 j S dW)∧(
 dp Tryz.prog (o_nilCheck c) fun J=>
 dp Tryz.prog (o_fieldAddr 67 J 3) fun K=>
 dq Tryz.prog H (o_load 64 K) fun L=>
 dq Tryz.prog H (o_load 28 i) fun M=>
 df Tryz.prog H (o_call (fv 13) [M]) true fun N dX=>
 df Tryz.prog dX (o_alloc 23) true fun j dY=>
 df Tryz.prog dY (o_call (fv 80) [N]) true fun O dZ=>
 df Tryz.prog dZ (o_call (fv 79) [L,C,O]) false fun y d0=>
 dp Tryz.prog (o_extract y 0) fun Q=>
 dp Tryz.prog (o_extract y 1) fun S=>
 df Tryz.prog d0 (o_store 23 j Q) false fun _ d1=>
 dend d1 fun d2=>
 b7 j S d2)∧(
 dp Tryz.prog (o_nilCheck c) fun J=>
 dp Tryz.prog (o_fieldAddr 67 J 3) fun K=>
 dq Tryz.prog H (o_load 64 K) fun L=>
 dq Tryz.prog H (o_load 28 i) fun M=>
 df Tryz.prog H (o_alloc 23) true fun j d3=>
 df Tryz.prog d3 (o_call (fv 13) [M]) true fun N d4=>
 df Tryz.prog d4 (o_call (fv 80) [N]) true fun O d5=>
 df Tryz.prog d5 (o_call (fv 79) [L,C,O]) false fun y d6=>
 dp Tryz.prog (o_extract y 0) fun Q=>
 dp Tryz.prog (o_extract y 1) fun S=>
 df Tryz.prog d6 (o_store 23 j Q) false fun _ d7=>
 dend d7 fun d8=>
 b7 j S d8))) fun j cX nM d9=>
 m R (o_bin .neq 34 true cX (.int .i64 0)) d9 fun eA cC=>
 mif eA (
 m R (o_load 28 aB) cC fun eB eC=>
 m R (o_store 28 A eB) eC fun _ cD=>
 rcell Tryz.prog 28 A cD fun E=>
 R (.returned (.tuple #[E,(.pointer none),cX])) cD) (
 m R (o_fieldAddr 139 F 0) cC fun eD eE=>
 m R (o_load 58 eD) eE fun eF eG=>
 m R (o_load 60 h) eG fun eH eI=>
 m R (o_load 28 i) eI fun eJ eK=>
 m R (o_call (fv 81) [c,eF,eH,eJ]) eK fun eL eM=>
 m R (o_alloc 62) eM fun I eN=>
 m R (o_store 62 I eL) eN fun _ d=>
 mj1 (fun b8=>
 ((
 dq Tryz.prog d (o_load 23 j) fun T=>
 dp Tryz.prog (o_fieldAddr 139 F 4) fun U=>
 dq Tryz.prog d (o_load 23 U) fun V=>
 dq Tryz.prog d (o_load 62 I) fun W=>
 df Tryz.prog d (o_call (fv 82) [C,T,V]) true fun X eO=>
 df Tryz.prog eO (o_call (fv 83) [W]) false fun Y eP=>
 df Tryz.prog eP (o_call (fv 66) [C,X,Y]) false fun Z eQ=>
 df Tryz.prog eQ (o_alloc 123) true fun f eR=>
 df Tryz.prog eR (o_store 123 f Z) false fun _ eS=>
 dend eS fun eT=>
 b8 f eT)∧(
 dq Tryz.prog d (o_load 23 j) fun T=>
 dp Tryz.prog (o_fieldAddr 139 F 4) fun U=>
 dq Tryz.prog d (o_load 23 U) fun V=>
 dq Tryz.prog d (o_load 62 I) fun W=>
 df Tryz.prog d (o_call (fv 82) [C,T,V]) true fun X eU=>
 df Tryz.prog eU (o_call (fv 83) [W]) false fun Y eV=>
 df Tryz.prog eV (o_alloc 123) true fun f eW=>
 df Tryz.prog eW (o_call (fv 66) [C,X,Y]) false fun Z eX=>
 df Tryz.prog eX (o_store 123 f Z) false fun _ eY=>
 dend eY fun eZ=>
 b8 f eZ)∧(
 dq Tryz.prog d (o_load 23 j) fun T=>
 dp Tryz.prog (o_fieldAddr 139 F 4) fun U=>
 dq Tryz.prog d (o_load 23 U) fun V=>
 dq Tryz.prog d (o_load 62 I) fun W=>
 df Tryz.prog d (o_call (fv 82) [C,T,V]) true fun X e0=>
 df Tryz.prog e0 (o_alloc 123) true fun f e1=>
 df Tryz.prog e1 (o_call (fv 83) [W]) false fun Y e2=>
 df Tryz.prog e2 (o_call (fv 66) [C,X,Y]) false fun Z e3=>
 df Tryz.prog e3 (o_store 123 f Z) false fun _ e4=>
 dend e4 fun e5=>
 b8 f e5)∧(
 dq Tryz.prog d (o_load 23 j) fun T=>
 dp Tryz.prog (o_fieldAddr 139 F 4) fun U=>
 dq Tryz.prog d (o_load 23 U) fun V=>
 dq Tryz.prog d (o_load 62 I) fun W=>
 df Tryz.prog d (o_alloc 123) true fun f e6=>
 df Tryz.prog e6 (o_call (fv 82) [C,T,V]) true fun X e7=>
 df Tryz.prog e7 (o_call (fv 83) [W]) false fun Y e8=>
 df Tryz.prog e8 (o_call (fv 66) [C,X,Y]) false fun Z e9=>
 df Tryz.prog e9 (o_store 123 f Z) false fun _ fA=>
 dend fA fun fB=>
 b8 f fB))) fun f nN fC=>
 m R (o_call (fv 36) []) fC fun bD fD=>
 m R (o_fieldAddr 62 I 4) fD fun fE fF=>
 m R (o_load 23 fE) fF fun fG fH=>
 m R (o_call (fv 84) [bD,fG]) fH fun nF fI=>
 m R (o_fieldAddr 62 I 5) fI fun fJ fK=>
 m R (o_load 60 fJ) fK fun fL fM=>
 ml1 (.int .i64 0) fM fun b1 nO fN cE=>
 m R (o_bin .lss 3 true b1 (.int .i64 64)) fN fun fO cF=>
 mif fO (
 m R (o_index 60 fL b1) cF fun fP fQ=>
 m R (o_call (fv 85) [bD,fP]) fQ fun nG fR=>
 m R (o_bin .add 3 true b1 (.int .i64 1)) fR fun fS fT=>
 cE fS fT) (
 m R (o_fieldAddr 62 I 3) cF fun fU fV=>
 m R (o_load 58 fU) fV fun fW fX=>
 m R (o_call (fv 87) [fW]) fX fun fY fZ=>
 m R (o_call (fv 86) [bD,fY]) fZ fun nH f0=>
 m R (o_call (fv 38) [bD]) f0 fun cG f1=>
 m R (o_extract cG 0) f1 fun f2 f3=>
 m R (o_extract cG 1) f3 fun nI f4=>
 m R (o_fieldAddr 123 f 1) f4 fun f5 f6=>
 m R (o_load 23 f5) f6 fun f7 f8=>
 m R (o_call (fv 88) [C,f7,aE,f2,(.slice none 0 0)]) f8 fun f9 gA=>
 m R (o_fieldAddr 28 i 7) gA fun gB gC=>
 m R (o_store 9 gB f9) gC fun _ gD=>
 m R (o_fieldAddr 58 e 0) gD fun gE gF=>
 m R (o_load 55 gE) gF fun gG gH=>
 m R (o_builtin .len #[55] 3 [false] [gG]) gH fun bE gI=>
 m R (o_call (fv 89) [bE,aA]) gI fun b2 gJ=>
 m R (o_call (fv 90) [bB]) gJ fun cH gK=>
 m R (o_builtin .len #[133] 3 [false] [cH]) gK fun gL gM=>
 ml1 (.int .i64 0) gM fun G nP gN cI=>
 m R (o_bin .lss 3 false G gL) gN fun gO cJ=>
 mif gO (
 m R (o_indexAddr 133 cH G) cJ fun gP gQ=>
 m R (o_load 3 gP) gQ fun aF D=>
 mj1 (fun cK=>
 ((
 dp Tryz.prog (o_fieldAddr 139 F 2) fun aG=>
 dq Tryz.prog D (o_load 137 aG) fun aH=>
 dp Tryz.prog (o_indexAddr 133 b6 G) fun aI=>
 dq Tryz.prog D (o_load 3 aI) fun aJ=>
 df Tryz.prog D (o_call (fv 92) [bE,aA,aJ]) true fun aK gR=>
 df Tryz.prog gR (o_call (fv 91) [b2,aK]) true fun aL cL=>
 dp Tryz.prog (o_indexAddr 137 aH aL) fun aM=>
 dq Tryz.prog cL (o_load 23 aM) fun aN=>
 df Tryz.prog cL (o_alloc 23) true fun z gS=>
 df Tryz.prog gS (o_store 23 z aN) false fun _ gT=>
 dend gT fun gU=>
 cK z gU)∧(
 dp Tryz.prog (o_fieldAddr 139 F 2) fun aG=>
 dq Tryz.prog D (o_load 137 aG) fun aH=>
 dp Tryz.prog (o_indexAddr 133 b6 G) fun aI=>
 dq Tryz.prog D (o_load 3 aI) fun aJ=>
 df Tryz.prog D (o_call (fv 92) [bE,aA,aJ]) true fun aK cM=>
 df Tryz.prog cM (o_alloc 23) true fun z gV=>
 df Tryz.prog gV (o_call (fv 91) [b2,aK]) true fun aL gW=>
 dp Tryz.prog (o_indexAddr 137 aH aL) fun aM=>
 dq Tryz.prog cM (o_load 23 aM) fun aN=>
 df Tryz.prog gW (o_store 23 z aN) false fun _ gX=>
 dend gX fun gY=>
 cK z gY)∧(
 dp Tryz.prog (o_fieldAddr 139 F 2) fun aG=>
 dq Tryz.prog D (o_load 137 aG) fun aH=>
 dp Tryz.prog (o_indexAddr 133 b6 G) fun aI=>
 dq Tryz.prog D (o_load 3 aI) fun aJ=>
 df Tryz.prog D (o_alloc 23) true fun z gZ=>
 df Tryz.prog gZ (o_call (fv 92) [bE,aA,aJ]) true fun aK g0=>
 df Tryz.prog g0 (o_call (fv 91) [b2,aK]) true fun aL g1=>
 dp Tryz.prog (o_indexAddr 137 aH aL) fun aM=>
 dq Tryz.prog D (o_load 23 aM) fun aN=>
 df Tryz.prog g1 (o_store 23 z aN) false fun _ g2=>
 dend g2 fun g3=>
 cK z g3))) fun z nQ g4=>
 m R (o_bin .sub 3 true aF (.int .i64 1)) g4 fun g5 g6=>
 m R (o_nilCheck c) g6 fun g7 g8=>
 m R (o_fieldAddr 67 g7 0) g8 fun g9 hA=>
 m R (o_fieldAddr 62 g9 5) hA fun hB hC=>
 m R (o_indexAddr 60 hB g5) hC fun hD hE=>
 m R (o_load 3 hD) hE fun bF b=>
 mj1 (fun cN=>
 ((
 dp Tryz.prog (o_bin .sub 3 true aF (.int .i64 1)) fun aO=>
 dp Tryz.prog (o_indexAddr 49 bA aO) fun aP=>
 dp Tryz.prog (o_fieldAddr 113 aP 1) fun aQ=>
 dq Tryz.prog b (o_load 111 aQ) fun aR=>
 dp Tryz.prog (o_indexAddr 111 aR bF) fun aS=>
 dp Tryz.prog (o_fieldAddr 116 aS 0) fun aT=>
 dq Tryz.prog b (o_load 23 aT) fun aU=>
 dq Tryz.prog b (o_load 23 b4) fun aV=>
 dp Tryz.prog (o_fieldAddr 123 f 0) fun aW=>
 dp Tryz.prog (o_slice 23 aW none none none) fun aX=>
 dq Tryz.prog b (o_conv 89 9 aX) fun aY=>
 dp Tryz.prog (o_slice 23 z none none none) fun aZ=>
 dq Tryz.prog b (o_conv 89 9 aZ) fun a0=>
 dp Tryz.prog (o_bin .add 9 false aY a0) fun a1=>
 dp Tryz.prog (o_fieldAddr 123 f 0) fun a2=>
 dq Tryz.prog b (o_load 23 a2) fun a3=>
 dq Tryz.prog b (o_load 23 z) fun a4=>
 df Tryz.prog b (o_call (fv 94) [G]) true fun a5 hF=>
 df Tryz.prog hF (o_call (fv 67) [C,aV,(.string (ByteArray.mk #[119,101,108,99,111,109,101])),a5]) true fun a6 hG=>
 df Tryz.prog hG (o_buildSlice 137 2 [(0,a3),(1,a4)]) true fun a7 hH=>
 df Tryz.prog hH (o_call (fv 93) [C,aU,a6,aE,a1,a7]) false fun a8 hI=>
 dend hI fun hJ=>
 cN a8 hJ)∧(
 dp Tryz.prog (o_bin .sub 3 true aF (.int .i64 1)) fun aO=>
 dp Tryz.prog (o_indexAddr 49 bA aO) fun aP=>
 dp Tryz.prog (o_fieldAddr 113 aP 1) fun aQ=>
 dq Tryz.prog b (o_load 111 aQ) fun aR=>
 dp Tryz.prog (o_indexAddr 111 aR bF) fun aS=>
 dp Tryz.prog (o_fieldAddr 116 aS 0) fun aT=>
 dq Tryz.prog b (o_load 23 aT) fun aU=>
 dq Tryz.prog b (o_load 23 b4) fun aV=>
 dp Tryz.prog (o_fieldAddr 123 f 0) fun aW=>
 dp Tryz.prog (o_slice 23 aW none none none) fun aX=>
 dq Tryz.prog b (o_conv 89 9 aX) fun aY=>
 dp Tryz.prog (o_slice 23 z none none none) fun aZ=>
 dq Tryz.prog b (o_conv 89 9 aZ) fun a0=>
 dp Tryz.prog (o_bin .add 9 false aY a0) fun a1=>
 dp Tryz.prog (o_fieldAddr 123 f 0) fun a2=>
 dq Tryz.prog b (o_load 23 a2) fun a3=>
 dq Tryz.prog b (o_load 23 z) fun a4=>
 df Tryz.prog b (o_call (fv 94) [G]) true fun a5 hK=>
 df Tryz.prog hK (o_buildSlice 137 2 [(0,a3),(1,a4)]) true fun a7 hL=>
 df Tryz.prog hL (o_call (fv 67) [C,aV,(.string (ByteArray.mk #[119,101,108,99,111,109,101])),a5]) true fun a6 hM=>
 df Tryz.prog hM (o_call (fv 93) [C,aU,a6,aE,a1,a7]) false fun a8 hN=>
 dend hN fun hO=>
 cN a8 hO)∧(
 dp Tryz.prog (o_bin .sub 3 true aF (.int .i64 1)) fun aO=>
 dp Tryz.prog (o_indexAddr 49 bA aO) fun aP=>
 dp Tryz.prog (o_fieldAddr 113 aP 1) fun aQ=>
 dq Tryz.prog b (o_load 111 aQ) fun aR=>
 dp Tryz.prog (o_indexAddr 111 aR bF) fun aS=>
 dp Tryz.prog (o_fieldAddr 116 aS 0) fun aT=>
 dq Tryz.prog b (o_load 23 aT) fun aU=>
 dq Tryz.prog b (o_load 23 b4) fun aV=>
 dp Tryz.prog (o_fieldAddr 123 f 0) fun aW=>
 dp Tryz.prog (o_slice 23 aW none none none) fun aX=>
 dq Tryz.prog b (o_conv 89 9 aX) fun aY=>
 dp Tryz.prog (o_slice 23 z none none none) fun aZ=>
 dq Tryz.prog b (o_conv 89 9 aZ) fun a0=>
 dp Tryz.prog (o_bin .add 9 false aY a0) fun a1=>
 dp Tryz.prog (o_fieldAddr 123 f 0) fun a2=>
 dq Tryz.prog b (o_load 23 a2) fun a3=>
 dq Tryz.prog b (o_load 23 z) fun a4=>
 df Tryz.prog b (o_buildSlice 137 2 [(0,a3),(1,a4)]) true fun a7 hP=>
 df Tryz.prog hP (o_call (fv 94) [G]) true fun a5 hQ=>
 df Tryz.prog hQ (o_call (fv 67) [C,aV,(.string (ByteArray.mk #[119,101,108,99,111,109,101])),a5]) true fun a6 hR=>
 df Tryz.prog hR (o_call (fv 93) [C,aU,a6,aE,a1,a7]) false fun a8 hS=>
 dend hS fun hT=>
 cN a8 hT))) fun m4 nR hU=>
 m R (o_fieldAddr 28 i 8) hU fun hV hW=>
 m R (o_load 26 hV) hW fun hX hY=>
 m R (o_build 45 [(0,aF),(1,bF),(2,m4)]) hY fun hZ h0=>
 m R (o_buildSlice 26 1 [(0,hZ)]) h0 fun h1 h2=>
 m R (o_builtin .append #[26,26] 26 [false,false] [hX,h1]) h2 fun h3 h4=>
 m R (o_fieldAddr 28 i 8) h4 fun h5 h6=>
 m R (o_store 26 h5 h3) h6 fun _ h7=>
 m R (o_bin .add 3 true G (.int .i64 1)) h7 fun h8 h9=>
 cI h8 h9) (
 m R (o_fieldAddr 123 f 4) cJ fun iA iB=>
 m R (o_load 23 iA) iB fun iC iD=>
 m R (o_fieldAddr 62 I 4) iD fun iE iF=>
 m R (o_load 23 iE) iF fun iG iH=>
 m R (o_call (fv 95) [iC,iG]) iH fun iI iJ=>
 m R (o_fieldAddr 28 i 9) iJ fun iK iL=>
 m R (o_store 23 iK iI) iL fun _ b3=>
 dq Tryz.prog b3 (o_load 23 jQ) fun iM=>
 dq Tryz.prog b3 (o_load 28 i) fun iN=>
 df Tryz.prog b3 (o_call (fv 43) [iN]) true fun iO iP=>
 df Tryz.prog iP (o_call (fv 96) [iM,iO]) false fun iQ iR=>
 dp Tryz.prog (o_fieldAddr 28 i 10) fun iS=>
 df Tryz.prog iR (o_store 23 iS iQ) false fun _ iT=>
 dend iT fun iU=>
 m R (o_load 28 i) iU fun iV iW=>
 m R (o_call (fv 11) [iV]) iW fun iX iY=>
 m R (o_fieldAddr 62 I 0) iY fun iZ i0=>
 m R (o_store 23 iZ iX) i0 fun _ a9=>
 dq Tryz.prog a9 (o_load 62 I) fun i1=>
 dp Tryz.prog (o_nilCheck c) fun i2=>
 dp Tryz.prog (o_fieldAddr 67 i2 1) fun i3=>
 dq Tryz.prog a9 (o_load 3 i3) fun i4=>
 dp Tryz.prog (o_fieldAddr 139 F 3) fun i5=>
 dq Tryz.prog a9 (o_load 63 i5) fun i6=>
 dq Tryz.prog a9 (o_load 123 f) fun i7=>
 df Tryz.prog a9 (o_call (fv 68) [C,i1,i4,i6,i7]) false fun cO i8=>
 dp Tryz.prog (o_extract cO 0) fun i9=>
 dp Tryz.prog (o_extract cO 1) fun nJ=>
 dend i8 fun jA=>
 m R (o_nilCheck c) jA fun jB jC=>
 m R (o_fieldAddr 67 jB 4) jC fun jD jE=>
 m R (o_load 3 jD) jE fun jF jG=>
 m R (o_bin .add 3 true jF (.int .i64 1)) jG fun jH jI=>
 m R (o_nilCheck c) jI fun jJ jK=>
 m R (o_fieldAddr 67 jJ 4) jK fun jL jM=>
 m R (o_store 3 jL jH) jM fun _ jN=>
 m R (o_load 28 i) jN fun jO jP=>
 m R (o_store 28 A jO) jP fun _ cP=>
 rcell Tryz.prog 28 A cP fun E=>
 R (.returned (.tuple #[E,i9,(.int .i64 0)])) cP))))))))
def A_commit_Build:Ann:=⟨[(27,[220],P_ 227+P_ 33-P_ 220),(37,[253],P_ 317+P_ 43-P_ 253-P_ 38)],[(14,[17,18,19],P_ 130+P_ 21-P_ 112-P_ 17),(19,[26],P_ 182+P_ 26-P_ 158),(20,[27,28],P_ 194+P_ 29-P_ 182-P_ 27),(24,[30],P_ 213+P_ 30-P_ 204),(40,[40],P_ 271+P_ 40-P_ 258),(42,[42],P_ 307+P_ 42-P_ 279)],[(8,[⟨0,.q none,2,0,P_ 66⟩,⟨1,.q none,P_ 66,1,P_ 67⟩,⟨2,.q none,P_ 67,3,P_ 68⟩,⟨3,.q none,P_ 68,7,P_ 69⟩,⟨4,.q none,P_ 69,15,P_ 70⟩,⟨5,.q (some 0),P_ 70,31,P_ 71⟩,⟨6,.q none,2,0,P_ 72⟩,⟨7,.f 0 true,P_ 72,64,P_ 73⟩,⟨8,.q none,P_ 73+P_ 71,255,P_ 74⟩,⟨9,.q none,P_ 74,511,P_ 75⟩,⟨10,.q (some 1),P_ 75,1023,P_ 76⟩,⟨11,.q (some 0),512,0,P_ 77⟩,⟨12,.f 1 true,P_ 77,2240,P_ 78⟩,⟨13,.q none,P_ 78+P_ 76,8191,P_ 79⟩,⟨14,.q none,P_ 79,16383,P_ 65⟩]),(10,[⟨0,.q none,2,0,P_ 81⟩,⟨1,.q none,P_ 81,1,P_ 82⟩,⟨2,.q none,P_ 82,3,P_ 83⟩,⟨3,.q none,P_ 83,7,P_ 84⟩,⟨4,.q (some 0),P_ 84,15,P_ 85⟩,⟨5,.q none,2,0,P_ 86⟩,⟨6,.q none,P_ 86,32,P_ 87⟩,⟨7,.q none,P_ 87,96,P_ 88⟩,⟨8,.q none,P_ 88,224,P_ 89⟩,⟨9,.q (some 0),P_ 89,480,P_ 90⟩,⟨10,.q none,4,0,P_ 91⟩,⟨11,.q none,2,0,P_ 92⟩,⟨12,.q none,P_ 92,2048,P_ 93⟩,⟨13,.q none,P_ 93,6144,P_ 94⟩,⟨14,.q none,P_ 94,14336,P_ 95⟩,⟨15,.q (some 0),P_ 95,30720,P_ 96⟩,⟨16,.q none,2,0,P_ 97⟩,⟨17,.q none,P_ 97,65536,P_ 98⟩,⟨18,.q none,P_ 98,196608,P_ 99⟩,⟨19,.q none,P_ 99,458752,P_ 100⟩,⟨20,.q (some 0),P_ 100,983040,P_ 101⟩,⟨21,.q none,2,0,P_ 102⟩,⟨22,.q none,P_ 102,2097152,P_ 103⟩,⟨23,.q none,P_ 103,6291456,P_ 104⟩,⟨24,.q (some 0),P_ 104,14680064,P_ 105⟩,⟨25,.q none,16,0,P_ 106⟩,⟨26,.f 0 false,124312739490624829493228746047488,67108863,P_ 107⟩,⟨27,.q none,P_ 107,134217727,65536⟩]),(15,[⟨0,.q (some 0),131072,0,P_ 136⟩,⟨1,.q none,2,0,P_ 137⟩,⟨2,.q none,P_ 137,2,P_ 138⟩,⟨3,.q none,P_ 138,6,P_ 139⟩,⟨4,.q (some 0),P_ 139,14,P_ 140⟩,⟨5,.f 0 false,P_ 140+P_ 136,31,P_ 141⟩,⟨6,.q none,P_ 141,63,4194304⟩]),(45,[⟨0,.q (some 0),512,0,P_ 323⟩,⟨1,.q (some 0),67108864,0,P_ 324⟩,⟨2,.f 0 true,P_ 324,2,P_ 325⟩,⟨3,.f 1 false,P_ 325+P_ 323,7,P_ 326⟩,⟨4,.q none,67108864,15,P_ 327⟩,⟨5,.f 2 false,P_ 328-P_ 326,31,0⟩]),(47,[⟨0,.q none,1,0,P_ 332⟩,⟨1,.q (some 0),P_ 29,0,P_ 333⟩,⟨2,.q none,2,0,P_ 334⟩,⟨3,.q none,P_ 334,4,P_ 335⟩,⟨4,.q none,P_ 335,12,P_ 336⟩,⟨5,.q (some 0),P_ 336,28,P_ 337⟩,⟨6,.q none,8388608,0,P_ 338⟩,⟨7,.q (some 0),P_ 338,64,P_ 339⟩,⟨8,.q (some 0),P_ 30,0,P_ 340⟩,⟨9,.f 0 false,P_ 341+P_ 337+P_ 334-P_ 339-P_ 332,511,P_ 341⟩,⟨10,.q none,P_ 341,1023,P_ 331⟩,⟨11,.q none,P_ 331,2047,P_ 342⟩,⟨12,.q none,P_ 331,2047,P_ 343⟩,⟨13,.q none,P_ 342,4095,P_ 43⟩,⟨14,.q none,P_ 343,16383,P_ 44⟩])],[(13,[⟨[0,1,2,3,4,5,6,7,8,9,10,11,12,13,14,15,16,17,18,19,20,21,22,23],[⟨0,.q none,2,0,P_ 113⟩,⟨1,.q none,P_ 113,1,P_ 114⟩,⟨2,.q none,P_ 114,3,P_ 115⟩,⟨3,.q none,P_ 115,7,P_ 116⟩,⟨4,.q (some 0),P_ 116,15,P_ 117⟩,⟨5,.q none,2,0,P_ 118⟩,⟨6,.q none,P_ 118,32,P_ 119⟩,⟨7,.q none,P_ 119,96,P_ 120⟩,⟨8,.q none,P_ 120,224,P_ 121⟩,⟨9,.q (some 0),P_ 121,480,P_ 122⟩,⟨10,.q none,4,0,P_ 123⟩,⟨11,.q none,16,0,P_ 124⟩,⟨12,.f 0 false,P_ 125+P_ 117-P_ 122,4095,P_ 125⟩,⟨13,.q none,P_ 125,8191,P_ 112⟩,⟨14,.q none,P_ 112,16383,P_ 126⟩,⟨15,.q none,P_ 112,16383,P_ 127⟩,⟨16,.q none,P_ 112,16383,P_ 128⟩,⟨17,.q none,P_ 112,16383,P_ 129⟩,⟨18,.f 1 true,0,0,131072⟩,⟨19,.f 2 true,0,0,262144⟩,⟨20,.f 3 false,P_ 126+P_ 17,819199,0⟩,⟨21,.f 4 false,P_ 127+P_ 18,1900543,0⟩,⟨22,.q none,P_ 128,4063231,524288⟩,⟨23,.q none,P_ 129,8388607,1048576⟩]⟩,⟨[0,1,2,3,4,5,6,7,8,9,10,11,12,13,14,15,16,17,19,18,20,21,22,23],[⟨0,.q none,2,0,P_ 113⟩,⟨1,.q none,P_ 113,1,P_ 114⟩,⟨2,.q none,P_ 114,3,P_ 115⟩,⟨3,.q none,P_ 115,7,P_ 116⟩,⟨4,.q (some 0),P_ 116,15,P_ 117⟩,⟨5,.q none,2,0,P_ 118⟩,⟨6,.q none,P_ 118,32,P_ 119⟩,⟨7,.q none,P_ 119,96,P_ 120⟩,⟨8,.q none,P_ 120,224,P_ 121⟩,⟨9,.q (some 0),P_ 121,480,P_ 122⟩,⟨10,.q none,4,0,P_ 123⟩,⟨11,.q none,16,0,P_ 124⟩,⟨12,.f 0 false,P_ 125+P_ 117-P_ 122,4095,P_ 125⟩,⟨13,.q none,P_ 125,8191,P_ 112⟩,⟨14,.q none,P_ 112,16383,P_ 126⟩,⟨15,.q none,P_ 112,16383,P_ 127⟩,⟨16,.q none,P_ 112,16383,P_ 128⟩,⟨17,.q none,P_ 112,16383,P_ 129⟩,⟨18,.f 2 true,0,0,131072⟩,⟨19,.f 1 true,0,0,262144⟩,⟨20,.f 3 false,P_ 126+P_ 17,819199,0⟩,⟨21,.f 4 false,P_ 127+P_ 18,1900543,0⟩,⟨22,.q none,P_ 128,4063231,524288⟩,⟨23,.q none,P_ 129,8388607,1048576⟩]⟩,⟨[0,1,2,3,4,5,6,7,8,9,10,11,18,12,13,14,15,16,17,19,20,21,22,23],[⟨0,.q none,2,0,P_ 113⟩,⟨1,.q none,P_ 113,1,P_ 114⟩,⟨2,.q none,P_ 114,3,P_ 115⟩,⟨3,.q none,P_ 115,7,P_ 116⟩,⟨4,.q (some 0),P_ 116,15,P_ 117⟩,⟨5,.q none,2,0,P_ 118⟩,⟨6,.q none,P_ 118,32,P_ 119⟩,⟨7,.q none,P_ 119,96,P_ 120⟩,⟨8,.q none,P_ 120,224,P_ 121⟩,⟨9,.q (some 0),P_ 121,480,P_ 122⟩,⟨10,.q none,4,0,P_ 123⟩,⟨11,.q none,16,0,P_ 124⟩,⟨12,.f 1 false,P_ 125+P_ 117-P_ 122,4095,P_ 125⟩,⟨13,.q none,P_ 125,8191,P_ 112⟩,⟨14,.q none,P_ 112,16383,P_ 126⟩,⟨15,.q none,P_ 112,16383,P_ 127⟩,⟨16,.q none,P_ 112,16383,P_ 128⟩,⟨17,.q none,P_ 112,16383,P_ 129⟩,⟨18,.f 0 true,0,0,131072⟩,⟨19,.f 2 true,0,0,262144⟩,⟨20,.f 3 false,P_ 126+P_ 17,819199,0⟩,⟨21,.f 4 false,P_ 127+P_ 18,1900543,0⟩,⟨22,.q none,P_ 128,4063231,524288⟩,⟨23,.q none,P_ 129,8388607,1048576⟩]⟩,⟨[0,1,2,3,4,5,6,7,8,9,10,11,18,19,12,13,14,15,16,17,20,21,22,23],[⟨0,.q none,2,0,P_ 113⟩,⟨1,.q none,P_ 113,1,P_ 114⟩,⟨2,.q none,P_ 114,3,P_ 115⟩,⟨3,.q none,P_ 115,7,P_ 116⟩,⟨4,.q (some 0),P_ 116,15,P_ 117⟩,⟨5,.q none,2,0,P_ 118⟩,⟨6,.q none,P_ 118,32,P_ 119⟩,⟨7,.q none,P_ 119,96,P_ 120⟩,⟨8,.q none,P_ 120,224,P_ 121⟩,⟨9,.q (some 0),P_ 121,480,P_ 122⟩,⟨10,.q none,4,0,P_ 123⟩,⟨11,.q none,16,0,P_ 124⟩,⟨12,.f 2 false,P_ 125+P_ 117-P_ 122,4095,P_ 125⟩,⟨13,.q none,P_ 125,8191,P_ 112⟩,⟨14,.q none,P_ 112,16383,P_ 126⟩,⟨15,.q none,P_ 112,16383,P_ 127⟩,⟨16,.q none,P_ 112,16383,P_ 128⟩,⟨17,.q none,P_ 112,16383,P_ 129⟩,⟨18,.f 0 true,0,0,131072⟩,⟨19,.f 1 true,0,0,262144⟩,⟨20,.f 3 false,P_ 126+P_ 17,819199,0⟩,⟨21,.f 4 false,P_ 127+P_ 18,1900543,0⟩,⟨22,.q none,P_ 128,4063231,524288⟩,⟨23,.q none,P_ 129,8388607,1048576⟩]⟩,⟨[0,1,2,3,4,5,6,7,8,9,10,11,19,12,13,14,15,16,17,18,20,21,22,23],[⟨0,.q none,2,0,P_ 113⟩,⟨1,.q none,P_ 113,1,P_ 114⟩,⟨2,.q none,P_ 114,3,P_ 115⟩,⟨3,.q none,P_ 115,7,P_ 116⟩,⟨4,.q (some 0),P_ 116,15,P_ 117⟩,⟨5,.q none,2,0,P_ 118⟩,⟨6,.q none,P_ 118,32,P_ 119⟩,⟨7,.q none,P_ 119,96,P_ 120⟩,⟨8,.q none,P_ 120,224,P_ 121⟩,⟨9,.q (some 0),P_ 121,480,P_ 122⟩,⟨10,.q none,4,0,P_ 123⟩,⟨11,.q none,16,0,P_ 124⟩,⟨12,.f 1 false,P_ 125+P_ 117-P_ 122,4095,P_ 125⟩,⟨13,.q none,P_ 125,8191,P_ 112⟩,⟨14,.q none,P_ 112,16383,P_ 126⟩,⟨15,.q none,P_ 112,16383,P_ 127⟩,⟨16,.q none,P_ 112,16383,P_ 128⟩,⟨17,.q none,P_ 112,16383,P_ 129⟩,⟨18,.f 2 true,0,0,131072⟩,⟨19,.f 0 true,0,0,262144⟩,⟨20,.f 3 false,P_ 126+P_ 17,819199,0⟩,⟨21,.f 4 false,P_ 127+P_ 18,1900543,0⟩,⟨22,.q none,P_ 128,4063231,524288⟩,⟨23,.q none,P_ 129,8388607,1048576⟩]⟩,⟨[0,1,2,3,4,5,6,7,8,9,10,11,19,18,12,13,14,15,16,17,20,21,22,23],[⟨0,.q none,2,0,P_ 113⟩,⟨1,.q none,P_ 113,1,P_ 114⟩,⟨2,.q none,P_ 114,3,P_ 115⟩,⟨3,.q none,P_ 115,7,P_ 116⟩,⟨4,.q (some 0),P_ 116,15,P_ 117⟩,⟨5,.q none,2,0,P_ 118⟩,⟨6,.q none,P_ 118,32,P_ 119⟩,⟨7,.q none,P_ 119,96,P_ 120⟩,⟨8,.q none,P_ 120,224,P_ 121⟩,⟨9,.q (some 0),P_ 121,480,P_ 122⟩,⟨10,.q none,4,0,P_ 123⟩,⟨11,.q none,16,0,P_ 124⟩,⟨12,.f 2 false,P_ 125+P_ 117-P_ 122,4095,P_ 125⟩,⟨13,.q none,P_ 125,8191,P_ 112⟩,⟨14,.q none,P_ 112,16383,P_ 126⟩,⟨15,.q none,P_ 112,16383,P_ 127⟩,⟨16,.q none,P_ 112,16383,P_ 128⟩,⟨17,.q none,P_ 112,16383,P_ 129⟩,⟨18,.f 1 true,0,0,131072⟩,⟨19,.f 0 true,0,0,262144⟩,⟨20,.f 3 false,P_ 126+P_ 17,819199,0⟩,⟨21,.f 4 false,P_ 127+P_ 18,1900543,0⟩,⟨22,.q none,P_ 128,4063231,524288⟩,⟨23,.q none,P_ 129,8388607,1048576⟩]⟩]),(18,[⟨[0,1,2,3,4,5,6,7,8,9,10,11,12,13,14,15,17,18,19,20,21,22,16,23,24,25],[⟨0,.q none,2,0,P_ 158⟩,⟨1,.q none,P_ 158,1,P_ 159⟩,⟨2,.q none,P_ 159,3,P_ 160⟩,⟨3,.q none,P_ 160,7,P_ 161⟩,⟨4,.q (some 0),P_ 161,15,P_ 162⟩,⟨5,.q none,2,0,P_ 163⟩,⟨6,.q none,P_ 163,32,P_ 164⟩,⟨7,.q none,P_ 164,96,P_ 165⟩,⟨8,.q none,P_ 165,224,P_ 166⟩,⟨9,.q (some 0),P_ 166,480,P_ 167⟩,⟨10,.q none,P_ 167,992,P_ 168⟩,⟨11,.q none,2,0,P_ 169⟩,⟨12,.q none,P_ 169,2048,P_ 170⟩,⟨13,.q none,P_ 170,6144,P_ 171⟩,⟨14,.q (some 0),P_ 171,14336,P_ 172⟩,⟨15,.q none,16,0,P_ 173⟩,⟨16,.f 0 true,P_ 173,32768,P_ 174⟩,⟨17,.q none,33554432,0,P_ 175⟩,⟨18,.q (some 0),P_ 175,131072,P_ 176⟩,⟨19,.q none,33554432,0,P_ 177⟩,⟨20,.q (some 0),P_ 177,524288,P_ 178⟩,⟨21,.q none,8388608,0,P_ 179⟩,⟨22,.q (some 0),P_ 179,2097152,P_ 180⟩,⟨23,.q none,P_ 180+P_ 178+P_ 176+P_ 174+P_ 172+P_ 168+P_ 162,8388607,P_ 181⟩,⟨24,.f 1 true,0,0,67108864⟩,⟨25,.f 2 false,P_ 181+P_ 26,33554431,0⟩]⟩,⟨[0,1,2,3,4,5,6,7,8,9,10,11,12,13,14,15,17,18,19,20,21,22,24,16,23,25],[⟨0,.q none,2,0,P_ 158⟩,⟨1,.q none,P_ 158,1,P_ 159⟩,⟨2,.q none,P_ 159,3,P_ 160⟩,⟨3,.q none,P_ 160,7,P_ 161⟩,⟨4,.q (some 0),P_ 161,15,P_ 162⟩,⟨5,.q none,2,0,P_ 163⟩,⟨6,.q none,P_ 163,32,P_ 164⟩,⟨7,.q none,P_ 164,96,P_ 165⟩,⟨8,.q none,P_ 165,224,P_ 166⟩,⟨9,.q (some 0),P_ 166,480,P_ 167⟩,⟨10,.q none,P_ 167,992,P_ 168⟩,⟨11,.q none,2,0,P_ 169⟩,⟨12,.q none,P_ 169,2048,P_ 170⟩,⟨13,.q none,P_ 170,6144,P_ 171⟩,⟨14,.q (some 0),P_ 171,14336,P_ 172⟩,⟨15,.q none,16,0,P_ 173⟩,⟨16,.f 1 true,P_ 173,32768,P_ 174⟩,⟨17,.q none,33554432,0,P_ 175⟩,⟨18,.q (some 0),P_ 175,131072,P_ 176⟩,⟨19,.q none,33554432,0,P_ 177⟩,⟨20,.q (some 0),P_ 177,524288,P_ 178⟩,⟨21,.q none,8388608,0,P_ 179⟩,⟨22,.q (some 0),P_ 179,2097152,P_ 180⟩,⟨23,.q none,P_ 180+P_ 178+P_ 176+P_ 174+P_ 172+P_ 168+P_ 162,8388607,P_ 181⟩,⟨24,.f 0 true,0,0,67108864⟩,⟨25,.f 2 false,P_ 181+P_ 26,33554431,0⟩]⟩]),(19,[⟨[0,1,2,3,4,5,6,7,8,9,10,11,12,13,14],[⟨0,.q none,2,0,P_ 183⟩,⟨1,.q none,P_ 183,1,P_ 184⟩,⟨2,.q none,P_ 184,3,P_ 185⟩,⟨3,.q (some 0),P_ 185,7,P_ 186⟩,⟨4,.q none,1,0,P_ 187⟩,⟨5,.q (some 0),67108864,0,P_ 188⟩,⟨6,.f 0 true,P_ 188,32,P_ 189⟩,⟨7,.f 1 true,P_ 189,96,P_ 190⟩,⟨8,.f 2 false,P_ 190+P_ 188-P_ 186,255,P_ 191⟩,⟨9,.q none,P_ 191,511,P_ 182⟩,⟨10,.q none,P_ 182,1023,P_ 192⟩,⟨11,.q none,P_ 182,1023,P_ 193⟩,⟨12,.f 3 true,0,0,P_ 27⟩,⟨13,.f 4 false,P_ 192+P_ 27,6143,0⟩,⟨14,.q none,P_ 193,16383,P_ 28⟩]⟩,⟨[0,1,2,3,4,5,6,7,12,8,9,10,11,13,14],[⟨0,.q none,2,0,P_ 183⟩,⟨1,.q none,P_ 183,1,P_ 184⟩,⟨2,.q none,P_ 184,3,P_ 185⟩,⟨3,.q (some 0),P_ 185,7,P_ 186⟩,⟨4,.q none,1,0,P_ 187⟩,⟨5,.q (some 0),67108864,0,P_ 188⟩,⟨6,.f 0 true,P_ 188,32,P_ 189⟩,⟨7,.f 1 true,P_ 189,96,P_ 190⟩,⟨8,.f 3 false,P_ 190+P_ 188-P_ 186,255,P_ 191⟩,⟨9,.q none,P_ 191,511,P_ 182⟩,⟨10,.q none,P_ 182,1023,P_ 192⟩,⟨11,.q none,P_ 182,1023,P_ 193⟩,⟨12,.f 2 true,0,0,P_ 27⟩,⟨13,.f 4 false,P_ 192+P_ 27,6143,0⟩,⟨14,.q none,P_ 193,16383,P_ 28⟩]⟩,⟨[0,1,2,3,4,5,6,12,7,8,9,10,11,13,14],[⟨0,.q none,2,0,P_ 183⟩,⟨1,.q none,P_ 183,1,P_ 184⟩,⟨2,.q none,P_ 184,3,P_ 185⟩,⟨3,.q (some 0),P_ 185,7,P_ 186⟩,⟨4,.q none,1,0,P_ 187⟩,⟨5,.q (some 0),67108864,0,P_ 188⟩,⟨6,.f 0 true,P_ 188,32,P_ 189⟩,⟨7,.f 2 true,P_ 189,96,P_ 190⟩,⟨8,.f 3 false,P_ 190+P_ 188-P_ 186,255,P_ 191⟩,⟨9,.q none,P_ 191,511,P_ 182⟩,⟨10,.q none,P_ 182,1023,P_ 192⟩,⟨11,.q none,P_ 182,1023,P_ 193⟩,⟨12,.f 1 true,0,0,P_ 27⟩,⟨13,.f 4 false,P_ 192+P_ 27,6143,0⟩,⟨14,.q none,P_ 193,16383,P_ 28⟩]⟩,⟨[0,1,2,3,4,5,12,6,7,8,9,10,11,13,14],[⟨0,.q none,2,0,P_ 183⟩,⟨1,.q none,P_ 183,1,P_ 184⟩,⟨2,.q none,P_ 184,3,P_ 185⟩,⟨3,.q (some 0),P_ 185,7,P_ 186⟩,⟨4,.q none,1,0,P_ 187⟩,⟨5,.q (some 0),67108864,0,P_ 188⟩,⟨6,.f 1 true,P_ 188,32,P_ 189⟩,⟨7,.f 2 true,P_ 189,96,P_ 190⟩,⟨8,.f 3 false,P_ 190+P_ 188-P_ 186,255,P_ 191⟩,⟨9,.q none,P_ 191,511,P_ 182⟩,⟨10,.q none,P_ 182,1023,P_ 192⟩,⟨11,.q none,P_ 182,1023,P_ 193⟩,⟨12,.f 0 true,0,0,P_ 27⟩,⟨13,.f 4 false,P_ 192+P_ 27,6143,0⟩,⟨14,.q none,P_ 193,16383,P_ 28⟩]⟩]),(23,[⟨[0,1,2,3,4,6,5,7,8,9,10],[⟨0,.q none,1,0,P_ 204⟩,⟨1,.q none,1,0,P_ 205⟩,⟨2,.q (some 0),P_ 27,0,P_ 206⟩,⟨3,.q none,8388608,0,P_ 207⟩,⟨4,.q (some 0),P_ 207,8,P_ 208⟩,⟨5,.f 0 true,P_ 209-P_ 207-P_ 205,30,P_ 209⟩,⟨6,.q (some 0),P_ 29,0,P_ 210⟩,⟨7,.f 1 false,P_ 210,126,P_ 211⟩,⟨8,.f 2 false,P_ 211+P_ 209+P_ 204,255,P_ 212⟩,⟨9,.f 3 true,0,0,P_ 30⟩,⟨10,.f 4 false,P_ 212+P_ 30,1023,0⟩]⟩,⟨[0,1,2,3,4,6,5,7,9,8,10],[⟨0,.q none,1,0,P_ 204⟩,⟨1,.q none,1,0,P_ 205⟩,⟨2,.q (some 0),P_ 27,0,P_ 206⟩,⟨3,.q none,8388608,0,P_ 207⟩,⟨4,.q (some 0),P_ 207,8,P_ 208⟩,⟨5,.f 0 true,P_ 209-P_ 207-P_ 205,30,P_ 209⟩,⟨6,.q (some 0),P_ 29,0,P_ 210⟩,⟨7,.f 1 false,P_ 210,126,P_ 211⟩,⟨8,.f 3 false,P_ 211+P_ 209+P_ 204,255,P_ 212⟩,⟨9,.f 2 true,0,0,P_ 30⟩,⟨10,.f 4 false,P_ 212+P_ 30,1023,0⟩]⟩,⟨[0,1,2,3,4,6,5,9,7,8,10],[⟨0,.q none,1,0,P_ 204⟩,⟨1,.q none,1,0,P_ 205⟩,⟨2,.q (some 0),P_ 27,0,P_ 206⟩,⟨3,.q none,8388608,0,P_ 207⟩,⟨4,.q (some 0),P_ 207,8,P_ 208⟩,⟨5,.f 0 true,P_ 209-P_ 207-P_ 205,30,P_ 209⟩,⟨6,.q (some 0),P_ 29,0,P_ 210⟩,⟨7,.f 2 false,P_ 210,126,P_ 211⟩,⟨8,.f 3 false,P_ 211+P_ 209+P_ 204,255,P_ 212⟩,⟨9,.f 1 true,0,0,P_ 30⟩,⟨10,.f 4 false,P_ 212+P_ 30,1023,0⟩]⟩,⟨[0,1,2,3,4,6,9,5,7,8,10],[⟨0,.q none,1,0,P_ 204⟩,⟨1,.q none,1,0,P_ 205⟩,⟨2,.q (some 0),P_ 27,0,P_ 206⟩,⟨3,.q none,8388608,0,P_ 207⟩,⟨4,.q (some 0),P_ 207,8,P_ 208⟩,⟨5,.f 1 true,P_ 209-P_ 207-P_ 205,30,P_ 209⟩,⟨6,.q (some 0),P_ 29,0,P_ 210⟩,⟨7,.f 2 false,P_ 210,126,P_ 211⟩,⟨8,.f 3 false,P_ 211+P_ 209+P_ 204,255,P_ 212⟩,⟨9,.f 0 true,0,0,P_ 30⟩,⟨10,.f 4 false,P_ 212+P_ 30,1023,0⟩]⟩]),(39,[⟨[0,1,2,3,4,5,6,7,8,9,10,11,12,13,14],[⟨0,.q none,8388608,0,P_ 258⟩,⟨1,.q (some 0),P_ 258,1,P_ 259⟩,⟨2,.q none,P_ 37,0,P_ 260⟩,⟨3,.q none,P_ 36,0,P_ 261⟩,⟨4,.q none,4194304,0,P_ 262⟩,⟨5,.q none,524288,0,P_ 263⟩,⟨6,.q none,P_ 38,0,P_ 264⟩,⟨7,.q none,P_ 265-P_ 263,96,P_ 265⟩,⟨8,.q (some 0),P_ 265,224,P_ 266⟩,⟨9,.f 0 true,P_ 266+P_ 263-P_ 261,504,P_ 267⟩,⟨10,.f 1 true,P_ 267+P_ 260,1020,P_ 268⟩,⟨11,.q none,P_ 268+P_ 259,2047,P_ 269⟩,⟨12,.q (some 2),P_ 269,4095,P_ 270⟩,⟨13,.f 2 true,0,0,P_ 40⟩,⟨14,.f 3 false,P_ 270+P_ 40,16383,0⟩]⟩,⟨[0,1,2,3,4,5,6,7,8,9,13,10,11,12,14],[⟨0,.q none,8388608,0,P_ 258⟩,⟨1,.q (some 0),P_ 258,1,P_ 259⟩,⟨2,.q none,P_ 37,0,P_ 260⟩,⟨3,.q none,P_ 36,0,P_ 261⟩,⟨4,.q none,4194304,0,P_ 262⟩,⟨5,.q none,524288,0,P_ 263⟩,⟨6,.q none,P_ 38,0,P_ 264⟩,⟨7,.q none,P_ 265-P_ 263,96,P_ 265⟩,⟨8,.q (some 0),P_ 265,224,P_ 266⟩,⟨9,.f 0 true,P_ 266+P_ 263-P_ 261,504,P_ 267⟩,⟨10,.f 2 true,P_ 267+P_ 260,1020,P_ 268⟩,⟨11,.q none,P_ 268+P_ 259,2047,P_ 269⟩,⟨12,.q (some 1),P_ 269,4095,P_ 270⟩,⟨13,.f 1 true,0,0,P_ 40⟩,⟨14,.f 3 false,P_ 270+P_ 40,16383,0⟩]⟩,⟨[0,1,2,3,4,5,6,7,8,13,9,10,11,12,14],[⟨0,.q none,8388608,0,P_ 258⟩,⟨1,.q (some 0),P_ 258,1,P_ 259⟩,⟨2,.q none,P_ 37,0,P_ 260⟩,⟨3,.q none,P_ 36,0,P_ 261⟩,⟨4,.q none,4194304,0,P_ 262⟩,⟨5,.q none,524288,0,P_ 263⟩,⟨6,.q none,P_ 38,0,P_ 264⟩,⟨7,.q none,P_ 265-P_ 263,96,P_ 265⟩,⟨8,.q (some 0),P_ 265,224,P_ 266⟩,⟨9,.f 1 true,P_ 266+P_ 263-P_ 261,504,P_ 267⟩,⟨10,.f 2 true,P_ 267+P_ 260,1020,P_ 268⟩,⟨11,.q none,P_ 268+P_ 259,2047,P_ 269⟩,⟨12,.q (some 0),P_ 269,4095,P_ 270⟩,⟨13,.f 0 true,0,0,P_ 40⟩,⟨14,.f 3 false,P_ 270+P_ 40,16383,0⟩]⟩]),(41,[⟨[0,1,2,3,4,5,6,7,8,9,10,11,12,13,16,17,18,19,20,21,22,23,24,25,14,15,26,27,28],[⟨0,.q none,1,0,P_ 279⟩,⟨1,.q none,4,0,P_ 280⟩,⟨2,.q none,P_ 39,0,P_ 281⟩,⟨3,.q none,P_ 281,4,P_ 282⟩,⟨4,.q none,P_ 282+P_ 280,14,P_ 283⟩,⟨5,.q none,P_ 283,30,P_ 284⟩,⟨6,.q (some 0),P_ 284,62,P_ 285⟩,⟨7,.q none,P_ 41,0,P_ 286⟩,⟨8,.q none,P_ 287-P_ 285,254,P_ 287⟩,⟨9,.q none,P_ 287,510,P_ 288⟩,⟨10,.q (some 0),P_ 288,1022,P_ 289⟩,⟨11,.q none,1,0,P_ 290⟩,⟨12,.q (some 0),2048,0,P_ 291⟩,⟨13,.q none,P_ 38,0,P_ 292⟩,⟨14,.f 0 true,P_ 292,8192,P_ 293⟩,⟨15,.f 1 true,P_ 294-P_ 292-P_ 290,30720,P_ 294⟩,⟨16,.q none,2097152,0,P_ 295⟩,⟨17,.q none,P_ 30,0,P_ 296⟩,⟨18,.q none,P_ 296,131072,P_ 297⟩,⟨19,.q (some 0),P_ 297,393216,P_ 298⟩,⟨20,.q none,P_ 40,0,P_ 299⟩,⟨21,.q (some 0),P_ 299,1048576,P_ 300⟩,⟨22,.q none,P_ 300+P_ 298,4063232,P_ 301⟩,⟨23,.q none,P_ 30,0,P_ 302⟩,⟨24,.q (some 0),P_ 302,8388608,P_ 303⟩,⟨25,.q (some 0),P_ 40,0,P_ 304⟩,⟨26,.f 2 true,P_ 305-P_ 303,58720256,P_ 305⟩,⟨27,.f 3 false,P_ 305+P_ 301+P_ 296+P_ 289+P_ 279-P_ 294,134217727,P_ 306⟩,⟨28,.q none,P_ 306,268435455,P_ 42⟩]⟩,⟨[0,1,2,3,4,5,6,7,8,9,10,11,12,13,16,17,18,19,20,21,22,23,24,25,14,26,15,27,28],[⟨0,.q none,1,0,P_ 279⟩,⟨1,.q none,4,0,P_ 280⟩,⟨2,.q none,P_ 39,0,P_ 281⟩,⟨3,.q none,P_ 281,4,P_ 282⟩,⟨4,.q none,P_ 282+P_ 280,14,P_ 283⟩,⟨5,.q none,P_ 283,30,P_ 284⟩,⟨6,.q (some 0),P_ 284,62,P_ 285⟩,⟨7,.q none,P_ 41,0,P_ 286⟩,⟨8,.q none,P_ 287-P_ 285,254,P_ 287⟩,⟨9,.q none,P_ 287,510,P_ 288⟩,⟨10,.q (some 0),P_ 288,1022,P_ 289⟩,⟨11,.q none,1,0,P_ 290⟩,⟨12,.q (some 0),2048,0,P_ 291⟩,⟨13,.q none,P_ 38,0,P_ 292⟩,⟨14,.f 0 true,P_ 292,8192,P_ 293⟩,⟨15,.f 2 true,P_ 294-P_ 292-P_ 290,30720,P_ 294⟩,⟨16,.q none,2097152,0,P_ 295⟩,⟨17,.q none,P_ 30,0,P_ 296⟩,⟨18,.q none,P_ 296,131072,P_ 297⟩,⟨19,.q (some 0),P_ 297,393216,P_ 298⟩,⟨20,.q none,P_ 40,0,P_ 299⟩,⟨21,.q (some 0),P_ 299,1048576,P_ 300⟩,⟨22,.q none,P_ 300+P_ 298,4063232,P_ 301⟩,⟨23,.q none,P_ 30,0,P_ 302⟩,⟨24,.q (some 0),P_ 302,8388608,P_ 303⟩,⟨25,.q (some 0),P_ 40,0,P_ 304⟩,⟨26,.f 1 true,P_ 305-P_ 303,58720256,P_ 305⟩,⟨27,.f 3 false,P_ 305+P_ 301+P_ 296+P_ 289+P_ 279-P_ 294,134217727,P_ 306⟩,⟨28,.q none,P_ 306,268435455,P_ 42⟩]⟩,⟨[0,1,2,3,4,5,6,7,8,9,10,11,12,13,16,17,18,19,20,21,22,23,24,25,26,14,15,27,28],[⟨0,.q none,1,0,P_ 279⟩,⟨1,.q none,4,0,P_ 280⟩,⟨2,.q none,P_ 39,0,P_ 281⟩,⟨3,.q none,P_ 281,4,P_ 282⟩,⟨4,.q none,P_ 282+P_ 280,14,P_ 283⟩,⟨5,.q none,P_ 283,30,P_ 284⟩,⟨6,.q (some 0),P_ 284,62,P_ 285⟩,⟨7,.q none,P_ 41,0,P_ 286⟩,⟨8,.q none,P_ 287-P_ 285,254,P_ 287⟩,⟨9,.q none,P_ 287,510,P_ 288⟩,⟨10,.q (some 0),P_ 288,1022,P_ 289⟩,⟨11,.q none,1,0,P_ 290⟩,⟨12,.q (some 0),2048,0,P_ 291⟩,⟨13,.q none,P_ 38,0,P_ 292⟩,⟨14,.f 1 true,P_ 292,8192,P_ 293⟩,⟨15,.f 2 true,P_ 294-P_ 292-P_ 290,30720,P_ 294⟩,⟨16,.q none,2097152,0,P_ 295⟩,⟨17,.q none,P_ 30,0,P_ 296⟩,⟨18,.q none,P_ 296,131072,P_ 297⟩,⟨19,.q (some 0),P_ 297,393216,P_ 298⟩,⟨20,.q none,P_ 40,0,P_ 299⟩,⟨21,.q (some 0),P_ 299,1048576,P_ 300⟩,⟨22,.q none,P_ 300+P_ 298,4063232,P_ 301⟩,⟨23,.q none,P_ 30,0,P_ 302⟩,⟨24,.q (some 0),P_ 302,8388608,P_ 303⟩,⟨25,.q (some 0),P_ 40,0,P_ 304⟩,⟨26,.f 0 true,P_ 305-P_ 303,58720256,P_ 305⟩,⟨27,.f 3 false,P_ 305+P_ 301+P_ 296+P_ 289+P_ 279-P_ 294,134217727,P_ 306⟩,⟨28,.q none,P_ 306,268435455,P_ 42⟩]⟩])],[]⟩
theorem C_commit_Build (h:F_commit_Build x0 x1 x2 x3 x4 x5 w R):Calls Tryz.prog 23 #[x0,x1,x2,x3,x4,x5] w R:=cc A_commit_Build [x0,x1,x2,x3,x4,x5] Tryz.func23 h
def F_bevylaw13_Priv (c:Value) (w:World) (R:Ending→World→Prop):Prop:=
 m R (o_alloc 23) w fun a d=>
 m R (o_conv 3 5 c) d fun e f=>
 m R (o_build 23 [(0,e),(1,(.int .u8 55))]) f fun g h=>
 m R (o_store 23 a g) h fun _ b=>
 rcell Tryz.prog 23 a b fun i=>
 R (.returned i) b
def A_bevylaw13_Priv:Ann:=⟨[],[],[],[],[]⟩
theorem C_bevylaw13_Priv (h:F_bevylaw13_Priv x0 w R):Calls Tryz.prog 24 #[x0] w R:=cc A_bevylaw13_Priv [x0] Tryz.func24 h
def F_commit_named (b:Value) (w:World) (R:Ending→World→Prop):Prop:=
 m R (o_bin .geq 3 true b (.int .i64 1)) w fun a c=>
 mguard a true (fun k=>m R (o_move b) c k) c fun e d=>
 mguard a true (fun k=>m R (o_bin .leq 3 true e (.int .i64 64)) d k) d fun f g=>
 m R (o_pick a f (.bool false)) g fun h i=>
 R (.returned h) i
def A_commit_named:Ann:=⟨[],[],[],[],[]⟩
theorem C_commit_named (h:F_commit_named x0 w R):Calls Tryz.prog 25 #[x0] w R:=cc A_commit_named [x0] Tryz.func25 h
def F_commit_Right_1 (a:Value) (w:World) (R:Ending→World→Prop):Prop:=
 m R (o_builtin .len #[9] 3 [false] [a]) w fun b c=>
 m R (o_bin .gtr 3 true b (.int .i64 1024)) c fun d e=>
 R (.returned d) e
def A_commit_Right_1:Ann:=⟨[],[],[],[],[]⟩
theorem C_commit_Right_1 (h:F_commit_Right_1 x0 w R):Calls Tryz.prog 26 #[x0] w R:=cc A_commit_Right_1 [x0] Tryz.func26 h
def F_commit_Right_2 (E F:Value) (w:World) (R:Ending→World→Prop):Prop:=
 m R (o_box 45 E) w fun c G=>
 m R (o_fieldAddr 45 c 0) G fun H I=>
 m R (o_load 3 H) I fun J K=>
 m R (o_call (fv 25) [J]) K fun L M=>
 m R (o_un .not L) M fun d l=>
 mguard d false (fun k=>m R (o_fieldAddr 45 c 1) l k) l fun N n=>
 mguard d false (fun k=>m R (o_load 3 N) n k) n fun o p=>
 mguard d false (fun k=>m R (o_bin .lss 3 true o (.int .i64 0)) p k) p fun q O=>
 m R (o_pick d (.bool true) q) O fun b r=>
 mguard b false (fun k=>m R (o_fieldAddr 45 c 1) r k) r fun s e=>
 mguard b false (fun k=>m R (o_load 3 s) e k) e fun t f=>
 mguard b false (fun k=>m R (o_bin .gtr 3 true t (.int .i64 4611686018427387903)) f k) f fun u v=>
 m R (o_pick b (.bool true) u) v fun a g=>
 mguard a false (fun k=>m R (o_load 40 F) g k) g fun x h=>
 mguard a false (fun k=>m R (o_fieldAddr 45 c 2) h k) h fun y i=>
 mguard a false (fun k=>m R (o_load 9 y) i k) i fun z j=>
 mguard a false (fun k=>m R (o_call x [z]) j k) j fun A B=>
 m R (o_pick a (.bool true) A) B fun C D=>
 R (.returned C) D
def A_commit_Right_2:Ann:=⟨[],[],[],[],[]⟩
theorem C_commit_Right_2 (h:F_commit_Right_2 x0 x1 w R):Calls Tryz.prog 27 #[x0,x1] w R:=cc A_commit_Right_2 [x0,x1] Tryz.func27 h
def F_slices_ContainsFunc_string_string (a b:Value) (w:World) (R:Ending→World→Prop):Prop:=
 m R (o_call (fv 97) [a,b]) w fun c d=>
 m R (o_bin .geq 3 true c (.int .i64 0)) d fun e f=>
 R (.returned e) f
def A_slices_ContainsFunc_string_string:Ann:=⟨[],[],[],[],[]⟩
theorem C_slices_ContainsFunc_string_string (h:F_slices_ContainsFunc_string_string x0 x1 w R):Calls Tryz.prog 28 #[x0,x1] w R:=cc A_slices_ContainsFunc_string_string [x0,x1] Tryz.func28 h
def F_slices_ContainsFunc_api_Proposal_api_Proposal (a b:Value) (w:World) (R:Ending→World→Prop):Prop:=
 m R (o_call (fv 98) [a,b]) w fun c d=>
 m R (o_bin .geq 3 true c (.int .i64 0)) d fun e f=>
 R (.returned e) f
def A_slices_ContainsFunc_api_Proposal_api_Proposal:Ann:=⟨[],[],[],[],[]⟩
theorem C_slices_ContainsFunc_api_Proposal_api_Proposal (h:F_slices_ContainsFunc_api_Proposal_api_Proposal x0 x1 w R):Calls Tryz.prog 29 #[x0,x1] w R:=cc A_slices_ContainsFunc_api_Proposal_api_Proposal [x0,x1] Tryz.func29 h
def F_commit_Right_3 (a:Value) (w:World) (R:Ending→World→Prop):Prop:=
 m R (o_box 75 a) w fun b c=>
 m R (o_load 75 b) c fun d e=>
 m R (o_call (fv 31) [d]) e fun f g=>
 m R (o_un .not f) g fun h i=>
 R (.returned h) i
def A_commit_Right_3:Ann:=⟨[],[],[],[],[]⟩
theorem C_commit_Right_3 (h:F_commit_Right_3 x0 w R):Calls Tryz.prog 30 #[x0] w R:=cc A_commit_Right_3 [x0] Tryz.func30 h
def F_change_Right (a7:Value) (w:World) (R:Ending→World→Prop):Prop:=
 m R (o_box 75 a7) w fun c a8=>
 m R (o_fieldAddr 75 c 4) a8 fun a9 bA=>
 m R (o_load 73 a9) bA fun bB bC=>
 m R (o_alloc 73) bC fun f bD=>
 m R (o_store 73 f bB) bD fun _ bE=>
 mj1 (fun bF=>
 m R (o_fieldAddr 75 c 1) bE fun bG bH=>
 m R (o_load 3 bG) bH fun bI bJ=>
 m R (o_bin .lss 3 true bI (.int .i64 0)) bJ fun i G=>
 mguard i false (fun k=>m R (o_fieldAddr 75 c 1) G k) G fun H I=>
 mguard i false (fun k=>m R (o_load 3 H) I k) I fun J j=>
 mguard i false (fun k=>m R (o_bin .gtr 3 true J (.int .i64 4611686018427387903)) j k) j fun K L=>
 m R (o_pick i (.bool true) K) L fun a l=>
 mguard a false (fun k=>m R (o_fieldAddr 75 c 2) l k) l fun M n=>
 mguard a false (fun k=>m R (o_load 3 M) n k) n fun N o=>
 mguard a false (fun k=>m R (o_call (fv 99) [N]) o k) o fun O p=>
 mguard a false (fun k=>m R (o_un .not O) p k) p fun Q S=>
 m R (o_pick a (.bool true) Q) S fun b q=>
 mguard b false (fun k=>m R (o_fieldAddr 73 f 1) q k) q fun T r=>
 mguard b false (fun k=>m R (o_load 3 T) r k) r fun U s=>
 mguard b false (fun k=>m R (o_call (fv 99) [U]) s k) s fun V t=>
 mguard b false (fun k=>m R (o_un .not V) t k) t fun W X=>
 m R (o_pick b (.bool true) W) X fun d u=>
 mguard d false (fun k=>m R (o_fieldAddr 75 c 3) u k) u fun Y v=>
 mguard d false (fun k=>m R (o_load 3 Y) v k) v fun Z x=>
 mguard d false (fun k=>m R (o_bin .lss 3 true Z (.int .i64 1)) x k) x fun aA aB=>
 m R (o_pick d (.bool true) aA) aB fun e y=>
 mguard e false (fun k=>m R (o_fieldAddr 75 c 3) y k) y fun aC z=>
 mguard e false (fun k=>m R (o_load 3 aC) z k) z fun aD A=>
 mguard e false (fun k=>m R (o_bin .gtr 3 true aD (.int .i64 4611686018427387903)) A k) A fun aE aF=>
 m R (o_pick e (.bool true) aE) aF fun g aG=>
 bF g aG) fun g bK B=>
 mif g (
 R (.returned (.bool false)) B) (
 m R (o_fieldAddr 73 f 0) B fun aH aI=>
 m R (o_load 3 aH) aI fun h aJ=>
 m R (o_bin .eql 3 true h (.int .i64 2)) aJ fun aK C=>
 mif aK (
 m R (o_fieldAddr 73 f 1) C fun aL aM=>
 m R (o_load 3 aL) aM fun aN aO=>
 m R (o_fieldAddr 75 c 2) aO fun aP aQ=>
 m R (o_load 3 aP) aQ fun aR aS=>
 m R (o_bin .eql 3 false aN aR) aS fun aT aU=>
 R (.returned aT) aU) (
 mj1 (fun aV=>
 m R (o_bin .eql 3 true h (.int .i64 1)) C fun D E=>
 mif D (
 aV D E) (
 m R (o_bin .eql 3 true h (.int .i64 3)) E fun aW aX=>
 aV aW aX)) fun aY bL F=>
 mif aY (
 m R (o_fieldAddr 73 f 2) F fun aZ a0=>
 m R (o_load 23 aZ) a0 fun a1 a2=>
 m R (o_build 23 []) a2 fun a3 a4=>
 m R (o_bin .eql 23 false a1 a3) a4 fun a5 a6=>
 R (.returned a5) a6) (
 R (.returned (.bool false)) F)))
def A_change_Right:Ann:=⟨[],[(3,[35],68719476672),(9,[45],P_ 48-P_ 45)],[],[],[]⟩
theorem C_change_Right (h:F_change_Right x0 w R):Calls Tryz.prog 31 #[x0] w R:=cc A_change_Right [x0] Tryz.func31 h
def F_slices_ContainsFunc_api_Welcome_api_Welcome (a b:Value) (w:World) (R:Ending→World→Prop):Prop:=
 m R (o_call (fv 100) [a,b]) w fun c d=>
 m R (o_bin .geq 3 true c (.int .i64 0)) d fun e f=>
 R (.returned e) f
def A_slices_ContainsFunc_api_Welcome_api_Welcome:Ann:=⟨[],[],[],[],[]⟩
theorem C_slices_ContainsFunc_api_Welcome_api_Welcome (h:F_slices_ContainsFunc_api_Welcome_api_Welcome x0 x1 w R):Calls Tryz.prog 32 #[x0,x1] w R:=cc A_slices_ContainsFunc_api_Welcome_api_Welcome [x0,x1] Tryz.func32 h
def F_bevyref10_Right (bR:Value) (w:World) (R:Ending→World→Prop):Prop:=
 m R (o_box 75 bR) w fun a bS=>
 m R (o_fieldAddr 75 a 4) bS fun bT bU=>
 m R (o_load 73 bT) bU fun bV bW=>
 m R (o_alloc 73) bW fun b bX=>
 m R (o_store 73 b bV) bX fun _ bY=>
 mj1 (fun bZ=>
 m R (o_fieldAddr 75 a 1) bY fun b0 b1=>
 m R (o_load 3 b0) b1 fun b2 b3=>
 m R (o_bin .lss 3 true b2 (.int .i64 0)) b3 fun n Q=>
 mguard n false (fun k=>m R (o_fieldAddr 75 a 1) Q k) Q fun S T=>
 mguard n false (fun k=>m R (o_load 3 S) T k) T fun U o=>
 mguard n false (fun k=>m R (o_bin .gtr 3 true U (.int .i64 4611686018427387903)) o k) o fun V W=>
 m R (o_pick n (.bool true) V) W fun d p=>
 mguard d false (fun k=>m R (o_fieldAddr 75 a 3) p k) p fun X q=>
 mguard d false (fun k=>m R (o_load 3 X) q k) q fun Y r=>
 mguard d false (fun k=>m R (o_bin .lss 3 true Y (.int .i64 1)) r k) r fun Z aA=>
 m R (o_pick d (.bool true) Z) aA fun e s=>
 mguard e false (fun k=>m R (o_fieldAddr 75 a 3) s k) s fun aB t=>
 mguard e false (fun k=>m R (o_load 3 aB) t k) t fun aC u=>
 mguard e false (fun k=>m R (o_bin .gtr 3 true aC (.int .i64 4611686018427387903)) u k) u fun aD aE=>
 m R (o_pick e (.bool true) aD) aE fun j aF=>
 bZ j aF) fun j b5 v=>
 mif j (
 R (.returned (.bool false)) v) (
 mj1 (fun b4=>
 m R (o_fieldAddr 75 a 2) v fun aG aH=>
 m R (o_load 3 aG) aH fun aI aJ=>
 m R (o_bin .lss 3 true aI (.int .i64 1)) aJ fun f x=>
 mguard f false (fun k=>m R (o_fieldAddr 75 a 2) x k) x fun aK y=>
 mguard f false (fun k=>m R (o_load 3 aK) y k) y fun aL z=>
 mguard f false (fun k=>m R (o_bin .gtr 3 true aL (.int .i64 64)) z k) z fun aM aN=>
 m R (o_pick f (.bool true) aM) aN fun g A=>
 mguard g false (fun k=>m R (o_fieldAddr 73 b 1) A k) A fun aO B=>
 mguard g false (fun k=>m R (o_load 3 aO) B k) B fun aP C=>
 mguard g false (fun k=>m R (o_bin .lss 3 true aP (.int .i64 1)) C k) C fun aQ aR=>
 m R (o_pick g (.bool true) aQ) aR fun h D=>
 mguard h false (fun k=>m R (o_fieldAddr 73 b 1) D k) D fun aS E=>
 mguard h false (fun k=>m R (o_load 3 aS) E k) E fun aT F=>
 mguard h false (fun k=>m R (o_bin .gtr 3 true aT (.int .i64 64)) F k) F fun aU aV=>
 m R (o_pick h (.bool true) aU) aV fun l aW=>
 b4 l aW) fun l b6 G=>
 mif l (
 R (.returned (.bool false)) G) (
 m R (o_fieldAddr 73 b 0) G fun aX aY=>
 m R (o_load 3 aX) aY fun aZ a0=>
 m R (o_bin .eql 3 true aZ (.int .i64 2)) a0 fun a1 H=>
 mif a1 (
 m R (o_fieldAddr 73 b 1) H fun a2 a3=>
 m R (o_load 3 a2) a3 fun a4 a5=>
 m R (o_fieldAddr 75 a 2) a5 fun a6 a7=>
 m R (o_load 3 a6) a7 fun a8 a9=>
 m R (o_bin .eql 3 false a4 a8) a9 fun bA bB=>
 R (.returned bA) bB) (
 m R (o_fieldAddr 73 b 0) H fun bC bD=>
 m R (o_load 3 bC) bD fun bE bF=>
 m R (o_bin .eql 3 true bE (.int .i64 1)) bF fun i I=>
 mguard i false (fun k=>m R (o_fieldAddr 73 b 0) I k) I fun bG J=>
 mguard i false (fun k=>m R (o_load 3 bG) J k) J fun bH K=>
 mguard i false (fun k=>m R (o_bin .eql 3 true bH (.int .i64 3)) K k) K fun bI bJ=>
 m R (o_pick i (.bool true) bI) bJ fun c L=>
 mguard c true (fun k=>m R (o_fieldAddr 73 b 2) L k) L fun bK M=>
 mguard c true (fun k=>m R (o_load 23 bK) M k) M fun bL N=>
 mguard c true (fun k=>m R (o_build 23 []) N k) N fun bM O=>
 mguard c true (fun k=>m R (o_bin .eql 23 false bL bM) O k) O fun bN bO=>
 m R (o_pick c bN (.bool false)) bO fun bP bQ=>
 R (.returned bP) bQ)))
def A_bevyref10_Right:Ann:=⟨[],[(3,[23],16777152),(5,[41],4398029733888)],[],[],[]⟩
theorem C_bevyref10_Right (h:F_bevyref10_Right x0 w R):Calls Tryz.prog 33 #[x0] w R:=cc A_bevyref10_Right [x0] Tryz.func33 h
def F_sha_Sum (o:Value) (w:World) (R:Ending→World→Prop):Prop:=
 m R (o_alloc 23) w fun p bX=>
 m R (o_build 165 [(0,(.int .u32 1779033703)),(1,(.int .u32 3144134277)),(2,(.int .u32 1013904242)),(3,(.int .u32 2773480762)),(4,(.int .u32 1359893119)),(5,(.int .u32 2600822924)),(6,(.int .u32 528734635)),(7,(.int .u32 1541459225))]) bX fun q bY=>
 m R (o_call (fv 101) []) bY fun r bZ=>
 m R (o_build 170 [(0,q),(3,r)]) bZ fun s b0=>
 m R (o_box 170 s) b0 fun a b1=>
 m R (o_builtin .len #[41] 3 [false] [o]) b1 fun t b2=>
 ml1 (.int .i64 0) b2 fun d cA b3 g=>
 m R (o_bin .lss 3 false d t) b3 fun u v=>
 mif u (
 m R (o_indexAddr 41 o d) v fun x b4=>
 m R (o_load 9 x) b4 fun y z=>
 m R (o_call (fv 102) [a,y]) z fun b6 A=>
 m R (o_bin .add 3 true d (.int .i64 1)) A fun B C=>
 g B C) (
 m R (o_alloc 171) v fun n D=>
 m R (o_indexAddr 171 n (.int .i64 0)) D fun E F=>
 m R (o_store 5 E (.int .u8 128)) F fun _ G=>
 m R (o_nilCheck a) G fun H I=>
 m R (o_fieldAddr 170 H 2) I fun J K=>
 m R (o_load 3 J) K fun L M=>
 m R (o_bin .add 3 true L (.int .i64 8)) M fun N O=>
 m R (o_bin .rem 3 true N (.int .i64 64)) O fun Q S=>
 m R (o_bin .sub 3 true (.int .i64 64) Q) S fun h T=>
 ml1 (.int .i64 0) T fun c b7 U e=>
 m R (o_bin .lss 3 true c (.int .i64 8)) U fun V i=>
 mif V (
 m R (o_bin .add 3 false h c) i fun W X=>
 m R (o_nilCheck a) X fun Y Z=>
 m R (o_fieldAddr 170 Y 2) Z fun aA aB=>
 m R (o_load 3 aA) aB fun aC aD=>
 m R (o_conv 3 172 aC) aD fun aE aF=>
 m R (o_bin .mul 172 true aE (.int .u64 8)) aF fun aG aH=>
 m R (o_bin .mul 3 true (.int .i64 8) c) aH fun aI aJ=>
 m R (o_bin .sub 3 true (.int .i64 56) aI) aJ fun aK aL=>
 m R (o_bin .shr 172 false aG aK) aL fun aM aN=>
 m R (o_conv 172 5 aM) aN fun aO aP=>
 m R (o_indexAddr 171 n W) aP fun aQ aR=>
 m R (o_store 5 aQ aO) aR fun _ aS=>
 m R (o_bin .add 3 true c (.int .i64 1)) aS fun aT aU=>
 e aT aU) (
 m R (o_bin .add 3 true h (.int .i64 8)) i fun aV aW=>
 m R (o_slice 171 n none (some aV) none) aW fun aX aY=>
 m R (o_conv 89 9 aX) aY fun aZ a0=>
 m R (o_call (fv 102) [a,aZ]) a0 fun b8 a1=>
 m R (o_alloc 23) a1 fun a2 a3=>
 ml1 (.int .i64 0) a3 fun b b9 a4 f=>
 m R (o_bin .lss 3 true b (.int .i64 32)) a4 fun a5 j=>
 mif a5 (
 m R (o_bin .quo 3 true b (.int .i64 4)) j fun a6 a7=>
 m R (o_nilCheck a) a7 fun a8 a9=>
 m R (o_fieldAddr 170 a8 0) a9 fun bA bB=>
 m R (o_indexAddr 165 bA a6) bB fun bC bD=>
 m R (o_load 164 bC) bD fun bE bF=>
 m R (o_bin .rem 3 true b (.int .i64 4)) bF fun bG bH=>
 m R (o_bin .mul 3 true (.int .i64 8) bG) bH fun bI bJ=>
 m R (o_bin .sub 3 true (.int .i64 24) bI) bJ fun bK bL=>
 m R (o_bin .shr 164 false bE bK) bL fun bM bN=>
 m R (o_conv 164 5 bM) bN fun bO bP=>
 m R (o_indexAddr 23 a2 b) bP fun bQ bR=>
 m R (o_store 5 bQ bO) bR fun _ bS=>
 m R (o_bin .add 3 true b (.int .i64 1)) bS fun bT bU=>
 f bT bU) (
 m R (o_load 23 a2) j fun bV bW=>
 m R (o_store 23 p bV) bW fun _ l=>
 rcell Tryz.prog 23 p l fun b5=>
 R (.returned b5) l)))
def A_sha_Sum:Ann:=⟨[(3,[17],33423392),(11,[33],4503591037436160),(18,[58],P_ 77+P_ 10-P_ 58)],[],[],[],[]⟩
theorem C_sha_Sum (h:F_sha_Sum x0 w R):Calls Tryz.prog 34 #[x0] w R:=cc A_sha_Sum [x0] Tryz.func34 h
def F_bevyref02_Sum (c0:Value) (w:World) (R:Ending→World→Prop):Prop:=
 m R (o_alloc 22) w fun c1 gM=>
 m R (o_build 166 [(0,(.int .u32 1116352408)),(1,(.int .u32 1899447441)),(2,(.int .u32 3049323471)),(3,(.int .u32 3921009573)),(4,(.int .u32 961987163)),(5,(.int .u32 1508970993)),(6,(.int .u32 2453635748)),(7,(.int .u32 2870763221)),(8,(.int .u32 3624381080)),(9,(.int .u32 310598401)),(10,(.int .u32 607225278)),(11,(.int .u32 1426881987)),(12,(.int .u32 1925078388)),(13,(.int .u32 2162078206)),(14,(.int .u32 2614888103)),(15,(.int .u32 3248222580)),(16,(.int .u32 3835390401)),(17,(.int .u32 4022224774)),(18,(.int .u32 264347078)),(19,(.int .u32 604807628)),(20,(.int .u32 770255983)),(21,(.int .u32 1249150122)),(22,(.int .u32 1555081692)),(23,(.int .u32 1996064986)),(24,(.int .u32 2554220882)),(25,(.int .u32 2821834349)),(26,(.int .u32 2952996808)),(27,(.int .u32 3210313671)),(28,(.int .u32 3336571891)),(29,(.int .u32 3584528711)),(30,(.int .u32 113926993)),(31,(.int .u32 338241895)),(32,(.int .u32 666307205)),(33,(.int .u32 773529912)),(34,(.int .u32 1294757372)),(35,(.int .u32 1396182291)),(36,(.int .u32 1695183700)),(37,(.int .u32 1986661051)),(38,(.int .u32 2177026350)),(39,(.int .u32 2456956037)),(40,(.int .u32 2730485921)),(41,(.int .u32 2820302411)),(42,(.int .u32 3259730800)),(43,(.int .u32 3345764771)),(44,(.int .u32 3516065817)),(45,(.int .u32 3600352804)),(46,(.int .u32 4094571909)),(47,(.int .u32 275423344)),(48,(.int .u32 430227734)),(49,(.int .u32 506948616)),(50,(.int .u32 659060556)),(51,(.int .u32 883997877)),(52,(.int .u32 958139571)),(53,(.int .u32 1322822218)),(54,(.int .u32 1537002063)),(55,(.int .u32 1747873779)),(56,(.int .u32 1955562222)),(57,(.int .u32 2024104815)),(58,(.int .u32 2227730452)),(59,(.int .u32 2361852424)),(60,(.int .u32 2428436474)),(61,(.int .u32 2756734187)),(62,(.int .u32 3204031479)),(63,(.int .u32 3329325298))]) gM fun c2 gN=>
 m R (o_alloc 166) gN fun c3 gO=>
 m R (o_store 166 c3 c2) gO fun _ gP=>
 m R (o_conv 9 89 c0) gP fun c4 gQ=>
 m R (o_buildSlice 89 1 [(0,(.int .u8 128))]) gQ fun c5 gR=>
 m R (o_builtin .append #[89,89] 89 [false,false] [c4,c5]) gR fun c6 gS=>
 ml1 c6 gS fun i g2 gT D=>
 m R (o_builtin .len #[89] 3 [false] [i]) gT fun c7 gU=>
 m R (o_bin .rem 3 true c7 (.int .i64 64)) gU fun c8 c9=>
 m R (o_bin .neq 3 true c8 (.int .i64 56)) c9 fun dA F=>
 mif dA (
 m R (o_buildSlice 89 1 [(0,(.int .u8 0))]) F fun dB dC=>
 m R (o_builtin .append #[89,89] 89 [false,false] [i,dB]) dC fun dD dE=>
 D dD dE) (
 m R (o_builtin .len #[9] 3 [false] [c0]) F fun dF dG=>
 m R (o_conv 3 172 dF) dG fun dH dI=>
 m R (o_bin .mul 172 true dH (.int .u64 8)) dI fun dJ dK=>
 ml2 i (.int .i64 0) dK fun i M g3 dL E=>
 m R (o_bin .lss 3 true M (.int .i64 8)) dL fun dM G=>
 mif dM (
 m R (o_bin .mul 3 true (.int .i64 8) M) G fun dN dO=>
 m R (o_bin .sub 3 true (.int .i64 56) dN) dO fun dP dQ=>
 m R (o_conv 3 173 dP) dQ fun dR dS=>
 m R (o_bin .shr 172 false dJ dR) dS fun dT dU=>
 m R (o_conv 172 5 dT) dU fun dV dW=>
 m R (o_buildSlice 89 1 [(0,dV)]) dW fun dX dY=>
 m R (o_builtin .append #[89,89] 89 [false,false] [i,dX]) dY fun dZ d0=>
 m R (o_bin .add 3 true M (.int .i64 1)) d0 fun d1 d2=>
 E dZ d1 d2) (
 m R (o_build 165 [(0,(.int .u32 1779033703)),(1,(.int .u32 3144134277)),(2,(.int .u32 1013904242)),(3,(.int .u32 2773480762)),(4,(.int .u32 1359893119)),(5,(.int .u32 2600822924)),(6,(.int .u32 528734635)),(7,(.int .u32 1541459225))]) G fun d3 d4=>
 m R (o_alloc 165) d4 fun p d5=>
 m R (o_store 165 p d3) d5 fun _ d6=>
 ml1 (.int .i64 0) d6 fun N gW d7 q=>
 m R (o_builtin .len #[89] 3 [false] [i]) d7 fun d8 d9=>
 m R (o_bin .lss 3 false N d8) d9 fun eA H=>
 mif eA (
 m R (o_alloc 166) H fun j eB=>
 ml1 (.int .i64 0) eB fun l gX eC r=>
 m R (o_bin .lss 3 true l (.int .i64 16)) eC fun eD I=>
 mif eD (
 m R (o_bin .mul 3 true (.int .i64 4) l) I fun eE eF=>
 m R (o_bin .add 3 false N eE) eF fun eG eH=>
 m R (o_call (fv 103) [i,eG]) eH fun eI eJ=>
 m R (o_indexAddr 166 j l) eJ fun eK eL=>
 m R (o_store 164 eK eI) eL fun _ eM=>
 m R (o_bin .add 3 true l (.int .i64 1)) eM fun eN eO=>
 r eN eO) (
 ml1 (.int .i64 16) I fun b gY eP s=>
 m R (o_bin .lss 3 true b (.int .i64 64)) eP fun eQ J=>
 mif eQ (
 m R (o_bin .sub 3 true b (.int .i64 15)) J fun eR eS=>
 m R (o_indexAddr 166 j eR) eS fun eT eU=>
 m R (o_load 164 eT) eU fun t eV=>
 m R (o_bin .sub 3 true b (.int .i64 2)) eV fun eW eX=>
 m R (o_indexAddr 166 j eW) eX fun eY eZ=>
 m R (o_load 164 eY) eZ fun u v=>
 dp Tryz.prog (o_bin .sub 3 true b (.int .i64 16)) fun e0=>
 dp Tryz.prog (o_indexAddr 166 j e0) fun e1=>
 dq Tryz.prog v (o_load 164 e1) fun e2=>
 dp Tryz.prog (o_bin .sub 3 true b (.int .i64 7)) fun e3=>
 dp Tryz.prog (o_indexAddr 166 j e3) fun e4=>
 dq Tryz.prog v (o_load 164 e4) fun e5=>
 dp Tryz.prog (o_bin .add 164 false e2 e5) fun e6=>
 df Tryz.prog v (o_call (fv 104) [t,(.int .u64 7)]) true fun e7 e8=>
 df Tryz.prog e8 (o_call (fv 104) [t,(.int .u64 18)]) true fun e9 fA=>
 dp Tryz.prog (o_bin .xor 164 false e7 e9) fun fB=>
 dp Tryz.prog (o_bin .shr 164 true t (.int .u64 3)) fun O=>
 dp Tryz.prog (o_bin .xor 164 false fB O) fun Q=>
 dp Tryz.prog (o_bin .add 164 false e6 Q) fun S=>
 df Tryz.prog fA (o_call (fv 104) [u,(.int .u64 17)]) true fun T fC=>
 df Tryz.prog fC (o_call (fv 104) [u,(.int .u64 19)]) true fun U fD=>
 dp Tryz.prog (o_bin .xor 164 false T U) fun V=>
 dp Tryz.prog (o_bin .shr 164 true u (.int .u64 10)) fun W=>
 dp Tryz.prog (o_bin .xor 164 false V W) fun X=>
 dp Tryz.prog (o_bin .add 164 false S X) fun Y=>
 dp Tryz.prog (o_indexAddr 166 j b) fun Z=>
 df Tryz.prog fD (o_store 164 Z Y) false fun _ fE=>
 dend fE fun fF=>
 m R (o_bin .add 3 true b (.int .i64 1)) fF fun fG fH=>
 s fG fH) (
 m R (o_load 165 p) J fun aA fI=>
 m R (o_alloc 165) fI fun a fJ=>
 m R (o_store 165 a aA) fJ fun _ fK=>
 ml1 (.int .i64 0) fK fun n gZ fL x=>
 m R (o_bin .lss 3 true n (.int .i64 64)) fL fun aB K=>
 mif aB (
 m R (o_indexAddr 165 a (.int .i64 4)) K fun aC fM=>
 m R (o_load 164 aC) fM fun c fN=>
 m R (o_indexAddr 165 a (.int .i64 0)) fN fun aD fO=>
 m R (o_load 164 aD) fO fun d e=>
 dp Tryz.prog (o_indexAddr 165 a (.int .i64 7)) fun aE=>
 dq Tryz.prog e (o_load 164 aE) fun aF=>
 df Tryz.prog e (o_call (fv 104) [c,(.int .u64 6)]) true fun aG fP=>
 df Tryz.prog fP (o_call (fv 104) [c,(.int .u64 11)]) true fun aH fQ=>
 dp Tryz.prog (o_bin .xor 164 false aG aH) fun aI=>
 df Tryz.prog fQ (o_call (fv 104) [c,(.int .u64 25)]) true fun aJ fR=>
 dp Tryz.prog (o_bin .xor 164 false aI aJ) fun aK=>
 dp Tryz.prog (o_bin .add 164 false aF aK) fun aL=>
 dp Tryz.prog (o_indexAddr 165 a (.int .i64 5)) fun aM=>
 dq Tryz.prog e (o_load 164 aM) fun aN=>
 dp Tryz.prog (o_bin .and 164 false c aN) fun aO=>
 dp Tryz.prog (o_un .xor c) fun aP=>
 dp Tryz.prog (o_indexAddr 165 a (.int .i64 6)) fun aQ=>
 dq Tryz.prog e (o_load 164 aQ) fun aR=>
 dp Tryz.prog (o_bin .and 164 false aP aR) fun aS=>
 dp Tryz.prog (o_bin .xor 164 false aO aS) fun aT=>
 dp Tryz.prog (o_bin .add 164 false aL aT) fun aU=>
 dp Tryz.prog (o_indexAddr 166 c3 n) fun aV=>
 dq Tryz.prog e (o_load 164 aV) fun aW=>
 dp Tryz.prog (o_bin .add 164 false aU aW) fun aX=>
 dp Tryz.prog (o_indexAddr 166 j n) fun aY=>
 dq Tryz.prog e (o_load 164 aY) fun aZ=>
 dp Tryz.prog (o_bin .add 164 false aX aZ) fun y=>
 dend fR fun f=>
 df Tryz.prog f (o_call (fv 104) [d,(.int .u64 2)]) true fun a0 fS=>
 df Tryz.prog fS (o_call (fv 104) [d,(.int .u64 13)]) true fun a1 fT=>
 dp Tryz.prog (o_bin .xor 164 false a0 a1) fun a2=>
 df Tryz.prog fT (o_call (fv 104) [d,(.int .u64 22)]) true fun a3 fU=>
 dp Tryz.prog (o_bin .xor 164 false a2 a3) fun a4=>
 dp Tryz.prog (o_indexAddr 165 a (.int .i64 1)) fun a5=>
 dq Tryz.prog f (o_load 164 a5) fun a6=>
 dp Tryz.prog (o_bin .and 164 false d a6) fun a7=>
 dp Tryz.prog (o_indexAddr 165 a (.int .i64 2)) fun a8=>
 dq Tryz.prog f (o_load 164 a8) fun a9=>
 dp Tryz.prog (o_bin .and 164 false d a9) fun bA=>
 dp Tryz.prog (o_bin .xor 164 false a7 bA) fun bB=>
 dp Tryz.prog (o_indexAddr 165 a (.int .i64 1)) fun bC=>
 dq Tryz.prog f (o_load 164 bC) fun bD=>
 dp Tryz.prog (o_indexAddr 165 a (.int .i64 2)) fun bE=>
 dq Tryz.prog f (o_load 164 bE) fun bF=>
 dp Tryz.prog (o_bin .and 164 false bD bF) fun bG=>
 dp Tryz.prog (o_bin .xor 164 false bB bG) fun bH=>
 dp Tryz.prog (o_bin .add 164 false a4 bH) fun bI=>
 dend fU fun fV=>
 m R (o_bin .add 164 false y bI) fV fun bJ fW=>
 m R (o_indexAddr 165 a (.int .i64 0)) fW fun bK fX=>
 m R (o_load 164 bK) fX fun bL fY=>
 m R (o_indexAddr 165 a (.int .i64 1)) fY fun bM fZ=>
 m R (o_load 164 bM) fZ fun bN f0=>
 m R (o_indexAddr 165 a (.int .i64 2)) f0 fun bO f1=>
 m R (o_load 164 bO) f1 fun bP f2=>
 m R (o_indexAddr 165 a (.int .i64 3)) f2 fun bQ f3=>
 m R (o_load 164 bQ) f3 fun bR f4=>
 m R (o_bin .add 164 false bR y) f4 fun bS f5=>
 m R (o_indexAddr 165 a (.int .i64 4)) f5 fun bT f6=>
 m R (o_load 164 bT) f6 fun bU f7=>
 m R (o_indexAddr 165 a (.int .i64 5)) f7 fun bV f8=>
 m R (o_load 164 bV) f8 fun bW f9=>
 m R (o_indexAddr 165 a (.int .i64 6)) f9 fun bX gA=>
 m R (o_load 164 bX) gA fun bY gB=>
 m R (o_build 165 [(0,bJ),(1,bL),(2,bN),(3,bP),(4,bS),(5,bU),(6,bW),(7,bY)]) gB fun bZ gC=>
 m R (o_store 165 a bZ) gC fun _ gD=>
 m R (o_bin .add 3 true n (.int .i64 1)) gD fun b0 gE=>
 x b0 gE) (
 ml1 (.int .i64 0) K fun g g0 gF z=>
 m R (o_bin .lss 3 true g (.int .i64 8)) gF fun b1 o=>
 mif b1 (
 dp Tryz.prog (o_indexAddr 165 p g) fun b2=>
 dq Tryz.prog o (o_load 164 b2) fun b3=>
 dp Tryz.prog (o_indexAddr 165 a g) fun b4=>
 dq Tryz.prog o (o_load 164 b4) fun b5=>
 dp Tryz.prog (o_bin .add 164 false b3 b5) fun b6=>
 dp Tryz.prog (o_indexAddr 165 p g) fun b7=>
 df Tryz.prog o (o_store 164 b7 b6) false fun _ gG=>
 dend gG fun gH=>
 m R (o_bin .add 3 true g (.int .i64 1)) gH fun b8 gI=>
 z b8 gI) (
 m R (o_bin .add 3 true N (.int .i64 64)) o fun gJ gK=>
 q gJ gK))))) (
 m R (o_alloc 22) H fun L gL=>
 ml1 (.int .i64 0) gL fun h g1 b9 A=>
 m R (o_bin .lss 3 true h (.int .i64 32)) b9 fun cA B=>
 mif cA (
 m R (o_bin .quo 3 true h (.int .i64 4)) B fun cB cC=>
 m R (o_indexAddr 165 p cB) cC fun cD cE=>
 m R (o_load 164 cD) cE fun cF cG=>
 m R (o_bin .rem 3 true h (.int .i64 4)) cG fun cH cI=>
 m R (o_bin .mul 3 true (.int .i64 8) cH) cI fun cJ cK=>
 m R (o_bin .sub 3 true (.int .i64 24) cJ) cK fun cL cM=>
 m R (o_conv 3 173 cL) cM fun cN cO=>
 m R (o_bin .shr 164 false cF cN) cO fun cP cQ=>
 m R (o_conv 164 5 cP) cQ fun cR cS=>
 m R (o_indexAddr 22 L h) cS fun cT cU=>
 m R (o_store 5 cT cR) cU fun _ cV=>
 m R (o_bin .add 3 true h (.int .i64 1)) cV fun cW cX=>
 A cW cX) (
 m R (o_load 22 L) B fun cY cZ=>
 m R (o_store 22 c1 cY) cZ fun _ C=>
 rcell Tryz.prog 22 c1 C fun gV=>
 R (.returned gV) C))))
def A_bevyref02_Sum:Ann:=⟨[(4,[4],68182605840),(8,[4,6],18013298997854288),(13,[8],P_ 210+P_ 21-P_ 55-P_ 8),(17,[10],P_ 73+P_ 10-P_ 61),(21,[11],P_ 114+P_ 14-P_ 73-P_ 11),(28,[15],P_ 197+P_ 20-P_ 115-P_ 15),(36,[20],P_ 210+P_ 20-P_ 197),(41,[22],P_ 227+P_ 22-P_ 210)],[],[(25,[⟨0,.q none,2048,0,P_ 85⟩,⟨1,.q none,2048,0,P_ 86⟩,⟨2,.q none,P_ 86,2,P_ 87⟩,⟨3,.q none,P_ 87+P_ 9,6,P_ 88⟩,⟨4,.q (some 0),P_ 88,14,P_ 89⟩,⟨5,.q none,2048,0,P_ 90⟩,⟨6,.q none,P_ 90,32,P_ 91⟩,⟨7,.q none,P_ 91+P_ 9,96,P_ 92⟩,⟨8,.q (some 0),P_ 92,224,P_ 93⟩,⟨9,.q none,P_ 93+P_ 89,510,P_ 94⟩,⟨10,.q none,4096,0,P_ 95⟩,⟨11,.f 0 true,P_ 95,1024,P_ 96⟩,⟨12,.q none,4096,0,P_ 97⟩,⟨13,.f 1 true,P_ 97,7168,P_ 98⟩,⟨14,.q none,P_ 98+P_ 96,15360,P_ 99⟩,⟨15,.q none,4096,0,P_ 100⟩,⟨16,.q none,P_ 100,32768,P_ 101⟩,⟨17,.q none,P_ 101+P_ 99,130048,P_ 102⟩,⟨18,.q none,P_ 102+P_ 94,262142,P_ 103⟩,⟨19,.q none,8192,0,P_ 104⟩,⟨20,.f 2 true,P_ 104,539648,P_ 105⟩,⟨21,.q none,8192,0,P_ 106⟩,⟨22,.f 3 true,P_ 106,3685376,P_ 107⟩,⟨23,.q none,P_ 107+P_ 105,7879680,P_ 108⟩,⟨24,.q none,8192,0,P_ 109⟩,⟨25,.q none,P_ 109,16777216,P_ 110⟩,⟨26,.q none,P_ 110+P_ 108,66599936,P_ 111⟩,⟨27,.q none,P_ 111+P_ 103,134217726,P_ 112⟩,⟨28,.q none,P_ 85+P_ 9,268435455,P_ 113⟩,⟨29,.f 4 false,P_ 114-P_ 112,536870911,0⟩]),(32,[⟨0,.q none,16384,0,P_ 123⟩,⟨1,.q (some 0),P_ 123,1,P_ 124⟩,⟨2,.q none,65536,0,P_ 125⟩,⟨3,.f 0 true,P_ 125,4,P_ 126⟩,⟨4,.q none,65536,0,P_ 127⟩,⟨5,.f 1 true,P_ 127,28,P_ 128⟩,⟨6,.q none,P_ 128+P_ 126,60,P_ 129⟩,⟨7,.q none,65536,0,P_ 130⟩,⟨8,.f 2 true,P_ 130,188,P_ 131⟩,⟨9,.q none,P_ 131+P_ 129,508,P_ 132⟩,⟨10,.q none,P_ 132+P_ 124,1023,P_ 133⟩,⟨11,.q none,65536,0,P_ 134⟩,⟨12,.q none,16384,0,P_ 135⟩,⟨13,.q (some 0),P_ 135,4096,P_ 136⟩,⟨14,.q none,P_ 136+P_ 134,14336,P_ 137⟩,⟨15,.q none,65536,0,P_ 138⟩,⟨16,.q none,P_ 138,32768,P_ 139⟩,⟨17,.q none,16384,0,P_ 140⟩,⟨18,.q (some 0),P_ 140,131072,P_ 141⟩,⟨19,.q none,P_ 141+P_ 139,491520,P_ 142⟩,⟨20,.q none,P_ 142+P_ 137,1046528,P_ 143⟩,⟨21,.q none,P_ 143+P_ 133,2097151,P_ 144⟩,⟨22,.q none,32768,0,P_ 145⟩,⟨23,.q none,P_ 145+P_ 3,4194304,P_ 146⟩,⟨24,.q (some 0),P_ 146,12582912,P_ 147⟩,⟨25,.q none,P_ 147+P_ 144,33554431,P_ 148⟩,⟨26,.q none,32768,0,P_ 149⟩,⟨27,.q none,P_ 149+P_ 9,67108864,P_ 150⟩,⟨28,.q (some 0),P_ 150,201326592,P_ 151⟩,⟨29,.q none,P_ 151+P_ 148,536870911,P_ 152⟩,⟨30,.q none,P_ 152,1073741823,262144⟩]),(33,[⟨0,.q none,131072,0,P_ 153⟩,⟨1,.f 0 true,P_ 153,1,P_ 154⟩,⟨2,.q none,131072,0,P_ 155⟩,⟨3,.f 1 true,P_ 155,7,P_ 156⟩,⟨4,.q none,P_ 156+P_ 154,15,P_ 157⟩,⟨5,.q none,131072,0,P_ 158⟩,⟨6,.f 2 true,P_ 158,47,P_ 159⟩,⟨7,.q none,P_ 159+P_ 157,127,P_ 160⟩,⟨8,.q none,131072,0,P_ 161⟩,⟨9,.q none,16384,0,P_ 162⟩,⟨10,.q (some 0),P_ 162,512,P_ 163⟩,⟨11,.q none,P_ 163+P_ 161,1792,P_ 164⟩,⟨12,.q none,131072,0,P_ 165⟩,⟨13,.q none,16384,0,P_ 166⟩,⟨14,.q (some 0),P_ 166,8192,P_ 167⟩,⟨15,.q none,P_ 167+P_ 165,28672,P_ 168⟩,⟨16,.q none,P_ 168+P_ 164,65280,P_ 169⟩,⟨17,.q none,16384,0,P_ 170⟩,⟨18,.q (some 0),P_ 170,131072,P_ 171⟩,⟨19,.q none,16384,0,P_ 172⟩,⟨20,.q (some 0),P_ 172,524288,P_ 173⟩,⟨21,.q none,P_ 173+P_ 171,1966080,P_ 174⟩,⟨22,.q none,P_ 174+P_ 169,4194048,P_ 175⟩,⟨23,.q none,P_ 175+P_ 160,8388607,P_ 176⟩,⟨24,.q none,P_ 176,16777215,524288⟩]),(38,[⟨0,.q none,1048576,0,P_ 201⟩,⟨1,.q none,1048576,0,P_ 202⟩,⟨2,.q none,P_ 202+P_ 7,2,P_ 203⟩,⟨3,.q (some 0),P_ 203,6,P_ 204⟩,⟨4,.q none,1048576,0,P_ 205⟩,⟨5,.q none,P_ 205+P_ 14,16,P_ 206⟩,⟨6,.q (some 0),P_ 206,48,P_ 207⟩,⟨7,.q none,P_ 207+P_ 204,126,P_ 208⟩,⟨8,.q none,P_ 201+P_ 7,255,P_ 209⟩,⟨9,.f 0 false,P_ 210-P_ 208,511,0⟩])],[],[]⟩
theorem C_bevyref02_Sum (h:F_bevyref02_Sum x0 w R):Calls Tryz.prog 35 #[x0] w R:=cc A_bevyref02_Sum [x0] Tryz.func35 h
def F_wire_New (w:World) (R:Ending→World→Prop):Prop:=
 m R (o_build 177 []) w fun a b=>
 m R (o_box 177 a) b fun c d=>
 R (.returned c) d
def A_wire_New:Ann:=⟨[],[],[],[],[]⟩
theorem C_wire_New (h:F_wire_New w R):Calls Tryz.prog 36 #[] w R:=cc A_wire_New [] Tryz.func36 h
def F_commit_core (W X:Value) (w:World) (R:Ending→World→Prop):Prop:=
 m R (o_box 80 W) w fun a Y=>
 m R (o_box 28 X) Y fun b Z=>
 m R (o_load 80 a) Z fun aA aB=>
 m R (o_fieldAddr 28 b 0) aB fun aC aD=>
 m R (o_load 23 aC) aD fun aE aF=>
 m R (o_call (fv 84) [aA,aE]) aF fun aS aG=>
 m R (o_load 80 a) aG fun aH aI=>
 m R (o_fieldAddr 28 b 1) aI fun aJ aK=>
 m R (o_load 3 aJ) aK fun c aL=>
 m R (o_call (fv 85) [aH,c]) aL fun aM d=>
 m R (o_load 80 a) d fun e f=>
 m R (o_fieldAddr 28 b 2) f fun g h=>
 m R (o_load 3 g) h fun i j=>
 m R (o_call (fv 85) [e,i]) j fun aN l=>
 m R (o_load 80 a) l fun n o=>
 m R (o_fieldAddr 28 b 3) o fun p q=>
 m R (o_load 24 p) q fun r s=>
 m R (o_func (.func 106) [] [a]) s fun t u=>
 m R (o_call (fv 105) [n,r,t]) u fun aO v=>
 m R (o_load 80 a) v fun x y=>
 m R (o_fieldAddr 28 b 4) y fun z A=>
 m R (o_load 23 z) A fun B C=>
 m R (o_call (fv 84) [x,B]) C fun aP D=>
 m R (o_load 80 a) D fun E F=>
 m R (o_fieldAddr 28 b 5) F fun G H=>
 m R (o_load 23 G) H fun I J=>
 m R (o_call (fv 84) [E,I]) J fun aQ K=>
 m R (o_load 80 a) K fun L M=>
 m R (o_fieldAddr 28 b 6) M fun N O=>
 m R (o_load 25 N) O fun Q S=>
 m R (o_func (.func 109) [] [a]) S fun T U=>
 m R (o_call (fv 108) [L,Q,T]) U fun aR V=>
 R (.returned (.tuple #[])) V
def A_commit_core:Ann:=⟨[],[],[],[],[]⟩
theorem C_commit_core (h:F_commit_core x0 x1 w R):Calls Tryz.prog 37 #[x0,x1] w R:=cc A_commit_core [x0,x1] Tryz.func37 h
def F_wire_Writer_End (c:Value) (w:World) (R:Ending→World→Prop):Prop:=
 mj1 (fun r=>
 m R (o_bin .eql 80 true c (.pointer none)) w fun a d=>
 mguard a false (fun k=>m R (o_move c) d k) d fun s e=>
 mguard a false (fun k=>m R (o_nilCheck s) e k) e fun t f=>
 mguard a false (fun k=>m R (o_fieldAddr 177 t 1) f k) f fun u g=>
 mguard a false (fun k=>m R (o_load 4 u) g k) g fun h v=>
 m R (o_pick a (.bool true) h) v fun b x=>
 r b x) fun b A i=>
 mif b (
 R (.returned (.tuple #[(.string (ByteArray.mk #[])),(.int .i64 1)])) i) (
 m R (o_nilCheck c) i fun j y=>
 m R (o_fieldAddr 177 j 0) y fun l z=>
 m R (o_load 89 l) z fun n o=>
 m R (o_conv 89 9 n) o fun p q=>
 R (.returned (.tuple #[p,(.int .i64 0)])) q)
def A_wire_Writer_End:Ann:=⟨[],[(2,[11],4080)],[],[],[]⟩
theorem C_wire_Writer_End (h:F_wire_Writer_End x0 w R):Calls Tryz.prog 38 #[x0] w R:=cc A_wire_Writer_End [x0] Tryz.func38 h
def F_commit_signed (H:Value) (w:World) (R:Ending→World→Prop):Prop:=
 m R (o_box 28 H) w fun b I=>
 m R (o_call (fv 36) []) I fun J K=>
 m R (o_alloc 80) K fun a L=>
 m R (o_store 80 a J) L fun _ M=>
 m R (o_load 80 a) M fun N O=>
 m R (o_load 28 b) O fun Q S=>
 m R (o_call (fv 37) [N,Q]) S fun aA T=>
 m R (o_load 80 a) T fun d U=>
 m R (o_fieldAddr 28 b 7) U fun e V=>
 m R (o_load 9 e) V fun f g=>
 m R (o_call (fv 86) [d,f]) g fun W h=>
 m R (o_load 80 a) h fun i j=>
 m R (o_fieldAddr 28 b 8) j fun l n=>
 m R (o_load 26 l) n fun o p=>
 m R (o_func (.func 114) [] [a]) p fun q r=>
 m R (o_call (fv 113) [i,o,q]) r fun X s=>
 m R (o_load 80 a) s fun t u=>
 m R (o_fieldAddr 28 b 9) u fun v x=>
 m R (o_load 23 v) x fun y z=>
 m R (o_call (fv 84) [t,y]) z fun Y A=>
 m R (o_load 80 a) A fun B C=>
 m R (o_call (fv 38) [B]) C fun c D=>
 m R (o_extract c 0) D fun E F=>
 m R (o_extract c 1) F fun Z G=>
 R (.returned E) G
def A_commit_signed:Ann:=⟨[],[],[],[],[]⟩
theorem C_commit_signed (h:F_commit_signed x0 w R):Calls Tryz.prog 43 #[x0] w R:=cc A_commit_signed [x0] Tryz.func43 h
end Go.Proofs.YtgbenhmdamnmcaaGreat
