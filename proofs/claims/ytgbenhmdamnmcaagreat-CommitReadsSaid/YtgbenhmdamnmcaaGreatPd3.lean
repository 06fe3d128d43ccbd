/- Part 3 of the proof. -/
import Derived.Test.YtgbenhmdamnmcaaGreatPd2
set_option linter.unusedVariables false
set_option linter.unusedVariables false
namespace Go.Proofs.YtgbenhmdamnmcaaGreat
open Go.Proofs.Tryz
abbrev Gf (R:Ending→World→Prop) (x:Value) (s:Sem Next) (w:World) (K:Value→World→Prop):Prop:=mguard x false (fun k=>m R s w k) w K
abbrev Gt (R:Ending→World→Prop) (x:Value) (s:Sem Next) (w:World) (K:Value→World→Prop):Prop:=mguard x true (fun k=>m R s w k) w K
abbrev Qf (x:Value) (s:Sem Next) (K:Value→Prop):Prop:=qguard x false (fun k=>dp prog s k) K
abbrev Qt (x:Value) (s:Sem Next) (K:Value→Prop):Prop:=qguard x true (fun k=>dp prog s k) K
abbrev Hf (x:Value) (w:World) (s:Sem Next) (K:Value→Prop):Prop:=qguard x false (fun k=>dq prog w s k) K
abbrev Ht (x:Value) (w:World) (s:Sem Next) (K:Value→Prop):Prop:=qguard x true (fun k=>dq prog w s k) K
abbrev Ef (x:Value) (w:World) (s:Sem Next) (e:Bool) (K:Value→World→Prop):Prop:=mguard x false (fun k=>df prog w s e k) w K
abbrev Et (x:Value) (w:World) (s:Sem Next) (e:Bool) (K:Value→World→Prop):Prop:=mguard x true (fun k=>df prog w s e k) w K
abbrev Dp (s:Sem Next) (K:Value→Prop):Prop:=dp prog s K
abbrev Dq (w:World) (s:Sem Next) (K:Value→Prop):Prop:=dq prog w s K
abbrev Df (w:World) (s:Sem Next) (e:Bool) (K:Value→World→Prop):Prop:=df prog w s e K
def Gh (e:Value) (w:World) (R:Ending→World→Prop):Prop:=
 m R (Ak .len #[9] 3 [false] [e]) w fun aE aF=>
 m R (Af .gtr 3 true aE (.int .i64 20000)) aF fun aG A=>
 mif aG (
 m R (Ah (fv 8) []) A fun B aH=>
 R (.returned B) aH) (
 m R (Ah (fv 16) [e]) A fun f aI=>
 m R (As f 0) aI fun C aJ=>
 m R (As f 1) aJ fun g aK=>
 m R (Ar 28) aK fun z aL=>
 m R (Ai 28 z C) aL fun _ aM=>
 m R (Ah (fv 19) [e]) aM fun h aN=>
 m R (As h 0) aN fun D E=>
 m R (As h 1) E fun F G=>
 m R (Ar 28) G fun H I=>
 m R (Ai 28 H D) I fun _ J=>
 m R (Ah (fv 8) []) J fun c i=>
 Gt R c (Bp g) i fun K j=>
 Gt R c (Bp F) j fun L l=>
 Gt R c (Af .eql 3 false K L) l fun M N=>
 m R (Bd c M (.bool false)) N fun d n=>
 Gt R d (Ad 28 z) n fun O o=>
 Gt R d (Ad 28 H) o fun Q p=>
 Gt R d (Ah (fv 18) [O,Q]) p fun S T=>
 m R (Bd d S (.bool false)) T fun a q=>
 Gt R a (Bp g) q fun U r=>
 Gt R a (Af .neq 34 true U (.int .i64 0)) r fun V s=>
 Gt R a (Bp V) s fun b t=>
 Gf R b (Ad 28 z) t fun W u=>
 Gf R b (Ah (fv 15) [W]) u fun X v=>
 Gf R b (Bp e) v fun Y x=>
 Gf R b (Af .eql 9 false X Y) x fun Z y=>
 Gt R a (Bd b (.bool true) Z) y fun aA aB=>
 m R (Bd a aA (.bool false)) aB fun aC aD=>
 R (.returned aC) aD)
def dkN(n:Nat):DK:=match n%3 with
 |0=>bif Nat.beq n 0 then .q none else .q (some (n/3-1))
 |1=>.f (n/3) false
 |_=>.f (n/3) true
def mkD(ops:List Oper):List Oper→List Nat→Nat→List Nat→List DA
 |o::l,k::ks,i,bms=>⟨i,dkN k,looksB ops o,edgesL bms o.after.toList,bitOf o⟩::mkD ops l ks (i+1) (bms++[edgesL bms o.after.toList])
 |_,_,_,_=>[]
def rgOps(i:Nat):Code→List Oper
 |.region id ops _=>bif Nat.beq id i then ops.toList else []
 |.seq a b=>rgOps i a++rgOps i b
 |.cond _ a b=>rgOps i a++rgOps i b
 |.block _ c=>rgOps i c
 |.loop c=>rgOps i c
 |_=>[]
def mkA(f:Func) (lp jn:List (Nat×List Nat×Nat)) (dr:List (Nat×List Nat)) (vs:List (Nat×List (List Nat×List Nat))) (wd:List Nat):Ann:=
 ⟨lp,jn,dr.map fun x=>(x.1,mkD (rgOps x.1 (f.body.getD .skip)) (rgOps x.1 (f.body.getD .skip)) x.2 0 []),vs.map fun x=>(x.1,x.2.map fun v=>⟨v.1,mkD (rgOps x.1 (f.body.getD .skip)) (rgOps x.1 (f.body.getD .skip)) v.2 0 []⟩),wd⟩
theorem cc(A:Ann) (args:List Value) {f:FuncId} {fn:Func} {w:World} {R:Ending→World→Prop} {Q:Prop} (hf:prog.funcs[f]?=some fn) (h:Q) (hb:fn.body=some (fn.body.getD .skip):=by kernel_rfl) (hn:Nat.ble args.length fn.ntmps=true:=by kernel_rfl) (hok:codeOk fn.ntmps A (fn.body.getD .skip)=true:=by kernel_rfl) (he:cwp prog A (fn.body.getD .skip) (retPost prog fn.results.toList R) (argE args) w=Q:=by kernel_rfl):Calls prog f args.toArray w R:=
 aNw (A:=A) (args:=args) mixed hf hb hn hok (Eq.mpr he h)
variable {x0 x1 x2 x3 x4 x5 x6 x7 x8 x9:Value} {w:World} {R:Ending→World→Prop}
theorem Lq (h:Gh x0 w R):Calls prog 6 #[x0] w R:=cc ⟨[],[],[],[],[]⟩ [x0] Tryz.func6 h
def Kb (w:World) (R:Ending→World→Prop):Prop:=
 m R (Ah (fv 21) []) w fun aI aJ=>
 m R (At 23 [(0,(.int .u8 9))]) aJ fun aK aL=>
 m R (Ah (fv 22) [(.int .i64 1),(.int .i64 0)]) aL fun aM aN=>
 m R (Ah (fv 20) [(.pointer none),aI,(.int .i64 1),aK,aM]) aN fun l aO=>
 m R (As l 0) aO fun n aP=>
 m R (As l 1) aP fun aU aQ=>
 m R (Ah (fv 21) []) aQ fun o aR=>
 m R (Ah (fv 24) [(.int .i64 1)]) aR fun p aS=>
 m R (At 23 [(0,(.int .u8 8))]) aS fun q aT=>
 m R (Ah (fv 23) [(.pointer none),n,o,p,(.slice none 0 0),q]) aT fun f r=>
 m R (As f 0) r fun s t=>
 m R (As f 1) t fun g u=>
 m R (As f 2) u fun v x=>
 m R (Ar 28) x fun e y=>
 m R (Ai 28 e s) y fun _ h=>
 Dp (Af .eql 34 true v (.int .i64 0)) fun i=>
 Ht i h (Ad 28 e) fun z=>
 Et i h (Ah (fv 9) [z]) false fun A c=>
 Dp (Bd i A (.bool false)) fun a=>
 Qt a (Aa 28 e 6) fun B=>
 Ht a c (Ad 25 B) fun C=>
 Qt a (Ak .len #[25] 3 [false] [C]) fun D=>
 Qt a (Aa 28 e 8) fun E=>
 Ht a c (Ad 26 E) fun F=>
 Qt a (Ak .len #[26] 3 [false] [F]) fun G=>
 Qt a (Af .add 3 false D G) fun H=>
 Qt a (Aa 28 e 3) fun I=>
 Ht a c (Ad 24 I) fun J=>
 Qt a (Ak .len #[24] 3 [false] [J]) fun K=>
 Qt a (Af .add 3 false H K) fun L=>
 Qt a (Af .eql 3 true L (.int .i64 0)) fun M=>
 Dp (Bd a M (.bool false)) fun j=>
 Qt j (Bp g) fun N=>
 Qt j (Af .neq 46 true N (.pointer none)) fun O=>
 Dp (Bd j O (.bool false)) fun d=>
 Qt d (Bp g) fun Q=>
 Qt d (Ao Q) fun S=>
 Qt d (Aa 67 S 0) fun T=>
 Qt d (Aa 62 T 2) fun U=>
 Ht d c (Ad 3 U) fun V=>
 Qt d (Af .eql 3 true V (.int .i64 1)) fun W=>
 Dp (Bd d W (.bool false)) fun b=>
 Qt b (Bp g) fun X=>
 Qt b (Ao X) fun Y=>
 Qt b (Aa 67 Y 0) fun Z=>
 Qt b (Aa 62 Z 0) fun aA=>
 Ht b c (Ad 23 aA) fun aB=>
 Ht b c (Ad 28 e) fun aC=>
 Et b c (Ah (fv 11) [aC]) true fun aD aE=>
 Qt b (Af .eql 23 false aB aD) fun aF=>
 Dp (Bd b aF (.bool false)) fun aG=>
 dend aE fun aH=>
 R (.returned aG) aH
def P_(k:Nat):Nat:=2^k
theorem Sw (h:Kb w R):Calls prog 8 #[] w R:=cc (mkA Tryz.f8 [] [] [(3,[0,0,0,3,1,0,0,0,6,0,0,6,0,0,0,6,0,0,0,0,0,0,0,0,0,0,0,0,0,6,0,0,0,0,0,0,0,6,6,5,0,0,0])] [] []) [] Tryz.func8 h
def Om (cG:Value) (w:World) (R:Ending→World→Prop):Prop:=
 m R (Bo 28 cG) w fun a cH=>
 mj1 (fun cI=>
 m R (Aa 28 a 1) cH fun cJ cK=>
 m R (Ad 3 cJ) cK fun cL cM=>
 m R (Af .lss 3 true cL (.int .i64 1)) cM fun n Z=>
 Gf R n (Aa 28 a 1) Z fun aA aB=>
 Gf R n (Ad 3 aA) aB fun aC aD=>
 Gf R n (Af .gtr 3 true aC (.int .i64 4611686018427387903)) aD fun aE cN=>
 m R (Bd n (.bool true) aE) cN fun c aF=>
 Gf R c (Aa 28 a 2) aF fun aG aH=>
 Gf R c (Ad 3 aG) aH fun aI p=>
 Gf R c (Ah (fv 25) [aI]) p fun aJ q=>
 Gf R c (Cz .not aJ) q fun aK aL=>
 m R (Bd c (.bool true) aK) aL fun d r=>
 Gf R d (Aa 28 a 3) r fun aM s=>
 Gf R d (Ad 24 aM) s fun aN t=>
 Gf R d (Ak .len #[24] 3 [false] [aN]) t fun aO u=>
 Gf R d (Af .gtr 3 true aO (.int .i64 16)) u fun aP aQ=>
 m R (Bd d (.bool true) aP) aQ fun e v=>
 Gf R e (Aa 28 a 6) v fun aR x=>
 Gf R e (Ad 25 aR) x fun aS y=>
 Gf R e (Ak .len #[25] 3 [false] [aS]) y fun aT z=>
 Gf R e (Af .gtr 3 true aT (.int .i64 64)) z fun aU aV=>
 m R (Bd e (.bool true) aU) aV fun f A=>
 Gf R f (Aa 28 a 7) A fun aW B=>
 Gf R f (Ad 9 aW) B fun aX C=>
 Gf R f (Ak .len #[9] 3 [false] [aX]) C fun aY D=>
 Gf R f (Af .gtr 3 true aY (.int .i64 65536)) D fun aZ a0=>
 m R (Bd f (.bool true) aZ) a0 fun g E=>
 Gf R g (Aa 28 a 8) E fun a1 F=>
 Gf R g (Ad 26 a1) F fun a2 G=>
 Gf R g (Ak .len #[26] 3 [false] [a2]) G fun a3 H=>
 Gf R g (Af .gtr 3 true a3 (.int .i64 16)) H fun a4 a5=>
 m R (Bd g (.bool true) a4) a5 fun i a6=>
 cI i a6) fun i cP I=>
 mif i (
 R (.returned (.bool false)) I) (
 m R (Ar 40) I fun X a7=>
 m R (Ai 40 X (fv 26)) a7 fun _ a8=>
 m R (Gc (.func 27) [] [X]) a8 fun a9 bA=>
 m R (Aa 28 a 6) bA fun bB bC=>
 m R (Ad 25 bB) bC fun J bD=>
 m R (Ak .len #[25] 3 [false] [J]) bD fun bE bF=>
 ml1 (.int .i64 0) bF fun j cQ bG o=>
 m R (Af .lss 3 false j bE) bG fun bH K=>
 mif bH (
 m R (Ag 25 J j) K fun bI bJ=>
 m R (Ad 43 bI) bJ fun bK bL=>
 m R (Ar 43) bL fun Y bM=>
 m R (Ai 43 Y bK) bM fun _ bN=>
 mj1 (fun cO=>
 m R (Aa 43 Y 1) bN fun bO bP=>
 m R (Ad 41 bO) bP fun bQ bR=>
 m R (Ak .len #[41] 3 [false] [bQ]) bR fun bS bT=>
 m R (Af .gtr 3 true bS (.int .i64 64)) bT fun h L=>
 Gf R h (Aa 43 Y 1) L fun bU M=>
 Gf R h (Ad 41 bU) M fun bV N=>
 Gf R h (Ad 40 X) N fun bW O=>
 Gf R h (Ah (fv 28) [bV,bW]) O fun bX bY=>
 m R (Bd h (.bool true) bX) bY fun l bZ=>
 cO l bZ) fun l cR Q=>
 mif l (
 R (.returned (.bool false)) Q) (
 m R (Af .add 3 true j (.int .i64 1)) Q fun b0 b1=>
 o b0 b1)) (
 m R (Aa 28 a 3) K fun b2 b3=>
 m R (Ad 24 b2) b3 fun b4 b5=>
 m R (Ah (fv 29) [b4,(fv 30)]) b5 fun b6 b7=>
 m R (Cz .not b6) b7 fun b S=>
 Gt R b (Aa 28 a 8) S fun b8 T=>
 Gt R b (Ad 26 b8) T fun b9 U=>
 Gt R b (Bp a9) U fun cA V=>
 Gt R b (Ah (fv 32) [b9,cA]) V fun cB W=>
 Gt R b (Cz .not cB) W fun cC cD=>
 m R (Bd b cC (.bool false)) cD fun cE cF=>
 R (.returned cE) cF))
theorem Zl (h:Om x0 w R):Calls prog 9 #[x0] w R:=cc ⟨[(6,[49],18446181123756130372)],[(2,[44],P_ 45-P_ 7),(9,[62],P_ 63-P_ 53)],[],[],[]⟩ [x0] Tryz.func9 h
def Kc (e5:Value) (w:World) (R:Ending→World→Prop):Prop:=
 m R (Bo 28 e5) w fun a e6=>
 mj1 (fun e7=>
 m R (Aa 28 a 1) e6 fun e8 e9=>
 m R (Ad 3 e8) e9 fun fA fB=>
 m R (Af .lss 3 true fA (.int .i64 1)) fB fun l bM=>
 Gf R l (Aa 28 a 1) bM fun bN bO=>
 Gf R l (Ad 3 bN) bO fun bP bQ=>
 Gf R l (Af .gtr 3 true bP (.int .i64 4611686018427387903)) bQ fun bR fC=>
 m R (Bd l (.bool true) bR) fC fun n bS=>
 Gf R n (Aa 28 a 2) bS fun bT bU=>
 Gf R n (Ad 3 bT) bU fun bV G=>
 Gf R n (Af .lss 3 true bV (.int .i64 1)) G fun bW bX=>
 m R (Bd n (.bool true) bW) bX fun o H=>
 Gf R o (Aa 28 a 2) H fun bY I=>
 Gf R o (Ad 3 bY) I fun bZ J=>
 Gf R o (Af .gtr 3 true bZ (.int .i64 64)) J fun b0 b1=>
 m R (Bd o (.bool true) b0) b1 fun f K=>
 Gf R f (Aa 28 a 3) K fun b2 L=>
 Gf R f (Ad 24 b2) L fun b3 M=>
 Gf R f (Ak .len #[24] 3 [false] [b3]) M fun b4 N=>
 Gf R f (Af .gtr 3 true b4 (.int .i64 16)) N fun b5 b6=>
 m R (Bd f (.bool true) b5) b6 fun g O=>
 Gf R g (Aa 28 a 6) O fun b7 Q=>
 Gf R g (Ad 25 b7) Q fun b8 S=>
 Gf R g (Ak .len #[25] 3 [false] [b8]) S fun b9 T=>
 Gf R g (Af .gtr 3 true b9 (.int .i64 64)) T fun cA cB=>
 m R (Bd g (.bool true) cA) cB fun h U=>
 Gf R h (Aa 28 a 7) U fun cC V=>
 Gf R h (Ad 9 cC) V fun cD W=>
 Gf R h (Ak .len #[9] 3 [false] [cD]) W fun cE X=>
 Gf R h (Af .gtr 3 true cE (.int .i64 65536)) X fun cF cG=>
 m R (Bd h (.bool true) cF) cG fun i Y=>
 Gf R i (Aa 28 a 8) Y fun cH Z=>
 Gf R i (Ad 26 cH) Z fun cI aA=>
 Gf R i (Ak .len #[26] 3 [false] [cI]) aA fun cJ aB=>
 Gf R i (Af .gtr 3 true cJ (.int .i64 16)) aB fun cK cL=>
 m R (Bd i (.bool true) cK) cL fun q cM=>
 e7 q cM) fun q fG aC=>
 mif q (
 R (.returned (.bool false)) aC) (
 ml1 (.int .i64 0) aC fun aP fH cN E=>
 m R (Aa 28 a 3) cN fun cO cP=>
 m R (Ad 24 cO) cP fun cQ cR=>
 m R (Ak .len #[24] 3 [false] [cQ]) cR fun cS cT=>
 m R (Af .lss 3 false aP cS) cT fun cU aD=>
 mif cU (
 m R (Aa 28 a 3) aD fun cV cW=>
 m R (Ad 24 cV) cW fun cX cY=>
 m R (Ag 24 cX aP) cY fun cZ c0=>
 m R (Ad 75 cZ) c0 fun c1 c2=>
 m R (Ah (fv 33) [c1]) c2 fun c3 c4=>
 m R (Cz .not c3) c4 fun c5 aE=>
 mif c5 (
 R (.returned (.bool false)) aE) (
 m R (Af .add 3 true aP (.int .i64 1)) aE fun c6 c7=>
 E c6 c7)) (
 ml1 (.int .i64 0) aD fun r fI c8 F=>
 m R (Aa 28 a 6) c8 fun c9 dA=>
 m R (Ad 25 c9) dA fun dB dC=>
 m R (Ak .len #[25] 3 [false] [dB]) dC fun dD dE=>
 m R (Af .lss 3 false r dD) dE fun dF aF=>
 mif dF (
 m R (Aa 28 a 6) aF fun dG dH=>
 m R (Ad 25 dG) dH fun dI dJ=>
 m R (Ag 25 dI r) dJ fun dK dL=>
 m R (Aa 43 dK 1) dL fun dM dN=>
 m R (Ad 41 dM) dN fun dO dP=>
 m R (Ak .len #[41] 3 [false] [dO]) dP fun dQ dR=>
 m R (Af .gtr 3 true dQ (.int .i64 64)) dR fun dS aG=>
 mif dS (
 R (.returned (.bool false)) aG) (
 ml1 (.int .i64 0) aG fun aQ fD dT s=>
 m R (Aa 28 a 6) dT fun dU dV=>
 m R (Ad 25 dU) dV fun dW dX=>
 m R (Ag 25 dW r) dX fun dY dZ=>
 m R (Aa 43 dY 1) dZ fun d0 d1=>
 m R (Ad 41 d0) d1 fun d2 d3=>
 m R (Ak .len #[41] 3 [false] [d2]) d3 fun d4 d5=>
 m R (Af .lss 3 false aQ d4) d5 fun d6 aH=>
 mif d6 (
 m R (Aa 28 a 6) aH fun d7 d8=>
 m R (Ad 25 d7) d8 fun d9 eA=>
 m R (Ag 25 d9 r) eA fun eB eC=>
 m R (Aa 43 eB 1) eC fun eD eE=>
 m R (Ad 41 eD) eE fun eF eG=>
 m R (Ag 41 eF aQ) eG fun eH eI=>
 m R (Ad 9 eH) eI fun eJ eK=>
 m R (Ak .len #[9] 3 [false] [eJ]) eK fun eL eM=>
 m R (Af .gtr 3 true eL (.int .i64 1024)) eM fun aR aI=>
 mif aR (
 R (.returned (.bool false)) aI) (
 m R (Af .add 3 true aQ (.int .i64 1)) aI fun eN eO=>
 s eN eO)) (
 m R (Af .add 3 true r (.int .i64 1)) aH fun eP eQ=>
 F eP eQ))) (
 ml1 (.int .i64 0) aF fun aS fE eR t=>
 m R (Aa 28 a 8) eR fun aT eS=>
 m R (Ad 26 aT) eS fun aU eT=>
 m R (Ak .len #[26] 3 [false] [aU]) eT fun aV eU=>
 m R (Af .lss 3 false aS aV) eU fun aW aJ=>
 mif aW (
 m R (Aa 28 a 8) aJ fun aX eV=>
 m R (Ad 26 aX) eV fun aY eW=>
 m R (Ag 26 aY aS) eW fun aZ eX=>
 m R (Ad 45 aZ) eX fun a0 eY=>
 m R (Ar 45) eY fun p eZ=>
 m R (Ai 45 p a0) eZ fun _ e0=>
 mj1 (fun e1=>
 m R (Aa 45 p 0) e0 fun a1 e2=>
 m R (Ad 3 a1) e2 fun a2 e3=>
 m R (Af .lss 3 true a2 (.int .i64 1)) e3 fun c aK=>
 Gf R c (Aa 45 p 0) aK fun a3 aL=>
 Gf R c (Ad 3 a3) aL fun a4 aM=>
 Gf R c (Af .gtr 3 true a4 (.int .i64 64)) aM fun a5 e4=>
 m R (Bd c (.bool true) a5) e4 fun d aN=>
 Gf R d (Aa 45 p 1) aN fun a6 aO=>
 Gf R d (Ad 3 a6) aO fun a7 u=>
 Gf R d (Af .lss 3 true a7 (.int .i64 0)) u fun a8 a9=>
 m R (Bd d (.bool true) a8) a9 fun e v=>
 Gf R e (Aa 45 p 1) v fun bA x=>
 Gf R e (Ad 3 bA) x fun bB y=>
 Gf R e (Af .gtr 3 true bB (.int .i64 4611686018427387903)) y fun bC bD=>
 m R (Bd e (.bool true) bC) bD fun b z=>
 Gf R b (Aa 45 p 2) z fun bE A=>
 Gf R b (Ad 9 bE) A fun bF B=>
 Gf R b (Ak .len #[9] 3 [false] [bF]) B fun bG C=>
 Gf R b (Af .gtr 3 true bG (.int .i64 1024)) C fun bH bI=>
 m R (Bd b (.bool true) bH) bI fun j bJ=>
 e1 j bJ) fun j fF D=>
 mif j (
 R (.returned (.bool false)) D) (
 m R (Af .add 3 true aS (.int .i64 1)) D fun bK bL=>
 t bK bL)) (
 R (.returned (.bool true)) aJ))))
theorem Sx (h:Kc x0 w R):Calls prog 10 #[x0] w R:=cc ⟨[(4,[3],18445618173802709004),(9,[4],P_ 101+P_ 6+P_ 2-P_ 64-P_ 4),(14,[5],P_ 101+P_ 5+P_ 2-P_ 79),(19,[6],P_ 137+P_ 8+P_ 2-P_ 101-P_ 6)],[(2,[49],P_ 50-P_ 8),(23,[136],P_ 137-P_ 113)],[],[],[]⟩ [x0] Tryz.func10 h
def Wq (j:Value) (w:World) (R:Ending→World→Prop):Prop:=
 m R (Bo 28 j) w fun d l=>
 m R (Ar 23) l fun a n=>
 m R (Ad 28 d) n fun o p=>
 m R (Ah (fv 9) [o]) p fun q r=>
 m R (Cz .not q) r fun s e=>
 mif s (
 m R (At 23 []) e fun t u=>
 m R (Ai 23 a t) u fun _ f=>
 rcell prog 23 a f fun c=>
 R (.returned c) f) (
 m R (Ad 28 d) e fun v x=>
 m R (Ah (fv 15) [v]) x fun y z=>
 m R (Al 41 2 [(0,(.string (ByteArray.mk #[101,112,111,99,104]))),(1,y)]) z fun A g=>
 m R (Ah (fv 34) [A]) g fun h i=>
 m R (Ai 23 a h) i fun _ b=>
 rcell prog 23 a b fun c=>
 R (.returned c) b)
theorem aGn (h:Wq x0 w R):Calls prog 11 #[x0] w R:=cc ⟨[],[],[],[],[]⟩ [x0] Tryz.func11 h
def Ql (h:Value) (w:World) (R:Ending→World→Prop):Prop:=
 m R (Bo 28 h) w fun b i=>
 m R (Ad 28 b) i fun j l=>
 m R (Ah (fv 9) [j]) l fun n o=>
 m R (Cz .not n) o fun p c=>
 mif p (
 R (.returned (.string (ByteArray.mk #[]))) c) (
 m R (Ah (fv 36) []) c fun d q=>
 m R (Ad 28 b) q fun e r=>
 m R (Ah (fv 37) [d,e]) r fun v s=>
 m R (Ah (fv 38) [d]) s fun a t=>
 m R (As a 0) t fun f u=>
 m R (As a 1) u fun x g=>
 R (.returned f) g)
theorem aBs (h:Ql x0 w R):Calls prog 13 #[x0] w R:=cc ⟨[],[],[],[],[]⟩ [x0] Tryz.func13 h
def Qm (e:Value) (w:World) (R:Ending→World→Prop):Prop:=
 m R (Bo 28 e) w fun b f=>
 m R (Ad 28 b) f fun g h=>
 m R (Ah (fv 9) [g]) h fun i j=>
 m R (Cz .not i) j fun l a=>
 mif l (
 R (.returned (.string (ByteArray.mk #[]))) a) (
 Dq a (Ad 28 b) fun n=>
 Df a (Ah (fv 43) [n]) true fun o p=>
 Dp (Aa 28 b 10) fun q=>
 Dp (Ax 23 q none none none) fun r=>
 Dq a (Ay 89 9 r) fun c=>
 Dp (Af .add 9 false o c) fun d=>
 dend p fun s=>
 R (.returned d) s)
theorem aBt (h:Qm x0 w R):Calls prog 15 #[x0] w R:=cc (mkA Tryz.f15 [] [] [(3,[3,2,0,0,3,0,0])] [] []) [x0] Tryz.func15 h
def Lr (dA dB:Value) (w:World) (R:Ending→World→Prop):Prop:=
 m R (Bo 28 dA) w fun a dC=>
 m R (Bo 28 dB) dC fun c dD=>
 mj1 (fun dE=>
 m R (Aa 28 a 0) dD fun dF dG=>
 m R (Ad 23 dF) dG fun dH dI=>
 m R (Aa 28 c 0) dI fun dJ dK=>
 m R (Ad 23 dJ) dK fun dL dM=>
 m R (Af .neq 23 false dH dL) dM fun e aS=>
 Gf R e (Aa 28 a 1) aS fun aT aU=>
 Gf R e (Ad 3 aT) aU fun aV aW=>
 Gf R e (Aa 28 c 1) aW fun aX s=>
 Gf R e (Ad 3 aX) s fun aY t=>
 Gf R e (Af .neq 3 false aV aY) t fun aZ a0=>
 m R (Bd e (.bool true) aZ) a0 fun f u=>
 Gf R f (Aa 28 a 2) u fun a1 v=>
 Gf R f (Ad 3 a1) v fun a2 x=>
 Gf R f (Aa 28 c 2) x fun a3 y=>
 Gf R f (Ad 3 a3) y fun a4 z=>
 Gf R f (Af .neq 3 false a2 a4) z fun a5 a6=>
 m R (Bd f (.bool true) a5) a6 fun g A=>
 Gf R g (Aa 28 a 4) A fun a7 B=>
 Gf R g (Ad 23 a7) B fun a8 C=>
 Gf R g (Aa 28 c 4) C fun a9 D=>
 Gf R g (Ad 23 a9) D fun bA E=>
 Gf R g (Af .neq 23 false a8 bA) E fun bB bC=>
 m R (Bd g (.bool true) bB) bC fun h F=>
 Gf R h (Aa 28 a 5) F fun bD G=>
 Gf R h (Ad 23 bD) G fun bE H=>
 Gf R h (Aa 28 c 5) H fun bF I=>
 Gf R h (Ad 23 bF) I fun bG J=>
 Gf R h (Af .neq 23 false bE bG) J fun bH bI=>
 m R (Bd h (.bool true) bH) bI fun i K=>
 Gf R i (Aa 28 a 7) K fun bJ L=>
 Gf R i (Ad 9 bJ) L fun bK M=>
 Gf R i (Aa 28 c 7) M fun bL N=>
 Gf R i (Ad 9 bL) N fun bM O=>
 Gf R i (Af .neq 9 false bK bM) O fun bN bO=>
 m R (Bd i (.bool true) bN) bO fun j Q=>
 Gf R j (Aa 28 a 9) Q fun bP S=>
 Gf R j (Ad 23 bP) S fun bQ T=>
 Gf R j (Aa 28 c 9) T fun bR U=>
 Gf R j (Ad 23 bR) U fun bS V=>
 Gf R j (Af .neq 23 false bQ bS) V fun bT bU=>
 m R (Bd j (.bool true) bT) bU fun l W=>
 Gf R l (Aa 28 a 10) W fun bV X=>
 Gf R l (Ad 23 bV) X fun bW Y=>
 Gf R l (Aa 28 c 10) Y fun bX Z=>
 Gf R l (Ad 23 bX) Z fun bY aA=>
 Gf R l (Af .neq 23 false bW bY) aA fun bZ b0=>
 m R (Bd l (.bool true) bZ) b0 fun o b1=>
 dE o b1) fun o dO aB=>
 mif o (
 R (.returned (.bool false)) aB) (
 mj1 (fun dN=>
 m R (Aa 28 a 3) aB fun b2 b3=>
 m R (Ad 24 b2) b3 fun b4 b5=>
 m R (Aa 28 c 3) b5 fun b6 b7=>
 m R (Ad 24 b6) b7 fun b8 b9=>
 m R (Ah (fv 55) [b4,b8]) b9 fun cA cB=>
 m R (Cz .not cA) cB fun d aC=>
 Gf R d (Aa 28 a 6) aC fun cC aD=>
 Gf R d (Ad 25 cC) aD fun cD aE=>
 Gf R d (Aa 28 c 6) aE fun cE aF=>
 Gf R d (Ad 25 cE) aF fun cF aG=>
 Gf R d (Ah (fv 56) [cD,cF]) aG fun cG aH=>
 Gf R d (Cz .not cG) aH fun cH cI=>
 m R (Bd d (.bool true) cH) cI fun b aI=>
 Gf R b (Aa 28 a 8) aI fun cJ aJ=>
 Gf R b (Ad 26 cJ) aJ fun cK aK=>
 Gf R b (Ak .len #[26] 3 [false] [cK]) aK fun cL aL=>
 Gf R b (Aa 28 c 8) aL fun cM aM=>
 Gf R b (Ad 26 cM) aM fun cN aN=>
 Gf R b (Ak .len #[26] 3 [false] [cN]) aN fun cO aO=>
 Gf R b (Af .neq 3 false cL cO) aO fun cP cQ=>
 m R (Bd b (.bool true) cP) cQ fun p cR=>
 dN p cR) fun p dP aP=>
 mif p (
 R (.returned (.bool false)) aP) (
 ml1 (.int .i64 0) aP fun q dQ cS r=>
 m R (Aa 28 a 8) cS fun cT cU=>
 m R (Ad 26 cT) cU fun cV cW=>
 m R (Ak .len #[26] 3 [false] [cV]) cW fun cX cY=>
 m R (Af .lss 3 false q cX) cY fun cZ n=>
 mif cZ (
 Dp (Aa 28 a 8) fun c0=>
 Dq n (Ad 26 c0) fun c1=>
 Dp (Ag 26 c1 q) fun c2=>
 Dq n (Ad 45 c2) fun c3=>
 Dp (Aa 28 c 8) fun c4=>
 Dq n (Ad 26 c4) fun c5=>
 Dp (Ag 26 c5 q) fun c6=>
 Dq n (Ad 45 c6) fun c7=>
 Dp (Af .neq 45 false c3 c7) fun aR=>
 dend n fun aQ=>
 mif aR (
 R (.returned (.bool false)) aQ) (
 m R (Af .add 3 true q (.int .i64 1)) aQ fun c8 c9=>
 r c8 c9)) (
 R (.returned (.bool true)) n)))
theorem Uy (h:Lr x0 x1 w R):Calls prog 18 #[x0,x1] w R:=cc (mkA Tryz.f18 [(6,[5],P_ 101+P_ 6-P_ 83-P_ 4)] [(2,[59],P_ 60-P_ 6),(4,[82],P_ 83-P_ 60)] [(8,[0,3,0,0,3,0,3,0,0,3,0])] [] []) [x0,x1] Tryz.func18 h
def Wr (A N t c9 dA:Value) (w:World) (R:Ending→World→Prop):Prop:=
 m R (Bo 23 c9) w fun dB dC=>
 m R (Bo 23 dA) dC fun O dD=>
 mj1 (fun dE=>
 m R (Af .lss 3 true t (.int .i64 1)) dD fun u Q=>
 Gf R u (Bp t) Q fun S T=>
 Gf R u (Bp N) T fun U V=>
 Gf R u (Ak .len #[49] 3 [false] [U]) V fun W X=>
 Gf R u (Ak .min #[3,3] 3 [false,true] [W,(.int .i64 64)]) X fun Y Z=>
 Gf R u (Af .gtr 3 false S Y) Z fun aA dF=>
 m R (Bd u (.bool true) aA) dF fun s aB=>
 Gf R s (Bp N) aB fun aC B=>
 Gf R s (Bp t) B fun aD C=>
 Gf R s (Af .sub 3 true aD (.int .i64 1)) C fun aE D=>
 Gf R s (Ag 49 aC aE) D fun aF E=>
 Gf R s (Aa 113 aF 1) E fun aG F=>
 Gf R s (Ad 111 aG) F fun aH G=>
 Gf R s (Ak .len #[111] 3 [false] [aH]) G fun aI H=>
 Gf R s (Af .eql 3 true aI (.int .i64 0)) H fun aJ aK=>
 m R (Bd s (.bool true) aJ) aK fun z aL=>
 dE z aL) fun z dH I=>
 mif z (
 R (.returned (.tuple #[(.pointer none),(.int .i64 7)])) I) (
 m R (Af .sub 3 true t (.int .i64 1)) I fun aM aN=>
 m R (Ag 49 N aM) aN fun aO aP=>
 m R (Ad 113 aO) aP fun aQ aR=>
 m R (Ar 113) aR fun c aS=>
 m R (Ai 113 c aQ) aS fun _ v=>
 Dq v (Ad 23 O) fun aT=>
 Df v (Ah (fv 62) [(.pointer none),aT]) true fun aU aV=>
 Dp (Aa 113 c 1) fun aW=>
 Dq v (Ad 111 aW) fun aX=>
 Dp (Ag 111 aX (.int .i64 0)) fun aY=>
 Dp (Aa 116 aY 1) fun aZ=>
 Dq v (Ad 23 aZ) fun a0=>
 Dp (Af .neq 23 false aU a0) fun a1=>
 dend aV fun J=>
 mif a1 (
 R (.returned (.tuple #[(.pointer none),(.int .i64 16)])) J) (
 m R (Ad 23 O) J fun a2 a3=>
 m R (Ah (fv 62) [A,a2]) a3 fun dG a=>
 mj1 (fun y=>
 ((
 Dp (Aa 113 c 1) fun d=>
 Dq a (Ad 111 d) fun e=>
 Dp (Ag 111 e (.int .i64 0)) fun f=>
 Dp (Aa 116 f 1) fun g=>
 Dq a (Ad 23 g) fun h=>
 Dp (Aa 113 c 0) fun i=>
 Dq a (Ad 23 i) fun j=>
 Dp (At 118 [(0,t),(1,h),(2,j)]) fun l=>
 Dp (At 23 []) fun n=>
 Df a (Al 55 1 [(0,l)]) false fun o a4=>
 Dp (At 58 [(0,o)]) fun p=>
 Df a4 (Ah (fv 63) [n,(.string (ByteArray.mk #[102,111,117,110,100]))]) true fun q a5=>
 Dp (At 62 [(3,p),(4,q)]) fun r=>
 Df a5 (Ar 62) true fun b a6=>
 Df a6 (Ai 62 b r) false fun _ a7=>
 dend a7 fun a8=>
 y b a8)∧(
 Dp (Aa 113 c 1) fun d=>
 Dq a (Ad 111 d) fun e=>
 Dp (Ag 111 e (.int .i64 0)) fun f=>
 Dp (Aa 116 f 1) fun g=>
 Dq a (Ad 23 g) fun h=>
 Dp (Aa 113 c 0) fun i=>
 Dq a (Ad 23 i) fun j=>
 Dp (At 118 [(0,t),(1,h),(2,j)]) fun l=>
 Dp (At 23 []) fun n=>
 Df a (Al 55 1 [(0,l)]) false fun o a9=>
 Dp (At 58 [(0,o)]) fun p=>
 Df a9 (Ar 62) true fun b bA=>
 Df bA (Ah (fv 63) [n,(.string (ByteArray.mk #[102,111,117,110,100]))]) true fun q bB=>
 Dp (At 62 [(3,p),(4,q)]) fun r=>
 Df bB (Ai 62 b r) false fun _ bC=>
 dend bC fun bD=>
 y b bD)∧(
 Dp (Aa 113 c 1) fun d=>
 Dq a (Ad 111 d) fun e=>
 Dp (Ag 111 e (.int .i64 0)) fun f=>
 Dp (Aa 116 f 1) fun g=>
 Dq a (Ad 23 g) fun h=>
 Dp (Aa 113 c 0) fun i=>
 Dq a (Ad 23 i) fun j=>
 Dp (At 118 [(0,t),(1,h),(2,j)]) fun l=>
 Dp (At 23 []) fun n=>
 Df a (Ah (fv 63) [n,(.string (ByteArray.mk #[102,111,117,110,100]))]) true fun q bE=>
 Df bE (Al 55 1 [(0,l)]) false fun o bF=>
 Dp (At 58 [(0,o)]) fun p=>
 Dp (At 62 [(3,p),(4,q)]) fun r=>
 Df bF (Ar 62) true fun b bG=>
 Df bG (Ai 62 b r) false fun _ bH=>
 dend bH fun bI=>
 y b bI)∧(
 Dp (Aa 113 c 1) fun d=>
 Dq a (Ad 111 d) fun e=>
 Dp (Ag 111 e (.int .i64 0)) fun f=>
 Dp (Aa 116 f 1) fun g=>
 Dq a (Ad 23 g) fun h=>
 Dp (Aa 113 c 0) fun i=>
 Dq a (Ad 23 i) fun j=>
 Dp (At 118 [(0,t),(1,h),(2,j)]) fun l=>
 Dp (At 23 []) fun n=>
 Df a (Ah (fv 63) [n,(.string (ByteArray.mk #[102,111,117,110,100]))]) true fun q bJ=>
 Df bJ (Ar 62) true fun b bK=>
 Df bK (Al 55 1 [(0,l)]) false fun o bL=>
 Dp (At 58 [(0,o)]) fun p=>
 Dp (At 62 [(3,p),(4,q)]) fun r=>
 Df bL (Ai 62 b r) false fun _ bM=>
 dend bM fun bN=>
 y b bN)∧(
 Dp (Aa 113 c 1) fun d=>
 Dq a (Ad 111 d) fun e=>
 Dp (Ag 111 e (.int .i64 0)) fun f=>
 Dp (Aa 116 f 1) fun g=>
 Dq a (Ad 23 g) fun h=>
 Dp (Aa 113 c 0) fun i=>
 Dq a (Ad 23 i) fun j=>
 Dp (At 118 [(0,t),(1,h),(2,j)]) fun l=>
 Dp (At 23 []) fun n=>
 Df a (Ar 62) true fun b bO=>
 Df bO (Al 55 1 [(0,l)]) false fun o bP=>
 Dp (At 58 [(0,o)]) fun p=>
 Df bP (Ah (fv 63) [n,(.string (ByteArray.mk #[102,111,117,110,100]))]) true fun q bQ=>
 Dp (At 62 [(3,p),(4,q)]) fun r=>
 Df bQ (Ai 62 b r) false fun _ bR=>
 dend bR fun bS=>
 y b bS)∧(
 Dp (Aa 113 c 1) fun d=>
 Dq a (Ad 111 d) fun e=>
 Dp (Ag 111 e (.int .i64 0)) fun f=>
 Dp (Aa 116 f 1) fun g=>
 Dq a (Ad 23 g) fun h=>
 Dp (Aa 113 c 0) fun i=>
 Dq a (Ad 23 i) fun j=>
 Dp (At 118 [(0,t),(1,h),(2,j)]) fun l=>
 Dp (At 23 []) fun n=>
 Df a (Ar 62) true fun b bT=>
 Df bT (Ah (fv 63) [n,(.string (ByteArray.mk #[102,111,117,110,100]))]) true fun q bU=>
 Df bU (Al 55 1 [(0,l)]) false fun o bV=>
 Dp (At 58 [(0,o)]) fun p=>
 Dp (At 62 [(3,p),(4,q)]) fun r=>
 Df bV (Ai 62 b r) false fun _ bW=>
 dend bW fun bX=>
 y b bX))) fun b dI bY=>
 m R (Af .sub 3 true t (.int .i64 1)) bY fun bZ b0=>
 m R (Aa 62 b 5) b0 fun b1 b2=>
 m R (Ag 60 b1 bZ) b2 fun b3 b4=>
 m R (Ai 3 b3 (.int .i64 1)) b4 fun _ x=>
 Dp (Aa 62 b 1) fun b5=>
 Dq x (Ad 23 b5) fun b6=>
 Dp (Aa 62 b 3) fun b7=>
 Dq x (Ad 58 b7) fun b8=>
 Df x (Ah (fv 65) [b8]) true fun b9 cA=>
 Dp (Aa 62 b 4) fun cB=>
 Dq x (Ad 23 cB) fun cC=>
 Df cA (Ah (fv 64) [b6,(.int .i64 0),b9,cC]) false fun K cD=>
 dend cD fun cE=>
 m R (Al 41 2 [(0,(.string (ByteArray.mk #[102,111,117,110,100]))),(1,K)]) cE fun cF cG=>
 m R (Ah (fv 34) [cF]) cG fun cH cI=>
 m R (Aa 62 b 0) cI fun cJ cK=>
 m R (Ai 23 cJ cH) cK fun _ cL=>
 m R (Ad 23 dB) cL fun cM cN=>
 m R (Ah (fv 67) [A,cM,(.string (ByteArray.mk #[102,111,117,110,100])),(.string (ByteArray.mk #[]))]) cN fun cO cP=>
 m R (Ah (fv 66) [A,cO,K]) cP fun cQ cR=>
 m R (Ar 123) cR fun L cS=>
 m R (Ai 123 L cQ) cS fun _ cT=>
 m R (Ad 62 b) cT fun cU cV=>
 m R (Ad 23 O) cV fun cW cX=>
 m R (At 128 [(1,cW)]) cX fun cY cZ=>
 m R (Al 63 1 [(0,cY)]) cZ fun c0 c1=>
 m R (Ad 123 L) c1 fun c2 c3=>
 m R (Ah (fv 68) [A,cU,t,c0,c2]) c3 fun M c4=>
 m R (As M 0) c4 fun c5 c6=>
 m R (As M 1) c6 fun c7 c8=>
 R (.returned (.tuple #[c5,c7])) c8))
theorem aGo (h:Wr x0 x1 x2 x3 x4 w R):Calls prog 20 #[x0,x1,x2,x3,x4] w R:=cc (mkA Tryz.f20 [] [(2,[34],34359672832),(8,[13],P_ 65+P_ 13-P_ 51)] [(4,[3,2,0,3,0,0,3,0]),(9,[0,3,0,3,2,0,3,4,0])] [(7,[([0,1,2,3,4,5,6,7,8,11,9,10,12,13,14,15],[0,0,3,0,0,3,0,3,0,1,0,0,5,0,8,10]),([0,1,2,3,4,5,6,7,8,11,9,10,14,12,13,15],[0,0,3,0,0,3,0,3,0,1,0,0,8,0,5,10]),([0,1,2,3,4,5,6,7,8,11,12,9,10,13,14,15],[0,0,3,0,0,3,0,3,0,4,0,0,2,0,8,10]),([0,1,2,3,4,5,6,7,8,11,12,14,9,10,13,15],[0,0,3,0,0,3,0,3,0,7,0,0,2,0,5,10]),([0,1,2,3,4,5,6,7,8,11,14,9,10,12,13,15],[0,0,3,0,0,3,0,3,0,4,0,0,8,0,2,10]),([0,1,2,3,4,5,6,7,8,11,14,12,9,10,13,15],[0,0,3,0,0,3,0,3,0,7,0,0,5,0,2,10])])] []) [x0,x1,x2,x3,x4] Tryz.func20 h
def Ls (w:World) (R:Ending→World→Prop):Prop:=
 ml2 (.slice none 0 0) (.int .i64 1) w fun h c aH X d=>
 m R (Af .leq 3 true c (.int .i64 6)) X fun Y i=>
 mif Y (
 m R (Ah (fv 24) [c]) i fun j Z=>
 m R (Ah (fv 69) [j]) Z fun l aA=>
 m R (At 113 [(0,l)]) aA fun n aB=>
 m R (Ar 113) aB fun e aC=>
 m R (Ai 113 e n) aC fun _ aD=>
 m R (Ah (fv 70) [c]) aD fun b aE=>
 ml1 (.int .i64 0) aE fun f aI aF g=>
 m R (Ak .len #[111] 3 [false] [b]) aF fun o p=>
 m R (Af .lss 3 false f o) p fun q a=>
 mif q (
 Dp (Aa 113 e 1) fun r=>
 Dq a (Ad 111 r) fun s=>
 Dp (Ag 111 b f) fun t=>
 Dp (Aa 116 t 0) fun u=>
 Dq a (Ad 23 u) fun v=>
 Df a (Ah (fv 71) [v]) true fun x y=>
 Dp (Ag 111 b f) fun z=>
 Dp (Aa 116 z 1) fun A=>
 Dq a (Ad 23 A) fun B=>
 Df y (Ah (fv 71) [B]) true fun C D=>
 Dp (At 116 [(0,x),(1,C)]) fun E=>
 Df D (Al 111 1 [(0,E)]) true fun F G=>
 Df G (Ak .append #[111,111] 111 [false,false] [s,F]) false fun H I=>
 Dp (Aa 113 e 1) fun J=>
 Df I (Ai 111 J H) false fun _ K=>
 dend K fun L=>
 m R (Af .add 3 true f (.int .i64 1)) L fun M N=>
 g M N) (
 m R (Ad 113 e) a fun O Q=>
 m R (Al 49 1 [(0,O)]) Q fun S T=>
 m R (Ak .append #[49,49] 49 [false,false] [h,S]) T fun U V=>
 m R (Af .add 3 true c (.int .i64 1)) V fun aG W=>
 d U aG W)) (
 R (.returned h) i)
theorem Uz (h:Ls w R):Calls prog 21 #[] w R:=cc (mkA Tryz.f21 [(3,[1,2],P_ 44-P_ 1),(8,[5],1099511562272)] [] [(10,[0,3,0,0,0,0,3,2,0,0,0,0,3,5,0,8,10,0,13])] [] []) [] Tryz.func21 h
def Lt (c d:Value) (w:World) (R:Ending→World→Prop):Prop:=
 m R (Ar 23) w fun a e=>
 m R (Ay 3 5 c) e fun f g=>
 m R (Ay 3 5 d) g fun h i=>
 m R (At 23 [(0,f),(1,h),(2,(.int .u8 2))]) i fun j l=>
 m R (Ai 23 a j) l fun _ b=>
 rcell prog 23 a b fun n=>
 R (.returned n) b
theorem Va (h:Lt x0 x1 w R):Calls prog 22 #[x0,x1] w R:=cc ⟨[],[],[],[],[]⟩ [x0,x1] Tryz.func22 h
def On (C c bA m5 bB m6:Value) (w:World) (R:Ending→World→Prop):Prop:=
 m R (Bo 23 m5) w fun jQ m7=>
 m R (Bo 23 m6) m7 fun b4 m8=>
 m R (Ar 28) m8 fun A m9=>
 m R (At 28 []) m9 fun jR nA=>
 m R (Ar 28) nA fun aB nB=>
 m R (Ai 28 aB jR) nB fun _ nC=>
 m R (Af .eql 46 true c (.pointer none)) nC fun jS jT=>
 mif jS (
 m R (Ad 28 aB) jT fun jU nD=>
 m R (Ai 28 A jU) nD fun _ jV=>
 rcell prog 28 A jV fun E=>
 R (.returned (.tuple #[E,(.pointer none),(.int .i64 1)])) jV) (
 m R (Ao c) jT fun jW jX=>
 m R (Aa 67 jW 4) jX fun jY jZ=>
 m R (Ad 3 jY) jZ fun j0 j1=>
 m R (Af .geq 3 true j0 (.int .i64 32)) j1 fun j2 cQ=>
 mif j2 (
 m R (Ad 28 aB) cQ fun j3 j4=>
 m R (Ai 28 A j3) j4 fun _ cR=>
 rcell prog 28 A cR fun E=>
 R (.returned (.tuple #[E,(.pointer none),(.int .i64 9)])) cR) (
 m R (Ao c) cQ fun j5 j6=>
 m R (Aa 67 j5 0) j6 fun j7 j8=>
 m R (Aa 62 j7 2) j8 fun j9 kA=>
 m R (Ad 3 j9) kA fun kB kC=>
 m R (Af .geq 3 true kB (.int .i64 4611686018427387903)) kC fun kD b5=>
 mif kD (
 m R (Ad 28 aB) b5 fun kE kF=>
 m R (Ai 28 A kE) kF fun _ cS=>
 rcell prog 28 A cS fun E=>
 R (.returned (.tuple #[E,(.pointer none),(.int .i64 5)])) cS) (
 Dp (Ao c) fun kG=>
 Dp (Aa 67 kG 0) fun kH=>
 Dp (Aa 62 kH 3) fun kI=>
 Dp (Aa 58 kI 0) fun kJ=>
 Dq b5 (Ad 55 kJ) fun kK=>
 Df b5 (Ah (fv 72) [c]) true fun kL cT=>
 Dp (Ag 55 kK kL) fun kM=>
 Dp (Aa 118 kM 2) fun kN=>
 Dq cT (Ad 23 kN) fun kO=>
 Dq b5 (Ad 23 jQ) fun kP=>
 Df cT (Ah (fv 73) [kP]) true fun kQ kR=>
 Dp (Af .neq 23 false kO kQ) fun kS=>
 dend kR fun aC=>
 mif kS (
 m R (Ad 28 aB) aC fun kT kU=>
 m R (Ai 28 A kT) kU fun _ cU=>
 rcell prog 28 A cU fun E=>
 R (.returned (.tuple #[E,(.pointer none),(.int .i64 18)])) cU) (
 Dp (Ao c) fun kV=>
 Dp (Aa 67 kV 0) fun kW=>
 Dp (Aa 62 kW 3) fun kX=>
 Dq aC (Ad 58 kX) fun kY=>
 Dp (Ao c) fun kZ=>
 Dp (Aa 67 kZ 0) fun k0=>
 Dp (Aa 62 k0 5) fun k1=>
 Dq aC (Ad 60 k1) fun k2=>
 Dp (Ao c) fun k3=>
 Dp (Aa 67 k3 0) fun k4=>
 Dp (Aa 62 k4 0) fun k5=>
 Dq aC (Ad 23 k5) fun k6=>
 Dp (Ao c) fun k7=>
 Dp (Aa 67 k7 0) fun k8=>
 Dp (Aa 62 k8 2) fun cY=>
 Dq aC (Ad 3 cY) fun cZ=>
 Dp (Ao c) fun c0=>
 Dp (Aa 67 c0 1) fun c1=>
 Dq aC (Ad 3 c1) fun c2=>
 Df aC (Ah (fv 74) [kY,k2,bA,k6,cZ,c2,bB]) false fun b9 k9=>
 dend k9 fun lA=>
 m R (Af .neq 34 true b9 (.int .i64 0)) lA fun c3 g=>
 mif c3 (
 m R (Ad 28 aB) g fun c4 lB=>
 m R (Ai 28 A c4) lB fun _ cV=>
 rcell prog 28 A cV fun E=>
 R (.returned (.tuple #[E,(.pointer none),b9])) cV) (
 mj3 (fun bC=>
 ((
 Dp (Ao c) fun l=>
 Dp (Aa 67 l 0) fun n=>
 Dp (Aa 62 n 3) fun o=>
 Dq g (Ad 58 o) fun p=>
 Dp (Ao c) fun q=>
 Dp (Aa 67 q 0) fun r=>
 Dp (Aa 62 r 5) fun s=>
 Dq g (Ad 60 s) fun t=>
 Df g (Ah (fv 75) [p,t,bA,bB]) false fun a lC=>
 Dp (As a 0) fun u=>
 Dp (As a 1) fun v=>
 Dp (As a 2) fun x=>
 Dp (As a 3) fun aD=>
 Df lC (Ar 58) true fun e lD=>
 Df lD (Ar 60) true fun h lE=>
 Df lE (Ai 58 e u) false fun _ lF=>
 Df lF (Ai 60 h v) false fun _ lG=>
 dend lG fun lH=>
 bC e h x lH)∧(
 Dp (Ao c) fun l=>
 Dp (Aa 67 l 0) fun n=>
 Dp (Aa 62 n 3) fun o=>
 Dq g (Ad 58 o) fun p=>
 Dp (Ao c) fun q=>
 Dp (Aa 67 q 0) fun r=>
 Dp (Aa 62 r 5) fun s=>
 Dq g (Ad 60 s) fun t=>
 Df g (Ah (fv 75) [p,t,bA,bB]) false fun a lI=>
 Dp (As a 0) fun u=>
 Dp (As a 1) fun v=>
 Dp (As a 2) fun x=>
 Dp (As a 3) fun aD=>
 Df lI (Ar 60) true fun h lJ=>
 Df lJ (Ar 58) true fun e lK=>
 Df lK (Ai 58 e u) false fun _ lL=>
 Df lL (Ai 60 h v) false fun _ lM=>
 dend lM fun lN=>
 bC e h x lN)∧(
 Dp (Ao c) fun l=>
 Dp (Aa 67 l 0) fun n=>
 Dp (Aa 62 n 3) fun o=>
 Dq g (Ad 58 o) fun p=>
 Dp (Ao c) fun q=>
 Dp (Aa 67 q 0) fun r=>
 Dp (Aa 62 r 5) fun s=>
 Dq g (Ad 60 s) fun t=>
 Df g (Ar 58) true fun e lO=>
 Df lO (Ah (fv 75) [p,t,bA,bB]) false fun a lP=>
 Dp (As a 0) fun u=>
 Dp (As a 1) fun v=>
 Dp (As a 2) fun x=>
 Dp (As a 3) fun aD=>
 Df lP (Ar 60) true fun h lQ=>
 Df lQ (Ai 58 e u) false fun _ lR=>
 Df lR (Ai 60 h v) false fun _ lS=>
 dend lS fun lT=>
 bC e h x lT)∧(
 Dp (Ao c) fun l=>
 Dp (Aa 67 l 0) fun n=>
 Dp (Aa 62 n 3) fun o=>
 Dq g (Ad 58 o) fun p=>
 Dp (Ao c) fun q=>
 Dp (Aa 67 q 0) fun r=>
 Dp (Aa 62 r 5) fun s=>
 Dq g (Ad 60 s) fun t=>
 Df g (Ar 58) true fun e lU=>
 Df lU (Ar 60) true fun h lV=>
 Df lV (Ah (fv 75) [p,t,bA,bB]) false fun a lW=>
 Dp (As a 0) fun u=>
 Dp (As a 1) fun v=>
 Dp (As a 2) fun x=>
 Dp (As a 3) fun aD=>
 Df lW (Ai 58 e u) false fun _ lX=>
 Df lX (Ai 60 h v) false fun _ lY=>
 dend lY fun lZ=>
 bC e h x lZ)∧(
 Dp (Ao c) fun l=>
 Dp (Aa 67 l 0) fun n=>
 Dp (Aa 62 n 3) fun o=>
 Dq g (Ad 58 o) fun p=>
 Dp (Ao c) fun q=>
 Dp (Aa 67 q 0) fun r=>
 Dp (Aa 62 r 5) fun s=>
 Dq g (Ad 60 s) fun t=>
 Df g (Ar 60) true fun h l0=>
 Df l0 (Ah (fv 75) [p,t,bA,bB]) false fun a l1=>
 Dp (As a 0) fun u=>
 Dp (As a 1) fun v=>
 Dp (As a 2) fun x=>
 Dp (As a 3) fun aD=>
 Df l1 (Ar 58) true fun e l2=>
 Df l2 (Ai 58 e u) false fun _ l3=>
 Df l3 (Ai 60 h v) false fun _ l4=>
 dend l4 fun l5=>
 bC e h x l5)∧(
 Dp (Ao c) fun l=>
 Dp (Aa 67 l 0) fun n=>
 Dp (Aa 62 n 3) fun o=>
 Dq g (Ad 58 o) fun p=>
 Dp (Ao c) fun q=>
 Dp (Aa 67 q 0) fun r=>
 Dp (Aa 62 r 5) fun s=>
 Dq g (Ad 60 s) fun t=>
 Df g (Ar 60) true fun h l6=>
 Df l6 (Ar 58) true fun e l7=>
 Df l7 (Ah (fv 75) [p,t,bA,bB]) false fun a l8=>
 Dp (As a 0) fun u=>
 Dp (As a 1) fun v=>
 Dp (As a 2) fun x=>
 Dp (As a 3) fun aD=>
 Df l8 (Ai 58 e u) false fun _ l9=>
 Df l9 (Ai 60 h v) false fun _ mA=>
 dend mA fun mB=>
 bC e h x mB))) fun e h b6 nK mC=>
 m R (Ao c) mC fun c5 mD=>
 m R (Aa 67 c5 0) mD fun c6 mE=>
 m R (Aa 62 c6 0) mE fun c7 mF=>
 m R (Ax 23 c7 none none none) mF fun c8 mG=>
 m R (Ay 89 9 c8) mG fun aE cA=>
 Dq cA (Ad 58 e) fun c9=>
 Dp (Ao c) fun dA=>
 Dp (Aa 67 dA 1) fun dB=>
 Dq cA (Ad 3 dB) fun dC=>
 Df cA (Ah (fv 76) [c9,dC]) false fun aA mH=>
 dend mH fun mI=>
 m R (Ad 58 e) mI fun dD mJ=>
 m R (Ad 23 b4) mJ fun dE mK=>
 m R (Ah (fv 77) [C,dD,aA,dE,aE,b6]) mK fun cB mL=>
 m R (As cB 0) mL fun dF mM=>
 m R (As cB 1) mM fun nE mN=>
 m R (Ar 139) mN fun F mO=>
 m R (Ai 139 F dF) mO fun _ mP=>
 m R (Aa 139 F 0) mP fun dG mQ=>
 m R (Aa 58 dG 0) mQ fun dH mR=>
 m R (Ad 55 dH) mR fun dI mS=>
 m R (Ag 55 dI aA) mS fun dJ mT=>
 m R (Ad 118 dJ) mT fun dK mU=>
 m R (Ar 118) mU fun bG mV=>
 m R (Ai 118 bG dK) mV fun _ B=>
 mj1 (fun cW=>
 ((
 Dp (Ao c) fun bH=>
 Dp (Aa 67 bH 0) fun bI=>
 Dp (Aa 62 bI 0) fun bJ=>
 Dq B (Ad 23 bJ) fun bK=>
 Dp (Ao c) fun bL=>
 Dp (Aa 67 bL 0) fun bM=>
 Dp (Aa 62 bM 2) fun bN=>
 Dq B (Ad 3 bN) fun bO=>
 Dp (Af .add 3 true bO (.int .i64 1)) fun bP=>
 Dp (Ao c) fun bQ=>
 Dp (Aa 67 bQ 1) fun bR=>
 Dq B (Ad 3 bR) fun bS=>
 Dp (Aa 118 bG 1) fun bT=>
 Dq B (Ad 23 bT) fun bU=>
 Dp (Aa 118 bG 3) fun bV=>
 Dq B (Ad 23 bV) fun bW=>
 Dp (Aa 139 F 1) fun bX=>
 Dq B (Ad 25 bX) fun bY=>
 Df B (Ah (fv 78) [bB]) true fun bZ mW=>
 Dp (At 28 [(0,bK),(1,bP),(2,bS),(3,bZ),(4,bU),(5,bW),(6,bY)]) fun b0=>
 Df mW (Ar 28) true fun i mX=>
 Df mX (Ai 28 i b0) false fun _ mY=>
 dend mY fun mZ=>
 cW i mZ)∧(
 Dp (Ao c) fun bH=>
 Dp (Aa 67 bH 0) fun bI=>
 Dp (Aa 62 bI 0) fun bJ=>
 Dq B (Ad 23 bJ) fun bK=>
 Dp (Ao c) fun bL=>
 Dp (Aa 67 bL 0) fun bM=>
 Dp (Aa 62 bM 2) fun bN=>
 Dq B (Ad 3 bN) fun bO=>
 Dp (Af .add 3 true bO (.int .i64 1)) fun bP=>
 Dp (Ao c) fun bQ=>
 Dp (Aa 67 bQ 1) fun bR=>
 Dq B (Ad 3 bR) fun bS=>
 Dp (Aa 118 bG 1) fun bT=>
 Dq B (Ad 23 bT) fun bU=>
 Dp (Aa 118 bG 3) fun bV=>
 Dq B (Ad 23 bV) fun bW=>
 Dp (Aa 139 F 1) fun bX=>
 Dq B (Ad 25 bX) fun bY=>
 Df B (Ar 28) true fun i m0=>
 Df m0 (Ah (fv 78) [bB]) true fun bZ m1=>
 Dp (At 28 [(0,bK),(1,bP),(2,bS),(3,bZ),(4,bU),(5,bW),(6,bY)]) fun b0=>
 Df m1 (Ai 28 i b0) false fun _ m2=>
 dend m2 fun m3=>
 cW i m3))) fun i nL H=>
 mj2 (fun b7=>
 ((
 Dp (Ao c) fun J=>
 Dp (Aa 67 J 3) fun K=>
 Dq H (Ad 64 K) fun L=>
 Dq H (Ad 28 i) fun M=>
 Df H (Ah (fv 13) [M]) true fun N dL=>
 Df dL (Ah (fv 80) [N]) true fun O dM=>
 Df dM (Ah (fv 79) [L,C,O]) false fun y dN=>
 Dp (As y 0) fun Q=>
 Dp (As y 1) fun S=>
 Df dN (Ar 23) true fun j dO=>
 Df dO (Ai 23 j Q) false fun _ dP=>
 dend dP fun dQ=>
 b7 j S dQ)∧(
 Dp (Ao c) fun J=>
 Dp (Aa 67 J 3) fun K=>
 Dq H (Ad 64 K) fun L=>
 Dq H (Ad 28 i) fun M=>
 Df H (Ah (fv 13) [M]) true fun N dR=>
 Df dR (Ah (fv 80) [N]) true fun O dS=>
 Df dS (Ar 23) true fun j dT=>
 Df dT (Ah (fv 79) [L,C,O]) false fun y dU=>
 Dp (As y 0) fun Q=>
 Dp (As y 1) fun S=>
 Df dU (Ai 23 j Q) false fun _ dV=>
 dend dV fun dW=>
 b7 j S dW)∧(
 Dp (Ao c) fun J=>
 Dp (Aa 67 J 3) fun K=>
 Dq H (Ad 64 K) fun L=>
 Dq H (Ad 28 i) fun M=>
 Df H (Ah (fv 13) [M]) true fun N dX=>
 Df dX (Ar 23) true fun j dY=>
 Df dY (Ah (fv 80) [N]) true fun O dZ=>
 Df dZ (Ah (fv 79) [L,C,O]) false fun y d0=>
 Dp (As y 0) fun Q=>
 Dp (As y 1) fun S=>
 Df d0 (Ai 23 j Q) false fun _ d1=>
 dend d1 fun d2=>
 b7 j S d2)∧(
 Dp (Ao c) fun J=>
 Dp (Aa 67 J 3) fun K=>
 Dq H (Ad 64 K) fun L=>
 Dq H (Ad 28 i) fun M=>
 Df H (Ar 23) true fun j d3=>
 Df d3 (Ah (fv 13) [M]) true fun N d4=>
 Df d4 (Ah (fv 80) [N]) true fun O d5=>
 Df d5 (Ah (fv 79) [L,C,O]) false fun y d6=>
 Dp (As y 0) fun Q=>
 Dp (As y 1) fun S=>
 Df d6 (Ai 23 j Q) false fun _ d7=>
 dend d7 fun d8=>
 b7 j S d8))) fun j cX nM d9=>
 m R (Af .neq 34 true cX (.int .i64 0)) d9 fun eA cC=>
 mif eA (
 m R (Ad 28 aB) cC fun eB eC=>
 m R (Ai 28 A eB) eC fun _ cD=>
 rcell prog 28 A cD fun E=>
 R (.returned (.tuple #[E,(.pointer none),cX])) cD) (
 m R (Aa 139 F 0) cC fun eD eE=>
 m R (Ad 58 eD) eE fun eF eG=>
 m R (Ad 60 h) eG fun eH eI=>
 m R (Ad 28 i) eI fun eJ eK=>
 m R (Ah (fv 81) [c,eF,eH,eJ]) eK fun eL eM=>
 m R (Ar 62) eM fun I eN=>
 m R (Ai 62 I eL) eN fun _ d=>
 mj1 (fun b8=>
 ((
 Dq d (Ad 23 j) fun T=>
 Dp (Aa 139 F 4) fun U=>
 Dq d (Ad 23 U) fun V=>
 Dq d (Ad 62 I) fun W=>
 Df d (Ah (fv 82) [C,T,V]) true fun X eO=>
 Df eO (Ah (fv 83) [W]) false fun Y eP=>
 Df eP (Ah (fv 66) [C,X,Y]) false fun Z eQ=>
 Df eQ (Ar 123) true fun f eR=>
 Df eR (Ai 123 f Z) false fun _ eS=>
 dend eS fun eT=>
 b8 f eT)∧(
 Dq d (Ad 23 j) fun T=>
 Dp (Aa 139 F 4) fun U=>
 Dq d (Ad 23 U) fun V=>
 Dq d (Ad 62 I) fun W=>
 Df d (Ah (fv 82) [C,T,V]) true fun X eU=>
 Df eU (Ah (fv 83) [W]) false fun Y eV=>
 Df eV (Ar 123) true fun f eW=>
 Df eW (Ah (fv 66) [C,X,Y]) false fun Z eX=>
 Df eX (Ai 123 f Z) false fun _ eY=>
 dend eY fun eZ=>
 b8 f eZ)∧(
 Dq d (Ad 23 j) fun T=>
 Dp (Aa 139 F 4) fun U=>
 Dq d (Ad 23 U) fun V=>
 Dq d (Ad 62 I) fun W=>
 Df d (Ah (fv 82) [C,T,V]) true fun X e0=>
 Df e0 (Ar 123) true fun f e1=>
 Df e1 (Ah (fv 83) [W]) false fun Y e2=>
 Df e2 (Ah (fv 66) [C,X,Y]) false fun Z e3=>
 Df e3 (Ai 123 f Z) false fun _ e4=>
 dend e4 fun e5=>
 b8 f e5)∧(
 Dq d (Ad 23 j) fun T=>
 Dp (Aa 139 F 4) fun U=>
 Dq d (Ad 23 U) fun V=>
 Dq d (Ad 62 I) fun W=>
 Df d (Ar 123) true fun f e6=>
 Df e6 (Ah (fv 82) [C,T,V]) true fun X e7=>
 Df e7 (Ah (fv 83) [W]) false fun Y e8=>
 Df e8 (Ah (fv 66) [C,X,Y]) false fun Z e9=>
 Df e9 (Ai 123 f Z) false fun _ fA=>
 dend fA fun fB=>
 b8 f fB))) fun f nN fC=>
 m R (Ah (fv 36) []) fC fun bD fD=>
 m R (Aa 62 I 4) fD fun fE fF=>
 m R (Ad 23 fE) fF fun fG fH=>
 m R (Ah (fv 84) [bD,fG]) fH fun nF fI=>
 m R (Aa 62 I 5) fI fun fJ fK=>
 m R (Ad 60 fJ) fK fun fL fM=>
 ml1 (.int .i64 0) fM fun b1 nO fN cE=>
 m R (Af .lss 3 true b1 (.int .i64 64)) fN fun fO cF=>
 mif fO (
 m R (Cq 60 fL b1) cF fun fP fQ=>
 m R (Ah (fv 85) [bD,fP]) fQ fun nG fR=>
 m R (Af .add 3 true b1 (.int .i64 1)) fR fun fS fT=>
 cE fS fT) (
 m R (Aa 62 I 3) cF fun fU fV=>
 m R (Ad 58 fU) fV fun fW fX=>
 m R (Ah (fv 87) [fW]) fX fun fY fZ=>
 m R (Ah (fv 86) [bD,fY]) fZ fun nH f0=>
 m R (Ah (fv 38) [bD]) f0 fun cG f1=>
 m R (As cG 0) f1 fun f2 f3=>
 m R (As cG 1) f3 fun nI f4=>
 m R (Aa 123 f 1) f4 fun f5 f6=>
 m R (Ad 23 f5) f6 fun f7 f8=>
 m R (Ah (fv 88) [C,f7,aE,f2,(.slice none 0 0)]) f8 fun f9 gA=>
 m R (Aa 28 i 7) gA fun gB gC=>
 m R (Ai 9 gB f9) gC fun _ gD=>
 m R (Aa 58 e 0) gD fun gE gF=>
 m R (Ad 55 gE) gF fun gG gH=>
 m R (Ak .len #[55] 3 [false] [gG]) gH fun bE gI=>
 m R (Ah (fv 89) [bE,aA]) gI fun b2 gJ=>
 m R (Ah (fv 90) [bB]) gJ fun cH gK=>
 m R (Ak .len #[133] 3 [false] [cH]) gK fun gL gM=>
 ml1 (.int .i64 0) gM fun G nP gN cI=>
 m R (Af .lss 3 false G gL) gN fun gO cJ=>
 mif gO (
 m R (Ag 133 cH G) cJ fun gP gQ=>
 m R (Ad 3 gP) gQ fun aF D=>
 mj1 (fun cK=>
 ((
 Dp (Aa 139 F 2) fun aG=>
 Dq D (Ad 137 aG) fun aH=>
 Dp (Ag 133 b6 G) fun aI=>
 Dq D (Ad 3 aI) fun aJ=>
 Df D (Ah (fv 92) [bE,aA,aJ]) true fun aK gR=>
 Df gR (Ah (fv 91) [b2,aK]) true fun aL cL=>
 Dp (Ag 137 aH aL) fun aM=>
 Dq cL (Ad 23 aM) fun aN=>
 Df cL (Ar 23) true fun z gS=>
 Df gS (Ai 23 z aN) false fun _ gT=>
 dend gT fun gU=>
 cK z gU)∧(
 Dp (Aa 139 F 2) fun aG=>
 Dq D (Ad 137 aG) fun aH=>
 Dp (Ag 133 b6 G) fun aI=>
 Dq D (Ad 3 aI) fun aJ=>
 Df D (Ah (fv 92) [bE,aA,aJ]) true fun aK cM=>
 Df cM (Ar 23) true fun z gV=>
 Df gV (Ah (fv 91) [b2,aK]) true fun aL gW=>
 Dp (Ag 137 aH aL) fun aM=>
 Dq cM (Ad 23 aM) fun aN=>
 Df gW (Ai 23 z aN) false fun _ gX=>
 dend gX fun gY=>
 cK z gY)∧(
 Dp (Aa 139 F 2) fun aG=>
 Dq D (Ad 137 aG) fun aH=>
 Dp (Ag 133 b6 G) fun aI=>
 Dq D (Ad 3 aI) fun aJ=>
 Df D (Ar 23) true fun z gZ=>
 Df gZ (Ah (fv 92) [bE,aA,aJ]) true fun aK g0=>
 Df g0 (Ah (fv 91) [b2,aK]) true fun aL g1=>
 Dp (Ag 137 aH aL) fun aM=>
 Dq D (Ad 23 aM) fun aN=>
 Df g1 (Ai 23 z aN) false fun _ g2=>
 dend g2 fun g3=>
 cK z g3))) fun z nQ g4=>
 m R (Af .sub 3 true aF (.int .i64 1)) g4 fun g5 g6=>
 m R (Ao c) g6 fun g7 g8=>
 m R (Aa 67 g7 0) g8 fun g9 hA=>
 m R (Aa 62 g9 5) hA fun hB hC=>
 m R (Ag 60 hB g5) hC fun hD hE=>
 m R (Ad 3 hD) hE fun bF b=>
 mj1 (fun cN=>
 ((
 Dp (Af .sub 3 true aF (.int .i64 1)) fun aO=>
 Dp (Ag 49 bA aO) fun aP=>
 Dp (Aa 113 aP 1) fun aQ=>
 Dq b (Ad 111 aQ) fun aR=>
 Dp (Ag 111 aR bF) fun aS=>
 Dp (Aa 116 aS 0) fun aT=>
 Dq b (Ad 23 aT) fun aU=>
 Dq b (Ad 23 b4) fun aV=>
 Dp (Aa 123 f 0) fun aW=>
 Dp (Ax 23 aW none none none) fun aX=>
 Dq b (Ay 89 9 aX) fun aY=>
 Dp (Ax 23 z none none none) fun aZ=>
 Dq b (Ay 89 9 aZ) fun a0=>
 Dp (Af .add 9 false aY a0) fun a1=>
 Dp (Aa 123 f 0) fun a2=>
 Dq b (Ad 23 a2) fun a3=>
 Dq b (Ad 23 z) fun a4=>
 Df b (Ah (fv 94) [G]) true fun a5 hF=>
 Df hF (Ah (fv 67) [C,aV,(.string (ByteArray.mk #[119,101,108,99,111,109,101])),a5]) true fun a6 hG=>
 Df hG (Al 137 2 [(0,a3),(1,a4)]) true fun a7 hH=>
 Df hH (Ah (fv 93) [C,aU,a6,aE,a1,a7]) false fun a8 hI=>
 dend hI fun hJ=>
 cN a8 hJ)∧(
 Dp (Af .sub 3 true aF (.int .i64 1)) fun aO=>
 Dp (Ag 49 bA aO) fun aP=>
 Dp (Aa 113 aP 1) fun aQ=>
 Dq b (Ad 111 aQ) fun aR=>
 Dp (Ag 111 aR bF) fun aS=>
 Dp (Aa 116 aS 0) fun aT=>
 Dq b (Ad 23 aT) fun aU=>
 Dq b (Ad 23 b4) fun aV=>
 Dp (Aa 123 f 0) fun aW=>
 Dp (Ax 23 aW none none none) fun aX=>
 Dq b (Ay 89 9 aX) fun aY=>
 Dp (Ax 23 z none none none) fun aZ=>
 Dq b (Ay 89 9 aZ) fun a0=>
 Dp (Af .add 9 false aY a0) fun a1=>
 Dp (Aa 123 f 0) fun a2=>
 Dq b (Ad 23 a2) fun a3=>
 Dq b (Ad 23 z) fun a4=>
 Df b (Ah (fv 94) [G]) true fun a5 hK=>
 Df hK (Al 137 2 [(0,a3),(1,a4)]) true fun a7 hL=>
 Df hL (Ah (fv 67) [C,aV,(.string (ByteArray.mk #[119,101,108,99,111,109,101])),a5]) true fun a6 hM=>
 Df hM (Ah (fv 93) [C,aU,a6,aE,a1,a7]) false fun a8 hN=>
 dend hN fun hO=>
 cN a8 hO)∧(
 Dp (Af .sub 3 true aF (.int .i64 1)) fun aO=>
 Dp (Ag 49 bA aO) fun aP=>
 Dp (Aa 113 aP 1) fun aQ=>
 Dq b (Ad 111 aQ) fun aR=>
 Dp (Ag 111 aR bF) fun aS=>
 Dp (Aa 116 aS 0) fun aT=>
 Dq b (Ad 23 aT) fun aU=>
 Dq b (Ad 23 b4) fun aV=>
 Dp (Aa 123 f 0) fun aW=>
 Dp (Ax 23 aW none none none) fun aX=>
 Dq b (Ay 89 9 aX) fun aY=>
 Dp (Ax 23 z none none none) fun aZ=>
 Dq b (Ay 89 9 aZ) fun a0=>
 Dp (Af .add 9 false aY a0) fun a1=>
 Dp (Aa 123 f 0) fun a2=>
 Dq b (Ad 23 a2) fun a3=>
 Dq b (Ad 23 z) fun a4=>
 Df b (Al 137 2 [(0,a3),(1,a4)]) true fun a7 hP=>
 Df hP (Ah (fv 94) [G]) true fun a5 hQ=>
 Df hQ (Ah (fv 67) [C,aV,(.string (ByteArray.mk #[119,101,108,99,111,109,101])),a5]) true fun a6 hR=>
 Df hR (Ah (fv 93) [C,aU,a6,aE,a1,a7]) false fun a8 hS=>
 dend hS fun hT=>
 cN a8 hT))) fun m4 nR hU=>
 m R (Aa 28 i 8) hU fun hV hW=>
 m R (Ad 26 hV) hW fun hX hY=>
 m R (At 45 [(0,aF),(1,bF),(2,m4)]) hY fun hZ h0=>
 m R (Al 26 1 [(0,hZ)]) h0 fun h1 h2=>
 m R (Ak .append #[26,26] 26 [false,false] [hX,h1]) h2 fun h3 h4=>
 m R (Aa 28 i 8) h4 fun h5 h6=>
 m R (Ai 26 h5 h3) h6 fun _ h7=>
 m R (Af .add 3 true G (.int .i64 1)) h7 fun h8 h9=>
 cI h8 h9) (
 m R (Aa 123 f 4) cJ fun iA iB=>
 m R (Ad 23 iA) iB fun iC iD=>
 m R (Aa 62 I 4) iD fun iE iF=>
 m R (Ad 23 iE) iF fun iG iH=>
 m R (Ah (fv 95) [iC,iG]) iH fun iI iJ=>
 m R (Aa 28 i 9) iJ fun iK iL=>
 m R (Ai 23 iK iI) iL fun _ b3=>
 Dq b3 (Ad 23 jQ) fun iM=>
 Dq b3 (Ad 28 i) fun iN=>
 Df b3 (Ah (fv 43) [iN]) true fun iO iP=>
 Df iP (Ah (fv 96) [iM,iO]) false fun iQ iR=>
 Dp (Aa 28 i 10) fun iS=>
 Df iR (Ai 23 iS iQ) false fun _ iT=>
 dend iT fun iU=>
 m R (Ad 28 i) iU fun iV iW=>
 m R (Ah (fv 11) [iV]) iW fun iX iY=>
 m R (Aa 62 I 0) iY fun iZ i0=>
 m R (Ai 23 iZ iX) i0 fun _ a9=>
 Dq a9 (Ad 62 I) fun i1=>
 Dp (Ao c) fun i2=>
 Dp (Aa 67 i2 1) fun i3=>
 Dq a9 (Ad 3 i3) fun i4=>
 Dp (Aa 139 F 3) fun i5=>
 Dq a9 (Ad 63 i5) fun i6=>
 Dq a9 (Ad 123 f) fun i7=>
 Df a9 (Ah (fv 68) [C,i1,i4,i6,i7]) false fun cO i8=>
 Dp (As cO 0) fun i9=>
 Dp (As cO 1) fun nJ=>
 dend i8 fun jA=>
 m R (Ao c) jA fun jB jC=>
 m R (Aa 67 jB 4) jC fun jD jE=>
 m R (Ad 3 jD) jE fun jF jG=>
 m R (Af .add 3 true jF (.int .i64 1)) jG fun jH jI=>
 m R (Ao c) jI fun jJ jK=>
 m R (Aa 67 jJ 4) jK fun jL jM=>
 m R (Ai 3 jL jH) jM fun _ jN=>
 m R (Ad 28 i) jN fun jO jP=>
 m R (Ai 28 A jO) jP fun _ cP=>
 rcell prog 28 A cP fun E=>
 R (.returned (.tuple #[E,i9,(.int .i64 0)])) cP))))))))
theorem Zm (h:On x0 x1 x2 x3 x4 x5 w R):Calls prog 23 #[x0,x1,x2,x3,x4,x5] w R:=cc (mkA Tryz.f23 [(27,[220],P_ 227+P_ 33-P_ 220),(37,[253],P_ 317+P_ 43-P_ 253-P_ 38)] [(14,[17,18,19],P_ 130+P_ 21-P_ 112-P_ 17),(19,[26],P_ 182+P_ 26-P_ 158),(20,[27,28],P_ 194+P_ 29-P_ 182-P_ 27),(24,[30],P_ 213+P_ 30-P_ 204),(40,[40],P_ 271+P_ 40-P_ 258),(42,[42],P_ 307+P_ 42-P_ 279)] [(8,[0,0,0,0,0,3,0,2,0,0,6,3,5,0,0]),(10,[0,0,0,0,3,0,0,0,0,3,0,0,0,0,0,3,0,0,0,0,3,0,0,0,3,0,1,0]),(15,[3,0,0,0,3,1,0]),(45,[3,3,2,4,0,7]),(47,[0,3,0,0,0,3,0,3,3,1,0,0,0,0,0])] [(13,[([0,1,2,3,4,5,6,7,8,9,10,11,12,13,14,15,16,17,18,19,20,21,22,23],[0,0,0,0,3,0,0,0,0,3,0,0,1,0,0,0,0,0,5,8,10,13,0,0]),([0,1,2,3,4,5,6,7,8,9,10,11,12,13,14,15,16,17,19,18,20,21,22,23],[0,0,0,0,3,0,0,0,0,3,0,0,1,0,0,0,0,0,8,5,10,13,0,0]),([0,1,2,3,4,5,6,7,8,9,10,11,18,12,13,14,15,16,17,19,20,21,22,23],[0,0,0,0,3,0,0,0,0,3,0,0,4,0,0,0,0,0,2,8,10,13,0,0]),([0,1,2,3,4,5,6,7,8,9,10,11,18,19,12,13,14,15,16,17,20,21,22,23],[0,0,0,0,3,0,0,0,0,3,0,0,7,0,0,0,0,0,2,5,10,13,0,0]),([0,1,2,3,4,5,6,7,8,9,10,11,19,12,13,14,15,16,17,18,20,21,22,23],[0,0,0,0,3,0,0,0,0,3,0,0,4,0,0,0,0,0,8,2,10,13,0,0]),([0,1,2,3,4,5,6,7,8,9,10,11,19,18,12,13,14,15,16,17,20,21,22,23],[0,0,0,0,3,0,0,0,0,3,0,0,7,0,0,0,0,0,5,2,10,13,0,0])]),(18,[([0,1,2,3,4,5,6,7,8,9,10,11,12,13,14,15,17,18,19,20,21,22,16,23,24,25],[0,0,0,0,3,0,0,0,0,3,0,0,0,0,3,0,2,0,3,0,3,0,3,0,5,7]),([0,1,2,3,4,5,6,7,8,9,10,11,12,13,14,15,17,18,19,20,21,22,24,16,23,25],[0,0,0,0,3,0,0,0,0,3,0,0,0,0,3,0,5,0,3,0,3,0,3,0,2,7])]),(19,[([0,1,2,3,4,5,6,7,8,9,10,11,12,13,14],[0,0,0,3,0,3,2,5,7,0,0,0,11,13,0]),([0,1,2,3,4,5,6,7,12,8,9,10,11,13,14],[0,0,0,3,0,3,2,5,10,0,0,0,8,13,0]),([0,1,2,3,4,5,6,12,7,8,9,10,11,13,14],[0,0,0,3,0,3,2,8,10,0,0,0,5,13,0]),([0,1,2,3,4,5,12,6,7,8,9,10,11,13,14],[0,0,0,3,0,3,5,8,10,0,0,0,2,13,0])]),(23,[([0,1,2,3,4,6,5,7,8,9,10],[0,0,3,0,3,2,3,4,7,11,13]),([0,1,2,3,4,6,5,7,9,8,10],[0,0,3,0,3,2,3,4,10,8,13]),([0,1,2,3,4,6,5,9,7,8,10],[0,0,3,0,3,2,3,7,10,5,13]),([0,1,2,3,4,6,9,5,7,8,10],[0,0,3,0,3,5,3,7,10,2,13])]),(39,[([0,1,2,3,4,5,6,7,8,9,10,11,12,13,14],[0,3,0,0,0,0,0,0,3,2,5,0,9,8,10]),([0,1,2,3,4,5,6,7,8,9,13,10,11,12,14],[0,3,0,0,0,0,0,0,3,2,8,0,6,5,10]),([0,1,2,3,4,5,6,7,8,13,9,10,11,12,14],[0,3,0,0,0,0,0,0,3,5,8,0,3,2,10])]),(41,[([0,1,2,3,4,5,6,7,8,9,10,11,12,13,16,17,18,19,20,21,22,23,24,25,14,15,26,27,28],[0,0,0,0,0,0,3,0,0,0,3,0,3,0,2,5,0,0,0,3,0,3,0,0,3,3,8,10,0]),([0,1,2,3,4,5,6,7,8,9,10,11,12,13,16,17,18,19,20,21,22,23,24,25,14,26,15,27,28],[0,0,0,0,0,0,3,0,0,0,3,0,3,0,2,8,0,0,0,3,0,3,0,0,3,3,5,10,0]),([0,1,2,3,4,5,6,7,8,9,10,11,12,13,16,17,18,19,20,21,22,23,24,25,26,14,15,27,28],[0,0,0,0,0,0,3,0,0,0,3,0,3,0,5,8,0,0,0,3,0,3,0,0,3,3,2,10,0])])] []) [x0,x1,x2,x3,x4,x5] Tryz.func23 h
def Lu (c:Value) (w:World) (R:Ending→World→Prop):Prop:=
 m R (Ar 23) w fun a d=>
 m R (Ay 3 5 c) d fun e f=>
 m R (At 23 [(0,e),(1,(.int .u8 55))]) f fun g h=>
 m R (Ai 23 a g) h fun _ b=>
 rcell prog 23 a b fun i=>
 R (.returned i) b
theorem Vb (h:Lu x0 w R):Calls prog 24 #[x0] w R:=cc ⟨[],[],[],[],[]⟩ [x0] Tryz.func24 h
def Oo (b:Value) (w:World) (R:Ending→World→Prop):Prop:=
 m R (Af .geq 3 true b (.int .i64 1)) w fun a c=>
 Gt R a (Bp b) c fun e d=>
 Gt R a (Af .leq 3 true e (.int .i64 64)) d fun f g=>
 m R (Bd a f (.bool false)) g fun h i=>
 R (.returned h) i
theorem Zn (h:Oo x0 w R):Calls prog 25 #[x0] w R:=cc ⟨[],[],[],[],[]⟩ [x0] Tryz.func25 h
def Lv (a:Value) (w:World) (R:Ending→World→Prop):Prop:=
 m R (Ak .len #[9] 3 [false] [a]) w fun b c=>
 m R (Af .gtr 3 true b (.int .i64 1024)) c fun d e=>
 R (.returned d) e
theorem Vc (h:Lv x0 w R):Calls prog 26 #[x0] w R:=cc ⟨[],[],[],[],[]⟩ [x0] Tryz.func26 h
def Lw (E F:Value) (w:World) (R:Ending→World→Prop):Prop:=
 m R (Bo 45 E) w fun c G=>
 m R (Aa 45 c 0) G fun H I=>
 m R (Ad 3 H) I fun J K=>
 m R (Ah (fv 25) [J]) K fun L M=>
 m R (Cz .not L) M fun d l=>
 Gf R d (Aa 45 c 1) l fun N n=>
 Gf R d (Ad 3 N) n fun o p=>
 Gf R d (Af .lss 3 true o (.int .i64 0)) p fun q O=>
 m R (Bd d (.bool true) q) O fun b r=>
 Gf R b (Aa 45 c 1) r fun s e=>
 Gf R b (Ad 3 s) e fun t f=>
 Gf R b (Af .gtr 3 true t (.int .i64 4611686018427387903)) f fun u v=>
 m R (Bd b (.bool true) u) v fun a g=>
 Gf R a (Ad 40 F) g fun x h=>
 Gf R a (Aa 45 c 2) h fun y i=>
 Gf R a (Ad 9 y) i fun z j=>
 Gf R a (Ah x [z]) j fun A B=>
 m R (Bd a (.bool true) A) B fun C D=>
 R (.returned C) D
theorem Vd (h:Lw x0 x1 w R):Calls prog 27 #[x0,x1] w R:=cc ⟨[],[],[],[],[]⟩ [x0,x1] Tryz.func27 h
def Dr (a b:Value) (w:World) (R:Ending→World→Prop):Prop:=
 m R (Ah (fv 97) [a,b]) w fun c d=>
 m R (Af .geq 3 true c (.int .i64 0)) d fun e f=>
 R (.returned e) f
theorem Fx (h:Dr x0 x1 w R):Calls prog 28 #[x0,x1] w R:=cc ⟨[],[],[],[],[]⟩ [x0,x1] Tryz.func28 h
def Cp (a b:Value) (w:World) (R:Ending→World→Prop):Prop:=
 m R (Ah (fv 98) [a,b]) w fun c d=>
 m R (Af .geq 3 true c (.int .i64 0)) d fun e f=>
 R (.returned e) f
theorem Ec (h:Cp x0 x1 w R):Calls prog 29 #[x0,x1] w R:=cc ⟨[],[],[],[],[]⟩ [x0,x1] Tryz.func29 h
def Lx (a:Value) (w:World) (R:Ending→World→Prop):Prop:=
 m R (Bo 75 a) w fun b c=>
 m R (Ad 75 b) c fun d e=>
 m R (Ah (fv 31) [d]) e fun f g=>
 m R (Cz .not f) g fun h i=>
 R (.returned h) i
theorem Ve (h:Lx x0 w R):Calls prog 30 #[x0] w R:=cc ⟨[],[],[],[],[]⟩ [x0] Tryz.func30 h
def Oq (a7:Value) (w:World) (R:Ending→World→Prop):Prop:=
 m R (Bo 75 a7) w fun c a8=>
 m R (Aa 75 c 4) a8 fun a9 bA=>
 m R (Ad 73 a9) bA fun bB bC=>
 m R (Ar 73) bC fun f bD=>
 m R (Ai 73 f bB) bD fun _ bE=>
 mj1 (fun bF=>
 m R (Aa 75 c 1) bE fun bG bH=>
 m R (Ad 3 bG) bH fun bI bJ=>
 m R (Af .lss 3 true bI (.int .i64 0)) bJ fun i G=>
 Gf R i (Aa 75 c 1) G fun H I=>
 Gf R i (Ad 3 H) I fun J j=>
 Gf R i (Af .gtr 3 true J (.int .i64 4611686018427387903)) j fun K L=>
 m R (Bd i (.bool true) K) L fun a l=>
 Gf R a (Aa 75 c 2) l fun M n=>
 Gf R a (Ad 3 M) n fun N o=>
 Gf R a (Ah (fv 99) [N]) o fun O p=>
 Gf R a (Cz .not O) p fun Q S=>
 m R (Bd a (.bool true) Q) S fun b q=>
 Gf R b (Aa 73 f 1) q fun T r=>
 Gf R b (Ad 3 T) r fun U s=>
 Gf R b (Ah (fv 99) [U]) s fun V t=>
 Gf R b (Cz .not V) t fun W X=>
 m R (Bd b (.bool true) W) X fun d u=>
 Gf R d (Aa 75 c 3) u fun Y v=>
 Gf R d (Ad 3 Y) v fun Z x=>
 Gf R d (Af .lss 3 true Z (.int .i64 1)) x fun aA aB=>
 m R (Bd d (.bool true) aA) aB fun e y=>
 Gf R e (Aa 75 c 3) y fun aC z=>
 Gf R e (Ad 3 aC) z fun aD A=>
 Gf R e (Af .gtr 3 true aD (.int .i64 4611686018427387903)) A fun aE aF=>
 m R (Bd e (.bool true) aE) aF fun g aG=>
 bF g aG) fun g bK B=>
 mif g (
 R (.returned (.bool false)) B) (
 m R (Aa 73 f 0) B fun aH aI=>
 m R (Ad 3 aH) aI fun h aJ=>
 m R (Af .eql 3 true h (.int .i64 2)) aJ fun aK C=>
 mif aK (
 m R (Aa 73 f 1) C fun aL aM=>
 m R (Ad 3 aL) aM fun aN aO=>
 m R (Aa 75 c 2) aO fun aP aQ=>
 m R (Ad 3 aP) aQ fun aR aS=>
 m R (Af .eql 3 false aN aR) aS fun aT aU=>
 R (.returned aT) aU) (
 mj1 (fun aV=>
 m R (Af .eql 3 true h (.int .i64 1)) C fun D E=>
 mif D (
 aV D E) (
 m R (Af .eql 3 true h (.int .i64 3)) E fun aW aX=>
 aV aW aX)) fun aY bL F=>
 mif aY (
 m R (Aa 73 f 2) F fun aZ a0=>
 m R (Ad 23 aZ) a0 fun a1 a2=>
 m R (At 23 []) a2 fun a3 a4=>
 m R (Af .eql 23 false a1 a3) a4 fun a5 a6=>
 R (.returned a5) a6) (
 R (.returned (.bool false)) F)))
theorem Zo (h:Oq x0 w R):Calls prog 31 #[x0] w R:=cc ⟨[],[(3,[35],68719476672),(9,[45],P_ 48-P_ 45)],[],[],[]⟩ [x0] Tryz.func31 h
def Cr (a b:Value) (w:World) (R:Ending→World→Prop):Prop:=
 m R (Ah (fv 100) [a,b]) w fun c d=>
 m R (Af .geq 3 true c (.int .i64 0)) d fun e f=>
 R (.returned e) f
theorem Ek (h:Cr x0 x1 w R):Calls prog 32 #[x0,x1] w R:=cc ⟨[],[],[],[],[]⟩ [x0,x1] Tryz.func32 h
def Ke (bR:Value) (w:World) (R:Ending→World→Prop):Prop:=
 m R (Bo 75 bR) w fun a bS=>
 m R (Aa 75 a 4) bS fun bT bU=>
 m R (Ad 73 bT) bU fun bV bW=>
 m R (Ar 73) bW fun b bX=>
 m R (Ai 73 b bV) bX fun _ bY=>
 mj1 (fun bZ=>
 m R (Aa 75 a 1) bY fun b0 b1=>
 m R (Ad 3 b0) b1 fun b2 b3=>
 m R (Af .lss 3 true b2 (.int .i64 0)) b3 fun n Q=>
 Gf R n (Aa 75 a 1) Q fun S T=>
 Gf R n (Ad 3 S) T fun U o=>
 Gf R n (Af .gtr 3 true U (.int .i64 4611686018427387903)) o fun V W=>
 m R (Bd n (.bool true) V) W fun d p=>
 Gf R d (Aa 75 a 3) p fun X q=>
 Gf R d (Ad 3 X) q fun Y r=>
 Gf R d (Af .lss 3 true Y (.int .i64 1)) r fun Z aA=>
 m R (Bd d (.bool true) Z) aA fun e s=>
 Gf R e (Aa 75 a 3) s fun aB t=>
 Gf R e (Ad 3 aB) t fun aC u=>
 Gf R e (Af .gtr 3 true aC (.int .i64 4611686018427387903)) u fun aD aE=>
 m R (Bd e (.bool true) aD) aE fun j aF=>
 bZ j aF) fun j b5 v=>
 mif j (
 R (.returned (.bool false)) v) (
 mj1 (fun b4=>
 m R (Aa 75 a 2) v fun aG aH=>
 m R (Ad 3 aG) aH fun aI aJ=>
 m R (Af .lss 3 true aI (.int .i64 1)) aJ fun f x=>
 Gf R f (Aa 75 a 2) x fun aK y=>
 Gf R f (Ad 3 aK) y fun aL z=>
 Gf R f (Af .gtr 3 true aL (.int .i64 64)) z fun aM aN=>
 m R (Bd f (.bool true) aM) aN fun g A=>
 Gf R g (Aa 73 b 1) A fun aO B=>
 Gf R g (Ad 3 aO) B fun aP C=>
 Gf R g (Af .lss 3 true aP (.int .i64 1)) C fun aQ aR=>
 m R (Bd g (.bool true) aQ) aR fun h D=>
 Gf R h (Aa 73 b 1) D fun aS E=>
 Gf R h (Ad 3 aS) E fun aT F=>
 Gf R h (Af .gtr 3 true aT (.int .i64 64)) F fun aU aV=>
 m R (Bd h (.bool true) aU) aV fun l aW=>
 b4 l aW) fun l b6 G=>
 mif l (
 R (.returned (.bool false)) G) (
 m R (Aa 73 b 0) G fun aX aY=>
 m R (Ad 3 aX) aY fun aZ a0=>
 m R (Af .eql 3 true aZ (.int .i64 2)) a0 fun a1 H=>
 mif a1 (
 m R (Aa 73 b 1) H fun a2 a3=>
 m R (Ad 3 a2) a3 fun a4 a5=>
 m R (Aa 75 a 2) a5 fun a6 a7=>
 m R (Ad 3 a6) a7 fun a8 a9=>
 m R (Af .eql 3 false a4 a8) a9 fun bA bB=>
 R (.returned bA) bB) (
 m R (Aa 73 b 0) H fun bC bD=>
 m R (Ad 3 bC) bD fun bE bF=>
 m R (Af .eql 3 true bE (.int .i64 1)) bF fun i I=>
 Gf R i (Aa 73 b 0) I fun bG J=>
 Gf R i (Ad 3 bG) J fun bH K=>
 Gf R i (Af .eql 3 true bH (.int .i64 3)) K fun bI bJ=>
 m R (Bd i (.bool true) bI) bJ fun c L=>
 Gt R c (Aa 73 b 2) L fun bK M=>
 Gt R c (Ad 23 bK) M fun bL N=>
 Gt R c (At 23 []) N fun bM O=>
 Gt R c (Af .eql 23 false bL bM) O fun bN bO=>
 m R (Bd c bN (.bool false)) bO fun bP bQ=>
 R (.returned bP) bQ)))
theorem Sy (h:Ke x0 w R):Calls prog 33 #[x0] w R:=cc ⟨[],[(3,[23],16777152),(5,[41],4398029733888)],[],[],[]⟩ [x0] Tryz.func33 h
def aCz (o:Value) (w:World) (R:Ending→World→Prop):Prop:=
 m R (Ar 23) w fun p bX=>
 m R (At 165 [(0,(.int .u32 1779033703)),(1,(.int .u32 3144134277)),(2,(.int .u32 1013904242)),(3,(.int .u32 2773480762)),(4,(.int .u32 1359893119)),(5,(.int .u32 2600822924)),(6,(.int .u32 528734635)),(7,(.int .u32 1541459225))]) bX fun q bY=>
 m R (Ah (fv 101) []) bY fun r bZ=>
 m R (At 170 [(0,q),(3,r)]) bZ fun s b0=>
 m R (Bo 170 s) b0 fun a b1=>
 m R (Ak .len #[41] 3 [false] [o]) b1 fun t b2=>
 ml1 (.int .i64 0) b2 fun d cA b3 g=>
 m R (Af .lss 3 false d t) b3 fun u v=>
 mif u (
 m R (Ag 41 o d) v fun x b4=>
 m R (Ad 9 x) b4 fun y z=>
 m R (Ah (fv 102) [a,y]) z fun b6 A=>
 m R (Af .add 3 true d (.int .i64 1)) A fun B C=>
 g B C) (
 m R (Ar 171) v fun n D=>
 m R (Ag 171 n (.int .i64 0)) D fun E F=>
 m R (Ai 5 E (.int .u8 128)) F fun _ G=>
 m R (Ao a) G fun H I=>
 m R (Aa 170 H 2) I fun J K=>
 m R (Ad 3 J) K fun L M=>
 m R (Af .add 3 true L (.int .i64 8)) M fun N O=>
 m R (Af .rem 3 true N (.int .i64 64)) O fun Q S=>
 m R (Af .sub 3 true (.int .i64 64) Q) S fun h T=>
 ml1 (.int .i64 0) T fun c b7 U e=>
 m R (Af .lss 3 true c (.int .i64 8)) U fun V i=>
 mif V (
 m R (Af .add 3 false h c) i fun W X=>
 m R (Ao a) X fun Y Z=>
 m R (Aa 170 Y 2) Z fun aA aB=>
 m R (Ad 3 aA) aB fun aC aD=>
 m R (Ay 3 172 aC) aD fun aE aF=>
 m R (Af .mul 172 true aE (.int .u64 8)) aF fun aG aH=>
 m R (Af .mul 3 true (.int .i64 8) c) aH fun aI aJ=>
 m R (Af .sub 3 true (.int .i64 56) aI) aJ fun aK aL=>
 m R (Af .shr 172 false aG aK) aL fun aM aN=>
 m R (Ay 172 5 aM) aN fun aO aP=>
 m R (Ag 171 n W) aP fun aQ aR=>
 m R (Ai 5 aQ aO) aR fun _ aS=>
 m R (Af .add 3 true c (.int .i64 1)) aS fun aT aU=>
 e aT aU) (
 m R (Af .add 3 true h (.int .i64 8)) i fun aV aW=>
 m R (Ax 171 n none (some aV) none) aW fun aX aY=>
 m R (Ay 89 9 aX) aY fun aZ a0=>
 m R (Ah (fv 102) [a,aZ]) a0 fun b8 a1=>
 m R (Ar 23) a1 fun a2 a3=>
 ml1 (.int .i64 0) a3 fun b b9 a4 f=>
 m R (Af .lss 3 true b (.int .i64 32)) a4 fun a5 j=>
 mif a5 (
 m R (Af .quo 3 true b (.int .i64 4)) j fun a6 a7=>
 m R (Ao a) a7 fun a8 a9=>
 m R (Aa 170 a8 0) a9 fun bA bB=>
 m R (Ag 165 bA a6) bB fun bC bD=>
 m R (Ad 164 bC) bD fun bE bF=>
 m R (Af .rem 3 true b (.int .i64 4)) bF fun bG bH=>
 m R (Af .mul 3 true (.int .i64 8) bG) bH fun bI bJ=>
 m R (Af .sub 3 true (.int .i64 24) bI) bJ fun bK bL=>
 m R (Af .shr 164 false bE bK) bL fun bM bN=>
 m R (Ay 164 5 bM) bN fun bO bP=>
 m R (Ag 23 a2 b) bP fun bQ bR=>
 m R (Ai 5 bQ bO) bR fun _ bS=>
 m R (Af .add 3 true b (.int .i64 1)) bS fun bT bU=>
 f bT bU) (
 m R (Ad 23 a2) j fun bV bW=>
 m R (Ai 23 p bV) bW fun _ l=>
 rcell prog 23 p l fun b5=>
 R (.returned b5) l)))
theorem aOc (h:aCz x0 w R):Calls prog 34 #[x0] w R:=cc ⟨[(3,[17],33423392),(11,[33],4503591037436160),(18,[58],P_ 77+P_ 10-P_ 58)],[],[],[],[]⟩ [x0] Tryz.func34 h
def Nt (c0:Value) (w:World) (R:Ending→World→Prop):Prop:=
 m R (Ar 22) w fun c1 gM=>
 m R (At 166 [(0,(.int .u32 1116352408)),(1,(.int .u32 1899447441)),(2,(.int .u32 3049323471)),(3,(.int .u32 3921009573)),(4,(.int .u32 961987163)),(5,(.int .u32 1508970993)),(6,(.int .u32 2453635748)),(7,(.int .u32 2870763221)),(8,(.int .u32 3624381080)),(9,(.int .u32 310598401)),(10,(.int .u32 607225278)),(11,(.int .u32 1426881987)),(12,(.int .u32 1925078388)),(13,(.int .u32 2162078206)),(14,(.int .u32 2614888103)),(15,(.int .u32 3248222580)),(16,(.int .u32 3835390401)),(17,(.int .u32 4022224774)),(18,(.int .u32 264347078)),(19,(.int .u32 604807628)),(20,(.int .u32 770255983)),(21,(.int .u32 1249150122)),(22,(.int .u32 1555081692)),(23,(.int .u32 1996064986)),(24,(.int .u32 2554220882)),(25,(.int .u32 2821834349)),(26,(.int .u32 2952996808)),(27,(.int .u32 3210313671)),(28,(.int .u32 3336571891)),(29,(.int .u32 3584528711)),(30,(.int .u32 113926993)),(31,(.int .u32 338241895)),(32,(.int .u32 666307205)),(33,(.int .u32 773529912)),(34,(.int .u32 1294757372)),(35,(.int .u32 1396182291)),(36,(.int .u32 1695183700)),(37,(.int .u32 1986661051)),(38,(.int .u32 2177026350)),(39,(.int .u32 2456956037)),(40,(.int .u32 2730485921)),(41,(.int .u32 2820302411)),(42,(.int .u32 3259730800)),(43,(.int .u32 3345764771)),(44,(.int .u32 3516065817)),(45,(.int .u32 3600352804)),(46,(.int .u32 4094571909)),(47,(.int .u32 275423344)),(48,(.int .u32 430227734)),(49,(.int .u32 506948616)),(50,(.int .u32 659060556)),(51,(.int .u32 883997877)),(52,(.int .u32 958139571)),(53,(.int .u32 1322822218)),(54,(.int .u32 1537002063)),(55,(.int .u32 1747873779)),(56,(.int .u32 1955562222)),(57,(.int .u32 2024104815)),(58,(.int .u32 2227730452)),(59,(.int .u32 2361852424)),(60,(.int .u32 2428436474)),(61,(.int .u32 2756734187)),(62,(.int .u32 3204031479)),(63,(.int .u32 3329325298))]) gM fun c2 gN=>
 m R (Ar 166) gN fun c3 gO=>
 m R (Ai 166 c3 c2) gO fun _ gP=>
 m R (Ay 9 89 c0) gP fun c4 gQ=>
 m R (Al 89 1 [(0,(.int .u8 128))]) gQ fun c5 gR=>
 m R (Ak .append #[89,89] 89 [false,false] [c4,c5]) gR fun c6 gS=>
 ml1 c6 gS fun i g2 gT D=>
 m R (Ak .len #[89] 3 [false] [i]) gT fun c7 gU=>
 m R (Af .rem 3 true c7 (.int .i64 64)) gU fun c8 c9=>
 m R (Af .neq 3 true c8 (.int .i64 56)) c9 fun dA F=>
 mif dA (
 m R (Al 89 1 [(0,(.int .u8 0))]) F fun dB dC=>
 m R (Ak .append #[89,89] 89 [false,false] [i,dB]) dC fun dD dE=>
 D dD dE) (
 m R (Ak .len #[9] 3 [false] [c0]) F fun dF dG=>
 m R (Ay 3 172 dF) dG fun dH dI=>
 m R (Af .mul 172 true dH (.int .u64 8)) dI fun dJ dK=>
 ml2 i (.int .i64 0) dK fun i M g3 dL E=>
 m R (Af .lss 3 true M (.int .i64 8)) dL fun dM G=>
 mif dM (
 m R (Af .mul 3 true (.int .i64 8) M) G fun dN dO=>
 m R (Af .sub 3 true (.int .i64 56) dN) dO fun dP dQ=>
 m R (Ay 3 173 dP) dQ fun dR dS=>
 m R (Af .shr 172 false dJ dR) dS fun dT dU=>
 m R (Ay 172 5 dT) dU fun dV dW=>
 m R (Al 89 1 [(0,dV)]) dW fun dX dY=>
 m R (Ak .append #[89,89] 89 [false,false] [i,dX]) dY fun dZ d0=>
 m R (Af .add 3 true M (.int .i64 1)) d0 fun d1 d2=>
 E dZ d1 d2) (
 m R (At 165 [(0,(.int .u32 1779033703)),(1,(.int .u32 3144134277)),(2,(.int .u32 1013904242)),(3,(.int .u32 2773480762)),(4,(.int .u32 1359893119)),(5,(.int .u32 2600822924)),(6,(.int .u32 528734635)),(7,(.int .u32 1541459225))]) G fun d3 d4=>
 m R (Ar 165) d4 fun p d5=>
 m R (Ai 165 p d3) d5 fun _ d6=>
 ml1 (.int .i64 0) d6 fun N gW d7 q=>
 m R (Ak .len #[89] 3 [false] [i]) d7 fun d8 d9=>
 m R (Af .lss 3 false N d8) d9 fun eA H=>
 mif eA (
 m R (Ar 166) H fun j eB=>
 ml1 (.int .i64 0) eB fun l gX eC r=>
 m R (Af .lss 3 true l (.int .i64 16)) eC fun eD I=>
 mif eD (
 m R (Af .mul 3 true (.int .i64 4) l) I fun eE eF=>
 m R (Af .add 3 false N eE) eF fun eG eH=>
 m R (Ah (fv 103) [i,eG]) eH fun eI eJ=>
 m R (Ag 166 j l) eJ fun eK eL=>
 m R (Ai 164 eK eI) eL fun _ eM=>
 m R (Af .add 3 true l (.int .i64 1)) eM fun eN eO=>
 r eN eO) (
 ml1 (.int .i64 16) I fun b gY eP s=>
 m R (Af .lss 3 true b (.int .i64 64)) eP fun eQ J=>
 mif eQ (
 m R (Af .sub 3 true b (.int .i64 15)) J fun eR eS=>
 m R (Ag 166 j eR) eS fun eT eU=>
 m R (Ad 164 eT) eU fun t eV=>
 m R (Af .sub 3 true b (.int .i64 2)) eV fun eW eX=>
 m R (Ag 166 j eW) eX fun eY eZ=>
 m R (Ad 164 eY) eZ fun u v=>
 Dp (Af .sub 3 true b (.int .i64 16)) fun e0=>
 Dp (Ag 166 j e0) fun e1=>
 Dq v (Ad 164 e1) fun e2=>
 Dp (Af .sub 3 true b (.int .i64 7)) fun e3=>
 Dp (Ag 166 j e3) fun e4=>
 Dq v (Ad 164 e4) fun e5=>
 Dp (Af .add 164 false e2 e5) fun e6=>
 Df v (Ah (fv 104) [t,(.int .u64 7)]) true fun e7 e8=>
 Df e8 (Ah (fv 104) [t,(.int .u64 18)]) true fun e9 fA=>
 Dp (Af .xor 164 false e7 e9) fun fB=>
 Dp (Af .shr 164 true t (.int .u64 3)) fun O=>
 Dp (Af .xor 164 false fB O) fun Q=>
 Dp (Af .add 164 false e6 Q) fun S=>
 Df fA (Ah (fv 104) [u,(.int .u64 17)]) true fun T fC=>
 Df fC (Ah (fv 104) [u,(.int .u64 19)]) true fun U fD=>
 Dp (Af .xor 164 false T U) fun V=>
 Dp (Af .shr 164 true u (.int .u64 10)) fun W=>
 Dp (Af .xor 164 false V W) fun X=>
 Dp (Af .add 164 false S X) fun Y=>
 Dp (Ag 166 j b) fun Z=>
 Df fD (Ai 164 Z Y) false fun _ fE=>
 dend fE fun fF=>
 m R (Af .add 3 true b (.int .i64 1)) fF fun fG fH=>
 s fG fH) (
 m R (Ad 165 p) J fun aA fI=>
 m R (Ar 165) fI fun a fJ=>
 m R (Ai 165 a aA) fJ fun _ fK=>
 ml1 (.int .i64 0) fK fun n gZ fL x=>
 m R (Af .lss 3 true n (.int .i64 64)) fL fun aB K=>
 mif aB (
 m R (Ag 165 a (.int .i64 4)) K fun aC fM=>
 m R (Ad 164 aC) fM fun c fN=>
 m R (Ag 165 a (.int .i64 0)) fN fun aD fO=>
 m R (Ad 164 aD) fO fun d e=>
 Dp (Ag 165 a (.int .i64 7)) fun aE=>
 Dq e (Ad 164 aE) fun aF=>
 Df e (Ah (fv 104) [c,(.int .u64 6)]) true fun aG fP=>
 Df fP (Ah (fv 104) [c,(.int .u64 11)]) true fun aH fQ=>
 Dp (Af .xor 164 false aG aH) fun aI=>
 Df fQ (Ah (fv 104) [c,(.int .u64 25)]) true fun aJ fR=>
 Dp (Af .xor 164 false aI aJ) fun aK=>
 Dp (Af .add 164 false aF aK) fun aL=>
 Dp (Ag 165 a (.int .i64 5)) fun aM=>
 Dq e (Ad 164 aM) fun aN=>
 Dp (Af .and 164 false c aN) fun aO=>
 Dp (Cz .xor c) fun aP=>
 Dp (Ag 165 a (.int .i64 6)) fun aQ=>
 Dq e (Ad 164 aQ) fun aR=>
 Dp (Af .and 164 false aP aR) fun aS=>
 Dp (Af .xor 164 false aO aS) fun aT=>
 Dp (Af .add 164 false aL aT) fun aU=>
 Dp (Ag 166 c3 n) fun aV=>
 Dq e (Ad 164 aV) fun aW=>
 Dp (Af .add 164 false aU aW) fun aX=>
 Dp (Ag 166 j n) fun aY=>
 Dq e (Ad 164 aY) fun aZ=>
 Dp (Af .add 164 false aX aZ) fun y=>
 dend fR fun f=>
 Df f (Ah (fv 104) [d,(.int .u64 2)]) true fun a0 fS=>
 Df fS (Ah (fv 104) [d,(.int .u64 13)]) true fun a1 fT=>
 Dp (Af .xor 164 false a0 a1) fun a2=>
 Df fT (Ah (fv 104) [d,(.int .u64 22)]) true fun a3 fU=>
 Dp (Af .xor 164 false a2 a3) fun a4=>
 Dp (Ag 165 a (.int .i64 1)) fun a5=>
 Dq f (Ad 164 a5) fun a6=>
 Dp (Af .and 164 false d a6) fun a7=>
 Dp (Ag 165 a (.int .i64 2)) fun a8=>
 Dq f (Ad 164 a8) fun a9=>
 Dp (Af .and 164 false d a9) fun bA=>
 Dp (Af .xor 164 false a7 bA) fun bB=>
 Dp (Ag 165 a (.int .i64 1)) fun bC=>
 Dq f (Ad 164 bC) fun bD=>
 Dp (Ag 165 a (.int .i64 2)) fun bE=>
 Dq f (Ad 164 bE) fun bF=>
 Dp (Af .and 164 false bD bF) fun bG=>
 Dp (Af .xor 164 false bB bG) fun bH=>
 Dp (Af .add 164 false a4 bH) fun bI=>
 dend fU fun fV=>
 m R (Af .add 164 false y bI) fV fun bJ fW=>
 m R (Ag 165 a (.int .i64 0)) fW fun bK fX=>
 m R (Ad 164 bK) fX fun bL fY=>
 m R (Ag 165 a (.int .i64 1)) fY fun bM fZ=>
 m R (Ad 164 bM) fZ fun bN f0=>
 m R (Ag 165 a (.int .i64 2)) f0 fun bO f1=>
 m R (Ad 164 bO) f1 fun bP f2=>
 m R (Ag 165 a (.int .i64 3)) f2 fun bQ f3=>
 m R (Ad 164 bQ) f3 fun bR f4=>
 m R (Af .add 164 false bR y) f4 fun bS f5=>
 m R (Ag 165 a (.int .i64 4)) f5 fun bT f6=>
 m R (Ad 164 bT) f6 fun bU f7=>
 m R (Ag 165 a (.int .i64 5)) f7 fun bV f8=>
 m R (Ad 164 bV) f8 fun bW f9=>
 m R (Ag 165 a (.int .i64 6)) f9 fun bX gA=>
 m R (Ad 164 bX) gA fun bY gB=>
 m R (At 165 [(0,bJ),(1,bL),(2,bN),(3,bP),(4,bS),(5,bU),(6,bW),(7,bY)]) gB fun bZ gC=>
 m R (Ai 165 a bZ) gC fun _ gD=>
 m R (Af .add 3 true n (.int .i64 1)) gD fun b0 gE=>
 x b0 gE) (
 ml1 (.int .i64 0) K fun g g0 gF z=>
 m R (Af .lss 3 true g (.int .i64 8)) gF fun b1 o=>
 mif b1 (
 Dp (Ag 165 p g) fun b2=>
 Dq o (Ad 164 b2) fun b3=>
 Dp (Ag 165 a g) fun b4=>
 Dq o (Ad 164 b4) fun b5=>
 Dp (Af .add 164 false b3 b5) fun b6=>
 Dp (Ag 165 p g) fun b7=>
 Df o (Ai 164 b7 b6) false fun _ gG=>
 dend gG fun gH=>
 m R (Af .add 3 true g (.int .i64 1)) gH fun b8 gI=>
 z b8 gI) (
 m R (Af .add 3 true N (.int .i64 64)) o fun gJ gK=>
 q gJ gK))))) (
 m R (Ar 22) H fun L gL=>
 ml1 (.int .i64 0) gL fun h g1 b9 A=>
 m R (Af .lss 3 true h (.int .i64 32)) b9 fun cA B=>
 mif cA (
 m R (Af .quo 3 true h (.int .i64 4)) B fun cB cC=>
 m R (Ag 165 p cB) cC fun cD cE=>
 m R (Ad 164 cD) cE fun cF cG=>
 m R (Af .rem 3 true h (.int .i64 4)) cG fun cH cI=>
 m R (Af .mul 3 true (.int .i64 8) cH) cI fun cJ cK=>
 m R (Af .sub 3 true (.int .i64 24) cJ) cK fun cL cM=>
 m R (Ay 3 173 cL) cM fun cN cO=>
 m R (Af .shr 164 false cF cN) cO fun cP cQ=>
 m R (Ay 164 5 cP) cQ fun cR cS=>
 m R (Ag 22 L h) cS fun cT cU=>
 m R (Ai 5 cT cR) cU fun _ cV=>
 m R (Af .add 3 true h (.int .i64 1)) cV fun cW cX=>
 A cW cX) (
 m R (Ad 22 L) B fun cY cZ=>
 m R (Ai 22 c1 cY) cZ fun _ C=>
 rcell prog 22 c1 C fun gV=>
 R (.returned gV) C))))
theorem Xu (h:Nt x0 w R):Calls prog 35 #[x0] w R:=cc (mkA Tryz.f35 [(4,[4],68182605840),(8,[4,6],18013298997854288),(13,[8],P_ 210+P_ 21-P_ 55-P_ 8),(17,[10],P_ 73+P_ 10-P_ 61),(21,[11],P_ 114+P_ 14-P_ 73-P_ 11),(28,[15],P_ 197+P_ 20-P_ 115-P_ 15),(36,[20],P_ 210+P_ 20-P_ 197),(41,[22],P_ 227+P_ 22-P_ 210)] [] [(25,[0,0,0,0,3,0,0,0,3,0,0,2,0,5,0,0,0,0,0,0,8,0,11,0,0,0,0,0,0,13]),(32,[0,3,0,2,0,5,0,0,8,0,0,0,0,3,0,0,0,0,3,0,0,0,0,0,3,0,0,0,3,0,0]),(33,[0,2,0,5,0,0,8,0,0,0,3,0,0,0,3,0,0,0,3,0,3,0,0,0,0]),(38,[0,0,0,3,0,0,3,0,0,1])] [] []) [x0] Tryz.func35 h
def Zp (w:World) (R:Ending→World→Prop):Prop:=
 m R (At 177 []) w fun a b=>
 m R (Bo 177 a) b fun c d=>
 R (.returned c) d
theorem aJk (h:Zp w R):Calls prog 36 #[] w R:=cc ⟨[],[],[],[],[]⟩ [] Tryz.func36 h
def Qn (W X:Value) (w:World) (R:Ending→World→Prop):Prop:=
 m R (Bo 80 W) w fun a Y=>
 m R (Bo 28 X) Y fun b Z=>
 m R (Ad 80 a) Z fun aA aB=>
 m R (Aa 28 b 0) aB fun aC aD=>
 m R (Ad 23 aC) aD fun aE aF=>
 m R (Ah (fv 84) [aA,aE]) aF fun aS aG=>
 m R (Ad 80 a) aG fun aH aI=>
 m R (Aa 28 b 1) aI fun aJ aK=>
 m R (Ad 3 aJ) aK fun c aL=>
 m R (Ah (fv 85) [aH,c]) aL fun aM d=>
 m R (Ad 80 a) d fun e f=>
 m R (Aa 28 b 2) f fun g h=>
 m R (Ad 3 g) h fun i j=>
 m R (Ah (fv 85) [e,i]) j fun aN l=>
 m R (Ad 80 a) l fun n o=>
 m R (Aa 28 b 3) o fun p q=>
 m R (Ad 24 p) q fun r s=>
 m R (Gc (.func 106) [] [a]) s fun t u=>
 m R (Ah (fv 105) [n,r,t]) u fun aO v=>
 m R (Ad 80 a) v fun x y=>
 m R (Aa 28 b 4) y fun z A=>
 m R (Ad 23 z) A fun B C=>
 m R (Ah (fv 84) [x,B]) C fun aP D=>
 m R (Ad 80 a) D fun E F=>
 m R (Aa 28 b 5) F fun G H=>
 m R (Ad 23 G) H fun I J=>
 m R (Ah (fv 84) [E,I]) J fun aQ K=>
 m R (Ad 80 a) K fun L M=>
 m R (Aa 28 b 6) M fun N O=>
 m R (Ad 25 N) O fun Q S=>
 m R (Gc (.func 109) [] [a]) S fun T U=>
 m R (Ah (fv 108) [L,Q,T]) U fun aR V=>
 R (.returned (.tuple #[])) V
theorem aBu (h:Qn x0 x1 w R):Calls prog 37 #[x0,x1] w R:=cc ⟨[],[],[],[],[]⟩ [x0,x1] Tryz.func37 h
def Kf (c:Value) (w:World) (R:Ending→World→Prop):Prop:=
 mj1 (fun r=>
 m R (Af .eql 80 true c (.pointer none)) w fun a d=>
 Gf R a (Bp c) d fun s e=>
 Gf R a (Ao s) e fun t f=>
 Gf R a (Aa 177 t 1) f fun u g=>
 Gf R a (Ad 4 u) g fun h v=>
 m R (Bd a (.bool true) h) v fun b x=>
 r b x) fun b A i=>
 mif b (
 R (.returned (.tuple #[(.string (ByteArray.mk #[])),(.int .i64 1)])) i) (
 m R (Ao c) i fun j y=>
 m R (Aa 177 j 0) y fun l z=>
 m R (Ad 89 l) z fun n o=>
 m R (Ay 89 9 n) o fun p q=>
 R (.returned (.tuple #[p,(.int .i64 0)])) q)
theorem Sz (h:Kf x0 w R):Calls prog 38 #[x0] w R:=cc ⟨[],[(2,[11],4080)],[],[],[]⟩ [x0] Tryz.func38 h
def Nu (a:Value) (w:World) (R:Ending→World→Prop):Prop:=
 m R (Af .lss 3 true a (.int .i64 64)) w fun a1 g=>
 mif a1 (
 m R (Ay 3 5 a) g fun a2 a3=>
 m R (Al 89 1 [(0,a2)]) a3 fun a4 a5=>
 m R (Ay 89 9 a4) a5 fun h a6=>
 R (.returned h) a6) (
 m R (Af .lss 3 true a (.int .i64 16384)) g fun i j=>
 mif i (
 m R (Af .quo 3 true a (.int .i64 256)) j fun l a7=>
 m R (Af .add 3 true (.int .i64 64) l) a7 fun n a8=>
 m R (Ay 3 5 n) a8 fun o a9=>
 m R (Af .rem 3 true a (.int .i64 256)) a9 fun p bA=>
 m R (Ay 3 5 p) bA fun q r=>
 m R (Al 89 2 [(0,o),(1,q)]) r fun s t=>
 m R (Ay 89 9 s) t fun u v=>
 R (.returned u) v) (
 m R (Af .lss 3 true a (.int .i64 1073741824)) j fun x d=>
 mif x (
 m R (Af .quo 3 true a (.int .i64 16777216)) d fun y z=>
 m R (Af .add 3 true (.int .i64 128) y) z fun A B=>
 m R (Ay 3 5 A) B fun C D=>
 m R (Af .quo 3 true a (.int .i64 65536)) D fun E F=>
 m R (Af .rem 3 true E (.int .i64 256)) F fun G H=>
 m R (Ay 3 5 G) H fun I J=>
 m R (Af .quo 3 true a (.int .i64 256)) J fun K L=>
 m R (Af .rem 3 true K (.int .i64 256)) L fun M N=>
 m R (Ay 3 5 M) N fun O Q=>
 m R (Af .rem 3 true a (.int .i64 256)) Q fun S T=>
 m R (Ay 3 5 S) T fun U V=>
 m R (Al 89 4 [(0,C),(1,I),(2,O),(3,U)]) V fun W X=>
 m R (Ay 89 9 W) X fun Y Z=>
 R (.returned Y) Z) (
 m R (Ar 183) d fun b aA=>
 ml2 a (.int .i64 7) aA fun a f bB aB c=>
 m R (Af .geq 3 true f (.int .i64 0)) aB fun aC e=>
 mif aC (
 m R (Af .rem 3 true a (.int .i64 256)) e fun aD aE=>
 m R (Ay 3 5 aD) aE fun aF aG=>
 m R (Ag 183 b f) aG fun aH aI=>
 m R (Ai 5 aH aF) aI fun _ aJ=>
 m R (Af .quo 3 true a (.int .i64 256)) aJ fun aK aL=>
 m R (Af .sub 3 true f (.int .i64 1)) aL fun aM aN=>
 c aK aM aN) (
 m R (Ag 183 b (.int .i64 0)) e fun aO aP=>
 m R (Ad 5 aO) aP fun aQ aR=>
 m R (Af .add 5 true aQ (.int .u8 192)) aR fun aS aT=>
 m R (Ag 183 b (.int .i64 0)) aT fun aU aV=>
 m R (Ai 5 aU aS) aV fun _ aW=>
 m R (Ax 183 b none none none) aW fun aX aY=>
 m R (Ay 89 9 aX) aY fun aZ a0=>
 R (.returned aZ) a0))))
theorem Xv (h:Nu x0 w R):Calls prog 40 #[x0] w R:=cc ⟨[(9,[0,4],4501400604114961)],[],[],[],[]⟩ [x0] Tryz.func40 h
def Nv (H:Value) (w:World) (R:Ending→World→Prop):Prop:=
 m R (Bo 28 H) w fun b I=>
 m R (Ah (fv 36) []) I fun J K=>
 m R (Ar 80) K fun a L=>
 m R (Ai 80 a J) L fun _ M=>
 m R (Ad 80 a) M fun N O=>
 m R (Ad 28 b) O fun Q S=>
 m R (Ah (fv 37) [N,Q]) S fun aA T=>
 m R (Ad 80 a) T fun d U=>
 m R (Aa 28 b 7) U fun e V=>
 m R (Ad 9 e) V fun f g=>
 m R (Ah (fv 86) [d,f]) g fun W h=>
 m R (Ad 80 a) h fun i j=>
 m R (Aa 28 b 8) j fun l n=>
 m R (Ad 26 l) n fun o p=>
 m R (Gc (.func 114) [] [a]) p fun q r=>
 m R (Ah (fv 113) [i,o,q]) r fun X s=>
 m R (Ad 80 a) s fun t u=>
 m R (Aa 28 b 9) u fun v x=>
 m R (Ad 23 v) x fun y z=>
 m R (Ah (fv 84) [t,y]) z fun Y A=>
 m R (Ad 80 a) A fun B C=>
 m R (Ah (fv 38) [B]) C fun c D=>
 m R (As c 0) D fun E F=>
 m R (As c 1) F fun Z G=>
 R (.returned E) G
theorem Xw (h:Nv x0 w R):Calls prog 43 #[x0] w R:=cc ⟨[],[],[],[],[]⟩ [x0] Tryz.func43 h
def Ey (r s v:Value) (w:World) (R:Ending→World→Prop):Prop:=
 m R (Af .neq 20 true v (.nilIface:Value)) w fun t b=>
 mif t (
 m R (Yo v 20 91 true) b fun a u=>
 m R (As a 0) u fun c x=>
 m R (As a 1) x fun d y=>
 m R (Ar 91) y fun e z=>
 m R (Ai 91 e c) z fun _ A=>
 mj0 (fun f=>
 m R (Cz .not d) A fun g h=>
 mif g (
 m R (Hu v) h fun _ B=>
 f B) (
 f h)) fun C i=>
 ∃ S:Rl,
 Dp (At 28 []) fun j=>
 Dp (Aa 91 e 0) fun l=>
 dqS prog S i (Ad 34 l) fun n=>
 dfS prog S i (Ai 28 r j) true fun _ o=>
 dfS prog S o (Ai 34 s n) false fun _ p=>
 dend p fun q=>
 R (.returned (.tuple #[])) q) (
 R (.returned (.tuple #[])) b)
def Kg:Ann:=⟨[],[(5,[],57344)],[(5,[⟨0,.q none,0,0,65536⟩,⟨1,.q none,8,0,131072⟩,⟨2,.q (some 0),131072,2,262144⟩,⟨3,.f 0 true,65537,1,0⟩,⟨4,.f 1 false,262146,15,0⟩])],[],[5]⟩
theorem Ta (x0 x1 v:Value) (w:World) (u:FrameMode) (R:Ending→FrameMode→World→Prop):cwp prog Kg (cr (Tryz.f44.body.getD .skip)) (clPost prog Tryz.f44.results.toList R u) (((argE [x0,x1]).set (some 5) v).set (some 2) v) w=Ey x0 x1 v w (fun en w=>R en u w):=by kernel_rfl
theorem Kh {x0 x1:Value} {w:World} {u:FrameMode} {R:Ending→FrameMode→World→Prop} (h:Ey x0 x1 (rcv u).1 w (fun en w=>R en (rcv u).2 w)):CallsD prog 44 #[x0,x1] u w R:=
 Yx (A:=Kg) (caps:=[x0,x1]) (c2:=cr (Tryz.f44.body.getD .skip)) (id:=0) (o1:=cop (cl (Tryz.f44.body.getD .skip)) 0) (o2:=cop (cl (Tryz.f44.body.getD .skip)) 1) (r:=5) (d:=2) mixed Tryz.func44 (by kernel_rfl) ⟨by kernel_rfl,by kernel_rfl,by kernel_rfl⟩ ⟨by kernel_rfl,by kernel_rfl,by kernel_rfl⟩ (by kernel_rfl) (by kernel_rfl) (by kernel_rfl) (by kernel_rfl) ((Ta x0 x1 (rcv u).1 w (rcv u).2 R).mpr h)
def Ws (a:Value) (w:World) (R:Ending→World→Prop):Prop:=
 m R (At 187 [(0,a)]) w fun b c=>
 m R (Bo 187 b) c fun d e=>
 R (.returned d) e
theorem aGp (h:Ws x0 w R):Calls prog 45 #[x0] w R:=cc ⟨[],[],[],[],[]⟩ [x0] Tryz.func45 h
def Ki (c:Value) (w:World) (R:Ending→World→Prop):Prop:=
 m R (Ad 93 c) w fun d e=>
 m R (Ah (fv 47) [d]) e fun a f=>
 m R (Af .neq 34 true a (.int .i64 0)) f fun g b=>
 mif g (
 m R (At 91 [(0,a)]) b fun h i=>
 m R (Pq 91 h) i fun j l=>
 m R (Hu j) l fun _ n=>
 R (.returned (.tuple #[])) n) (
 R (.returned (.tuple #[])) b)
theorem Tb (h:Ki x0 w R):Calls prog 46 #[x0] w R:=cc ⟨[],[],[],[],[]⟩ [x0] Tryz.func46 h
def Kj (a:Value) (w:World) (R:Ending→World→Prop):Prop:=
 m R (Af .eql 93 true a (.pointer none)) w fun c b=>
 mif c (
 R (.returned (.int .i64 1)) b) (
 m R (Ao a) b fun d e=>
 m R (Aa 187 d 1) e fun f g=>
 m R (Ad 34 f) g fun h i=>
 R (.returned h) i)
theorem Tc (h:Kj x0 w R):Calls prog 47 #[x0] w R:=cc ⟨[],[],[],[],[]⟩ [x0] Tryz.func47 h
def Ji (g:Value) (w:World) (R:Ending→World→Prop):Prop:=
 m R (Ar 23) w fun a h=>
 m R (Ar 23) h fun b i=>
 m R (Ah (fv 115) [g,(.int .i64 32)]) i fun c j=>
 m R (As c 0) j fun l n=>
 m R (As c 1) n fun t o=>
 m R (Ax 23 b none none none) o fun d p=>
 m R (Ak .copy #[89,9] 3 [false,false] [d,l]) p fun u q=>
 m R (Ad 23 b) q fun e r=>
 m R (Ai 23 a e) r fun _ f=>
 rcell prog 23 a f fun s=>
 R (.returned s) f
theorem Rm (h:Ji x0 w R):Calls prog 48 #[x0] w R:=cc ⟨[],[],[],[],[]⟩ [x0] Tryz.func48 h
def Kk (c bW:Value) (w:World) (R:Ending→World→Prop):Prop:=
 mj1 (fun bX=>
 m R (Af .eql 93 true c (.pointer none)) w fun b z=>
 Gf R b (Bp c) z fun A B=>
 Gf R b (Ao A) B fun C D=>
 Gf R b (Aa 187 C 1) D fun E F=>
 Gf R b (Ad 34 E) F fun G H=>
 Gf R b (Af .neq 34 true G (.int .i64 0)) H fun I bY=>
 m R (Bd b (.bool true) I) bY fun d bZ=>
 bX d bZ) fun d b4 J=>
 mif d (
 R (.returned (.int .i64 0)) J) (
 m R (Ao c) J fun K b0=>
 m R (Aa 187 K 0) b0 fun L M=>
 m R (Ad 9 L) M fun N O=>
 m R (Af .eql 9 true N (.string (ByteArray.mk #[]))) O fun Q i=>
 mif Q (
 m R (Ao c) i fun S T=>
 m R (Aa 187 S 1) T fun U V=>
 m R (Ai 34 U (.int .i64 2)) V fun _ W=>
 R (.returned (.int .i64 0)) W) (
 m R (Ao c) i fun X Y=>
 m R (Aa 187 X 0) Y fun Z aA=>
 m R (Ad 9 Z) aA fun aB aC=>
 m R (Cq 9 aB (.int .i64 0)) aC fun aD aE=>
 m R (Af .shr 5 true aD (.int .u64 6)) aE fun aF aG=>
 m R (Ay 5 3 aF) aG fun e aH=>
 m R (Af .shl 3 true (.int .i64 1) e) aH fun aI aJ=>
 m R (Ah (fv 115) [c,aI]) aJ fun j aK=>
 m R (As j 0) aK fun f aL=>
 m R (As j 1) aL fun aM aN=>
 m R (Cz .not aM) aN fun aO l=>
 mif aO (
 R (.returned (.int .i64 0)) l) (
 m R (Cq 9 f (.int .i64 0)) l fun aP aQ=>
 m R (Af .and 5 true aP (.int .u8 63)) aQ fun aR aS=>
 m R (Ay 5 3 aR) aS fun aT aU=>
 ml2 aT (.int .i64 1) aU fun h y b1 aV g=>
 m R (Ak .len #[9] 3 [false] [f]) aV fun aW aX=>
 m R (Af .lss 3 false y aW) aX fun aY n=>
 mif aY (
 m R (Af .shl 3 true h (.int .u64 8)) n fun aZ a0=>
 m R (Cq 9 f y) a0 fun a1 a2=>
 m R (Ay 5 3 a1) a2 fun a3 a4=>
 m R (Af .or 3 false aZ a3) a4 fun a5 a6=>
 m R (Af .add 3 true y (.int .i64 1)) a6 fun a7 a8=>
 g a5 a7 a8) (
 mj0 (fun o=>
 mj1 (fun a9=>
 m R (Af .gtr 3 true e (.int .i64 0)) n fun a p=>
 Gt R a (Bp h) p fun bA q=>
 Gt R a (Ah (fv 116) []) q fun bB r=>
 Gt R a (Bp e) r fun bC s=>
 Gt R a (Af .sub 3 true bC (.int .i64 1)) s fun bD t=>
 Gt R a (Cq 190 bB bD) t fun bE u=>
 Gt R a (Af .lss 3 false bA bE) u fun bF bG=>
 m R (Bd a bF (.bool false)) bG fun bH bI=>
 a9 bH bI) fun bJ b2 v=>
 mif bJ (
 m R (Ao c) v fun bK bL=>
 m R (Aa 187 bK 1) bL fun bM bN=>
 m R (Ai 34 bM (.int .i64 3)) bN fun _ bO=>
 o bO) (
 m R (Af .gtr 3 false h bW) v fun bP x=>
 mif bP (
 m R (Ao c) x fun bQ bR=>
 m R (Aa 187 bQ 1) bR fun bS bT=>
 m R (Ai 34 bS (.int .i64 5)) bT fun _ bU=>
 o bU) (
 R (.returned h) x))) fun b3 bV=>
 R (.returned (.int .i64 0)) bV))))
theorem Td (h:Kk x0 x1 w R):Calls prog 49 #[x0,x1] w R:=cc ⟨[(12,[8,9],1152780767118492416)],[(2,[18],523264),(20,[],P_ 82+P_ 4-P_ 60),(17,[61],P_ 72-P_ 61)],[],[],[]⟩ [x0,x1] Tryz.func49 h
def Jj (b f:Value) (w:World) (R:Ending→World→Prop):Prop:=
 m R (Ak .min #[3,3] 3 [false,true] [f,(.int .i64 65536)]) w fun c g=>
 m R (Ah (fv 49) [b,c]) g fun d h=>
 m R (Ah (fv 115) [b,d]) h fun a i=>
 m R (As a 0) i fun e j=>
 m R (As a 1) j fun n l=>
 R (.returned e) l
theorem Ro (h:Jj x0 x1 w R):Calls prog 50 #[x0,x1] w R:=cc ⟨[],[],[],[],[]⟩ [x0,x1] Tryz.func50 h
abbrev Bb (k0 k1 r0 r1:Value) (R:Ending→World→Prop):Ending→World→Prop:=dR prog 117 [k0,k1] [(75,r0),(34,r1)] R
def Nw (aO:Value) (w:World) (R:Ending→World→Prop):Prop:=
 m R (Ar 75) w fun a aP=>
 m R (Ar 34) aP fun b aQ=>
 m (Bb a b a b R) (Ah (fv 45) [aO]) aQ fun c aR=>
 m (Bb a b a b R) (Ah (fv 48) [c]) aR fun i aS=>
 m (Bb a b a b R) (Aa 75 a 0) aS fun j aT=>
 m (Bb a b a b R) (Ai 23 j i) aT fun _ aU=>
 m (Bb a b a b R) (Ah (fv 49) [c,(.int .i64 4611686018427387903)]) aU fun l aV=>
 m (Bb a b a b R) (Aa 75 a 1) aV fun n aW=>
 m (Bb a b a b R) (Ai 3 n l) aW fun _ aX=>
 m (Bb a b a b R) (Ah (fv 49) [c,(.int .i64 64)]) aX fun o p=>
 m (Bb a b a b R) (Aa 75 a 2) p fun q r=>
 m (Bb a b a b R) (Ai 3 q o) r fun _ s=>
 m (Bb a b a b R) (Ah (fv 49) [c,(.int .i64 4611686018427387903)]) s fun t u=>
 m (Bb a b a b R) (Aa 75 a 3) u fun v x=>
 m (Bb a b a b R) (Ai 3 v t) x fun _ y=>
 m (Bb a b a b R) (Ah (fv 49) [c,(.int .i64 3)]) y fun z A=>
 m (Bb a b a b R) (Ah (fv 49) [c,(.int .i64 64)]) A fun B C=>
 m (Bb a b a b R) (Ah (fv 48) [c]) C fun D E=>
 m (Bb a b a b R) (At 73 [(0,z),(1,B),(2,D)]) E fun F G=>
 m (Bb a b a b R) (Aa 75 a 4) G fun H I=>
 m (Bb a b a b R) (Ai 73 H F) I fun _ J=>
 m (Bb a b a b R) (Ah (fv 48) [c]) J fun K L=>
 m (Bb a b a b R) (Aa 75 a 5) L fun M N=>
 m (Bb a b a b R) (Ai 23 M K) N fun _ O=>
 mj0 (fun d=>
 m (Bb a b a b R) (Ah (fv 53) [c]) O fun e Q=>
 m (Bb a b a b R) (Af .neq 34 true e (.int .i64 0)) Q fun S f=>
 mif S (
 m (Bb a b a b R) (At 193 [(0,e)]) f fun T U=>
 m (Bb a b a b R) (Pq 193 T) U fun V W=>
 m (Bb a b a b R) (Hu V) W fun _ X=>
 d X) (
 d f)) fun aY Y=>
 mj0 (fun g=>
 m (Bb a b a b R) (Ad 75 a) Y fun Z aA=>
 m (Bb a b a b R) (Ah (fv 31) [Z]) aA fun aB aC=>
 m (Bb a b a b R) (Cz .not aB) aC fun aD h=>
 mif aD (
 m (Bb a b a b R) (At 193 [(0,(.int .i64 3))]) h fun aE aF=>
 m (Bb a b a b R) (Pq 193 aE) aF fun aG aH=>
 m (Bb a b a b R) (Hu aG) aH fun _ aI=>
 g aI) (
 g h)) fun aZ aJ=>
 m (Bb a b a b R) (Ad 75 a) aJ fun aK aL=>
 m (Bb a b a b R) (Ai 75 a aK) aL fun _ aM=>
 m (Bb a b a b R) (Ai 34 b (.int .i64 0)) aM fun _ aN=>
 (Bb a b a b R) (.returned undef) aN
def Xx:Ann:=⟨[],[(12,[],545460846624),(14,[],P_ 44-P_ 39)],[],[],[]⟩
theorem Xy {x0:Value} {w:World} {R:Ending→World→Prop} (h:Nw x0 w R):Calls prog 51 #[x0] w R:=
 Yw (A:=Xx) (args:=[x0]) (c1:=cl (Tryz.f51.body.getD .skip)) (c2:=cr (cr (Tryz.f51.body.getD .skip))) (id:=1) (o1:=cop (cl (cr (Tryz.f51.body.getD .skip))) 0) (o2:=cop (cl (cr (Tryz.f51.body.getD .skip))) 1) (d:=6) (g:=117) (caps:=[.tmp 2,.tmp 3]) mixed Tryz.func51 (by kernel_rfl) ⟨by kernel_rfl,by kernel_rfl,by kernel_rfl⟩ ⟨by kernel_rfl,by kernel_rfl,by kernel_rfl⟩ (by kernel_rfl) (by kernel_rfl) (by kernel_rfl) (by kernel_rfl) (by kernel_rfl) (by kernel_rfl) (Eq.mpr (by kernel_rfl) h)
def Jk (c r:Value) (w:World) (R:Ending→World→Prop):Prop:=
 mj1 (fun s=>
 m R (Af .neq 93 true c (.pointer none)) w fun a d=>
 Gt R a (Bp c) d fun t e=>
 Gt R a (Ao t) e fun u f=>
 Gt R a (Aa 187 u 1) f fun v g=>
 Gt R a (Ad 34 v) g fun h i=>
 Gt R a (Af .eql 34 true h (.int .i64 0)) i fun j x=>
 m R (Bd a j (.bool false)) x fun b y=>
 s b y) fun b A l=>
 mif b (
 m R (Ao c) l fun n z=>
 m R (Aa 187 n 1) z fun o p=>
 m R (Ai 34 o r) p fun _ q=>
 R (.returned (.tuple #[])) q) (
 R (.returned (.tuple #[])) l)
theorem Rp (h:Jk x0 x1 w R):Calls prog 52 #[x0,x1] w R:=cc ⟨[],[(1,[12],8176)],[],[],[]⟩ [x0,x1] Tryz.func52 h
def Kl (c:Value) (w:World) (R:Ending→World→Prop):Prop:=
 mj1 (fun p=>
 m R (Ah (fv 47) [c]) w fun q r=>
 m R (Af .eql 34 true q (.int .i64 0)) r fun a d=>
 Gt R a (Bp c) d fun s e=>
 Gt R a (Ao s) e fun t f=>
 Gt R a (Aa 187 t 0) f fun u g=>
 Gt R a (Ad 9 u) g fun h i=>
 Gt R a (Af .neq 9 true h (.string (ByteArray.mk #[]))) i fun j v=>
 m R (Bd a j (.bool false)) v fun b x=>
 p b x) fun b y l=>
 mif b (
 R (.returned (.int .i64 4)) l) (
 m R (Ah (fv 47) [c]) l fun n o=>
 R (.returned n) o)
theorem Te (h:Kl x0 w R):Calls prog 53 #[x0] w R:=cc ⟨[],[(2,[12],8184)],[],[],[]⟩ [x0] Tryz.func53 h
end Go.Proofs.YtgbenhmdamnmcaaGreat
