/- Part 4 of the proof. -/
import Derived.Test.YtgbenhmdamnmcaaGreatPd3
set_option linter.unusedVariables false
set_option linter.unusedVariables false
namespace Go.Proofs.YtgbenhmdamnmcaaGreat
open Go.Proofs.Tryz
def Ly (d e:Value) (w:World) (R:Ending→World→Prop):Prop:=
 m R (Ak .len #[24] 3 [false] [d]) w fun s t=>
 m R (Ak .len #[24] 3 [false] [e]) t fun u v=>
 m R (Af .neq 3 false s u) v fun f g=>
 mif f (
 R (.returned (.bool false)) g) (
 ml1 (.int .i64 0) g fun a A x b=>
 m R (Ak .len #[24] 3 [false] [d]) x fun h y=>
 m R (Af .lss 3 false a h) y fun i c=>
 mif i (
 Dp (Ag 24 d a) fun j=>
 Dq c (Ad 75 j) fun l=>
 Dp (Ag 24 e a) fun n=>
 Dq c (Ad 75 n) fun o=>
 Dp (Af .neq 75 false l o) fun p=>
 dend c fun q=>
 mif p (
 R (.returned (.bool false)) q) (
 m R (Af .add 3 true a (.int .i64 1)) q fun r z=>
 b r z)) (
 R (.returned (.bool true)) c))
variable {x0 x1 x2 x3 x4 x5 x6 x7 x8 x9:Value} {w:World} {R:Ending→World→Prop}
theorem Vg (h:Ly x0 x1 w R):Calls prog 55 #[x0,x1] w R:=cc (mkA Tryz.f55 [(4,[5],67106864)] [] [(6,[0,0,0,3,0,0,0,3,0])] [] []) [x0,x1] Tryz.func55 h
def Hi (d g:Value) (w:World) (R:Ending→World→Prop):Prop:=
 m R (Ak .len #[25] 3 [false] [d]) w fun aN aO=>
 m R (Ak .len #[25] 3 [false] [g]) aO fun n aP=>
 m R (Af .neq 3 false aN n) aP fun o p=>
 mif o (
 R (.returned (.bool false)) p) (
 ml1 (.int .i64 0) p fun c aV aQ h=>
 m R (Ak .len #[25] 3 [false] [d]) aQ fun q aR=>
 m R (Af .lss 3 false c q) aR fun r e=>
 mif r (
 mj1 (fun aS=>
 Dp (Ag 25 d c) fun s=>
 Dp (Aa 43 s 0) fun t=>
 Dq e (Ad 23 t) fun u=>
 Dp (Ag 25 g c) fun v=>
 Dp (Aa 43 v 0) fun x=>
 Dq e (Ad 23 x) fun y=>
 Dp (Af .neq 23 false u y) fun a=>
 Qf a (Bp d) fun z=>
 Qf a (Bp c) fun A=>
 Qf a (Ag 25 z A) fun B=>
 Qf a (Aa 43 B 1) fun C=>
 Hf a e (Ad 41 C) fun D=>
 Qf a (Ak .len #[41] 3 [false] [D]) fun E=>
 Qf a (Bp g) fun F=>
 Qf a (Bp c) fun G=>
 Qf a (Ag 25 F G) fun H=>
 Qf a (Aa 43 H 1) fun I=>
 Hf a e (Ad 41 I) fun J=>
 Qf a (Ak .len #[41] 3 [false] [J]) fun K=>
 Qf a (Af .neq 3 false E K) fun L=>
 Dp (Bd a (.bool true) L) fun f=>
 dend e fun aT=>
 aS f aT) fun f aW M=>
 mif f (
 R (.returned (.bool false)) M) (
 ml1 (.int .i64 0) M fun i aX aU j=>
 m R (Ag 25 d c) aU fun N O=>
 m R (Aa 43 N 1) O fun Q S=>
 m R (Ad 41 Q) S fun T U=>
 m R (Ak .len #[41] 3 [false] [T]) U fun V W=>
 m R (Af .lss 3 false i V) W fun X b=>
 mif X (
 Dp (Ag 25 d c) fun Y=>
 Dp (Aa 43 Y 1) fun Z=>
 Dq b (Ad 41 Z) fun aA=>
 Dp (Ag 41 aA i) fun aB=>
 Dq b (Ad 9 aB) fun aC=>
 Dp (Ag 25 g c) fun aD=>
 Dp (Aa 43 aD 1) fun aE=>
 Dq b (Ad 41 aE) fun aF=>
 Dp (Ag 41 aF i) fun aG=>
 Dq b (Ad 9 aG) fun aH=>
 Dp (Af .neq 9 false aC aH) fun aI=>
 dend b fun l=>
 mif aI (
 R (.returned (.bool false)) l) (
 m R (Af .add 3 true i (.int .i64 1)) l fun aJ aK=>
 j aJ aK)) (
 m R (Af .add 3 true c (.int .i64 1)) b fun aL aM=>
 h aL aM))) (
 R (.returned (.bool true)) e))
theorem Od (h:Hi x0 x1 w R):Calls prog 56 #[x0,x1] w R:=cc (mkA Tryz.f56 [(4,[5],2361183241434822602864),(9,[6],2361183223842636562512)] [(7,[43],P_ 44-P_ 18)] [(6,[0,0,0,0,3,0,0,0,0,3,0,0,0,0,0,0,3,0,0,0,0,0,3,0,0,0]),(11,[0,0,0,0,3,0,0,3,0,0,0,0,3,0,0,3,0])] [] []) [x0,x1] Tryz.func56 h
def Gi (r:Value) (w:World) (R:Ending→World→Prop):Prop:=
 m R (Ar 22) w fun d s=>
 m R (Ar 22) s fun e t=>
 m R (Ah (fv 118) [r,(.int .i64 32)]) t fun f u=>
 ml1 (.int .i64 0) u fun a C v b=>
 m R (Ak .len #[9] 3 [false] [f]) v fun g x=>
 m R (Af .lss 3 false a g) x fun h i=>
 mif h (
 m R (Cq 9 f a) i fun j y=>
 m R (Ag 22 e a) y fun l z=>
 m R (Ai 5 l j) z fun _ A=>
 m R (Af .add 3 true a (.int .i64 1)) A fun n o=>
 b n o) (
 m R (Ad 22 e) i fun p q=>
 m R (Ai 22 d p) q fun _ c=>
 rcell prog 22 d c fun B=>
 R (.returned B) c)
theorem Lz (h:Gi x0 w R):Calls prog 57 #[x0] w R:=cc ⟨[(4,[5],524064)],[],[],[],[]⟩ [x0] Tryz.func57 h
def Gr (a b6:Value) (w:World) (R:Ending→World→Prop):Prop:=
 m R (Ao a) w fun o b7=>
 m R (Aa 105 o 1) b7 fun p b8=>
 m R (Ad 3 p) b8 fun q b9=>
 m R (Af .neq 3 true q (.int .i64 0)) b9 fun r s=>
 mif r (
 R (.returned (.int .i64 0)) s) (
 m R (Ao a) s fun t cA=>
 m R (Aa 105 t 0) cA fun u cB=>
 m R (Ad 9 u) cB fun v cC=>
 m R (Ak .len #[9] 3 [false] [v]) cC fun x cD=>
 m R (Af .eql 3 true x (.int .i64 0)) cD fun y z=>
 mif y (
 m R (Ao a) z fun A B=>
 m R (Aa 105 A 1) B fun C D=>
 m R (Ai 3 C (.int .i64 2)) D fun _ E=>
 R (.returned (.int .i64 0)) E) (
 m R (Ao a) z fun F G=>
 m R (Aa 105 F 0) G fun H I=>
 m R (Ad 9 H) I fun J K=>
 m R (Cq 9 J (.int .i64 0)) K fun L M=>
 m R (Ay 5 3 L) M fun f N=>
 ml2 (.int .i64 1) (.int .i64 0) N fun b O cF Q d=>
 m R (Af .quo 3 true f (.int .i64 64)) Q fun S T=>
 m R (Af .lss 3 false O S) T fun U g=>
 mif U (
 m R (Af .mul 3 true (.int .i64 2) b) g fun V W=>
 m R (Af .add 3 true O (.int .i64 1)) W fun X Y=>
 d V X Y) (
 m R (Ao a) g fun Z aA=>
 m R (Aa 105 Z 0) aA fun aB aC=>
 m R (Ad 9 aB) aC fun aD aE=>
 m R (Ak .len #[9] 3 [false] [aD]) aE fun aF aG=>
 m R (Af .lss 3 false aF b) aG fun aH h=>
 mif aH (
 m R (Ao a) h fun aI aJ=>
 m R (Aa 105 aI 1) aJ fun aK aL=>
 m R (Ai 3 aK (.int .i64 2)) aL fun _ aM=>
 R (.returned (.int .i64 0)) aM) (
 m R (Af .rem 3 true f (.int .i64 64)) h fun aN aO=>
 ml2 aN (.int .i64 1) aO fun e n cE aP c=>
 m R (Af .lss 3 false n b) aP fun aQ i=>
 mif aQ (
 m R (Af .mul 3 true e (.int .i64 256)) i fun aR aS=>
 m R (Ao a) aS fun aT aU=>
 m R (Aa 105 aT 0) aU fun aV aW=>
 m R (Ad 9 aV) aW fun aX aY=>
 m R (Cq 9 aX n) aY fun aZ a0=>
 m R (Ay 5 3 aZ) a0 fun a1 a2=>
 m R (Af .add 3 false aR a1) a2 fun a3 a4=>
 m R (Af .add 3 true n (.int .i64 1)) a4 fun a5 a6=>
 c a3 a5 a6) (
 m R (Ao a) i fun a7 a8=>
 m R (Aa 105 a7 0) a8 fun a9 bA=>
 m R (Ad 9 a9) bA fun bB bC=>
 m R (Ax 9 bB none (some b) none) bC fun bD bE=>
 m R (Ao a) bE fun bF bG=>
 m R (Aa 105 bF 0) bG fun bH bI=>
 m R (Ad 9 bH) bI fun bJ bK=>
 m R (Ax 9 bJ (some b) none none) bK fun bL bM=>
 m R (Ao a) bM fun bN bO=>
 m R (Aa 105 bN 0) bO fun bP bQ=>
 m R (Ai 9 bP bL) bQ fun _ bR=>
 m R (Ah (fv 40) [e]) bR fun bS bT=>
 m R (Af .neq 9 false bS bD) bT fun bU j=>
 mif bU (
 m R (Ao a) j fun bV bW=>
 m R (Aa 105 bV 1) bW fun bX bY=>
 m R (Ai 3 bX (.int .i64 3)) bY fun _ bZ=>
 R (.returned (.int .i64 0)) bZ) (
 m R (Af .gtr 3 false e b6) j fun b0 l=>
 mif b0 (
 m R (Ao a) l fun b1 b2=>
 m R (Aa 105 b1 1) b2 fun b3 b4=>
 m R (Ai 3 b3 (.int .i64 5)) b4 fun _ b5=>
 R (.returned (.int .i64 0)) b5) (
 R (.returned e) l)))))))
theorem Nf (h:Gr x0 x1 w R):Calls prog 58 #[x0,x1] w R:=cc ⟨[(9,[5,7],547608330400),(17,[8,9],73784724495024521984)],[],[],[],[]⟩ [x0,x1] Tryz.func58 h
def Gj (b a:Value) (w:World) (R:Ending→World→Prop):Prop:=
 mj1 (fun c=>
 m R (Af .gtr 3 true a (.int .i64 65536)) w fun n d=>
 mif n (
 c (.int .i64 65536) d) (
 c a d)) fun a u o=>
 m R (Ah (fv 58) [b,a]) o fun e p=>
 m R (Ao b) p fun f q=>
 m R (Aa 105 f 1) q fun g r=>
 m R (Ad 3 g) r fun h s=>
 m R (Af .neq 3 true h (.int .i64 0)) s fun i j=>
 mif i (
 R (.returned (.string (ByteArray.mk #[]))) j) (
 m R (Ah (fv 118) [b,e]) j fun l t=>
 R (.returned l) t)
theorem Ma (h:Gj x0 x1 w R):Calls prog 59 #[x0,x1] w R:=cc ⟨[],[(3,[1],194)],[],[],[]⟩ [x0,x1] Tryz.func59 h
def Jl (A:Value) (w:World) (R:Ending→World→Prop):Prop:=
 m R (Ar 75) w fun a B=>
 m R (At 105 [(0,A)]) B fun C D=>
 m R (Bo 105 C) D fun i E=>
 m R (Ah (fv 119) [i]) E fun c F=>
 m R (As c 0) F fun j G=>
 m R (As c 1) G fun l H=>
 m R (Ar 75) H fun n I=>
 m R (Ai 75 n j) I fun _ J=>
 m R (Ah (fv 61) [i]) J fun o K=>
 m R (Af .neq 3 true o (.int .i64 0)) K fun p d=>
 mif p (
 m R (At 75 []) d fun q r=>
 m R (Ah (fv 61) [i]) r fun s t=>
 m R (Ai 75 a q) t fun _ e=>
 rcell prog 75 a e fun b=>
 R (.returned (.tuple #[b,s])) e) (
 m R (Cz .not l) d fun u f=>
 mif u (
 m R (At 75 []) f fun v x=>
 m R (Ai 75 a v) x fun _ g=>
 rcell prog 75 a g fun b=>
 R (.returned (.tuple #[b,(.int .i64 3)])) g) (
 m R (Ad 75 n) f fun y z=>
 m R (Ai 75 a y) z fun _ h=>
 rcell prog 75 a h fun b=>
 R (.returned (.tuple #[b,(.int .i64 0)])) h))
theorem Rq (h:Jl x0 w R):Calls prog 60 #[x0] w R:=cc ⟨[],[],[],[],[]⟩ [x0] Tryz.func60 h
def Gs (b:Value) (w:World) (R:Ending→World→Prop):Prop:=
 m R (Ao b) w fun o p=>
 m R (Aa 105 o 1) p fun q r=>
 m R (Ad 3 q) r fun s t=>
 m R (Af .neq 3 true s (.int .i64 0)) t fun u c=>
 mif u (
 m R (Ao b) c fun v x=>
 m R (Aa 105 v 1) x fun d y=>
 m R (Ad 3 d) y fun e z=>
 R (.returned e) z) (
 m R (Ao b) c fun f A=>
 m R (Aa 105 f 0) A fun g B=>
 m R (Ad 9 g) B fun h i=>
 m R (Ak .len #[9] 3 [false] [h]) i fun j l=>
 m R (Af .gtr 3 true j (.int .i64 0)) l fun n a=>
 mif n (
 R (.returned (.int .i64 4)) a) (
 R (.returned (.int .i64 0)) a))
theorem Ng (h:Gs x0 w R):Calls prog 61 #[x0] w R:=cc ⟨[],[],[],[],[]⟩ [x0] Tryz.func61 h
def Zq (n G:Value) (w:World) (R:Ending→World→Prop):Prop:=
 m R (Bo 23 G) w fun i H=>
 m R (Ar 23) H fun p I=>
 m R (Ad 23 i) I fun J K=>
 m R (Ah (fv 120) [J]) K fun L M=>
 m R (Ar 23) M fun g N=>
 m R (Ai 23 g L) N fun _ a=>
 mj0 (fun o=>
 ((
 Dq a (Ad 23 i) fun h=>
 Dq a (Ad 23 g) fun b=>
 Df a (Al 137 1 [(0,h)]) true fun c O=>
 Df O (Ah (fv 122) [b]) true fun d Q=>
 Df Q (Al 137 1 [(0,d)]) true fun e S=>
 Dp (At 199 [(0,c),(1,e)]) fun f=>
 Df S (Ah (fv 121) [n,f]) false fun j q=>
 dend q fun r=>
 o r)∧(
 Dq a (Ad 23 i) fun h=>
 Dq a (Ad 23 g) fun b=>
 Df a (Ah (fv 122) [b]) true fun d s=>
 Df s (Al 137 1 [(0,h)]) true fun c t=>
 Df t (Al 137 1 [(0,d)]) true fun e u=>
 Dp (At 199 [(0,c),(1,e)]) fun f=>
 Df u (Ah (fv 121) [n,f]) false fun j v=>
 dend v fun x=>
 o x)∧(
 Dq a (Ad 23 i) fun h=>
 Dq a (Ad 23 g) fun b=>
 Df a (Ah (fv 122) [b]) true fun d y=>
 Df y (Al 137 1 [(0,d)]) true fun e z=>
 Df z (Al 137 1 [(0,h)]) true fun c A=>
 Dp (At 199 [(0,c),(1,e)]) fun f=>
 Df A (Ah (fv 121) [n,f]) false fun j B=>
 dend B fun C=>
 o C))) fun U D=>
 m R (Ad 23 g) D fun E F=>
 m R (Ai 23 p E) F fun _ l=>
 rcell prog 23 p l fun T=>
 R (.returned T) l
theorem aJl (h:Zq x0 x1 w R):Calls prog 62 #[x0,x1] w R:=cc (mkA Tryz.f62 [] [(3,[],65280)] [] [(2,[([0,1,3,2,4,5,6,7],[0,3,2,3,5,8,0,10]),([0,1,3,4,2,5,6,7],[0,3,5,3,2,8,0,10]),([0,1,3,4,5,2,6,7],[0,3,8,3,2,5,0,10])])] []) [x0,x1] Tryz.func62 h
def Wt (c d:Value) (w:World) (R:Ending→World→Prop):Prop:=
 m R (Bo 23 c) w fun e f=>
 m R (Ar 23) f fun a g=>
 m R (Ax 23 e none none none) g fun h i=>
 m R (Ay 89 9 h) i fun j l=>
 m R (Al 41 3 [(0,(.string (ByteArray.mk #[115,97,105,100]))),(1,j),(2,d)]) l fun n o=>
 m R (Ah (fv 34) [n]) o fun p q=>
 m R (Ai 23 a p) q fun _ b=>
 rcell prog 23 a b fun r=>
 R (.returned r) b
theorem aGq (h:Wt x0 x1 w R):Calls prog 63 #[x0,x1] w R:=cc ⟨[],[],[],[],[]⟩ [x0,x1] Tryz.func63 h
def Or (n o p q:Value) (w:World) (R:Ending→World→Prop):Prop:=
 m R (Bo 23 n) w fun r s=>
 m R (Bo 23 p) s fun t u=>
 m R (Bo 23 q) u fun v x=>
 m R (Ah (fv 36) []) x fun a y=>
 m R (Ad 23 r) y fun c z=>
 m R (Ah (fv 84) [a,c]) z fun E A=>
 m R (Ah (fv 85) [a,o]) A fun F B=>
 m R (Ad 23 t) B fun d C=>
 m R (Ah (fv 84) [a,d]) C fun G D=>
 m R (Ad 23 v) D fun e f=>
 m R (Ah (fv 84) [a,e]) f fun H g=>
 m R (Ah (fv 38) [a]) g fun b h=>
 m R (As b 0) h fun i j=>
 m R (As b 1) j fun I l=>
 R (.returned i) l
theorem Zr (h:Or x0 x1 x2 x3 w R):Calls prog 64 #[x0,x1,x2,x3] w R:=cc ⟨[],[],[],[],[]⟩ [x0,x1,x2,x3] Tryz.func64 h
def Wu (u:Value) (w:World) (R:Ending→World→Prop):Prop:=
 m R (Bo 58 u) w fun a v=>
 m R (Ar 23) v fun b x=>
 m R (Ad 58 a) x fun y z=>
 m R (Ah (fv 123) [y]) z fun A B=>
 m R (Ai 58 a A) B fun _ C=>
 m R (Aa 58 a 0) C fun D E=>
 m R (Ad 55 D) E fun F G=>
 m R (Ak .len #[55] 3 [false] [F]) G fun H I=>
 m R (Af .eql 3 true H (.int .i64 0)) I fun J c=>
 mif J (
 m R (Al 41 1 [(0,(.string (ByteArray.mk #[110,111,110,101])))]) c fun K g=>
 m R (Ah (fv 34) [K]) g fun h i=>
 m R (Ai 23 b h) i fun _ d=>
 rcell prog 23 b d fun f=>
 R (.returned f) d) (
 Dq c (Ad 58 a) fun j=>
 Dp (Aa 58 a 0) fun l=>
 Dq c (Ad 55 l) fun n=>
 Dp (Ak .len #[55] 3 [false] [n]) fun o=>
 Df c (Ah (fv 125) [o]) true fun p q=>
 Df q (Ah (fv 124) [j,p]) false fun r s=>
 Df s (Ai 23 b r) false fun _ t=>
 dend t fun e=>
 rcell prog 23 b e fun f=>
 R (.returned f) e)
theorem aGr (h:Wu x0 w R):Calls prog 65 #[x0] w R:=cc (mkA Tryz.f65 [] [] [(4,[3,0,3,0,2,4,7])] [] []) [x0] Tryz.func65 h
def Wv (g aO aP:Value) (w:World) (R:Ending→World→Prop):Prop:=
 m R (Bo 23 aO) w fun h aQ=>
 m R (Ar 123) aQ fun j aR=>
 m R (Ad 23 h) aR fun l aS=>
 m R (At 123 [(0,l)]) aS fun n aT=>
 m R (Ar 123) aT fun a aU=>
 m R (Ai 123 a n) aU fun _ aV=>
 m R (Ad 23 h) aV fun o aW=>
 m R (Ah (fv 67) [g,o,(.string (ByteArray.mk #[119,101,108,99,111,109,101])),(.string (ByteArray.mk #[]))]) aW fun p aX=>
 m R (Aa 123 a 1) aX fun q aY=>
 m R (Ai 23 q p) aY fun _ r=>
 m R (Ad 23 h) r fun s t=>
 m R (Ah (fv 67) [g,s,(.string (ByteArray.mk #[101,112,111,99,104])),aP]) t fun u v=>
 m R (Aa 123 a 2) v fun x y=>
 m R (Ai 23 x u) y fun _ z=>
 m R (Aa 123 a 3) z fun A B=>
 m R (At 203 [(0,A),(1,(.string (ByteArray.mk #[105,110,105,116])))]) B fun C D=>
 m R (Aa 123 a 4) D fun E F=>
 m R (At 203 [(0,E),(1,(.string (ByteArray.mk #[99,111,110,102,105,114,109])))]) F fun G H=>
 m R (Aa 123 a 5) H fun I J=>
 m R (At 203 [(0,I),(1,(.string (ByteArray.mk #[97,112,112,115])))]) J fun K L=>
 m R (Aa 123 a 6) L fun M N=>
 m R (At 203 [(0,M),(1,(.string (ByteArray.mk #[101,120,112,111,114,116])))]) N fun O Q=>
 m R (At 204 [(0,C),(1,G),(2,K),(3,O)]) Q fun S T=>
 ml1 (.int .i64 0) T fun c a0 U d=>
 m R (Af .lss 3 true c (.int .i64 4)) U fun V e=>
 mif V (
 m R (Cq 204 S c) e fun W X=>
 m R (Ar 203) X fun i Y=>
 m R (Ai 203 i W) Y fun _ b=>
 Dp (Aa 203 i 0) fun Z=>
 Dq b (Ad 202 Z) fun aA=>
 Dp (Aa 123 a 2) fun aB=>
 Dq b (Ad 23 aB) fun aC=>
 Dp (Aa 203 i 1) fun aD=>
 Dq b (Ad 9 aD) fun aE=>
 Df b (Ah (fv 67) [g,aC,aE,(.string (ByteArray.mk #[]))]) true fun aF aG=>
 Dp (Ao aA) fun aH=>
 Df aG (Ai 23 aH aF) false fun _ aI=>
 dend aI fun aJ=>
 m R (Af .add 3 true c (.int .i64 1)) aJ fun aK aL=>
 d aK aL) (
 m R (Ad 123 a) e fun aM aN=>
 m R (Ai 123 j aM) aN fun _ f=>
 rcell prog 123 j f fun aZ=>
 R (.returned aZ) f)
theorem aGs (h:Wv x0 x1 x2 w R):Calls prog 66 #[x0,x1,x2] w R:=cc (mkA Tryz.f66 [(5,[30],8795019280896)] [] [(7,[0,3,0,0,3,0,3,2,0,4])] [] []) [x0,x1,x2] Tryz.func66 h
def Qo (s t u v:Value) (w:World) (R:Ending→World→Prop):Prop:=
 m R (Bo 23 t) w fun c x=>
 m R (Ar 23) x fun d y=>
 m R (Ad 23 c) y fun e z=>
 m R (Ah (fv 126) [e,u,v]) z fun f A=>
 m R (Ar 23) A fun b B=>
 m R (Ai 23 b f) B fun _ C=>
 m R (Ad 23 c) C fun g D=>
 m R (Al 137 1 [(0,g)]) D fun h E=>
 m R (Ad 23 b) E fun i F=>
 m R (Al 137 1 [(0,i)]) F fun j l=>
 m R (At 199 [(0,h),(1,j)]) l fun n o=>
 m R (Ah (fv 121) [s,n]) o fun H p=>
 m R (Ad 23 b) p fun q r=>
 m R (Ai 23 d q) r fun _ a=>
 rcell prog 23 d a fun G=>
 R (.returned G) a
theorem aBv (h:Qo x0 x1 x2 x3 w R):Calls prog 67 #[x0,x1,x2,x3] w R:=cc ⟨[],[],[],[],[]⟩ [x0,x1,x2,x3] Tryz.func67 h
def Zs (J c5 K c6 c7:Value) (w:World) (R:Ending→World→Prop):Prop:=
 m R (Bo 62 c5) w fun b c8=>
 m R (Bo 123 c7) c8 fun i c9=>
 mj1 (fun dA=>
 m R (Aa 62 b 3) c9 fun L dB=>
 m R (Ad 58 L) dB fun M dC=>
 m R (Ah (fv 127) [M]) dC fun N dD=>
 m R (Cz .not N) dD fun d O=>
 Gf R d (Aa 62 b 2) O fun Q S=>
 Gf R d (Ad 3 Q) S fun T U=>
 Gf R d (Af .lss 3 true T (.int .i64 0)) U fun V dE=>
 m R (Bd d (.bool true) V) dE fun e l=>
 Gf R e (Aa 62 b 2) l fun W n=>
 Gf R e (Ad 3 W) n fun X o=>
 Gf R e (Af .gtr 3 true X (.int .i64 4611686018427387903)) o fun Y Z=>
 m R (Bd e (.bool true) Y) Z fun f p=>
 Gf R f (Aa 62 b 5) p fun aA q=>
 Gf R f (Ax 60 aA none none none) q fun aB r=>
 Gf R f (Ah (fv 128) [aB,(fv 129)]) r fun aC aD=>
 m R (Bd f (.bool true) aC) aD fun aE aF=>
 dA aE aF) fun aG dJ s=>
 mif aG (
 R (.returned (.tuple #[(.pointer none),(.int .i64 1)])) s) (
 m R (Aa 62 b 3) s fun aH aI=>
 m R (Ad 58 aH) aI fun aJ aK=>
 m R (Ah (fv 76) [aJ,K]) aK fun aL aM=>
 m R (Af .lss 3 true aL (.int .i64 0)) aM fun aN c=>
 mif aN (
 R (.returned (.tuple #[(.pointer none),(.int .i64 12)])) c) (
 Dq c (Ad 62 b) fun aO=>
 Dp (Aa 62 b 3) fun aP=>
 Dq c (Ad 58 aP) fun aQ=>
 Df c (Ah (fv 130) [aQ,c6]) true fun aR aS=>
 Dp (Aa 123 i 6) fun aT=>
 Dq c (Ad 23 aT) fun aU=>
 Dp (At 67 [(0,aO),(1,K),(2,aR),(7,aU)]) fun aV=>
 Df aS (Bo 67 aV) false fun a aW=>
 dend aW fun aX=>
 m R (Aa 62 b 3) aX fun aY aZ=>
 m R (Ad 58 aY) aZ fun a0 a1=>
 m R (Ah (fv 131) [a0]) a1 fun a2 a3=>
 m R (Ao a) a3 fun a4 a5=>
 m R (Aa 67 a4 0) a5 fun a6 a7=>
 m R (Aa 62 a6 3) a7 fun a8 a9=>
 m R (Ai 58 a8 a2) a9 fun _ bA=>
 m R (Aa 123 i 3) bA fun bB bC=>
 m R (Ad 23 bB) bC fun bD bE=>
 m R (Ah (fv 132) [bD,(.int .i64 32)]) bE fun t bF=>
 m R (As t 0) bF fun bG bH=>
 m R (As t 1) bH fun dG bI=>
 m R (Ao a) bI fun bJ bK=>
 m R (Aa 67 bJ 3) bK fun bL bM=>
 m R (Ai 64 bL bG) bM fun _ bN=>
 m R (Ao a) bN fun bO bP=>
 m R (Aa 67 bO 0) bP fun bQ bR=>
 m R (Aa 62 bQ 3) bR fun bS bT=>
 m R (Aa 58 bS 0) bT fun bU bV=>
 m R (Ad 55 bU) bV fun u bW=>
 m R (Ak .len #[55] 3 [false] [u]) bW fun bX bY=>
 ml1 (.int .i64 0) bY fun g dK bZ j=>
 m R (Af .lss 3 false g bX) bZ fun b0 h=>
 mif b0 (
 m R (Ag 55 u g) h fun b1 b2=>
 m R (Ad 118 b1) b2 fun b3 b4=>
 m R (Ar 118) b4 fun v b5=>
 m R (Ai 118 v b3) b5 fun _ b6=>
 mj1 (fun x=>
 m R (Aa 118 v 0) b6 fun b7 b8=>
 m R (Ad 3 b7) b8 fun b9 cA=>
 m R (Af .gtr 3 true b9 (.int .i64 0)) cA fun cB y=>
 mif cB (
 m R (Aa 123 i 5) y fun cC cD=>
 m R (Ad 23 cC) cD fun cE cF=>
 m R (Ah (fv 133) [J,cE,g]) cF fun cG cH=>
 m R (Ah (fv 132) [cG,(.int .i64 8)]) cH fun z cI=>
 m R (As z 0) cI fun cJ cK=>
 m R (As z 1) cK fun dH cL=>
 x cJ cL) (
 x (.pointer none) y)) fun cM dI cN=>
 m R (Ao a) cN fun cO cP=>
 m R (Aa 67 cO 5) cP fun cQ cR=>
 m R (Ad 65 cQ) cR fun cS cT=>
 m R (Al 65 1 [(0,cM)]) cT fun cU cV=>
 m R (Ak .append #[65,65] 65 [false,false] [cS,cU]) cV fun cW cX=>
 m R (Ao a) cX fun A cY=>
 m R (Aa 67 A 5) cY fun B cZ=>
 m R (Ai 65 B cW) cZ fun _ c0=>
 m R (Af .add 3 true g (.int .i64 1)) c0 fun C c1=>
 j C c1) (
 Dp (Aa 62 b 0) fun D=>
 Dq h (Ad 23 D) fun E=>
 Df h (Ah (fv 135) [E]) true fun F c2=>
 Dp (Af .add 9 true (.string (ByteArray.mk #[101,112,111,99,104,32])) F) fun G=>
 Dp (Aa 123 i 2) fun H=>
 Dq h (Ad 23 H) fun I=>
 Df c2 (Ah (fv 134) [J,G,I]) false fun dF c3=>
 dend c3 fun c4=>
 R (.returned (.tuple #[a,(.int .i64 0)])) c4)))
theorem aJm (h:Zs x0 x1 x2 x3 x4 w R):Calls prog 68 #[x0,x1,x2,x3,x4] w R:=cc (mkA Tryz.f68 [(9,[75],P_ 103+P_ 16-P_ 75-P_ 13)] [(2,[16],68719411200),(14,[15],P_ 92+P_ 15-P_ 80)] [(5,[3,0,0,3,0,2,0,3,0,4,0]),(16,[0,0,3,2,0,0,3,4])] [] []) [x0,x1,x2,x3,x4] Tryz.func68 h
def Jm (c:Value) (w:World) (R:Ending→World→Prop):Prop:=
 m R (Bo 22 c) w fun d e=>
 m R (Ar 22) e fun a f=>
 m R (Ad 22 d) f fun g h=>
 m R (Ah (fv 136) [g]) h fun i j=>
 m R (Af .add 9 true (.string (ByteArray.mk #[118,101,114])) i) j fun l n=>
 m R (Ah (fv 35) [l]) n fun o p=>
 m R (Ai 22 a o) p fun _ b=>
 rcell prog 22 a b fun q=>
 R (.returned q) b
theorem Rr (h:Jm x0 w R):Calls prog 69 #[x0] w R:=cc ⟨[],[],[],[],[]⟩ [x0] Tryz.func69 h
def Mb (c:Value) (w:World) (R:Ending→World→Prop):Prop:=
 ml2 (.slice none 0 0) (.int .i64 0) w fun d a v l b=>
 m R (Af .lss 3 true a (.int .i64 3)) l fun n e=>
 mif n (
 m R (Ah (fv 137) [c,a]) e fun f o=>
 m R (Ah (fv 22) [c,a]) o fun g p=>
 m R (At 116 [(0,f),(1,g)]) p fun h q=>
 m R (Al 111 1 [(0,h)]) q fun i r=>
 m R (Ak .append #[111,111] 111 [false,false] [d,i]) r fun j s=>
 m R (Af .add 3 true a (.int .i64 1)) s fun t u=>
 b j t u) (
 R (.returned d) e)
theorem Vh (h:Mb x0 w R):Calls prog 70 #[x0] w R:=cc ⟨[(3,[3,4],524280)],[],[],[],[]⟩ [x0] Tryz.func70 h
def Ir (c:Value) (w:World) (R:Ending→World→Prop):Prop:=
 m R (Bo 22 c) w fun d e=>
 m R (Ar 22) e fun a f=>
 m R (Ad 22 d) f fun g h=>
 m R (Ah (fv 136) [g]) h fun i j=>
 m R (Af .add 9 true (.string (ByteArray.mk #[112,117,98])) i) j fun l n=>
 m R (Ah (fv 35) [l]) n fun o p=>
 m R (Ai 22 a o) p fun _ b=>
 rcell prog 22 a b fun q=>
 R (.returned q) b
theorem Nx (h:Ir x0 w R):Calls prog 71 #[x0] w R:=cc ⟨[],[],[],[],[]⟩ [x0] Tryz.func71 h
def Ny (b:Value) (w:World) (R:Ending→World→Prop):Prop:=
 m R (Af .eql 46 true b (.pointer none)) w fun g a=>
 mif g (
 R (.returned (.int .i64 (-1))) a) (
 Dp (Ao b) fun h=>
 Dp (Aa 67 h 0) fun i=>
 Dp (Aa 62 i 3) fun j=>
 Dq a (Ad 58 j) fun l=>
 Dp (Ao b) fun c=>
 Dp (Aa 67 c 1) fun d=>
 Dq a (Ad 3 d) fun e=>
 Df a (Ah (fv 76) [l,e]) false fun f n=>
 dend n fun o=>
 R (.returned f) o)
theorem Xz (h:Ny x0 w R):Calls prog 72 #[x0] w R:=cc (mkA Tryz.f72 [] [] [(3,[0,0,0,0,3,0,0,0,3,1,0])] [] []) [x0] Tryz.func72 h
def Qp (c:Value) (w:World) (R:Ending→World→Prop):Prop:=
 m R (Bo 23 c) w fun d e=>
 m R (Ar 23) e fun a f=>
 m R (Ax 23 d none none none) f fun g h=>
 m R (Ay 89 9 g) h fun i j=>
 m R (Al 41 2 [(0,(.string (ByteArray.mk #[118,101,114]))),(1,i)]) j fun l n=>
 m R (Ah (fv 34) [l]) n fun o p=>
 m R (Ai 23 a o) p fun _ b=>
 rcell prog 23 a b fun q=>
 R (.returned q) b
theorem aBw (h:Qp x0 w R):Calls prog 73 #[x0] w R:=cc ⟨[],[],[],[],[]⟩ [x0] Tryz.func73 h
def Tf (eC eD aZ eE eF eG n:Value) (w:World) (R:Ending→World→Prop):Prop:=
 m R (Bo 58 eC) w fun o eH=>
 m R (Bo 60 eD) eH fun a0 eI=>
 m R (Bo 23 eE) eI fun a1 eJ=>
 m R (Ad 58 o) eJ fun a2 eK=>
 m R (Ah (fv 127) [a2]) eK fun a3 eL=>
 m R (Cz .not a3) eL fun a4 a5=>
 mif a4 (
 R (.returned (.int .i64 1)) a5) (
 m R (Ak .len #[24] 3 [false] [n]) a5 fun a6 eM=>
 m R (Af .gtr 3 true a6 (.int .i64 16)) eM fun a7 a8=>
 mif a7 (
 R (.returned (.int .i64 5)) a8) (
 m R (Pr 214 none) a8 fun u eN=>
 m R (Ak .len #[24] 3 [false] [n]) eN fun a9 bA=>
 ml1 (.int .i64 0) bA fun g eT bB t=>
 m R (Af .lss 3 false g a9) bB fun bC v=>
 mif bC (
 mj0 (fun x=>
 m R (Ag 24 n g) v fun bD bE=>
 m R (Ad 75 bD) bE fun bF bG=>
 m R (Ar 75) bG fun a bH=>
 m R (Ai 75 a bF) bH fun _ bI=>
 m R (Ad 58 o) bI fun bJ bK=>
 m R (Aa 75 a 2) bK fun bL bM=>
 m R (Ad 3 bL) bM fun bN bO=>
 m R (Ah (fv 76) [bJ,bN]) bO fun y bP=>
 m R (Ad 75 a) bP fun bQ bR=>
 m R (Ah (fv 31) [bQ]) bR fun bS bT=>
 m R (Cz .not bS) bT fun bU z=>
 mif bU (
 R (.returned (.int .i64 3)) z) (
 mj1 (fun bV=>
 m R (Aa 75 a 0) z fun bW bX=>
 m R (Ad 23 bW) bX fun bY bZ=>
 m R (Ad 23 a1) bZ fun b0 b1=>
 m R (Af .neq 23 false bY b0) b1 fun h A=>
 Gf R h (Aa 75 a 1) A fun b2 B=>
 Gf R h (Ad 3 b2) B fun b3 C=>
 Gf R h (Bp eF) C fun b4 D=>
 Gf R h (Af .neq 3 false b3 b4) D fun b5 b6=>
 m R (Bd h (.bool true) b5) b6 fun b7 b8=>
 bV b7 b8) fun b9 eP E=>
 mif b9 (
 R (.returned (.int .i64 1)) E) (
 m R (Af .lss 3 true y (.int .i64 0)) E fun cA i=>
 mif cA (
 R (.returned (.int .i64 12)) i) (
 Dq i (Ad 75 a) fun cB=>
 Dp (Aa 58 o 0) fun cC=>
 Dq i (Ad 55 cC) fun cD=>
 Dp (Ag 55 cD y) fun cE=>
 Dp (Aa 118 cE 2) fun cF=>
 Dq i (Ad 23 cF) fun cG=>
 Df i (Ah (fv 138) [cB,cG]) false fun cH cI=>
 Dp (Cz .not cH) fun cJ=>
 dend cI fun j=>
 mif cJ (
 R (.returned (.int .i64 18)) j) (
 mj1 (fun cK=>
 Dp (Af .gtr 3 true g (.int .i64 0)) fun b=>
 Qt b (Bp n) fun cL=>
 Qt b (Bp g) fun cM=>
 Qt b (Af .sub 3 true cM (.int .i64 1)) fun cN=>
 Qt b (Ag 24 cL cN) fun cO=>
 Ht b j (Ad 75 cO) fun cP=>
 Ht b j (Ad 75 a) fun cQ=>
 Et b j (Ah (fv 139) [cP,cQ]) false fun cR l=>
 Qt b (Cz .not cR) fun cS=>
 Dp (Bd b cS (.bool false)) fun d=>
 Qf d (Bp u) fun cT=>
 Qf d (Aa 75 a 4) fun cU=>
 Qf d (Aa 73 cU 1) fun cV=>
 Hf d l (Ad 3 cV) fun cW=>
 Hf d l (Ym 214 cT cW false) fun cX=>
 Dp (Bd d (.bool true) cX) fun c=>
 Qf c (Aa 75 a 4) fun cY=>
 Qf c (Aa 73 cY 0) fun cZ=>
 Hf c l (Ad 3 cZ) fun c0=>
 Qf c (Af .neq 3 true c0 (.int .i64 1)) fun c1=>
 Qf c (Bp c1) fun e=>
 Qt e (Aa 75 a 4) fun L=>
 Qt e (Aa 73 L 1) fun M=>
 Ht e l (Ad 3 M) fun N=>
 Qt e (Bp eG) fun O=>
 Qt e (Af .eql 3 false N O) fun Q=>
 Qf c (Bd e Q (.bool false)) fun S=>
 Dp (Bd c (.bool true) S) fun T=>
 dend l fun c2=>
 cK T c2) fun c3 eQ F=>
 mif c3 (
 R (.returned (.int .i64 17)) F) (
 m R (Aa 75 a 4) F fun U c4=>
 m R (Aa 73 U 1) c4 fun V c5=>
 m R (Ad 3 V) c5 fun W c6=>
 m R (Id 214 u W (.bool true)) c6 fun _ c7=>
 m R (Ad 58 o) c7 fun X c8=>
 m R (Aa 75 a 4) c8 fun Y c9=>
 m R (Aa 73 Y 1) c9 fun Z dA=>
 m R (Ad 3 Z) dA fun aA dB=>
 m R (Ah (fv 76) [X,aA]) dB fun aB dC=>
 m R (Af .geq 3 true aB (.int .i64 0)) dC fun p dD=>
 mj1 (fun dE=>
 m R (Aa 75 a 4) dD fun aC dF=>
 m R (Aa 73 aC 0) dF fun aD dG=>
 m R (Ad 3 aD) dG fun aE dH=>
 m R (Af .eql 3 true aE (.int .i64 1)) dH fun q G=>
 Gt R q (Bp p) G fun aF dI=>
 m R (Bd q aF (.bool false)) dI fun aG dJ=>
 dE aG dJ) fun aH eR H=>
 mif aH (
 R (.returned (.int .i64 8)) H) (
 m R (Aa 75 a 4) H fun aI dK=>
 m R (Aa 73 aI 0) dK fun aJ dL=>
 m R (Ad 3 aJ) dL fun aK dM=>
 m R (Af .eql 3 true aK (.int .i64 1)) dM fun aL I=>
 mif aL (
 m R (Ad 60 a0) I fun aM dN=>
 m R (Aa 75 a 4) dN fun aN dO=>
 m R (Aa 73 aN 1) dO fun aO dP=>
 m R (Ad 3 aO) dP fun aP dQ=>
 m R (Ah (fv 140) [aM,aZ,aP]) dQ fun r dR=>
 m R (As r 0) dR fun aQ dS=>
 m R (As r 1) dS fun s dT=>
 m R (Ar 118) dT fun dU dV=>
 m R (Ai 118 dU aQ) dV fun _ dW=>
 m R (Af .neq 34 true s (.int .i64 0)) dW fun aR J=>
 mif aR (
 R (.returned s) J) (
 x J)) (
 m R (Cz .not p) I fun aS K=>
 mif aS (
 R (.returned (.int .i64 7)) K) (
 x K))))))))) fun eS dX=>
 m R (Af .add 3 true g (.int .i64 1)) dX fun aT dY=>
 t aT dY) (
 m R (Ad 58 o) v fun aU dZ=>
 m R (Ad 60 a0) dZ fun aV d0=>
 m R (Ah (fv 75) [aU,aV,aZ,n]) d0 fun f d1=>
 m R (As f 0) d1 fun aW d2=>
 m R (As f 1) d2 fun aX d3=>
 m R (As f 2) d3 fun eO d4=>
 m R (As f 3) d4 fun aY d5=>
 m R (Ar 58) d5 fun d6 d7=>
 m R (Ar 60) d7 fun d8 d9=>
 m R (Ai 58 d6 aW) d9 fun _ eA=>
 m R (Ai 60 d8 aX) eA fun _ eB=>
 R (.returned aY) eB)))
theorem aEg (h:Tf x0 x1 x2 x3 x4 x5 x6 w R):Calls prog 74 #[x0,x1,x2,x3,x4,x5,x6] w R:=cc (mkA Tryz.f74 [(7,[37],P_ 146+P_ 22+P_ 14-P_ 37-P_ 16)] [(30,[],P_ 145+P_ 22+P_ 14-P_ 39-P_ 16),(13,[50],P_ 61-P_ 50),(19,[74],P_ 107-P_ 74),(23,[117],P_ 125-P_ 117)] [(16,[3,0,3,0,0,0,3,1,0,0]),(18,[0,0,0,0,0,0,0,3,3,1,0,0,0,0,0,0,6,6,0,0,0,0,6,0,0,0,0,6,0,0,0,0,0])] [] []) [x0,x1,x2,x3,x4,x5,x6] Tryz.func74 h
def Ot (d1 d2 d3 aI:Value) (w:World) (R:Ending→World→Prop):Prop:=
 m R (Bo 58 d1) w fun a d4=>
 m R (Bo 60 d2) d4 fun z d5=>
 m R (Ar 58) d5 fun n d6=>
 m R (Ar 60) d6 fun o d7=>
 m R (Ad 58 a) d7 fun aJ d8=>
 m R (Ah (fv 127) [aJ]) d8 fun aK d9=>
 m R (Cz .not aK) d9 fun aL A=>
 mif aL (
 m R (At 58 []) A fun aM eA=>
 m R (At 60 []) eA fun aN eB=>
 m R (Ai 58 n aM) eB fun _ aO=>
 m R (Ai 60 o aN) aO fun _ p=>
 rcell prog 58 n p fun q=>
 rcell prog 60 o p fun r=>
 R (.returned (.tuple #[q,r,(.slice none 0 0),(.int .i64 1)])) p) (
 Dp (Aa 58 a 0) fun aP=>
 Dq A (Ad 55 aP) fun aQ=>
 Df A (Ah (fv 141) [aQ]) true fun aR aS=>
 Dp (Aa 58 a 1) fun aT=>
 Dq A (Ad 56 aT) fun aU=>
 Df aS (Ah (fv 142) [aU]) false fun aV aW=>
 Dp (Aa 58 a 0) fun aX=>
 Df aW (Ai 55 aX aR) false fun _ aY=>
 Dp (Aa 58 a 1) fun aZ=>
 Df aY (Ai 56 aZ aV) false fun _ a0=>
 dend a0 fun a1=>
 m R (Aa 58 a 1) a1 fun a2 a3=>
 m R (Ad 56 a2) a3 fun a4 a5=>
 m R (Ak .len #[56] 3 [false] [a4]) a5 fun a6 a7=>
 ml1 (.int .i64 0) a7 fun j eE a8 B=>
 m R (Af .lss 3 false j a6) a8 fun a9 f=>
 mif a9 (
 Dp (Aa 58 a 1) fun bA=>
 Dq f (Ad 56 bA) fun bB=>
 Dp (Aa 58 a 1) fun bC=>
 Dq f (Ad 56 bC) fun bD=>
 Dp (Ag 56 bD j) fun bE=>
 Dp (Aa 222 bE 3) fun bF=>
 Dq f (Ad 133 bF) fun bG=>
 Df f (Ah (fv 143) [bG]) true fun bH bI=>
 Dp (Ag 56 bB j) fun bJ=>
 Dp (Aa 222 bJ 3) fun bK=>
 Df bI (Ai 133 bK bH) false fun _ bL=>
 dend bL fun bM=>
 m R (Af .add 3 true j (.int .i64 1)) bM fun bN bO=>
 B bN bO) (
 m R (Ak .len #[24] 3 [false] [aI]) f fun bP bQ=>
 ml2 (.slice none 0 0) (.int .i64 0) bQ fun b s eC bR t=>
 m R (Af .lss 3 false s bP) bR fun bS l=>
 mif bS (
 m R (Ag 24 aI s) l fun bT bU=>
 m R (Ad 75 bT) bU fun bV bW=>
 m R (Ar 75) bW fun C bX=>
 m R (Ai 75 C bV) bX fun _ bY=>
 m R (Aa 75 C 4) bY fun bZ b0=>
 m R (Ad 73 bZ) b0 fun b1 b2=>
 m R (Ar 73) b2 fun c b3=>
 m R (Ai 73 c b1) b3 fun _ b4=>
 mj2 (fun d=>
 m R (Aa 73 c 0) b4 fun b5 b6=>
 m R (Ad 3 b5) b6 fun u b7=>
 m R (Af .eql 3 true u (.int .i64 2)) b7 fun b8 e=>
 mif b8 (
 Dq e (Ad 58 a) fun b9=>
 Dq e (Ad 58 a) fun cA=>
 Dp (Aa 73 c 1) fun cB=>
 Dq e (Ad 3 cB) fun cC=>
 Df e (Ah (fv 76) [cA,cC]) true fun cD cE=>
 Dp (Aa 73 c 2) fun cF=>
 Dq e (Ad 23 cF) fun cG=>
 Df cE (Ah (fv 144) [b9,cD,cG]) false fun D cH=>
 Dp (As D 0) fun cI=>
 Dp (As D 1) fun cJ=>
 Df cH (Ai 58 a cI) false fun _ cK=>
 dend cK fun cL=>
 d b cJ cL) (
 m R (Af .eql 3 true u (.int .i64 3)) e fun cM g=>
 mif cM (
 Dq g (Ad 58 a) fun cN=>
 Dq g (Ad 58 a) fun cO=>
 Dp (Aa 73 c 1) fun cP=>
 Dq g (Ad 3 cP) fun cQ=>
 Df g (Ah (fv 76) [cO,cQ]) true fun cR cS=>
 Df cS (Ah (fv 145) [cN,cR]) false fun E cT=>
 Dp (As E 0) fun cU=>
 Dp (As E 1) fun cV=>
 Df cT (Ai 58 a cU) false fun _ cW=>
 dend cW fun cX=>
 d b cV cX) (
 m R (Af .eql 3 true u (.int .i64 1)) g fun cY F=>
 mif cY (
 m R (Ar 118) F fun G cZ=>
 m R (Ad 60 z) cZ fun c0 c1=>
 m R (Aa 73 c 1) c1 fun c2 c3=>
 m R (Ad 3 c2) c3 fun c4 c5=>
 m R (Ah (fv 140) [c0,d3,c4]) c5 fun H c6=>
 m R (As H 0) c6 fun c7 c8=>
 m R (As H 1) c8 fun I c9=>
 m R (Ai 118 G c7) c9 fun _ dA=>
 m R (Af .eql 34 true I (.int .i64 0)) dA fun dB J=>
 mif dB (
 m R (Ad 58 a) J fun dC dD=>
 m R (Ad 118 G) dD fun N dE=>
 m R (Ah (fv 146) [dC,N]) dE fun h dF=>
 m R (As h 0) dF fun O dG=>
 m R (As h 1) dG fun Q dH=>
 m R (As h 2) dH fun i dI=>
 m R (Ai 58 a O) dI fun _ dJ=>
 m R (Af .eql 34 true i (.int .i64 0)) dJ fun T K=>
 mif T (
 m R (Aa 73 c 1) K fun U dK=>
 m R (Ad 3 U) dK fun V dL=>
 m R (Af .sub 3 true V (.int .i64 1)) dL fun v dM=>
 m R (Ag 60 z v) dM fun W dN=>
 m R (Ad 3 W) dN fun X dO=>
 m R (Af .add 3 true X (.int .i64 1)) dO fun Y dP=>
 m R (Ag 60 z v) dP fun Z dQ=>
 m R (Ai 3 Z Y) dQ fun _ dR=>
 m R (Al 133 1 [(0,Q)]) dR fun aA dS=>
 m R (Ak .append #[133,133] 133 [false,false] [b,aA]) dS fun aB dT=>
 d aB i dT) (
 d b i K)) (
 d b I J)) (
 d b (.int .i64 7) F)))) fun b L eD dU=>
 m R (Af .neq 34 true L (.int .i64 0)) dU fun aC M=>
 mif aC (
 m R (At 58 []) M fun aD dV=>
 m R (At 60 []) dV fun aE dW=>
 m R (Ai 58 n aD) dW fun _ dX=>
 m R (Ai 60 o aE) dX fun _ x=>
 rcell prog 58 n x fun q=>
 rcell prog 60 o x fun r=>
 R (.returned (.tuple #[q,r,(.slice none 0 0),L])) x) (
 m R (Af .add 3 true s (.int .i64 1)) M fun aF dY=>
 t b aF dY)) (
 ∃ S:Rl,
 dqS prog S l (Ad 58 a) fun aG=>
 dqS prog S l (Ad 60 z) fun aH=>
 dfS prog S l (Ai 58 n aG) true fun _ dZ=>
 dfS prog S dZ (Ai 60 o aH) false fun _ d0=>
 dend d0 fun y=>
 rcell prog 58 n y fun q=>
 rcell prog 60 o y fun r=>
 R (.returned (.tuple #[q,r,b,(.int .i64 0)])) y)))
theorem Zt (h:Ot x0 x1 x2 x3 w R):Calls prog 75 #[x0,x1,x2,x3] w R:=cc (mkA Tryz.f75 [(6,[36],4503530907901952),(11,[12,54],21267647932558653966442898565977054208)] [(30,[12,17],P_ 118+P_ 20+P_ 12-P_ 60-P_ 17)] [(4,[0,3,2,0,3,4,0,7,0,10]),(8,[0,3,0,0,3,0,0,0,3,2,0,0,4]),(18,[3,3,0,3,2,0,3,4,0,0,0,7,0]),(20,[3,3,0,3,2,4,0,0,0,7,0]),(33,[3,3,0,2,4,0,0])] [] [33]) [x0,x1,x2,x3] Tryz.func75 h
def Tg (e f:Value) (w:World) (R:Ending→World→Prop):Prop:=
 m R (Bo 58 e) w fun g h=>
 m R (Bo 3 f) h fun a i=>
 m R (Ad 3 a) i fun j l=>
 m R (Af .lss 3 true j (.int .i64 1)) l fun n b=>
 mif n (
 R (.returned (.int .i64 (-1))) b) (
 m R (Ad 58 g) b fun o p=>
 m R (Ah (fv 123) [o]) p fun q r=>
 m R (Sh 58 q 0) r fun s t=>
 m R (Gc (.func 148) [] [a]) t fun c u=>
 m R (Ah (fv 147) [s,c]) u fun d v=>
 R (.returned d) v)
theorem aEh (h:Tg x0 x1 w R):Calls prog 76 #[x0,x1] w R:=cc ⟨[],[],[],[],[]⟩ [x0,x1] Tryz.func76 h
def Th (d gA N gB X gC:Value) (w:World) (R:Ending→World→Prop):Prop:=
 m R (Bo 58 gA) w fun W gD=>
 m R (Bo 23 gB) gD fun O gE=>
 m R (Ar 139) gE fun I gF=>
 m R (Ad 58 W) gF fun c2 gG=>
 m R (Ah (fv 127) [c2]) gG fun c3 gH=>
 m R (Cz .not c3) gH fun c4 c5=>
 mif c4 (
 m R (At 139 []) c5 fun c6 gI=>
 m R (Ai 139 I c6) gI fun _ c7=>
 rcell prog 139 I c7 fun J=>
 R (.returned (.tuple #[J,(.int .i64 1)])) c7) (
 m R (Ad 58 W) c5 fun c8 gJ=>
 m R (Ah (fv 149) [c8,N]) gJ fun c9 aI=>
 mif c9 (
 m R (At 139 []) aI fun dA dB=>
 m R (Ai 139 I dA) dB fun _ aJ=>
 rcell prog 139 I aJ fun J=>
 R (.returned (.tuple #[J,(.int .i64 7)])) aJ) (
 m R (Ak .len #[9] 3 [false] [X]) aI fun dC dD=>
 m R (Af .gtr 3 true dC (.int .i64 65536)) dD fun dE aK=>
 mif dE (
 m R (At 139 []) aK fun dF dG=>
 m R (Ai 139 I dF) dG fun _ aL=>
 rcell prog 139 I aL fun J=>
 R (.returned (.tuple #[J,(.int .i64 5)])) aL) (
 m R (Aa 58 W 0) aK fun dH dI=>
 m R (Ad 55 dH) dI fun dJ dK=>
 m R (Ak .len #[55] 3 [false] [dJ]) dK fun dL dM=>
 m R (Ah (fv 89) [dL,N]) dM fun M e=>
 mj3 (fun Y=>
 ∃ S:Rl,
 ((
 Dp (Af .mul 3 true (.int .i64 2) N) fun y=>
 dqS prog S e (Ad 23 O) fun z=>
 dfS prog S e (Al 133 1 [(0,y)]) true fun A dN=>
 dfS prog S dN (Ak .append #[133,133] 133 [false,false] [A,M]) true fun B dO=>
 dfS prog S dO (Ah (fv 67) [d,z,(.string (ByteArray.mk #[108,101,97,102])),(.string (ByteArray.mk #[]))]) false fun C dP=>
 dfS prog S dP (Ah (fv 150) [d,B,C]) false fun b dQ=>
 Dp (As b 0) fun D=>
 Dp (As b 1) fun E=>
 Dp (As b 2) fun F=>
 dfS prog S dQ (Ar 23) true fun c dR=>
 dfS prog S dR (Ai 23 c F) false fun _ dS=>
 dend dS fun dT=>
 Y D E c dT)∧(
 Dp (Af .mul 3 true (.int .i64 2) N) fun y=>
 dqS prog S e (Ad 23 O) fun z=>
 dfS prog S e (Al 133 1 [(0,y)]) true fun A dU=>
 dfS prog S dU (Ak .append #[133,133] 133 [false,false] [A,M]) true fun B dV=>
 dfS prog S dV (Ah (fv 67) [d,z,(.string (ByteArray.mk #[108,101,97,102])),(.string (ByteArray.mk #[]))]) false fun C dW=>
 dfS prog S dW (Ar 23) true fun c dX=>
 dfS prog S dX (Ah (fv 150) [d,B,C]) false fun b dY=>
 Dp (As b 0) fun D=>
 Dp (As b 1) fun E=>
 Dp (As b 2) fun F=>
 dfS prog S dY (Ai 23 c F) false fun _ dZ=>
 dend dZ fun d0=>
 Y D E c d0)∧(
 Dp (Af .mul 3 true (.int .i64 2) N) fun y=>
 dqS prog S e (Ad 23 O) fun z=>
 dfS prog S e (Al 133 1 [(0,y)]) true fun A d1=>
 dfS prog S d1 (Ak .append #[133,133] 133 [false,false] [A,M]) true fun B d2=>
 dfS prog S d2 (Ar 23) true fun c d3=>
 dfS prog S d3 (Ah (fv 67) [d,z,(.string (ByteArray.mk #[108,101,97,102])),(.string (ByteArray.mk #[]))]) false fun C d4=>
 dfS prog S d4 (Ah (fv 150) [d,B,C]) false fun b d5=>
 Dp (As b 0) fun D=>
 Dp (As b 1) fun E=>
 Dp (As b 2) fun F=>
 dfS prog S d5 (Ai 23 c F) false fun _ d6=>
 dend d6 fun d7=>
 Y D E c d7)∧(
 Dp (Af .mul 3 true (.int .i64 2) N) fun y=>
 dqS prog S e (Ad 23 O) fun z=>
 dfS prog S e (Al 133 1 [(0,y)]) true fun A d8=>
 dfS prog S d8 (Ar 23) true fun c d9=>
 dfS prog S d9 (Ak .append #[133,133] 133 [false,false] [A,M]) true fun B eA=>
 dfS prog S eA (Ah (fv 67) [d,z,(.string (ByteArray.mk #[108,101,97,102])),(.string (ByteArray.mk #[]))]) false fun C eB=>
 dfS prog S eB (Ah (fv 150) [d,B,C]) false fun b eC=>
 Dp (As b 0) fun D=>
 Dp (As b 1) fun E=>
 Dp (As b 2) fun F=>
 dfS prog S eC (Ai 23 c F) false fun _ eD=>
 dend eD fun eE=>
 Y D E c eE)∧(
 Dp (Af .mul 3 true (.int .i64 2) N) fun y=>
 dqS prog S e (Ad 23 O) fun z=>
 dfS prog S e (Ar 23) true fun c eF=>
 dfS prog S eF (Al 133 1 [(0,y)]) true fun A eG=>
 dfS prog S eG (Ak .append #[133,133] 133 [false,false] [A,M]) true fun B eH=>
 dfS prog S eH (Ah (fv 67) [d,z,(.string (ByteArray.mk #[108,101,97,102])),(.string (ByteArray.mk #[]))]) false fun C eI=>
 dfS prog S eI (Ah (fv 150) [d,B,C]) false fun b eJ=>
 Dp (As b 0) fun D=>
 Dp (As b 1) fun E=>
 Dp (As b 2) fun F=>
 dfS prog S eJ (Ai 23 c F) false fun _ eK=>
 dend eK fun eL=>
 Y D E c eL))) fun aM Z c gQ eM=>
 m R (Ar 139) eM fun K eN=>
 m R (Ak .len #[63] 3 [false] [Z]) eN fun eO eP=>
 ml2 (.slice none 0 0) (.int .i64 0) eP fun T aA gM eQ aB=>
 m R (Af .lss 3 false aA eO) eQ fun eR aN=>
 mif eR (
 m R (Ag 63 Z aA) aN fun eS eT=>
 m R (Ad 128 eS) eT fun eU eV=>
 m R (Ar 128) eV fun aO eW=>
 m R (Ai 128 aO eU) eW fun _ eX=>
 m R (Aa 128 aO 1) eX fun eY eZ=>
 m R (Ad 23 eY) eZ fun e0 e1=>
 m R (Ah (fv 62) [d,e0]) e1 fun e2 e3=>
 m R (Al 137 1 [(0,e2)]) e3 fun e4 e5=>
 m R (Ak .append #[137,137] 137 [false,false] [T,e4]) e5 fun e6 e7=>
 m R (Af .add 3 true aA (.int .i64 1)) e7 fun e8 e9=>
 aB e6 e8 e9) (
 m R (Ad 58 W) aN fun fA fB=>
 m R (Ah (fv 151) [fA,N,M,gC]) fB fun aP fC=>
 m R (Ak .len #[234] 3 [false] [aP]) fC fun fD fE=>
 ml1 (.int .i64 0) fE fun G gN fF aC=>
 m R (Af .lss 3 false G fD) fF fun fG U=>
 mif fG (
 m R (Ag 234 aP G) U fun fH fI=>
 m R (Ad 133 fH) fI fun aQ fJ=>
 m R (Af .add 3 true G (.int .i64 1)) fJ fun fK fL=>
 m R (Ag 137 T fK) fL fun fM fN=>
 m R (Ad 23 fM) fN fun fO fP=>
 m R (At 43 [(0,fO)]) fP fun fQ fR=>
 m R (Ar 43) fR fun f fS=>
 m R (Ai 43 f fQ) fS fun _ fT=>
 m R (Ak .len #[133] 3 [false] [aQ]) fT fun fU fV=>
 ml1 (.int .i64 0) fV fun L gO fW aD=>
 m R (Af .lss 3 false L fU) fW fun fX aR=>
 mif fX (
 mj0 (fun V=>
 m R (Ag 133 aQ L) aR fun aS fY=>
 m R (Ad 3 aS) fY fun aT fZ=>
 m R (Ad 58 W) fZ fun aU f0=>
 m R (Ah (fv 152) [aU,aT]) f0 fun aE f1=>
 m R (As aE 0) f1 fun aV f2=>
 m R (As aE 1) f2 fun gK f3=>
 m R (Ar 23) f3 fun Q f4=>
 m R (Ai 23 Q aV) f4 fun _ f5=>
 m R (Af .add 3 true G (.int .i64 1)) f5 fun aW f6=>
 m R (Ag 137 aM aW) f6 fun aX f7=>
 m R (Ad 23 aX) f7 fun aY f8=>
 m R (Ar 23) f8 fun H f9=>
 m R (Ai 23 H aY) f9 fun _ a=>
 ((
 Dp (Aa 43 f 1) fun g=>
 Dq a (Ad 41 g) fun h=>
 Dq a (Ad 23 Q) fun i=>
 Dq a (Ad 23 O) fun j=>
 Dp (Ax 23 H none none none) fun l=>
 Dq a (Ay 89 9 l) fun n=>
 Dq a (Ad 23 H) fun o=>
 Df a (Al 133 2 [(0,G),(1,L)]) true fun p aZ=>
 Df aZ (Ah (fv 153) [p]) true fun q a0=>
 Df a0 (Ah (fv 67) [d,j,(.string (ByteArray.mk #[119,114,97,112])),q]) true fun r a1=>
 Df a1 (Al 137 1 [(0,o)]) true fun s a2=>
 Df a2 (Ah (fv 93) [d,i,r,X,n,s]) true fun t a3=>
 Df a3 (Al 41 1 [(0,t)]) true fun u a4=>
 Df a4 (Ak .append #[41,41] 41 [false,false] [h,u]) false fun v a5=>
 Dp (Aa 43 f 1) fun x=>
 Df a5 (Ai 41 x v) false fun _ a6=>
 dend a6 fun a7=>
 V a7)∧(
 Dp (Aa 43 f 1) fun g=>
 Dq a (Ad 41 g) fun h=>
 Dq a (Ad 23 Q) fun i=>
 Dq a (Ad 23 O) fun j=>
 Dp (Ax 23 H none none none) fun l=>
 Dq a (Ay 89 9 l) fun n=>
 Dq a (Ad 23 H) fun o=>
 Df a (Al 133 2 [(0,G),(1,L)]) true fun p a8=>
 Df a8 (Ah (fv 153) [p]) true fun q a9=>
 Df a9 (Al 137 1 [(0,o)]) true fun s bA=>
 Df bA (Ah (fv 67) [d,j,(.string (ByteArray.mk #[119,114,97,112])),q]) true fun r bB=>
 Df bB (Ah (fv 93) [d,i,r,X,n,s]) true fun t bC=>
 Df bC (Al 41 1 [(0,t)]) true fun u bD=>
 Df bD (Ak .append #[41,41] 41 [false,false] [h,u]) false fun v bE=>
 Dp (Aa 43 f 1) fun x=>
 Df bE (Ai 41 x v) false fun _ bF=>
 dend bF fun bG=>
 V bG)∧(
 Dp (Aa 43 f 1) fun g=>
 Dq a (Ad 41 g) fun h=>
 Dq a (Ad 23 Q) fun i=>
 Dq a (Ad 23 O) fun j=>
 Dp (Ax 23 H none none none) fun l=>
 Dq a (Ay 89 9 l) fun n=>
 Dq a (Ad 23 H) fun o=>
 Df a (Al 133 2 [(0,G),(1,L)]) true fun p bH=>
 Df bH (Al 137 1 [(0,o)]) true fun s bI=>
 Df bI (Ah (fv 153) [p]) true fun q bJ=>
 Df bJ (Ah (fv 67) [d,j,(.string (ByteArray.mk #[119,114,97,112])),q]) true fun r bK=>
 Df bK (Ah (fv 93) [d,i,r,X,n,s]) true fun t bL=>
 Df bL (Al 41 1 [(0,t)]) true fun u bM=>
 Df bM (Ak .append #[41,41] 41 [false,false] [h,u]) false fun v bN=>
 Dp (Aa 43 f 1) fun x=>
 Df bN (Ai 41 x v) false fun _ bO=>
 dend bO fun bP=>
 V bP)∧(
 Dp (Aa 43 f 1) fun g=>
 Dq a (Ad 41 g) fun h=>
 Dq a (Ad 23 Q) fun i=>
 Dq a (Ad 23 O) fun j=>
 Dp (Ax 23 H none none none) fun l=>
 Dq a (Ay 89 9 l) fun n=>
 Dq a (Ad 23 H) fun o=>
 Df a (Al 137 1 [(0,o)]) true fun s bQ=>
 Df bQ (Al 133 2 [(0,G),(1,L)]) true fun p bR=>
 Df bR (Ah (fv 153) [p]) true fun q bS=>
 Df bS (Ah (fv 67) [d,j,(.string (ByteArray.mk #[119,114,97,112])),q]) true fun r bT=>
 Df bT (Ah (fv 93) [d,i,r,X,n,s]) true fun t bU=>
 Df bU (Al 41 1 [(0,t)]) true fun u bV=>
 Df bV (Ak .append #[41,41] 41 [false,false] [h,u]) false fun v bW=>
 Dp (Aa 43 f 1) fun x=>
 Df bW (Ai 41 x v) false fun _ bX=>
 dend bX fun bY=>
 V bY))) fun gP bZ=>
 m R (Af .add 3 true L (.int .i64 1)) bZ fun b0 b1=>
 aD b0 b1) (
 m R (Aa 139 K 1) aR fun b2 b3=>
 m R (Ad 25 b2) b3 fun b4 b5=>
 m R (Ad 43 f) b5 fun b6 b7=>
 m R (Al 25 1 [(0,b6)]) b7 fun b8 b9=>
 m R (Ak .append #[25,25] 25 [false,false] [b4,b8]) b9 fun cA cB=>
 m R (Aa 139 K 1) cB fun cC cD=>
 m R (Ai 25 cC cA) cD fun _ cE=>
 m R (Af .add 3 true G (.int .i64 1)) cE fun cF cG=>
 aC cF cG)) (
 Dq U (Ad 58 W) fun cH=>
 Dp (Ag 137 T (.int .i64 0)) fun cI=>
 Dq U (Ad 23 cI) fun cJ=>
 Dp (Ax 137 T (some (.int .i64 1)) none none) fun cK=>
 Df U (Ah (fv 154) [cH,N,cJ,cK]) false fun aF cL=>
 Dp (As aF 0) fun cM=>
 Dp (As aF 1) fun gL=>
 Dp (Aa 139 K 0) fun cN=>
 Df cL (Ai 58 cN cM) false fun _ cO=>
 dend cO fun aG=>
 ∃ S:Rl,
 Dp (Ax 137 aM (some (.int .i64 1)) none none) fun cP=>
 dqS prog S aG (Ad 23 c) fun cQ=>
 dfS prog S aG (Ah (fv 155) [Z]) true fun cR cS=>
 Dp (Aa 139 K 2) fun cT=>
 dfS prog S cS (Ai 137 cT cP) true fun _ cU=>
 Dp (Aa 139 K 4) fun cV=>
 dfS prog S cU (Ai 23 cV cQ) false fun _ cW=>
 Dp (Aa 139 K 3) fun cX=>
 dfS prog S cW (Ai 63 cX cR) false fun _ cY=>
 dend cY fun cZ=>
 m R (Ad 139 K) cZ fun c0 c1=>
 m R (Ai 139 I c0) c1 fun _ aH=>
 rcell prog 139 I aH fun J=>
 R (.returned (.tuple #[J,(.int .i64 0)])) aH)))))
theorem aEi (h:Th x0 x1 x2 x3 x4 x5 w R):Calls prog 77 #[x0,x1,x2,x3,x4,x5] w R:=cc (mkA Tryz.f77 [(12,[19,66],302157667927362458091520),(17,[84],P_ 141+P_ 30-P_ 84-P_ 22),(21,[97],P_ 134+P_ 30-P_ 97-P_ 25)] [(9,[15,16,17],18445618173802938368),(26,[],P_ 133+P_ 30-P_ 99-P_ 25)] [(29,[3,0,0,0,3,0,0,1,0,0,0,0,4]),(30,[0,0,3,0,2,0,5,0,7,0,10])] [(8,[([0,1,2,4,6,7,3,5,8,9,10,11,12,13,14,15,16,17],[0,0,0,2,0,5,0,3,7,10,0,0,0,0,14,0,0,16]),([0,1,2,4,6,7,3,5,8,14,9,10,11,12,13,15,16,17],[0,0,0,2,0,5,0,3,7,13,0,0,0,0,11,0,0,16]),([0,1,2,4,6,7,3,5,14,8,9,10,11,12,13,15,16,17],[0,0,0,2,0,5,0,3,10,13,0,0,0,0,8,0,0,16]),([0,1,2,4,6,7,3,14,5,8,9,10,11,12,13,15,16,17],[0,0,0,2,0,8,0,3,10,13,0,0,0,0,5,0,0,16]),([0,1,2,4,6,7,14,3,5,8,9,10,11,12,13,15,16,17],[0,0,0,5,0,8,0,3,10,13,0,0,0,0,2,0,0,16])]),(25,[([0,1,2,3,4,5,6,7,11,12,13,14,8,9,10,15,16,17,18,19,20],[0,3,0,3,0,3,0,0,2,5,8,0,0,3,3,11,14,17,19,0,22]),([0,1,2,3,4,5,6,7,11,12,13,14,8,9,15,10,16,17,18,19,20],[0,3,0,3,0,3,0,0,2,5,11,0,0,3,3,8,14,17,19,0,22]),([0,1,2,3,4,5,6,7,11,12,13,14,8,15,9,10,16,17,18,19,20],[0,3,0,3,0,3,0,0,2,8,11,0,0,3,3,5,14,17,19,0,22]),([0,1,2,3,4,5,6,7,11,12,13,14,15,8,9,10,16,17,18,19,20],[0,3,0,3,0,3,0,0,5,8,11,0,0,3,3,2,14,17,19,0,22])])] [8,30]) [x0,x1,x2,x3,x4,x5] Tryz.func77 h
def Dc (a:Value) (w:World) (R:Ending→World→Prop):Prop:=
 m R (Af .eql 24 true a (.slice none 0 0)) w fun c b=>
 mif c (
 R (.returned (.slice none 0 0)) b) (
 m R (Al 24 0 []) b fun d e=>
 m R (Ak .append #[24,24] 24 [false,false] [d,a]) e fun f g=>
 R (.returned f) g)
theorem Ex (h:Dc x0 w R):Calls prog 78 #[x0] w R:=cc ⟨[],[],[],[],[]⟩ [x0] Tryz.func78 h
def Ou (b aA l:Value) (w:World) (R:Ending→World→Prop):Prop:=
 m R (Ar 23) w fun c aB=>
 m R (Ah (fv 156) [b,l]) aB fun n aC=>
 m R (Cz .not n) aC fun o p=>
 mif o (
 m R (At 23 []) p fun q aD=>
 m R (Ai 23 c q) aD fun _ r=>
 rcell prog 23 c r fun d=>
 R (.returned (.tuple #[d,(.int .i64 1)])) r) (
 m R (Ah (fv 157) [b,l]) p fun f aE=>
 m R (As f 0) aE fun a aF=>
 m R (As f 1) aF fun s aG=>
 m R (Cz .not s) aG fun t u=>
 mif t (
 m R (At 23 []) u fun v x=>
 m R (Ai 23 c v) x fun _ g=>
 rcell prog 23 c g fun d=>
 R (.returned (.tuple #[d,(.int .i64 10)])) g) (
 m R (Ah (fv 158) [b,aA,a,l]) u fun h y=>
 m R (As h 0) y fun z A=>
 m R (As h 1) A fun B C=>
 m R (Ar 23) C fun i D=>
 m R (Ai 23 i z) D fun _ e=>
 ∃ S:Rl,
 Dp (Ao b) fun E=>
 Dp (Aa 247 E 1) fun F=>
 dqS prog S e (Ad 243 F) fun G=>
 Dp (Ax 243 G none (some a) (some a)) fun H=>
 dfS prog S e (Ak .append #[243,243] 243 [false,false] [H,B]) true fun I J=>
 Dp (Ao b) fun K=>
 Dp (Aa 247 K 1) fun L=>
 dqS prog S e (Ad 243 L) fun M=>
 Dp (Af .add 3 true a (.int .i64 1)) fun N=>
 Dp (Ax 243 M (some N) none none) fun O=>
 dfS prog S J (Ak .append #[243,243] 243 [false,false] [I,O]) false fun Q T=>
 Dp (Ao b) fun U=>
 Dp (Aa 247 U 1) fun V=>
 dfS prog S T (Ai 243 V Q) false fun _ W=>
 dend W fun X=>
 m R (Ad 23 i) X fun Y Z=>
 m R (Ai 23 c Y) Z fun _ j=>
 rcell prog 23 c j fun d=>
 R (.returned (.tuple #[d,(.int .i64 0)])) j))
theorem Zu (h:Ou x0 x1 x2 w R):Calls prog 79 #[x0,x1,x2] w R:=cc (mkA Tryz.f79 [] [] [(7,[0,0,0,0,3,0,0,0,0,2,0,0,0,3,0,0,0,4,0,0,7])] [] [7]) [x0,x1,x2] Tryz.func79 h
def Ww (v:Value) (w:World) (R:Ending→World→Prop):Prop:=
 m R (Al 41 2 [(0,(.string (ByteArray.mk #[115,112,111,116]))),(1,v)]) w fun x y=>
 m R (Ah (fv 34) [x]) y fun z A=>
 m R (Ar 23) A fun d B=>
 m R (Ai 23 d z) B fun _ C=>
 m R (Ax 23 d none (some (.int .i64 4)) none) C fun c D=>
 m R (Ak .len #[89] 3 [false] [c]) D fun e E=>
 ml2 (.int .i64 0) (.int .i64 0) E fun f a H F b=>
 m R (Af .lss 3 false a e) F fun g h=>
 mif g (
 m R (Ag 89 c a) h fun i G=>
 m R (Ad 5 i) G fun j l=>
 m R (Af .shl 3 true f (.int .u64 8)) l fun n o=>
 m R (Ay 5 3 j) o fun p q=>
 m R (Af .or 3 false n p) q fun r s=>
 m R (Af .add 3 true a (.int .i64 1)) s fun t u=>
 b r t u) (
 R (.returned f) h)
theorem aGt (h:Ww x0 w R):Calls prog 80 #[x0] w R:=cc ⟨[(4,[4,12],4190288)],[],[],[],[]⟩ [x0] Tryz.func80 h
def Ov (b y z A:Value) (w:World) (R:Ending→World→Prop):Prop:=
 m R (Bo 58 y) w fun B C=>
 m R (Bo 60 z) C fun D E=>
 m R (Bo 28 A) E fun c F=>
 m R (Ar 62) F fun d a=>
 Dp (Ao b) fun e=>
 Dp (Aa 67 e 0) fun f=>
 Dp (Aa 62 f 0) fun g=>
 Dq a (Ad 23 g) fun h=>
 Dp (Aa 28 c 1) fun i=>
 Dq a (Ad 3 i) fun j=>
 Dq a (Ad 58 B) fun l=>
 Dp (Ao b) fun n=>
 Dp (Aa 67 n 0) fun o=>
 Dp (Aa 62 o 4) fun p=>
 Dq a (Ad 23 p) fun q=>
 Dq a (Ad 28 c) fun r=>
 Df a (Ah (fv 13) [r]) true fun s G=>
 Df G (Ah (fv 63) [q,s]) true fun t H=>
 Dq a (Ad 60 D) fun u=>
 Dp (At 62 [(1,h),(2,j),(3,l),(4,t),(5,u)]) fun v=>
 Df H (Ai 62 d v) false fun _ I=>
 dend I fun x=>
 rcell prog 62 d x fun J=>
 R (.returned J) x
theorem Zv (h:Ov x0 x1 x2 x3 w R):Calls prog 81 #[x0,x1,x2,x3] w R:=cc (mkA Tryz.f81 [] [] [(1,[0,0,0,0,3,0,3,3,0,0,0,0,3,3,2,5,3,0,7])] [] []) [x0,x1,x2,x3] Tryz.func81 h
def Zw (x y z:Value) (w:World) (R:Ending→World→Prop):Prop:=
 m R (Bo 23 y) w fun c A=>
 m R (Bo 23 z) A fun d B=>
 m R (Ar 23) B fun e C=>
 m R (Ad 23 c) C fun D E=>
 m R (Ad 23 d) E fun F G=>
 m R (Ah (fv 159) [D,F]) G fun f H=>
 m R (Ar 23) H fun b I=>
 m R (Ai 23 b f) I fun _ J=>
 m R (Ad 23 c) J fun g K=>
 m R (Ad 23 d) K fun h i=>
 m R (Al 137 2 [(0,g),(1,h)]) i fun j l=>
 m R (Ad 23 b) l fun n o=>
 m R (Al 137 1 [(0,n)]) o fun p q=>
 m R (At 199 [(0,j),(1,p)]) q fun r s=>
 m R (Ah (fv 121) [x,r]) s fun M t=>
 m R (Ad 23 b) t fun u v=>
 m R (Ai 23 e u) v fun _ a=>
 rcell prog 23 e a fun L=>
 R (.returned L) a
theorem aJn (h:Zw x0 x1 x2 w R):Calls prog 82 #[x0,x1,x2] w R:=cc ⟨[],[],[],[],[]⟩ [x0,x1,x2] Tryz.func82 h
def Mc (f:Value) (w:World) (R:Ending→World→Prop):Prop:=
 m R (Bo 62 f) w fun b a=>
 Dp (Aa 62 b 1) fun g=>
 Dq a (Ad 23 g) fun h=>
 Dp (Aa 62 b 2) fun i=>
 Dq a (Ad 3 i) fun j=>
 Dp (Aa 62 b 3) fun l=>
 Dq a (Ad 58 l) fun n=>
 Df a (Ah (fv 65) [n]) true fun o p=>
 Dp (Aa 62 b 4) fun c=>
 Dq a (Ad 23 c) fun d=>
 Df p (Ah (fv 64) [h,j,o,d]) false fun e q=>
 dend q fun r=>
 R (.returned e) r
theorem Vi (h:Mc x0 w R):Calls prog 83 #[x0] w R:=cc (mkA Tryz.f83 [] [] [(1,[0,3,0,3,0,3,2,0,3,4,0])] [] []) [x0] Tryz.func83 h
def Jn (a h:Value) (w:World) (R:Ending→World→Prop):Prop:=
 m R (Bo 23 h) w fun i j=>
 m R (Af .neq 80 true a (.pointer none)) j fun l b=>
 mif l (
 Dp (Ao a) fun n=>
 Dp (Aa 177 n 0) fun o=>
 Dq b (Ad 89 o) fun c=>
 Dp (Ax 23 i none none none) fun d=>
 Df b (Ak .append #[89,89] 89 [false,false] [c,d]) false fun e p=>
 Dp (Ao a) fun f=>
 Dp (Aa 177 f 0) fun g=>
 Df p (Ai 89 g e) false fun _ q=>
 dend q fun r=>
 R (.returned (.tuple #[])) r) (
 R (.returned (.tuple #[])) b)
theorem Rs (h:Jn x0 x1 w R):Calls prog 84 #[x0,x1] w R:=cc (mkA Tryz.f84 [] [] [(2,[0,0,0,0,3,0,1,0,0,4])] [] []) [x0,x1] Tryz.func84 h
def Km (f g:Value) (w:World) (R:Ending→World→Prop):Prop:=
 m R (Af .eql 80 true f (.pointer none)) w fun a3 x=>
 mif a3 (
 R (.returned (.tuple #[])) x) (
 mj1 (fun a4=>
 m R (Af .lss 3 true g (.int .i64 0)) x fun c y=>
 Gf R c (Bp g) y fun z A=>
 Gf R c (Af .gtr 3 true z (.int .i64 4611686018427387903)) A fun B a5=>
 m R (Bd c (.bool true) B) a5 fun d a6=>
 a4 d a6) fun d bD C=>
 mif d (
 m R (Ao f) C fun D a7=>
 m R (Aa 177 D 1) a7 fun E a8=>
 m R (Ai 4 E (.bool true)) a8 fun _ a9=>
 R (.returned (.tuple #[])) a9) (
 ml1 (.int .i64 0) C fun e bE F h=>
 mj0 (fun bA=>
 m R (Af .lss 3 true e (.int .i64 3)) F fun a j=>
 Gt R a (Bp g) j fun G l=>
 Gt R a (Ah (fv 116) []) l fun H n=>
 Gt R a (Bp e) n fun I o=>
 Gt R a (Cq 190 H I) o fun J p=>
 Gt R a (Af .geq 3 false G J) p fun K L=>
 m R (Bd a K (.bool false)) L fun M q=>
 mif M (
 bA q) (
 m R (Af .shl 3 true (.int .i64 1) e) q fun r N=>
 ml1 (.int .i64 0) N fun b bF O i=>
 m R (Af .lss 3 false b r) O fun Q s=>
 mif Q (
 m R (Af .sub 3 true r (.int .i64 1)) s fun S T=>
 m R (Af .sub 3 false S b) T fun U V=>
 m R (Af .mul 3 true (.int .i64 8) U) V fun W X=>
 m R (Af .shr 3 false g W) X fun Y Z=>
 m R (Ay 3 5 Y) Z fun t aA=>
 mj1 (fun u=>
 m R (Af .eql 3 true b (.int .i64 0)) aA fun aB v=>
 mif aB (
 m R (Af .shl 3 true e (.int .u64 6)) v fun aC aD=>
 m R (Ay 3 5 aC) aD fun aE aF=>
 m R (Af .or 5 false t aE) aF fun aG aH=>
 u aG aH) (
 u t v)) fun bB bC aI=>
 m R (Ao f) aI fun aJ aK=>
 m R (Aa 177 aJ 0) aK fun aL aM=>
 m R (Ad 89 aL) aM fun aN aO=>
 m R (Al 89 1 [(0,bB)]) aO fun aP aQ=>
 m R (Ak .append #[89,89] 89 [false,false] [aN,aP]) aQ fun aR aS=>
 m R (Ao f) aS fun aT aU=>
 m R (Aa 177 aT 0) aU fun aV aW=>
 m R (Ai 89 aV aR) aW fun _ aX=>
 m R (Af .add 3 true b (.int .i64 1)) aX fun aY aZ=>
 i aY aZ) (
 R (.returned (.tuple #[])) s))) fun bG a0=>
 m R (Af .add 3 true e (.int .i64 1)) a0 fun a1 a2=>
 h a1 a2))
theorem Ti (h:Km x0 x1 w R):Calls prog 85 #[x0,x1] w R:=cc ⟨[(4,[4],1073217552),(8,[33],4611686009837453504)],[(2,[15],64512),(5,[],267911168),(13,[7],2234207627640960)],[],[],[]⟩ [x0,x1] Tryz.func85 h
def Jo (a b:Value) (w:World) (R:Ending→World→Prop):Prop:=
 m R (Af .eql 80 true a (.pointer none)) w fun v c=>
 mif v (
 R (.returned (.tuple #[])) c) (
 m R (Ak .len #[9] 3 [false] [b]) c fun x y=>
 m R (Af .gtr 3 true x (.int .i64 65536)) y fun z d=>
 mif z (
 m R (Ao a) d fun e A=>
 m R (Aa 177 e 1) A fun f B=>
 m R (Ai 4 f (.bool true)) B fun _ C=>
 R (.returned (.tuple #[])) C) (
 m R (Ak .len #[9] 3 [false] [b]) d fun g D=>
 m R (Ah (fv 85) [a,g]) D fun G E=>
 m R (Ao a) E fun h F=>
 m R (Aa 177 h 0) F fun i j=>
 m R (Ad 89 i) j fun l n=>
 m R (Ak .append #[89,9] 89 [false,false] [l,b]) n fun o p=>
 m R (Ao a) p fun q r=>
 m R (Aa 177 q 0) r fun s t=>
 m R (Ai 89 s o) t fun _ u=>
 R (.returned (.tuple #[])) u))
theorem Ru (h:Jo x0 x1 w R):Calls prog 86 #[x0,x1] w R:=cc ⟨[],[],[],[],[]⟩ [x0,x1] Tryz.func86 h
def Wx (aN:Value) (w:World) (R:Ending→World→Prop):Prop:=
 m R (Bo 58 aN) w fun e aO=>
 m R (Ad 58 e) aO fun n aP=>
 m R (Ah (fv 127) [n]) aP fun o aQ=>
 m R (Cz .not o) aQ fun p q=>
 mif p (
 R (.returned (.string (ByteArray.mk #[]))) q) (
 m R (Ah (fv 36) []) q fun a aR=>
 m R (Aa 58 e 0) aR fun r aS=>
 m R (Ad 55 r) aS fun s aT=>
 m R (Ak .len #[55] 3 [false] [s]) aT fun t aU=>
 m R (Ah (fv 85) [a,t]) aU fun aW aV=>
 m R (Aa 58 e 0) aV fun u v=>
 m R (Ad 55 u) v fun g x=>
 m R (Ak .len #[55] 3 [false] [g]) x fun y z=>
 ml1 (.int .i64 0) z fun b a1 A f=>
 m R (Af .lss 3 false b y) A fun B h=>
 mif B (
 m R (Ag 55 g b) h fun C D=>
 m R (Ad 118 C) D fun E F=>
 m R (Ar 118) F fun G H=>
 m R (Ai 118 G E) H fun _ I=>
 m R (Ad 118 G) I fun J K=>
 m R (Ah (fv 160) [a,J]) K fun aX L=>
 m R (Af .add 3 true b (.int .i64 1)) L fun M N=>
 f M N) (
 m R (Aa 58 e 1) h fun O Q=>
 m R (Ad 56 O) Q fun i S=>
 m R (Ak .len #[56] 3 [false] [i]) S fun T U=>
 ml1 (.int .i64 0) U fun c aY V d=>
 m R (Af .lss 3 false c T) V fun W j=>
 mif W (
 m R (Ag 56 i c) j fun X Y=>
 m R (Ad 222 X) Y fun Z aA=>
 m R (Ar 222) aA fun aB aC=>
 m R (Ai 222 aB Z) aC fun _ aD=>
 m R (Ad 222 aB) aD fun aE aF=>
 m R (Ah (fv 161) [a,aE]) aF fun aZ aG=>
 m R (Af .add 3 true c (.int .i64 1)) aG fun aH aI=>
 d aH aI) (
 m R (Ah (fv 38) [a]) j fun l aJ=>
 m R (As l 0) aJ fun aK aL=>
 m R (As l 1) aL fun a0 aM=>
 R (.returned aK) aM)))
theorem aGu (h:Wx x0 w R):Calls prog 87 #[x0] w R:=cc ⟨[(6,[22],1069547552),(11,[33],2190433321088)],[],[],[],[]⟩ [x0] Tryz.func87 h
def Wy (j I J l h:Value) (w:World) (R:Ending→World→Prop):Prop:=
 m R (Bo 23 I) w fun f K=>
 m R (Ak .len #[9] 3 [false] [l]) K fun n L=>
 m R (Af .gtr 3 true n (.int .i64 65536)) L fun o p=>
 mif o (
 R (.returned (.string (ByteArray.mk #[]))) p) (
 mj0 (fun i=>
 m R (Ak .len #[137] 3 [false] [h]) p fun q M=>
 m R (Af .gtr 3 true q (.int .i64 0)) M fun r a=>
 mif r (
 ((
 Dq a (Ad 23 f) fun b=>
 Df a (Al 137 1 [(0,b)]) false fun c N=>
 Df N (Ah (fv 162) [h]) true fun d O=>
 Dp (At 199 [(0,c),(1,d)]) fun e=>
 Df O (Ah (fv 121) [j,e]) false fun s Q=>
 dend Q fun S=>
 i S)∧(
 Dq a (Ad 23 f) fun b=>
 Df a (Ah (fv 162) [h]) true fun d t=>
 Df t (Al 137 1 [(0,b)]) false fun c u=>
 Dp (At 199 [(0,c),(1,d)]) fun e=>
 Df u (Ah (fv 121) [j,e]) false fun s v=>
 dend v fun x=>
 i x))) (
 i a)) fun T y=>
 m R (Ad 23 f) y fun z A=>
 m R (Ah (fv 163) [z,l]) A fun g B=>
 m R (Ad 23 f) B fun C D=>
 m R (Ah (fv 164) [C,J,g]) D fun E F=>
 m R (Af .add 9 false g E) F fun G H=>
 R (.returned G) H)
theorem aGv (h:Wy x0 x1 x2 x3 x4 w R):Calls prog 88 #[x0,x1,x2,x3,x4] w R:=cc (mkA Tryz.f88 [] [(5,[],33521664)] [] [(4,[([0,1,3,2,4,5,6],[0,3,1,0,5,0,7]),([0,1,3,4,2,5,6],[0,3,4,0,2,0,7])])] []) [x0,x1,x2,x3,x4] Tryz.func88 h
def Nz (f:Value) (w:World) (R:Ending→World→Prop):Prop:=
 m R (Ak .len #[24] 3 [false] [f]) w fun F G=>
 ml2 (.slice none 0 0) (.int .i64 0) G fun a d Q H b=>
 m R (Af .lss 3 false d F) H fun I g=>
 mif I (
 mj1 (fun h=>
 m R (Ag 24 f d) g fun i J=>
 m R (Ad 75 i) J fun j K=>
 m R (Ar 75) K fun e L=>
 m R (Ai 75 e j) L fun _ M=>
 m R (Aa 75 e 4) M fun l N=>
 m R (Aa 73 l 0) N fun n O=>
 m R (Ad 3 n) O fun o p=>
 m R (Af .eql 3 true o (.int .i64 1)) p fun q c=>
 mif q (
 m R (Aa 75 e 4) c fun r s=>
 m R (Aa 73 r 1) s fun t u=>
 m R (Ad 3 t) u fun v x=>
 m R (Al 133 1 [(0,v)]) x fun y z=>
 m R (Ak .append #[133,133] 133 [false,false] [a,y]) z fun A B=>
 h A B) (
 h a c)) fun a S C=>
 m R (Af .add 3 true d (.int .i64 1)) C fun D E=>
 b a D E) (
 R (.returned a) g)
theorem Ya (h:Nz x0 w R):Calls prog 90 #[x0] w R:=cc ⟨[(3,[3,8],8388392)],[(7,[3],4193320)],[],[],[]⟩ [x0] Tryz.func90 h
def Gu (c j:Value) (w:World) (R:Ending→World→Prop):Prop:=
 m R (Ak .len #[133] 3 [false] [c]) w fun l n=>
 ml1 (.int .i64 0) n fun a t o b=>
 m R (Af .lss 3 false a l) o fun p d=>
 mif p (
 m R (Ag 133 c a) d fun e q=>
 m R (Ad 3 e) q fun f r=>
 m R (Af .eql 3 false j f) r fun g h=>
 mif g (
 R (.returned a) h) (
 m R (Af .add 3 true a (.int .i64 1)) h fun i s=>
 b i s)) (
 R (.returned (.int .i64 (-1))) d)
theorem Nh (h:Gu x0 x1 w R):Calls prog 91 #[x0,x1] w R:=cc ⟨[(2,[8],524080)],[],[],[],[]⟩ [x0,x1] Tryz.func91 h
def Wz (j aM aN aO v aP:Value) (w:World) (R:Ending→World→Prop):Prop:=
 m R (Bo 23 aM) w fun l aQ=>
 m R (Bo 23 aN) aQ fun s aR=>
 m R (Ak .len #[9] 3 [false] [v]) aR fun x aS=>
 m R (Af .gtr 3 true x (.int .i64 65536)) aS fun y i=>
 mif y (
 R (.returned (.string (ByteArray.mk #[]))) i) (
 mj1 (fun z=>
 ((
 Dq i (Ad 23 l) fun n=>
 Dp (Ax 23 s none none none) fun o=>
 Dq i (Ay 89 9 o) fun p=>
 Df i (Ah (fv 168) [n,p]) false fun q aT=>
 Df aT (Ar 23) true fun a aU=>
 Df aU (Ai 23 a q) false fun _ aV=>
 dend aV fun aW=>
 z a aW)∧(
 Dq i (Ad 23 l) fun n=>
 Dp (Ax 23 s none none none) fun o=>
 Dq i (Ay 89 9 o) fun p=>
 Df i (Ar 23) true fun a aX=>
 Df aX (Ah (fv 168) [n,p]) false fun q A=>
 Df A (Ai 23 a q) false fun _ B=>
 dend B fun C=>
 z a C))) fun a aZ b=>
 mj0 (fun u=>
 ((
 Dq b (Ad 23 l) fun c=>
 Dq b (Ad 23 a) fun d=>
 Df b (Ah (fv 122) [c]) true fun e D=>
 Df D (Al 137 1 [(0,e)]) true fun f E=>
 Df E (Al 137 1 [(0,d)]) true fun g F=>
 Dp (At 199 [(0,f),(1,g)]) fun h=>
 Df F (Ah (fv 121) [j,h]) false fun t G=>
 dend G fun H=>
 u H)∧(
 Dq b (Ad 23 l) fun c=>
 Dq b (Ad 23 a) fun d=>
 Df b (Ah (fv 122) [c]) true fun e I=>
 Df I (Al 137 1 [(0,d)]) true fun g J=>
 Df J (Al 137 1 [(0,e)]) true fun f K=>
 Dp (At 199 [(0,f),(1,g)]) fun h=>
 Df K (Ah (fv 121) [j,h]) false fun t L=>
 dend L fun M=>
 u M)∧(
 Dq b (Ad 23 l) fun c=>
 Dq b (Ad 23 a) fun d=>
 Df b (Al 137 1 [(0,d)]) true fun g N=>
 Df N (Ah (fv 122) [c]) true fun e O=>
 Df O (Al 137 1 [(0,e)]) true fun f Q=>
 Dp (At 199 [(0,f),(1,g)]) fun h=>
 Df Q (Ah (fv 121) [j,h]) false fun t S=>
 dend S fun T=>
 u T))) fun a0 U=>
 m R (Ad 23 s) U fun V W=>
 m R (Al 137 1 [(0,V)]) W fun X Y=>
 m R (Ad 23 a) Y fun Z aA=>
 m R (Al 137 1 [(0,Z)]) aA fun aB aC=>
 m R (At 199 [(0,X),(1,aB)]) aC fun aD aE=>
 m R (Ah (fv 121) [j,aD]) aE fun aY r=>
 Dp (Ax 23 s none none none) fun aF=>
 Dq r (Ay 89 9 aF) fun aG=>
 Dq r (Ad 23 a) fun aH=>
 Df r (Ah (fv 88) [j,aH,aO,v,aP]) true fun aI aJ=>
 Dp (Af .add 9 false aG aI) fun aK=>
 dend aJ fun aL=>
 R (.returned aK) aL)
theorem aGw (h:Wz x0 x1 x2 x3 x4 x5 w R):Calls prog 93 #[x0,x1,x2,x3,x4,x5] w R:=cc (mkA Tryz.f93 [] [(4,[13],1974272),(5,[],534773760)] [(6,[0,3,0,3,0,0,0,2,0,0])] [(3,[([0,1,2,3,4,5],[3,0,3,1,5,7]),([0,1,2,4,3,5],[3,0,3,4,2,7])]),(4,[([0,1,4,2,3,5,6,7],[0,3,2,5,3,8,0,10]),([0,1,4,2,5,3,6,7],[0,3,2,8,3,5,0,10]),([0,1,4,5,2,3,6,7],[0,3,5,8,3,2,0,10])])] []) [x0,x1,x2,x3,x4,x5] Tryz.func93 h
def Zx (e f:Value) (w:World) (R:Ending→World→Prop):Prop:=
 m R (Bo 23 e) w fun g h=>
 m R (Bo 23 f) h fun i j=>
 m R (Ar 23) j fun b a=>
 Dp (Ax 23 g none none none) fun l=>
 Dq a (Ay 89 9 l) fun n=>
 Dp (Ax 23 i none none none) fun o=>
 Dq a (Ay 89 9 o) fun p=>
 Df a (Al 41 2 [(0,(.string (ByteArray.mk #[116,97,103]))),(1,p)]) true fun q r=>
 Df r (Ah (fv 169) [n,q]) false fun c s=>
 Df s (Ai 23 b c) false fun _ t=>
 dend t fun d=>
 rcell prog 23 b d fun u=>
 R (.returned u) d
theorem aJo (h:Zx x0 x1 w R):Calls prog 95 #[x0,x1] w R:=cc (mkA Tryz.f95 [] [] [(1,[0,3,0,3,2,4,7])] [] []) [x0,x1] Tryz.func95 h
def Xa (c d:Value) (w:World) (R:Ending→World→Prop):Prop:=
 m R (Bo 23 c) w fun e f=>
 m R (Ar 23) f fun a g=>
 m R (Ad 23 e) g fun h i=>
 m R (Ah (fv 73) [h]) i fun j l=>
 m R (Ah (fv 170) [j,d]) l fun n o=>
 m R (Ai 23 a n) o fun _ b=>
 rcell prog 23 a b fun p=>
 R (.returned p) b
theorem aGx (h:Xa x0 x1 w R):Calls prog 96 #[x0,x1] w R:=cc ⟨[],[],[],[],[]⟩ [x0,x1] Tryz.func96 h
def Ed (c j:Value) (w:World) (R:Ending→World→Prop):Prop:=
 m R (Ak .len #[41] 3 [false] [c]) w fun l n=>
 ml1 (.int .i64 0) n fun a t o b=>
 m R (Af .lss 3 false a l) o fun p d=>
 mif p (
 m R (Ag 41 c a) d fun e q=>
 m R (Ad 9 e) q fun f r=>
 m R (Ah j [f]) r fun g h=>
 mif g (
 R (.returned a) h) (
 m R (Af .add 3 true a (.int .i64 1)) h fun i s=>
 b i s)) (
 R (.returned (.int .i64 (-1))) d)
theorem Gv (h:Ed x0 x1 w R):Calls prog 97 #[x0,x1] w R:=cc ⟨[(2,[8],524080)],[],[],[],[]⟩ [x0,x1] Tryz.func97 h
def Cu (c j:Value) (w:World) (R:Ending→World→Prop):Prop:=
 m R (Ak .len #[24] 3 [false] [c]) w fun l n=>
 ml1 (.int .i64 0) n fun a t o b=>
 m R (Af .lss 3 false a l) o fun p d=>
 mif p (
 m R (Ag 24 c a) d fun e q=>
 m R (Ad 75 e) q fun f r=>
 m R (Ah j [f]) r fun g h=>
 mif g (
 R (.returned a) h) (
 m R (Af .add 3 true a (.int .i64 1)) h fun i s=>
 b i s)) (
 R (.returned (.int .i64 (-1))) d)
theorem Eo (h:Cu x0 x1 w R):Calls prog 98 #[x0,x1] w R:=cc ⟨[(2,[8],524080)],[],[],[],[]⟩ [x0,x1] Tryz.func98 h
def Ow (b:Value) (w:World) (R:Ending→World→Prop):Prop:=
 m R (Af .geq 3 true b (.int .i64 1)) w fun a c=>
 Gt R a (Bp b) c fun e d=>
 Gt R a (Af .leq 3 true e (.int .i64 64)) d fun f g=>
 m R (Bd a f (.bool false)) g fun h i=>
 R (.returned h) i
theorem Zy (h:Ow x0 w R):Calls prog 99 #[x0] w R:=cc ⟨[],[],[],[],[]⟩ [x0] Tryz.func99 h
def Cx (c j:Value) (w:World) (R:Ending→World→Prop):Prop:=
 m R (Ak .len #[26] 3 [false] [c]) w fun l n=>
 ml1 (.int .i64 0) n fun a t o b=>
 m R (Af .lss 3 false a l) o fun p d=>
 mif p (
 m R (Ag 26 c a) d fun e q=>
 m R (Ad 45 e) q fun f r=>
 m R (Ah j [f]) r fun g h=>
 mif g (
 R (.returned a) h) (
 m R (Af .add 3 true a (.int .i64 1)) h fun i s=>
 b i s)) (
 R (.returned (.int .i64 (-1))) d)
theorem Ev (h:Cx x0 x1 w R):Calls prog 100 #[x0,x1] w R:=cc ⟨[(2,[8],524080)],[],[],[],[]⟩ [x0,x1] Tryz.func100 h
def Tj (w:World) (R:Ending→World→Prop):Prop:=
 m R (Ar 166) w fun a c=>
 m R (At 166 [(0,(.int .u32 1116352408)),(1,(.int .u32 1899447441)),(2,(.int .u32 3049323471)),(3,(.int .u32 3921009573)),(4,(.int .u32 961987163)),(5,(.int .u32 1508970993)),(6,(.int .u32 2453635748)),(7,(.int .u32 2870763221)),(8,(.int .u32 3624381080)),(9,(.int .u32 310598401)),(10,(.int .u32 607225278)),(11,(.int .u32 1426881987)),(12,(.int .u32 1925078388)),(13,(.int .u32 2162078206)),(14,(.int .u32 2614888103)),(15,(.int .u32 3248222580)),(16,(.int .u32 3835390401)),(17,(.int .u32 4022224774)),(18,(.int .u32 264347078)),(19,(.int .u32 604807628)),(20,(.int .u32 770255983)),(21,(.int .u32 1249150122)),(22,(.int .u32 1555081692)),(23,(.int .u32 1996064986)),(24,(.int .u32 2554220882)),(25,(.int .u32 2821834349)),(26,(.int .u32 2952996808)),(27,(.int .u32 3210313671)),(28,(.int .u32 3336571891)),(29,(.int .u32 3584528711)),(30,(.int .u32 113926993)),(31,(.int .u32 338241895)),(32,(.int .u32 666307205)),(33,(.int .u32 773529912)),(34,(.int .u32 1294757372)),(35,(.int .u32 1396182291)),(36,(.int .u32 1695183700)),(37,(.int .u32 1986661051)),(38,(.int .u32 2177026350)),(39,(.int .u32 2456956037)),(40,(.int .u32 2730485921)),(41,(.int .u32 2820302411)),(42,(.int .u32 3259730800)),(43,(.int .u32 3345764771)),(44,(.int .u32 3516065817)),(45,(.int .u32 3600352804)),(46,(.int .u32 4094571909)),(47,(.int .u32 275423344)),(48,(.int .u32 430227734)),(49,(.int .u32 506948616)),(50,(.int .u32 659060556)),(51,(.int .u32 883997877)),(52,(.int .u32 958139571)),(53,(.int .u32 1322822218)),(54,(.int .u32 1537002063)),(55,(.int .u32 1747873779)),(56,(.int .u32 1955562222)),(57,(.int .u32 2024104815)),(58,(.int .u32 2227730452)),(59,(.int .u32 2361852424)),(60,(.int .u32 2428436474)),(61,(.int .u32 2756734187)),(62,(.int .u32 3204031479)),(63,(.int .u32 3329325298))]) c fun d e=>
 m R (Ai 166 a d) e fun _ b=>
 rcell prog 166 a b fun f=>
 R (.returned f) b
theorem aEj (h:Tj w R):Calls prog 101 #[] w R:=cc ⟨[],[],[],[],[]⟩ [] Tryz.func101 h
def Oa (b c:Value) (w:World) (R:Ending→World→Prop):Prop:=
 ml1 c w fun c Y K a=>
 m R (Ak .len #[9] 3 [false] [c]) K fun L M=>
 m R (Af .gtr 3 true L (.int .i64 0)) M fun N g=>
 mif N (
 Dp (Ao b) fun O=>
 Dp (Aa 170 O 1) fun h=>
 Dp (Ao b) fun i=>
 Dp (Aa 170 i 2) fun j=>
 Dq g (Ad 3 j) fun l=>
 Dp (Af .rem 3 true l (.int .i64 64)) fun n=>
 Dp (Ax 168 h (some n) none none) fun o=>
 Df g (Ak .copy #[89,9] 3 [false,false] [o,c]) false fun d Q=>
 dend Q fun S=>
 m R (Ax 9 c (some d) none none) S fun e T=>
 m R (Ao b) T fun p U=>
 m R (Aa 170 p 2) U fun q V=>
 m R (Ad 3 q) V fun r W=>
 m R (Af .add 3 false r d) W fun s t=>
 m R (Ao b) t fun u v=>
 m R (Aa 170 u 2) v fun x y=>
 m R (Ai 3 x s) y fun _ z=>
 m R (Ao b) z fun A B=>
 m R (Aa 170 A 2) B fun C D=>
 m R (Ad 3 C) D fun E F=>
 m R (Af .rem 3 true E (.int .i64 64)) F fun G H=>
 m R (Af .eql 3 true G (.int .i64 0)) H fun I f=>
 mif I (
 m R (Ah (fv 171) [b]) f fun X J=>
 a e J) (
 a e f)) (
 R (.returned (.tuple #[])) g)
theorem Yb (h:Oa x0 x1 w R):Calls prog 102 #[x0,x1] w R:=cc (mkA Tryz.f102 [(0,[1],274877906930)] [] [(1,[0,0,0,0,0,0,3,0,0,0,1,0])] [] []) [x0,x1] Tryz.func102 h
def Md (a b:Value) (w:World) (R:Ending→World→Prop):Prop:=
 Dp (Ag 89 a b) fun x=>
 Dq w (Ad 5 x) fun y=>
 Dp (Ay 5 164 y) fun z=>
 Dp (Af .shl 164 true z (.int .u64 24)) fun c=>
 Dp (Af .add 3 true b (.int .i64 1)) fun d=>
 Dp (Ag 89 a d) fun e=>
 Dq w (Ad 5 e) fun f=>
 Dp (Ay 5 164 f) fun g=>
 Dp (Af .shl 164 true g (.int .u64 16)) fun h=>
 Dp (Af .or 164 false c h) fun i=>
 Dp (Af .add 3 true b (.int .i64 2)) fun j=>
 Dp (Ag 89 a j) fun l=>
 Dq w (Ad 5 l) fun n=>
 Dp (Ay 5 164 n) fun o=>
 Dp (Af .shl 164 true o (.int .u64 8)) fun p=>
 Dp (Af .or 164 false i p) fun q=>
 Dp (Af .add 3 true b (.int .i64 3)) fun r=>
 Dp (Ag 89 a r) fun s=>
 Dq w (Ad 5 s) fun t=>
 Dp (Ay 5 164 t) fun u=>
 Dp (Af .or 164 false q u) fun v=>
 dend w fun A=>
 R (.returned v) A
theorem Vj (h:Md x0 x1 w R):Calls prog 103 #[x0,x1] w R:=cc (mkA Tryz.f103 [] [] [(1,[0,0,0,3,0,0,0,0,0,0,3,0,0,0,0,0,0,0,3,0,0,0,0,0,0,0,3,0,0,0])] [] []) [x0,x1] Tryz.func103 h
def Jp (a b:Value) (w:World) (R:Ending→World→Prop):Prop:=
 m R (Af .shr 164 false a b) w fun f g=>
 m R (Af .sub 173 true (.int .u64 32) b) g fun c h=>
 m R (Af .shl 164 false a c) h fun d i=>
 m R (Af .or 164 false f d) i fun e j=>
 R (.returned e) j
theorem Rv (h:Jp x0 x1 w R):Calls prog 104 #[x0,x1] w R:=cc ⟨[],[],[],[],[]⟩ [x0,x1] Tryz.func104 h
def Ff (r c s:Value) (w:World) (R:Ending→World→Prop):Prop:=
 m R (Ak .len #[24] 3 [false] [c]) w fun d t=>
 m R (Ah (fv 85) [r,d]) t fun C u=>
 m R (Ak .len #[24] 3 [false] [c]) u fun e v=>
 ml1 (.int .i64 0) v fun a E x b=>
 m R (Af .lss 3 false a e) x fun f g=>
 mif f (
 m R (Ag 24 c a) g fun h y=>
 m R (Ad 75 h) y fun i z=>
 m R (Ar 75) z fun j A=>
 m R (Ai 75 j i) A fun _ B=>
 m R (Ad 75 j) B fun l n=>
 m R (Ah s [l]) n fun D o=>
 m R (Af .add 3 true a (.int .i64 1)) o fun p q=>
 b p q) (
 R (.returned (.tuple #[])) g)
theorem Jq (h:Ff x0 x1 x2 w R):Calls prog 105 #[x0,x1,x2] w R:=cc ⟨[(2,[14],4178048)],[],[],[],[]⟩ [x0,x1,x2] Tryz.func105 h
def Ob (b c:Value) (w:World) (R:Ending→World→Prop):Prop:=
 m R (Bo 75 b) w fun d a=>
 Dq a (Ad 80 c) fun e=>
 Dq a (Ad 75 d) fun f=>
 Df a (Ah (fv 107) [f]) true fun g h=>
 Df h (Ah (fv 86) [e,g]) false fun l i=>
 dend i fun j=>
 R (.returned (.tuple #[])) j
theorem Yc (h:Ob x0 x1 w R):Calls prog 106 #[x0,x1] w R:=cc (mkA Tryz.f106 [] [] [(1,[3,3,2,4])] [] []) [x0,x1] Tryz.func106 h
def Qq (e:Value) (w:World) (R:Ending→World→Prop):Prop:=
 m R (Bo 75 e) w fun b f=>
 m R (Ad 75 b) f fun g h=>
 m R (Ah (fv 31) [g]) h fun i j=>
 m R (Cz .not i) j fun l a=>
 mif l (
 R (.returned (.string (ByteArray.mk #[]))) a) (
 Dq a (Ad 75 b) fun n=>
 Df a (Ah (fv 172) [n]) true fun o p=>
 Dp (Aa 75 b 5) fun q=>
 Dp (Ax 23 q none none none) fun r=>
 Dq a (Ay 89 9 r) fun c=>
 Dp (Af .add 9 false o c) fun d=>
 dend p fun s=>
 R (.returned d) s)
theorem aBx (h:Qq x0 w R):Calls prog 107 #[x0] w R:=cc (mkA Tryz.f107 [] [] [(3,[3,2,0,0,3,0,0])] [] []) [x0] Tryz.func107 h
def Gx (r c s:Value) (w:World) (R:Ending→World→Prop):Prop:=
 m R (Ak .len #[25] 3 [false] [c]) w fun d t=>
 m R (Ah (fv 85) [r,d]) t fun C u=>
 m R (Ak .len #[25] 3 [false] [c]) u fun e v=>
 ml1 (.int .i64 0) v fun a E x b=>
 m R (Af .lss 3 false a e) x fun f g=>
 mif f (
 m R (Ag 25 c a) g fun h y=>
 m R (Ad 43 h) y fun i z=>
 m R (Ar 43) z fun j A=>
 m R (Ai 43 j i) A fun _ B=>
 m R (Ad 43 j) B fun l n=>
 m R (Ah s [l]) n fun D o=>
 m R (Af .add 3 true a (.int .i64 1)) o fun p q=>
 b p q) (
 R (.returned (.tuple #[])) g)
theorem Ni (h:Gx x0 x1 x2 w R):Calls prog 108 #[x0,x1,x2] w R:=cc ⟨[(2,[14],4178048)],[],[],[],[]⟩ [x0,x1,x2] Tryz.func108 h
def Oc (g a:Value) (w:World) (R:Ending→World→Prop):Prop:=
 m R (Bo 43 g) w fun b h=>
 m R (Ad 80 a) h fun i j=>
 m R (Aa 43 b 0) j fun l n=>
 m R (Ad 23 l) n fun o p=>
 m R (Ah (fv 84) [i,o]) p fun A q=>
 m R (Ad 80 a) q fun r s=>
 m R (Aa 43 b 1) s fun t u=>
 m R (Ad 41 t) u fun v x=>
 m R (Ad 80 a) x fun c y=>
 m R (Gc (.func 86) [c] []) y fun d e=>
 m R (Ah (fv 110) [r,v,d]) e fun z f=>
 R (.returned (.tuple #[])) f
theorem Yd (h:Oc x0 x1 w R):Calls prog 109 #[x0,x1] w R:=cc ⟨[],[],[],[],[]⟩ [x0,x1] Tryz.func109 h
def Ih (l c n:Value) (w:World) (R:Ending→World→Prop):Prop:=
 m R (Ak .len #[41] 3 [false] [c]) w fun d o=>
 m R (Ah (fv 85) [l,d]) o fun x p=>
 m R (Ak .len #[41] 3 [false] [c]) p fun e q=>
 ml1 (.int .i64 0) q fun a z r b=>
 m R (Af .lss 3 false a e) r fun f g=>
 mif f (
 m R (Ag 41 c a) g fun h s=>
 m R (Ad 9 h) s fun i t=>
 m R (Ah n [i]) t fun y u=>
 m R (Af .add 3 true a (.int .i64 1)) u fun j v=>
 b j v) (
 R (.returned (.tuple #[])) g)
theorem Ox (h:Ih x0 x1 x2 w R):Calls prog 110 #[x0,x1,x2] w R:=cc ⟨[(2,[14],4178048)],[],[],[],[]⟩ [x0,x1,x2] Tryz.func110 h
def Fp (r c s:Value) (w:World) (R:Ending→World→Prop):Prop:=
 m R (Ak .len #[26] 3 [false] [c]) w fun d t=>
 m R (Ah (fv 85) [r,d]) t fun C u=>
 m R (Ak .len #[26] 3 [false] [c]) u fun e v=>
 ml1 (.int .i64 0) v fun a E x b=>
 m R (Af .lss 3 false a e) x fun f g=>
 mif f (
 m R (Ag 26 c a) g fun h y=>
 m R (Ad 45 h) y fun i z=>
 m R (Ar 45) z fun j A=>
 m R (Ai 45 j i) A fun _ B=>
 m R (Ad 45 j) B fun l n=>
 m R (Ah s [l]) n fun D o=>
 m R (Af .add 3 true a (.int .i64 1)) o fun p q=>
 b p q) (
 R (.returned (.tuple #[])) g)
theorem Jw (h:Fp x0 x1 x2 w R):Calls prog 113 #[x0,x1,x2] w R:=cc ⟨[(2,[14],4178048)],[],[],[],[]⟩ [x0,x1,x2] Tryz.func113 h
def Kn (j a:Value) (w:World) (R:Ending→World→Prop):Prop:=
 m R (Bo 45 j) w fun b l=>
 m R (Ad 80 a) l fun n o=>
 m R (Aa 45 b 0) o fun p q=>
 m R (Ad 3 p) q fun r s=>
 m R (Ah (fv 85) [n,r]) s fun E t=>
 m R (Ad 80 a) t fun u v=>
 m R (Aa 45 b 1) v fun x y=>
 m R (Ad 3 x) y fun z A=>
 m R (Ah (fv 85) [u,z]) A fun C B=>
 m R (Ad 80 a) B fun c d=>
 m R (Aa 45 b 2) d fun e f=>
 m R (Ad 9 e) f fun g h=>
 m R (Ah (fv 86) [c,g]) h fun D i=>
 R (.returned (.tuple #[])) i
theorem Tl (h:Kn x0 x1 w R):Calls prog 114 #[x0,x1] w R:=cc ⟨[],[],[],[],[]⟩ [x0,x1] Tryz.func114 h
def Jr (a e:Value) (w:World) (R:Ending→World→Prop):Prop:=
 mj1 (fun aD=>
 m R (Af .eql 93 true a (.pointer none)) w fun b f=>
 Gf R b (Bp a) f fun g h=>
 Gf R b (Ao g) h fun i j=>
 Gf R b (Aa 187 i 1) j fun l n=>
 Gf R b (Ad 34 l) n fun o p=>
 Gf R b (Af .neq 34 true o (.int .i64 0)) p fun q aE=>
 m R (Bd b (.bool true) q) aE fun c aF=>
 aD c aF) fun c aH r=>
 mif c (
 R (.returned (.tuple #[(.string (ByteArray.mk #[])),(.bool false)])) r) (
 m R (Ao a) r fun s aG=>
 m R (Aa 187 s 0) aG fun t u=>
 m R (Ad 9 t) u fun v x=>
 m R (Ak .len #[9] 3 [false] [v]) x fun y z=>
 m R (Af .lss 3 false y e) z fun A d=>
 mif A (
 m R (Ao a) d fun B C=>
 m R (Aa 187 B 1) C fun D E=>
 m R (Ai 34 D (.int .i64 2)) E fun _ F=>
 R (.returned (.tuple #[(.string (ByteArray.mk #[])),(.bool false)])) F) (
 m R (Ao a) d fun G H=>
 m R (Aa 187 G 0) H fun I J=>
 m R (Ad 9 I) J fun K L=>
 m R (Ax 9 K none (some e) none) L fun M N=>
 m R (Ao a) N fun O Q=>
 m R (Aa 187 O 0) Q fun S T=>
 m R (Ad 9 S) T fun U V=>
 m R (Ax 9 U (some e) none none) V fun W X=>
 m R (Ao a) X fun Y Z=>
 m R (Aa 187 Y 0) Z fun aA aB=>
 m R (Ai 9 aA W) aB fun _ aC=>
 R (.returned (.tuple #[M,(.bool true)])) aC))
theorem Rw (h:Jr x0 x1 w R):Calls prog 115 #[x0,x1] w R:=cc ⟨[],[(2,[15],65408)],[],[],[]⟩ [x0,x1] Tryz.func115 h
def Qr (w:World) (R:Ending→World→Prop):Prop:=
 m R (Ar 190) w fun a c=>
 m R (At 190 [(0,(.int .i64 64)),(1,(.int .i64 16384)),(2,(.int .i64 1073741824)),(3,(.int .i64 4611686018427387903))]) c fun d e=>
 m R (Ai 190 a d) e fun _ b=>
 rcell prog 190 a b fun f=>
 R (.returned f) b
theorem aBy (h:Qr w R):Calls prog 116 #[] w R:=cc ⟨[],[],[],[],[]⟩ [] Tryz.func116 h
def Ez (r s v:Value) (w:World) (R:Ending→World→Prop):Prop:=
 m R (Af .neq 20 true v (.nilIface:Value)) w fun t b=>
 mif t (
 m R (Yo v 20 193 true) b fun a u=>
 m R (As a 0) u fun c x=>
 m R (As a 1) x fun d y=>
 m R (Ar 193) y fun e z=>
 m R (Ai 193 e c) z fun _ A=>
 mj0 (fun f=>
 m R (Cz .not d) A fun g h=>
 mif g (
 m R (Hu v) h fun _ B=>
 f B) (
 f h)) fun C i=>
 ∃ S:Rl,
 Dp (At 75 []) fun j=>
 Dp (Aa 193 e 0) fun l=>
 dqS prog S i (Ad 34 l) fun n=>
 dfS prog S i (Ai 75 r j) true fun _ o=>
 dfS prog S o (Ai 34 s n) false fun _ p=>
 dend p fun q=>
 R (.returned (.tuple #[])) q) (
 R (.returned (.tuple #[])) b)
def Ko:Ann:=⟨[],[(5,[],57344)],[(5,[⟨0,.q none,0,0,65536⟩,⟨1,.q none,8,0,131072⟩,⟨2,.q (some 0),131072,2,262144⟩,⟨3,.f 0 true,65537,1,0⟩,⟨4,.f 1 false,262146,15,0⟩])],[],[5]⟩
theorem Tm (x0 x1 v:Value) (w:World) (u:FrameMode) (R:Ending→FrameMode→World→Prop):cwp prog Ko (cr (Tryz.f117.body.getD .skip)) (clPost prog Tryz.f117.results.toList R u) (((argE [x0,x1]).set (some 5) v).set (some 2) v) w=Ez x0 x1 v w (fun en w=>R en u w):=by kernel_rfl
theorem Kp {x0 x1:Value} {w:World} {u:FrameMode} {R:Ending→FrameMode→World→Prop} (h:Ez x0 x1 (rcv u).1 w (fun en w=>R en (rcv u).2 w)):CallsD prog 117 #[x0,x1] u w R:=
 Yx (A:=Ko) (caps:=[x0,x1]) (c2:=cr (Tryz.f117.body.getD .skip)) (id:=0) (o1:=cop (cl (Tryz.f117.body.getD .skip)) 0) (o2:=cop (cl (Tryz.f117.body.getD .skip)) 1) (r:=5) (d:=2) mixed Tryz.func117 (by kernel_rfl) ⟨by kernel_rfl,by kernel_rfl,by kernel_rfl⟩ ⟨by kernel_rfl,by kernel_rfl,by kernel_rfl⟩ (by kernel_rfl) (by kernel_rfl) (by kernel_rfl) (by kernel_rfl) ((Tm x0 x1 (rcv u).1 w (rcv u).2 R).mpr h)
def Gy (a b:Value) (w:World) (R:Ending→World→Prop):Prop:=
 m R (Ao a) w fun N O=>
 m R (Aa 105 N 1) O fun Q S=>
 m R (Ad 3 Q) S fun T U=>
 m R (Af .neq 3 true T (.int .i64 0)) U fun c d=>
 mif c (
 R (.returned (.string (ByteArray.mk #[]))) d) (
 m R (Ao a) d fun e V=>
 m R (Aa 105 e 0) V fun f W=>
 m R (Ad 9 f) W fun g X=>
 m R (Ak .len #[9] 3 [false] [g]) X fun h Y=>
 m R (Af .lss 3 false h b) Y fun i j=>
 mif i (
 m R (Ao a) j fun l n=>
 m R (Aa 105 l 1) n fun o p=>
 m R (Ai 3 o (.int .i64 2)) p fun _ q=>
 R (.returned (.string (ByteArray.mk #[]))) q) (
 m R (Ao a) j fun r s=>
 m R (Aa 105 r 0) s fun t u=>
 m R (Ad 9 t) u fun v x=>
 m R (Ax 9 v none (some b) none) x fun y z=>
 m R (Ao a) z fun A B=>
 m R (Aa 105 A 0) B fun C D=>
 m R (Ad 9 C) D fun E F=>
 m R (Ax 9 E (some b) none none) F fun G H=>
 m R (Ao a) H fun I J=>
 m R (Aa 105 I 0) J fun K L=>
 m R (Ai 9 K G) L fun _ M=>
 R (.returned y) M))
theorem Nj (h:Gy x0 x1 w R):Calls prog 118 #[x0,x1] w R:=cc ⟨[],[],[],[],[]⟩ [x0,x1] Tryz.func118 h
def Me (b:Value) (w:World) (R:Ending→World→Prop):Prop:=
 m R (Ar 75) w fun e aB=>
 m R (At 75 []) aB fun aC aD=>
 m R (Ar 75) aD fun a aE=>
 m R (Ai 75 a aC) aE fun _ aF=>
 m R (Ah (fv 57) [b]) aF fun aG aH=>
 m R (Aa 75 a 0) aH fun aI aJ=>
 m R (Ai 23 aI aG) aJ fun _ aK=>
 m R (Ah (fv 58) [b,(.int .i64 4611686018427387903)]) aK fun f aL=>
 m R (Aa 75 a 1) aL fun g aM=>
 m R (Ai 3 g f) aM fun _ h=>
 m R (Ah (fv 58) [b,(.int .i64 64)]) h fun i j=>
 m R (Aa 75 a 2) j fun l n=>
 m R (Ai 3 l i) n fun _ o=>
 m R (Ah (fv 58) [b,(.int .i64 4611686018427387903)]) o fun p q=>
 m R (Aa 75 a 3) q fun r s=>
 m R (Ai 3 r p) s fun _ t=>
 m R (Ah (fv 58) [b,(.int .i64 3)]) t fun u v=>
 m R (Aa 75 a 4) v fun x y=>
 m R (Aa 73 x 0) y fun z A=>
 m R (Ai 3 z u) A fun _ B=>
 m R (Ah (fv 58) [b,(.int .i64 64)]) B fun C D=>
 m R (Aa 75 a 4) D fun E F=>
 m R (Aa 73 E 1) F fun G H=>
 m R (Ai 3 G C) H fun _ I=>
 m R (Ah (fv 57) [b]) I fun J K=>
 m R (Aa 75 a 4) K fun L M=>
 m R (Aa 73 L 2) M fun N O=>
 m R (Ai 23 N J) O fun _ Q=>
 m R (Ah (fv 57) [b]) Q fun S T=>
 m R (Aa 75 a 5) T fun U V=>
 m R (Ai 23 U S) V fun _ c=>
 Dq c (Ad 75 a) fun W=>
 Dq c (Ad 75 a) fun X=>
 Df c (Ah (fv 33) [X]) true fun Y Z=>
 Df Z (Ai 75 e W) false fun _ aA=>
 dend aA fun d=>
 rcell prog 75 e d fun aN=>
 R (.returned (.tuple #[aN,Y])) d
theorem Vk (h:Me x0 w R):Calls prog 119 #[x0] w R:=cc (mkA Tryz.f119 [] [] [(10,[3,3,2,4,0])] [] []) [x0] Tryz.func119 h
def Qs (c:Value) (w:World) (R:Ending→World→Prop):Prop:=
 m R (Bo 23 c) w fun d e=>
 m R (Ar 23) e fun a f=>
 m R (Ax 23 d none none none) f fun g h=>
 m R (Ay 89 9 g) h fun i j=>
 m R (Al 41 2 [(0,(.string (ByteArray.mk #[112,117,98]))),(1,i)]) j fun l n=>
 m R (Ah (fv 34) [l]) n fun o p=>
 m R (Ai 23 a o) p fun _ b=>
 rcell prog 23 a b fun q=>
 R (.returned q) b
theorem aBz (h:Qs x0 w R):Calls prog 120 #[x0] w R:=cc ⟨[],[],[],[],[]⟩ [x0] Tryz.func120 h
def Mf (a bI:Value) (w:World) (R:Ending→World→Prop):Prop:=
 m R (Bo 199 bI) w fun d bJ=>
 m R (Aa 199 d 1) bJ fun bK bL=>
 m R (Ad 137 bK) bL fun bM bN=>
 m R (Ak .len #[137] 3 [false] [bM]) bN fun o bO=>
 m R (Af .eql 3 true o (.int .i64 0)) bO fun p q=>
 mif p (
 R (.returned (.int .i64 1)) q) (
 m R (Af .eql 110 true a (.pointer none)) q fun r s=>
 mif r (
 R (.returned (.int .i64 0)) s) (
 m R (Ad 199 d) s fun t bP=>
 m R (Ah (fv 173) [t]) bP fun g bQ=>
 m R (Ao a) bQ fun u bR=>
 m R (Aa 265 u 1) bR fun v x=>
 m R (Ad 261 v) x fun y z=>
 m R (Ym 261 y g false) z fun A h=>
 mif A (
 R (.returned (.int .i64 0)) h) (
 m R (Ao a) h fun B C=>
 m R (Aa 265 B 0) C fun D E=>
 m R (Ad 260 D) E fun F G=>
 m R (Ak .len #[260] 3 [false] [F]) G fun H I=>
 m R (Af .geq 3 true H (.int .i64 1048576)) I fun J i=>
 mif J (
 R (.returned (.int .i64 9)) i) (
 m R (Ao a) i fun K L=>
 m R (Aa 265 K 1) L fun M N=>
 m R (Ad 261 M) N fun O Q=>
 m R (Id 261 O g (.bool true)) Q fun _ S=>
 m R (Aa 199 d 0) S fun T U=>
 m R (Ad 137 T) U fun j V=>
 m R (Ak .len #[137] 3 [false] [j]) V fun W X=>
 ml1 (.int .i64 0) X fun e bS Y f=>
 m R (Af .lss 3 false e W) Y fun Z b=>
 mif Z (
 m R (Ag 137 j e) b fun aA aB=>
 m R (Ad 23 aA) aB fun aC aD=>
 m R (Ar 23) aD fun aE aF=>
 m R (Ai 23 aE aC) aF fun _ c=>
 Dp (Ao a) fun aG=>
 Dp (Aa 265 aG 2) fun aH=>
 Dq c (Ad 262 aH) fun l=>
 Dq c (Ad 23 aE) fun aI=>
 Dp (Ao a) fun aJ=>
 Dp (Aa 265 aJ 0) fun aK=>
 Dq c (Ad 260 aK) fun aL=>
 Dp (Ak .len #[260] 3 [false] [aL]) fun aM=>
 Df c (Al 133 1 [(0,aM)]) true fun aN aO=>
 Df aO (Yn 262 l aI) false fun n aP=>
 Dp (As n 0) fun aQ=>
 Df aP (Ak .append #[133,133] 133 [false,false] [aQ,aN]) false fun aR aS=>
 Dp (As n 1) fun aT=>
 Df aS (Si 262 l aT aR) false fun _ aU=>
 dend aU fun aV=>
 m R (Af .add 3 true e (.int .i64 1)) aV fun aW aX=>
 f aW aX) (
 Dp (Ao a) fun aY=>
 Dp (Aa 265 aY 0) fun aZ=>
 Dq b (Ad 260 aZ) fun a0=>
 Dp (Aa 199 d 0) fun a1=>
 Dq b (Ad 137 a1) fun a2=>
 Df b (Ah (fv 162) [a2]) true fun a3 a4=>
 Dp (Aa 199 d 1) fun a5=>
 Dq b (Ad 137 a5) fun a6=>
 Df a4 (Ah (fv 162) [a6]) true fun a7 a8=>
 Dp (At 199 [(0,a3),(1,a7)]) fun a9=>
 Df a8 (Al 260 1 [(0,a9)]) true fun bA bB=>
 Df bB (Ak .append #[260,260] 260 [false,false] [a0,bA]) false fun bC bD=>
 Dp (Ao a) fun bE=>
 Dp (Aa 265 bE 0) fun bF=>
 Df bD (Ai 260 bF bC) false fun _ bG=>
 dend bG fun bH=>
 R (.returned (.int .i64 0)) bH)))))
theorem Vl (h:Mf x0 x1 w R):Calls prog 121 #[x0,x1] w R:=cc (mkA Tryz.f121 [(12,[38],288230101273804928)] [] [(14,[0,0,0,3,3,0,0,0,3,0,2,4,0,7,0,10]),(16,[0,0,0,0,3,0,3,2,0,3,5,0,8,10,0,0,13])] [] []) [x0,x1] Tryz.func121 h
def Xb (c:Value) (w:World) (R:Ending→World→Prop):Prop:=
 m R (Bo 23 c) w fun d e=>
 m R (Ar 23) e fun a f=>
 m R (Ax 23 d none none none) f fun g h=>
 m R (Ay 89 9 g) h fun i j=>
 m R (Al 41 2 [(0,(.string (ByteArray.mk #[109,97,114,107]))),(1,i)]) j fun l n=>
 m R (Ah (fv 34) [l]) n fun o p=>
 m R (Ai 23 a o) p fun _ b=>
 rcell prog 23 a b fun q=>
 R (.returned q) b
theorem aGy (h:Xb x0 w R):Calls prog 122 #[x0] w R:=cc ⟨[],[],[],[],[]⟩ [x0] Tryz.func122 h
def Tn (g:Value) (w:World) (R:Ending→World→Prop):Prop:=
 m R (Bo 58 g) w fun c h=>
 m R (Ar 58) h fun a i=>
 m R (Ad 58 c) i fun j l=>
 m R (Ah (fv 127) [j]) l fun n d=>
 mif n (
 m R (Ad 58 c) d fun o p=>
 m R (Ai 58 a o) p fun _ e=>
 rcell prog 58 a e fun b=>
 R (.returned b) e) (
 m R (At 58 []) d fun q r=>
 m R (Ai 58 a q) r fun _ f=>
 rcell prog 58 a f fun b=>
 R (.returned b) f)
theorem aEk (h:Tn x0 w R):Calls prog 123 #[x0] w R:=cc ⟨[],[],[],[],[]⟩ [x0] Tryz.func123 h
def Lb (aT b:Value) (w:World) (R:Ending→World→Prop):Prop:=
 m R (Bo 58 aT) w fun c aU=>
 m R (Ar 23) aU fun d aV=>
 m R (Ah (fv 36) []) aV fun a aW=>
 m R (Af .rem 3 true b (.int .i64 2)) aW fun o aX=>
 m R (Af .eql 3 true o (.int .i64 0)) aX fun p q=>
 mif p (
 m R (Aa 58 c 0) q fun r aY=>
 m R (Ad 55 r) aY fun s aZ=>
 m R (Af .quo 3 true b (.int .i64 2)) aZ fun t a0=>
 m R (Ag 55 s t) a0 fun u a1=>
 m R (Ad 118 u) a1 fun v x=>
 m R (Ah (fv 160) [a,v]) x fun a2 y=>
 m R (Ah (fv 38) [a]) y fun e z=>
 m R (As e 0) z fun A B=>
 m R (As e 1) B fun a3 C=>
 m R (Al 41 2 [(0,(.string (ByteArray.mk #[108,101,97,102]))),(1,A)]) C fun D E=>
 m R (Ah (fv 34) [D]) E fun F G=>
 m R (Ai 23 d F) G fun _ f=>
 rcell prog 23 d f fun n=>
 R (.returned n) f) (
 m R (Aa 58 c 0) q fun H I=>
 m R (Ad 55 H) I fun J K=>
 m R (Ak .len #[55] 3 [false] [J]) K fun g L=>
 m R (Aa 58 c 1) L fun M N=>
 m R (Ad 56 M) N fun O Q=>
 m R (Af .quo 3 true b (.int .i64 2)) Q fun S T=>
 m R (Ag 56 O S) T fun U V=>
 m R (Ad 222 U) V fun W X=>
 m R (Ah (fv 161) [a,W]) X fun a4 h=>
 Dq h (Ad 58 c) fun Y=>
 Df h (Ah (fv 174) [g,b]) true fun Z aA=>
 Df aA (Ah (fv 124) [Y,Z]) false fun aB aC=>
 Df aC (Ah (fv 84) [a,aB]) false fun a5 aD=>
 dend aD fun i=>
 Dq i (Ad 58 c) fun aE=>
 Df i (Ah (fv 175) [g,b]) true fun aF aG=>
 Df aG (Ah (fv 124) [aE,aF]) false fun aH aI=>
 Df aI (Ah (fv 84) [a,aH]) false fun a6 aJ=>
 dend aJ fun aK=>
 m R (Ah (fv 38) [a]) aK fun j aL=>
 m R (As j 0) aL fun aM aN=>
 m R (As j 1) aN fun a7 aO=>
 m R (Al 41 2 [(0,(.string (ByteArray.mk #[110,111,100,101]))),(1,aM)]) aO fun aP aQ=>
 m R (Ah (fv 34) [aP]) aQ fun aR aS=>
 m R (Ai 23 d aR) aS fun _ l=>
 rcell prog 23 d l fun n=>
 R (.returned n) l)
theorem Qu (h:Lb x0 x1 w R):Calls prog 124 #[x0,x1] w R:=cc (mkA Tryz.f124 [] [] [(8,[0,3,0,0,2,4,7]),(9,[0,3,0,0,2,4,7])] [] []) [x0,x1] Tryz.func124 h
def To (c:Value) (w:World) (R:Ending→World→Prop):Prop:=
 m R (Ah (fv 166) [c,(.int .i64 0)]) w fun h i=>
 m R (Cz .not h) i fun j d=>
 mif j (
 R (.returned (.int .i64 (-1))) d) (
 ml1 (.int .i64 1) d fun b q l a=>
 m R (Af .lss 3 false b c) l fun n e=>
 mif n (
 m R (Af .mul 3 true b (.int .i64 2)) e fun f o=>
 a f o) (
 m R (Af .sub 3 true b (.int .i64 1)) e fun g p=>
 R (.returned g) p))
theorem aEl (h:To x0 w R):Calls prog 125 #[x0] w R:=cc ⟨[(4,[3],3976)],[],[],[],[]⟩ [x0] Tryz.func125 h
def Tp (i a j:Value) (w:World) (R:Ending→World→Prop):Prop:=
 m R (Bo 23 i) w fun l n=>
 m R (Ar 23) n fun b c=>
 Dp (Ax 23 l none none none) fun o=>
 Dq c (Ay 89 9 o) fun p=>
 Dp (Ak .len #[9] 3 [false] [a]) fun d=>
 Df c (Ah (fv 176) [d]) true fun e q=>
 Df q (Al 41 3 [(0,e),(1,a),(2,j)]) true fun f r=>
 Df r (Ah (fv 169) [p,f]) false fun g s=>
 Df s (Ai 23 b g) false fun _ t=>
 dend t fun h=>
 rcell prog 23 b h fun u=>
 R (.returned u) h
theorem aEm (h:Tp x0 x1 x2 w R):Calls prog 126 #[x0,x1,x2] w R:=cc (mkA Tryz.f126 [] [] [(1,[0,3,0,0,2,0,0,5,7,10])] [] []) [x0,x1,x2] Tryz.func126 h
def Tq (eV:Value) (w:World) (R:Ending→World→Prop):Prop:=
 m R (Bo 58 eV) w fun o eW=>
 m R (Aa 58 o 0) eW fun bL eX=>
 m R (Ad 55 bL) eX fun bM eY=>
 m R (Ak .len #[55] 3 [false] [bM]) eY fun e eZ=>
 mj1 (fun e0=>
 m R (Af .gtr 3 true e (.int .i64 64)) eZ fun c bN=>
 Gf R c (Aa 58 o 1) bN fun bO bP=>
 Gf R c (Ad 56 bO) bP fun bQ bR=>
 Gf R c (Ak .len #[56] 3 [false] [bQ]) bR fun bS bT=>
 Gf R c (Bp e) bT fun bU bV=>
 Gf R c (Af .sub 3 true bU (.int .i64 1)) bV fun bW G=>
 Gf R c (Ak .max #[3,3] 3 [false,true] [bW,(.int .i64 0)]) G fun bX H=>
 Gf R c (Af .neq 3 false bS bX) H fun bY bZ=>
 m R (Bd c (.bool true) bY) bZ fun q b0=>
 e0 q b0) fun q e7 I=>
 mif q (
 R (.returned (.bool false)) I) (
 m R (Ar 267) I fun b1 b2=>
 m R (Aa 58 o 0) b2 fun b3 b4=>
 m R (Ad 55 b3) b4 fun J b5=>
 m R (Ak .len #[55] 3 [false] [J]) b5 fun b6 b7=>
 ml1 (.int .i64 0) b7 fun r e8 b8 F=>
 m R (Af .lss 3 false r b6) b8 fun b9 K=>
 mif b9 (
 mj0 (fun L=>
 m R (Ag 55 J r) K fun cA cB=>
 m R (Ad 118 cA) cB fun cC cD=>
 m R (Ar 118) cD fun p cE=>
 m R (Ai 118 p cC) cE fun _ cF=>
 m R (Ad 118 p) cF fun cG cH=>
 m R (At 118 []) cH fun cI cJ=>
 m R (Af .eql 118 false cG cI) cJ fun cK M=>
 mif cK (
 L M) (
 mj1 (fun cL=>
 m R (Aa 118 p 0) M fun cM cN=>
 m R (Ad 3 cM) cN fun cO cP=>
 m R (Af .lss 3 true cO (.int .i64 1)) cP fun j N=>
 Gf R j (Aa 118 p 0) N fun cQ O=>
 Gf R j (Ad 3 cQ) O fun cR Q=>
 Gf R j (Af .gtr 3 true cR (.int .i64 64)) Q fun cS cT=>
 m R (Bd j (.bool true) cS) cT fun f S=>
 Gf R f (Aa 118 p 0) S fun cU T=>
 Gf R f (Ad 3 cU) T fun cV U=>
 Gf R f (Ag 267 b1 cV) U fun cW V=>
 Gf R f (Ad 4 cW) V fun cX cY=>
 m R (Bd f (.bool true) cX) cY fun cZ c0=>
 cL cZ c0) fun c1 e1 W=>
 mif c1 (
 R (.returned (.bool false)) W) (
 m R (Aa 118 p 0) W fun c2 c3=>
 m R (Ad 3 c2) c3 fun c4 c5=>
 m R (Ag 267 b1 c4) c5 fun c6 c7=>
 m R (Ai 4 c6 (.bool true)) c7 fun _ c8=>
 L c8))) fun e2 c9=>
 m R (Af .add 3 true r (.int .i64 1)) c9 fun dA dB=>
 F dA dB) (
 m R (Aa 58 o 1) K fun dC dD=>
 m R (Ad 56 dC) dD fun X dE=>
 m R (Ak .len #[56] 3 [false] [X]) dE fun dF dG=>
 ml1 (.int .i64 0) dG fun l e3 dH s=>
 m R (Af .lss 3 false l dF) dH fun dI Y=>
 mif dI (
 m R (Ag 56 X l) Y fun dJ dK=>
 m R (Ad 222 dJ) dK fun dL dM=>
 m R (Ar 222) dM fun t dN=>
 m R (Ai 222 t dL) dN fun _ dO=>
 mj1 (fun dP=>
 m R (Aa 222 t 0) dO fun dQ dR=>
 m R (Ad 4 dQ) dR fun dS dT=>
 m R (Cz .not dS) dT fun n Z=>
 Gt R n (Ad 222 t) Z fun dU aA=>
 Gt R n (Ah (fv 177) [dU]) aA fun dV aB=>
 Gt R n (Cz .not dV) aB fun dW dX=>
 m R (Bd n dW (.bool false)) dX fun u dY=>
 dP u dY) fun u e4 aC=>
 mif u (
 R (.returned (.bool false)) aC) (
 m R (Aa 222 t 3) aC fun dZ d0=>
 m R (Ad 133 dZ) d0 fun aD d1=>
 m R (Ak .len #[133] 3 [false] [aD]) d1 fun d2 d3=>
 ml1 (.int .i64 0) d3 fun g e5 d4 v=>
 m R (Af .lss 3 false g d2) d4 fun d5 aE=>
 mif d5 (
 m R (Ag 133 aD g) aE fun d6 d7=>
 m R (Ad 3 d6) d7 fun x d8=>
 mj1 (fun d9=>
 m R (Af .mul 3 true (.int .i64 2) l) d8 fun eA eB=>
 m R (Af .add 3 true eA (.int .i64 1)) eB fun eC eD=>
 m R (Ah (fv 167) [e,eC,x]) eD fun eE eF=>
 m R (Cz .not eE) eF fun d aF=>
 Gf R d (Aa 58 o 0) aF fun eG aG=>
 Gf R d (Ad 55 eG) aG fun eH aH=>
 Gf R d (Bp x) aH fun eI aI=>
 Gf R d (Ag 55 eH eI) aI fun eJ aJ=>
 Gf R d (Aa 118 eJ 0) aJ fun eK aK=>
 Gf R d (Ad 3 eK) aK fun eL aL=>
 Gf R d (Af .eql 3 true eL (.int .i64 0)) aL fun eM eN=>
 m R (Bd d (.bool true) eM) eN fun h aM=>
 Gf R h (Bp g) aM fun eO aN=>
 Gf R h (Af .gtr 3 true eO (.int .i64 0)) aN fun eP aO=>
 Gf R h (Bp eP) aO fun b aP=>
 Gt R b (Bp x) aP fun eQ aQ=>
 Gt R b (Aa 222 t 3) aQ fun a0 aR=>
 Gt R b (Ad 133 a0) aR fun a1 aS=>
 Gt R b (Bp g) aS fun a2 aT=>
 Gt R b (Af .sub 3 true a2 (.int .i64 1)) aT fun a3 aU=>
 Gt R b (Ag 133 a1 a3) aU fun a4 aV=>
 Gt R b (Ad 3 a4) aV fun a5 aW=>
 Gt R b (Af .leq 3 false eQ a5) aW fun a6 aX=>
 Gf R h (Bd b a6 (.bool false)) aX fun a7 eR=>
 m R (Bd h (.bool true) a7) eR fun i eS=>
 d9 i eS) fun i e6 aY=>
 mif i (
 R (.returned (.bool false)) aY) (
 m R (Af .add 3 true g (.int .i64 1)) aY fun a8 eT=>
 v a8 eT)) (
 m R (Af .add 3 true l (.int .i64 1)) aE fun a9 eU=>
 s a9 eU))) (
 m R (Af .eql 3 true e (.int .i64 0)) Y fun a aZ=>
 Gf R a (Aa 58 o 0) aZ fun bA y=>
 Gf R a (Ad 55 bA) y fun bB z=>
 Gf R a (Bp e) z fun bC A=>
 Gf R a (Af .sub 3 true bC (.int .i64 1)) A fun bD B=>
 Gf R a (Ag 55 bB bD) B fun bE C=>
 Gf R a (Aa 118 bE 0) C fun bF D=>
 Gf R a (Ad 3 bF) D fun bG E=>
 Gf R a (Af .gtr 3 true bG (.int .i64 0)) E fun bH bI=>
 m R (Bd a (.bool true) bH) bI fun bJ bK=>
 R (.returned bJ) bK)))
theorem aEn (h:Tq x0 w R):Calls prog 127 #[x0] w R:=cc ⟨[(6,[28],36028796750528580),(14,[58],P_ 111+P_ 11+P_ 2-P_ 58-P_ 7),(19,[74],P_ 110+P_ 11+P_ 2-P_ 74-P_ 9)],[(3,[24],33538048),(12,[],18014397435740228),(10,[36],P_ 51-P_ 36),(17,[70],P_ 71-P_ 63),(22,[108],P_ 109-P_ 79)],[],[],[]⟩ [x0] Tryz.func127 h
def Eu (a b:Value) (w:World) (R:Ending→World→Prop):Prop:=
 m R (Ah (fv 178) [a,b]) w fun c d=>
 m R (Af .geq 3 true c (.int .i64 0)) d fun e f=>
 R (.returned e) f
theorem Ii (h:Eu x0 x1 w R):Calls prog 128 #[x0,x1] w R:=cc ⟨[],[],[],[],[]⟩ [x0,x1] Tryz.func128 h
def Ts (b:Value) (w:World) (R:Ending→World→Prop):Prop:=
 m R (Af .lss 3 true b (.int .i64 0)) w fun a c=>
 Gf R a (Bp b) c fun e d=>
 Gf R a (Af .gtr 3 true e (.int .i64 4611686018427387903)) d fun f g=>
 m R (Bd a (.bool true) f) g fun h i=>
 R (.returned h) i
theorem aEo (h:Ts x0 w R):Calls prog 129 #[x0] w R:=cc ⟨[],[],[],[],[]⟩ [x0] Tryz.func129 h
def Tt (a6 y:Value) (w:World) (R:Ending→World→Prop):Prop:=
 m R (Bo 58 a6) w fun x a7=>
 m R (Ad 58 x) a7 fun z a8=>
 m R (Ah (fv 127) [z]) a8 fun A a9=>
 m R (Cz .not A) a9 fun B C=>
 mif B (
 R (.returned (.slice none 0 0)) C) (
 m R (Ak .len #[63] 3 [false] [y]) C fun D bA=>
 ml2 (.slice none 0 0) (.int .i64 0) bA fun d f bH bB i=>
 m R (Af .lss 3 false f D) bB fun E F=>
 mif E (
 mj1 (fun g=>
 m R (Ag 63 y f) F fun G bC=>
 m R (Ad 128 G) bC fun H bD=>
 m R (Ar 128) bD fun e I=>
 m R (Ai 128 e H) I fun _ J=>
 mj0 (fun bE=>
 m R (Aa 128 e 0) J fun K L=>
 m R (Ad 3 K) L fun M N=>
 m R (Af .lss 3 true M (.int .i64 0)) N fun a j=>
 Gf R a (Aa 128 e 0) j fun O l=>
 Gf R a (Ad 3 O) l fun Q n=>
 Gf R a (Aa 58 x 0) n fun S o=>
 Gf R a (Ad 55 S) o fun T p=>
 Gf R a (Ak .len #[55] 3 [false] [T]) p fun U q=>
 Gf R a (Af .mul 3 true (.int .i64 2) U) q fun V r=>
 Gf R a (Af .sub 3 true V (.int .i64 2)) r fun W s=>
 Gf R a (Af .gtr 3 false Q W) s fun X Y=>
 m R (Bd a (.bool true) X) Y fun Z t=>
 mif Z (
 g d t) (
 bE t)) fun bI aA=>
 m R (Ad 58 x) aA fun aB aC=>
 m R (Aa 128 e 0) aC fun aD aE=>
 m R (Ad 3 aD) aE fun aF aG=>
 m R (Ah (fv 152) [aB,aF]) aG fun u aH=>
 m R (As u 0) aH fun aI aJ=>
 m R (As u 1) aJ fun b aK=>
 m R (Ar 23) aK fun aL aM=>
 m R (Ai 23 aL aI) aM fun _ c=>
 mj1 (fun aN=>
 Qt b (Aa 128 e 1) fun aO=>
 Ht b c (Ad 23 aO) fun aP=>
 Et b c (Ah (fv 62) [(.pointer none),aP]) true fun aQ aR=>
 Ht b c (Ad 23 aL) fun aS=>
 Qt b (Af .eql 23 false aQ aS) fun aT=>
 Dp (Bd b aT (.bool false)) fun h=>
 dend aR fun aU=>
 aN h aU) fun h bF v=>
 mif h (
 m R (Ad 128 e) v fun aV aW=>
 m R (Al 63 1 [(0,aV)]) aW fun aX aY=>
 m R (Ak .append #[63,63] 63 [false,false] [d,aX]) aY fun aZ a0=>
 g aZ a0) (
 g d v)) fun d bG a1=>
 m R (Af .add 3 true f (.int .i64 1)) a1 fun a2 a3=>
 i d a2 a3) (
 m R (Ah (fv 155) [d]) F fun a4 a5=>
 R (.returned a4) a5))
theorem aEp (h:Tt x0 x1 w R):Calls prog 130 #[x0,x1] w R:=cc (mkA Tryz.f130 [(5,[5,15],4503599627338656)] [(11,[5],2251799813555104),(8,[],4294443008),(10,[46],P_ 47-P_ 39)] [(9,[0,0,0,3,2,3,0,0])] [] []) [x0,x1] Tryz.func130 h
def Tu (aD:Value) (w:World) (R:Ending→World→Prop):Prop:=
 m R (Bo 58 aD) w fun g aE=>
 m R (Ar 58) aE fun r b=>
 mj1 (fun q=>
 ((
 Dp (Aa 58 g 0) fun h=>
 Dq b (Ad 55 h) fun i=>
 Dp (Aa 58 g 1) fun j=>
 Dq b (Ad 56 j) fun l=>
 Df b (Ah (fv 141) [i]) true fun n aF=>
 Df aF (Ah (fv 142) [l]) false fun c aG=>
 Dp (At 58 [(0,n),(1,c)]) fun d=>
 Df aG (Ar 58) true fun a aH=>
 Df aH (Ai 58 a d) false fun _ aI=>
 dend aI fun aJ=>
 q a aJ)∧(
 Dp (Aa 58 g 0) fun h=>
 Dq b (Ad 55 h) fun i=>
 Dp (Aa 58 g 1) fun j=>
 Dq b (Ad 56 j) fun l=>
 Df b (Ah (fv 141) [i]) true fun n aK=>
 Df aK (Ar 58) true fun a aL=>
 Df aL (Ah (fv 142) [l]) false fun c s=>
 Dp (At 58 [(0,n),(1,c)]) fun d=>
 Df s (Ai 58 a d) false fun _ t=>
 dend t fun u=>
 q a u)∧(
 Dp (Aa 58 g 0) fun h=>
 Dq b (Ad 55 h) fun i=>
 Dp (Aa 58 g 1) fun j=>
 Dq b (Ad 56 j) fun l=>
 Df b (Ar 58) true fun a v=>
 Df v (Ah (fv 141) [i]) true fun n x=>
 Df x (Ah (fv 142) [l]) false fun c y=>
 Dp (At 58 [(0,n),(1,c)]) fun d=>
 Df y (Ai 58 a d) false fun _ z=>
 dend z fun A=>
 q a A))) fun a aN B=>
 m R (Aa 58 a 1) B fun C D=>
 m R (Ad 56 C) D fun E F=>
 m R (Ak .len #[56] 3 [false] [E]) F fun G H=>
 ml1 (.int .i64 0) H fun f aO I o=>
 m R (Af .lss 3 false f G) I fun J e=>
 mif J (
 Dp (Aa 58 a 1) fun K=>
 Dq e (Ad 56 K) fun L=>
 Dp (Aa 58 a 1) fun M=>
 Dq e (Ad 56 M) fun N=>
 Dp (Ag 56 N f) fun O=>
 Dp (Aa 222 O 3) fun Q=>
 Dq e (Ad 133 Q) fun S=>
 Df e (Ah (fv 143) [S]) true fun T U=>
 Dp (Ag 56 L f) fun V=>
 Dp (Aa 222 V 3) fun W=>
 Df U (Ai 133 W T) false fun _ X=>
 dend X fun Y=>
 m R (Af .add 3 true f (.int .i64 1)) Y fun Z aA=>
 o Z aA) (
 m R (Ad 58 a) e fun aB aC=>
 m R (Ai 58 r aB) aC fun _ p=>
 rcell prog 58 r p fun aM=>
 R (.returned aM) p)
theorem aEq (h:Tu x0 w R):Calls prog 131 #[x0] w R:=cc (mkA Tryz.f131 [(3,[15],2147450896)] [(2,[3],4072)] [(5,[0,3,0,0,3,0,0,0,3,2,0,0,4])] [(1,[([0,1,3,4,2,5,6,7,8],[0,3,2,0,3,4,0,8,10]),([0,1,3,4,2,7,5,6,8],[0,3,2,0,3,7,0,5,10]),([0,1,3,4,7,2,5,6,8],[0,3,5,0,3,7,0,2,10])])] []) [x0] Tryz.func131 h
def aDa (q b:Value) (w:World) (R:Ending→World→Prop):Prop:=
 m R (Bo 23 q) w fun r s=>
 mj1 (fun t=>
 m R (Af .lss 3 true b (.int .i64 1)) s fun c d=>
 Gf R c (Bp b) d fun u e=>
 Gf R c (Af .gtr 3 true u (.int .i64 32)) e fun f v=>
 m R (Bd c (.bool true) f) v fun a x=>
 t a x) fun a B g=>
 mif a (
 R (.returned (.tuple #[(.pointer none),(.int .i64 1)])) g) (
 m R (Ad 23 r) g fun h y=>
 m R (At 271 [(2,h)]) y fun i z=>
 m R (Al 243 1 [(0,i)]) z fun j A=>
 m R (At 247 [(0,b),(1,j)]) A fun l n=>
 m R (Bo 247 l) n fun o p=>
 R (.returned (.tuple #[o,(.int .i64 0)])) p)
theorem aOd (h:aDa x0 x1 w R):Calls prog 132 #[x0,x1] w R:=cc ⟨[],[(2,[11],4032)],[],[],[]⟩ [x0,x1] Tryz.func132 h
def Zz (C D g:Value) (w:World) (R:Ending→World→Prop):Prop:=
 m R (Bo 23 D) w fun E F=>
 m R (Ar 23) F fun c G=>
 mj1 (fun H=>
 m R (Af .lss 3 true g (.int .i64 0)) G fun a i=>
 Gf R a (Bp g) i fun j l=>
 Gf R a (Af .geq 3 true j (.int .i64 64)) l fun n I=>
 m R (Bd a (.bool true) n) I fun b J=>
 H b J) fun b N o=>
 mif b (
 m R (At 23 []) o fun p K=>
 m R (Ai 23 c p) K fun _ q=>
 rcell prog 23 c q fun h=>
 R (.returned h) q) (
 m R (Ah (fv 36) []) o fun d r=>
 m R (Ah (fv 85) [d,g]) r fun L s=>
 m R (Ah (fv 38) [d]) s fun e t=>
 m R (As e 0) t fun u v=>
 m R (As e 1) v fun M x=>
 m R (Ad 23 E) x fun y z=>
 m R (Ah (fv 67) [C,y,(.string (ByteArray.mk #[97,112,112])),u]) z fun A B=>
 m R (Ai 23 c A) B fun _ f=>
 rcell prog 23 c f fun h=>
 R (.returned h) f)
theorem aJp (h:Zz x0 x1 x2 w R):Calls prog 133 #[x0,x1,x2] w R:=cc ⟨[],[(2,[15],64512)],[],[],[]⟩ [x0,x1,x2] Tryz.func133 h
def Mg (b f g:Value) (w:World) (R:Ending→World→Prop):Prop:=
 m R (Bo 23 g) w fun h i=>
 m R (Af .neq 110 true b (.pointer none)) i fun j a=>
 mif j (
 Dp (Ao b) fun l=>
 Dp (Aa 265 l 3) fun c=>
 Dq a (Ad 263 c) fun d=>
 Dq a (Ad 23 h) fun e=>
 Df a (Id 263 d f e) false fun _ n=>
 dend n fun o=>
 R (.returned (.tuple #[])) o) (
 R (.returned (.tuple #[])) a)
theorem Vm (h:Mg x0 x1 x2 w R):Calls prog 134 #[x0,x1,x2] w R:=cc (mkA Tryz.f134 [] [] [(2,[0,0,0,3,0,3,1])] [] []) [x0,x1,x2] Tryz.func134 h
def aDb (q:Value) (w:World) (R:Ending→World→Prop):Prop:=
 m R (Bo 23 q) w fun r s=>
 m R (Ad 23 r) s fun t u=>
 ml2 (.slice none 0 0) (.int .i64 0) u fun c b D v a=>
 m R (Af .lss 3 true b (.int .i64 32)) v fun x d=>
 mif x (
 m R (Cq 23 t b) d fun e y=>
 Dp (Af .shr 5 true e (.int .u64 4)) fun f=>
 Dp (Cq 9 (.string (ByteArray.mk #[48,49,50,51,52,53,54,55,56,57,97,98,99,100,101,102])) f) fun g=>
 Dp (Af .and 5 true e (.int .u8 15)) fun h=>
 Dp (Cq 9 (.string (ByteArray.mk #[48,49,50,51,52,53,54,55,56,57,97,98,99,100,101,102])) h) fun i=>
 Df y (Al 89 2 [(0,g),(1,i)]) false fun j z=>
 Df z (Ak .append #[89,89] 89 [false,false] [c,j]) false fun l A=>
 dend A fun B=>
 m R (Af .add 3 true b (.int .i64 1)) B fun n C=>
 a l n C) (
 m R (Ay 89 9 c) d fun o p=>
 R (.returned o) p)
theorem aOe (h:aDb x0 w R):Calls prog 135 #[x0] w R:=cc (mkA Tryz.f135 [(3,[3,7],1048488)] [] [(5,[0,0,0,0,0,0,0,1,4,0])] [] []) [x0] Tryz.func135 h
def Hm (a:Value) (w:World) (R:Ending→World→Prop):Prop:=
 m R (Bo 22 a) w fun b c=>
 m R (Ax 22 b none none none) c fun d e=>
 m R (Ay 89 9 d) e fun f g=>
 R (.returned f) g
theorem Mh (h:Hm x0 w R):Calls prog 136 #[x0] w R:=cc ⟨[],[],[],[],[]⟩ [x0] Tryz.func136 h
def Mi (c d:Value) (w:World) (R:Ending→World→Prop):Prop:=
 m R (Ar 23) w fun a e=>
 m R (Ay 3 5 c) e fun f g=>
 m R (Ay 3 5 d) g fun h i=>
 m R (At 23 [(0,f),(1,h),(2,(.int .u8 1))]) i fun j l=>
 m R (Ai 23 a j) l fun _ b=>
 rcell prog 23 a b fun n=>
 R (.returned n) b
theorem Vn (h:Mi x0 x1 w R):Calls prog 137 #[x0,x1] w R:=cc ⟨[],[],[],[],[]⟩ [x0,x1] Tryz.func137 h
def Ee (a:Value) (w:World) (R:Ending→World→Prop):Prop:=
 m R (Af .eql 55 true a (.slice none 0 0)) w fun c b=>
 mif c (
 R (.returned (.slice none 0 0)) b) (
 m R (Al 55 0 []) b fun d e=>
 m R (Ak .append #[55,55] 55 [false,false] [d,a]) e fun f g=>
 R (.returned f) g)
theorem Gz (h:Ee x0 w R):Calls prog 141 #[x0] w R:=cc ⟨[],[],[],[],[]⟩ [x0] Tryz.func141 h
def Dk (a:Value) (w:World) (R:Ending→World→Prop):Prop:=
 m R (Af .eql 56 true a (.slice none 0 0)) w fun c b=>
 mif c (
 R (.returned (.slice none 0 0)) b) (
 m R (Al 56 0 []) b fun d e=>
 m R (Ak .append #[56,56] 56 [false,false] [d,a]) e fun f g=>
 R (.returned f) g)
theorem Fs (h:Dk x0 w R):Calls prog 142 #[x0] w R:=cc ⟨[],[],[],[],[]⟩ [x0] Tryz.func142 h
def Ha (a:Value) (w:World) (R:Ending→World→Prop):Prop:=
 m R (Af .eql 133 true a (.slice none 0 0)) w fun c b=>
 mif c (
 R (.returned (.slice none 0 0)) b) (
 m R (Al 133 0 []) b fun d e=>
 m R (Ak .append #[133,133] 133 [false,false] [d,a]) e fun f g=>
 R (.returned f) g)
theorem Nk (h:Ha x0 w R):Calls prog 143 #[x0] w R:=cc ⟨[],[],[],[],[]⟩ [x0] Tryz.func143 h
def Dl (c j:Value) (w:World) (R:Ending→World→Prop):Prop:=
 m R (Ak .len #[55] 3 [false] [c]) w fun l n=>
 ml1 (.int .i64 0) n fun a t o b=>
 m R (Af .lss 3 false a l) o fun p d=>
 mif p (
 m R (Ag 55 c a) d fun e q=>
 m R (Ad 118 e) q fun f r=>
 m R (Ah j [f]) r fun g h=>
 mif g (
 R (.returned a) h) (
 m R (Af .add 3 true a (.int .i64 1)) h fun i s=>
 b i s)) (
 R (.returned (.int .i64 (-1))) d)
theorem Ft (h:Dl x0 x1 w R):Calls prog 147 #[x0,x1] w R:=cc ⟨[(2,[8],524080)],[],[],[],[]⟩ [x0,x1] Tryz.func147 h
def Oy (a b:Value) (w:World) (R:Ending→World→Prop):Prop:=
 m R (Bo 118 a) w fun c d=>
 m R (Aa 118 c 0) d fun e f=>
 m R (Ad 3 e) f fun g h=>
 m R (Ad 3 b) h fun i j=>
 m R (Af .eql 3 false g i) j fun l n=>
 R (.returned l) n
theorem aAa (h:Oy x0 x1 w R):Calls prog 148 #[x0,x1] w R:=cc ⟨[],[],[],[],[]⟩ [x0,x1] Tryz.func148 h
def Qv (G h:Value) (w:World) (R:Ending→World→Prop):Prop:=
 m R (Bo 58 G) w fun i H=>
 m R (Af .lss 3 true h (.int .i64 0)) H fun b j=>
 Gf R b (Bp h) j fun I l=>
 Gf R b (Aa 58 i 0) l fun J n=>
 Gf R b (Ad 55 J) n fun o p=>
 Gf R b (Ak .len #[55] 3 [false] [o]) p fun q r=>
 Gf R b (Af .geq 3 false I q) r fun s K=>
 m R (Bd b (.bool true) s) K fun a t=>
 Gf R a (Aa 58 i 0) t fun u v=>
 Gf R a (Ad 55 u) v fun x c=>
 Gf R a (Bp h) c fun y d=>
 Gf R a (Ag 55 x y) d fun z e=>
 Gf R a (Aa 118 z 0) e fun A f=>
 Gf R a (Ad 3 A) f fun B g=>
 Gf R a (Af .eql 3 true B (.int .i64 0)) g fun C D=>
 m R (Bd a (.bool true) C) D fun E F=>
 R (.returned E) F
theorem aCa (h:Qv x0 x1 w R):Calls prog 149 #[x0,x1] w R:=cc ⟨[],[],[],[],[]⟩ [x0,x1] Tryz.func149 h
def aAb (f g X:Value) (w:World) (R:Ending→World→Prop):Prop:=
 m R (Bo 23 X) w fun b Y=>
 m R (Ar 23) Y fun h Z=>
 m R (Ak .len #[133] 3 [false] [g]) Z fun i aA=>
 ml3 (.slice none 0 0) (.slice none 0 0) (.int .i64 0) aA fun j d a aG aB c=>
 m R (Af .lss 3 false a i) aB fun l n=>
 mif l (
 m R (Ag 133 g a) n fun o aC=>
 m R (Ad 3 o) aC fun p aD=>
 mj0 (fun q=>
 m R (Af .gtr 3 true a (.int .i64 0)) aD fun r s=>
 mif r (
 m R (Ad 23 b) s fun t aE=>
 m R (Ah (fv 67) [f,t,(.string (ByteArray.mk #[112,97,116,104])),(.string (ByteArray.mk #[]))]) aE fun u v=>
 m R (Ai 23 b u) v fun _ x=>
 q x) (
 q s)) fun aH y=>
 m R (Ad 23 b) y fun z A=>
 m R (Al 137 1 [(0,z)]) A fun B C=>
 m R (Ak .append #[137,137] 137 [false,false] [j,B]) C fun D E=>
 m R (Ad 23 b) E fun F G=>
 m R (Ah (fv 67) [f,F,(.string (ByteArray.mk #[110,111,100,101])),(.string (ByteArray.mk #[]))]) G fun H I=>
 m R (At 128 [(0,p),(1,H)]) I fun J K=>
 m R (Al 63 1 [(0,J)]) K fun L M=>
 m R (Ak .append #[63,63] 63 [false,false] [d,L]) M fun N O=>
 m R (Af .add 3 true a (.int .i64 1)) O fun Q S=>
 c D N Q S) (
 m R (Ad 23 b) n fun T U=>
 m R (Ah (fv 67) [f,T,(.string (ByteArray.mk #[99,111,109,109,105,116])),(.string (ByteArray.mk #[]))]) U fun V W=>
 m R (Ai 23 h V) W fun _ e=>
 rcell prog 23 h e fun aF=>
 R (.returned (.tuple #[j,d,aF])) e)
theorem aJq (h:aAb x0 x1 x2 w R):Calls prog 150 #[x0,x1,x2] w R:=cc ⟨[(4,[9,10,15],274877881856)],[(8,[],32505856)],[],[],[]⟩ [x0,x1,x2] Tryz.func150 h
def Oz (I J d K:Value) (w:World) (R:Ending→World→Prop):Prop:=
 m R (Bo 58 I) w fun e L=>
 m R (Bo 133 K) L fun M N=>
 m R (Af .mul 3 true (.int .i64 2) J) N fun f O=>
 m R (Ak .len #[133] 3 [false] [d]) O fun g Q=>
 ml3 (.slice none 0 0) f (.int .i64 0) Q fun h i a V S b=>
 m R (Af .lss 3 false a g) S fun j l=>
 mif j (
 m R (Ag 133 d a) l fun n T=>
 m R (Ad 3 n) T fun o c=>
 Dq c (Ad 58 e) fun p=>
 Dp (Aa 58 e 0) fun q=>
 Dq c (Ad 55 q) fun r=>
 Dp (Ak .len #[55] 3 [false] [r]) fun s=>
 Df c (Ah (fv 188) [s,i]) true fun t U=>
 Df U (Ah (fv 187) [p,t]) false fun u v=>
 dend v fun x=>
 m R (Gc (.func 190) [] [M]) x fun y z=>
 m R (Ah (fv 189) [u,y]) z fun A B=>
 m R (Al 234 1 [(0,A)]) B fun C D=>
 m R (Ak .append #[234,234] 234 [false,false] [h,C]) D fun E F=>
 m R (Af .add 3 true a (.int .i64 1)) F fun G H=>
 b E o G H) (
 R (.returned h) l)
theorem aAc (h:Oz x0 x1 x2 x3 w R):Calls prog 151 #[x0,x1,x2,x3] w R:=cc (mkA Tryz.f151 [(4,[9,10,18],137438705152)] [] [(6,[3,0,3,0,0,2,4,0])] [] []) [x0,x1,x2,x3] Tryz.func151 h
def Xc (I b:Value) (w:World) (R:Ending→World→Prop):Prop:=
 m R (Bo 58 I) w fun c J=>
 m R (Ar 23) J fun d K=>
 m R (Af .rem 3 true b (.int .i64 2)) K fun L M=>
 m R (Af .eql 3 true L (.int .i64 0)) M fun N a=>
 mif N (
 ∃ S:Rl,
 Dp (Aa 58 c 0) fun O=>
 dqS prog S a (Ad 55 O) fun f=>
 Dp (Af .quo 3 true b (.int .i64 2)) fun g=>
 Dp (Ag 55 f g) fun h=>
 Dp (Aa 118 h 1) fun i=>
 dqS prog S a (Ad 23 i) fun j=>
 Dp (Aa 58 c 0) fun l=>
 dqS prog S a (Ad 55 l) fun n=>
 Dp (Af .quo 3 true b (.int .i64 2)) fun o=>
 Dp (Ag 55 n o) fun p=>
 Dp (Aa 118 p 0) fun q=>
 dqS prog S a (Ad 3 q) fun r=>
 Dp (Af .gtr 3 true r (.int .i64 0)) fun s=>
 dfS prog S a (Ai 23 d j) true fun _ Q=>
 dend Q fun t=>
 rcell prog 23 d t fun e=>
 R (.returned (.tuple #[e,s])) t) (
 ∃ S:Rl,
 Dp (Aa 58 c 1) fun u=>
 dqS prog S a (Ad 56 u) fun v=>
 Dp (Af .quo 3 true b (.int .i64 2)) fun x=>
 Dp (Ag 56 v x) fun y=>
 Dp (Aa 222 y 1) fun z=>
 dqS prog S a (Ad 23 z) fun A=>
 Dp (Aa 58 c 1) fun B=>
 dqS prog S a (Ad 56 B) fun C=>
 Dp (Af .quo 3 true b (.int .i64 2)) fun D=>
 Dp (Ag 56 C D) fun E=>
 Dp (Aa 222 E 0) fun F=>
 dqS prog S a (Ad 4 F) fun G=>
 dfS prog S a (Ai 23 d A) true fun _ T=>
 dend T fun H=>
 rcell prog 23 d H fun e=>
 R (.returned (.tuple #[e,G])) H)
theorem aGz (h:Xc x0 x1 w R):Calls prog 152 #[x0,x1] w R:=cc (mkA Tryz.f152 [] [] [(2,[0,3,0,0,0,0,3,0,3,0,0,0,0,3,0,2,0]),(3,[0,3,0,0,0,0,3,0,3,0,0,0,0,3,2,0])] [] [2,3]) [x0,x1] Tryz.func152 h
def Xd (d:Value) (w:World) (R:Ending→World→Prop):Prop:=
 m R (Ah (fv 36) []) w fun e q=>
 m R (Ak .len #[133] 3 [false] [d]) q fun f r=>
 ml1 (.int .i64 0) r fun a B s b=>
 m R (Af .lss 3 false a f) s fun g h=>
 mif g (
 m R (Ag 133 d a) h fun i t=>
 m R (Ad 3 i) t fun j u=>
 m R (Ah (fv 85) [e,j]) u fun z v=>
 m R (Af .add 3 true a (.int .i64 1)) v fun l x=>
 b l x) (
 m R (Ah (fv 38) [e]) h fun c y=>
 m R (As c 0) y fun n o=>
 m R (As c 1) o fun A p=>
 R (.returned n) p)
theorem aHa (h:Xd x0 w R):Calls prog 153 #[x0] w R:=cc ⟨[(3,[11],522272)],[],[],[],[]⟩ [x0] Tryz.func153 h
def Xe (cM q cN C:Value) (w:World) (R:Ending→World→Prop):Prop:=
 m R (Bo 58 cM) w fun c cO=>
 m R (Bo 23 cN) cO fun cP cQ=>
 m R (Ar 58) cQ fun f cR=>
 m R (Ad 58 c) cR fun D cS=>
 m R (Ah (fv 127) [D]) cS fun E cT=>
 m R (Cz .not E) cT fun F G=>
 mif F (
 m R (At 58 []) G fun H cU=>
 m R (Ai 58 f H) cU fun _ I=>
 rcell prog 58 f I fun l=>
 R (.returned (.tuple #[l,(.int .i64 1)])) I) (
 m R (Ad 58 c) G fun J cV=>
 m R (Ah (fv 181) [J,q]) cV fun K u=>
 mif K (
 m R (At 58 []) u fun L M=>
 m R (Ai 58 f L) M fun _ v=>
 rcell prog 58 f v fun l=>
 R (.returned (.tuple #[l,(.int .i64 7)])) v) (
 m R (Aa 58 c 0) u fun N O=>
 m R (Ad 55 N) O fun Q T=>
 m R (Ak .len #[55] 3 [false] [Q]) T fun n U=>
 m R (Ah (fv 89) [n,q]) U fun o V=>
 m R (Ak .len #[133] 3 [false] [o]) V fun W X=>
 m R (Ak .len #[137] 3 [false] [C]) X fun Y Z=>
 m R (Af .neq 3 false W Y) Z fun aA x=>
 mif aA (
 m R (At 58 []) x fun aB aC=>
 m R (Ai 58 f aB) aC fun _ y=>
 rcell prog 58 f y fun l=>
 R (.returned (.tuple #[l,(.int .i64 16)])) y) (
 m R (Ad 58 c) x fun aD aE=>
 m R (Ah (fv 182) [aD]) aE fun aF aG=>
 m R (Ai 58 c aF) aG fun _ aH=>
 m R (At 23 []) aH fun aI aJ=>
 m R (Ar 23) aJ fun g aK=>
 m R (Ai 23 g aI) aK fun _ aL=>
 m R (Ak .len #[133] 3 [false] [o]) aL fun aM aN=>
 m R (Af .sub 3 true aM (.int .i64 1)) aN fun aO aP=>
 ml1 aO aP fun d cW aQ r=>
 m R (Af .geq 3 true d (.int .i64 0)) aQ fun aR a=>
 mif aR (
 Dp (Aa 58 c 1) fun aS=>
 Dq a (Ad 56 aS) fun aT=>
 Dp (Ag 133 o d) fun aU=>
 Dq a (Ad 3 aU) fun aV=>
 Dp (Af .quo 3 true aV (.int .i64 2)) fun aW=>
 Dp (Ag 137 C d) fun aX=>
 Dq a (Ad 23 aX) fun aY=>
 Dq a (Ad 23 g) fun aZ=>
 Dp (At 222 [(0,(.bool true)),(1,aY),(2,aZ)]) fun a0=>
 Dp (Ag 56 aT aW) fun a1=>
 Df a (Ai 222 a1 a0) false fun _ a2=>
 dend a2 fun a3=>
 m R (Af .mul 3 true (.int .i64 2) q) a3 fun a4 a5=>
 mj1 (fun z=>
 m R (Af .gtr 3 true d (.int .i64 0)) a5 fun a6 A=>
 mif a6 (
 m R (Af .sub 3 true d (.int .i64 1)) A fun a7 a8=>
 m R (Ag 133 o a7) a8 fun a9 bA=>
 m R (Ad 3 a9) bA fun bB bC=>
 z bB bC) (
 z a4 A)) fun s cX e=>
 mj1 (fun t=>
 ((
 Dq e (Ad 58 c) fun h=>
 Df e (Ah (fv 188) [n,s]) true fun i bD=>
 Df bD (Ah (fv 192) [h,i]) false fun j bE=>
 Df bE (Ar 23) true fun b bF=>
 Df bF (Ai 23 b j) false fun _ bG=>
 dend bG fun bH=>
 t b bH)∧(
 Dq e (Ad 58 c) fun h=>
 Df e (Ah (fv 188) [n,s]) true fun i bI=>
 Df bI (Ar 23) true fun b bJ=>
 Df bJ (Ah (fv 192) [h,i]) false fun j bK=>
 Df bK (Ai 23 b j) false fun _ bL=>
 dend bL fun bM=>
 t b bM)∧(
 Dq e (Ad 58 c) fun h=>
 Df e (Ar 23) true fun b bN=>
 Df bN (Ah (fv 188) [n,s]) true fun i bO=>
 Df bO (Ah (fv 192) [h,i]) false fun j bP=>
 Df bP (Ai 23 b j) false fun _ bQ=>
 dend bQ fun bR=>
 t b bR))) fun b cY p=>
 Dp (Ag 137 C d) fun bS=>
 Dp (Ax 23 bS none none none) fun bT=>
 Dq p (Ay 89 9 bT) fun bU=>
 Dp (Ax 23 g none none none) fun bV=>
 Dq p (Ay 89 9 bV) fun bW=>
 Dp (Ax 23 b none none none) fun bX=>
 Dq p (Ay 89 9 bX) fun bY=>
 Df p (Al 41 4 [(0,(.string (ByteArray.mk #[97,98,111,118,101]))),(1,bU),(2,bW),(3,bY)]) false fun bZ b0=>
 Df b0 (Ah (fv 34) [bZ]) false fun b1 b2=>
 Df b2 (Ai 23 g b1) false fun _ b3=>
 dend b3 fun b4=>
 m R (Af .sub 3 true d (.int .i64 1)) b4 fun b5 b6=>
 r b5 b6) (
 ∃ S:Rl,
 Dp (Aa 58 c 0) fun b7=>
 dqS prog S a (Ad 55 b7) fun b8=>
 Dp (Aa 58 c 0) fun b9=>
 dqS prog S a (Ad 55 b9) fun cA=>
 dqS prog S a (Ad 23 cP) fun cB=>
 dqS prog S a (Ad 23 g) fun cC=>
 Dp (Ag 55 b8 q) fun cD=>
 Dp (Aa 118 cD 1) fun cE=>
 dfS prog S a (Ai 23 cE cB) true fun _ cF=>
 Dp (Ag 55 cA q) fun cG=>
 Dp (Aa 118 cG 3) fun cH=>
 dfS prog S cF (Ai 23 cH cC) false fun _ cI=>
 dend cI fun cJ=>
 m R (Ad 58 c) cJ fun cK cL=>
 m R (Ai 58 f cK) cL fun _ B=>
 rcell prog 58 f B fun l=>
 R (.returned (.tuple #[l,(.int .i64 0)])) B))))
theorem aHb (h:Xe x0 x1 x2 x3 w R):Calls prog 154 #[x0,x1,x2,x3] w R:=cc (mkA Tryz.f154 [(12,[13],P_ 87+P_ 16-P_ 44-P_ 13)] [(18,[14],P_ 71+P_ 14-P_ 64),(19,[15],P_ 76+P_ 15-P_ 71)] [(14,[0,3,0,0,0,3,0,0,0,0,3,3,0,0,1]),(19,[0,0,0,0,3,0,3,0,3,1,4,7]),(20,[0,3,0,0,3,0,3,3,0,0,2,0,0,4])] [(18,[([0,1,2,3,4,5,6],[3,0,0,2,4,8,10]),([0,1,2,3,5,4,6],[3,0,0,2,7,5,10]),([0,1,2,5,3,4,6],[3,0,0,5,7,2,10])])] [20]) [x0,x1,x2,x3] Tryz.func154 h
def Pa (b:Value) (w:World) (R:Ending→World→Prop):Prop:=
 m R (Ah (fv 193) [b]) w fun a c=>
 m R (Ah (fv 194) [a,(fv 195)]) c fun g d=>
 m R (Ah (fv 196) [a,(fv 197)]) d fun e f=>
 R (.returned e) f
theorem aAd (h:Pa x0 w R):Calls prog 155 #[x0] w R:=cc ⟨[],[],[],[],[]⟩ [x0] Tryz.func155 h
def Mj (d e:Value) (w:World) (R:Ending→World→Prop):Prop:=
 m R (Af .neq 64 true d (.pointer none)) w fun c f=>
 Gt R c (Bp e) f fun A g=>
 Gt R c (Af .geq 3 true A (.int .i64 0)) g fun B C=>
 m R (Bd c B (.bool false)) C fun a h=>
 Gt R a (Bp e) h fun i j=>
 Gt R a (Bp d) j fun l n=>
 Gt R a (Ao l) n fun o p=>
 Gt R a (Aa 247 o 0) p fun q r=>
 Gt R a (Ad 3 q) r fun s t=>
 Gt R a (Af .shl 3 true (.int .i64 1) s) t fun u b=>
 Gt R a (Af .lss 3 false i u) b fun v x=>
 m R (Bd a v (.bool false)) x fun y z=>
 R (.returned y) z
theorem Vo (h:Mj x0 x1 w R):Calls prog 156 #[x0,x1] w R:=cc ⟨[],[],[],[],[]⟩ [x0,x1] Tryz.func156 h
def Pb (g C:Value) (w:World) (R:Ending→World→Prop):Prop:=
 m R (Ao g) w fun D E=>
 m R (Aa 247 D 1) E fun h F=>
 m R (Ad 243 h) F fun d G=>
 m R (Ak .len #[243] 3 [false] [d]) G fun i H=>
 ml1 (.int .i64 0) H fun a M I c=>
 m R (Af .lss 3 false a i) I fun j l=>
 mif j (
 m R (Ag 243 d a) l fun n J=>
 m R (Ad 271 n) J fun o K=>
 m R (Ar 271) K fun f L=>
 m R (Ai 271 f o) L fun _ b=>
 Dp (Ao g) fun p=>
 Dp (Aa 247 p 0) fun q=>
 Dq b (Ad 3 q) fun r=>
 Dp (Aa 271 f 0) fun s=>
 Dq b (Ad 3 s) fun t=>
 Dp (Af .sub 3 false r t) fun u=>
 Dp (Af .shr 3 false C u) fun v=>
 Dp (Aa 271 f 1) fun x=>
 Dq b (Ad 3 x) fun y=>
 Dp (Af .eql 3 false v y) fun z=>
 dend b fun e=>
 mif z (
 R (.returned (.tuple #[a,(.bool true)])) e) (
 m R (Af .add 3 true a (.int .i64 1)) e fun A B=>
 c A B)) (
 R (.returned (.tuple #[(.int .i64 0),(.bool false)])) l)
theorem aAe (h:Pb x0 x1 w R):Calls prog 157 #[x0,x1] w R:=cc (mkA Tryz.f157 [(2,[13],4294959344)] [] [(4,[0,0,0,0,3,0,3,0,0,0,3,0])] [] []) [x0,x1] Tryz.func157 h
end Go.Proofs.YtgbenhmdamnmcaaGreat
