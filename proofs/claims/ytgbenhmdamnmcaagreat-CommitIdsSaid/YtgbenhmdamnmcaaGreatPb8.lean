/- Part 8 of the proof. -/
import Derived.Test.YtgbenhmdamnmcaaGreatPb7
import Derived.MapKept
set_option linter.unusedVariables false
namespace Go.Proofs.YtgbenhmdamnmcaaGreat
open Go.Proofs.Tryz
open Go.RowKit Go.Lib
theorem Mem.joinO {H:Hp} {w0 w w':World} {L L':List Res} (h:Mem H w0 L w) (hc:Mem (Hp.of w) w L' w'):Mem H w0 (L'++L) w':=h.join (hc.weak (Ku h.fz)) fun _ _ e=>e
theorem aLm (a b:List H32):kfds (a++b)=kfds a++kfds b:=by simp[kfds]
def IrF (H:Hp) (q:List Fd) (l:List Int):Prop:=∃ C c,q=[.one (.slice C l.length c)]∧Sl H 1 C (ints8 l)∧l.length≤40000
theorem IrF.mono {H H':Hp} {q:List Fd} {l:List Int} (h:IrF H q l) (k:H.le H'):IrF H' q l:=by
 obtain⟨C,c,h1,h2,h3⟩:=h
 exact⟨C,c,h1,h2.mono k,h3⟩
theorem All2.snoc {α:Type} {r:List Fd→α→Prop}:∀ {ps:List (List Fd)} {xs:List α} {q:List Fd} {x:α},All2 r ps xs→r q x→All2 r (ps++[q]) (xs++[x])
 | [],[],_,_,_,h=>⟨h,trivial⟩
 | _::_,_::_,_,_,h,k=>⟨h.1,h.2.snoc k⟩
 | [],_::_,_,_,h,_=>h.elim
 | _::_,[],_,_,h,_=>h.elim
section
variable {H:Hp} {w0 w:World} {L R:List Res} {A B K F:Option Addr} {a c n m kc fc:Nat} {t:Tr} {v:Value}
theorem aSz (g:Nat) (fresh:List Int) (hl:fresh.length≤maxLen) (hs:Sl H 1 F (ints8 fresh)):Clo prog H w0 (fb g 133 [.one (.slice F fresh.length fc)]) (.func (.func 190) #[] #[.pointer (some ⟨g,0,none⟩)]) ivv (isF fresh):=fun y R w K X hM hk=>by
 refine Ex (aSy (fc:=fc) g fresh y hl hs hM) ?_
 rintro en w' ⟨rfl,hM⟩
 exact hk _ hM
theorem bDx (way:List Int) (s:H32) (hl:way.length≤100) (hr:∀ x∈way,0≤x∧x≤1000) (hs:Sl (Hp.of w) 1 A (ints8 way)) (hM:Mem H w0 L w):
  Calls prog 150 #[.pointer none,.slice A way.length a,ha s] w fun en w'=>∃ v,en=.returned v∧∃ K1 c1 K2 c2,v=.tuple #[.slice K1 way.length c1,.slice K2 way.length c2,ha (comS s way.length)]∧Mem H w0 (rowR 23 32 K1 way.length c1 (kfds (secL s way.length))::rowR 128 33 K2 way.length c2 ((keysL way s way.length).map Ky.fds)::L) w':=by
 obtain⟨H1,hH1⟩:∃ H1,H1=Hp.of w:=⟨_,rfl⟩
 have hs0:Mem (Hp.of w) w [] w:=Mem.start (Fz.of w)
 rw[← hH1]at hs hs0
 suffices h:Calls prog 150 #[.pointer none,.slice A way.length a,ha s] w fun en w'=>∃ v,en=.returned v∧∃ K1 c1 K2 c2,v=.tuple #[.slice K1 way.length c1,.slice K2 way.length c2,ha (comS s way.length)]∧Mem H1 w (rowR 23 32 K1 way.length c1 (kfds (secL s way.length))::rowR 128 33 K2 way.length c2 ((keysL way s way.length).map Ky.fds)::[]) w' from
  h.mono fun en w' ⟨v,e,K1,c1,K2,c2,e2,hM2⟩=>⟨v,e,K1,c1,K2,c2,e2,hM.joinO (by rw[hH1]at hM2;exact hM2)⟩
 have d1:spath.size≤1000000∧es0.size≤1000000:=by decide
 have d2:bnode.size≤1000000∧es0.size≤1000000:=by decide
 have d3:scommit.size≤1000000∧es0.size≤1000000:=by decide
 clear hM hH1
 obtain⟨w1,hw1⟩:∃ w1,w1=w:=⟨_,rfl⟩
 rw[← hw1]
 rw[← hw1]at hs0
 have hM:=hs0
 clear hs0
 refine aMx ?_
 unfold aBj
 (((refine Bb hM ?_;clear hM;intro _ _ hM;refine Bj hM ?_;clear hM;intro _ _ hM;refine Ab trivial ?_)))
 rename_i gs _ gr _
 have h0:Mem H1 w1 (rowR 23 32 none 0 0 (kfds (secL s 0))::rowR 128 33 none 0 0 ((keysL way s 0).map Ky.fds)::fb gs 23 [.arr 32 (u8s (secK s (0 - 1)).1)]::[fb gr 23 [.arr 32 (u8s hzero.1)]]) _:=(((hM.row0 128 33).row0 23 32).sub:Mem H1 w1 [rowR 23 32 none 0 0 [],rowR 128 33 none 0 0 [],fb gs 23 [.arr 32 (u8s s.1)],fb gr 23 [.arr 32 (u8s hzero.1)]] _)
 refine⟨fun v1 v2 v3 w'=>∃ (i:Nat) (K1 K2:Option Addr) (c1 c2:Nat),v1=.slice K1 i c1∧v2=.slice K2 i c2∧v3=.int .i64 i∧i≤way.length∧Mem H1 w1 [rowR 23 32 K1 i c1 (kfds (secL s i)),rowR 128 33 K2 i c2 ((keysL way s i).map Ky.fds),fb gs 23 [.arr 32 (u8s (secK s (i - 1)).1)],fb gr 23 [.arr 32 (u8s hzero.1)]] w',fun _ _ v _=>match v with | .int _ k=>way.length - k.toNat|_=>0,⟨0,none,none,0,0,rfl,rfl,rfl,by omega,h0⟩,?_⟩
 clear hM h0
 rintro v1 v2 v3 u4 w4 ⟨i,K1,K2,c1,c2,rfl,rfl,rfl,hi,hM⟩
 skip
 (((refine Av trivial ?_ ?_)))
 ·intro hlt
  have hit:i<way.length:=by omega
  have hx:=hr _ (List.getElem_mem hit)
  (((refine Am ?_));(refine Ca ‹_› ?_ ?_ ?_);(focus (simp only[List.length_map];omega));(focus (simp only[List.length_map];first|done|omega));((intro _ _ hA));(cases hA);(refine Bt hM ‹_› (Bs ?_) ?_);(focus omega))
  refine⟨fun w'=>Mem H1 w1 [rowR 23 32 K1 i c1 (kfds (secL s i)),rowR 128 33 K2 i c2 ((keysL way s i).map Ky.fds),fb gs 23 [.arr 32 (u8s (secK s i).1)],fb gr 23 [.arr 32 (u8s hzero.1)]] w',?_,?_⟩
  ·(((refine Av trivial ?_ ?_)))
   ·intro h0
    (((refine Am ?_;refine Ao hM ?_;refine Bg hM ?_ ?_));(focus (first|exact trivial|assumption|omega));((clear hM;intro _ hM;refine Bi hM ?_;clear hM;intro _ hM)))
    have e:secK s i=drv (secK s (i - 1)) spath es0:=by
     obtain⟨k,rfl⟩:∃ k,i=k+1:=⟨i - 1,by omega⟩
     rfl
    rw[e]
    exact hM.same
   ·intro h0
    obtain rfl:i=0:=by omega
    (((refine Al ?_)))
    exact hM
  clear hM
  intro u5 w5 hM
  (((refine Ao hM ?_;refine Bu hM ?_ ?_ ?_));(focus rfl);(focus (constructor <;> simp));((clear hM;intro _ _ hM;refine Cz hM ?_ ?_));(focus omega);((clear hM;intro _ _ _ hM;refine Ao hM ?_;refine Bg hM ?_ ?_));(focus (first|exact trivial|assumption|omega));((clear hM;intro _ hM;refine Ab trivial ?_;refine Bu hM ?_ ?_ ?_));(focus rfl);(focus (constructor <;> simp));((clear hM;intro _ _ hM;refine Cz hM ?_ ?_));(focus omega);((clear hM;intro _ _ _ hM;refine Ab ?_ ?_));(focus omega))
  rename_i A1 c1' _ _ _ _ A2 c2' _
  have hM:Mem H1 w1 [rowR 23 32 A1 (i+1) c1' (kfds (secL s i)++[[.arr 32 (u8s (secK s i).1)]]),rowR 128 33 A2 (i+1) c2' ((keysL way s i).map Ky.fds++[[.one (.int .i64 way[i]),.arr 32 (u8s (drv (secK s i) bnode es0).1)]]),fb gs 23 [.arr 32 (u8s (secK s i).1)],fb gr 23 [.arr 32 (u8s hzero.1)]] _:=hM.sub
  have e1:kfds (secL s i)++[[.arr 32 (u8s (secK s i).1)]]=kfds (secL s (i+1)):=by
   rw[aSq,aLm]
   rfl
  have e2:(keysL way s i).map Ky.fds++[[.one (.int .i64 way[i]),.arr 32 (u8s (drv (secK s i) bnode es0).1)]]=(keysL way s (i+1)).map Ky.fds:=by
   rw[aOg,List.map_append]
   congr 1
   simp only[List.map_cons,List.map_nil]
   unfold keyK
   rw[aWj (by rw[List.getD_eq_getElem?_getD,List.getElem?_eq_getElem hit];exact hx),List.getD_eq_getElem?_getD,List.getElem?_eq_getElem hit]
   rfl
  exact⟨⟨i+1,A1,A2,c1',c2',rfl,rfl,by rw[Value.int.injEq];refine⟨rfl,?_⟩;push_cast;rfl,by omega,by rw[← e1,← e2];exact hM⟩,by simp only;omega⟩
 ·intro hge
  obtain rfl:i=way.length:=by omega
  (((refine Al ?_;refine Ao hM ?_;refine Bg hM ?_ ?_));(focus (first|exact trivial|assumption|omega));((clear hM;intro _ hM;refine Bi hM ?_;clear hM;intro _ hM;refine Cd hM ?_)))
  exact⟨_,rfl,K1,c1,K2,c2,rfl,hM.sub⟩
def sideK (t:Tr) (pl:Int) (way fresh:List Int) (i:Nat):List Int:=(resT t (bs t.size (wNode pl way i))).filter fun y=>!isF fresh y
def sidesK (t:Tr) (pl:Int) (way fresh:List Int) (n:Nat):List (List Int):=(List.range n).map (sideK t pl way fresh)
theorem aLn (t:Tr) (pl:Int) (way fresh:List Int) (n:Nat):sidesK t pl way fresh (n+1)=sidesK t pl way fresh n++[sideK t pl way fresh n]:=by simp[sidesK,List.range_succ]
theorem aWu {t:Tr} (h:t.Rt) (x:Int):(resT t x).length≤16640:=by
 unfold resT
 split
 ·rename_i ht
  exact Ui h 8 x ht
 ·simp
theorem aTa (pl:Int) (fresh:List Int) (hl:fresh.length≤maxLen) (hpl:0≤pl∧pl<t.size) (hR:t.Rt) (h:TrF H v t) (hs:Sl H 1 A (ints8 (dirL t.size pl))) (hfr:Sl H 1 F (ints8 fresh)) (hf:Fz H w):
  Calls prog 151 #[v,.int .i64 pl,.slice A (dirL t.size pl).length a,.slice F fresh.length fc] w (Outp H w fun H' r=>∃ K kc qs,r=.slice K (dirL t.size pl).length kc∧Sl H' 1 K qs∧All2 (IrF H') qs (sidesK t pl (dirL t.size pl) fresh (dirL t.size pl).length)):=by
 obtain⟨TA,ta,TB,tb,tq,rfl,-⟩:=h.ex
 obtain⟨w1,hw1⟩:∃ w1,w1=w:=⟨_,rfl⟩
 rw[← hw1]
 rw[← hw1]at hf
 have hlen:=hR.len
 have hts:t.size=t.ls.length:=rfl
 have hdl:=Uc t.size pl
 have hM:=Mem.start hf
 refine aBl ?_
 unfold Oz
 (((refine Bb hM ?_;clear hM;intro _ _ hM;refine Bb hM ?_;clear hM;intro _ _ hM;refine Ab ?_ ?_));(focus omega);((refine Ab trivial ?_)))
 rename_i gt _ gf _
 have hM9:Mem H w1 [rowR 133 1 none 0 0 [],fb gt 58 (tfd TA t.ls.length ta TB t.ps.length tb),fb gf 133 [.one (.slice F fresh.length fc)]] _:=(hM.row0 133 1).sub
 refine⟨fun v1 v2 v3 w'=>∃ (i:Nat) (H2:Hp) (K1:Option Addr) (c1:Nat) (qs:List (List Fd)),v1=.slice K1 i c1∧v2=.int .i64 (wNode pl (dirL t.size pl) i)∧v3=.int .i64 i∧i≤(dirL t.size pl).length∧qs.length=i∧Le w1 H H2∧All2 (IrF H2) qs (sidesK t pl (dirL t.size pl) fresh i)∧Mem H2 w1 [rowR 133 1 K1 i c1 qs,fb gt 58 (tfd TA t.ls.length ta TB t.ps.length tb),fb gf 133 [.one (.slice F fresh.length fc)]] w',fun _ _ v _=>match v with | .int _ k=>(dirL t.size pl).length - k.toNat|_=>0,⟨0,H,none,0,[],rfl,rfl,rfl,by omega,rfl,Le.refl _ _,trivial,hM9⟩,?_⟩
 clear hM hM9
 rintro v1 v2 v3 u4 w4 ⟨i,H2,K1,c1,qs,rfl,rfl,rfl,hi,hql,le2,hA2,hM⟩
 skip
 (((refine Av trivial ?_ ?_)))
 ·intro hlt
  have hit:i<(dirL t.size pl).length:=by omega
  obtain⟨y1,y2,y3,y4⟩:=aNz (n:=t.size) (pl:=pl) ⟨hpl.1,hpl.2,by omega⟩ hit
  have hy3:=y3
  obtain⟨z1,z2,z3⟩:=hy3
  have hs2:=hs.mono le2.le
  have hfr2:=hfr.mono le2.le
  have h2:=h.mono le2.le
  (((refine Am ?_));(refine Ca ‹_› ?_ ?_ ?_);(focus (simp only[List.length_map];omega));(focus (simp only[List.length_map];first|done|omega));((intro _ _ hA));(cases hA);(refine Bt hM ‹_› (Bs ?_) ?_);(focus omega);((refine Aw hM ?_;refine An trivial ?_;refine Aw hM ?_;refine An trivial ?_;refine Bd hM ?_ (fun _ _ hM=>?_)));(focus (first|exact trivial|assumption|omega)))
  refine aJa hM (fun w5 hM=>?_)
  refine Be (aLb (bs t.size (wNode pl (dirL t.size pl) i)) (by omega) hR h2 hM.fz) ?_
  rintro r w6 ⟨K,kc,rfl,hM6⟩
  have hM7:=hM.join hM6 fun _ _ e=>e
  clear hM hM6
  have hM:Mem H2 w1 (rowR 3 1 K (resT t (bs t.size (wNode pl (dirL t.size pl) i))).length kc (ints8 (resT t (bs t.size (wNode pl (dirL t.size pl) i))))::[rowR 133 1 K1 i c1 qs,fb gt 58 (tfd TA t.ls.length ta TB t.ps.length tb),fb gf 133 [.one (.slice F fresh.length fc)]]) _:=hM7
  clear hM7
  (((refine Ba hM ?_;clear hM;intro _ hM;refine Ab trivial ?_)))
  have hrl:=aWu hR (bs t.size (wNode pl (dirL t.size pl) i))
  have hM:Mem H2 w1 (fb gf 133 [.one (.slice F fresh.length fc)]::rowR 3 1 K (resT t (bs t.size (wNode pl (dirL t.size pl) i))).length kc (ints8 (resT t (bs t.size (wNode pl (dirL t.size pl) i))))::[rowR 133 1 K1 i c1 qs,fb gt 58 (tfd TA t.ls.length ta TB t.ps.length tb)]) _:=hM.sub
  refine Be (aZq (resT t (bs t.size (wNode pl (dirL t.size pl) i))) rfl (aSz gf fresh hl hfr2) hM (by omega)) ?_
  clear hM
  rintro r w7 ⟨hr,hM⟩
  have hr:r=.slice K (sideK t pl (dirL t.size pl) fresh i).length kc:=hr
  subst hr
  have hM:Mem H2 w1 [fb gf 133 [.one (.slice F fresh.length fc)],rowR 3 1 K (sideK t pl (dirL t.size pl) fresh i).length kc (ints8 (sideK t pl (dirL t.size pl) fresh i)),rowR 133 1 K1 i c1 qs,fb gt 58 (tfd TA t.ls.length ta TB t.ps.length tb)] _:=hM
  have hM:Mem H2 w1 (rowR 3 1 K (sideK t pl (dirL t.size pl) fresh i).length kc (ints8 (sideK t pl (dirL t.size pl) fresh i))::[rowR 133 1 K1 i c1 qs,fb gt 58 (tfd TA t.ls.length ta TB t.ps.length tb),fb gf 133 [.one (.slice F fresh.length fc)]]) _:=hM.sub
  have hsl:(sideK t pl (dirL t.size pl) fresh i).length≤40000:=Nat.le_trans (List.length_filter_le _ _) (by omega)
  obtain⟨H3,l3,hM3,hs3,-⟩:=hM.fz0
  clear hM
  have hM:=hM3
  clear hM3
  (((refine Bu hM ?_ ?_ ?_));(focus rfl);(focus (constructor <;> simp));((clear hM;intro _ _ hM;refine Cz hM ?_ ?_));(focus omega);((clear hM;intro _ _ _ hM;refine Ab ?_ ?_));(focus omega))
  rename_i A2 c2 _
  have hA3:=(hA2.mono fun q x k=>IrF.mono k l3.le).snoc (⟨K,kc,rfl,hs3,hsl⟩:IrF H3 [.one (.slice K (sideK t pl (dirL t.size pl) fresh i).length kc)] (sideK t pl (dirL t.size pl) fresh i))
  rw[← aLn]at hA3
  have hwn:(dirL t.size pl)[i]=wNode pl (dirL t.size pl) (i+1):=by
   show _=(dirL t.size pl).getD i 0
   rw[List.getD_eq_getElem?_getD,List.getElem?_eq_getElem hit]
   rfl
  rw[hwn]
  exact⟨⟨i+1,H3,A2,c2,_,rfl,rfl,by rw[Value.int.injEq];refine⟨rfl,?_⟩;push_cast;rfl,by omega,by rw[List.length_append,hql];rfl,le2.trans l3,hA3,hM.sub⟩,by simp only;omega⟩
 ·intro hge
  obtain rfl:i=(dirL t.size pl).length:=by omega
  (((refine Al ?_)))
  have hM9:Mem H2 w1 (rowR 133 1 K1 (dirL t.size pl).length c1 qs::[]) _:=hM.sub
  obtain⟨H3,l3,hM3,hs3,-⟩:=hM9.fz0
  exact hM3.out (le2.trans l3) ⟨K1,c1,qs,rfl,hs3,hA2.mono fun q x k=>IrF.mono k l3.le⟩
end
end Go.Proofs.YtgbenhmdamnmcaaGreat
namespace Go.Proofs.YtgbenhmdamnmcaaGreat
open Go.Proofs.Tryz
open Go.RowKit Go.Lib
structure Rg where
 pub:H32
 wraps:List (List Int)
abbrev Rg.row (r:Rg) (C:Option Addr) (c:Nat):List Fd:=[.arr 32 (u8s r.pub.1),.one (.slice C r.wraps.length c)]
abbrev strs (l:List (List Int)):List (List Fd):=l.map fun s=>[Fd.one (.string (strOfNums s))]
def RgF (H:Hp) (q:List Fd) (r:Rg):Prop:=∃ C c,q=r.row C c∧Sl H 1 C (strs r.wraps)∧r.wraps.length≤100000
theorem RgF.mono {H H':Hp} {q:List Fd} {r:Rg} (h:RgF H q r) (k:H.le H'):RgF H' q r:=by
 obtain⟨C,c,h1,h2,h3⟩:=h
 exact⟨C,c,h1,h2.mono k,h3⟩
structure Gw where
 tree:Tr
 rungs:List Rg
 secs:List H32
 keys:List Ky
 com:H32
def Gw.none:Gw:=⟨Tr.none,[],[],[],hzero⟩
abbrev gfd (A:Option Addr) (n a:Nat) (B:Option Addr) (m b:Nat) (R:Option Addr) (rn ra:Nat) (S:Option Addr) (sn sa:Nat) (K:Option Addr) (kn ka:Nat) (com:H32):List Fd:=
 [.one (.slice A n a),.one (.slice B m b),.one (.slice R rn ra),.one (.slice S sn sa),.one (.slice K kn ka),.arr 32 (u8s com.1)]
def GwF (H:Hp) (v:Value) (g:Gw):Prop:=∃ A a B b R ra S sa K ka qs,v=.agg (fl (gfd A g.tree.ls.length a B g.tree.ps.length b R g.rungs.length ra S g.secs.length sa K g.keys.length ka g.com)).toArray ∧
 TrF H (tv A g.tree.ls.length a B g.tree.ps.length b) g.tree∧Sl H 33 R qs∧All2 (RgF H) qs g.rungs∧Sl H 32 S (kfds g.secs)∧Sl H 33 K (g.keys.map Ky.fds)
theorem GwF.mono {H H':Hp} {v:Value} {g:Gw} (h:GwF H v g) (k:H.le H'):GwF H' v g:=by
 obtain⟨A,a,B,b,R,ra,S,sa,K,ka,qs,h1,h2,h3,h4,h5,h6⟩:=h
 exact⟨A,a,B,b,R,ra,S,sa,K,ka,qs,h1,h2.mono k,h3.mono k,h4.mono fun _ _ x=>RgF.mono x k,h5.mono k,h6.mono k⟩
theorem TrF.none (H:Hp):TrF H (tv .none 0 0 .none 0 0) Tr.none:=⟨⟨.none,0,.none,0,[],rfl,Sl.nil _ _ _,Sl.nil _ _ _,trivial⟩,by decide,by decide⟩
theorem GwF.none (H:Hp):GwF H (.agg (fl (gfd .none 0 0 .none 0 0 .none 0 0 .none 0 0 .none 0 0 hzero)).toArray) Gw.none:=⟨.none,0,.none,0,.none,0,.none,0,.none,0,[],rfl,TrF.none H,Sl.nil _ _ _,trivial,Sl.nil _ _ _,Sl.nil _ _ _⟩
abbrev sleafK:ByteArray:=ByteArray.mk #[108,101,97,102]
def leafS (once:H32):H32:=drv once sleafK es0
def pubK (s:H32) (k:Nat):H32:=pubH (drv (secK s k) bnode es0)
def pubsL (s:H32) (n:Nat):List H32:=(List.range n).map (pubK s)
theorem aOm (s:H32) (n:Nat):pubsL s (n+1)=pubsL s n++[pubK s n]:=by simp[pubsL,List.range_succ]
def wrapT (t:Tr) (once:H32) (about:List Int) (s:H32) (i j:Nat) (x:Int):List Int:=wrapL rowK tagK kemH (pubAt t x).1 (drv once swrap (strOfNums (numB i++numB j))) about s.1
def wrapsT (t:Tr) (once:H32) (about:List Int) (s:H32) (i:Nat) (side:List Int) (n:Nat):List (List Int):=(List.range n).map fun j=>wrapT t once about s i j (side.getD j 0)
theorem aLo (t:Tr) (once:H32) (about:List Int) (s:H32) (i:Nat) (side:List Int) (n:Nat):wrapsT t once about s i side (n+1)=wrapsT t once about s i side n++[wrapT t once about s i n (side.getD n 0)]:=by simp[wrapsT,List.range_succ]
theorem aCy (t:Tr) (once:H32) (about:List Int) (s:H32) (i:Nat) (side:List Int) (n:Nat):(wrapsT t once about s i side n).length=n:=by simp[wrapsT]
def rungK (t:Tr) (once:H32) (about:List Int) (s:H32) (side:List Int) (i:Nat):Rg:=⟨pubK s (i+1),wrapsT t once about (secK s (i+1)) i side side.length⟩
def rungsK (t:Tr) (pl:Int) (way fresh:List Int) (once:H32) (about:List Int) (s:H32) (n:Nat):List Rg:=(List.range n).map fun i=>rungK t once about s (sideK t pl way fresh i) i
theorem aLp (t:Tr) (pl:Int) (way fresh:List Int) (once:H32) (about:List Int) (s:H32) (n:Nat):rungsK t pl way fresh once about s (n+1)=rungsK t pl way fresh once about s n++[rungK t once about s (sideK t pl way fresh n) n]:=by simp[rungsK,List.range_succ]
theorem aOn (t:Tr) (pl:Int) (way fresh:List Int) (once:H32) (about:List Int) (s:H32) (n:Nat):(rungsK t pl way fresh once about s n).length=n:=by simp[rungsK]
def growG (t:Tr) (pl:Int) (once:H32) (about:List Int) (fresh:List Int):Gw:=
 let way:=dirL t.size pl
 let s:=leafS once
 ⟨(t.pathP pl (pubK s 0) ((pubsL s (way.length+1)).drop 1)).1,rungsK t pl way fresh once about s way.length,(secL s (way.length+1)).drop 1,sortedK (keysL (2*pl::way) s (way.length+1)),comS s (way.length+1)⟩
def growT (t:Tr) (pl:Int) (once:H32) (about:List Int) (fresh:List Int):Gw × Int:=
 if ¬t.right=true then (Gw.none,1) else if t.nobody pl then (Gw.none,7) else if 65536<about.length then (Gw.none,5) else (growG t pl once about fresh,0)
theorem aCz {t:Tr} (h:t.Rt):∀ (f:Nat) (x:Int),thr t.size x→∀ y∈resL f t x,thr t.size y
 | 0,x,ht,y,hy=>by
   unfold resL at hy
   split at hy
   ·rw[List.mem_singleton.1 hy]
    exact ht
   ·cases hy
 | f+1,x,ht,y,hy=>by
   unfold resL at hy
   by_cases he:x%2=0
   ·rw[if_pos he]at hy
    split at hy
    ·rw[List.mem_singleton.1 hy]
     exact ht
    ·cases hy
   ·rw[if_neg he]at hy
    have hlen:=h.len
    have hts:t.size=t.ls.length:=rfl
    obtain⟨k1,k2,k3⟩:=id ht
    have hix:(x / 2).toNat<t.ps.length:=by omega
    obtain⟨-,hd,-⟩:=h.parts.2 _ hix
    by_cases hs:(parAt t (x / 2)).set=true
    ·rw[if_pos hs]at hy
     rcases List.mem_cons.1 hy with rfl|hy
     ·exact ht
     ·obtain⟨p,hp,rfl⟩:=List.mem_map.1 hy
      rw[aFs hix]at hp
      obtain⟨a1,a2,-⟩:=Uf (hd p hp).1
      exact⟨k1,by omega,by omega⟩
    ·rw[if_neg hs]at hy
     obtain⟨⟨t1,t2⟩,-⟩:=aCn ht (by omega)
     rcases List.mem_append.1 hy with hy|hy
     ·exact aCz h f _ t1 y hy
     ·exact aCz h f _ t2 y hy
theorem aTb {t:Tr} (h:t.Rt) {pl:Int} {way fresh:List Int} {i:Nat}:∀ y∈sideK t pl way fresh i,thr t.size y:=fun y hy=>by
 have hy:=(List.mem_filter.1 hy).1
 unfold resT at hy
 split at hy
 ·rename_i ht
  exact aCz h 8 _ ht y hy
 ·cases hy
theorem aZr {n pl:Int} (h:0≤pl∧pl<n∧n≤64) {m:Nat} (hm:m<(dirL n pl).length):0≤(dirL n pl)[m]∧(dirL n pl)[m]≤126:=by
 have hd:dirL n pl=dirF 8 n (2*pl):=if_pos ⟨h.1,h.2.1⟩
 have h1:=aCp (n:=n) 8 (2*pl) m (by rw[← hd];exact hm)
 have e:(dirL n pl)[m]=(dirF 8 n (2*pl))[m]'(by rw[← hd];exact hm):=by simp only[hd]
 rw[e]
 refine⟨h1.2,?_⟩
 have h2:=h1.1
 have h3:=h1.2
 rw[h2]at h3 ⊢
 have ht:=aHy (aNx (Int.not_lt.2 h3)) (Int.not_lt.2 h3)
 obtain⟨k1,k2,k3⟩:=ht
 omega
section
variable {H:Hp} {w0 w:World} {L R:List Res} {A B K F:Option Addr} {a b c n m kc fc:Nat} {t:Tr} {v:Value}
theorem aTc (p:Int) (h:TrF H v t) (hf:Fz H w):Calls prog 149 #[v,.int .i64 p] w fun en w'=>en=.returned (.bool (decide (t.nobody p)))∧St w [] w':=by
 obtain⟨A,a,B,b,q,rfl,h1,-⟩:=h.ex
 have hM:=Mem.start hf
 have hl':t.ls.length≤9223372036854775807:=h.len.1
 refine aDy ?_
 unfold Qq
 (((refine Bb hM ?_;clear hM;intro _ _ hM)))
 (((refine Av trivial ?_ ?_)))
 ·intro h0
  ((((iterate 5 refine Ar ?_);refine Ab trivial ?_;(iterate 7 refine Ar ?_);refine Ab trivial ?_)))
  exact⟨by rw[decide_eq_true (show t.nobody p from .inl (.inl h0))],hM.st⟩
 ·intro h0
  (((refine Ae ?_;refine Ab trivial ?_;refine Ae ?_;refine Ab trivial ?_;refine Ae ?_;refine Ao hM ?_;refine Ae ?_;refine Ab trivial ?_;refine Ae ?_)))
  (((refine Av trivial ?_ ?_)))
  ·intro h2
   (((refine Ab trivial ?_;(iterate 7 refine Ar ?_);refine Ab trivial ?_)))
   exact⟨by rw[decide_eq_true (show t.nobody p from .inl (.inr h2))],hM.st⟩
  ·intro h2
   have h3:p.toNat<t.ls.length:=by omega
   have h4:=Qa (ls:=t.ls) (p:=p) (by omega) h3
   (((refine Ab trivial ?_;refine Ae ?_;refine Ab trivial ?_;refine Ae ?_;refine Ao hM ?_;refine Ae ?_;refine Ab trivial ?_;refine Ae ?_));(refine Ca ‹_› ?_ ?_ ?_);(focus (simp only[List.length_map];omega));(focus (simp only[List.length_map];first|done|omega));((intro _ _ hA));(cases hA);((refine Ae ?_;refine Ab trivial ?_;refine Ae ?_));(refine Ff hM ‹_› (Co ?_) ?_);(focus omega);((refine Ae ?_)))
   rw[← h4]
   (((refine Av trivial ?_ ?_)))
   ·intro h5
    (((refine Ab trivial ?_)))
    exact⟨by rw[decide_eq_true (show t.nobody p from .inr h5)],hM.st⟩
   ·intro h5
    (((refine Ab trivial ?_)))
    exact⟨by rw[decide_eq_false (show ¬t.nobody p from fun k=>k.elim (fun k=>k.elim h0 h2) h5)],hM.st⟩
theorem aZs {P:Program} {n cap sz t:Nat} {ps:List (List Fd)} {kk:IntKind} {ll:Int} (a:Sl H sz A ps) [c:SliS P t sz] (hn:n=ps.length) (hl:0≤ll∧ll≤n) (hcap:n≤cap):∃ B,Sl H sz B (ps.drop ll.toNat)∧Pur P (Ax t (.slice A n cap) (some (.int kk ll)) none none) (.slice B (n - ll.toNat) (cap - ll.toNat)):=by
 have h5:=fun w=>run_slice_l (P:=P) w t A n cap c.ok.1 kk ll hl.1 hl.2
 have h6:∀ w,(sizeOf (P.elem t)).run P w=.ok sz w:=Ce c.ok.2
 cases A with
 | none=>
   have hp:ps=[]:=by
    rcases a.at_ with h|⟨b,o,c,h,_⟩
    ·exact h
    ·cases h
   subst hp
   refine⟨none,by rw[List.drop_nil];exact Sl.nil _ _ _,fun w=>?_⟩
   simp only[Ax,sv,Sem.run_bind,run_sliceAt_slice w t _ _ _ _ c.ok.1,h5,h6,Result.andThen_ok,sliced]
   simp
 | some a0=>
   by_cases hc:cap=ll.toNat
   ·refine⟨some a0,by rw[List.drop_eq_nil_of_le (by omega)];exact Sl.nil _ _ _,fun w=>?_⟩
    simp only[Ax,sv,Sem.run_bind,run_sliceAt_slice w t _ _ _ _ c.ok.1,h5,h6,Result.andThen_ok,sliced,if_pos hc]
    simp
   ·by_cases hp:ps=[]
    ·subst hp
     refine⟨some (a0.add (ll.toNat*sz)),by rw[List.drop_nil];exact Sl.nil _ _ _,fun w=>?_⟩
     simp only[Ax,sv,Sem.run_bind,run_sliceAt_slice w t _ _ _ _ c.ok.1,h5,h6,Result.andThen_ok,sliced,if_neg hc,Option.map_some]
     simp
    ·obtain⟨b,o,hA⟩:=a.some_ (List.length_pos_iff.2 hp)
     cases hA
     refine⟨some ⟨b,o+ll.toNat*sz,none⟩,a.drop_ (by omega),fun w=>?_⟩
     simp only[Ax,sv,Sem.run_bind,run_sliceAt_slice w t _ _ _ _ c.ok.1,h5,h6,Result.andThen_ok,sliced,if_neg hc,Option.map_some,Addr.add_lit]
     simp
theorem aOo {P:Program} {n cap sz:Nat} {t:TypeId} {ps:List (List Fd)} {Kq:Value→Prop} {kk:IntKind} {ll:Int} (a:Sl H sz A ps) [cc:SliS P t sz] (hn:n=ps.length) (hl:0≤ll∧ll≤n) (hcap:n≤cap) (hk:∀ B,Sl H sz B (ps.drop ll.toNat)→Kq (.slice B (n - ll.toNat) (cap - ll.toNat))):dp P (Ax t (.slice A n cap) (some (.int kk ll)) none none) Kq:=by
 obtain⟨B,h1,h2⟩:=aZs (P:=P) (t:=t) (kk:=kk) a hn hl hcap
 exact Ob h2 (hk B h1)
theorem dfz {P:Program} {s:Sem Next} {ext:Bool} {Q:Hp} {Kt:Value→World→Prop} (h:Mem H w0 L w) (hk:∀ w1,Mem H w0 L w1→mop P s w1 (fun v w'=>Fz Q w'∧Kt v w') (fun _ _=>False)):dfS P (Rl.fz Q) w s ext Kt:=
 ⟨fun w1 hd=>Fy (hk w1 (h.drawn hd)) (fun _ _ x=>⟨fun _ _=>x.1,x.2⟩) fun _ _ h=>h⟩
end
end Go.Proofs.YtgbenhmdamnmcaaGreat
namespace Go.Proofs.YtgbenhmdamnmcaaGreat
open Go.Proofs.Tryz
open Go.RowKit Go.Lib
section
variable {H:Hp} {w0 w:World} {L R:List Res} {A B K F:Option Addr} {a b c n m kc fc:Nat} {t:Tr} {v:Value}
theorem aZt (pl:Int) (once:H32) (about fresh:List Int) (hpl:-1000000≤pl∧pl≤1000000) (hal:about.length≤100000000) (hl:fresh.length≤maxLen) (h:TrF H v t) (hfr:Sl H 1 F (ints8 fresh)) (hf:Fz H w):
  Calls prog 77 #[.pointer none,v,.int .i64 pl,ha once,.string (strOfNums about),.slice F fresh.length fc] w (Outp H w fun H' r=>∃ gv,r=.tuple #[gv,.int .i64 (growT t pl once about fresh).2]∧GwF H' gv (growT t pl once about fresh).1):=by
 have hx:=h.ex
 obtain⟨TA,ta,TB,tb,tq,rfl,-⟩:=hx
 obtain⟨w1,hw1⟩:∃ w1,w1=w:=⟨_,rfl⟩
 rw[← hw1]
 rw[← hw1]at hf
 have hM:=Mem.start hf
 have hab:(strOfNums about).size=about.length:=strOfNums_size _
 refine aGr ?_
 unfold Td
 (((refine Bb hM ?_;clear hM;intro _ _ hM;refine Bb hM ?_;clear hM;intro _ _ hM;refine Bj hM ?_;clear hM;intro _ _ hM;refine Ao hM ?_)))
 rename_i gt _ go _ g12 _
 refine Bn hM (aId h hM.fz) (fun w hM2=>?_)
 replace hM:=hM2
 clear hM2
 unfold growT
 cases hr:t.right
 ·(((refine Ab trivial ?_;refine Am ?_;refine Ab trivial ?_;refine Bi hM ?_;clear hM;intro _ hM;refine Cd hM ?_)))
  exact hM.out (Le.refl _ _) ⟨_,rfl,GwF.none _⟩
 rw[if_neg (by simp)]
 have hR:=Tr.rt.1 hr
 have hlen:=hR.len
 have hts:t.size=t.ls.length:=rfl
 have hdl:=Uc t.size pl
 (((refine Ab trivial ?_;refine Al ?_;refine Ao hM ?_)))
 refine Bn hM (aTc pl h hM.fz) (fun w hM2=>?_)
 replace hM:=hM2
 clear hM2
 by_cases hnb:t.nobody pl
 ·rw[decide_eq_true hnb]
  (((refine Am ?_;refine Ab trivial ?_;refine Bi hM ?_;clear hM;intro _ hM;refine Cd hM ?_)))
  exact hM.out (Le.refl _ _) ⟨_,by rw[if_pos hnb],by rw[if_pos hnb];exact GwF.none _⟩
 rw[decide_eq_false hnb,if_neg hnb]
 obtain⟨b0,b1,b2⟩:=Tr.body hnb
 (((refine Al ?_;refine Ab trivial ?_)))
 (((refine Av trivial ?_ ?_)))
 ·intro hgt
  (((refine Am ?_;refine Ab trivial ?_;refine Bi hM ?_;clear hM;intro _ hM;refine Cd hM ?_)))
  exact hM.out (Le.refl _ _) ⟨_,by rw[if_pos (by omega)],by rw[if_pos (by omega)];exact GwF.none _⟩
 intro hgt
 rw[if_neg (by omega)]
 (((refine Al ?_;refine Ab trivial ?_;refine Ao hM ?_;refine Ab trivial ?_)))
 refine If hM (Sb t.size pl (by omega) hM.fz) ?_
 clear hM
 rintro H2 r w2 l2 hM ⟨WA,wc,rfl,hW⟩
 have hgw:growG t pl once about fresh=⟨(t.pathP pl (pubK (leafS once) 0) ((pubsL (leafS once) ((dirL t.size pl).length+1)).drop 1)).1,rungsK t pl (dirL t.size pl) fresh once about (leafS once) (dirL t.size pl).length,(secL (leafS once) ((dirL t.size pl).length+1)).drop 1,sortedK (keysL (2*pl::dirL t.size pl) (leafS once) ((dirL t.size pl).length+1)),comS (leafS once) ((dirL t.size pl).length+1)⟩:=rfl
 rw[hgw]
 clear hgw
 replace hM:Mem H2 w1 (fb go 23 [.arr 32 (u8s once.1)]::[fb gt 58 (tfd TA t.ls.length ta TB t.ps.length tb),fb g12 139 (gfd none 0 0 none 0 0 none 0 0 none 0 0 none 0 0 hzero)]) _:=hM.sub
 obtain⟨H3,l3,hM3,hgo⟩:=hM.fzb
 clear hM
 have hM:=hM3
 clear hM3
 have hs3:=hW.mono l3.le
 have d1:sleafK.size≤1000000∧es0.size≤1000000:=by decide
 have hwr:∀ x∈2*pl::dirL t.size pl,0≤x∧x≤1000:=fun x hx=>by
  rcases List.mem_cons.1 hx with rfl|hx
  ·omega
  ·obtain⟨m,hm,rfl⟩:=List.getElem_of_mem hx
   have:=aZr ⟨b0,by omega⟩ hm
   omega
 skip
 refine⟨fun v1 v2 v3 w'=>∃ (K1:Option Addr) (c1:Nat) (K2:Option Addr) (c2 g17:Nat),v1=.slice K1 ((dirL t.size pl).length+1) c1∧v2=.slice K2 ((dirL t.size pl).length+1) c2∧v3=.pointer (some ⟨g17,0,none⟩)∧Mem H3 w1 [rowR 23 32 K1 ((dirL t.size pl).length+1) c1 (kfds (secL (leafS once) ((dirL t.size pl).length+1))),rowR 128 33 K2 ((dirL t.size pl).length+1) c2 ((keysL (2*pl::dirL t.size pl) (leafS once) ((dirL t.size pl).length+1)).map Ky.fds),fb g17 23 [.arr 32 (u8s (comS (leafS once) ((dirL t.size pl).length+1)).1)],fb gt 58 (tfd TA t.ls.length ta TB t.ps.length tb),fb g12 139 (gfd none 0 0 none 0 0 none 0 0 none 0 0 none 0 0 hzero)] w',?_,?_⟩
 ·refine⟨Rl.fz H3,?_⟩
  have hF:=hM.fz
  repeat' apply And.intro
  all_goals
   (((refine An ?_ ?_));(focus omega);(refine Nh ‹_› ‹_› ?_))
   repeat (first
    | (refine dfz hM (fun w hM=>?_)
       with_reducible show mop _ (Ai .append _ _ _ _) _ _ _
       refine aPh hM hs3 (Nk _).symm ?_ ?_
       focus (constructor <;> omega)
       clear hM
       intro A' c' w' hM
       rw[Nat.add_comm 1]at hM ⊢
       refine⟨hM.fz,?_⟩
       skip)
    | (refine dfz hM (fun w hM=>?_)
       with_reducible show mop _ (Ah (fv 150) _) _ _ _
       refine Be (bDx (2*pl::dirL t.size pl) (leafS once) (by simp only[List.length_cons];omega) hwr (hM.reads (A:=A')) hM) ?_
       clear hM
       rintro r w' ⟨K1,c1,K2,c2,rfl,hM⟩
       refine⟨hM.fz,?_⟩
       (first|((((iterate 3 refine An trivial ?_);refine Cb hM ?_;clear hM;intro _ hM;refine Ba hM ?_;clear hM;intro _ hM)))|((((iterate 3 refine An trivial ?_))))))
    | (refine dfz hM (fun w hM=>?_)
       (first|(((refine Bu hM ?_ ?_ ?_));(focus rfl);(focus (constructor <;> simp));((clear hM;intro _ _ hM)))|(((refine Bg hM ?_ ?_));(focus (first|exact trivial|assumption|omega));((clear hM;intro _ hM)))|(((refine Bj hM ?_;clear hM;intro _ _ hM))))
       refine⟨hM.fz,?_⟩
       (first|(((refine Cb hM ?_;clear hM;intro _ hM;refine Ba hM ?_;clear hM;intro _ hM)))|skip)))
   exact⟨_,_,_,_,_,rfl,rfl,rfl,hM.sub⟩
 clear hM
 rintro v1 v2 v3 u3 w3 ⟨K1,c1,K2,c2,g17,rfl,rfl,rfl,hM⟩
 have hcap1:=(Mem.rowLen hM ⟨.refl _⟩).2.1
 obtain⟨H4,l4,hM4,hK1',-⟩:=hM.fz0
 obtain⟨H5,l5,hM5,hK2,-⟩:=hM4.fz0
 have hK1:=hK1'.mono l5.le
 clear hM hM4 hK1'
 have hM:=hM5
 clear hM5
 have hkn:(keysL (2*pl::dirL t.size pl) (leafS once) ((dirL t.size pl).length+1)).length=(dirL t.size pl).length+1:=aSr _ _ _
 (((refine Bj hM ?_;clear hM;intro _ _ hM;refine Ab trivial ?_)))
 rename_i g18 _
 have hM9:Mem H5 w1 [rowR 23 32 none 0 0 (kfds (pubsL (leafS once) 0)),fb g18 139 (gfd none 0 0 none 0 0 none 0 0 none 0 0 none 0 0 hzero),fb g17 23 [.arr 32 (u8s (comS (leafS once) ((dirL t.size pl).length+1)).1)],fb gt 58 (tfd TA t.ls.length ta TB t.ps.length tb),fb g12 139 (gfd none 0 0 none 0 0 none 0 0 none 0 0 none 0 0 hzero)] _:=hM.row0 23 32
 refine⟨fun v1 v2 w'=>∃ (i:Nat) (K3:Option Addr) (c3:Nat),v1=.slice K3 i c3∧v2=.int .i64 i∧i≤(dirL t.size pl).length+1∧Mem H5 w1 [rowR 23 32 K3 i c3 (kfds (pubsL (leafS once) i)),fb g18 139 (gfd none 0 0 none 0 0 none 0 0 none 0 0 none 0 0 hzero),fb g17 23 [.arr 32 (u8s (comS (leafS once) ((dirL t.size pl).length+1)).1)],fb gt 58 (tfd TA t.ls.length ta TB t.ps.length tb),fb g12 139 (gfd none 0 0 none 0 0 none 0 0 none 0 0 none 0 0 hzero)] w',fun _ v _=>match v with | .int _ k=>(dirL t.size pl).length+1 - k.toNat|_=>0,⟨0,none,0,rfl,rfl,by omega,hM9⟩,?_⟩
 clear hM hM9
 rintro v1 v2 u4 w4 ⟨i,K3,c3,rfl,rfl,hi,hM⟩
 skip
 (((refine Av trivial ?_ ?_)))
 ·intro hlt
  have hik:i<(keysL (2*pl::dirL t.size pl) (leafS once) ((dirL t.size pl).length+1)).length:=by omega
  have hke:(keysL (2*pl::dirL t.size pl) (leafS once) ((dirL t.size pl).length+1))[i]=keyK (2*pl::dirL t.size pl) (leafS once) i:=by simp[keysL]
  have hpv:(keysL (2*pl::dirL t.size pl) (leafS once) ((dirL t.size pl).length+1))[i].priv=drv (secK (leafS once) i) bnode es0:=by
   rw[hke]
   unfold keyK
   have hmem:(2*pl::dirL t.size pl).getD i 0∈2*pl::dirL t.size pl:=by
    rw[List.getD_eq_getElem?_getD,List.getElem?_eq_getElem (by simp only[List.length_cons];omega)]
    exact List.getElem_mem _
   rw[aQe (hwr _ hmem)]
  (((refine Am ?_));(refine Ca ‹_› ?_ ?_ ?_);(focus (simp only[List.length_map];omega));(focus (simp only[List.length_map];first|done|omega));((intro _ _ hA));(cases hA);(refine Bt hM ‹_› (Bs ?_) ?_);(focus omega);((refine Bj hM ?_;clear hM;intro _ _ hM;refine Bi hM ?_;clear hM;intro _ hM;refine Ab trivial ?_;refine Ao hM ?_;refine Bg hM ?_ ?_));(focus (first|exact trivial|assumption|omega));((clear hM;intro _ hM;refine Bu hM ?_ ?_ ?_));(focus rfl);(focus (constructor <;> simp));((clear hM;intro _ _ hM;refine Cz hM ?_ ?_));(focus omega);((clear hM;intro _ _ _ hM;refine Ab ?_ ?_));(focus omega))
  rename_i A3 c3' _
  rw[hpv]at hM
  have e1:kfds (pubsL (leafS once) i)++[[.arr 32 (u8s (pubH (drv (secK (leafS once) i) bnode es0)).1)]]=kfds (pubsL (leafS once) (i+1)):=by
   rw[aOm,aLm]
   rfl
  rw[e1]at hM
  exact⟨⟨i+1,A3,c3',rfl,by rw[Value.int.injEq];refine⟨rfl,?_⟩;push_cast;rfl,by omega,hM.sub⟩,by simp only;omega⟩
 intro hge
 obtain rfl:i=(dirL t.size pl).length+1:=by omega
 have hcap3:=(Mem.rowLen hM ⟨.refl _⟩).2.1
 obtain⟨H6,l6,hM6,hK3,-⟩:=hM.fz0
 clear hM
 have hM:=hM6
 clear hM6
 have h6:=h.mono (l2.trans (l3.trans (l4.trans (l5.trans l6)))).le
 have hfr6:=hfr.mono (l2.trans (l3.trans (l4.trans (l5.trans l6)))).le
 have hW6:=hs3.mono (l4.trans (l5.trans l6)).le
 replace hK1:=hK1.mono l6.le
 replace hK2:=hK2.mono l6.le
 (((refine Al ?_;refine Ao hM ?_)))
 refine If hM (aTa pl fresh hl ⟨b0,by omega⟩ hR h6 hW6 hfr6 hM.fz) ?_
 clear hM
 rintro H7 r w7 l7 hM ⟨SA,sc,qs,rfl,hS,hSA⟩
 have hsl:qs.length=(dirL t.size pl).length:=by
  have:=hSA.len
  rw[this]
  simp[sidesK]
 replace hK1:=hK1.mono l7.le
 replace hK2:=hK2.mono l7.le
 replace hK3:=hK3.mono l7.le
 (((refine Ab trivial ?_)))
 have hgo7:=hgo.mono (l4.trans (l5.trans (l6.trans l7))).le
 have hle7:=l2.trans (l3.trans (l4.trans (l5.trans (l6.trans l7))))
 have hM9:Mem H7 w1 [fb g18 139 (gfd none 0 0 none 0 0 none 0 0 none 0 0 none 0 0 hzero),rowR 43 33 none 0 0 [],fb g17 23 [.arr 32 (u8s (comS (leafS once) ((dirL t.size pl).length+1)).1)],fb gt 58 (tfd TA t.ls.length ta TB t.ps.length tb),fb g12 139 (gfd none 0 0 none 0 0 none 0 0 none 0 0 none 0 0 hzero)] _:=(hM.row0 43 33).sub
 refine⟨fun v1 w'=>∃ (i:Nat) (H8:Hp) (RA:Option Addr) (rc:Nat) (rs:List (List Fd)),v1=.int .i64 i∧i≤(dirL t.size pl).length∧rs.length=i∧Le w1 H7 H8∧All2 (RgF H8) rs (rungsK t pl (dirL t.size pl) fresh once about (leafS once) i)∧Mem H8 w1 [fb g18 139 (gfd none 0 0 none 0 0 RA i rc none 0 0 none 0 0 hzero),rowR 43 33 RA i rc rs,fb g17 23 [.arr 32 (u8s (comS (leafS once) ((dirL t.size pl).length+1)).1)],fb gt 58 (tfd TA t.ls.length ta TB t.ps.length tb),fb g12 139 (gfd none 0 0 none 0 0 none 0 0 none 0 0 none 0 0 hzero)] w',fun v _=>match v with | .int _ k=>(dirL t.size pl).length - k.toNat|_=>0,⟨0,H7,none,0,[],rfl,by omega,rfl,Le.refl _ _,trivial,hM9⟩,?_⟩
 clear hM hM9
 rintro v1 u8 w8 ⟨i,H8,RA,rc,rs,rfl,hi,hrs,l8,hrg,hM⟩
 have hS8:=hS.mono l8.le
 have hK18:=hK1.mono l8.le
 have hK28:=hK2.mono l8.le
 have hK38:=hK3.mono l8.le
 have hgo8:=hgo7.mono l8.le
 have h8:=h.mono (hle7.trans l8).le
 skip
 (((refine Av trivial ?_ ?_)))
 ·intro hlt
  have hit:i<(dirL t.size pl).length:=by omega
  have hpn0:(pubsL (leafS once) ((dirL t.size pl).length+1)).length=(dirL t.size pl).length+1:=by simp[pubsL]
  have hsn0:(secL (leafS once) ((dirL t.size pl).length+1)).length=(dirL t.size pl).length+1:=aCu _ _
  have hpe:(pubsL (leafS once) ((dirL t.size pl).length+1))[i+1]'(by omega)=pubK (leafS once) (i+1):=by simp[pubsL]
  have hsc:(secL (leafS once) ((dirL t.size pl).length+1))[i+1]'(by omega)=secK (leafS once) (i+1):=by simp[secL]
  have hpn:i+1<(pubsL (leafS once) ((dirL t.size pl).length+1)).length:=by simp[pubsL];omega
  have hsn:i+1<(secL (leafS once) ((dirL t.size pl).length+1)).length:=by rw[aCu];omega
  have hqp:(kfds (pubsL (leafS once) ((dirL t.size pl).length+1)))[((i:Int)+1).toNat]?=some [.arr 32 (u8s (pubK (leafS once) (i+1)).1)]:=by
   rw[show((i:Int)+1).toNat=i+1 by omega,List.getElem?_map,List.getElem?_eq_getElem hpn]
   simp[pubsL]
  have hqs:(kfds (secL (leafS once) ((dirL t.size pl).length+1)))[((i:Int)+1).toNat]?=some [.arr 32 (u8s (secK (leafS once) (i+1)).1)]:=by
   rw[show((i:Int)+1).toNat=i+1 by omega,List.getElem?_map,List.getElem?_eq_getElem hsn]
   simp[secL]
  obtain⟨q,hq1,SC,scc,rfl,hSC,hscl⟩:=hSA.at_ (i:=i) (by simp[sidesK];omega)
  have hse:(sidesK t pl (dirL t.size pl) fresh (dirL t.size pl).length)[i]'(by simp[sidesK];omega)=sideK t pl (dirL t.size pl) fresh i:=by simp[sidesK]
  rw[hse]at hq1 hSC hscl
  have hSC8:=hSC.mono l8.le
  have hthr:=aTb hR (pl:=pl) (way:=dirL t.size pl) (fresh:=fresh) (i:=i)
  have hq1':qs[((i:Int)).toNat]?=some [.one (.slice SC (sideK t pl (dirL t.size pl) fresh i).length scc)]:=hq1
  (((refine Am ?_)))
  refine Ca hS8 (by omega) hsl.symm (fun bb oo hB=>?_)
  cases hB
  refine Bt hM hS8 hq1' ?_
  (((refine Ab ?_ ?_));(focus omega);(refine Ca ‹_› ?_ ?_ ?_);(focus (simp only[List.length_map];omega));(focus (simp only[List.length_map];first|done|omega));((intro _ _ hA));(cases hA);(refine Bt hM ‹_› (Bs ?_) ?_);(focus omega);((refine Ab trivial ?_;refine Bj hM ?_;clear hM;intro _ _ hM;refine Bi hM ?_;clear hM;intro _ hM;refine Ab trivial ?_)))
  rename_i g24 _ _
  rw[hpe]at hM
  have hM9:Mem H8 w1 [fb g24 43 [.arr 32 (u8s (pubK (leafS once) (i+1)).1),.one (.slice none 0 0)],rowR 9 1 none 0 0 [],fb g18 139 (gfd none 0 0 none 0 0 RA i rc none 0 0 none 0 0 hzero),rowR 43 33 RA i rc rs,fb g17 23 [.arr 32 (u8s (comS (leafS once) ((dirL t.size pl).length+1)).1)],fb gt 58 (tfd TA t.ls.length ta TB t.ps.length tb),fb g12 139 (gfd none 0 0 none 0 0 none 0 0 none 0 0 none 0 0 hzero)] _:=(hM.row0 9 1).sub
  refine⟨fun v1 w'=>∃ (j:Nat) (WB:Option Addr) (wb:Nat),v1=.int .i64 j∧j≤(sideK t pl (dirL t.size pl) fresh i).length∧Mem H8 w1 [fb g24 43 [.arr 32 (u8s (pubK (leafS once) (i+1)).1),.one (.slice WB j wb)],rowR 9 1 WB j wb (strs (wrapsT t once about (secK (leafS once) (i+1)) i (sideK t pl (dirL t.size pl) fresh i) j)),fb g18 139 (gfd none 0 0 none 0 0 RA i rc none 0 0 none 0 0 hzero),rowR 43 33 RA i rc rs,fb g17 23 [.arr 32 (u8s (comS (leafS once) ((dirL t.size pl).length+1)).1)],fb gt 58 (tfd TA t.ls.length ta TB t.ps.length tb),fb g12 139 (gfd none 0 0 none 0 0 none 0 0 none 0 0 none 0 0 hzero)] w',fun v _=>match v with | .int _ k=>(sideK t pl (dirL t.size pl) fresh i).length - k.toNat|_=>0,⟨0,none,0,rfl,by omega,hM9⟩,?_⟩
  clear hM hM9
  rintro v1 u9 w9 ⟨j,WB,wb,rfl,hj,hM⟩
  skip
  (((refine Av trivial ?_ ?_)))
  ·intro hltj
   have hjt:j<(sideK t pl (dirL t.size pl) fresh i).length:=by omega
   obtain⟨x,hx⟩:∃ x,(sideK t pl (dirL t.size pl) fresh i)[j]=x:=⟨_,rfl⟩
   have hxt:=hthr x (hx ▸ List.getElem_mem hjt)
   obtain⟨x1,x2,x3⟩:=id hxt
   have hqx:(ints8 (sideK t pl (dirL t.size pl) fresh i))[((j:Int)).toNat]?=some [.one (.int .i64 x)]:=by
    rw[Int.toNat_natCast,aCi hjt,hx]
   have hgd:(sideK t pl (dirL t.size pl) fresh i).getD j 0=x:=by
    rw[List.getD_eq_getElem?_getD,List.getElem?_eq_getElem hjt,hx]
    rfl
   (((refine Am ?_)))
   refine⟨fun w'=>∃ (WB:Option Addr) (wb:Nat),Mem H8 w1 [fb g24 43 [.arr 32 (u8s (pubK (leafS once) (i+1)).1),.one (.slice WB (j+1) wb)],rowR 9 1 WB (j+1) wb (strs (wrapsT t once about (secK (leafS once) (i+1)) i (sideK t pl (dirL t.size pl) fresh i) (j+1))),fb g18 139 (gfd none 0 0 none 0 0 RA i rc none 0 0 none 0 0 hzero),rowR 43 33 RA i rc rs,fb g17 23 [.arr 32 (u8s (comS (leafS once) ((dirL t.size pl).length+1)).1)],fb gt 58 (tfd TA t.ls.length ta TB t.ps.length tb),fb g12 139 (gfd none 0 0 none 0 0 none 0 0 none 0 0 none 0 0 hzero)] w',?_,?_⟩
   ·have h8l:=Nk (sideK t pl (dirL t.size pl) fresh i)
    refine Ca hSC8 (by omega) (Nk _).symm (fun bb oo hB=>?_)
    cases hB
    refine Bt hM hSC8 hqx ?_
    (((refine Ao hM ?_)))
    refine Bn hM (aQi x ⟨x2,x3⟩ hR h8 hM.fz) (fun w hM2=>?_)
    replace hM:=hM2
    clear hM2
    (((refine Ab trivial ?_;refine Ab trivial ?_;refine Bj hM ?_;clear hM;intro _ _ hM;refine Bi hM ?_;clear hM;intro _ hM;refine Ab ?_ ?_));(focus omega);(refine Ca ‹_› ?_ ?_ ?_);(focus (simp only[List.length_map];omega));(focus (simp only[List.length_map];first|done|omega));((intro _ _ hA));(cases hA);(refine Bt hM ‹_› (Bs ?_) ?_);(focus omega);((refine Bj hM ?_;clear hM;intro _ _ hM;refine Bi hM ?_;clear hM;intro _ hM)))
    rename_i gp _ _ _ _ gs _ _
    rw[hsc]at hM
    have d9:swrap.size≤1000000∧(strOfNums (numB i++numB j)).size≤1000000:=by
     have a1:=Az i
     have a2:=Az j
     rw[strOfNums_size,List.length_append]
     exact⟨by decide,by omega⟩
    have hnr:∀ y∈[(i:Int),(j:Int)],0≤y∧y≤4611686018427387903:=by
     intro y hy
     simp only[List.mem_cons,List.not_mem_nil,or_false]at hy
     rcases hy with rfl|rfl <;> omega
    have hnf:[(i:Int),(j:Int)].flatMap numB=numB i++numB j:=by simp
    have hw1:wrapT t once about (secK (leafS once) (i+1)) i j ((sideK t pl (dirL t.size pl) fresh i).getD j 0)=wrapL rowK tagK kemH (pubAt t x).1 (drv once swrap (strOfNums (numB i++numB j))) about (secK (leafS once) (i+1)).1:=by rw[hgd];rfl
    have hstr:strs (wrapsT t once about (secK (leafS once) (i+1)) i (sideK t pl (dirL t.size pl) fresh i) j)++[[.one (.string (strOfNums (wrapL rowK tagK kemH (pubAt t x).1 (drv once swrap (strOfNums (numB i++numB j))) about (secK (leafS once) (i+1)).1)))]]=strs (wrapsT t once about (secK (leafS once) (i+1)) i (sideK t pl (dirL t.size pl) fresh i) (j+1)):=by
     rw[aLo,hw1]
     simp[strs]
    repeat' apply And.intro
    all_goals
     (first|(((refine An trivial ?_;refine Aw hM ?_;refine Aw hM ?_));(refine Us hM ‹_› ?_);((refine An trivial ?_;refine Cr hM ?_;refine Aw hM ?_;refine By hM ?_ ?_ ?_));(focus rfl);(focus (constructor <;> simp));((clear hM;intro _ _ hM;refine By hM ?_ ?_ ?_));(focus rfl);(focus (constructor <;> simp));((clear hM;intro _ _ hM)))|(((refine An trivial ?_;refine Aw hM ?_;refine Aw hM ?_));(refine Us hM ‹_› ?_);((refine An trivial ?_;refine Cr hM ?_;refine Aw hM ?_;refine By hM ?_ ?_ ?_));(focus rfl);(focus (constructor <;> simp));((clear hM;intro _ _ hM))))
     repeat (first
      | (with_reducible show df _ _ (Ah (fv 153) _) _ _
         refine Bv hM (fun w hM=>bCw [(i:Int),(j:Int)] (by simp) hnr (by exact hM.reads) (Fz.of w)) (fun w5 _ hM2=>?_)
         replace hM:=hM2
         clear hM2
         rw[hnf]
         (first|(((refine Bd hM ?_ (fun _ _ hM=>?_)));(focus (first|exact trivial|assumption|omega));((refine By hM ?_ ?_ ?_));(focus rfl);(focus (constructor <;> simp));((clear hM;intro _ _ hM)))|(((refine By hM ?_ ?_ ?_));(focus rfl);(focus (constructor <;> simp));((clear hM;intro _ _ hM;refine Bd hM ?_ (fun _ _ hM=>?_)));(focus (first|exact trivial|assumption|omega)))|(((refine Bd hM ?_ (fun _ _ hM=>?_)));(focus (first|exact trivial|assumption|omega)))))
      | (with_reducible show df _ _ (Ah (fv 93) _) _ _
         refine Bv hM (fun w hM=>aZi (pubAt t x).1 (drv once swrap (strOfNums (numB i++numB j))) about (secK (leafS once) (i+1)).1 (by omega) (secK (leafS once) (i+1)).2.2 (by rw[(secK (leafS once) (i+1)).2.1];omega) (by exact hM.reads) (by rfl) (by decide) (Fz.of w)) (fun w5 _ hM2=>?_)
         replace hM:=hM2
         clear hM2
         (((refine By hM ?_ ?_ ?_));(focus rfl);(focus (constructor <;> simp));((clear hM;intro _ _ hM;refine aHv hM ?_ ?_));(focus omega);((clear hM;intro _ _ _ hM;refine An trivial ?_;refine Cb hM ?_;clear hM;intro _ hM;refine Ba hM ?_;clear hM;intro _ hM)))))
     rename_i A9 c9 _ _ _
     exact⟨A9,c9,by rw[← hstr];exact hM.sub⟩
   clear hM
   rintro u10 w10 ⟨WB2,wb2,hM⟩
   (((refine Ab ?_ ?_));(focus omega))
   exact⟨⟨j+1,WB2,wb2,by rw[Value.int.injEq];refine⟨rfl,?_⟩;push_cast;rfl,by omega,hM⟩,by simp only;omega⟩
  ·intro hgej
   obtain rfl:j=(sideK t pl (dirL t.size pl) fresh i).length:=by omega
   have hM9:Mem H8 w1 (rowR 9 1 WB (sideK t pl (dirL t.size pl) fresh i).length wb (strs (wrapsT t once about (secK (leafS once) (i+1)) i (sideK t pl (dirL t.size pl) fresh i) (sideK t pl (dirL t.size pl) fresh i).length))::fb g24 43 [.arr 32 (u8s (pubK (leafS once) (i+1)).1),.one (.slice WB (sideK t pl (dirL t.size pl) fresh i).length wb)]::[fb g18 139 (gfd none 0 0 none 0 0 RA i rc none 0 0 none 0 0 hzero),rowR 43 33 RA i rc rs,fb g17 23 [.arr 32 (u8s (comS (leafS once) ((dirL t.size pl).length+1)).1)],fb gt 58 (tfd TA t.ls.length ta TB t.ps.length tb),fb g12 139 (gfd none 0 0 none 0 0 none 0 0 none 0 0 none 0 0 hzero)]) _:=hM.sub
   clear hM
   obtain⟨H9,l9,hM,hWB,-⟩:=hM9.fz0
   clear hM9
   (((refine Al ?_;refine Ab trivial ?_;refine Ao hM ?_;refine Ao hM ?_;refine Bu hM ?_ ?_ ?_));(focus rfl);(focus (constructor <;> simp));((clear hM;intro _ _ hM;refine Cz hM ?_ ?_));(focus omega);((clear hM;intro _ _ _ hM;refine Ab trivial ?_;refine Bi hM ?_;clear hM;intro _ hM;refine Ab ?_ ?_));(focus omega))
   rename_i A9 c9 _ _
   have hrk:RgF H9 ([.arr 32 (u8s (pubK (leafS once) (i+1)).1),.one (.slice WB (sideK t pl (dirL t.size pl) fresh i).length wb)]) (rungK t once about (leafS once) (sideK t pl (dirL t.size pl) fresh i) i):=by
    refine⟨WB,wb,?_,hWB,?_⟩
    ·unfold Rg.row rungK
     simp only[aCy]
    ·unfold rungK
     simp only[aCy]
     omega
   have hrg9:=(hrg.mono fun q x k=>RgF.mono k l9.le).snoc hrk
   rw[← aLp]at hrg9
   exact⟨⟨i+1,H9,A9,c9,_,by rw[Value.int.injEq];refine⟨rfl,?_⟩;push_cast;rfl,by omega,by rw[List.length_append,hrs];rfl,l8.trans l9,hrg9,hM.sub⟩,by simp only;omega⟩
 ·intro hge
  obtain rfl:i=(dirL t.size pl).length:=by omega
  have hpn0:(pubsL (leafS once) ((dirL t.size pl).length+1)).length=(dirL t.size pl).length+1:=by simp[pubsL]
  have hsn0:(secL (leafS once) ((dirL t.size pl).length+1)).length=(dirL t.size pl).length+1:=aCu _ _
  have hp0:(pubsL (leafS once) ((dirL t.size pl).length+1))[0]'(by omega)=pubK (leafS once) 0:=by simp[pubsL]
  have hle8:=hle7.trans l8
  (((refine Al ?_;refine Aw hM ?_));(refine Kz ‹_› ?_ ?_ ?_);(focus (simp only[List.length_map];omega));(focus (simp only[List.length_map];first|done|omega));((intro _ _ hA));(cases hA);(refine aGk hM ‹_› (Co ?_) ?_);(focus omega))
  refine aOo hK38 (by rw[List.length_map];omega) (by omega) hcap3 (fun KB hKB=>?_)
  rw[Int.toNat_one]at hKB ⊢
  simp only[Int.toNat_zero]
  rw[hp0]
  have hkd:(kfds (pubsL (leafS once) ((dirL t.size pl).length+1))).drop 1=kfds ((pubsL (leafS once) ((dirL t.size pl).length+1)).drop 1):=(List.map_drop ..).symm
  have hkl:((pubsL (leafS once) ((dirL t.size pl).length+1)).drop 1).length=(dirL t.size pl).length+1 - 1:=by rw[List.length_drop,hpn0]
  rw[hkd]at hKB
  rw[← hkl]
  refine Ps hM (fun w hM=>bCq pl (pubK (leafS once) 0) ((pubsL (leafS once) ((dirL t.size pl).length+1)).drop 1) (by omega) hKB h8 hM.fz) ?_
  clear hM
  rintro H9 r w9 - l9 hM ⟨v1,rfl,hv1⟩
  have hp9:(t.pathP pl (pubK (leafS once) 0) ((pubsL (leafS once) ((dirL t.size pl).length+1)).drop 1))=t.pathP pl (pubK (leafS once) 0) ((pubsL (leafS once) ((dirL t.size pl).length+1)).drop 1):=rfl
  generalize (t.pathP pl (pubK (leafS once) 0) ((pubsL (leafS once) ((dirL t.size pl).length+1)).drop 1))=tp at hv1 hp9 ⊢
  have hvx:=hv1.ex
  obtain⟨PA,pa,PB,pb,pq,rfl,-⟩:=hvx
  have hrg9:=hrg.mono fun q x k=>RgF.mono k l9.le
  have hK19:=hK18.mono l9.le
  have hK29:=hK28.mono l9.le
  ((((iterate 3 refine An trivial ?_);refine Cb hM ?_;clear hM;intro _ hM;refine Ba hM ?_;clear hM;intro _ hM)))
  replace hM:Mem H9 w1 (fb g17 23 [.arr 32 (u8s (comS (leafS once) ((dirL t.size pl).length+1)).1)]::[fb g18 139 (gfd PA tp.1.ls.length pa PB tp.1.ps.length pb RA (dirL t.size pl).length rc none 0 0 none 0 0 hzero),rowR 43 33 RA (dirL t.size pl).length rc rs,fb g12 139 (gfd none 0 0 none 0 0 none 0 0 none 0 0 none 0 0 hzero)]) _:=hM.sub
  obtain⟨Hx,lx,hMx,hg17⟩:=hM.fzb
  clear hM
  have hM:=hMx
  clear hMx
  have hK1x:=hK19.mono lx.le
  have hK2x:=hK29.mono lx.le
  have hF:=hM.fz
  refine⟨Rl.fz Hx,?_⟩
  refine aOo hK1x (by rw[List.length_map];omega) (by omega) hcap1 (fun SB hSB=>?_)
  rw[Int.toNat_one]at hSB ⊢
  ((refine Nh ‹_› ‹_› ?_))
  refine dfz hM (fun w hM=>?_)
  refine Be (aFu _ hkn.symm (by omega) (hK2x.mono (Ku hM.fz)) hM) ?_
  clear hM
  rintro r w10 ⟨KS,ks,rfl,hM⟩
  refine⟨hM.fz,?_⟩
  (((refine An trivial ?_)))
  refine dfz hM (fun w hM=>?_)
  (((refine Bi hM ?_;clear hM;intro _ hM)))
  refine⟨hM.fz,?_⟩
  (((refine An trivial ?_;refine Cb hM ?_;clear hM;intro _ hM;refine An trivial ?_;refine Cb hM ?_;clear hM;intro _ hM;refine Ba hM ?_;clear hM;intro _ hM;refine Ao hM ?_;refine Bi hM ?_;clear hM;intro _ hM;refine Cd hM ?_)))
  replace hM:Mem Hx w1 (rowR 43 33 RA (dirL t.size pl).length rc rs::rowR 128 33 KS (sortedK (keysL (2*pl::dirL t.size pl) (leafS once) ((dirL t.size pl).length+1))).length ks ((sortedK (keysL (2*pl::dirL t.size pl) (leafS once) ((dirL t.size pl).length+1))).map Ky.fds)::[]) _:=hM.sub
  obtain⟨Hy,ly,hMy,hRg,-⟩:=hM.fz0
  obtain⟨Hz,lz,hMz,hKg,-⟩:=hMy.fz0
  have hks:(kfds (secL (leafS once) ((dirL t.size pl).length+1))).drop 1=kfds ((secL (leafS once) ((dirL t.size pl).length+1)).drop 1):=(List.map_drop ..).symm
  rw[hks]at hSB
  have hq:Hx.le Hz:=(ly.trans lz).le
  refine hMz.out (hle8.trans (l9.trans (lx.trans (ly.trans lz)))) ⟨_,rfl,PA,pa,PB,pb,RA,rc,SB,c1 - 1,KS,ks,rs,?_,hv1.mono (lx.le.trans hq),hRg.mono lz.le,hrg9.mono fun q x k=>RgF.mono k (lx.le.trans hq),hSB.mono hq,hKg⟩
  simp only[aOn,List.length_drop,hsn0]
end
end Go.Proofs.YtgbenhmdamnmcaaGreat
namespace Go.Proofs.YtgbenhmdamnmcaaGreat
open Go.Proofs.Tryz
open Go.RowKit Go.Lib
abbrev sleft:ByteArray:=ByteArray.mk #[108,101,102,116]
abbrev sright:ByteArray:=ByteArray.mk #[114,105,103,104,116]
abbrev skey:ByteArray:=ByteArray.mk #[107,101,121]
structure Sd where
 lev:Int
 place:Int
 h:H32
abbrev Sd.fds (s:Sd):List Fd:=[.one (.int .i64 s.lev),.one (.int .i64 s.place),.arr 32 (u8s s.h.1)]
theorem and1 (x:Int):bits .and .i64 x 1=0∨bits .and .i64 x 1=1:=by
 have e:bits .and .i64 x 1=IntKind.i64.wrap (((BitVec.ofInt 64 x &&& BitVec.ofInt 64 1:BitVec 64).toNat:Nat):Int):=rfl
 have k:(BitVec.ofInt 64 x &&& BitVec.ofInt 64 1:BitVec 64).toNat=(BitVec.ofInt 64 x).toNat%2:=by
  rw[BitVec.toNat_and]
  exact Nat.and_one_is_mod _
 rw[e,k]
 rcases Nat.mod_two_eq_zero_or_one (BitVec.ofInt 64 x).toNat with h|h <;> rw[h]
 ·exact .inl rfl
 ·exact .inr rfl
section
variable {H:Hp} {w0 w:World} {L R:List Res} {g b o n c:Nat} {A:Option Addr}
theorem bCx {P:Program} {s:Sem Next} {S:Rl} {Kt:Value→World→Prop} (h:Mem H w0 L w) (hk:∀ w1,Mem H w0 L w1→mop P s w1 Kt (fun _ _=>False)):dfS P S w s false Kt:=
 ⟨fun w1 hd=>Fy (hk w1 (h.drawn hd)) (fun _ _ h=>⟨(fun e=>by cases e),h⟩) fun _ _ h=>h⟩
theorem bCy (xs:List Sd) (hl:xs.length≤1000000) (hM:Mem H w0 (rowR 271 34 A xs.length c (xs.map Sd.fds)::L) w):Calls prog 198 #[.slice A xs.length c] w fun en w'=>∃ v,en=.returned v∧v=.tuple #[]∧∃ ys:List Sd,ys.length=xs.length∧Mem H w0 (rowR 271 34 A xs.length c (ys.map Sd.fds)::L) w':=by
 refine Gn ?_
 unfold Dr
 (((refine Ab trivial ?_;refine Ab ?_ ?_));(focus omega))
 refine⟨fun x v w'=>∃ (i:Nat) (k:Int) (ys:List Sd),x=.int .i64 i∧v=.int .i64 k ∧ -1≤k∧k<xs.length∧i≤xs.length∧ys.length=xs.length∧Mem H w0 (rowR 271 34 A xs.length c (ys.map Sd.fds)::L) w',fun x _ _=>match x with | .int _ k=>xs.length+1 - k.toNat|_=>0,⟨0,(xs.length:Int) - 1,xs,rfl,rfl,by omega,by omega,by omega,rfl,hM⟩,?_⟩
 clear hM
 rintro x v u w2 ⟨i,k,ys,rfl,rfl,hk0,hk1,hi,hys,hM⟩
 (((refine Av trivial ?_ ?_)))
 ·intro hlt
  obtain⟨m,rfl⟩:∃ m:Nat,k=m:=⟨k.toNat,by omega⟩
  have h1:i<ys.length:=by omega
  have h2:m<ys.length:=by omega
  have q1:(ys.map Sd.fds)[i]?=some ys[i].fds:=by simp[h1]
  have q2:(ys.map Sd.fds)[m]?=some ys[m].fds:=by simp[h2]
  (((refine Am ?_;refine Cf hM ?_ ?_));(focus omega);((intro _ hA));(cases hA);((refine Cq hM (Bs ?_) ?_));(focus omega);((refine Cf hM ?_ ?_));(focus omega);((intro _ hA));(cases hA);((refine Cq hM (Bs ?_) ?_));(focus omega);((refine Cf hM ?_ ?_));(focus omega);((intro _ hA));(cases hA))
  refine Ij hM q1 (fun w' hM=>?_)
  (((refine Cf hM ?_ ?_));(focus omega);((intro _ hA));(cases hA))
  refine Ij hM (by rw[List.getElem?_set_ne (by omega)];exact q2) (fun w' hM=>?_)
  have he:((ys.map Sd.fds).set i (Sd.fds ys[m])).set m (Sd.fds ys[i])=((ys.set i ys[m]).set m ys[i]).map Sd.fds:=by simp[List.map_set]
  (((refine Ba hM ?_;clear hM;intro _ hM;refine Ab ?_ ?_));(focus omega);((refine Ab ?_ ?_));(focus omega))
  refine⟨⟨i+1,(m:Int) - 1,(ys.set i ys[m]).set m ys[i],rfl,rfl,by omega,by omega,by omega,by simp[hys],?_⟩,by dsimp only;omega⟩
  rw[← he]
  exact hM
 ·intro hge
  (((refine Al ?_)))
  exact⟨_,rfl,rfl,ys,hys,hM⟩
theorem aQk (root:H32) (bits:Int) (hb:1≤bits∧bits≤32) (hM:Mem H w0 L w):Calls prog 132 #[ha root,.int .i64 bits] w fun en w'=>∃ v,en=.returned v∧∃ g b,v=.tuple #[.pointer (some ⟨g,0,none⟩),.int .i64 0]∧Mem H w0 (fb g 247 [.one (.int .i64 bits),.one (.slice (some ⟨b,0,none⟩) 1 1)]::rowR 271 34 (some ⟨b,0,none⟩) 1 1 [Sd.fds ⟨0,0,root⟩]::L) w':=by
 refine aRj ?_
 unfold aFf
 (((refine Bb hM ?_;clear hM;intro _ _ hM)))
 refine⟨fun v w'=>v=.bool false∧hM.now w',?_,?_⟩
 ·(((refine Br trivial ?_ ?_));(focus (first|assumption|omega|with_reducible rfl|exact fun h=>Bool.noConfusion h));((refine Ae ?_;refine Ab trivial ?_;refine Ae ?_;refine Br trivial ?_ ?_));(focus (first|assumption|omega|with_reducible rfl|exact fun h=>Bool.noConfusion h));((refine Ab trivial ?_)))
  exact⟨rfl,hM⟩
 rintro v u w2 ⟨rfl,hM⟩
 (((refine Al ?_;refine Ao hM ?_;refine Ab trivial ?_;refine Bu hM ?_ ?_ ?_));(focus rfl);(focus (constructor <;> simp));((clear hM;intro _ _ hM;refine Ab trivial ?_;refine Bb hM ?_;clear hM;intro _ _ hM)))
 rename_i b2 _ g2 _
 exact⟨_,rfl,g2,b2,rfl,hM.sub⟩
set_option maxHeartbeats 2000000 in
theorem aZu {RR:Ending→World→Prop} (root:H32) (place:Int) (hp:0≤place∧place<4294967296) (hs:Sl H 34 (some ⟨b,o,none⟩) [Sd.fds ⟨0,0,root⟩]) (hM:Mem H w0 (fb g 247 [.one (.int .i64 32),.one (.slice (some ⟨b,o,none⟩) 1 c)]::L) w)
  (hR:∀ (key:H32) (A:Option Addr) (n a:Nat) (ys:List Sd) w',ys.length=n→1≤n→n≤32→Mem H w0 (rowR 271 34 A n a (ys.map Sd.fds)::fb g 247 [.one (.int .i64 32),.one (.slice (some ⟨b,o,none⟩) 1 c)]::L) w'→RR (.returned (.tuple #[ha key,.slice A n a])) w'):
  Calls prog 158 #[.pointer (some ⟨g,0,none⟩),.pointer none,.int .i64 0,.int .i64 place] w RR:=by
 refine aBr ?_
 unfold Pc
 (((refine Bj hM ?_;clear hM;intro _ _ hM;refine Ab trivial ?_;refine Ab trivial ?_;refine Ao hM ?_;refine Ab ?_ ?_));(focus omega))
 rename_i g8 _
 refine Bt (k:=Int.toNat 0) hM hs rfl ?_
 (((refine Bj hM ?_;clear hM;intro _ _ hM;refine Bi hM ?_;clear hM;intro _ hM)))
 rename_i g10 _ _
 have hM9:Mem H w0 (fb g10 271 [.one (.int .i64 0),.one (.int .i64 0),.arr 32 (u8s root.1)]::rowR 271 34 none 0 0 []::rowR 271 34 none 0 0 []::fb g8 23 [.arr 32 (u8s hzero.1)]::fb g 247 [.one (.int .i64 32),.one (.slice (some ⟨b,o,none⟩) 1 c)]::L) _:=((hM.row0 271 34).row0 271 34).same
 refine⟨fun x y w'=>∃ (A:Option Addr) (n a:Nat) (B:Option Addr) (m c2:Nat) (xs ys:List Sd) (lev pl:Int) (h:H32),x=.slice A n a∧y=.slice B m c2∧xs.length=n∧ys.length=m∧0≤lev∧lev≤32∧(n:Int)+m=lev∧0≤pl∧pl<2 ^ lev.toNat∧Mem H w0 (fb g10 271 [.one (.int .i64 lev),.one (.int .i64 pl),.arr 32 (u8s h.1)]::rowR 271 34 A n a (xs.map Sd.fds)::rowR 271 34 B m c2 (ys.map Sd.fds)::fb g8 23 [.arr 32 (u8s hzero.1)]::fb g 247 [.one (.int .i64 32),.one (.slice (some ⟨b,o,none⟩) 1 c)]::L) w',fun x y _=>match x,y with | .slice _ n _,.slice _ m _=>32 - (n+m)|_,_=>0,⟨none,0,0,none,0,0,[],[],0,0,root,rfl,rfl,rfl,rfl,by omega,by omega,by omega,by omega,by decide,hM9⟩,?_⟩
 clear hM hM9
 rintro x y u w2 ⟨A,n,a,B,m,c2,xs,ys,lev,pl,h,rfl,rfl,hxs,hys,hl0,hl1,hnm,hp0,hp1,hM⟩
 (((refine An trivial ?_;refine Aw hM ?_;refine An trivial ?_;refine An trivial ?_;refine Aw hM ?_)))
 (((refine aTz trivial ?_ ?_)))
 ·intro hlt
  have hpw:(2:Int) ^ lev.toNat≤2 ^ 31:=by
   have h1:lev.toNat≤31:=by omega
   have:=Nat.pow_le_pow_right (n:=2) (by omega) h1
   exact_mod_cast this
  have hp31:pl<2147483648:=by have e:(2:Int) ^ 31=2147483648:=by decide
                              omega
  (((refine Ba hM ?_;clear hM;intro _ hM;refine Am ?_)))
  refine⟨fun v w'=>∃ (g13:Nat) (h1 h2:H32),v=.pointer (some ⟨g13,0,none⟩)∧Mem H w0 (fb g13 285 [.one (.int .i64 (lev+1)),.one (.int .i64 (2*pl)),.arr 32 (u8s h1.1),.one (.int .i64 (lev+1)),.one (.int .i64 (2*pl+1)),.arr 32 (u8s h2.1)]::fb g10 271 [.one (.int .i64 lev),.one (.int .i64 pl),.arr 32 (u8s h.1)]::rowR 271 34 A n a (xs.map Sd.fds)::rowR 271 34 B m c2 (ys.map Sd.fds)::fb g8 23 [.arr 32 (u8s hzero.1)]::fb g 247 [.one (.int .i64 32),.one (.slice (some ⟨b,o,none⟩) 1 c)]::L) w',?_,?_⟩
  ·repeat' apply And.intro
   all_goals
    (first|(((refine An trivial ?_;refine Aw hM ?_;refine An ?_ ?_));(focus omega);((refine An trivial ?_;refine Aw hM ?_;refine An ?_ ?_));(focus omega);((refine An trivial ?_;refine An trivial ?_;refine Cr hM ?_;refine An trivial ?_;refine Aw hM ?_;refine An ?_ ?_));(focus omega);((refine An trivial ?_;refine Aw hM ?_;refine An ?_ ?_));(focus omega);((refine An ?_ ?_));(focus omega);((refine An trivial ?_;refine An trivial ?_;refine Cr hM ?_;refine By hM ?_ ?_ ?_));(focus rfl);(focus (constructor <;> simp));((clear hM;intro _ _ hM;refine By hM ?_ ?_ ?_));(focus rfl);(focus (constructor <;> simp));((clear hM;intro _ _ hM;refine Bx hM ?_;clear hM;intro _ _ hM)))|(((refine An trivial ?_;refine Aw hM ?_;refine An ?_ ?_));(focus omega);((refine An trivial ?_;refine Aw hM ?_;refine An ?_ ?_));(focus omega);((refine An trivial ?_;refine An trivial ?_;refine Cr hM ?_;refine An trivial ?_;refine Aw hM ?_;refine An ?_ ?_));(focus omega);((refine An trivial ?_;refine Aw hM ?_;refine An ?_ ?_));(focus omega);((refine An ?_ ?_));(focus omega);((refine An trivial ?_;refine An trivial ?_;refine Cr hM ?_;refine By hM ?_ ?_ ?_));(focus rfl);(focus (constructor <;> simp));((clear hM;intro _ _ hM;refine Bx hM ?_;clear hM;intro _ _ hM;refine By hM ?_ ?_ ?_));(focus rfl);(focus (constructor <;> simp));((clear hM;intro _ _ hM)))|(((refine An trivial ?_;refine Aw hM ?_;refine An ?_ ?_));(focus omega);((refine An trivial ?_;refine Aw hM ?_;refine An ?_ ?_));(focus omega);((refine An trivial ?_;refine An trivial ?_;refine Cr hM ?_;refine An trivial ?_;refine Aw hM ?_;refine An ?_ ?_));(focus omega);((refine An trivial ?_;refine Aw hM ?_;refine An ?_ ?_));(focus omega);((refine An ?_ ?_));(focus omega);((refine An trivial ?_;refine An trivial ?_;refine Cr hM ?_;refine Bx hM ?_;clear hM;intro _ _ hM;refine By hM ?_ ?_ ?_));(focus rfl);(focus (constructor <;> simp));((clear hM;intro _ _ hM;refine By hM ?_ ?_ ?_));(focus rfl);(focus (constructor <;> simp));((clear hM;intro _ _ hM)))|(((refine An trivial ?_;refine Aw hM ?_;refine An ?_ ?_));(focus omega);((refine An trivial ?_;refine Aw hM ?_;refine An ?_ ?_));(focus omega);((refine An trivial ?_;refine An trivial ?_;refine Cr hM ?_;refine An trivial ?_;refine Aw hM ?_;refine An ?_ ?_));(focus omega);((refine An trivial ?_;refine Aw hM ?_;refine An ?_ ?_));(focus omega);((refine An ?_ ?_));(focus omega);((refine An trivial ?_;refine An trivial ?_;refine Cr hM ?_;refine By hM ?_ ?_ ?_));(focus rfl);(focus (constructor <;> simp));((clear hM;intro _ _ hM;refine By hM ?_ ?_ ?_));(focus rfl);(focus (constructor <;> simp));((clear hM;intro _ _ hM)))|(((refine An trivial ?_;refine Aw hM ?_;refine An ?_ ?_));(focus omega);((refine An trivial ?_;refine Aw hM ?_;refine An ?_ ?_));(focus omega);((refine An trivial ?_;refine An trivial ?_;refine Cr hM ?_;refine An trivial ?_;refine Aw hM ?_;refine An ?_ ?_));(focus omega);((refine An trivial ?_;refine Aw hM ?_;refine An ?_ ?_));(focus omega);((refine An ?_ ?_));(focus omega);((refine An trivial ?_;refine An trivial ?_;refine Cr hM ?_;refine By hM ?_ ?_ ?_));(focus rfl);(focus (constructor <;> simp));((clear hM;intro _ _ hM;refine Bx hM ?_;clear hM;intro _ _ hM)))|(((refine An trivial ?_;refine Aw hM ?_;refine An ?_ ?_));(focus omega);((refine An trivial ?_;refine Aw hM ?_;refine An ?_ ?_));(focus omega);((refine An trivial ?_;refine An trivial ?_;refine Cr hM ?_;refine An trivial ?_;refine Aw hM ?_;refine An ?_ ?_));(focus omega);((refine An trivial ?_;refine Aw hM ?_;refine An ?_ ?_));(focus omega);((refine An ?_ ?_));(focus omega);((refine An trivial ?_;refine An trivial ?_;refine Cr hM ?_;refine Bx hM ?_;clear hM;intro _ _ hM;refine By hM ?_ ?_ ?_));(focus rfl);(focus (constructor <;> simp));((clear hM;intro _ _ hM)))|(((refine An trivial ?_;refine Aw hM ?_;refine An ?_ ?_));(focus omega);((refine An trivial ?_;refine Aw hM ?_;refine An ?_ ?_));(focus omega);((refine An trivial ?_;refine An trivial ?_;refine Cr hM ?_;refine An trivial ?_;refine Aw hM ?_;refine An ?_ ?_));(focus omega);((refine An trivial ?_;refine Aw hM ?_;refine An ?_ ?_));(focus omega);((refine An ?_ ?_));(focus omega);((refine An trivial ?_;refine An trivial ?_;refine Cr hM ?_;refine By hM ?_ ?_ ?_));(focus rfl);(focus (constructor <;> simp));((clear hM;intro _ _ hM))))
    repeat
     (with_reducible show df _ _ (Ah (fv 34) _) _ _
      first
       | refine Bv hM (fun w hM=>Gk sleft (strOfNums h.1) (by rw[strOfNums_size,h.2.1];decide) hM) (fun w2 _ hM2=>?_)
       | refine Bv hM (fun w hM=>Gk sright (strOfNums h.1) (by rw[strOfNums_size,h.2.1];decide) hM) (fun w2 _ hM2=>?_)
      replace hM:=hM2
      clear hM2
      (first|(((refine An trivial ?_;refine An trivial ?_;refine Bx hM ?_;clear hM;intro _ _ hM;refine Cb hM ?_;clear hM;intro _ hM;refine Ba hM ?_;clear hM;intro _ hM)))|(((refine An trivial ?_;refine An trivial ?_;refine Cb hM ?_;clear hM;intro _ hM;refine Ba hM ?_;clear hM;intro _ hM)))|(((refine An trivial ?_;refine By hM ?_ ?_ ?_));(focus rfl);(focus (constructor <;> simp));((clear hM;intro _ _ hM;refine Bx hM ?_;clear hM;intro _ _ hM)))|(((refine An trivial ?_;refine Bx hM ?_;clear hM;intro _ _ hM;refine By hM ?_ ?_ ?_));(focus rfl);(focus (constructor <;> simp));((clear hM;intro _ _ hM)))|(((refine An trivial ?_;refine By hM ?_ ?_ ?_));(focus rfl);(focus (constructor <;> simp));((clear hM;intro _ _ hM)))|(((refine An trivial ?_;refine Bx hM ?_;clear hM;intro _ _ hM)))|(((refine An trivial ?_)))))
    exact⟨_,shaH (ints sleft++ints (strOfNums h.1)),shaH (ints sright++ints (strOfNums h.1)),rfl,hM.sub⟩
  clear hM
  rintro v u5 w3 ⟨g13,h1,h2,rfl,hM⟩
  (((refine Ab trivial ?_;refine Ao hM ?_;refine Bu hM ?_ ?_ ?_));(focus rfl);(focus (constructor <;> simp));((clear hM;intro _ _ hM;refine Ab trivial ?_;refine Ab trivial ?_;refine Ao hM ?_;refine Ab trivial ?_;refine Ab trivial ?_;refine Ao hM ?_;refine Bu hM ?_ ?_ ?_));(focus rfl);(focus (constructor <;> simp));((clear hM;intro _ _ hM;refine Ab trivial ?_;refine Bg hM ?_ ?_));(focus (first|exact trivial|assumption|omega));((clear hM;intro _ hM;refine An trivial ?_;refine An trivial ?_;refine Aw hM ?_;refine An trivial ?_;refine Aw hM ?_;refine An ?_ ?_));(focus omega);((refine An ?_ ?_));(focus omega);((refine An ?_ ?_));(focus omega);((refine An trivial ?_;refine Ba hM ?_;clear hM;intro _ hM)))
  have hw:=and1 (place / 2 ^ (32 - lev - 1).toNat)
  generalize bits .and .i64 (place / 2 ^ (32 - lev - 1).toNat) 1=way at hw ⊢
  have hpn:(2:Int) ^ (lev+1).toNat=2 ^ lev.toNat*2:=by
   rw[show(lev+1).toNat=lev.toNat+1 by omega,Int.pow_succ]
  rcases hw with rfl|rfl
  ·refine⟨fun x y w'=>∃ (B2:Option Addr) (b2:Nat),x=.slice A n a∧y=.slice B2 (m+1) b2∧Mem H w0 (rowR 271 34 B2 (m+1) b2 (ys.map Sd.fds++[[.one (.int .i64 (lev+1)),.one (.int .i64 (2*pl+1)),.arr 32 (u8s h2.1)]])::fb g13 285 [.one (.int .i64 (lev+1)),.one (.int .i64 (2*pl)),.arr 32 (u8s h1.1),.one (.int .i64 (lev+1)),.one (.int .i64 (2*pl+1)),.arr 32 (u8s h2.1)]::fb g10 271 [.one (.int .i64 lev),.one (.int .i64 pl),.arr 32 (u8s h.1)]::rowR 271 34 A n a (xs.map Sd.fds)::fb g8 23 [.arr 32 (u8s hzero.1)]::fb g 247 [.one (.int .i64 32),.one (.slice (some ⟨b,o,none⟩) 1 c)]::L) w',?_,?_⟩
   ·(((refine Cc trivial ?_ ?_));(focus (first|assumption|omega|with_reducible rfl|exact fun h=>Bool.noConfusion h));((refine Am ?_;refine Ab trivial ?_;refine Ao hM ?_;refine Bu hM ?_ ?_ ?_));(focus rfl);(focus (constructor <;> simp));((clear hM;intro _ _ hM;refine Cz hM ?_ ?_));(focus omega);((clear hM;intro _ _ _ hM)))
    exact⟨_,_,rfl,rfl,hM.sub⟩
   clear hM
   rintro x y u7 w4 ⟨B2,b2,rfl,rfl,hM⟩
   (((refine Ab trivial ?_;refine Ao hM ?_;refine Bi hM ?_;clear hM;intro _ hM)))
   refine⟨⟨A,n,a,B2,m+1,b2,xs,ys++[⟨lev+1,2*pl+1,h2⟩],lev+1,2*pl,h1,rfl,rfl,hxs,by simp[hys],by omega,by omega,by omega,by omega,by rw[hpn];omega,?_⟩,by dsimp only;omega⟩
   simp only[List.map_append,List.map_cons,List.map_nil]
   exact hM.sub
  ·refine⟨fun x y w'=>∃ (A2:Option Addr) (a2:Nat),x=.slice A2 (n+1) a2∧y=.slice B m c2∧Mem H w0 (rowR 271 34 A2 (n+1) a2 (xs.map Sd.fds++[[.one (.int .i64 (lev+1)),.one (.int .i64 (2*pl)),.arr 32 (u8s h1.1)]])::fb g13 285 [.one (.int .i64 (lev+1)),.one (.int .i64 (2*pl)),.arr 32 (u8s h1.1),.one (.int .i64 (lev+1)),.one (.int .i64 (2*pl+1)),.arr 32 (u8s h2.1)]::fb g10 271 [.one (.int .i64 lev),.one (.int .i64 pl),.arr 32 (u8s h.1)]::rowR 271 34 B m c2 (ys.map Sd.fds)::fb g8 23 [.arr 32 (u8s hzero.1)]::fb g 247 [.one (.int .i64 32),.one (.slice (some ⟨b,o,none⟩) 1 c)]::L) w',?_,?_⟩
   ·(((refine Br trivial ?_ ?_));(focus (first|assumption|omega|with_reducible rfl|exact fun h=>Bool.noConfusion h));((refine Al ?_;refine Ab trivial ?_;refine Ao hM ?_;refine Bu hM ?_ ?_ ?_));(focus rfl);(focus (constructor <;> simp));((clear hM;intro _ _ hM;refine Cz hM ?_ ?_));(focus omega);((clear hM;intro _ _ _ hM)))
    exact⟨_,_,rfl,rfl,hM.sub⟩
   clear hM
   rintro x y u7 w4 ⟨A2,a2,rfl,rfl,hM⟩
   (((refine Ab trivial ?_;refine Ao hM ?_;refine Bi hM ?_;clear hM;intro _ hM)))
   refine⟨⟨A2,n+1,a2,B,m,c2,xs++[⟨lev+1,2*pl,h1⟩],ys,lev+1,2*pl+1,h2,rfl,rfl,by simp[hxs],hys,by omega,by omega,by omega,by omega,by rw[hpn];omega,?_⟩,by dsimp only;omega⟩
   simp only[List.map_append,List.map_cons,List.map_nil]
   exact hM.sub
 ·intro hge
  have hl32:n+m=32:=by omega
  subst hys
  (((refine Ba hM ?_;clear hM;intro _ hM;refine Al ?_;refine Ab trivial ?_;refine Ab trivial ?_;refine Hq hM ?_;refine Bu hM ?_ ?_ ?_));(focus rfl);(focus (constructor <;> simp));((clear hM;intro _ _ hM)))
  refine Bn hM (Gk skey (strOfNums h.1) (by rw[strOfNums_size,h.2.1];decide) hM) (fun w3 hM2=>?_)
  replace hM:=hM2
  clear hM2
  generalize shaH (ints skey++ints (strOfNums h.1))=key at hM ⊢
  (((refine Bj hM ?_;clear hM;intro _ _ hM;refine Bi hM ?_;clear hM;intro _ hM;refine Ab trivial ?_;refine Ao hM ?_;refine Bu hM ?_ ?_ ?_));(focus rfl);(focus (constructor <;> simp));((clear hM;intro _ _ hM;refine Ao hM ?_;refine Bu hM ?_ ?_ ?_));(focus rfl);(focus (constructor <;> simp));((clear hM;intro _ _ hM;refine Ab trivial ?_;refine Bg hM ?_ ?_));(focus (first|exact trivial|assumption|omega));((clear hM;intro _ hM)))
  rename_i g15 _ _ _ _ _ _ _
  refine Be (bCy (A:=B) ys (by omega) (hM.at_ (rowR 271 34 B ys.length c2 (ys.map Sd.fds)))) ?_
  clear hM
  rintro v w5 ⟨rfl,zs,hzs,hM⟩
  refine⟨Rl.fz (hadd H g15 (fl [.arr 32 (u8s key.1)])),?_⟩
  have hgf:FbF (hadd H g15 (fl [.arr 32 (u8s key.1)])) g15 [.arr 32 (u8s key.1)]:=FbF.add inferInstance
  have hF:=hM.fzAdd hM.fz g15
  ((refine Nh ‹_› ‹_› ?_))
  refine dfz hM (fun w hM=>?_)
  refine aXw hM (by omega) (fun A' c' w' hM=>?_)
  refine⟨hM.fzAdd hM.fz g15,?_⟩
  clear hF hgf
  refine bCx hM (fun w hM=>?_)
  (((refine Bi hM ?_;clear hM;intro _ hM;refine Ba hM ?_;clear hM;intro _ hM;refine Cd hM ?_)))
  rw[← List.map_append]at hM
  exact hR key A' (n+ys.length) c' (xs++zs) _ (by simp[hxs,hzs]) (by omega) (by omega) hM.sub
theorem aTd (place:Int) (cells:Fd) (hp:0≤place∧place<4294967296) (hM:Mem H w0 (fb g 247 [.one (.int .i64 32),cells]::L) w):Calls prog 156 #[.pointer (some ⟨g,0,none⟩),.int .i64 place] w fun en w'=>∃ v,en=.returned v∧v=.bool true∧Mem H w0 (fb g 247 [.one (.int .i64 32),cells]::L) w':=by
 refine Wk ?_
 unfold Mg
 (((refine Ab trivial ?_;refine Ae ?_;refine Ab trivial ?_;refine Ae ?_;refine Cc trivial ?_ ?_));(focus (first|assumption|omega|with_reducible rfl|exact fun h=>Bool.noConfusion h));((refine Ab trivial ?_;refine Ae ?_;refine Ab trivial ?_;refine Ae ?_;refine Ab trivial ?_;refine Ae ?_;refine Ab trivial ?_;refine Ae ?_;refine Ab trivial ?_;refine Ae ?_;refine Ao hM ?_;refine Ae ?_;refine Ab ?_ ?_));(focus omega);((refine Ae ?_)))
 rw[show pw 32=4294967296 from rfl]
 (((refine Cc trivial ?_ ?_));(focus (first|assumption|omega|with_reducible rfl|exact fun h=>Bool.noConfusion h));((refine Ab trivial ?_)))
 exact⟨_,rfl,rfl,hM⟩
theorem aZv (root:H32) (place:Int) (hp:0≤place∧place<4294967296) (hs:Sl H 34 (some ⟨b,o,none⟩) [Sd.fds ⟨0,0,root⟩]) (hM:Mem H w0 (fb g 247 [.one (.int .i64 32),.one (.slice (some ⟨b,o,none⟩) 1 c)]::L) w):
  Calls prog 157 #[.pointer (some ⟨g,0,none⟩),.int .i64 place] w fun en w'=>∃ v,en=.returned v∧v=.tuple #[.int .i64 0,.bool true]∧Mem H w0 (fb g 247 [.one (.int .i64 32),.one (.slice (some ⟨b,o,none⟩) 1 c)]::L) w':=by
 refine aBp ?_
 unfold Pb
 (((refine Ab trivial ?_;refine Ab trivial ?_;refine Ao hM ?_;refine Ab trivial ?_)))
 refine⟨fun v w'=>v=.int .i64 0∧hM.now w',fun _ _=>0,⟨rfl,hM⟩,?_⟩
 rintro v u w2 ⟨rfl,hM⟩
 have hM:Mem _ _ _ _:=hM
 (((refine Cc trivial ?_ ?_));(focus (first|assumption|omega|with_reducible rfl|exact fun h=>Bool.noConfusion h));((refine Am ?_;refine Ab ?_ ?_));(focus omega))
 refine Bt (k:=Int.toNat 0) hM hs rfl ?_
 (((refine Bj hM ?_;clear hM;intro _ _ hM;refine Bi hM ?_;clear hM;intro _ hM;refine An trivial ?_;refine An trivial ?_;refine Aw hM ?_;refine An trivial ?_;refine Aw hM ?_;refine An ?_ ?_));(focus (simp only[and_true];omega));((refine An ?_ ?_));(focus (simp only[and_true];omega));((refine An trivial ?_;refine Aw hM ?_)))
 refine Qg trivial ?_ ?_
 ·show place / 4294967296=0
  omega
 (((refine Ba hM ?_;clear hM;intro _ hM;refine Am ?_)))
 exact⟨_,rfl,rfl,hM.sub⟩
theorem aZw (root:H32) (place:Int) (hp:0≤place∧place<4294967296) (hs:Sl H 34 (some ⟨b,o,none⟩) [Sd.fds ⟨0,0,root⟩]) (hM:Mem H w0 (fb g 247 [.one (.int .i64 32),.one (.slice (some ⟨b,o,none⟩) 1 1)]::L) w):
  Calls prog 79 #[.pointer (some ⟨g,0,none⟩),.pointer none,.int .i64 place] w fun en w'=>∃ v,en=.returned v∧∃ key:H32,v=.tuple #[ha key,.int .i64 0]∧Mem H w0 L w':=by
 refine aAz ?_
 unfold Ot
 (((refine Bj hM ?_;clear hM;intro _ _ hM)))
 refine Be (aTd place _ hp (hM.at_ (fb g 247 [.one (.int .i64 32),.one (.slice (some ⟨b,o,none⟩) 1 1)]))) ?_
 clear hM
 rintro v w2 ⟨rfl,hM⟩
 (((refine Ab trivial ?_;refine Al ?_)))
 refine Be (aZv root place hp hs hM) ?_
 clear hM
 rintro v w3 ⟨rfl,hM⟩
 ((((iterate 3 refine Ab trivial ?_);refine Al ?_)))
 refine Ee (aZu (RR:=fun en w'=>∃ v,en=.returned v∧∃ (key:H32) (A:Option Addr) (n a:Nat) (ys:List Sd),v=.tuple #[ha key,.slice A n a]∧ys.length=n∧1≤n∧n≤32∧Mem H w0 (rowR 271 34 A n a (ys.map Sd.fds)::fb g 247 [.one (.int .i64 32),.one (.slice (some ⟨b,o,none⟩) 1 1)]::_) w') root place hp hs hM (fun key A n a ys w' h1 h2 h3 h4=>⟨_,rfl,key,A,n,a,ys,rfl,h1,h2,h3,h4⟩)) ?_
 clear hM
 rintro en w4 ⟨v,rfl,key,A,n,a,ys,rfl,hn,hn1,hn2,hM⟩
 (((refine Ab trivial ?_;refine Ab trivial ?_;refine Bj hM ?_;clear hM;intro _ _ hM;refine Bi hM ?_;clear hM;intro _ hM)))
 refine⟨Rl.fz (hadd H g (fl [.one (.int .i64 32),.one (.slice (some ⟨b,o,none⟩) 1 1)])),?_⟩
 have hgf:FbF (hadd H g (fl [.one (.int .i64 32),.one (.slice (some ⟨b,o,none⟩) 1 1)])) g [.one (.int .i64 32),.one (.slice (some ⟨b,o,none⟩) 1 1)]:=FbF.add inferInstance
 have hF:=hM.fzAdd hM.fz g
 have hs0:Sl H 34 (some ⟨b,o,none⟩) []:=hs.take 0
 (((refine An trivial ?_;refine An trivial ?_));(refine Nh ‹_› ‹_› ?_);((refine An ?_ ?_));(focus omega))
 rw[show Int.toNat 0=0 from rfl]
 refine dfz hM (fun w hM=>?_)
 refine aZn hM hs0 rfl (by omega) (by omega) (fun A' c' w' hM=>?_)
 refine⟨hM.fzAdd hM.fz g,?_⟩
 rw[Nat.zero_add]at hM ⊢
 (((refine An trivial ?_;refine An trivial ?_));(refine Nh ‹_› ‹_› ?_);((refine An ?_ ?_));(focus omega))
 refine aOo hs rfl (by omega) (by omega) (fun B hB=>?_)
 skip
 refine dfz hM (fun w hM=>?_)
 refine aPh hM hB (by simp) (by omega) (fun A2 c2 w' hM=>?_)
 refine⟨hM.fzAdd hM.fz g,?_⟩
 clear hF hgf
 (((refine An trivial ?_;refine An trivial ?_;refine Cb hM ?_;clear hM;intro _ hM;refine Ba hM ?_;clear hM;intro _ hM;refine Ao hM ?_;refine Bi hM ?_;clear hM;intro _ hM;refine Cd hM ?_)))
 exact⟨_,rfl,key,rfl,hM.sub⟩
end
end Go.Proofs.YtgbenhmdamnmcaaGreat
namespace Go.Proofs.YtgbenhmdamnmcaaGreat
open Go.Proofs.Tryz
open Go.RowKit Go.Lib
theorem and15w (a:Int) (h:0≤a∧a<256):bits .and .u8 a 15=a%16:=by
 have key:∀ m:Fin 256,bits .and .u8 (m.val:Int) 15=(m.val:Int)%16:=by decide +kernel
 have:=key ⟨a.toNat,by omega⟩
 simp only[Int.toNat_of_nonneg h.1]at this
 exact this
abbrev digw:ByteArray:=ByteArray.mk #[48,49,50,51,52,53,54,55,56,57,97,98,99,100,101,102]
theorem aWv (n:Int) (k:IntKind) (h:0≤n∧n<16):Pur prog (Ei 9 (.string digw) (.int k n)) (.int .u8 ((ints digw).getD n.toNat 0)):=
 Od (P:=prog) 9 digw k n (by kernel_rfl) h.1 (show n<((16:Nat):Int) by omega)
def tiV (l:List Int):List Value:=l.map fun x=>.int .i64 x
abbrev T64:={ l:List Int // l.length=64∧∀ x∈l,0≤x∧x≤4611686018427387903 }
instance (t:T64):FdOk (.arr 64 (tiV t.1)):=⟨by simp[Fd.cells,Fd.size,tiV,t.2.1],fun u hu=>by
 obtain⟨x,_,rfl⟩:=List.mem_map.1 hu
 rfl⟩
structure Frm where
 id:H32
 parent:H32
 depth:Int
 said:H32
 times:T64
abbrev Frm.fds (f:Frm) (A:Option Addr) (n a:Nat) (B:Option Addr) (m b:Nat):List Fd:=[.arr 32 (u8s f.id.1),.arr 32 (u8s f.parent.1),.one (.int .i64 f.depth),.one (.slice A n a),.one (.slice B m b),.arr 32 (u8s f.said.1),.arr 64 (tiV f.times.1)]
section
variable {H:Hp} {w0 w:World} {L R:List Res} {A:Option Addr} {g n c:Nat}
theorem aZx (h:H32) (hf:Fz H w):Calls prog 135 #[ha h] w (Outp H w fun _ v=>∃ s:ByteArray,v=.string s∧s.size≤64):=by
 have hM:=Mem.start hf
 have hb:=h.2.2
 have hl:=h.2.1
 refine aRl ?_
 unfold aFg
 (((refine Bb hM ?_;clear hM;intro _ _ hM;refine Ao hM ?_)))
 rename_i g1 _
 have hM9:Mem H w (rowR 5 1 none 0 0 (byts [])::[fb g1 23 [.arr 32 (u8s h.1)]]) _:=hM.row0 5 1
 refine⟨fun x v w'=>∃ (k:Nat) (l:List Int) (A:Option Addr) (c:Nat),v=.int .i64 k∧k≤32∧l.length=2*k∧x=.slice A (2*k) c∧Mem H w (rowR 5 1 A (2*k) c (byts l)::[fb g1 23 [.arr 32 (u8s h.1)]]) w',fun _ v _=>match v with | .int _ k=>32 - k.toNat|_=>0,⟨0,[],none,0,rfl,by omega,rfl,rfl,hM9⟩,?_⟩
 clear hM hM9
 rintro x v u w2 ⟨k,l,A,c,rfl,hk,hlk,rfl,hM⟩
 (((refine Av trivial ?_ ?_)))
 ·intro hlt
  have hx:=hb (h.1[k]'(by omega)) (List.getElem_mem _)
  (((refine Am ?_)))
  refine Bw (Kx _ 5 32 (u8s h.1).toArray _ (k:Int) (.int .u8 (h.1[k]'(by omega))) (by kernel_rfl) (by kernel_rfl) (by omega) (by omega) (by simp[u8s])) ?_
  (((refine An ?_ ?_));(focus omega))
  refine Ob (aWv _ _ ?_) ?_
  ·show 0≤h.1[k] / 16∧h.1[k] / 16<16
   omega
  (((refine An trivial ?_)))
  rw[and15w _ hx]
  refine Ob (aWv _ _ (by omega)) ?_
  generalize (ints digw).getD (h.1[k]%16).toNat 0=y
  generalize (ints digw).getD _ 0=z
  (((refine By hM ?_ ?_ ?_));(focus rfl);(focus (constructor <;> simp));((clear hM;intro _ _ hM;refine aHv hM ?_ ?_));(focus omega);((clear hM;intro _ _ _ hM;refine Ba hM ?_;clear hM;intro _ hM;refine Ab ?_ ?_));(focus omega))
  rename_i A2 c2 _ _
  refine⟨⟨k+1,l++[z,y],A2,c2,rfl,by omega,by simp[hlk];omega,rfl,?_⟩,by dsimp only;omega⟩
  have e:byts (l++[z,y])=byts l++[[.one (.int .u8 z)],[.one (.int .u8 y)]]:=by simp[byts]
  rw[e,show 2*(k+1)=2*k+2 from rfl]
  exact hM.sub
 ·intro hge
  obtain rfl:k=32:=by omega
  (((refine Al ?_;refine Rh hM ?_ ?_));(focus (simp;omega)))
  exact hM.out (Le.refl _ _) ⟨_,rfl,by rw[strOfNums_size,List.length_take];omega⟩
instance:FunC prog 129:=⟨by kernel_rfl⟩
theorem aOp (n:Int) (h:0≤n∧n≤4611686018427387903) (w:World):Calls prog 129 #[.int .i64 n] w fun en w'=>en=.returned (.bool false)∧St w [] w':=by
 have hM:=Mem.start (Fz.of w)
 refine aHd ?_
 unfold To
 (((refine Br trivial ?_ ?_));(focus (first|assumption|omega|with_reducible rfl|exact fun h=>Bool.noConfusion h));((refine Ae ?_;refine Ab trivial ?_;refine Ae ?_;refine Br trivial ?_ ?_));(focus (first|assumption|omega|with_reducible rfl|exact fun h=>Bool.noConfusion h));((refine Ab trivial ?_)))
 exact⟨rfl,hM.st⟩
theorem aWw (f:Frm) (B:Option Addr) (a m b:Nat) (hM:Mem H w0 (fb g 62 (f.fds A n a B m b)::L) w):
  Calls prog 128 #[.slice (some ⟨g,99,none⟩) 64 64,fv 129] w fun en w'=>∃ v,en=.returned v∧v=.bool false∧Mem H w0 (fb g 62 (f.fds A n a B m b)::L) w':=by
 have hix:Calls prog 178 #[.slice (some ⟨g,99,none⟩) 64 64,fv 129] w fun en w'=>∃ v,en=.returned v∧v=.int .i64 (-1)∧Mem H w0 (fb g 62 (f.fds A n a B m b)::L) w':=by
  refine Fh ?_
  unfold Do
  (((refine Ab trivial ?_)))
  refine⟨fun v w'=>∃ i:Nat,v=.int .i64 i∧i≤64∧hM.now w',fun v _=>match v with | .int _ k=>64 - k.toNat|_=>0,⟨0,rfl,by omega,hM⟩,?_⟩
  rintro v u w2 ⟨i,rfl,hi,hM⟩
  (((refine Av trivial ?_ ?_)))
  ·intro hlt
   have hx:=f.times.2.2 (f.times.1[i]'(by have:=f.times.2.1;omega)) (List.getElem_mem _)
   have hM:Mem _ _ _ _:=hM
   (((refine Am ?_;refine Ab ?_ ?_));(focus omega))
   refine aMi hM (v:=.int .i64 (f.times.1[i]'(by have:=f.times.2.1;omega))) (by simp[tiV]) ?_
   refine Bn hM (aOp _ hx _) (fun w3 hM=>?_)
   (((refine Al ?_;refine Ab ?_ ?_));(focus omega))
   exact⟨⟨i+1,rfl,by omega,hM⟩,by dsimp only;omega⟩
  ·intro hge
   (((refine Al ?_)))
   exact⟨_,rfl,rfl,hM⟩
 refine Iq ?_
 unfold Es
 refine Be hix ?_
 rintro v w2 ⟨rfl,hM⟩
 (((refine Br trivial ?_ ?_));(focus (first|assumption|omega|with_reducible rfl|exact fun h=>Bool.noConfusion h)))
 exact⟨_,rfl,rfl,hM⟩
end
end Go.Proofs.YtgbenhmdamnmcaaGreat
namespace Go.Proofs.YtgbenhmdamnmcaaGreat
open Go.Proofs.Tryz
open Go.RowKit Go.Lib
section
variable {H:Hp} {w0 w:World} {L R:List Res} {A B K:Option Addr} {g n a b c kc:Nat}
theorem aTe (ps:List (List Fd)) (hn:n=ps.length) (h1:Sl H 97 A ps) (hl:n≤1000) (hM:Mem H w0 L w):
  Calls prog 131 #[tv A n a B 0 b] w fun en w'=>∃ v,en=.returned v∧∃ A' a' B' b',v=tv A' n a' B' 0 b'∧Mem H w0 (rowR 118 97 A' n a' ps::L) w':=by
 refine aHh ?_
 unfold Tq
 (((refine Bb hM ?_;clear hM;intro _ _ hM;refine Bj hM ?_;clear hM;intro _ _ hM)))
 rename_i g1 _ g2 _
 refine⟨fun v w'=>∃ g3 A' a' B' b',v=.pointer (some ⟨g3,0,none⟩)∧Mem H w0 (fb g3 58 (tfd A' n a' B' 0 b')::rowR 118 97 A' n a' ps::fb g2 58 (tfd none 0 0 none 0 0)::L) w',?_,?_⟩
 ·repeat' apply And.intro
  all_goals
   (first|(((refine An trivial ?_;refine Aw hM ?_;refine An trivial ?_;refine Aw hM ?_;refine Bx hM ?_;clear hM;intro _ _ hM)))|(((refine An trivial ?_;refine Aw hM ?_;refine An trivial ?_;refine Aw hM ?_))))
   repeat (first
    | (with_reducible show df _ _ (Ah (fv 141) _) _ _
       refine My hM (fun w hM=>Mq (h1.mono (Ku hM.fz)) hn (by omega) hM) ?_
       clear hM
       rintro v w5 - ⟨A',a',rfl,hM⟩
       (first|(((refine Bx hM ?_;clear hM;intro _ _ hM)))|skip))
    | (with_reducible show df _ _ (Ah (fv 142) _) _ _
       refine La hM (fun w hM=>(Mr (ps:=[]) (Sl.nil _ _ _) (by simp) (by omega) hM).mono fun en w' ⟨v,h,_,k⟩=>⟨v,h,k⟩) ?_
       clear hM
       rintro v w5 ⟨B',b',rfl,hM⟩
       (first|(((refine An trivial ?_;refine Bx hM ?_;clear hM;intro _ _ hM;refine Cb hM ?_;clear hM;intro _ hM;refine Ba hM ?_;clear hM;intro _ hM)))|(((refine An trivial ?_;refine Cb hM ?_;clear hM;intro _ hM;refine Ba hM ?_;clear hM;intro _ hM))))))
   exact⟨_,A',a',B',b',rfl,hM.sub⟩
 clear hM
 rintro v u w2 ⟨g3,A',a',B',b',rfl,hM⟩
 (((refine Ab trivial ?_;refine Ao hM ?_;refine Ab trivial ?_)))
 refine⟨fun v w'=>v=.int .i64 0∧hM.now w',fun _ _=>0,⟨rfl,hM⟩,?_⟩
 rintro v u w3 ⟨rfl,hM⟩
 have hM:Mem _ _ _ _:=hM
 (((refine Br trivial ?_ ?_));(focus (first|assumption|omega|with_reducible rfl|exact fun h=>Bool.noConfusion h));((refine Al ?_;refine Ao hM ?_;refine Bi hM ?_;clear hM;intro _ hM;refine Cd hM ?_)))
 exact⟨_,rfl,A',a',B',b',rfl,hM.sub⟩
theorem aWx (s:ByteArray) (h:H32) (w:World):Calls prog 134 #[.pointer none,.string s,ha h] w fun en w'=>en=.returned (.tuple #[])∧St w [] w':=by
 have hM:=Mem.start (Fz.of w)
 refine Wf ?_
 unfold Md
 (((refine Bb hM ?_;clear hM;intro _ _ hM;refine Ab trivial ?_;refine Al ?_)))
 exact⟨rfl,hM.st⟩
theorem Gp (p v x:H32):Tr.right ⟨[⟨1,p,v,x⟩],[]⟩=true:=by kernel_rfl
theorem aFw (p v x:H32):(Tr.sound ⟨[⟨1,p,v,x⟩],[]⟩).place 1=0:=by
 unfold Tr.sound
 rw[Gp]
 rfl
abbrev eraF (f:Frm) (A:Option Addr) (n a:Nat) (B:Option Addr) (m b:Nat) (me:Int) (K:Option Addr) (kn kc:Nat) (gi:Nat) (forks:Int) (P:Option Addr) (pn pc:Nat) (exp:H32):List Fd:=
 [.arr 32 (u8s f.id.1),.arr 32 (u8s f.parent.1),.one (.int .i64 f.depth),.one (.slice A n a),.one (.slice B m b),.arr 32 (u8s f.said.1),.arr 64 (tiV f.times.1),.one (.int .i64 me),.one (.slice K kn kc),.one (.pointer (some ⟨gi,0,none⟩)),.one (.int .i64 forks),.one (.slice P pn pc),.one (.int .i64 0),.arr 32 (u8s exp.1)]
theorem aLq {RR:Ending→World→Prop} (f:Frm) (lp lw lx:H32) (sec:Sec) (ks:List Kr) (hk:ks.length≤1000) (hd:0≤f.depth∧f.depth≤4611686018427387903)
  (h1:Sl H 97 A [Lf.fds ⟨1,lp,lw,lx⟩]) (hK:Sl H 33 K (ks.map Kr.fds)) (hM:Mem H w0 L w)
  (hR:∀ H' ge gi si A' a' B' b' K' kn kc' P' pc w',Le w0 H H'→Sl H' 97 A' [Lf.fds ⟨1,lp,lw,lx⟩]→Sl H' 34 (some ⟨si,0,none⟩) [Sd.fds ⟨0,0,sec.init⟩] →
   Mem H' w0 (fb ge 67 (eraF f A' 1 a' B' 0 b' 1 K' kn kc' gi 0 P' 1 pc sec.export_)::fb gi 247 [.one (.int .i64 32),.one (.slice (some ⟨si,0,none⟩) 1 1)]::L) w'→RR (.returned (.tuple #[.pointer (some ⟨ge,0,none⟩),.int .i64 0])) w'):
  Calls prog 68 #[.pointer none,.agg (fl (f.fds A 1 a B 0 b)).toArray,.int .i64 1,.slice K ks.length kc,sec.v] w RR:=by
 obtain⟨t,ht1⟩:∃ t:Tr,t=⟨[⟨1,lp,lw,lx⟩],[]⟩:=⟨_,rfl⟩
 have hT:TrF H (tv A 1 a B 0 b) t:=by
  subst ht1
  exact⟨⟨A,a,B,b,[],rfl,h1,Sl.nil _ _ _,trivial⟩,by simp[maxLen],by simp[maxLen]⟩
 have hright:=fun(w:World) (hf:Fz H w)=>Er (t:=⟨[⟨1,lp,lw,lx⟩],[]⟩) (qs:=[]) (A:=A) (B:=B) (a:=a) (b:=b) h1 (Sl.nil _ _ _) trivial (by simp[maxLen]) (by simp[maxLen]) hf
 have hplace:=fun(w:World) (hf:Fz H w)=>aKv (t:=⟨[⟨1,lp,lw,lx⟩],[]⟩) (qs:=[]) (A:=A) (B:=B) (a:=a) (b:=b) 1 h1 (Sl.nil _ _ _) trivial (by simp[maxLen]) (by simp[maxLen]) hf
 rw[Gp]at hright
 rw[aFw]at hplace
 refine aMp ?_
 unfold aAv
 (((refine Bb hM ?_;clear hM;intro _ _ hM;refine Bb hM ?_;clear hM;intro _ _ hM)))
 rename_i g6 _ g9 _
 refine⟨fun v w'=>v=.bool false∧Mem H w0 (fb g9 123 sec.fds::fb g6 62 (f.fds A 1 a B 0 b)::L) w',?_,?_⟩
 ·(((refine Ab trivial ?_;refine Ao hM ?_)))
  refine Bn hM (hright _ hM.fz) (fun w hM=>?_)
  (((refine Ab trivial ?_;refine Ae ?_;refine Ab trivial ?_;refine Ae ?_;refine Ao hM ?_;refine Ae ?_;refine Br trivial ?_ ?_));(focus (first|assumption|omega|with_reducible rfl|exact fun h=>Bool.noConfusion h));((refine Ab trivial ?_;refine Ae ?_;refine Ab trivial ?_;refine Ae ?_;refine Ao hM ?_;refine Ae ?_;refine Br trivial ?_ ?_));(focus (first|assumption|omega|with_reducible rfl|exact fun h=>Bool.noConfusion h));((refine Ab trivial ?_;refine Ae ?_;refine Ab trivial ?_;refine Ae ?_;refine Ab trivial ?_;refine Ae ?_)))
  refine Be (aWw (g:=g6) f B a 0 b (hM.at_ (fb g6 62 (f.fds A 1 a B 0 b)))) ?_
  clear hM
  rintro v w3 ⟨rfl,hM⟩
  (((refine Ab trivial ?_)))
  exact⟨rfl,hM.same⟩
 clear hM
 rintro v u w2 ⟨rfl,hM⟩
 (((refine Al ?_;refine Ab trivial ?_;refine Ao hM ?_)))
 refine Bn hM (hplace _ hM.fz) (fun w3 hM2=>?_)
 replace hM:=hM2
 clear hM2
 (((refine Br trivial ?_ ?_));(focus (first|assumption|omega|with_reducible rfl|exact fun h=>Bool.noConfusion h));((refine Al ?_;refine Aw hM ?_;refine An trivial ?_;refine Aw hM ?_)))
 have hM0:=hM
 refine Ps hM (fun w hM=>aZo ks hk hT hK hM.fz) ?_
 clear hM
 rintro H1 r w4 hx l1 hM ⟨K',kc',rfl,-⟩
 generalize (keepT t ks).length=kn at hM ⊢
 (((refine An trivial ?_));(refine Aw ‹Mem _ _ _ _› ?_);((refine An trivial ?_;refine bBe hM ?_;clear hM;intro _ _ hM;refine Ba hM ?_;clear hM;intro _ hM;refine Ab trivial ?_;refine Ao hM ?_)))
 clear hM0
 have h11:=h1.mono l1.le
 refine Be (aTe [Lf.fds ⟨1,lp,lw,lx⟩] rfl h11 (by omega) hM) ?_
 clear hM
 rintro r w5 ⟨A',a',B',b',rfl,hM⟩
 ((((iterate 3 refine Ab trivial ?_);refine Bi hM ?_;clear hM;intro _ hM;refine Ab trivial ?_;refine Ao hM ?_)))
 rename_i ge _ _ _
 refine Be (aQk sec.init 32 (by omega) hM) ?_
 clear hM
 rintro r w6 ⟨gi,si,rfl,hM⟩
 ((((iterate 4 refine Ab trivial ?_);refine Bi hM ?_;clear hM;intro _ hM;(iterate 4 refine Ab trivial ?_);refine Ao hM ?_;refine Ab trivial ?_)))
 have hM9:Mem H1 w0 (fb ge 67 (eraF f A' 1 a' B' 0 b' 1 K' kn kc' gi 0 none 0 0 sec.export_)::rowR 64 1 none 0 0 []::rowR 118 97 A' 1 a' [Lf.fds ⟨1,lp,lw,lx⟩]::fb gi 247 [.one (.int .i64 32),.one (.slice (some ⟨si,0,none⟩) 1 1)]::rowR 271 34 (some ⟨si,0,none⟩) 1 1 [Sd.fds ⟨0,0,sec.init⟩]::fb g9 123 sec.fds::fb g6 62 (f.fds A 1 a B 0 b)::L) _:=(hM.row0 64 1).same
 refine⟨fun v w'=>∃ (i:Nat) (P:Option Addr) (pc:Nat) (ps:List (List Fd)),v=.int .i64 i∧i≤1∧Mem H1 w0 (fb ge 67 (eraF f A' 1 a' B' 0 b' 1 K' kn kc' gi 0 P i pc sec.export_)::rowR 64 1 P i pc ps::rowR 118 97 A' 1 a' [Lf.fds ⟨1,lp,lw,lx⟩]::fb gi 247 [.one (.int .i64 32),.one (.slice (some ⟨si,0,none⟩) 1 1)]::rowR 271 34 (some ⟨si,0,none⟩) 1 1 [Sd.fds ⟨0,0,sec.init⟩]::fb g9 123 sec.fds::fb g6 62 (f.fds A 1 a B 0 b)::L) w',fun v _=>match v with | .int _ k=>1 - k.toNat|_=>0,⟨0,none,0,[],rfl,by omega,hM9⟩,?_⟩
 clear hM hM9
 rintro v u w7 ⟨i,P,pc,ps,rfl,hi,hM⟩
 obtain rfl|rfl:i=0∨i=1:=by omega
 ·(((refine Cc trivial ?_ ?_));(focus (first|assumption|omega|with_reducible rfl|exact fun h=>Bool.noConfusion h));((refine Am ?_;refine aAd hM ?_ ?_));(focus omega);((intro _ hA));(cases hA))
  refine Zh (k:=((0:Nat):Int).toNat) hM rfl ?_
  (((refine Bj hM ?_;clear hM;intro _ _ hM;refine Bi hM ?_;clear hM;intro _ hM)))
  rename_i g14 _ _
  refine⟨fun v w'=>∃ gr,v=.pointer (some ⟨gr,0,none⟩)∧hM.now w',?_,?_⟩
  ·(((refine Ab trivial ?_;refine Ao hM ?_)))
   refine Cc trivial (show(1:Int)>0 by decide) ?_
   (((refine Am ?_;refine Ab trivial ?_;refine Ao hM ?_;refine Bg hM ?_ (fun _ hM2=>?_)));(focus (first|exact trivial|assumption|omega));((replace hM:=hM2;clear hM2)))
   refine Be (aQk (appH sec.apps ((0:Nat):Int)) 8 (by omega) hM) ?_
   rintro r w8 ⟨gj,sj,rfl,hM2⟩
   (((refine Ab trivial ?_;refine Ab trivial ?_)))
   exact⟨gj,rfl,(hM2.sub:Mem H1 w0 _ _)⟩
  rintro v u8 w8 ⟨gr,rfl,hM⟩
  have hM:Mem _ _ _ _:=hM
  (((refine Ab trivial ?_;refine Ab trivial ?_;refine Ao hM ?_;refine Bu hM ?_ ?_ ?_));(focus rfl);(focus (constructor <;> simp));((clear hM;intro _ _ hM;refine Cz hM ?_ ?_));(focus omega);((clear hM;intro _ _ _ hM;refine Ab trivial ?_;refine Ab trivial ?_;refine Bi hM ?_;clear hM;intro _ hM;refine Ab ?_ ?_));(focus omega))
  rename_i A2 c2 _ _
  exact⟨⟨1,A2,c2,ps++[[.one (.pointer (some ⟨gr,0,none⟩))]],rfl,by omega,hM.sub⟩,by dsimp only;omega⟩
 ·have hM0:=hM
  (((refine Br trivial ?_ ?_));(focus (first|assumption|omega|with_reducible rfl|exact fun h=>Bool.noConfusion h));((refine Al ?_;refine An trivial ?_;refine Aw hM ?_)))
  refine Ps hM (fun w hM=>aZx f.id hM.fz) ?_
  clear hM
  rintro H2 r w8 hx2 l2 hM ⟨s,rfl,hs⟩
  have hsz:(ByteArray.mk #[101,112,111,99,104,32]).size=6:=rfl
  refine An (by omega) ?_
  (((refine An trivial ?_));(refine Aw ‹Mem _ _ _ _› ?_))
  refine Bv hM (fun w hM=>aWx _ _ w) (fun w9 _ hM2=>?_)
  replace hM:=hM2
  clear hM2
  (((refine Ba hM ?_;clear hM;intro _ hM)))
  obtain⟨H3,l3,hM3,hS,-⟩:=hM.fz1 (some ⟨si,0,none⟩)
  clear hM
  obtain⟨H4,l4,hM4,hL,-⟩:=hM3.fz1 A'
  exact hR H4 ge gi si A' a' B' b' K' kn kc' P pc _ (l1.trans (l2.trans (l3.trans l4))) hL (hS.mono l4.le) hM4.sub
end
end Go.Proofs.YtgbenhmdamnmcaaGreat
namespace Go.Proofs.YtgbenhmdamnmcaaGreat
open Go.Proofs.Tryz
open Go.RowKit Go.Proofs.YtgbenhmdamnmcaaGreat.Chg
def privK (n:Int):H32:=hset (hset hzero 0 (n%256)) 1 55
def initK (n k:Int):H32:=hset (hset (hset hzero 0 (n%256)) 1 (k%256)) 2 1
def leafK (n k:Int):H32:=hset (hset (hset hzero 0 (n%256)) 1 (k%256)) 2 2
def deckF (n:Int) (j:Nat):List (List Fd):=(List.range j).map fun(k:Nat)=>[.arr 32 (u8s (initK n k).1),.arr 32 (u8s (leafK n k).1)]
theorem aOq (n:Int) (j:Nat):deckF n (j+1)=deckF n j++[[.arr 32 (u8s (initK n j).1),.arr 32 (u8s (leafK n j).1)]]:=by simp[deckF,List.range_succ]
theorem aTf (n:Int) (j:Nat):(deckF n j).length=j:=by simp[deckF]
def cardF (n:Int) (j:Nat):List (List Fd):=(List.range j).map fun(k:Nat)=>[.arr 32 (u8s (pubH (initK n k)).1),.arr 32 (u8s (pubH (leafK n k)).1)]
theorem aOr (n:Int) (j:Nat):cardF n (j+1)=cardF n j++[[.arr 32 (u8s (pubH (initK n j)).1),.arr 32 (u8s (pubH (leafK n j)).1)]]:=by simp[cardF,List.range_succ]
def PkF (H:Hp) (q:List Fd) (n:Int):Prop:=∃ C c,q=[.arr 32 (u8s (verV (privK n)).1),.one (.slice C 3 c)]∧Sl H 64 C (cardF n 3)
theorem PkF.mono {H H':Hp} {q:List Fd} {n:Int} (h:PkF H q n) (k:H.le H'):PkF H' q n:=by
 obtain⟨C,c,h1,h2⟩:=h
 exact⟨C,c,h1,h2.mono k⟩
theorem aFx {α:Type} {r:List Fd→α→Prop} {q:List Fd} {x:α}:∀ {ps:List (List Fd)} {xs:List α},All2 r ps xs→r q x→All2 r (ps++[q]) (xs++[x])
 | [],[],_,h=>⟨h,trivial⟩
 | _::_,_::_,k,h=>⟨k.1,aFx k.2 h⟩
 | [],_::_,k,_=>k.elim
 | _::_,[],k,_=>k.elim
def rollN (j:Nat):List Int:=(List.range j).map fun(k:Nat)=>(k:Int)+1
theorem aOs (j:Nat):rollN (j+1)=rollN j++[(j:Int)+1]:=by simp[rollN,List.range_succ]
section
variable {H:Hp} {w0 w:World} {L R:List Res} {g:Nat}
theorem aZy (n:Int) (w:World):Calls prog 24 #[.int .i64 n] w fun en w'=>en=.returned (ha (privK n))∧St w [] w':=by
 have hM:=Mem.start (Fz.of w)
 refine Vc ?_
 unfold Lq
 (((refine Bj hM ?_;clear hM;intro _ _ hM;refine Ab trivial ?_;refine Ab ?_ ?_));(focus (simp only[and_true];omega));((refine Bi hM ?_;clear hM;intro _ hM;refine Cd hM ?_)))
 exact⟨rfl,hM.st⟩
theorem aZz (n k:Int) (w:World):Calls prog 137 #[.int .i64 n,.int .i64 k] w fun en w'=>en=.returned (ha (initK n k))∧St w [] w':=by
 have hM:=Mem.start (Fz.of w)
 refine Wi ?_
 unfold Mf
 (((refine Bj hM ?_;clear hM;intro _ _ hM;refine Ab trivial ?_;refine Ab trivial ?_;refine Ab ?_ ?_));(focus (simp only[and_true];omega));((refine Bi hM ?_;clear hM;intro _ hM;refine Cd hM ?_)))
 exact⟨rfl,hM.st⟩
theorem bAa (n k:Int) (w:World):Calls prog 22 #[.int .i64 n,.int .i64 k] w fun en w'=>en=.returned (ha (leafK n k))∧St w [] w':=by
 have hM:=Mem.start (Fz.of w)
 refine Va ?_
 unfold Lp
 (((refine Bj hM ?_;clear hM;intro _ _ hM;refine Ab trivial ?_;refine Ab trivial ?_;refine Ab ?_ ?_));(focus (simp only[and_true];omega));((refine Bi hM ?_;clear hM;intro _ hM;refine Cd hM ?_)))
 exact⟨rfl,hM.st⟩
instance (n:Int):PurC prog 24 [.int .i64 n] True (.agg (u8s (privK n).1).toArray):=⟨fun _ w=>aZy n w⟩
instance (n k:Int):PurC prog 137 [.int .i64 n,.int .i64 k] True (.agg (u8s (initK n k).1).toArray):=⟨fun _ w=>aZz n k w⟩
instance (n k:Int):PurC prog 22 [.int .i64 n,.int .i64 k] True (.agg (u8s (leafK n k).1).toArray):=⟨fun _ w=>bAa n k w⟩
theorem bDy (k:H32) (w:World):Calls prog 71 #[ha k] w fun en w'=>en=.returned (ha (pubH k))∧St w [] w':=by
 have hM:=Mem.start (Fz.of w)
 refine Ns ?_
 unfold Iy
 (((refine Bb hM ?_;clear hM;intro _ _ hM;refine Bj hM ?_;clear hM;intro _ _ hM;refine Ao hM ?_;refine Bg hM ?_ ?_));(focus (first|exact trivial|assumption|omega));((clear hM;intro _ hM)))
 refine Ab (by rw[strOfNums_size,k.2.1];decide) ?_
 have h:=fun w=>Pw (spub++strOfNums k.1) w (by rw[ByteArray.size_append,strOfNums_size,k.2.1];decide)
 rw[Pj,Ja]at h
 refine Bn hM (h _) (fun w2 hM=>?_)
 have e:hv (shaSum (ints spub++k.1))=.agg (u8s (pubH k).1).toArray:=rfl
 rw[e]
 (((refine Bi hM ?_;clear hM;intro _ hM;refine Cd hM ?_)))
 exact⟨rfl,hM.st⟩
theorem bAb (n:Int) (hf:Fz H w):Calls prog 70 #[.int .i64 n] w (Outp H w (fun H' v=>∃ A c,v=.slice A 3 c∧Sl H' 64 A (deckF n 3))):=by
 have hM:=Mem.start hf
 refine Vs ?_
 unfold Lx
 refine⟨fun x v w'=>∃ (k:Nat) (A:Option Addr) (c:Nat),v=.int .i64 k∧k≤3∧x=.slice A k c∧Mem H w [rowR 116 64 A k c (deckF n k)] w',fun _ v _=>match v with | .int _ k=>3 - k.toNat|_=>0,⟨0,none,0,rfl,by omega,rfl,hM.row0 116 64⟩,?_⟩
 clear hM
 rintro x v u w2 ⟨k,A,c,rfl,hk,rfl,hM⟩
 (((refine Av trivial ?_ ?_)))
 ·intro hlt
  (((refine Am ?_;refine Bg hM ?_ ?_));(focus (first|exact trivial|assumption|omega));((clear hM;intro _ hM;refine Bg hM ?_ ?_));(focus (first|exact trivial|assumption|omega));((clear hM;intro _ hM;refine Ab trivial ?_;refine Bu hM ?_ ?_ ?_));(focus rfl);(focus (constructor <;> simp));((clear hM;intro _ _ hM;refine Cz hM ?_ ?_));(focus omega);((clear hM;intro _ _ _ hM;refine Ab ?_ ?_));(focus omega))
  rename_i A2 c2 _
  rw[← aOq]at hM
  exact⟨⟨k+1,A2,c2,rfl,by omega,rfl,hM.sub⟩,by dsimp only;omega⟩
 ·intro hge
  obtain rfl:k=3:=by omega
  (((refine Al ?_)))
  obtain⟨H2,l2,hM2,hK,-⟩:=hM.fz0
  exact hM2.out l2 ⟨A,c,rfl,hK⟩
theorem aQl (hf:Fz H w):Calls prog 21 #[] w (Outp H w (fun H' v=>∃ A c ps,v=.slice A 6 c∧Sl H' 33 A ps∧All2 (PkF H') ps (rollN 6))):=by
 have hM:=Mem.start hf
 refine Uy ?_
 unfold Lo
 refine⟨fun x v w'=>∃ (k:Nat) (H2:Hp) (A:Option Addr) (c:Nat) (ps:List (List Fd)),v=.int .i64 ((k:Int)+1)∧k≤6∧x=.slice A k c∧Le w H H2∧All2 (PkF H2) ps (rollN k)∧Mem H2 w [rowR 113 33 A k c ps] w',fun _ v _=>match v with | .int _ k=>8 - k.toNat|_=>0,⟨0,H,none,0,[],rfl,by omega,rfl,Le.refl _ _,trivial,hM.row0 113 33⟩,?_⟩
 clear hM
 rintro x v u w2 ⟨k,H2,A,c,ps,rfl,hk,rfl,l2,hps,hM⟩
 (((refine Av trivial ?_ ?_)))
 ·intro hlt
  (((refine Am ?_;refine Bg hM ?_ ?_));(focus (first|exact trivial|assumption|omega));((clear hM;intro _ hM;refine Bg hM ?_ ?_));(focus (first|exact trivial|assumption|omega));((clear hM;intro _ hM;refine Ab trivial ?_;refine Bj hM ?_;clear hM;intro _ _ hM;refine Bi hM ?_;clear hM;intro _ hM)))
  rename_i g3 _ _
  refine If hM (bAb ((k:Int)+1) hM.fz) ?_
  clear hM
  rintro H3 v w5 l3 hM ⟨D,dc,rfl,hD⟩
  have hM9:Mem H3 w [fb g3 113 [.arr 32 (u8s (verV (privK ((k:Int)+1))).1),.one (.slice none 0 0)],rowR 116 64 none 0 0 [],rowR 113 33 A k c ps] _:=(hM.row0 116 64).same
  refine⟨fun v w'=>∃ (j:Nat) (B:Option Addr) (b:Nat),v=.int .i64 j∧j≤3∧Mem H3 w [fb g3 113 [.arr 32 (u8s (verV (privK ((k:Int)+1))).1),.one (.slice B j b)],rowR 116 64 B j b (cardF ((k:Int)+1) j),rowR 113 33 A k c ps] w',fun v _=>match v with | .int _ k=>3 - k.toNat|_=>0,⟨0,none,0,rfl,by omega,hM9⟩,?_⟩
  clear hM hM9
  rintro v u2 w6 ⟨j,B,b,rfl,hj,hM⟩
  have hDl:(deckF ((k:Int)+1) 3).length=3:=aTf _ _
  (((refine Ab trivial ?_)))
  (((refine Av trivial ?_ ?_)))
  ·intro hlt2
   have hdj:(deckF ((k:Int)+1) 3)[j]?=some [.arr 32 (u8s (initK ((k:Int)+1) j).1),.arr 32 (u8s (leafK ((k:Int)+1) j).1)]:=by
    have:j<3:=by omega
    simp[deckF,List.getElem?_map,List.getElem?_range this]
   obtain⟨db,dd,rfl⟩:=hD.some_ (by rw[hDl];omega)
   have hM0:=hM
   (((refine Am ?_;refine An trivial ?_;refine Aw hM ?_;refine An ?_ ?_));(focus omega);((refine An trivial ?_)))
   refine Jl hM0 hD hdj ?_
   (((refine Bd hM ?_ (fun _ _ hM=>?_)));(focus (first|exact trivial|assumption|omega));((refine An ?_ ?_));(focus omega);((refine An trivial ?_)))
   refine Jl hM0 hD hdj ?_
   (((refine Bd hM ?_ (fun _ _ hM=>?_)));(focus (first|exact trivial|assumption|omega));((refine An trivial ?_;refine By hM ?_ ?_ ?_));(focus rfl);(focus (constructor <;> simp));((clear hM;intro _ _ hM;refine aHv hM ?_ ?_));(focus omega);((clear hM;intro _ _ _ hM;refine An trivial ?_;refine Cb hM ?_;clear hM;intro _ hM;refine Ba hM ?_;clear hM;intro _ hM;refine Ab ?_ ?_));(focus omega))
   rename_i B2 b2 _ _ _
   rw[← aOr]at hM
   exact⟨⟨j+1,B2,b2,rfl,by omega,hM.sub⟩,by dsimp only;omega⟩
  ·intro hge2
   obtain rfl:j=3:=by omega
   (((refine Al ?_;refine Ao hM ?_;refine Bu hM ?_ ?_ ?_));(focus rfl);(focus (constructor <;> simp));((clear hM;intro _ _ hM;refine Cz hM ?_ ?_));(focus omega);((clear hM;intro _ _ _ hM;refine Ab ?_ ?_));(focus omega))
   rename_i A2 c2 _
   obtain⟨H4,l4,hM4,hB,-⟩:=hM.fz1 B
   refine⟨⟨k+1,H4,A2,c2,ps++[[.arr 32 (u8s (verV (privK ((k:Int)+1))).1),.one (.slice B 3 b)]],rfl,by omega,rfl,l2.trans (l3.trans l4),?_,hM4.sub⟩,by dsimp only;omega⟩
   rw[aOs]
   exact aFx (hps.mono fun _ _ h=>h.mono (l3.trans l4).le) ⟨B,b,rfl,hB⟩
 ·intro hge
  obtain rfl:k=6:=by omega
  (((refine Al ?_)))
  obtain⟨H3,l3,hM3,hK,-⟩:=hM.fz0
  exact hM3.out (l2.trans l3) ⟨A,c,ps,rfl,hK,hps.mono fun _ _ h=>h.mono l3.le⟩
end
end Go.Proofs.YtgbenhmdamnmcaaGreat
namespace Go.Proofs.YtgbenhmdamnmcaaGreat
open Go.Proofs.Tryz
open Go.RowKit Go.Lib
abbrev sfound:ByteArray:=ByteArray.mk #[102,111,117,110,100]
def t64:T64:=⟨(List.replicate 64 0).set 0 1,by simp,by decide⟩
theorem e64:(List.replicate 64 (Value.int .i64 0)).set ((1:Int) - 1).toNat (.int .i64 1)=tiV t64.1:=by
 simp[tiV,t64,List.map_set]
section
variable {H:Hp} {w0 w:World} {L R:List Res} {A B K:Option Addr} {g n a b c kc:Nat}
theorem aWy {RR:Ending→World→Prop} (once:H32) (ps:List (List Fd)) (hA:Sl H 33 A ps) (hps:All2 (PkF H) ps (rollN 6)) (hM:Mem H w0 L w)
  (hR:∀ H' ge gi si A' a' B' b' K' kn kc' P' pc w' (f:Frm) (x ini exp:H32),Le w0 H H'→f.depth=0→Sl H' 97 A' [Lf.fds ⟨1,pubH (leafK 1 0),Chg.verV (privK 1),x⟩]→Sl H' 34 (some ⟨si,0,none⟩) [Sd.fds ⟨0,0,ini⟩] →
   Mem H' w0 (fb ge 67 (eraF f A' 1 a' B' 0 b' 1 K' kn kc' gi 0 P' 1 pc exp)::fb gi 247 [.one (.int .i64 32),.one (.slice (some ⟨si,0,none⟩) 1 1)]::L) w'→RR (.returned (.tuple #[.pointer (some ⟨ge,0,none⟩),.int .i64 0])) w'):
  Calls prog 20 #[.pointer none,.slice A 6 a,.int .i64 1,ha once,ha (leafK 1 0)] w RR:=by
 have hpl:ps.length=6:=hps.len
 obtain⟨q,hq0,C,cc,rfl,hC⟩:=hps.at_ (i:=0) (by decide)
 have hC:Sl H 64 C (cardF 1 3):=hC
 have hq0:ps[((1:Int) - 1).toNat]?=some [.arr 32 (u8s (Chg.verV (privK 1)).1),.one (.slice C 3 cc)]:=hq0
 have hc0:(cardF 1 3)[(0:Int).toNat]?=some [.arr 32 (u8s (pubH (initK 1 0)).1),.arr 32 (u8s (pubH (leafK 1 0)).1)]:=rfl
 obtain⟨ab,ao,rfl⟩:=hA.some_ (by omega)
 obtain⟨cb,co,rfl⟩:=hC.some_ (by decide)
 refine aJf ?_
 unfold Xl
 (((refine Bb hM ?_;clear hM;intro _ _ hM;refine Bb hM ?_;clear hM;intro _ _ hM)))
 rename_i g8 _ g9 _
 refine⟨fun v w'=>v=.bool false∧hM.now w',?_,?_⟩
 ·(((refine Br trivial ?_ ?_));(focus (first|assumption|omega|with_reducible rfl|exact fun h=>Bool.noConfusion h));((refine Ae ?_;refine Ab trivial ?_;refine Ae ?_;refine Ab trivial ?_;refine Ae ?_;refine Ab trivial ?_;refine Ae ?_)))
  refine Bw (v:=.int .i64 6) (fun w=>by kernel_rfl) ?_
  (((refine Ae ?_;refine Br trivial ?_ ?_));(focus (first|assumption|omega|with_reducible rfl|exact fun h=>Bool.noConfusion h));((refine Ab trivial ?_;refine Ae ?_;refine Ab trivial ?_;refine Ae ?_;refine Ab trivial ?_;refine Ae ?_;refine Ab ?_ ?_));(focus omega);((refine Ae ?_;refine Ab ?_ ?_));(focus omega);((refine Ae ?_;refine Ab trivial ?_;refine Ae ?_)))
  refine Ff hM hA hq0 ?_
  (((refine Ae ?_;refine Ab trivial ?_;refine Ae ?_;refine Br trivial ?_ ?_));(focus (first|assumption|omega|with_reducible rfl|exact fun h=>Bool.noConfusion h));((refine Ab trivial ?_)))
  exact⟨rfl,hM⟩
 rintro v u w2 ⟨rfl,hM⟩
 have hM:Mem _ _ _ _:=hM
 (((refine Al ?_;refine Ab ?_ ?_));(focus omega);((refine Ab ?_ ?_));(focus omega))
 refine Bt hM hA hq0 ?_
 (((refine Bj hM ?_;clear hM;intro _ _ hM;refine Bi hM ?_;clear hM;intro _ hM;refine Aw hM ?_;refine Bd hM ?_ (fun _ _ hM=>?_)));(focus (first|exact trivial|assumption|omega));((refine An trivial ?_));(refine Aw ‹Mem _ _ _ _› ?_);((refine An ?_ ?_));(focus omega);((refine An trivial ?_)))
 rename_i g12 _ _ _ _ _
 refine Jl ‹_› hC hc0 ?_
 skip
 refine aJb trivial (fun h=>h rfl) ?_
 (((refine Ba hM ?_;clear hM;intro _ hM;refine Al ?_;refine Ao hM ?_;refine Bg hM ?_ ?_));(focus (first|exact trivial|assumption|omega));((clear hM;intro _ hM)))
 refine⟨fun v w'=>∃ gf A' a',v=.pointer (some ⟨gf,0,none⟩)∧Mem H w0 (fb gf 62 [.arr 32 (u8s hzero.1),.arr 32 (u8s hzero.1),.one (.int .i64 0),.one (.slice A' 1 a'),.one (.slice none 0 0),.arr 32 (u8s (saidH hzero sfound).1),.arr 64 (List.replicate 64 (.int .i64 0))]::rowR 118 97 A' 1 a' [Lf.fds ⟨1,pubH (leafK 1 0),Chg.verV (privK 1),hzero⟩]::fb g9 23 [.arr 32 (u8s (leafK 1 0).1)]::fb g8 23 [.arr 32 (u8s once.1)]::L) w',?_,?_⟩
 ·repeat' apply And.intro
  all_goals
   have hM0:=hM
   have d1:sfound.size≤100000000:=by decide
   (((refine An trivial ?_;refine Aw hM ?_;refine An ?_ ?_));(focus omega);((refine An trivial ?_)))
   refine Jl hM0 hC hc0 ?_
   (first|(((refine An trivial ?_;refine Aw hM ?_;refine An trivial ?_;refine An trivial ?_;refine By hM ?_ ?_ ?_));(focus rfl);(focus (constructor <;> simp));((clear hM;intro _ _ hM;refine An trivial ?_;refine Bd hM ?_ (fun _ _ hM=>?_)));(focus (first|exact trivial|assumption|omega));((refine An trivial ?_;refine Bx hM ?_;clear hM;intro _ _ hM;refine Cb hM ?_;clear hM;intro _ hM;refine Ba hM ?_;clear hM;intro _ hM)))|(((refine An trivial ?_;refine Aw hM ?_;refine An trivial ?_;refine An trivial ?_;refine By hM ?_ ?_ ?_));(focus rfl);(focus (constructor <;> simp));((clear hM;intro _ _ hM;refine An trivial ?_;refine Bx hM ?_;clear hM;intro _ _ hM;refine Bd hM ?_ (fun _ _ hM=>?_)));(focus (first|exact trivial|assumption|omega));((refine An trivial ?_;refine Cb hM ?_;clear hM;intro _ hM;refine Ba hM ?_;clear hM;intro _ hM)))|(((refine An trivial ?_;refine Aw hM ?_;refine An trivial ?_;refine An trivial ?_;refine Bd hM ?_ (fun _ _ hM=>?_)));(focus (first|exact trivial|assumption|omega));((refine By hM ?_ ?_ ?_));(focus rfl);(focus (constructor <;> simp));((clear hM;intro _ _ hM;refine An trivial ?_;refine An trivial ?_;refine Bx hM ?_;clear hM;intro _ _ hM;refine Cb hM ?_;clear hM;intro _ hM;refine Ba hM ?_;clear hM;intro _ hM)))|(((refine An trivial ?_;refine Aw hM ?_;refine An trivial ?_;refine An trivial ?_;refine Bd hM ?_ (fun _ _ hM=>?_)));(focus (first|exact trivial|assumption|omega));((refine Bx hM ?_;clear hM;intro _ _ hM;refine By hM ?_ ?_ ?_));(focus rfl);(focus (constructor <;> simp));((clear hM;intro _ _ hM;refine An trivial ?_;refine An trivial ?_;refine Cb hM ?_;clear hM;intro _ hM;refine Ba hM ?_;clear hM;intro _ hM)))|(((refine An trivial ?_;refine Aw hM ?_;refine An trivial ?_;refine An trivial ?_;refine Bx hM ?_;clear hM;intro _ _ hM;refine By hM ?_ ?_ ?_));(focus rfl);(focus (constructor <;> simp));((clear hM;intro _ _ hM;refine An trivial ?_;refine Bd hM ?_ (fun _ _ hM=>?_)));(focus (first|exact trivial|assumption|omega));((refine An trivial ?_;refine Cb hM ?_;clear hM;intro _ hM;refine Ba hM ?_;clear hM;intro _ hM)))|(((refine An trivial ?_;refine Aw hM ?_;refine An trivial ?_;refine An trivial ?_;refine Bx hM ?_;clear hM;intro _ _ hM;refine Bd hM ?_ (fun _ _ hM=>?_)));(focus (first|exact trivial|assumption|omega));((refine By hM ?_ ?_ ?_));(focus rfl);(focus (constructor <;> simp));((clear hM;intro _ _ hM;refine An trivial ?_;refine An trivial ?_;refine Cb hM ?_;clear hM;intro _ hM;refine Ba hM ?_;clear hM;intro _ hM))))
   first
    | exact⟨_,_,_,rfl,hM.rm g12⟩
    | exact⟨_,_,_,rfl,(hM.rm g12).perm (.swap ..)⟩
 clear hM
 rintro v u8 w3 ⟨gf,A',a',rfl,hM⟩
 obtain⟨H1,l1,hM1,hL,-⟩:=hM.fz1 A'
 clear hM
 replace hM:=hM1
 clear hM1
 have hT:TrF H1 (tv A' 1 a' none 0 0) ⟨[⟨1,pubH (leafK 1 0),Chg.verV (privK 1),hzero⟩],[]⟩:=⟨⟨A',a',none,0,[],rfl,hL,Sl.nil _ _ _,trivial⟩,by simp[maxLen],by simp[maxLen]⟩
 have hRt:=Tr.rt.1 (Gp (pubH (leafK 1 0)) (Chg.verV (privK 1)) hzero)
 (((refine Ab ?_ ?_));(focus omega);((refine Ab trivial ?_;refine Ab ?_ ?_));(focus omega);((refine aUj hM ?_ ?_));(focus omega);((clear hM;intro _ hM;refine An trivial ?_;refine Aw hM ?_;refine An trivial ?_;refine Aw hM ?_)))
 refine Bv hM (fun w hM=>aVy hT hM.fz hRt) (fun w4 _ hM2=>?_)
 generalize hRoot ⟨[⟨1,pubH (leafK 1 0),Chg.verV (privK 1),hzero⟩],[]⟩=rt
 have hM0:=hM
 replace hM:=hM2
 clear hM2
 have hcl:(ctxL hzero 0 rt (saidH hzero sfound)).length≤200:=by
  have:=Az 0
  simp only[ctxL,List.length_append,hzero.2.1,rt.2.1,(saidH hzero sfound).2.1]
  omega
 rw[e64]at hM
 (((refine An trivial ?_));(refine Aw ‹Mem _ _ _ _› ?_);((refine Bd hM ?_ (fun _ _ hM=>?_)));(focus (first|exact trivial|assumption|omega));((refine Ba hM ?_;clear hM;intro _ hM;refine Bu hM ?_ ?_ ?_));(focus rfl);(focus (constructor <;> simp));((clear hM;intro _ _ hM)))
 generalize ctxL hzero 0 rt (saidH hzero sfound)=ctx at hcl hM ⊢
 refine Bn hM (Gk sfound (strOfNums ctx) (by rw[strOfNums_size];show 5+_<_;omega) hM) (fun w5 hM2=>?_)
 replace hM:=hM2
 clear hM2
 generalize shaH (ints sfound++ints (strOfNums ctx))=fid
 have d1:sfound.size≤1000000∧es0.size≤1000000:=by decide
 (((refine Ab trivial ?_;refine Bi hM ?_;clear hM;intro _ hM;refine Ao hM ?_;refine Bg hM ?_ ?_));(focus (first|exact trivial|assumption|omega));((clear hM;intro _ hM)))
 refine Bn hM (aPz _ _ (by rw[strOfNums_size];omega) _) (fun w6 hM2=>?_)
 replace hM:=hM2
 clear hM2
 generalize secOf _ _=sec
 (((refine Bj hM ?_;clear hM;intro _ _ hM;refine Bi hM ?_;clear hM;intro _ hM;refine Ao hM ?_;refine Ao hM ?_;refine Ab trivial ?_;refine Bu hM ?_ ?_ ?_));(focus rfl);(focus (constructor <;> simp));((clear hM;intro _ _ hM;refine Ao hM ?_)))
 obtain⟨H2,l2,hM2,hK,-⟩:=hM.fz0
 clear hM
 refine Ee (aLq (RR:=fun en w'=>∃ v,en=.returned v∧∃ H' ge gi si A' a' B' b' K' kn kc' P' pc,v=.tuple #[.pointer (some ⟨ge,0,none⟩),.int .i64 0]∧Le w0 H2 H'∧Sl H' 97 A' [Lf.fds ⟨1,pubH (leafK 1 0),Chg.verV (privK 1),hzero⟩]∧Sl H' 34 (some ⟨si,0,none⟩) [Sd.fds ⟨0,0,sec.init⟩] ∧
   Mem H' w0 (fb ge 67 (eraF ⟨fid,hzero,0,saidH hzero sfound,t64⟩ A' 1 a' B' 0 b' 1 K' kn kc' gi 0 P' 1 pc sec.export_)::fb gi 247 [.one (.int .i64 32),.one (.slice (some ⟨si,0,none⟩) 1 1)]::_) w')
  ⟨fid,hzero,0,saidH hzero sfound,t64⟩ (pubH (leafK 1 0)) (Chg.verV (privK 1)) hzero sec [⟨0,leafK 1 0⟩] (by simp) (by simp only;omega) (hL.mono l2.le) hK hM2
  (fun H' ge gi si A' a' B' b' K' kn kc' P' pc w' h1 h2 h3 h4=>⟨_,rfl,H',ge,gi,si,A',a',B',b',K',kn,kc',P',pc,rfl,h1,h2,h3,h4⟩)) ?_
 rintro en w9 ⟨v,rfl,H',ge,gi,si,A9,a9,B9,b9,K9,kn,kc9,P9,pc9,rfl,l3,hL9,hS9,hM⟩
 clear hM2
 (((refine Ab trivial ?_;refine Ab trivial ?_)))
 exact hR H' ge gi si A9 a9 B9 b9 K9 kn kc9 P9 pc9 _ ⟨fid,hzero,0,saidH hzero sfound,t64⟩ hzero sec.init sec.export_ (l1.trans (l2.trans l3)) rfl hL9 hS9 hM.sub
end
end Go.Proofs.YtgbenhmdamnmcaaGreat
namespace Go.Proofs.YtgbenhmdamnmcaaGreat
open Go.Proofs.Tryz
open Go.RowKit
def obR (g:Nat) (o:Obj):Res:=fun B=>Obj.isOther o=true∧B=[⟨g,.ob o,[],true⟩]
section
variable {P:Program} {H:Hp} {w0 w w':World} {L R:List Res} {g:Nat} {o o':Obj}
theorem St.allocOb {L:List Bk} (h:St w0 L w) (o:Obj) (ho:Obj.isOther o=true):St w0 (⟨w.heap.size,.ob o,[],true⟩::L) (w.alloc o):=by
 refine⟨fun b hb=>?_,.cons (fun b hb=>?_) h.ne,fun b hb hn=>?_,?_⟩
 ·cases hb with
  | head=>exact⟨rfl,ho,heap_alloc_new w _⟩
  | tail _ hb=>exact(h.own b hb).alloc _
 ·have:=(h.own b hb).lt
  simp only[]
  omega
 ·cases hb with
  | head=>exact h.size
  | tail _ hb=>exact h.new b hb hn
 ·exact(h.only.alloc _).mono fun i _ ⟨b,hb,hn,hg⟩=>⟨b,List.mem_cons_of_mem _ hb,hn,hg⟩
theorem Mem.allocOb (h:Mem H w0 L w) (o:Obj) (ho:Obj.isOther o=true):Mem H w0 (obR w.heap.size o::L) (w.alloc o):=by
 obtain⟨B,hl,hs,hb⟩:=h.own
 refine⟨⟨⟨w.heap.size,.ob o,[],true⟩::B,⟨[⟨w.heap.size,.ob o,[],true⟩],B,rfl,⟨ho,rfl⟩,hl⟩,hs.allocOb o ho,fun b hm=>?_⟩,h.fz.ext ((Only.refl _ w).alloc _)⟩
 rcases List.mem_cons.1 hm with rfl|hm
 ·refine⟨rfl,?_⟩
  cases hh:H w.heap.size with
  | none=>rfl
  | some c=>have:=h.fz.lt hh;omega
 ·exact hb b hm
end
end Go.Proofs.YtgbenhmdamnmcaaGreat
namespace Go.Proofs.YtgbenhmdamnmcaaGreat
open Go.Proofs.Tryz
open Go.RowKit Go.MapKept
def mpEs:List Int→Nat→List MapEntry
 | [],_=>[]
 | k::r,i=>⟨.int .i64 k,.bool true,i⟩::mpEs r (i+1)
def mpR (g:Nat) (ks:List Int):Res:=obR g (.map (mpEs ks 0).toArray ks.length)
section
variable {P:Program} {H:Hp} {w0 w w':World} {L R:List Res} {g:Nat} {t kt e:TypeId} {ks:List Int} {x:Int} {K:Value→World→Prop} {X:List PanicEntry→World→Prop} {Kq:Value→Prop}
theorem bAc (h:Mem H w0 L w) (hk:∀ g w',Mem H w0 (mpR g []::L) w'→K (.map (some g)) w'):mop P (Pq t none) w K X:=
 Ch (w':=w.alloc (.map #[] 0)) (u:=.map (some w.heap.size)) (by simp[Pq,sv,Instr.makeMap]) (hk _ _ (h.allocOb (.map #[] 0) rfl))
end
end Go.Proofs.YtgbenhmdamnmcaaGreat
namespace Go.Proofs.YtgbenhmdamnmcaaGreat
open Go.Proofs.Tryz
open Go.RowKit Go.Lib
section
variable {H:Hp} {w0 w:World} {L R:List Res} {A B P:Option Addr} {g n a b c pc:Nat}
theorem aFy (t:T64) (lp lw lx:H32) (h1:Sl H 97 A [Lf.fds ⟨1,lp,lw,lx⟩]) (hf:Fz H w):
  Calls prog 75 #[tv A 1 a B 0 b,.agg (tiV t.1).toArray,.slice P n pc,.slice none 0 0] w (Outp H w fun H' v=>∃ A' a' B' b',v=.tuple #[tv A' 1 a' B' 0 b',.agg (tiV t.1).toArray,.slice none 0 0,.int .i64 0]∧Sl H' 97 A' [Lf.fds ⟨1,lp,lw,lx⟩]):=by
 have hright:=fun(w:World) (hf:Fz H w)=>Er (t:=⟨[⟨1,lp,lw,lx⟩],[]⟩) (qs:=[]) (A:=A) (B:=B) (a:=a) (b:=b) h1 (Sl.nil _ _ _) trivial (by simp[maxLen]) (by simp[maxLen]) hf
 rw[Gp]at hright
 obtain⟨w1,hw1⟩:∃ w1,w1=w:=⟨_,rfl⟩
 rw[← hw1]
 rw[← hw1]at hf
 have hM:=Mem.start hf
 refine aAx ?_
 unfold Or
 (((refine Bb hM ?_;clear hM;intro _ _ hM;refine Bb hM ?_;clear hM;intro _ _ hM;refine Bj hM ?_;clear hM;intro _ _ hM;refine Bj hM ?_;clear hM;intro _ _ hM;refine Ao hM ?_)))
 rename_i g4 _ g5 _ g8 _ g9 _
 refine Bn hM (hright _ hM.fz) (fun w hM2=>?_)
 replace hM:=hM2
 clear hM2
 (((refine Ab trivial ?_;refine Al ?_;refine An trivial ?_;refine Aw hM ?_)))
 refine My hM (fun w hM=>Mq (h1.mono (Ku hM.fz)) (by simp) (by omega) hM) ?_
 rintro v2 w2 hx ⟨A1,a1,rfl,hM⟩
 (((refine An trivial ?_));(refine Aw ‹Mem _ _ _ _› ?_))
 refine La hM (fun w hM=>(Mr (ps:=[]) (Sl.nil _ _ _) (n:=0) rfl (by omega) hM).mono fun en w' ⟨v,h,_,k⟩=>⟨v,h,k⟩) ?_
 clear hM
 rintro v2 w3 ⟨B1,b1,rfl,hM⟩
 (((refine An trivial ?_;refine Cb hM ?_;clear hM;intro _ hM;refine An trivial ?_;refine Cb hM ?_;clear hM;intro _ hM;refine Ba hM ?_;clear hM;intro _ hM;refine Ab trivial ?_;refine Ao hM ?_;refine Ab trivial ?_)))
 refine⟨fun v w'=>v=.int .i64 0∧hM.now w',fun _ _=>0,⟨rfl,hM⟩,?_⟩
 rintro v u w4 ⟨rfl,hM⟩
 have hM:Mem _ _ _ _:=hM
 (((refine Br trivial ?_ ?_));(focus (first|assumption|omega|with_reducible rfl|exact fun h=>Bool.noConfusion h));((refine Al ?_;refine Ab trivial ?_)))
 refine⟨fun x v w'=>x=.slice none 0 0∧v=.int .i64 0∧hM.now w',fun _ _ _=>0,⟨rfl,rfl,hM⟩,?_⟩
 rintro x v u w5 ⟨rfl,rfl,hM⟩
 have hM:Mem _ _ _ _:=hM
 (((refine Br trivial ?_ ?_));(focus (first|assumption|omega|with_reducible rfl|exact fun h=>Bool.noConfusion h));((refine Al ?_)))
 refine⟨Rl.only fun b=>b=g8,?_⟩
 have hne4:¬g4=g8:=(hM.upB g4).neB
 have hne5:¬g5=g8:=(hM.upB g5).neB
 refine aPi hM hne4 ?_
 refine aPi hM hne5 ?_
 refine aUk hM ?_
 clear hM
 intro w8 hM
 (((refine Cb hM ?_;clear hM;intro _ hM;refine Ba hM ?_;clear hM;intro _ hM;refine Cd hM ?_;refine Cd hM ?_)))
 obtain⟨H4,l4,hM4,hs4,-⟩:=hM.fz1 A1
 exact hM4.out l4 ⟨A1,a1,B1,b1,rfl,hs4⟩
theorem bAd (t:T64) (h:H32) (d by_:Int) (lp lw lx:H32) (h1:Sl H 97 A [Lf.fds ⟨1,lp,lw,lx⟩]) (hf:Fz H w):
  Calls prog 74 #[tv A 1 a B 0 b,.agg (tiV t.1).toArray,.slice P n pc,ha h,.int .i64 d,.int .i64 by_,.slice none 0 0] w (Outp H w fun _ v=>v=.int .i64 0):=by
 have hright:=fun(w:World) (hf:Fz H w)=>Er (t:=⟨[⟨1,lp,lw,lx⟩],[]⟩) (qs:=[]) (A:=A) (B:=B) (a:=a) (b:=b) h1 (Sl.nil _ _ _) trivial (by simp[maxLen]) (by simp[maxLen]) hf
 rw[Gp]at hright
 have hM:=Mem.start hf
 refine aGn ?_
 unfold Tb
 (((refine Bb hM ?_;clear hM;intro _ _ hM;refine Bb hM ?_;clear hM;intro _ _ hM;refine Bb hM ?_;clear hM;intro _ _ hM;refine Ao hM ?_)))
 refine Bn hM (hright _ hM.fz) (fun w hM2=>?_)
 replace hM:=hM2
 clear hM2
 (((refine Ab trivial ?_;refine Al ?_;refine Ab trivial ?_;refine Br trivial ?_ ?_));(focus (first|assumption|omega|with_reducible rfl|exact fun h=>Bool.noConfusion h));((refine Al ?_)))
 refine bAc hM (fun gm w' hM2=>?_)
 replace hM:=hM2
 clear hM2
 (((refine Ab trivial ?_)))
 refine⟨fun v w'=>v=.int .i64 0∧hM.now w',fun _ _=>0,⟨rfl,hM⟩,?_⟩
 rintro v u w4 ⟨rfl,hM⟩
 have hM:Mem _ _ _ _:=hM
 (((refine Br trivial ?_ ?_));(focus (first|assumption|omega|with_reducible rfl|exact fun h=>Bool.noConfusion h));((refine Al ?_;refine Ao hM ?_;refine Ao hM ?_)))
 refine If hM (aFy t lp lw lx h1 hM.fz) ?_
 clear hM
 rintro H1 r w5 l1 hM ⟨A',a',B',b',rfl,-⟩
 ((((iterate 4 refine Ab trivial ?_);refine Bj hM ?_;clear hM;intro _ _ hM;refine Bj hM ?_;clear hM;intro _ _ hM;refine Bi hM ?_;clear hM;intro _ hM;refine Bi hM ?_;clear hM;intro _ hM)))
 exact hM.out l1 rfl
end
end Go.Proofs.YtgbenhmdamnmcaaGreat
namespace Go.Proofs.YtgbenhmdamnmcaaGreat
open Go.Proofs.Tryz
open Go.RowKit Go.Lib
def packB (t:Tr):List Int:=numB t.ls.length++t.ls.flatMap leafB++t.ps.flatMap parentB
section
variable {H:Hp} {w0 w:World} {L R:List Res} {A B C:Option Addr} {a b c n:Nat} {t:Tr} {v:Value}
theorem aIg {α:Type} {f:α→List Int} {l:List α} {k:Nat} (h:∀ x∈l,(f x).length≤k):(l.flatMap f).length≤l.length*k:=by
 induction l with
 | nil=>simp
 | cons x r ih=>
   have h1:=h x (List.mem_cons_self ..)
   have h2:=ih fun y hy=>h y (List.mem_cons_of_mem _ hy)
   simp only[List.flatMap_cons,List.length_append,List.length_cons,Nat.succ_mul]
   omega
theorem aQm {α:Type} {f:α→List Int} {l:List α} {i:Nat} (h:i<l.length):(l.take (i+1)).flatMap f=(l.take i).flatMap f++f l[i]:=by
 rw[List.take_succ_eq_append_getElem h,List.flatMap_append]
 simp
theorem Tr.Rt.gd2 (h:t.Rt):(∀ l∈t.ls,0≤l.name∧l.name≤64)∧∀ p∈t.ps,p.loose.length≤64∧∀ q∈p.loose,0≤q∧q≤64:=by
 by_cases hn:t.ls=[]
 ·have hl:=h.len
  have e:t.ps=[]:=List.eq_nil_of_length_eq_zero (by rw[hl.2,hn];rfl)
  rw[hn,e]
  exact⟨fun _ h=>(by cases h),fun _ h=>(by cases h)⟩
 ·exact⟨(h.gd hn).nm,(h.gd hn).lo⟩
theorem bCz (hR:t.Rt) (h:TrF H v t) (hf:Fz H w):Calls prog 87 #[v] w fun en w'=>en=.returned (.string (strOfNums (packB t)))∧St w [] w':=by
 obtain⟨A,a,B,b,q,hv,h1,h2,h3⟩:=h.ex
 rw[hv]at h ⊢
 obtain⟨w1,hw1⟩:∃ w1,w1=w:=⟨_,rfl⟩
 rw[← hw1]
 rw[← hw1]at hf
 have hlen:=hR.len
 obtain⟨gn,gl⟩:=hR.gd2
 have hM:=Mem.start hf
 refine aJp ?_
 unfold Xr
 (((refine Bb hM ?_;clear hM;intro _ _ hM;refine Ao hM ?_)))
 rename_i g1 _
 refine Bn hM (aId h hM.fz) (fun w hM=>?_)
 rw[Tr.rt.2 hR]
 (((refine Ab trivial ?_;refine Al ?_)))
 refine Be (Ig hM) ?_
 rintro v w2 ⟨gw,rfl,hM⟩
 (((refine Ab trivial ?_;refine Ao hM ?_;refine Ab trivial ?_)))
 refine Be (Cu (t.ls.length:Int) (by omega) (by simp) hM) ?_
 rintro v w3 ⟨rfl,hM⟩
 rw[List.nil_append]at hM
 have hnb:=Az (t.ls.length:Int)
 (((refine Ab trivial ?_;refine Ao hM ?_;refine Ab trivial ?_)))
 refine⟨fun v w'=>∃ i:Nat,v=.int .i64 i∧i≤t.ls.length∧Mem H w1 [wrR gw (numB t.ls.length++(t.ls.take i).flatMap leafB) false,fb g1 58 (tfd A t.ls.length a B t.ps.length b)] w',fun v _=>match v with | .int _ k=>t.ls.length - k.toNat|_=>0,⟨0,rfl,by omega,by simpa using hM⟩,?_⟩
 clear hM
 rintro v u w4 ⟨i,rfl,hi,hM⟩
 (((refine Av trivial ?_ ?_)))
 ·intro hlt
  have hlt':i<t.ls.length:=by omega
  have hfl:=aIg (l:=t.ls.take i) (f:=leafB) (k:=105) fun l _=>Qb l
  rw[List.length_take]at hfl
  (((refine Am ?_));(refine Ca ‹_› ?_ ?_ ?_);(focus (simp only[List.length_map];omega));(focus (simp only[List.length_map];first|done|omega));((intro _ _ hA));(cases hA);(refine Bt hM ‹_› (Bs ?_) ?_);(focus omega);((refine Bj hM ?_;clear hM;intro _ _ hM;refine Bi hM ?_;clear hM;intro _ hM;refine Ao hM ?_)))
  have hM:Mem H w1 (wrR gw (numB t.ls.length++(t.ls.take i).flatMap leafB) false::_) _:=hM.perm (List.Perm.swap _ _ _)
  refine Be (Uh t.ls[i] (gn _ (List.getElem_mem hlt')) (by rw[List.length_append];omega) hM) ?_
  rintro v w5 ⟨rfl,hM⟩
  rw[List.append_assoc,← aQm hlt']at hM
  (((refine Ab ?_ ?_));(focus omega))
  exact⟨⟨i+1,rfl,by omega,hM.sub⟩,by simp only;omega⟩
 intro hge
 obtain rfl:i=t.ls.length:=by omega
 rw[List.take_length]at hM
 have hfl:=aIg (l:=t.ls) (f:=leafB) (k:=105) fun l _=>Qb l
 (((refine Al ?_;refine Ab trivial ?_;refine Ao hM ?_;refine Ab trivial ?_)))
 refine⟨fun v w'=>∃ i:Nat,v=.int .i64 i∧i≤t.ps.length∧Mem H w1 [wrR gw (numB t.ls.length++t.ls.flatMap leafB++(t.ps.take i).flatMap parentB) false,fb g1 58 (tfd A t.ls.length a B t.ps.length b)] w',fun v _=>match v with | .int _ k=>t.ps.length - k.toNat|_=>0,⟨0,rfl,by omega,by simpa using hM⟩,?_⟩
 clear hM
 rintro v u w6 ⟨i,rfl,hi,hM⟩
 (((refine Av trivial ?_ ?_)))
 ·intro hlt
  have hlt':i<t.ps.length:=by omega
  obtain⟨q',hq1,C,c,rfl,hC,hcl⟩:=h3.at_ (i:=i) hlt'
  have hlo:=gl _ (List.getElem_mem hlt')
  have hfp:=aIg (l:=t.ps.take i) (f:=parentB) (k:=600) fun p hp=>Yg (gl p (List.mem_of_mem_take hp)).1
  rw[List.length_take]at hfp
  have hql:q.length=t.ps.length:=h3.len
  (((refine Am ?_)))
  refine Ca h2 (by omega) hql.symm (fun bb oo hB=>?_)
  cases hB
  refine Bt hM h2 hq1 ?_
  (((refine Bj hM ?_;clear hM;intro _ _ hM;refine Bi hM ?_;clear hM;intro _ hM;refine Ao hM ?_)))
  have hM:Mem H w1 (wrR gw (numB t.ls.length++t.ls.flatMap leafB++(t.ps.take i).flatMap parentB) false::_) _:=hM.perm (List.Perm.swap _ _ _)
  refine Be (Pl t.ps[i] hC hlo (by rw[List.length_append,List.length_append];omega) hM) ?_
  rintro v w7 ⟨rfl,hM⟩
  rw[List.append_assoc,← aQm hlt']at hM
  (((refine Ab ?_ ?_));(focus omega))
  exact⟨⟨i+1,rfl,by omega,hM.sub⟩,by simp only;omega⟩
 intro hge2
 obtain rfl:i=t.ps.length:=by omega
 rw[List.take_length]at hM
 (((refine Al ?_)))
 refine Bn hM (Ih hM) (fun w hM=>?_)
 (((refine Ab trivial ?_;refine Ab trivial ?_)))
 exact⟨rfl,hM.st⟩
end
end Go.Proofs.YtgbenhmdamnmcaaGreat
namespace Go.Proofs.YtgbenhmdamnmcaaGreat.Cmt
open Go.Proofs.Tryz
open Go.RowKit Go.Proofs.YtgbenhmdamnmcaaGreat.Chg
section
variable {H:Hp} {w0 w:World} {L R:List Res} {A:Option Addr} {a:Nat}
def ixF {α:Type} (f:α→Bool) (xs:List α):Int:=match xs.findIdx? f with|some i=>i|none => -1
theorem aOt {α:Type} {f:α→Bool} {xs:List α} {i:Nat} (h:i<xs.length) (hlo:∀ j (hj:j<xs.length),j<i→f xs[j]=false) (hi:f xs[i]=true):ixF f xs=i:=by
 unfold ixF
 have:xs.findIdx? f=some i:=by
  rw[List.findIdx?_eq_some_iff_getElem]
  exact⟨h,hi,fun j hj=>by simp[hlo j (by omega) hj]⟩
 rw[this]
theorem aDa {α:Type} {f:α→Bool} {xs:List α} (hlo:∀ j (hj:j<xs.length),f xs[j]=false):ixF f xs = -1:=by
 unfold ixF
 have:xs.findIdx? f=none:=by
  rw[List.findIdx?_eq_none_iff]
  intro x hx
  obtain⟨j,hj,rfl⟩:=List.getElem_of_mem hx
  exact hlo j hj
 rw[this]
theorem aIh {α:Type} (f:α→Bool) (xs:List α):decide (ixF f xs≥0)=xs.any f:=by
 unfold ixF
 cases h:xs.findIdx? f with
 | none=>
   rw[List.findIdx?_eq_none_iff]at h
   rw[decide_eq_false (by decide)]
   rw[eq_comm,List.any_eq_false]
   intro x hx
   simp[h x hx]
 | some i=>
   rw[List.findIdx?_eq_some_iff_getElem]at h
   obtain⟨h1,h2,_⟩:=h
   rw[decide_eq_true (by simp)]
   rw[eq_comm,List.any_eq_true]
   exact⟨_,List.getElem_mem h1,h2⟩
theorem bAe {r:Res} {cl:Value} {f:ByteArray→Bool} (xs:List ByteArray) (hl:xs.length≤maxLen) (hc:Clo prog H w0 r cl (fun s:ByteArray=>Value.string s) f) (hs:Sl H 1 A (xs.map sfd)) (hM:Mem H w0 (r::R) w):
  Calls prog 97 #[.slice A xs.length a,cl] w fun en w'=>∃ v,en=.returned v∧v=.int .i64 (ixF f xs)∧Mem H w0 (r::R) w':=by
 refine Hb ?_
 unfold Ea
 have hl':xs.length≤9223372036854775807:=hl
 (((refine Ab trivial ?_)))
 refine⟨fun v w'=>∃ i:Nat,v=.int .i64 i∧i≤xs.length∧(∀ j (hj:j<xs.length),j<i→f xs[j]=false)∧Mem H w0 (r::R) w',fun v _=>match v with | .int _ k=>xs.length - k.toNat|_=>0,⟨0,rfl,by omega,fun j _ h=>by omega,hM⟩,?_⟩
 rintro v u w3 ⟨i,rfl,hi,hlo,hM⟩
 (((refine Av trivial ?_ ?_)))
 ·intro hlt
  have hlt':i<xs.length:=by omega
  (((refine Am ?_));(refine Ca ‹_› ?_ ?_ ?_);(focus (simp only[List.length_map];omega));(focus (simp only[List.length_map];first|done|omega));((intro _ _ hA));(cases hA);(refine Bt hM ‹_› (Bs ?_) ?_);(focus omega))
  refine hc _ _ _ _ _ hM (fun w hM=>?_)
  cases hfi:f xs[i]
  ·(((refine Al ?_;refine Ab ?_ ?_));(focus omega))
   refine⟨⟨i+1,rfl,by omega,fun j hj hji=>?_,hM⟩,by simp only;omega⟩
   rcases Nat.lt_or_ge j i with h2|h2
   ·exact hlo j hj h2
   ·obtain rfl:j=i:=by omega
    exact hfi
  ·(((refine Am ?_)))
   exact⟨_,rfl,by rw[aOt hlt' hlo hfi],hM⟩
 ·intro hge
  (((refine Al ?_)))
  exact⟨_,rfl,by rw[aDa fun j hj=>hlo j hj (by omega)],hM⟩
theorem bAf {r:Res} {cl:Value} {f:ByteArray→Bool} (xs:List ByteArray) (hl:xs.length≤maxLen) (hc:Clo prog H w0 r cl (fun s:ByteArray=>Value.string s) f) (hs:Sl H 1 A (xs.map sfd)) (hM:Mem H w0 (r::R) w):
  Calls prog 28 #[.slice A xs.length a,cl] w fun en w'=>∃ v,en=.returned v∧v=.bool (xs.any f)∧Mem H w0 (r::R) w':=by
 refine Gc ?_
 unfold Dl
 refine Be (bAe xs hl hc hs hM) ?_
 rintro v w2 ⟨rfl,hM⟩
 refine Ab trivial ?_
 exact⟨_,rfl,by rw[← aIh],hM⟩
theorem bAg {r:Res} {cl:Value} {f:Prp→Bool} (xs:List Prp) (hl:xs.length≤maxLen) (hc:Clo prog H w0 r cl Chg.prv f) (hs:Sl H 101 A (xs.map Prp.fds)) (hM:Mem H w0 (r::R) w):
  Calls prog 98 #[.slice A xs.length a,cl] w fun en w'=>∃ v,en=.returned v∧v=.int .i64 (ixF f xs)∧Mem H w0 (r::R) w':=by
 refine Em ?_
 unfold Cp
 have hl':xs.length≤9223372036854775807:=hl
 (((refine Ab trivial ?_)))
 refine⟨fun v w'=>∃ i:Nat,v=.int .i64 i∧i≤xs.length∧(∀ j (hj:j<xs.length),j<i→f xs[j]=false)∧Mem H w0 (r::R) w',fun v _=>match v with | .int _ k=>xs.length - k.toNat|_=>0,⟨0,rfl,by omega,fun j _ h=>by omega,hM⟩,?_⟩
 rintro v u w3 ⟨i,rfl,hi,hlo,hM⟩
 (((refine Av trivial ?_ ?_)))
 ·intro hlt
  have hlt':i<xs.length:=by omega
  (((refine Am ?_));(refine Ca ‹_› ?_ ?_ ?_);(focus (simp only[List.length_map];omega));(focus (simp only[List.length_map];first|done|omega));((intro _ _ hA));(cases hA);(refine Bt hM ‹_› (Bs ?_) ?_);(focus omega))
  refine hc _ _ _ _ _ hM (fun w hM=>?_)
  cases hfi:f xs[i]
  ·(((refine Al ?_;refine Ab ?_ ?_));(focus omega))
   refine⟨⟨i+1,rfl,by omega,fun j hj hji=>?_,hM⟩,by simp only;omega⟩
   rcases Nat.lt_or_ge j i with h2|h2
   ·exact hlo j hj h2
   ·obtain rfl:j=i:=by omega
    exact hfi
  ·(((refine Am ?_)))
   exact⟨_,rfl,by rw[aOt hlt' hlo hfi],hM⟩
 ·intro hge
  (((refine Al ?_)))
  exact⟨_,rfl,by rw[aDa fun j hj=>hlo j hj (by omega)],hM⟩
theorem bAh {r:Res} {cl:Value} {f:Prp→Bool} (xs:List Prp) (hl:xs.length≤maxLen) (hc:Clo prog H w0 r cl Chg.prv f) (hs:Sl H 101 A (xs.map Prp.fds)) (hM:Mem H w0 (r::R) w):
  Calls prog 29 #[.slice A xs.length a,cl] w fun en w'=>∃ v,en=.returned v∧v=.bool (xs.any f)∧Mem H w0 (r::R) w':=by
 refine Dz ?_
 unfold Cj
 refine Be (bAg xs hl hc hs hM) ?_
 rintro v w2 ⟨rfl,hM⟩
 refine Ab trivial ?_
 exact⟨_,rfl,by rw[← aIh],hM⟩
theorem bAi {r:Res} {cl:Value} {f:Wl→Bool} (xs:List Wl) (hl:xs.length≤maxLen) (hc:Clo prog H w0 r cl wv f) (hs:Sl H 3 A (xs.map Wl.fds)) (hM:Mem H w0 (r::R) w):
  Calls prog 100 #[.slice A xs.length a,cl] w fun en w'=>∃ v,en=.returned v∧v=.int .i64 (ixF f xs)∧Mem H w0 (r::R) w':=by
 refine Ev ?_
 unfold Cs
 have hl':xs.length≤9223372036854775807:=hl
 (((refine Ab trivial ?_)))
 refine⟨fun v w'=>∃ i:Nat,v=.int .i64 i∧i≤xs.length∧(∀ j (hj:j<xs.length),j<i→f xs[j]=false)∧Mem H w0 (r::R) w',fun v _=>match v with | .int _ k=>xs.length - k.toNat|_=>0,⟨0,rfl,by omega,fun j _ h=>by omega,hM⟩,?_⟩
 rintro v u w3 ⟨i,rfl,hi,hlo,hM⟩
 (((refine Av trivial ?_ ?_)))
 ·intro hlt
  have hlt':i<xs.length:=by omega
  (((refine Am ?_));(refine Ca ‹_› ?_ ?_ ?_);(focus (simp only[List.length_map];omega));(focus (simp only[List.length_map];first|done|omega));((intro _ _ hA));(cases hA);(refine Bt hM ‹_› (Bs ?_) ?_);(focus omega))
  refine hc _ _ _ _ _ hM (fun w hM=>?_)
  cases hfi:f xs[i]
  ·(((refine Al ?_;refine Ab ?_ ?_));(focus omega))
   refine⟨⟨i+1,rfl,by omega,fun j hj hji=>?_,hM⟩,by simp only;omega⟩
   rcases Nat.lt_or_ge j i with h2|h2
   ·exact hlo j hj h2
   ·obtain rfl:j=i:=by omega
    exact hfi
  ·(((refine Am ?_)))
   exact⟨_,rfl,by rw[aOt hlt' hlo hfi],hM⟩
 ·intro hge
  (((refine Al ?_)))
  exact⟨_,rfl,by rw[aDa fun j hj=>hlo j hj (by omega)],hM⟩
theorem bAj {r:Res} {cl:Value} {f:Wl→Bool} (xs:List Wl) (hl:xs.length≤maxLen) (hc:Clo prog H w0 r cl wv f) (hs:Sl H 3 A (xs.map Wl.fds)) (hM:Mem H w0 (r::R) w):
  Calls prog 32 #[.slice A xs.length a,cl] w fun en w'=>∃ v,en=.returned v∧v=.bool (xs.any f)∧Mem H w0 (r::R) w':=by
 refine Eh ?_
 unfold Cl
 refine Be (bAi xs hl hc hs hM) ?_
 rintro v w2 ⟨rfl,hM⟩
 refine Ab trivial ?_
 exact⟨_,rfl,by rw[← aIh],hM⟩
end
end Go.Proofs.YtgbenhmdamnmcaaGreat.Cmt
namespace Go.Proofs.YtgbenhmdamnmcaaGreat.Cmt
open Go.Proofs.Tryz
open Go.RowKit Go.Proofs.YtgbenhmdamnmcaaGreat.Chg
section
variable {H:Hp} {w0 w:World} {L R:List Res} {P Q W:Option Addr} {pc qc wc g:Nat} {qs:List (List Fd)} {c:Cm}
theorem aCg (n:Int) (w:World):Calls prog 25 #[.int .i64 n] w fun en w'=>en=.returned (.bool (decide (1≤n∧n≤64)))∧St w [] w':=by
 have hM:=Mem.start (Fz.of w)
 refine aAo ?_
 unfold On
 (((refine Av trivial ?_ ?_)))
 ·intro h
  (((refine Ae ?_;refine Ab trivial ?_;refine Ae ?_)))
  (((refine Av trivial ?_ ?_))) <;>
  ·intro h2
   (((refine Ab trivial ?_)))
   exact⟨by simp;omega,hM.st⟩
 ·intro h
  (((refine Bq ?_;refine Bq ?_;refine Ab trivial ?_)))
  exact⟨by simp;omega,hM.st⟩
instance (n:Int):PurC prog 25 [.int .i64 n] True (.bool (decide (1≤n∧n≤64))):=⟨fun _ w=>aCg n w⟩
instance (n:Nat):One (fv n):=⟨rfl⟩
instance:FunC prog 26:=⟨by kernel_rfl⟩
instance:FunC prog 30:=⟨by kernel_rfl⟩
theorem aQn (s:ByteArray) (w:World):Calls prog 26 #[.string s] w fun en w'=>en=.returned (.bool (longS s))∧St w [] w':=by
 have hM:=Mem.start (Fz.of w)
 refine Ve ?_
 unfold Lr
 (((refine Ab trivial ?_)))
 (((refine Av trivial ?_ ?_)))
 all_goals
  intro h
  skip
  exact⟨by unfold longS;simp;omega,hM.st⟩
instance (s:ByteArray):PurC prog 26 [.string s] True (.bool (longS s)):=⟨fun _ w=>aQn s w⟩
theorem aWz (r:Res):Clo prog H w0 r (fv 26) (fun s:ByteArray=>Value.string s) longS:=fun y R w K X hM hk=>
 Bn hM (aQn y _) hk
theorem aOp (p:Prp) (w:World):Calls prog 30 #[Chg.prv p] w fun en w'=>en=.returned (.bool (!decide p.right))∧St w [] w':=by
 have hM:=Mem.start (Fz.of w)
 refine Vj ?_
 unfold Lt
 (((refine Bb hM ?_;clear hM;intro _ _ hM;refine Ao hM ?_;refine Bg hM ?_ ?_));(focus (first|exact trivial|assumption|omega));((clear hM;intro _ hM;refine Ab trivial ?_)))
 exact⟨rfl,hM.st⟩
theorem bAk (r:Res):Clo prog H w0 r (fv 30) Chg.prv (fun p:Prp=>!decide p.right):=fun y R w K X hM hk=>
 Bn hM (aOp y _) hk
abbrev lgR (g:Nat):Res:=fb g 40 [.one (fv 26)]
theorem bDa (x:Wl) (hM:Mem H w0 (lgR g::R) w):Calls prog 27 #[wv x,.pointer (some ⟨g,0,none⟩)] w fun en w'=>∃ v,en=.returned v∧v=.bool x.odd∧Mem H w0 (lgR g::R) w':=by
 refine Vh ?_
 unfold Ls
 (((refine Bb hM ?_;clear hM;intro _ _ hM;refine Ab trivial ?_;refine Ao hM ?_;refine Bg hM ?_ ?_));(focus (first|exact trivial|assumption|omega));((clear hM;intro _ hM;refine Ab trivial ?_)))
 unfold Wl.odd
 by_cases h:1≤x.name∧x.name≤64
 ·rw[decide_eq_true h]
  try simp only[Bool.not_true]
  (((refine Ae ?_;refine Ab trivial ?_;refine Ae ?_;refine Ao hM ?_;refine Ae ?_)))
  (((refine Av trivial ?_ ?_)))
  ·intro h1
   (((refine Ab trivial ?_;(iterate 3 refine Ar ?_);refine Ab trivial ?_;(iterate 4 refine Ar ?_);refine Ab trivial ?_)))
   exact⟨_,rfl,by rw[decide_eq_true h1];rfl,hM.sub⟩
  ·intro h1
   (((refine Ab trivial ?_;refine Ae ?_;refine Ab trivial ?_;refine Ae ?_;refine Ao hM ?_;refine Ae ?_)))
   (((refine Av trivial ?_ ?_)))
   ·intro h2
    (((refine Ab trivial ?_;(iterate 4 refine Ar ?_);refine Ab trivial ?_)))
    exact⟨_,rfl,by rw[decide_eq_true (show 4611686018427387903<x.card by omega)];simp,hM.sub⟩
   ·intro h2
    (((refine Ab trivial ?_;refine Ae ?_;refine Ao hM ?_;refine Ae ?_;refine Ab trivial ?_;refine Ae ?_;refine Ao hM ?_;refine Ae ?_;refine Bg hM ?_ ?_));(focus (first|exact trivial|assumption|omega));((clear hM;intro _ hM;refine Ab trivial ?_)))
    exact⟨_,rfl,by rw[decide_eq_false h1,decide_eq_false (show ¬4611686018427387903<x.card by omega)];simp,hM.sub⟩
 ·rw[decide_eq_false h]
  try simp only[Bool.not_false]
  ((((iterate 3 refine Ar ?_);refine Ab trivial ?_;(iterate 3 refine Ar ?_);refine Ab trivial ?_;(iterate 4 refine Ar ?_);refine Ab trivial ?_)))
  exact⟨_,rfl,rfl,hM.sub⟩
theorem bAl (g:Nat):Clo prog H w0 (lgR g) (.func (.func 27) #[] #[.pointer (some ⟨g,0,none⟩)]) wv Wl.odd:=fun y R w K X hM hk=>
 Ex (bDa y hM) (by rintro e w' ⟨v,rfl,rfl,h⟩;exact hk w' h)
theorem Er (hc:CmF H P Q W qs c) (hf:Fz H w):Calls prog 9 #[cv P pc Q qc W wc c] w fun en w'=>en=.returned (.bool c.right)∧St w [] w':=by
 have hM:=Mem.start hf
 obtain⟨h1,h2,h3,h4,hl1,hl2,hl3,hl4⟩:=hc
 have hl1':c.props.length≤9223372036854775807:=hl1
 have hl2':c.path.length≤9223372036854775807:=hl2
 have hl3':c.wels.length≤9223372036854775807:=hl3
 have hl4':c.info.size≤9223372036854775807:=hl4
 have hq:qs.length=c.path.length:=h3.len
 refine aAi ?_
 unfold Oj
 (((refine Bb hM ?_;clear hM;intro _ _ hM)))
 rename_i g1 _
 refine⟨fun v w'=>v=.bool (!decide c.fits)∧hM.now w',?_,?_⟩
 ·(((refine Ab trivial ?_;refine Ao hM ?_)))
  (((refine Av trivial ?_ ?_)))
  ·intro k1
   ((((iterate 3 refine Ar ?_);refine Ab trivial ?_;(iterate 4 refine Ar ?_);refine Ab trivial ?_;(iterate 4 refine Ar ?_);refine Ab trivial ?_;(iterate 4 refine Ar ?_);refine Ab trivial ?_;(iterate 4 refine Ar ?_);refine Ab trivial ?_;(iterate 4 refine Ar ?_);refine Ab trivial ?_)))
   exact⟨by rw[decide_eq_false (fun h=>by unfold Cm.fits at h;omega)];rfl,hM⟩
  ·intro k1
   (((refine Ae ?_;refine Ab trivial ?_;refine Ae ?_;refine Ao hM ?_;refine Ae ?_)))
   (((refine Av trivial ?_ ?_)))
   ·intro k2
    (((refine Ab trivial ?_;(iterate 4 refine Ar ?_);refine Ab trivial ?_;(iterate 4 refine Ar ?_);refine Ab trivial ?_;(iterate 4 refine Ar ?_);refine Ab trivial ?_;(iterate 4 refine Ar ?_);refine Ab trivial ?_;(iterate 4 refine Ar ?_);refine Ab trivial ?_)))
    exact⟨by rw[decide_eq_false (fun h=>by unfold Cm.fits at h;omega)];rfl,hM⟩
   ·intro k2
    (((refine Ab trivial ?_;refine Ae ?_;refine Ab trivial ?_;refine Ae ?_;refine Ao hM ?_;refine Ae ?_;refine Bg hM ?_ (fun _ hM2=>?_)));(focus (first|exact trivial|assumption|omega));((replace hM:=hM2;clear hM2;refine Ae ?_;refine Ab trivial ?_;refine Ab trivial ?_)))
    by_cases k3:1≤c.author∧c.author≤64
    case neg=>
     rw[decide_eq_false k3]
     simp only[Bool.not_false]
     ((((iterate 4 refine Ar ?_);refine Ab trivial ?_;(iterate 4 refine Ar ?_);refine Ab trivial ?_;(iterate 4 refine Ar ?_);refine Ab trivial ?_;(iterate 4 refine Ar ?_);refine Ab trivial ?_)))
     exact⟨by rw[decide_eq_false (fun h=>by unfold Cm.fits at h;omega)];rfl,hM⟩
    rw[decide_eq_true k3]
    simp only[Bool.not_true]
    (((refine Ae ?_;refine Ab trivial ?_;refine Ae ?_;refine Ao hM ?_;refine Ae ?_;refine Ab trivial ?_;refine Ae ?_)))
    (((refine Av trivial ?_ ?_)))
    ·intro k4
     (((refine Ab trivial ?_;(iterate 4 refine Ar ?_);refine Ab trivial ?_;(iterate 4 refine Ar ?_);refine Ab trivial ?_;(iterate 4 refine Ar ?_);refine Ab trivial ?_)))
     exact⟨by rw[decide_eq_false (fun h=>by unfold Cm.fits at h;omega)];rfl,hM⟩
    ·intro k4
     (((refine Ab trivial ?_;refine Ae ?_;refine Ab trivial ?_;refine Ae ?_;refine Ao hM ?_;refine Ae ?_;refine Ab trivial ?_;refine Ae ?_)))
     (((refine Av trivial ?_ ?_)))
     ·intro k5
      (((refine Ab trivial ?_;(iterate 4 refine Ar ?_);refine Ab trivial ?_;(iterate 4 refine Ar ?_);refine Ab trivial ?_)))
      exact⟨by rw[decide_eq_false (fun h=>by unfold Cm.fits at h;omega)];rfl,hM⟩
     ·intro k5
      (((refine Ab trivial ?_;refine Ae ?_;refine Ab trivial ?_;refine Ae ?_;refine Ao hM ?_;refine Ae ?_;refine Ab trivial ?_;refine Ae ?_)))
      (((refine Av trivial ?_ ?_)))
      ·intro k6
       (((refine Ab trivial ?_;(iterate 4 refine Ar ?_);refine Ab trivial ?_)))
       exact⟨by rw[decide_eq_false (fun h=>by unfold Cm.fits at h;omega)];rfl,hM⟩
      ·intro k6
       (((refine Ab trivial ?_;refine Ae ?_;refine Ab trivial ?_;refine Ae ?_;refine Ao hM ?_;refine Ae ?_;refine Ab trivial ?_;refine Ae ?_)))
       (((refine Av trivial ?_ ?_)))
       ·intro k7
        (((refine Ab trivial ?_)))
        exact⟨by rw[decide_eq_false (fun h=>by unfold Cm.fits at h;omega)];rfl,hM⟩
       ·intro k7
        (((refine Ab trivial ?_)))
        exact⟨by rw[decide_eq_true (show c.fits by unfold Cm.fits;omega)];rfl,hM⟩
 rintro v u w2 ⟨rfl,hM⟩
 by_cases hfit:c.fits
 case neg=>
  rw[decide_eq_false hfit]
  try simp only[Bool.not_false]
  (((refine Am ?_)))
  exact⟨by unfold Cm.right;rw[decide_eq_false hfit];rfl,hM.st⟩
 rw[decide_eq_true hfit]
 try simp only[Bool.not_true]
 (((refine Al ?_;refine Bj hM ?_;clear hM;intro _ _ hM;refine Bi hM ?_;clear hM;intro _ hM;refine Ab trivial ?_;refine Ab trivial ?_;refine Ao hM ?_;refine Ab trivial ?_)))
 rename_i g2 _ _
 refine⟨fun v w'=>∃ i:Nat,v=.int .i64 i∧i≤c.path.length∧(c.path.take i).any Rn.odd=false∧Mem H w [lgR g2,fb g1 28 (cfd P pc Q qc W wc c)] w',fun v _=>match v with | .int _ k=>c.path.length - k.toNat|_=>0,⟨0,rfl,by omega,rfl,hM.sub⟩,?_⟩
 clear hM
 rintro v u6 w3 ⟨i,rfl,hi,hno,hM⟩
 (((refine Av trivial ?_ ?_)))
 ·intro hlt
  have hlt':i<c.path.length:=by omega
  obtain⟨q,hqi,C,cc,rfl,hC,hCl⟩:=h3.at_ hlt'
  have hCl':c.path[i].wraps.length≤9223372036854775807:=hCl
  (((refine Am ?_)))
  refine Ca h2 (by omega) hq.symm (fun bb oo hB=>?_)
  cases hB
  refine Bt hM h2 hqi ?_
  (((refine Bj hM ?_;clear hM;intro _ _ hM;refine Bi hM ?_;clear hM;intro _ hM)))
  rename_i g3 _ _
  refine⟨fun v w'=>v=.bool c.path[i].odd∧Mem H w [lgR g2,fb g1 28 (cfd P pc (some ⟨bb,oo,none⟩) qc W wc c)] w',?_,?_⟩
  ·(((refine Ab trivial ?_;refine Ao hM ?_;refine Ab trivial ?_)))
   (((refine Av trivial ?_ ?_)))
   ·intro k
    ((((iterate 4 refine Ar ?_);refine Ab trivial ?_)))
    exact⟨by unfold Rn.odd;rw[decide_eq_true (show 64<c.path[i].wraps.length by omega)];rfl,hM.sub⟩
   ·intro k
    (((refine Ae ?_;refine Ab trivial ?_;refine Ae ?_;refine Ao hM ?_;refine Ae ?_;refine Ao hM ?_;refine Ae ?_)))
    refine Be (bAf c.path[i].wraps hCl (aWz _) hC (hM.at_ (lgR g2))) ?_
    rintro v w4 ⟨rfl,hM⟩
    (((refine Ab trivial ?_)))
    exact⟨by unfold Rn.odd;rw[decide_eq_false (show ¬64<c.path[i].wraps.length by omega)];rfl,hM.sub⟩
  clear hM
  rintro v u9 w4 ⟨rfl,hM⟩
  have htk:(c.path.take (i+1)).any Rn.odd=((c.path.take i).any Rn.odd||c.path[i].odd):=by
   rw[List.take_succ_eq_append_getElem hlt',List.any_append]
   simp
  cases ho:c.path[i].odd
  ·(((refine Al ?_;refine Ab ?_ ?_));(focus omega))
   exact⟨⟨i+1,rfl,by omega,by rw[htk,hno,ho];rfl,hM⟩,by simp only;omega⟩
  ·(((refine Am ?_)))
   refine⟨?_,hM.st⟩
   have:c.path.any Rn.odd=true:=List.any_eq_true.2 ⟨_,List.getElem_mem hlt',ho⟩
   unfold Cm.right
   rw[decide_eq_true hfit,this]
   rfl
 ·intro hge
  obtain rfl:i=c.path.length:=by omega
  rw[List.take_length]at hno
  (((refine Al ?_;refine Ab trivial ?_;refine Ao hM ?_)))
  refine Be (bAh c.props hl1 (bAk _) h1 (hM.at_ (lgR g2))) ?_
  rintro v w4 ⟨rfl,hM⟩
  unfold Cm.right
  rw[decide_eq_true hfit,hno]
  cases hp:c.props.any (fun p=>!decide p.right)
  ·(((refine Ab trivial ?_;refine Ae ?_;refine Ab trivial ?_;refine Ae ?_;refine Ao hM ?_;refine Ae ?_;refine Ab trivial ?_;refine Ae ?_)))
   refine Be (bAj c.wels hl3 (bAl _) h4 (hM.at_ (lgR g2))) ?_
   rintro v w5 ⟨rfl,hM⟩
   (((refine Ae ?_;refine Ab trivial ?_;refine Ab trivial ?_)))
   exact⟨rfl,hM.st⟩
  ·(((refine Ab trivial ?_;(iterate 5 refine Bq ?_);refine Ab trivial ?_)))
   exact⟨rfl,hM.st⟩
end
end Go.Proofs.YtgbenhmdamnmcaaGreat.Cmt
namespace Go.Proofs.YtgbenhmdamnmcaaGreat.Cmt
open Go.Proofs.Tryz
open Go.RowKit Go.Proofs.YtgbenhmdamnmcaaGreat.Chg
section
variable {H:Hp} {w0 w:World} {L R:List Res} {P Q W:Option Addr} {pc qc wc g:Nat} {qs:List (List Fd)} {c:Cm}
theorem Uk {α:Type} {f:α→Bool} {xs:List α} {i:Nat} (h:i<xs.length):(xs.take (i+1)).any f=((xs.take i).any f||f xs[i]):=by
 rw[List.take_succ_eq_append_getElem h,List.any_append]
 simp
theorem aIi {α:Type} {f:α→Bool} {xs:List α} {i:Nat} (h:i<xs.length) (hf:f xs[i]=true):xs.any f=true:=List.any_eq_true.2 ⟨_,List.getElem_mem h,hf⟩
theorem Wz (hc:CmF H P Q W qs c) (hf:Fz H w):Calls prog 10 #[cv P pc Q qc W wc c] w fun en w'=>en=.returned (.bool c.right)∧St w [] w':=by
 have hM:=Mem.start hf
 obtain⟨h1,h2,h3,h4,hl1,hl2,hl3,hl4⟩:=hc
 have hl1':c.props.length≤9223372036854775807:=hl1
 have hl2':c.path.length≤9223372036854775807:=hl2
 have hl3':c.wels.length≤9223372036854775807:=hl3
 have hl4':c.info.size≤9223372036854775807:=hl4
 have hq:qs.length=c.path.length:=h3.len
 refine Sw ?_
 unfold Kj
 (((refine Bb hM ?_;clear hM;intro _ _ hM)))
 rename_i g1 _
 refine⟨fun v w'=>v=.bool (!decide c.fits)∧hM.now w',?_,?_⟩
 ·(((refine Ab trivial ?_;refine Ao hM ?_)))
  (((refine Av trivial ?_ ?_)))
  ·intro k1
   ((((iterate 3 refine Ar ?_);refine Ab trivial ?_;(iterate 3 refine Ar ?_);refine Ab trivial ?_;(iterate 3 refine Ar ?_);refine Ab trivial ?_;(iterate 4 refine Ar ?_);refine Ab trivial ?_;(iterate 4 refine Ar ?_);refine Ab trivial ?_;(iterate 4 refine Ar ?_);refine Ab trivial ?_;(iterate 4 refine Ar ?_);refine Ab trivial ?_)))
   exact⟨by rw[decide_eq_false (fun h=>by unfold Cm.fits at h;omega)];rfl,hM⟩
  ·intro k1
   (((refine Ae ?_;refine Ab trivial ?_;refine Ae ?_;refine Ao hM ?_;refine Ae ?_)))
   (((refine Av trivial ?_ ?_)))
   ·intro k2
    (((refine Ab trivial ?_;(iterate 3 refine Ar ?_);refine Ab trivial ?_;(iterate 3 refine Ar ?_);refine Ab trivial ?_;(iterate 4 refine Ar ?_);refine Ab trivial ?_;(iterate 4 refine Ar ?_);refine Ab trivial ?_;(iterate 4 refine Ar ?_);refine Ab trivial ?_;(iterate 4 refine Ar ?_);refine Ab trivial ?_)))
    exact⟨by rw[decide_eq_false (fun h=>by unfold Cm.fits at h;omega)];rfl,hM⟩
   ·intro k2
    (((refine Ab trivial ?_;refine Ae ?_;refine Ab trivial ?_;refine Ae ?_;refine Ao hM ?_;refine Ae ?_)))
    (((refine Av trivial ?_ ?_)))
    ·intro k3
     (((refine Ab trivial ?_;(iterate 3 refine Ar ?_);refine Ab trivial ?_;(iterate 4 refine Ar ?_);refine Ab trivial ?_;(iterate 4 refine Ar ?_);refine Ab trivial ?_;(iterate 4 refine Ar ?_);refine Ab trivial ?_;(iterate 4 refine Ar ?_);refine Ab trivial ?_)))
     exact⟨by rw[decide_eq_false (fun h=>by unfold Cm.fits at h;omega)];rfl,hM⟩
    ·intro k3
     (((refine Ab trivial ?_;refine Ae ?_;refine Ab trivial ?_;refine Ae ?_;refine Ao hM ?_;refine Ae ?_)))
     (((refine Av trivial ?_ ?_)))
     ·intro k8
      (((refine Ab trivial ?_;(iterate 4 refine Ar ?_);refine Ab trivial ?_;(iterate 4 refine Ar ?_);refine Ab trivial ?_;(iterate 4 refine Ar ?_);refine Ab trivial ?_;(iterate 4 refine Ar ?_);refine Ab trivial ?_)))
      exact⟨by rw[decide_eq_false (fun h=>by unfold Cm.fits at h;omega)];rfl,hM⟩
     ·intro k8
      (((refine Ab trivial ?_;refine Ae ?_;refine Ab trivial ?_;refine Ae ?_;refine Ao hM ?_;refine Ae ?_;refine Ab trivial ?_;refine Ae ?_)))
      (((refine Av trivial ?_ ?_)))
      ·intro k4
       (((refine Ab trivial ?_;(iterate 4 refine Ar ?_);refine Ab trivial ?_;(iterate 4 refine Ar ?_);refine Ab trivial ?_;(iterate 4 refine Ar ?_);refine Ab trivial ?_)))
       exact⟨by rw[decide_eq_false (fun h=>by unfold Cm.fits at h;omega)];rfl,hM⟩
      ·intro k4
       (((refine Ab trivial ?_;refine Ae ?_;refine Ab trivial ?_;refine Ae ?_;refine Ao hM ?_;refine Ae ?_;refine Ab trivial ?_;refine Ae ?_)))
       (((refine Av trivial ?_ ?_)))
       ·intro k5
        (((refine Ab trivial ?_;(iterate 4 refine Ar ?_);refine Ab trivial ?_;(iterate 4 refine Ar ?_);refine Ab trivial ?_)))
        exact⟨by rw[decide_eq_false (fun h=>by unfold Cm.fits at h;omega)];rfl,hM⟩
       ·intro k5
        (((refine Ab trivial ?_;refine Ae ?_;refine Ab trivial ?_;refine Ae ?_;refine Ao hM ?_;refine Ae ?_;refine Ab trivial ?_;refine Ae ?_)))
        (((refine Av trivial ?_ ?_)))
        ·intro k6
         (((refine Ab trivial ?_;(iterate 4 refine Ar ?_);refine Ab trivial ?_)))
         exact⟨by rw[decide_eq_false (fun h=>by unfold Cm.fits at h;omega)];rfl,hM⟩
        ·intro k6
         (((refine Ab trivial ?_;refine Ae ?_;refine Ab trivial ?_;refine Ae ?_;refine Ao hM ?_;refine Ae ?_;refine Ab trivial ?_;refine Ae ?_)))
         (((refine Av trivial ?_ ?_)))
         ·intro k7
          (((refine Ab trivial ?_)))
          exact⟨by rw[decide_eq_false (fun h=>by unfold Cm.fits at h;omega)];rfl,hM⟩
         ·intro k7
          (((refine Ab trivial ?_)))
          exact⟨by rw[decide_eq_true (show c.fits by unfold Cm.fits;omega)];rfl,hM⟩
 rintro v u w2 ⟨rfl,hM⟩
 by_cases hfit:c.fits
 case neg=>
  rw[decide_eq_false hfit]
  try simp only[Bool.not_false]
  (((refine Am ?_)))
  exact⟨by unfold Cm.right;rw[decide_eq_false hfit];rfl,hM.st⟩
 rw[decide_eq_true hfit]
 try simp only[Bool.not_true]
 (((refine Al ?_)))
 refine⟨fun v w'=>∃ i:Nat,v=.int .i64 i∧i≤c.props.length∧(c.props.take i).any (fun p=>!decide p.right)=false∧Mem H w [fb g1 28 (cfd P pc Q qc W wc c)] w',fun v _=>match v with | .int _ k=>c.props.length - k.toNat|_=>0,⟨0,rfl,by omega,rfl,hM.sub⟩,?_⟩
 clear hM
 rintro v u4 w3 ⟨i,rfl,hi,hno,hM⟩
 (((refine Ab trivial ?_;refine Ao hM ?_;refine Ab trivial ?_)))
 (((refine Av trivial ?_ ?_)))
 ·intro hlt
  have hlt':i<c.props.length:=by omega
  (((refine Am ?_;refine Ab trivial ?_;refine Ao hM ?_));(refine Ca ‹_› ?_ ?_ ?_);(focus (simp only[List.length_map];omega));(focus (simp only[List.length_map];first|done|omega));((intro _ _ hA));(cases hA);(refine Bt hM ‹_› (Bs ?_) ?_);(focus omega);((refine Bg hM ?_ ?_));(focus (first|exact trivial|assumption|omega));((clear hM;intro _ hM;refine Ab trivial ?_)))
  by_cases hr:c.props[i].right
  ·rw[decide_eq_true hr]
   try simp only[Bool.not_true]
   (((refine Al ?_;refine Ab ?_ ?_));(focus omega))
   exact⟨⟨i+1,rfl,by omega,by rw[Uk hlt',hno,decide_eq_true hr];rfl,hM⟩,by simp only;omega⟩
  ·rw[decide_eq_false hr]
   try simp only[Bool.not_false]
   (((refine Am ?_)))
   refine⟨?_,hM.st⟩
   unfold Cm.right
   rw[aIi (f:=fun p:Prp=>!decide p.right) hlt' (by simp[hr])]
   simp
 intro hge
 obtain rfl:i=c.props.length:=by omega
 rw[List.take_length]at hno
 (((refine Al ?_)))
 refine⟨fun v w'=>∃ i:Nat,v=.int .i64 i∧i≤c.path.length∧(c.path.take i).any Rn.odd=false∧Mem H w [fb g1 28 (cfd P pc Q qc W wc c)] w',fun v _=>match v with | .int _ k=>c.path.length - k.toNat|_=>0,⟨0,rfl,by omega,rfl,hM.sub⟩,?_⟩
 clear hM
 rintro v u9 w4 ⟨i,rfl,hi,hno2,hM⟩
 (((refine Ab trivial ?_;refine Ao hM ?_;refine Ab trivial ?_)))
 (((refine Av trivial ?_ ?_)))
 ·intro hlt
  have hlt':i<c.path.length:=by omega
  obtain⟨q,hqi,C,cc,rfl,hC,hCl⟩:=h3.at_ hlt'
  have hCl':c.path[i].wraps.length≤9223372036854775807:=hCl
  have hodd:∀ {p:Rn},p.odd=true→p=c.path[i]→c.right=false:=fun ho he=>by
   unfold Cm.right
   rw[aIi (f:=Rn.odd) hlt' (by rw[← he];exact ho)]
   simp
  obtain⟨bb,oo,rfl⟩:=h2.some_ (by omega)
  (((refine Am ?_;refine Ab trivial ?_;refine Ao hM ?_;refine Ab ?_ ?_));(focus omega);((refine Ab trivial ?_)))
  try refine Ff hM h2 hqi ?_
  (((refine Ab trivial ?_)))
  (((refine Av trivial ?_ ?_)))
  ·intro k
   (((refine Am ?_)))
   exact⟨by rw[hodd (p:=c.path[i]) (by unfold Rn.odd;rw[decide_eq_true (show 64<c.path[i].wraps.length by omega)];rfl) rfl],hM.st⟩
  ·intro k
   (((refine Al ?_)))
   refine⟨fun v w'=>∃ k:Nat,v=.int .i64 k∧k≤c.path[i].wraps.length∧(c.path[i].wraps.take k).any longS=false∧Mem H w [fb g1 28 (cfd P pc (some ⟨bb,oo,none⟩) qc W wc c)] w',fun v _=>match v with | .int _ k=>c.path[i].wraps.length - k.toNat|_=>0,⟨0,rfl,by omega,rfl,hM.sub⟩,?_⟩
   clear hM
   rintro v u14 w5 ⟨m,rfl,hm,hno3,hM⟩
   (((refine Ab trivial ?_;refine Ao hM ?_;refine Ab ?_ ?_));(focus omega);((refine Ab trivial ?_)))
   refine Ff hM h2 hqi ?_
   (((refine Ab trivial ?_)))
   (((refine Av trivial ?_ ?_)))
   ·intro hlt3
    have hlt3':m<c.path[i].wraps.length:=by omega
    (((refine Am ?_;refine Ab trivial ?_;refine Ao hM ?_;refine Ab ?_ ?_));(focus omega);((refine Ab trivial ?_)))
    refine Ff hM h2 hqi ?_
    ((refine Ca ‹_› ?_ ?_ ?_);(focus (simp only[List.length_map];omega));(focus (simp only[List.length_map];first|done|omega));((intro _ _ hA));(cases hA);(refine Bt hM ‹_› (Bs ?_) ?_);(focus omega);((refine Ab trivial ?_)))
    (((refine Av trivial ?_ ?_)))
    ·intro k9
     (((refine Am ?_)))
     have hs:longS c.path[i].wraps[m]=true:=by unfold longS;simp;omega
     exact⟨by rw[hodd (p:=c.path[i]) (by unfold Rn.odd;rw[aIi (f:=longS) hlt3' hs];simp) rfl],hM.st⟩
    ·intro k9
     (((refine Al ?_;refine Ab ?_ ?_));(focus omega))
     have hs:longS c.path[i].wraps[m]=false:=by unfold longS;simp;omega
     exact⟨⟨m+1,rfl,by omega,by rw[Uk hlt3',hno3,hs];rfl,hM⟩,by simp only;omega⟩
   ·intro hge3
    obtain rfl:m=c.path[i].wraps.length:=by omega
    rw[List.take_length]at hno3
    (((refine Al ?_;refine Ab ?_ ?_));(focus omega))
    have hs:c.path[i].odd=false:=by unfold Rn.odd;rw[hno3,decide_eq_false (show ¬64<c.path[i].wraps.length by omega)];rfl
    exact⟨⟨i+1,rfl,by omega,by rw[Uk hlt',hno2,hs];rfl,hM⟩,by simp only;omega⟩
 intro hge2
 obtain rfl:i=c.path.length:=by omega
 rw[List.take_length]at hno2
 (((refine Al ?_)))
 refine⟨fun v w'=>∃ i:Nat,v=.int .i64 i∧i≤c.wels.length∧(c.wels.take i).any Wl.odd=false∧Mem H w [fb g1 28 (cfd P pc Q qc W wc c)] w',fun v _=>match v with | .int _ k=>c.wels.length - k.toNat|_=>0,⟨0,rfl,by omega,rfl,hM.sub⟩,?_⟩
 clear hM
 rintro v u19 w6 ⟨i,rfl,hi,hno3,hM⟩
 (((refine Ab trivial ?_;refine Ao hM ?_;refine Ab trivial ?_)))
 (((refine Av trivial ?_ ?_)))
 ·intro hlt
  have hlt':i<c.wels.length:=by omega
  obtain⟨wb,wo,rfl⟩:=h4.some_ (by simp;omega)
  (((refine Am ?_;refine Ab trivial ?_;refine Ao hM ?_));(refine Ca ‹_› ?_ ?_ ?_);(focus (simp only[List.length_map];omega));(focus (simp only[List.length_map];first|done|omega));((intro _ _ hA));(cases hA);(refine Bt hM ‹_› (Bs ?_) ?_);(focus omega);((refine Bj hM ?_;clear hM;intro _ _ hM;refine Bi hM ?_;clear hM;intro _ hM)))
  rename_i g3 _
  refine⟨fun v w'=>v=.bool c.wels[i].odd∧Mem H w [fb g1 28 (cfd P pc Q qc (some ⟨wb,wo,none⟩) wc c)] w',?_,?_⟩
  ·generalize c.wels[i]=x at hM
   unfold Wl.odd longS
   (((refine Ab trivial ?_;refine Ao hM ?_)))
   (((refine Av trivial ?_ ?_)))
   ·intro k1
    ((((iterate 3 refine Ar ?_);refine Ab trivial ?_;(iterate 3 refine Ar ?_);refine Ab trivial ?_;(iterate 3 refine Ar ?_);refine Ab trivial ?_;(iterate 4 refine Ar ?_);refine Ab trivial ?_)))
    exact⟨by rw[decide_eq_false (show ¬(1≤x.name∧x.name≤64) by omega)];rfl,hM.sub⟩
   ·intro k1
    (((refine Ae ?_;refine Ab trivial ?_;refine Ae ?_;refine Ao hM ?_;refine Ae ?_)))
    (((refine Av trivial ?_ ?_)))
    ·intro k2
     (((refine Ab trivial ?_;(iterate 3 refine Ar ?_);refine Ab trivial ?_;(iterate 3 refine Ar ?_);refine Ab trivial ?_;(iterate 4 refine Ar ?_);refine Ab trivial ?_)))
     exact⟨by rw[decide_eq_false (show ¬(1≤x.name∧x.name≤64) by omega)];rfl,hM.sub⟩
    ·intro k2
     (((refine Ab trivial ?_;refine Ae ?_;refine Ab trivial ?_;refine Ae ?_;refine Ao hM ?_;refine Ae ?_)))
     (((refine Av trivial ?_ ?_)))
     ·intro k3
      (((refine Ab trivial ?_;(iterate 3 refine Ar ?_);refine Ab trivial ?_;(iterate 4 refine Ar ?_);refine Ab trivial ?_)))
      exact⟨by rw[decide_eq_true k3];simp,hM.sub⟩
     ·intro k3
      (((refine Ab trivial ?_;refine Ae ?_;refine Ab trivial ?_;refine Ae ?_;refine Ao hM ?_;refine Ae ?_)))
      (((refine Av trivial ?_ ?_)))
      ·intro k4
       (((refine Ab trivial ?_;(iterate 4 refine Ar ?_);refine Ab trivial ?_)))
       exact⟨by rw[decide_eq_true (show 4611686018427387903<x.card by omega)];simp,hM.sub⟩
      ·intro k4
       (((refine Ab trivial ?_;refine Ae ?_;refine Ab trivial ?_;refine Ae ?_;refine Ao hM ?_;refine Ae ?_;refine Ab trivial ?_;refine Ae ?_)))
       (((refine Av trivial ?_ ?_)))
       all_goals
        intro k5
        (((refine Ab trivial ?_)))
        exact⟨by simp;omega,hM.sub⟩
  clear hM
  rintro v u23 w7 ⟨rfl,hM⟩
  cases ho:c.wels[i].odd
  ·(((refine Al ?_;refine Ab ?_ ?_));(focus omega))
   exact⟨⟨i+1,rfl,by omega,by rw[Uk hlt',hno3,ho];rfl,hM⟩,by simp only;omega⟩
  ·(((refine Am ?_)))
   refine⟨?_,hM.st⟩
   unfold Cm.right
   rw[aIi (f:=Wl.odd) hlt' ho]
   simp
 ·intro hge3
  obtain rfl:i=c.wels.length:=by omega
  rw[List.take_length]at hno3
  (((refine Al ?_)))
  refine⟨?_,hM.st⟩
  unfold Cm.right
  rw[decide_eq_true hfit,hno,hno2,hno3]
  rfl
end
end Go.Proofs.YtgbenhmdamnmcaaGreat.Cmt
namespace Go.Proofs.YtgbenhmdamnmcaaGreat.Cmt
open Go.Proofs.Tryz
open Go.RowKit Go.Proofs.YtgbenhmdamnmcaaGreat.Chg
section
variable {H:Hp} {w0 w:World} {L R:List Res} {P Q W:Option Addr} {pc qc wc g:Nat} {qs:List (List Fd)} {c:Cm}
theorem bDb (hc:CmF H P Q W qs c) (hf:Fz H w):Calls prog 7 #[cv P pc Q qc W wc c] w fun en w'=>∃ v,en=.returned v∧∃ b,v=.bool b∧Mem H w [] w':=by
 have hM:=Mem.start hf
 obtain⟨h1,h2,h3,h4,hl1,hl2,hl3,hl4⟩:=hc
 have hl1':c.props.length≤9223372036854775807:=hl1
 have hl2':c.path.length≤9223372036854775807:=hl2
 have hl3':c.wels.length≤9223372036854775807:=hl3
 have hl4':c.info.size≤9223372036854775807:=hl4
 have hq:qs.length=c.path.length:=h3.len
 refine Yn ?_
 unfold No
 (((refine Bb hM ?_;clear hM;intro _ _ hM)))
 rename_i g1 _
 refine⟨fun v w'=>∃ b,v=.bool b∧Mem H w [fb g1 28 (cfd P pc Q qc W wc c)] w',?_,?_⟩
 ·(((refine Ab trivial ?_;refine Ao hM ?_;refine Ab trivial ?_)))
  (((refine Av trivial ?_ ?_)))
  ·intro k1
   ((((iterate 4 refine Ar ?_);refine Ab trivial ?_;(iterate 4 refine Ar ?_);refine Ab trivial ?_;(iterate 4 refine Ar ?_);refine Ab trivial ?_)))
   exact⟨_,rfl,hM⟩
  ·intro k1
   (((refine Ae ?_;refine Ab trivial ?_;refine Ae ?_;refine Ao hM ?_;refine Ae ?_;refine Ab trivial ?_;refine Ae ?_)))
   (((refine Av trivial ?_ ?_)))
   ·intro k2
    (((refine Ab trivial ?_;(iterate 4 refine Ar ?_);refine Ab trivial ?_;(iterate 4 refine Ar ?_);refine Ab trivial ?_)))
    exact⟨_,rfl,hM⟩
   ·intro k2
    (((refine Ab trivial ?_;refine Ae ?_;refine Ab trivial ?_;refine Ae ?_;refine Ao hM ?_;refine Ae ?_;refine Ab trivial ?_;refine Ae ?_)))
    (((refine Av trivial ?_ ?_)))
    ·intro k3
     (((refine Ab trivial ?_;(iterate 4 refine Ar ?_);refine Ab trivial ?_)))
     exact⟨_,rfl,hM⟩
    ·intro k3
     (((refine Ab trivial ?_;refine Ae ?_;refine Ab trivial ?_;refine Ae ?_;refine Ao hM ?_;refine Ae ?_;refine Ab trivial ?_;refine Ae ?_)))
     (((refine Av trivial ?_ ?_)))
     all_goals
      intro k4
      (((refine Ab trivial ?_)))
      exact⟨_,rfl,hM⟩
 clear hM
 rintro v u w2 ⟨b,rfl,hM⟩
 cases b
 case true=>
  (((refine Am ?_)))
  exact⟨_,rfl,_,rfl,hM.sub⟩
 (((refine Al ?_)))
 refine⟨fun v w'=>∃ i:Nat,v=.int .i64 i∧i≤c.path.length∧Mem H w [fb g1 28 (cfd P pc Q qc W wc c)] w',fun v _=>match v with | .int _ k=>c.path.length - k.toNat|_=>0,⟨0,rfl,by omega,hM.sub⟩,?_⟩
 clear hM
 rintro v u9 w4 ⟨i,rfl,hi,hM⟩
 (((refine Ab trivial ?_;refine Ao hM ?_;refine Ab trivial ?_)))
 (((refine Av trivial ?_ ?_)))
 ·intro hlt
  have hlt':i<c.path.length:=by omega
  obtain⟨q,hqi,C,cc,rfl,hC,hCl⟩:=h3.at_ hlt'
  have hCl':c.path[i].wraps.length≤9223372036854775807:=hCl
  obtain⟨bb,oo,rfl⟩:=h2.some_ (by omega)
  (((refine Am ?_;refine Ab trivial ?_;refine Ao hM ?_;refine Ab ?_ ?_));(focus omega);((refine Ab trivial ?_)))
  refine Ff hM h2 hqi ?_
  (((refine Ab trivial ?_)))
  (((refine Av trivial ?_ ?_)))
  ·intro k
   (((refine Am ?_)))
   exact⟨_,rfl,_,rfl,hM.sub⟩
  ·intro k
   (((refine Al ?_)))
   refine⟨fun v w'=>∃ k:Nat,v=.int .i64 k∧k≤c.path[i].wraps.length∧Mem H w [fb g1 28 (cfd P pc (some ⟨bb,oo,none⟩) qc W wc c)] w',fun v _=>match v with | .int _ k=>c.path[i].wraps.length - k.toNat|_=>0,⟨0,rfl,by omega,hM.sub⟩,?_⟩
   clear hM
   rintro v u14 w5 ⟨m,rfl,hm,hM⟩
   (((refine Ab trivial ?_;refine Ao hM ?_;refine Ab ?_ ?_));(focus omega);((refine Ab trivial ?_)))
   refine Ff hM h2 hqi ?_
   (((refine Ab trivial ?_)))
   (((refine Av trivial ?_ ?_)))
   ·intro hlt3
    have hlt3':m<c.path[i].wraps.length:=by omega
    (((refine Am ?_;refine Ab trivial ?_;refine Ao hM ?_;refine Ab ?_ ?_));(focus omega);((refine Ab trivial ?_)))
    refine Ff hM h2 hqi ?_
    ((refine Ca ‹_› ?_ ?_ ?_);(focus (simp only[List.length_map];omega));(focus (simp only[List.length_map];first|done|omega));((intro _ _ hA));(cases hA);(refine Bt hM ‹_› (Bs ?_) ?_);(focus omega);((refine Ab trivial ?_)))
    (((refine Av trivial ?_ ?_)))
    ·intro k9
     (((refine Am ?_)))
     exact⟨_,rfl,_,rfl,hM.sub⟩
    ·intro k9
     (((refine Al ?_;refine Ab ?_ ?_));(focus omega))
     exact⟨⟨m+1,rfl,by omega,hM⟩,by simp only;omega⟩
   ·intro hge3
    (((refine Al ?_;refine Ab ?_ ?_));(focus omega))
    exact⟨⟨i+1,rfl,by omega,hM⟩,by simp only;omega⟩
 intro hge2
 (((refine Al ?_)))
 refine⟨fun v w'=>∃ i:Nat,v=.int .i64 i∧i≤c.wels.length∧Mem H w [fb g1 28 (cfd P pc Q qc W wc c)] w',fun v _=>match v with | .int _ k=>c.wels.length - k.toNat|_=>0,⟨0,rfl,by omega,hM.sub⟩,?_⟩
 clear hM
 rintro v u19 w6 ⟨i,rfl,hi,hM⟩
 (((refine Ab trivial ?_;refine Ao hM ?_;refine Ab trivial ?_)))
 (((refine Av trivial ?_ ?_)))
 ·intro hlt
  have hlt':i<c.wels.length:=by omega
  obtain⟨wb,wo,rfl⟩:=h4.some_ (by simp;omega)
  (((refine Am ?_;refine Ab trivial ?_;refine Ao hM ?_));(refine Ca ‹_› ?_ ?_ ?_);(focus (simp only[List.length_map];omega));(focus (simp only[List.length_map];first|done|omega));((intro _ _ hA));(cases hA);((refine Ab trivial ?_));(refine Ff hM ‹_› (Bs ?_) ?_);(focus omega);((refine Ab trivial ?_)))
  (((refine Av trivial ?_ ?_)))
  ·intro k
   (((refine Am ?_)))
   exact⟨_,rfl,_,rfl,hM.sub⟩
  ·intro k
   (((refine Al ?_;refine Ab ?_ ?_));(focus omega))
   exact⟨⟨i+1,rfl,by omega,hM⟩,by simp only;omega⟩
 ·intro hge3
  (((refine Al ?_)))
  exact⟨_,rfl,_,rfl,hM.sub⟩
end
end Go.Proofs.YtgbenhmdamnmcaaGreat.Cmt
namespace Go.Proofs.YtgbenhmdamnmcaaGreat.Cmt
open Go.Proofs.Tryz
open Go.RowKit Go.Proofs.YtgbenhmdamnmcaaGreat.Chg
def textB (s:ByteArray):List Int:=numB s.size++ints s
theorem Id (s:ByteArray):(textB s).length≤8+s.size:=by
 have:=Az s.size
 rw[textB,List.length_append,Bm]
 omega
def propT (p:Prp):List Int:=textB (Chg.packB p)
def rungT (r:Rn):List Int:=r.pub.1++(numB r.wraps.length++r.wraps.flatMap textB)
def welT (x:Wl):List Int:=numB x.name++(numB x.card++textB x.wrap)
def coreL (c:Cm):List Int:=c.parent.1++numB c.depth++numB c.author++(numB c.props.length++c.props.flatMap propT)++c.leaf.1++c.above.1++(numB c.path.length++c.path.flatMap rungT)
def signedL (c:Cm):List Int:=coreL c++textB c.info++(numB c.wels.length++c.wels.flatMap welT)++c.tag.1
def packL (c:Cm):List Int:=signedL c++c.sign.1
theorem Gi {α:Type} {f:α→List Int} {B:Nat}:∀ {xs:List α},(∀ x∈xs,(f x).length≤B)→(xs.flatMap f).length≤xs.length*B
 | [],_=>by simp
 | x::xs,h=>by
   have h1:=h x (by simp)
   have h2:=Gi (xs:=xs) fun y hy=>h y (by simp[hy])
   rw[List.flatMap_cons,List.length_append,List.length_cons,Nat.succ_mul]
   omega
theorem Gq {α:Type} {f:α→List Int} {xs:List α} {i:Nat} (h:i<xs.length):(xs.take (i+1)).flatMap f=(xs.take i).flatMap f++f xs[i]:=by
 rw[List.take_succ_eq_append_getElem h,List.flatMap_append]
 simp
theorem Kv {α:Type} {f:α→List Int} {B:Nat} {xs:List α} (h:∀ x∈xs,(f x).length≤B) (i:Nat) (hi:i≤xs.length):((xs.take i).flatMap f).length≤xs.length*B:=by
 have:=Gi (xs:=xs.take i) fun x hx=>h x (List.mem_of_mem_take hx)
 rw[List.length_take,Nat.min_eq_left hi]at this
 exact Nat.le_trans this (Nat.mul_le_mul_right _ hi)
theorem Ji {p:Prp}:(propT p).length≤200:=by
 have h1:=Id (Chg.packB p)
 have h2:=Je p
 have h3:(Chg.packB p).size=(textL p++p.sign.1).length:=strOfNums_size _
 rw[List.length_append,p.sign.2.1]at h3
 unfold propT
 omega
theorem aFz (p:Prp):(Chg.packB p).size≤200:=by
 have h2:=Je p
 have h3:(Chg.packB p).size=(textL p++p.sign.1).length:=strOfNums_size _
 rw[List.length_append,p.sign.2.1]at h3
 omega
theorem Iu {s:ByteArray} (h:longS s=false):(textB s).length≤1100∧s.size≤1024:=by
 have:=Id s
 unfold longS at h
 simp at h
 omega
theorem Mt {r:Rn} (h:r.odd=false):(rungT r).length≤80000∧r.wraps.length≤64∧∀ s∈r.wraps,longS s=false:=by
 unfold Rn.odd at h
 simp only[Bool.or_eq_false_iff,decide_eq_false_iff_not,List.any_eq_false]at h
 have hw:∀ s∈r.wraps,longS s=false:=fun s hs=>by simpa using h.2 s hs
 have h1:=Gi (f:=textB) (B:=1100) (xs:=r.wraps) fun s hs=>(Iu (hw s hs)).1
 have h2:=Az r.wraps.length
 refine⟨?_,by omega,hw⟩
 rw[rungT,List.length_append,List.length_append,r.pub.2.1]
 omega
theorem aOu {x:Wl} (h:x.odd=false):(1≤x.name∧x.name≤64)∧(0≤x.card∧x.card≤4611686018427387903)∧longS x.wrap=false:=by
 unfold Wl.odd at h
 simp only[Bool.or_eq_false_iff,Bool.not_eq_false',decide_eq_true_eq,decide_eq_false_iff_not]at h
 exact⟨h.1.1.1,by omega,h.2⟩
theorem Po {x:Wl} (h:x.odd=false):(welT x).length≤1200:=by
 have h1:=(Iu (aOu h).2.2).1
 have h2:=Az x.name
 have h3:=Az x.card
 rw[welT,List.length_append,List.length_append]
 omega
theorem Cm.rt {c:Cm} (h:c.right=true):c.fits∧(∀ p∈c.props,p.right)∧(∀ r∈c.path,r.odd=false)∧∀ x∈c.wels,x.odd=false:=by
 unfold Cm.right at h
 simp only[Bool.and_eq_true,decide_eq_true_eq,Bool.not_eq_true',List.any_eq_false]at h
 refine⟨h.1.1,fun p hp=>?_,fun r hr=>?_,fun x hx=>?_⟩
 ·have:=h.2.1 p hp
  simpa using this
 ·simpa using h.1.2 r hr
 ·simpa using h.2.2 x hx
theorem Mu {c:Cm} (h:c.right=true):(coreL c).length≤6000000:=by
 obtain⟨⟨h1,h2,h3,h4,h5,h6⟩,hp,hr,hw⟩:=Cm.rt h
 have a1:=Gi (f:=propT) (B:=200) (xs:=c.props) fun p _=>Ji
 have a2:=Gi (f:=rungT) (B:=80000) (xs:=c.path) fun r hr'=>(Mt (hr r hr')).1
 have b1:=Az c.depth
 have b2:=Az c.author
 have b3:=Az c.props.length
 have b4:=Az c.path.length
 simp only[coreL,List.length_append,c.parent.2.1,c.leaf.2.1,c.above.2.1]
 omega
theorem Qd {c:Cm} (h:c.right=true):(packL c).length≤7000000∧(signedL c).length≤6900000:=by
 have h0:=Mu h
 obtain⟨⟨h1,h2,h3,h4,h5,h6⟩,hp,hr,hw⟩:=Cm.rt h
 have a1:=Gi (f:=welT) (B:=1200) (xs:=c.wels) fun x hx=>Po (hw x hx)
 have b1:=Id c.info
 have b3:=Az c.wels.length
 simp only[packL,signedL,List.length_append,c.tag.2.1,c.sign.2.1]
 omega
section
variable {H:Hp} {w0 w:World} {L R:List Res} {A P Q W:Option Addr} {a pc qc wc g b:Nat} {qs:List (List Fd)} {c:Cm} {out:List Int}
theorem Pp (s:ByteArray) (hs:s.size≤65536) (hb:out.length<999900000) (hM:Mem H w0 (wrR g out false::L) w):Calls prog 86 #[.pointer (some ⟨g,0,none⟩),.string s] w fun en w'=>∃ v,en=.returned v∧v=.tuple #[]∧Mem H w0 (wrR g (out++textB s) false::L) w':=by
 have hn:=Az s.size
 refine Rr ?_
 unfold Js
 (((refine Ab trivial ?_;refine Al ?_;refine Ab trivial ?_;refine Br trivial ?_ ?_));(focus (first|assumption|omega|with_reducible rfl|exact fun h=>Bool.noConfusion h));((refine Al ?_;refine Ab trivial ?_)))
 refine Be (Cu s.size (by omega) (by omega) hM) ?_
 rintro v w2 ⟨rfl,hM⟩
 obtain⟨A,cc,hM⟩:=hM.wr
 (((refine Ab trivial ?_;refine Ab trivial ?_;refine Ao hM ?_)))
 refine aXy hM Tryz.underlying9 (by rw[List.length_append];omega) (fun A' c' w4 hM=>?_)
 (((refine Ab trivial ?_;refine Ab trivial ?_;refine Bi hM ?_;clear hM;intro _ hM)))
 refine⟨_,rfl,rfl,?_⟩
 have e:out++textB s=(out++numB s.size)++ints s:=by unfold textB;simp
 rw[e]
 exact Mem.unwr ((hM.upB g).sub:Mem H w0 (fb g 177 [.one (.slice A' ((out++numB s.size).length+s.size) c'),.one (.bool false)]::rowR 5 1 A' ((out++numB s.size).length+s.size) c' (byts ((out++numB s.size)++ints s))::L) _) (by simp only[List.length_append,Bm])
def CloW (M:Nat) (P:Program) (H:Hp) (w0:World) (g:Nat) (r:Res) (c v:Value) (f:List Int):Prop:=
 ∀ (out:List Int) (R:List Res) (w:World) (K:Value→World→Prop) (X:List PanicEntry→World→Prop),out.length<M→Mem H w0 (wrR g out false::r::R) w→(∀ w',Mem H w0 (wrR g (out++f) false::r::R) w'→K (.tuple #[]) w')→mop P (Ah c [v]) w K X
theorem aXa {M:Nat} {r:Res} {cl:Value} (xs:List ByteArray) (hl:xs.length≤64) (hc:∀ i (h:i<xs.length),CloW M prog H w0 g r cl (.string xs[i]) (textB xs[i])) (hs:Sl H 1 A (xs.map sfd)) (B:Nat) (hB:∀ x∈xs,(textB x).length≤B) (hb:out.length+8+xs.length*B<M) (hM9:M≤900000000) (hM:Mem H w0 (wrR g out false::r::R) w):
  Calls prog 110 #[.pointer (some ⟨g,0,none⟩),.slice A xs.length a,cl] w fun en w'=>∃ v,en=.returned v∧v=.tuple #[]∧Mem H w0 (wrR g (out++(numB xs.length++xs.flatMap textB)) false::r::R) w':=by
 refine Ox ?_
 unfold Io
 have hn:=Az xs.length
 (((refine Ab trivial ?_)))
 refine Be (Cu xs.length (by omega) (by omega) hM) ?_
 rintro v w2 ⟨rfl,hM⟩
 (((refine Ab trivial ?_)))
 refine⟨fun v w'=>∃ i:Nat,v=.int .i64 i∧i≤xs.length∧Mem H w0 (wrR g (out++numB xs.length++(xs.take i).flatMap textB) false::r::R) w',fun v _=>match v with | .int _ k=>xs.length - k.toNat|_=>0,⟨0,rfl,by omega,by simpa using hM⟩,?_⟩
 clear hM
 rintro v u w3 ⟨i,rfl,hi,hM⟩
 (((refine Av trivial ?_ ?_)))
 ·intro hlt
  have hlt':i<xs.length:=by omega
  (((refine Am ?_));(refine Ca ‹_› ?_ ?_ ?_);(focus (simp only[List.length_map];omega));(focus (simp only[List.length_map];first|done|omega));((intro _ _ hA));(cases hA);(refine Bt hM ‹_› (Bs ?_) ?_);(focus omega))
  have hle:=Kv hB i hi
  refine hc i hlt' _ R _ _ _ (by simp only[List.length_append];omega) (hM.sub:Mem H w0 (wrR g (out++numB xs.length++(xs.take i).flatMap textB) false::r::R) _) (fun w hM=>?_)
  rw[List.append_assoc _ _ (textB _),← Gq hlt']at hM
  (((refine Ab ?_ ?_));(focus omega))
  exact⟨⟨i+1,rfl,by omega,hM⟩,by simp only;omega⟩
 ·intro hge
  obtain rfl:i=xs.length:=by omega
  rw[List.take_length]at hM
  (((refine Al ?_)))
  exact⟨_,rfl,rfl,by rw[← List.append_assoc];exact hM⟩
theorem aXb {M:Nat} {r:Res} {cl:Value} (xs:List Prp) (hl:xs.length≤64) (hc:∀ i (h:i<xs.length),CloW M prog H w0 g r cl (Chg.prv xs[i]) (propT xs[i])) (hs:Sl H 101 A (xs.map Prp.fds)) (B:Nat) (hB:∀ x∈xs,(propT x).length≤B) (hb:out.length+8+xs.length*B<M) (hM9:M≤900000000) (hM:Mem H w0 (wrR g out false::r::R) w):
  Calls prog 105 #[.pointer (some ⟨g,0,none⟩),.slice A xs.length a,cl] w fun en w'=>∃ v,en=.returned v∧v=.tuple #[]∧Mem H w0 (wrR g (out++(numB xs.length++xs.flatMap propT)) false::r::R) w':=by
 refine Jv ?_
 unfold Fg
 have hn:=Az xs.length
 (((refine Ab trivial ?_)))
 refine Be (Cu xs.length (by omega) (by omega) hM) ?_
 rintro v w2 ⟨rfl,hM⟩
 (((refine Ab trivial ?_)))
 refine⟨fun v w'=>∃ i:Nat,v=.int .i64 i∧i≤xs.length∧Mem H w0 (wrR g (out++numB xs.length++(xs.take i).flatMap propT) false::r::R) w',fun v _=>match v with | .int _ k=>xs.length - k.toNat|_=>0,⟨0,rfl,by omega,by simpa using hM⟩,?_⟩
 clear hM
 rintro v u w3 ⟨i,rfl,hi,hM⟩
 (((refine Av trivial ?_ ?_)))
 ·intro hlt
  have hlt':i<xs.length:=by omega
  (((refine Am ?_));(refine Ca ‹_› ?_ ?_ ?_);(focus (simp only[List.length_map];omega));(focus (simp only[List.length_map];first|done|omega));((intro _ _ hA));(cases hA);(refine Bt hM ‹_› (Bs ?_) ?_);(focus omega);((refine Bj hM ?_;clear hM;intro _ _ hM;refine Bi hM ?_;clear hM;intro _ hM;refine Ao hM ?_)))
  have hle:=Kv hB i hi
  refine hc i hlt' _ R _ _ _ (by simp only[List.length_append];omega) (hM.sub:Mem H w0 (wrR g (out++numB xs.length++(xs.take i).flatMap propT) false::r::R) _) (fun w hM=>?_)
  rw[List.append_assoc _ _ (propT _),← Gq hlt']at hM
  (((refine Ab ?_ ?_));(focus omega))
  exact⟨⟨i+1,rfl,by omega,hM⟩,by simp only;omega⟩
 ·intro hge
  obtain rfl:i=xs.length:=by omega
  rw[List.take_length]at hM
  (((refine Al ?_)))
  exact⟨_,rfl,rfl,by rw[← List.append_assoc];exact hM⟩
theorem aXc {M:Nat} {r:Res} {cl:Value} (xs:List Wl) (hl:xs.length≤64) (hc:∀ i (h:i<xs.length),CloW M prog H w0 g r cl (wv xs[i]) (welT xs[i])) (hs:Sl H 3 A (xs.map Wl.fds)) (B:Nat) (hB:∀ x∈xs,(welT x).length≤B) (hb:out.length+8+xs.length*B<M) (hM9:M≤900000000) (hM:Mem H w0 (wrR g out false::r::R) w):
  Calls prog 113 #[.pointer (some ⟨g,0,none⟩),.slice A xs.length a,cl] w fun en w'=>∃ v,en=.returned v∧v=.tuple #[]∧Mem H w0 (wrR g (out++(numB xs.length++xs.flatMap welT)) false::r::R) w':=by
 refine Kc ?_
 unfold Fo
 have hn:=Az xs.length
 (((refine Ab trivial ?_)))
 refine Be (Cu xs.length (by omega) (by omega) hM) ?_
 rintro v w2 ⟨rfl,hM⟩
 (((refine Ab trivial ?_)))
 refine⟨fun v w'=>∃ i:Nat,v=.int .i64 i∧i≤xs.length∧Mem H w0 (wrR g (out++numB xs.length++(xs.take i).flatMap welT) false::r::R) w',fun v _=>match v with | .int _ k=>xs.length - k.toNat|_=>0,⟨0,rfl,by omega,by simpa using hM⟩,?_⟩
 clear hM
 rintro v u w3 ⟨i,rfl,hi,hM⟩
 (((refine Av trivial ?_ ?_)))
 ·intro hlt
  have hlt':i<xs.length:=by omega
  (((refine Am ?_));(refine Ca ‹_› ?_ ?_ ?_);(focus (simp only[List.length_map];omega));(focus (simp only[List.length_map];first|done|omega));((intro _ _ hA));(cases hA);(refine Bt hM ‹_› (Bs ?_) ?_);(focus omega);((refine Bj hM ?_;clear hM;intro _ _ hM;refine Bi hM ?_;clear hM;intro _ hM;refine Ao hM ?_)))
  have hle:=Kv hB i hi
  refine hc i hlt' _ R _ _ _ (by simp only[List.length_append];omega) (hM.sub:Mem H w0 (wrR g (out++numB xs.length++(xs.take i).flatMap welT) false::r::R) _) (fun w hM=>?_)
  rw[List.append_assoc _ _ (welT _),← Gq hlt']at hM
  (((refine Ab ?_ ?_));(focus omega))
  exact⟨⟨i+1,rfl,by omega,hM⟩,by simp only;omega⟩
 ·intro hge
  obtain rfl:i=xs.length:=by omega
  rw[List.take_length]at hM
  (((refine Al ?_)))
  exact⟨_,rfl,rfl,by rw[← List.append_assoc];exact hM⟩
theorem aTg {M:Nat} {r:Res} {cl:Value} (xs:List Rn) (hl:xs.length≤64) (hs:Sl H 33 A qs) (h3:All2 (RnF H) qs xs) (hc:∀ i (h:i<xs.length) C cc,Sl H 1 C (xs[i].wraps.map sfd)→CloW M prog H w0 g r cl (.agg (fl (xs[i].row C cc)).toArray) (rungT xs[i])) (B:Nat) (hB:∀ x∈xs,(rungT x).length≤B) (hb:out.length+8+xs.length*B<M) (hM9:M≤900000000) (hM:Mem H w0 (wrR g out false::r::R) w):
  Calls prog 108 #[.pointer (some ⟨g,0,none⟩),.slice A xs.length a,cl] w fun en w'=>∃ v,en=.returned v∧v=.tuple #[]∧Mem H w0 (wrR g (out++(numB xs.length++xs.flatMap rungT)) false::r::R) w':=by
 refine Nc ?_
 unfold Hc
 have hn:=Az xs.length
 (((refine Ab trivial ?_)))
 refine Be (Cu xs.length (by omega) (by omega) hM) ?_
 rintro v w2 ⟨rfl,hM⟩
 (((refine Ab trivial ?_)))
 refine⟨fun v w'=>∃ i:Nat,v=.int .i64 i∧i≤xs.length∧Mem H w0 (wrR g (out++numB xs.length++(xs.take i).flatMap rungT) false::r::R) w',fun v _=>match v with | .int _ k=>xs.length - k.toNat|_=>0,⟨0,rfl,by omega,by simpa using hM⟩,?_⟩
 clear hM
 rintro v u w3 ⟨i,rfl,hi,hM⟩
 (((refine Av trivial ?_ ?_)))
 ·intro hlt
  have hlt':i<xs.length:=by omega
  obtain⟨q,hqi,C,cc,rfl,hC,hCl⟩:=h3.at_ hlt'
  have hq:qs.length=xs.length:=h3.len
  have hc:=fun i h=>hc i h C cc
  obtain⟨bb,oo,rfl⟩:=hs.some_ (by omega)
  (((refine Am ?_;refine Ab ?_ ?_));(focus omega))
  refine Bt hM hs hqi ?_
  (((refine Bj hM ?_;clear hM;intro _ _ hM;refine Bi hM ?_;clear hM;intro _ hM;refine Ao hM ?_)))
  have hle:=Kv hB i hi
  refine hc i hlt' hC _ R _ _ _ (by simp only[List.length_append];omega) (hM.sub:Mem H w0 (wrR g (out++numB xs.length++(xs.take i).flatMap rungT) false::r::R) _) (fun w hM=>?_)
  rw[List.append_assoc _ _ (rungT _),← Gq hlt']at hM
  (((refine Ab ?_ ?_));(focus omega))
  exact⟨⟨i+1,rfl,by omega,hM⟩,by simp only;omega⟩
 ·intro hge
  obtain rfl:i=xs.length:=by omega
  rw[List.take_length]at hM
  (((refine Al ?_)))
  exact⟨_,rfl,rfl,by rw[← List.append_assoc];exact hM⟩
abbrev wbR (b g:Nat):Res:=fb b 80 [.one (.pointer (some ⟨g,0,none⟩))]
theorem aXd (p:Prp) (hp:p.right) (hb:out.length<999900000) (hM:Mem H w0 (wrR g out false::wbR b g::R) w):Calls prog 106 #[Chg.prv p,.pointer (some ⟨b,0,none⟩)] w fun en w'=>∃ v,en=.returned v∧v=.tuple #[]∧Mem H w0 (wrR g (out++propT p) false::wbR b g::R) w':=by
 refine Zc ?_
 unfold Nw
 (((refine Bb hM ?_;clear hM;intro _ _ hM;refine Aw hM ?_;refine Aw hM ?_;refine Bd hM ?_ (fun _ _ hM=>?_)));(focus (first|exact trivial|assumption|omega)))
 rw[if_pos hp]
 refine La (hM.at_ (wrR g out false)) (fun w hM=>Pp (Chg.packB p) (by have:=aFz p;omega) hb hM) ?_
 rintro v w2 ⟨rfl,hM⟩
 (((refine Ba hM ?_;clear hM;intro _ hM)))
 exact⟨_,rfl,rfl,(hM.sub:Mem H w0 (wrR g (out++textB (Chg.packB p)) false::wbR b g::R) _)⟩
theorem aTh {M:Nat} (hM9:M≤900000000) (p:Prp) (hp:p.right):CloW M prog H w0 g (wbR b g) (.func (.func 106) #[] #[.pointer (some ⟨b,0,none⟩)]) (Chg.prv p) (propT p):=fun out R w K X hb hM hk=>
 Ex (aXd p hp (by omega) hM) (by rintro e w' ⟨v,rfl,rfl,h⟩;exact hk w' h)
theorem aXe {M:Nat} (hM9:M≤900000000) (r:Res) (s:ByteArray) (hs:s.size≤65536):CloW M prog H w0 g r (.func (.func 86) #[.pointer (some ⟨g,0,none⟩)] #[]) (.string s) (textB s):=fun out R w K X hb hM hk=>
 Ex (Pp s hs (by omega) hM) (by rintro e w' ⟨v,rfl,rfl,h⟩;exact hk w' h)
theorem aXf {C:Option Addr} {cc:Nat} (r:Rn) (ho:r.odd=false) (hC:Sl H 1 C (r.wraps.map sfd)) (hb:out.length<800000000) (hM:Mem H w0 (wrR g out false::wbR b g::R) w):Calls prog 109 #[.agg (fl (r.row C cc)).toArray,.pointer (some ⟨b,0,none⟩)] w fun en w'=>∃ v,en=.returned v∧v=.tuple #[]∧Mem H w0 (wrR g (out++rungT r) false::wbR b g::R) w':=by
 obtain⟨hr1,hr2,hr3⟩:=Mt ho
 refine Ze ?_
 unfold Nx
 (((refine Bb hM ?_;clear hM;intro _ _ hM;refine Ao hM ?_;refine Ab trivial ?_;refine Ao hM ?_)))
 refine Be (Cx r.pub (by omega) (hM.at_ (wrR g out false))) ?_
 rintro v w2 ⟨rfl,hM⟩
 (((refine Ao hM ?_;refine Ab trivial ?_;refine Ao hM ?_;refine Ao hM ?_;refine Ab trivial ?_)))
 refine Be (aXa r.wraps hr2 (M:=900000000) (fun i h=>aXe (by omega) _ _ (by have:=(Iu (hr3 _ (List.getElem_mem h))).2;omega)) hC 1100 (fun s hs=>(Iu (hr3 s hs)).1) (by rw[List.length_append,r.pub.2.1];omega) (by omega) (hM.sub:Mem H w0 (wrR g (out++r.pub.1) false::wbR b g::R) _)) ?_
 rintro v w3 ⟨rfl,hM⟩
 skip
 rw[List.append_assoc]at hM
 exact⟨_,rfl,rfl,hM⟩
instance:FunC prog 109:=⟨by kernel_rfl⟩
theorem aTi {M:Nat} (hM9:M≤800000000) {C:Option Addr} {cc:Nat} (r:Rn) (ho:r.odd=false) (hC:Sl H 1 C (r.wraps.map sfd)):CloW M prog H w0 g (wbR b g) (.func (.func 109) #[] #[.pointer (some ⟨b,0,none⟩)]) (.agg (fl (r.row C cc)).toArray) (rungT r):=fun out R w K X hb hM hk=>
 Ex (aXf r ho hC (by omega) hM) (by rintro e w' ⟨v,rfl,rfl,h⟩;exact hk w' h)
end
end Go.Proofs.YtgbenhmdamnmcaaGreat.Cmt
namespace Go.Proofs.YtgbenhmdamnmcaaGreat.Cmt
open Go.Proofs.Tryz
open Go.RowKit Go.Proofs.YtgbenhmdamnmcaaGreat.Chg
abbrev sepoch:ByteArray:=ByteArray.mk #[101,112,111,99,104]
def packS (c:Cm):ByteArray:=strOfNums (packL c)
def idC (c:Cm):H32:=Chg.shaH (ints sepoch++ints (packS c))
section
variable {H:Hp} {w0 w:World} {L R:List Res} {A P Q W:Option Addr} {a pc qc wc g b:Nat} {qs:List (List Fd)} {c:Cm} {out:List Int}
theorem aQo (hr:c.right=true) (hc:CmF H P Q W qs c) (hb:out.length<100000000) (hM:Mem H w0 (wrR g out false::R) w):Calls prog 37 #[.pointer (some ⟨g,0,none⟩),cv P pc Q qc W wc c] w fun en w'=>∃ v,en=.returned v∧v=.tuple #[]∧Mem H w0 (wrR g (out++coreL c) false::R) w':=by
 obtain⟨⟨f1,f2,f3,f4,f5,f6⟩,hp,hro,hwo⟩:=Cm.rt hr
 obtain⟨h1,h2,h3,h4,hl1,hl2,hl3,hl4⟩:=hc
 have b1:=Az c.depth
 have b2:=Az c.author
 have b3:=Az c.props.length
 have b4:=Gi (f:=propT) (B:=200) (xs:=c.props) fun p _=>Ji
 refine aDl ?_
 unfold Qj
 (((refine Bb hM ?_;clear hM;intro _ _ hM;refine Bb hM ?_;clear hM;intro _ _ hM;refine Ao hM ?_;refine Ab trivial ?_;refine Ao hM ?_)))
 rename_i b _ g1 _
 refine Be (Cx c.parent (by omega) (hM.at_ (wrR g out false))) ?_
 rintro v w2 ⟨rfl,hM⟩
 (((refine Ao hM ?_;refine Ab trivial ?_;refine Ao hM ?_)))
 refine Be (Cu c.depth (by omega) (by simp only[List.length_append,c.parent.2.1];omega) (hM.at_ (wrR g (out++c.parent.1) false))) ?_
 rintro v w3 ⟨rfl,hM⟩
 (((refine Ao hM ?_;refine Ab trivial ?_;refine Ao hM ?_)))
 refine Be (Cu c.author (by omega) (by simp only[List.length_append,c.parent.2.1];omega) (hM.at_ (wrR g (out++c.parent.1++numB c.depth) false))) ?_
 rintro v w4 ⟨rfl,hM⟩
 (((refine Ao hM ?_;refine Ab trivial ?_;refine Ao hM ?_;refine Ab trivial ?_)))
 refine Be (aXb (M:=800000000) c.props (by omega) (fun i h=>aTh (by omega) _ (hp _ (List.getElem_mem h))) h1 200 (fun x _=>Ji) (by simp only[List.length_append,c.parent.2.1];omega) (by omega) (hM.same:Mem H w0 (wrR g (out++c.parent.1++numB c.depth++numB c.author) false::wbR b g::fb g1 28 (cfd P pc Q qc W wc c)::R) _)) ?_
 rintro v w5 ⟨rfl,hM⟩
 (((refine Ao hM ?_;refine Ab trivial ?_;refine Ao hM ?_)))
 refine Be (Cx c.leaf (by simp only[List.length_append,c.parent.2.1];omega) (hM.at_ (wrR g (out++c.parent.1++numB c.depth++numB c.author++(numB c.props.length++c.props.flatMap propT)) false))) ?_
 rintro v w6 ⟨rfl,hM⟩
 (((refine Ao hM ?_;refine Ab trivial ?_;refine Ao hM ?_)))
 refine Be (Cx c.above (by simp only[List.length_append,c.parent.2.1,c.leaf.2.1];omega) (hM.at_ (wrR g (out++c.parent.1++numB c.depth++numB c.author++(numB c.props.length++c.props.flatMap propT)++c.leaf.1) false))) ?_
 rintro v w7 ⟨rfl,hM⟩
 (((refine Ao hM ?_;refine Ab trivial ?_;refine Ao hM ?_;refine Ab trivial ?_)))
 refine Be (aTg (M:=800000000) c.path (by omega) h2 h3 (fun i h C cc hC=>aTi (by omega) _ (hro _ (List.getElem_mem h)) hC) 80000 (fun x hx=>(Mt (hro x hx)).1) (by simp only[List.length_append,c.parent.2.1,c.leaf.2.1,c.above.2.1];omega) (by omega) (hM.same:Mem H w0 (wrR g (out++c.parent.1++numB c.depth++numB c.author++(numB c.props.length++c.props.flatMap propT)++c.leaf.1++c.above.1) false::wbR b g::fb g1 28 (cfd P pc Q qc W wc c)::R) _)) ?_
 rintro v w8 ⟨rfl,hM⟩
 skip
 refine⟨_,rfl,rfl,?_⟩
 have e:out++coreL c=out++c.parent.1++numB c.depth++numB c.author++(numB c.props.length++c.props.flatMap propT)++c.leaf.1++c.above.1++(numB c.path.length++c.path.flatMap rungT):=by
  unfold coreL
  simp only[List.append_assoc]
 rw[e]
 exact hM.sub
theorem aDb (hc:CmF H P Q W qs c) (hf:Fz H w):Calls prog 13 #[cv P pc Q qc W wc c] w fun en w'=>en=.returned (.string (if c.right then strOfNums (coreL c) else ByteArray.mk #[]))∧St w [] w':=by
 have hM:=Mem.start hf
 refine aDh ?_
 unfold Qh
 (((refine Bb hM ?_;clear hM;intro _ _ hM;refine Ao hM ?_)))
 refine Bn hM (Er hc hM.fz) (fun w hM=>?_)
 cases hr:c.right
 ·(((refine Ab trivial ?_;refine Am ?_)))
  exact⟨rfl,hM.st⟩
 ·(((refine Ab trivial ?_;refine Al ?_)))
  refine Be (Ig hM) ?_
  rintro v w2 ⟨g,rfl,hM⟩
  (((refine Ao hM ?_)))
  refine Be (aQo hr hc (by simp) (hM.at_ (wrR g [] false))) ?_
  rintro v w3 ⟨rfl,hM⟩
  rw[List.nil_append]at hM
  skip
  refine Bn hM (Ih hM) (fun w hM=>?_)
  (((refine Ab trivial ?_;refine Ab trivial ?_)))
  exact⟨rfl,hM.st⟩
theorem aOv (x:Wl) (ho:x.odd=false) (hb:out.length<900000000) (hM:Mem H w0 (wrR g out false::wbR b g::R) w):Calls prog 114 #[wv x,.pointer (some ⟨b,0,none⟩)] w fun en w'=>∃ v,en=.returned v∧v=.tuple #[]∧Mem H w0 (wrR g (out++welT x) false::wbR b g::R) w':=by
 obtain⟨x1,x2,x3⟩:=aOu ho
 have b1:=Az x.name
 have b2:=Az x.card
 have hs:=(Iu x3).2
 refine Ti ?_
 unfold Kn
 (((refine Bb hM ?_;clear hM;intro _ _ hM;refine Ao hM ?_;refine Ab trivial ?_;refine Ao hM ?_)))
 refine Be (Cu x.name (by omega) (by omega) (hM.at_ (wrR g out false))) ?_
 rintro v w2 ⟨rfl,hM⟩
 (((refine Ao hM ?_;refine Ab trivial ?_;refine Ao hM ?_)))
 refine Be (Cu x.card (by omega) (by rw[List.length_append];omega) (hM.at_ (wrR g (out++numB x.name) false))) ?_
 rintro v w3 ⟨rfl,hM⟩
 (((refine Ao hM ?_;refine Ab trivial ?_;refine Ao hM ?_)))
 refine Be (Pp x.wrap (by omega) (by rw[List.length_append,List.length_append];omega) (hM.at_ (wrR g (out++numB x.name++numB x.card) false))) ?_
 rintro v w4 ⟨rfl,hM⟩
 skip
 rw[List.append_assoc,List.append_assoc]at hM
 exact⟨_,rfl,rfl,(hM.sub:Mem H w0 (wrR g (out++(numB x.name++(numB x.card++textB x.wrap))) false::wbR b g::R) _)⟩
instance:FunC prog 114:=⟨by kernel_rfl⟩
theorem aLr {M:Nat} (hM9:M≤900000000) (x:Wl) (ho:x.odd=false):CloW M prog H w0 g (wbR b g) (.func (.func 114) #[] #[.pointer (some ⟨b,0,none⟩)]) (wv x) (welT x):=fun out R w K X hb hM hk=>
 Ex (aOv x ho (by omega) hM) (by rintro e w' ⟨v,rfl,rfl,h⟩;exact hk w' h)
theorem aGa (hr:c.right=true) (hc:CmF H P Q W qs c) (hf:Fz H w):Calls prog 43 #[cv P pc Q qc W wc c] w fun en w'=>en=.returned (.string (strOfNums (signedL c)))∧St w [] w':=by
 have hM:=Mem.start hf
 obtain⟨⟨f1,f2,f3,f4,f5,f6⟩,hp,hro,hwo⟩:=Cm.rt hr
 have hcl:=Mu hr
 have htl:=Id c.info
 have hl3:=hc.len.2.2.1
 have b1:=Az c.wels.length
 have b4:=Gi (f:=welT) (B:=1200) (xs:=c.wels) fun x hx=>Po (hwo x hx)
 refine Yt ?_
 unfold Nr
 (((refine Bb hM ?_;clear hM;intro _ _ hM)))
 rename_i g1 _
 refine Be (Ig hM) ?_
 rintro v w2 ⟨g,rfl,hM⟩
 (((refine Bj hM ?_;clear hM;intro _ _ hM;refine Bi hM ?_;clear hM;intro _ hM;refine Ao hM ?_;refine Ao hM ?_)))
 rename_i b _ _
 refine Be (aQo hr hc (by simp) (hM.at_ (wrR g [] false))) ?_
 rintro v w3 ⟨rfl,hM⟩
 rw[List.nil_append]at hM
 (((refine Ao hM ?_;refine Ab trivial ?_;refine Ao hM ?_)))
 refine Be (Pp c.info f5 (by omega) (hM.at_ (wrR g (coreL c) false))) ?_
 rintro v w4 ⟨rfl,hM⟩
 (((refine Ao hM ?_;refine Ab trivial ?_;refine Ao hM ?_;refine Ab trivial ?_)))
 refine Be (aXc (M:=900000000) c.wels (by omega) (fun i h=>aLr (by omega) _ (hwo _ (List.getElem_mem h))) hc.wels 1200 (fun x hx=>Po (hwo x hx)) (by rw[List.length_append];omega) (by omega) (hM.same:Mem H w (wrR g (coreL c++textB c.info) false::wbR b g::[fb g1 28 (cfd P pc Q qc W wc c)]) _)) ?_
 rintro v w5 ⟨rfl,hM⟩
 (((refine Ao hM ?_;refine Ab trivial ?_;refine Ao hM ?_)))
 refine Be (Cx c.tag (by simp only[List.length_append];omega) (hM.at_ (wrR g (coreL c++textB c.info++(numB c.wels.length++c.wels.flatMap welT)) false))) ?_
 rintro v w6 ⟨rfl,hM⟩
 (((refine Ao hM ?_)))
 refine Bn hM (Ih hM) (fun w hM=>?_)
 (((refine Ab trivial ?_;refine Ab trivial ?_)))
 exact⟨rfl,hM.st⟩
theorem aXg (hc:CmF H P Q W qs c) (hf:Fz H w):Calls prog 15 #[cv P pc Q qc W wc c] w fun en w'=>en=.returned (.string (if c.right then packS c else ByteArray.mk #[]))∧St w [] w':=by
 have hM:=Mem.start hf
 refine aDj ?_
 unfold Qi
 (((refine Bb hM ?_;clear hM;intro _ _ hM;refine Ao hM ?_)))
 refine Bn hM (Er hc hM.fz) (fun w hM=>?_)
 cases hr:c.right
 ·(((refine Ab trivial ?_;refine Am ?_)))
  exact⟨rfl,hM.st⟩
 ·have hpl:=Qd hr
  (((refine Ab trivial ?_;refine Al ?_;refine Aw hM ?_)))
  have hM0:=hM
  refine Bv hM (fun w hM=>aGa hr hc hM.fz) (fun w hx hM=>?_)
  (((refine An trivial ?_;refine An trivial ?_)))
  refine Cr hM0 ?_
  refine Dj (signedL c) c.sign.1 (by rw[c.sign.2.1];omega) ?_
  (((refine Ba hM ?_;clear hM;intro _ hM)))
  exact⟨rfl,hM.st⟩
theorem aOw (hc:CmF H P Q W qs c) (hf:Fz H w):Calls prog 11 #[cv P pc Q qc W wc c] w fun en w'=>en=.returned (ha (if c.right then idC c else hzero))∧St w [] w':=by
 have hM:=Mem.start hf
 refine aJd ?_
 unfold Xk
 (((refine Bb hM ?_;clear hM;intro _ _ hM;refine Bj hM ?_;clear hM;intro _ _ hM;refine Ao hM ?_)))
 refine Bn hM (Er hc hM.fz) (fun w hM=>?_)
 cases hr:c.right
 ·(((refine Ab trivial ?_;refine Am ?_;refine Ab trivial ?_;refine Bi hM ?_;clear hM;intro _ hM;refine Cd hM ?_)))
  exact⟨rfl,hM.st⟩
 ·have hpl:=Qd hr
  (((refine Ab trivial ?_;refine Al ?_;refine Ao hM ?_)))
  refine Bn hM (aXg hc hM.fz) (fun w hM=>?_)
  rw[hr,if_pos rfl]
  have hsz:(packS c).size=(packL c).length:=strOfNums_size _
  (((refine Bu hM ?_ ?_ ?_));(focus rfl);(focus (constructor <;> simp));((clear hM;intro _ _ hM)))
  refine Bn hM (Chg.Gk sepoch (packS c) (by rw[hsz];show 5+_<_;omega) hM) (fun w2 hM=>?_)
  (((refine Bi hM ?_;clear hM;intro _ hM;refine Cd hM ?_)))
  exact⟨rfl,hM.st⟩
end
end Go.Proofs.YtgbenhmdamnmcaaGreat.Cmt
namespace Go.Proofs.YtgbenhmdamnmcaaGreat
open Go.Proofs.Tryz
open Go.RowKit Go.Lib
abbrev one1 (lp lw lx:H32):Tr:=⟨[⟨1,lp,lw,lx⟩],[]⟩
def mixV (a b:H32):H32:=hmacH a.1 (ints (strOfNums b.1))
section
variable {H:Hp} {w0 w:World} {L R:List Res} {A B P K:Option Addr} {g n a b c pc kn kc gi pn:Nat}
theorem aIj {lp lw lx:H32} (h1:Sl H 97 A [Lf.fds ⟨1,lp,lw,lx⟩]):TrF H (tv A 1 a B 0 b) (one1 lp lw lx):=⟨⟨A,a,B,b,[],rfl,h1,Sl.nil _ _ _,trivial⟩,by simp[maxLen],by simp[maxLen]⟩
theorem aXh (lp lw lx:H32):(one1 lp lw lx).Rt:=Tr.rt.1 (Gp lp lw lx)
theorem aQp {lp lw lx:H32} (h1:Sl H 97 A [Lf.fds ⟨1,lp,lw,lx⟩]) (hf:Fz H w):Calls prog 76 #[tv A 1 a B 0 b,.int .i64 1] w fun en w'=>en=.returned (.int .i64 0)∧St w [] w':=by
 have h:=aKv (t:=one1 lp lw lx) (qs:=[]) (A:=A) (B:=B) (a:=a) (b:=b) 1 h1 (Sl.nil _ _ _) trivial (by simp[maxLen]) (by simp[maxLen]) hf
 rwa [aFw]at h
theorem bAm (x y:H32) (w:World):Calls prog 159 #[ha x,ha y] w fun en w'=>en=.returned (ha (mixV x y))∧St w [] w':=by
 have hM:=Mem.start (Fz.of w)
 refine aRn ?_
 unfold aFh
 (((refine Bb hM ?_;clear hM;intro _ _ hM;refine Bb hM ?_;clear hM;intro _ _ hM;refine Bj hM ?_;clear hM;intro _ _ hM;refine An trivial ?_;refine Cr hM ?_;refine An trivial ?_;refine Cr hM ?_;refine By hM ?_ ?_ ?_));(focus rfl);(focus (constructor <;> simp));((clear hM;intro _ _ hM)))
 refine Bv hM (fun w hM=>aVi x (strOfNums y.1) (by rw[strOfNums_size,y.2.1];decide) hM) (fun w2 hx hM=>?_)
 (((refine Cb hM ?_;clear hM;intro _ hM;refine Ba hM ?_;clear hM;intro _ hM;refine Cd hM ?_)))
 exact⟨rfl,hM.st⟩
instance (x y:H32):PurC prog 159 [.agg (u8s x.1).toArray,.agg (u8s y.1).toArray] True (.agg (u8s (mixV x y).1).toArray):=⟨fun _ w=>bAm x y w⟩
theorem bAn (x y:H32) (w:World):Calls prog 82 #[.pointer none,ha x,ha y] w fun en w'=>en=.returned (ha (mixV x y))∧St w [] w':=by
 have hM:=Mem.start (Fz.of w)
 refine aMr ?_
 unfold aBc
 (((refine Bb hM ?_;clear hM;intro _ _ hM;refine Bb hM ?_;clear hM;intro _ _ hM;refine Bj hM ?_;clear hM;intro _ _ hM;refine Ao hM ?_;refine Ao hM ?_;refine Bg hM ?_ ?_));(focus (first|exact trivial|assumption|omega));((clear hM;intro _ hM;refine Bj hM ?_;clear hM;intro _ _ hM;refine Bi hM ?_;clear hM;intro _ hM;refine Ao hM ?_;refine Ao hM ?_;refine Bu hM ?_ ?_ ?_));(focus rfl);(focus (constructor <;> simp));((clear hM;intro _ _ hM;refine Ao hM ?_;refine Bu hM ?_ ?_ ?_));(focus rfl);(focus (constructor <;> simp));((clear hM;intro _ _ hM;refine Ab trivial ?_;refine Bg hM ?_ ?_));(focus (first|exact trivial|assumption|omega));((clear hM;intro _ hM;refine Ao hM ?_;refine Bi hM ?_;clear hM;intro _ hM;refine Cd hM ?_)))
 exact⟨rfl,hM.st⟩
instance (x y:H32):PurC prog 82 [.pointer none,.agg (u8s x.1).toArray,.agg (u8s y.1).toArray] True (.agg (u8s (mixV x y).1).toArray):=⟨fun _ w=>bAn x y w⟩
theorem aTj (w:World):Calls prog 78 #[.slice none 0 0] w fun en w'=>en=.returned (.slice none 0 0)∧St w [] w':=by
 have hM:=Mem.start (Fz.of w)
 refine Ez ?_
 unfold Cw
 (((refine Ab trivial ?_)))
 exact⟨.inl ⟨rfl,rfl,hM.st⟩⟩
instance:PurC prog 78 [.slice none 0 0] True (.slice none 0 0):=⟨fun _ w=>aTj w⟩
theorem aOx (w:World):Calls prog 90 #[.slice none 0 0] w fun en w'=>en=.returned (.slice none 0 0)∧St w [] w':=by
 have hM:=Mem.start (Fz.of w)
 refine Yy ?_
 unfold Nu
 (((refine Ab trivial ?_)))
 refine⟨fun x v w'=>x=.slice none 0 0∧v=.int .i64 0∧hM.now w',fun _ _ _=>0,⟨rfl,rfl,hM⟩,?_⟩
 rintro x v u w2 ⟨rfl,rfl,hM⟩
 have hM:Mem _ _ _ _:=hM
 (((refine Br trivial ?_ ?_));(focus (first|assumption|omega|with_reducible rfl|exact fun h=>Bool.noConfusion h));((refine Al ?_)))
 exact⟨rfl,hM.st⟩
instance:PurC prog 90 [.slice none 0 0] True (.slice none 0 0):=⟨fun _ w=>aOx w⟩
theorem aTk (f:Frm) (forks:Int) (exp:H32) {lp lw lx:H32} (h1:Sl H 97 A [Lf.fds ⟨1,lp,lw,lx⟩]) (hM:Mem H w0 (fb g 67 (eraF f A 1 a B 0 b 1 K kn kc gi forks P pn pc exp)::L) w):
  Calls prog 72 #[.pointer (some ⟨g,0,none⟩)] w fun en w'=>en=.returned (.int .i64 0)∧St w [] w':=by
 refine Yw ?_
 unfold Nt
 have hB:FbF (Hp.of w) g (eraF f A 1 a B 0 b 1 K kn kc gi forks P pn pc exp):=hM.readsB
 have h1:=h1.mono (Ku hM.fz)
 have hM:=Mem.start (Fz.of w)
 (((refine Ab trivial ?_;refine Al ?_;(iterate 3 refine An trivial ?_)));(refine Us hM ‹_› ?_);((refine An trivial ?_;refine An trivial ?_));(refine Us hM ‹_› ?_))
 refine Bv hM (fun w hM=>aQp h1 hM.fz) (fun w4 _ hM2=>?_)
 replace hM:=hM2
 clear hM2
 (((refine Ba hM ?_;clear hM;intro _ hM)))
 exact⟨rfl,hM.st⟩
theorem bAo (f:Frm) {lp lw lx:H32} (hd:0≤f.depth∧f.depth≤4611686018427387903) (h1:Sl H 97 A [Lf.fds ⟨1,lp,lw,lx⟩]) (hf:Fz H w):
  Calls prog 83 #[.agg (fl (f.fds A 1 a B 0 b)).toArray] w fun en w'=>en=.returned (.string (strOfNums (ctxL f.parent f.depth (hRoot (one1 lp lw lx)) f.said)))∧St w [] w':=by
 have hM:=Mem.start hf
 refine Vu ?_
 unfold Ly
 (((refine Bb hM ?_;clear hM;intro _ _ hM;refine An trivial ?_;refine Aw hM ?_;refine An trivial ?_;refine Aw hM ?_;refine An trivial ?_;refine Aw hM ?_)))
 refine Bv hM (fun w hM=>aVy (aIj h1) hM.fz (aXh lp lw lx)) (fun w4 _ hM2=>?_)
 have hM0:=hM
 replace hM:=hM2
 clear hM2
 (((refine An trivial ?_));(refine Aw ‹Mem _ _ _ _› ?_);((refine Bd hM ?_ (fun _ _ hM=>?_)));(focus (first|exact trivial|assumption|omega));((refine Ba hM ?_;clear hM;intro _ hM)))
 exact⟨rfl,hM.st⟩
theorem aTl (f:Frm) (forks:Int) (exp:H32) (t:T64) (c:Cmt.Cm) {C D E A9 B9:Option Addr} {m cc dc ec a9 b9:Nat} (hr:c.right=true) (hc:Cmt.CmF H C D E [] c) (hM:Mem H w0 (fb g 67 (eraF f A9 1 a9 B9 0 b9 1 K kn kc gi forks P pn pc exp)::L) w):
  Calls prog 81 #[.pointer (some ⟨g,0,none⟩),tv A 1 n B 0 m,.agg (tiV t.1).toArray,Cmt.cv C cc D dc E ec c] w fun en w'=>en=.returned (.agg (fl (Frm.fds ⟨hzero,f.id,c.depth,saidH f.said (strOfNums (Cmt.coreL c)),t⟩ A 1 n B 0 m)).toArray)∧St w [] w':=by
 have hcl:=Cmt.Mu hr
 have hsz:(strOfNums (Cmt.coreL c)).size≤100000000:=by rw[strOfNums_size];omega
 refine aBb ?_
 unfold Ou
 have hB:FbF (Hp.of w) g (eraF f A9 1 a9 B9 0 b9 1 K kn kc gi forks P pn pc exp):=hM.readsB
 have hc:=hc.mono (Ku hM.fz)
 have hM:=Mem.start (Fz.of w)
 (((refine Bb hM ?_;clear hM;intro _ _ hM;refine Bb hM ?_;clear hM;intro _ _ hM;refine Bb hM ?_;clear hM;intro _ _ hM;refine Bj hM ?_;clear hM;intro _ _ hM;(iterate 3 refine An trivial ?_)));(refine Us hM ‹_› ?_);((refine An trivial ?_;refine Aw hM ?_;refine Aw hM ?_;(iterate 3 refine An trivial ?_)));(refine Us hM ‹_› ?_);((refine Aw hM ?_)))
 have hM0:=hM
 refine Bv hM (fun w hM=>Cmt.aDb hc hM.fz) (fun w4 _ hM2=>?_)
 rw[if_pos hr]
 replace hM:=hM2
 clear hM2
 (((refine Bd hM ?_ (fun _ _ hM=>?_)));(focus (first|exact trivial|assumption|omega));(refine Aw ‹Mem _ _ _ _› ?_);((refine An trivial ?_;refine Cb hM ?_;clear hM;intro _ hM;refine Ba hM ?_;clear hM;intro _ hM;refine Cd hM ?_)))
 exact⟨rfl,hM.st⟩
end
end Go.Proofs.YtgbenhmdamnmcaaGreat
namespace Go.Proofs.YtgbenhmdamnmcaaGreat
open Go.Proofs.Tryz
open Go.RowKit Go.Lib
theorem aLs (lp lw lx:H32):¬(one1 lp lw lx).nobody 0:=by
 rintro((h|h)|h)
 ·omega
 ·have:(one1 lp lw lx).size=1:=rfl
  omega
 ·have:nameAt (one1 lp lw lx).ls 0=1:=rfl
  omega
theorem grow1 (lp lw lx once:H32) (about:List Int) (ha:about.length≤65536):∃ (P X com:H32) (ks:List Ky),growT (one1 lp lw lx) 0 once about []=(⟨one1 P lw X,[],[],ks,com⟩,0)∧ks.length≤1000:=by
 have hd:dirL (one1 lp lw lx).size 0=[]:=by
  show dirL 1 0=[]
  decide +kernel
 unfold growT
 rw[if_neg (by rw[Gp];simp),if_neg (aLs lp lw lx),if_neg (by omega)]
 unfold growG
 simp only[hd]
 unfold Tr.pathP
 rw[if_neg (by rw[Gp];simp)]
 unfold Tr.pathR
 rw[if_neg (aLs lp lw lx),hd,if_neg (by simp[pubsL])]
 exact⟨pubK (leafS once) 0,sd (one1 lp lw lx) 0 [] (List.drop 1 (pubsL (leafS once) (([]:List Int).length+1))) 0,_,_,rfl,by show 1≤1000;decide⟩
end Go.Proofs.YtgbenhmdamnmcaaGreat
namespace Go.Proofs.YtgbenhmdamnmcaaGreat
open Go.Proofs.Tryz
open Go.RowKit Go.Lib
abbrev zcF:List Fd:=[.arr 32 (u8s hzero.1),.one (.int .i64 0),.one (.int .i64 0),.one (.slice none 0 0),.arr 32 (u8s hzero.1),.arr 32 (u8s hzero.1),.one (.slice none 0 0),.one (.string (ByteArray.mk #[])),.one (.slice none 0 0),.arr 32 (u8s hzero.1),.arr 32 (u8s hzero.1)]
theorem aGb (c:Cmt.Cm) (hd:1≤c.depth∧c.depth≤4611686018427387903) (ha:1≤c.author∧c.author≤64) (hp:c.props=[]) (hq:c.path=[]) (hw:c.wels=[]) (hi:c.info.size≤65536):c.right=true:=by
 obtain⟨a1,a2,a3,a4,a5,a6,a7,a8,a9,a10,a11⟩:=c
 dsimp only at *
 subst hp hq hw
 have hf:Cmt.Cm.fits ⟨a1,a2,a3,[],a5,a6,[],a8,[],a10,a11⟩:=⟨hd,ha,by simp,by simp,hi,by simp⟩
 unfold Cmt.Cm.right
 rw[decide_eq_true hf]
 rfl
theorem bDc {H:Hp} {w:World} (core:ByteArray) (hc:core.size≤100000000) (hf:Fz H w):Calls prog 80 #[.string core] w (Outp H w fun _ v=>∃ n:Int,v=.int .i64 n∧0≤n∧n<4294967296):=
 (aZk core hc w).mono fun en w' ⟨v,he,n,hv,h0,h1,hs⟩=>by
  subst he
  exact((Mem.start hf).call0 hs).out (Le.refl _ _) ⟨n,hv,h0,h1⟩
theorem bAp {H:Hp} {A B:Option Addr} {a b:Nat} {lp lw lx:H32} (h:TrF H (tv A 1 a B 0 b) (one1 lp lw lx)):Sl H 97 A [Lf.fds ⟨1,lp,lw,lx⟩]:=by
 obtain⟨A',a',B',b',q,hv,h1,-⟩:=h.ex
 simp[fl,Fd.cells]at hv
 obtain⟨⟨rfl,-⟩,-⟩:=hv
 exact h1
theorem aDc (c:Cmt.Cm) (hd:1≤c.depth∧c.depth≤4611686018427387903) (ha:1≤c.author∧c.author≤64) (hp:c.props=[]) (hq:c.path=[]) (hw:c.wels=[]) (hi:c.info.size≤2016):c.right=true:=
 aGb c hd ha hp hq hw (by omega)
theorem aOy (c:Cmt.Cm) (hp:c.props=[]) (hq:c.path=[]):(Cmt.coreL c).length≤400:=by
 have n1:=Az c.depth
 have n2:=Az c.author
 have n3:=Az (c.props.length:Int)
 have n4:=Az (c.path.length:Int)
 simp only[Cmt.coreL,List.length_append,c.parent.2.1,c.leaf.2.1,c.above.2.1]
 rw[hp]at n3 ⊢
 rw[hq]at n4 ⊢
 simp only[List.flatMap_nil,List.length_nil]at n3 n4 ⊢
 omega
theorem aIk (c:Cmt.Cm) (hp:c.props=[]) (hq:c.path=[]) (hw:c.wels=[]) (hi:c.info.size≤2016):(strOfNums (Cmt.signedL c)).size≤1000000:=by
 have n0:=aOy c hp hq
 have n1:=Cmt.Id c.info
 have n3:=Az (c.wels.length:Int)
 rw[strOfNums_size]
 simp only[Cmt.signedL,List.length_append,c.tag.2.1]
 rw[hw]at n3 ⊢
 simp only[List.flatMap_nil,List.length_nil]at n3 ⊢
 omega
theorem aQq {H:Hp} {RA:Option Addr} {c0:Cmt.Cm} (h:Cmt.CmF H none RA none [] c0) (c:Cmt.Cm) (e1:c.props=c0.props) (e2:c.path=c0.path) (e3:c.wels=c0.wels) (hi:c.info.size≤2016):Cmt.CmF H none RA none [] c:=
 ⟨by rw[e1];exact h.props,h.path,by rw[e2];exact h.path2,by rw[e3];exact h.wels,by rw[e1,e2,e3];exact⟨h.len.1,h.len.2.1,h.len.2.2.1,by simp only[maxLen];omega⟩⟩
section
variable {H:Hp} {w0 w:World} {L R:List Res} {A B P Q K:Option Addr} {n a b c pc kn kc pn ge gi si qc:Nat}
set_option maxHeartbeats 2000000 in
theorem aTm {RR:Ending→World→Prop} (f:Frm) (hf0:f.depth=0) (ini exp once lp lx:H32) (hL:Sl H 97 A [Lf.fds ⟨1,lp,Chg.verV (privK 1),lx⟩]) (hS:Sl H 34 (some ⟨si,0,none⟩) [Sd.fds ⟨0,0,ini⟩])
  (hM:Mem H w0 (fb ge 67 (eraF f A 1 a B 0 b 1 K kn kc gi 0 P 1 pc exp)::fb gi 247 [.one (.int .i64 32),.one (.slice (some ⟨si,0,none⟩) 1 1)]::L) w)
  (hR:∀ H' gch A' a' B' b' K' kn' kc' gi' P' pc' RA ra w' (c:Cmt.Cm) (fc:Frm) (exp':H32),Le w0 H H'→c.right=true→c.props=[]→c.path=[]→c.wels=[]→fc.depth=1→fc.id=Cmt.idC c→Cmt.CmF H' none RA none [] c →
   Mem H' w0 (fb gch 67 (eraF fc A' 1 a' B' 0 b' 1 K' kn' kc' gi' 0 P' 1 pc' exp')::L) w'→RR (.returned (.tuple #[Cmt.cv none 0 RA ra none 0 c,.pointer (some ⟨gch,0,none⟩),.int .i64 0])) w'):
  Calls prog 23 #[.pointer none,.pointer (some ⟨ge,0,none⟩),.slice Q 6 qc,ha (privK 1),.slice none 0 0,ha once] w RR:=by
 obtain⟨ab,ao,rfl⟩:=hL.some_ (by simp)
 have hl0:[Lf.fds ⟨1,lp,Chg.verV (privK 1),lx⟩][(0:Int).toNat]?=some (Lf.fds ⟨1,lp,Chg.verV (privK 1),lx⟩):=rfl
 refine aAm ?_
 unfold Om
 (((refine Bb hM ?_;clear hM;intro _ _ hM;refine Bb hM ?_;clear hM;intro _ _ hM;refine Bj hM ?_;clear hM;intro _ _ hM;refine Ab trivial ?_;refine Bj hM ?_;clear hM;intro _ _ hM;refine Bi hM ?_;clear hM;intro _ hM;refine Ab trivial ?_;refine Al ?_;refine Ab trivial ?_;refine Ab trivial ?_;refine Ao hM ?_;refine Br trivial ?_ ?_));(focus (first|assumption|omega|with_reducible rfl|exact fun h=>Bool.noConfusion h));((refine Al ?_;(iterate 3 refine Ab trivial ?_);refine Ao hM ?_;refine Br trivial ?_ ?_));(focus (first|assumption|omega|with_reducible rfl|exact fun h=>Bool.noConfusion h));((refine Al ?_;(iterate 4 refine An trivial ?_);refine Aw hM ?_)))
 rename_i g9 _ g11 _ g12 _ g15 _ _
 have hM0:=hM
 refine Bv hM (fun w hM=>aTk f 0 exp hL (hM.at_ (fb ge 67 (eraF f (some ⟨ab,ao,none⟩) 1 a B 0 b 1 K kn kc gi 0 P 1 pc exp)))) (fun w2 _ hM2=>?_)
 replace hM:=hM2
 clear hM2
 (((refine An ?_ ?_));(focus omega);((refine An trivial ?_)))
 refine Jl hM hL hl0 ?_
 ((refine Aw ‹Mem _ _ _ _› ?_);((refine Bd hM ?_ (fun _ _ hM=>?_)));(focus (first|exact trivial|assumption|omega)))
 refine aJb trivial (fun h=>h rfl) ?_
 clear hM0
 (((refine Ba hM ?_;clear hM;intro _ hM;refine Al ?_;(iterate 3 refine An trivial ?_);refine Aw hM ?_;(iterate 3 refine An trivial ?_);refine Aw hM ?_;(iterate 3 refine An trivial ?_);refine Aw hM ?_;(iterate 3 refine An trivial ?_);refine Aw hM ?_;refine An trivial ?_;refine An trivial ?_;refine Aw hM ?_)))
 refine Ps hM (fun w hM=>bAd f.times f.id f.depth 1 lp (Chg.verV (privK 1)) lx hL hM.fz) ?_
 clear hM
 rintro H1 r w3 _ l1 hM rfl
 have hL1:=hL.mono l1.le
 (((refine Ba hM ?_;clear hM;intro _ hM;refine Br trivial ?_ ?_));(focus (first|assumption|omega|with_reducible rfl|exact fun h=>Bool.noConfusion h));((refine Al ?_)))
 refine⟨fun x y z w'=>∃ H2 g17 g18 A2 a2 B2 b2,x=.pointer (some ⟨g17,0,none⟩)∧y=.pointer (some ⟨g18,0,none⟩)∧z=.slice none 0 0∧Le w0 H1 H2∧Sl H2 97 A2 [Lf.fds ⟨1,lp,Chg.verV (privK 1),lx⟩]∧Mem H2 w0 (fb g17 58 (tfd A2 1 a2 B2 0 b2)::fb g18 60 [.arr 64 (tiV f.times.1)]::fb g15 28 zcF::fb g12 28 zcF::fb g11 23 [.arr 32 (u8s once.1)]::fb g9 23 [.arr 32 (u8s (privK 1).1)]::fb ge 67 (eraF f (some ⟨ab,ao,none⟩) 1 a B 0 b 1 K kn kc gi 0 P 1 pc exp)::fb gi 247 [.one (.int .i64 32),.one (.slice (some ⟨si,0,none⟩) 1 1)]::L) w',?_,?_⟩
 ·repeat' apply And.intro
  all_goals
   (first|((((iterate 3 refine An trivial ?_);refine Aw hM ?_;(iterate 3 refine An trivial ?_);refine Aw hM ?_;refine Bx hM ?_;clear hM;intro _ _ hM;refine Bx hM ?_;clear hM;intro _ _ hM)))|((((iterate 3 refine An trivial ?_);refine Aw hM ?_;(iterate 3 refine An trivial ?_);refine Aw hM ?_;refine Bx hM ?_;clear hM;intro _ _ hM)))|((((iterate 3 refine An trivial ?_);refine Aw hM ?_;(iterate 3 refine An trivial ?_);refine Aw hM ?_))))
   refine Ps hM (fun w hM=>aFy f.times lp (Chg.verV (privK 1)) lx hL1 hM.fz) ?_
   clear hM
   rintro H2 r w4 _ l2 hM ⟨A2,a2,B2,b2,rfl,hs2⟩
   (first|((((iterate 4 refine An trivial ?_);refine Bx hM ?_;clear hM;intro _ _ hM;refine Bx hM ?_;clear hM;intro _ _ hM;refine Cb hM ?_;clear hM;intro _ hM;refine Cb hM ?_;clear hM;intro _ hM;refine Ba hM ?_;clear hM;intro _ hM)))|((((iterate 4 refine An trivial ?_);refine Bx hM ?_;clear hM;intro _ _ hM;refine Cb hM ?_;clear hM;intro _ hM;refine Cb hM ?_;clear hM;intro _ hM;refine Ba hM ?_;clear hM;intro _ hM)))|((((iterate 4 refine An trivial ?_);refine Cb hM ?_;clear hM;intro _ hM;refine Cb hM ?_;clear hM;intro _ hM;refine Ba hM ?_;clear hM;intro _ hM))))
   exact⟨H2,_,_,A2,a2,B2,b2,rfl,rfl,rfl,l2,hs2,hM.same⟩
 clear hM
 rintro x y z u w4 ⟨H2,g17,g18,A2,a2,B2,b2,rfl,rfl,rfl,l2,hs2,hM⟩
 ((((iterate 4 refine Ab trivial ?_);refine Hq hM ?_;refine Aw hM ?_;refine An trivial ?_;refine An trivial ?_;refine Aw hM ?_)))
 refine Bv hM (fun w hM=>aQp hs2 hM.fz) (fun w5 _ hM2=>?_)
 replace hM:=hM2
 clear hM2
 (((refine Ba hM ?_;clear hM;intro _ hM;refine Ao hM ?_;refine Ao hM ?_)))
 obtain⟨Pk,X,com,ks,hg,hks⟩:=grow1 lp (Chg.verV (privK 1)) lx once f.id.1 (by rw[f.id.2.1];omega)
 refine If hM (aZt 0 once f.id.1 [] (by omega) (by rw[f.id.2.1];omega) (by simp[maxLen]) (aIj hs2) (Sl.nil _ _ _) hM.fz) ?_
 clear hM
 rintro H3 r w6 l3 hM ⟨gv,rfl,hG⟩
 have hg1:=congrArg Prod.fst hg
 have hg2:=congrArg Prod.snd hg
 clear hg
 dsimp only at hg1 hg2
 rw[hg1]at hG
 rw[hg2]
 clear hg1 hg2
 obtain⟨TA,ta,TB,tb,RA,ra,SA,sa,KA,ka,qs,hgv,hT,-,-,-,hKg⟩:=hG
 have hgv:gv=.agg (fl (gfd TA 1 ta TB 0 tb RA 0 ra SA 0 sa KA ks.length ka com)).toArray:=hgv
 subst hgv
 have hL3:=bAp hT
 clear hT
 obtain⟨tb0,to0,rfl⟩:=hL3.some_ (by simp)
 have hl3:[Lf.fds ⟨1,Pk,Chg.verV (privK 1),X⟩][(0:Int).toNat]?=some (Lf.fds ⟨1,Pk,Chg.verV (privK 1),X⟩):=rfl
 (((refine Ab trivial ?_;refine Ab trivial ?_;refine Bj hM ?_;clear hM;intro _ _ hM;refine Bi hM ?_;clear hM;intro _ hM;refine Ab trivial ?_;refine Ab trivial ?_;refine Ao hM ?_;refine Ab ?_ ?_));(focus omega))
 rename_i g23 _ _
 refine Bt hM hL3 hl3 ?_
 (((refine Bj hM ?_;clear hM;intro _ _ hM;refine Bi hM ?_;clear hM;intro _ hM)))
 obtain⟨c0,hc0⟩:∃ c0:Cmt.Cm,c0=⟨f.id,f.depth+1,1,[],Pk,X,[],ByteArray.mk #[],[],hzero,hzero⟩:=⟨_,rfl⟩
 refine⟨fun x w'=>∃ g26,x=.pointer (some ⟨g26,0,none⟩)∧Mem H3 w0 (fb g26 28 (Cmt.cfd none 0 RA ra none 0 ⟨f.id,f.depth+1,1,[],Pk,X,[],ByteArray.mk #[],[],hzero,hzero⟩)::fb g23 139 (gfd (some ⟨tb0,to0,none⟩) 1 ta TB 0 tb RA 0 ra SA 0 sa KA ks.length ka com)::fb g17 58 (tfd A2 1 a2 B2 0 b2)::fb g18 60 [.arr 64 (tiV f.times.1)]::fb g15 28 zcF::fb g12 28 zcF::fb g11 23 [.arr 32 (u8s once.1)]::fb g9 23 [.arr 32 (u8s (privK 1).1)]::fb ge 67 (eraF f (some ⟨ab,ao,none⟩) 1 a B 0 b 1 K kn kc gi 0 P 1 pc exp)::fb gi 247 [.one (.int .i64 32),.one (.slice (some ⟨si,0,none⟩) 1 1)]::L) w',?_,?_⟩
 ·repeat' apply And.intro
  all_goals
   (first|((((iterate 3 refine An trivial ?_);refine Aw hM ?_;(iterate 3 refine An trivial ?_);refine Aw hM ?_;refine An ?_ ?_));(focus omega);((refine An trivial ?_;refine An trivial ?_;refine Aw hM ?_;refine An trivial ?_;refine Aw hM ?_;refine An trivial ?_;refine Aw hM ?_;refine An trivial ?_;refine Aw hM ?_;refine Bd hM ?_ (fun _ _ hM=>?_)));(focus (first|exact trivial|assumption|omega));((refine An trivial ?_;refine Bx hM ?_;clear hM;intro _ _ hM;refine Cb hM ?_;clear hM;intro _ hM;refine Ba hM ?_;clear hM;intro _ hM)))|((((iterate 3 refine An trivial ?_);refine Aw hM ?_;(iterate 3 refine An trivial ?_);refine Aw hM ?_;refine An ?_ ?_));(focus omega);((refine An trivial ?_;refine An trivial ?_;refine Aw hM ?_;refine An trivial ?_;refine Aw hM ?_;refine An trivial ?_;refine Aw hM ?_;refine An trivial ?_;refine Aw hM ?_;refine Bx hM ?_;clear hM;intro _ _ hM;refine Bd hM ?_ (fun _ _ hM=>?_)));(focus (first|exact trivial|assumption|omega));((refine An trivial ?_;refine Cb hM ?_;clear hM;intro _ hM;refine Ba hM ?_;clear hM;intro _ hM))))
   exact⟨_,rfl,hM.sub⟩
 rw[← hc0]
 clear hM
 rintro x u8 w7 ⟨g26,rfl,hM⟩
 have hcr:c0.right=true:=by rw[hc0];exact aGb _ (by dsimp only;omega) (by dsimp only;omega) rfl rfl rfl (show(ByteArray.mk #[]).size≤65536 by decide)
 have hcF:Cmt.CmF H3 none RA none [] c0:=by rw[hc0];exact⟨Sl.nil _ _ _,Sl.nil _ _ _,trivial,Sl.nil _ _ _,by simp[maxLen],by simp[maxLen],by simp[maxLen],(show(ByteArray.mk #[]).size≤maxLen by decide)⟩
 have hS3:=hS.mono (l1.trans (l2.trans l3)).le
 have hcl:=Cmt.Mu hcr
 have hsz:(strOfNums (Cmt.coreL c0)).size≤100000000:=by rw[strOfNums_size];omega
 skip
 refine⟨fun x y w'=>∃ (H4:Hp) (g27:Nat) (key:H32),x=.pointer (some ⟨g27,0,none⟩)∧y=.int .i64 0∧Le w0 H3 H4∧Mem H4 w0 (fb g27 23 [.arr 32 (u8s key.1)]::fb g26 28 (Cmt.cfd none 0 RA ra none 0 c0)::fb g23 139 (gfd (some ⟨tb0,to0,none⟩) 1 ta TB 0 tb RA 0 ra SA 0 sa KA ks.length ka com)::fb g17 58 (tfd A2 1 a2 B2 0 b2)::fb g18 60 [.arr 64 (tiV f.times.1)]::fb g15 28 zcF::fb g12 28 zcF::fb g11 23 [.arr 32 (u8s once.1)]::fb g9 23 [.arr 32 (u8s (privK 1).1)]::fb ge 67 (eraF f (some ⟨ab,ao,none⟩) 1 a B 0 b 1 K kn kc gi 0 P 1 pc exp)::L) w',?_,?_⟩
 ·repeat' apply And.intro
  all_goals
   (first|(((refine An trivial ?_;refine An trivial ?_;refine Aw hM ?_;refine Aw hM ?_;refine Bx hM ?_;clear hM;intro _ _ hM)))|(((refine An trivial ?_;refine An trivial ?_;refine Aw hM ?_;refine Aw hM ?_))))
   refine Bv hM (fun w hM=>Cmt.aDb hcF hM.fz) (fun w4 _ hM2=>?_)
   rw[if_pos hcr]
   replace hM:=hM2
   clear hM2
   (first|(((refine Bx hM ?_;clear hM;intro _ _ hM)))|skip)
   refine Ps hM (fun w hM=>bDc _ hsz hM.fz) ?_
   clear hM
   rintro H4 r w8 _ l4 hM ⟨n,rfl,hn0,hn1⟩
   have hS4:=hS3.mono l4.le
   (first|(((refine Bx hM ?_;clear hM;intro _ _ hM)))|skip)
   refine La hM (fun w hM=>aZw ini n ⟨hn0,hn1⟩ hS4 (hM.at_ (fb gi 247 [.one (.int .i64 32),.one (.slice (some ⟨si,0,none⟩) 1 1)]))) ?_
   clear hM
   rintro r w9 ⟨key,rfl,hM⟩
   (first|(((refine An trivial ?_;refine An trivial ?_;refine Bx hM ?_;clear hM;intro _ _ hM;refine Cb hM ?_;clear hM;intro _ hM;refine Ba hM ?_;clear hM;intro _ hM)))|(((refine An trivial ?_;refine An trivial ?_;refine Cb hM ?_;clear hM;intro _ hM;refine Ba hM ?_;clear hM;intro _ hM))))
   exact⟨H4,_,key,rfl,rfl,l4,hM.same⟩
 clear hM
 rintro x y u9 w8 ⟨H4,g27,key,rfl,rfl,l4,hM⟩
 have hcF4:=hcF.mono l4.le
 have hL4:=hL3.mono l4.le
 (((refine Br trivial ?_ ?_));(focus (first|assumption|omega|with_reducible rfl|exact fun h=>Bool.noConfusion h));((refine Al ?_;refine Ab trivial ?_;(iterate 3 refine Ao hM ?_))))
 refine Bn hM (aTl f 0 exp f.times c0 hcr hcF4 (hM.at_ (fb ge 67 (eraF f (some ⟨ab,ao,none⟩) 1 a B 0 b 1 K kn kc gi 0 P 1 pc exp)))) (fun w9 hM2=>?_)
 replace hM:=hM2
 clear hM2
 obtain⟨fr,hfr⟩:∃ fr:Frm,fr=⟨hzero,f.id,c0.depth,saidH f.said (strOfNums (Cmt.coreL c0)),f.times⟩:=⟨_,rfl⟩
 rw[← hfr]
 have hcd:c0.depth=1:=by rw[hc0];dsimp only;omega
 have hfd:0≤fr.depth∧fr.depth≤4611686018427387903:=by rw[hfr];dsimp only;omega
 have hcx:(strOfNums (ctxL fr.parent fr.depth (hRoot (one1 Pk (Chg.verV (privK 1)) X)) fr.said)).size≤1000000:=by
  have:=Az fr.depth
  rw[strOfNums_size]
  simp only[ctxL,List.length_append,fr.parent.2.1,fr.said.2.1,(hRoot (one1 Pk (Chg.verV (privK 1)) X)).2.1]
  omega
 (((refine Bj hM ?_;clear hM;intro _ _ hM;refine Bi hM ?_;clear hM;intro _ hM)))
 rename_i g29 _ _
 refine⟨fun x w'=>∃ (g30:Nat) (sec:Sec),x=.pointer (some ⟨g30,0,none⟩)∧Mem H4 w0 (fb g30 123 sec.fds::fb g29 62 (fr.fds (some ⟨tb0,to0,none⟩) 1 ta TB 0 tb)::fb g27 23 [.arr 32 (u8s key.1)]::fb g26 28 (Cmt.cfd none 0 RA ra none 0 c0)::fb g23 139 (gfd (some ⟨tb0,to0,none⟩) 1 ta TB 0 tb RA 0 ra SA 0 sa KA ks.length ka com)::fb g17 58 (tfd A2 1 a2 B2 0 b2)::fb g18 60 [.arr 64 (tiV f.times.1)]::fb g15 28 zcF::fb g12 28 zcF::fb g11 23 [.arr 32 (u8s once.1)]::fb g9 23 [.arr 32 (u8s (privK 1).1)]::fb ge 67 (eraF f (some ⟨ab,ao,none⟩) 1 a B 0 b 1 K kn kc gi 0 P 1 pc exp)::L) w',?_,?_⟩
 ·repeat' apply And.intro
  all_goals
   (first|(((refine Aw hM ?_;refine An trivial ?_;refine Aw hM ?_;refine Aw hM ?_;refine Bd hM ?_ (fun _ _ hM=>?_)));(focus (first|exact trivial|assumption|omega));((refine Bx hM ?_;clear hM;intro _ _ hM)))|(((refine Aw hM ?_;refine An trivial ?_;refine Aw hM ?_;refine Aw hM ?_;refine Bx hM ?_;clear hM;intro _ _ hM;refine Bd hM ?_ (fun _ _ hM=>?_)));(focus (first|exact trivial|assumption|omega)))|(((refine Aw hM ?_;refine An trivial ?_;refine Aw hM ?_;refine Aw hM ?_;refine Bd hM ?_ (fun _ _ hM=>?_)));(focus (first|exact trivial|assumption|omega))))
   refine Bv hM (fun w hM=>bAo fr hfd hL4 hM.fz) (fun w4 _ hM2=>?_)
   replace hM:=hM2
   clear hM2
   (first|(((refine Bx hM ?_;clear hM;intro _ _ hM)))|skip)
   refine Bv hM (fun w hM=>aPz _ _ hcx w) (fun w4 _ hM2=>?_)
   replace hM:=hM2
   clear hM2
   generalize secOf _ _=sec
   (first|(((refine Bx hM ?_;clear hM;intro _ _ hM;refine Cb hM ?_;clear hM;intro _ hM;refine Ba hM ?_;clear hM;intro _ hM)))|(((refine Cb hM ?_;clear hM;intro _ hM;refine Ba hM ?_;clear hM;intro _ hM))))
   exact⟨_,sec,rfl,hM.same⟩
 clear hM
 rintro x u10 w10 ⟨g30,sec,rfl,hM⟩
 skip
 refine Be (Ig hM) ?_
 clear hM
 rintro v w11 ⟨gw,rfl,hM⟩
 (((refine Ab trivial ?_;refine Ao hM ?_)))
 refine Be (Cx fr.said (by simp) (hM.at_ (wrR gw [] false))) ?_
 clear hM
 rintro v w12 ⟨rfl,hM⟩
 rw[List.nil_append]at hM
 (((refine Ab trivial ?_;refine Ao hM ?_)))
 refine⟨fun v w'=>∃ (i:Nat) (out:List Int),v=.int .i64 i∧i≤64∧out.length≤32+8*i∧Mem H4 w0 (wrR gw out false::fb g30 123 sec.fds::fb g29 62 (fr.fds (some ⟨tb0,to0,none⟩) 1 ta TB 0 tb)::fb g27 23 [.arr 32 (u8s key.1)]::fb g26 28 (Cmt.cfd none 0 RA ra none 0 c0)::fb g23 139 (gfd (some ⟨tb0,to0,none⟩) 1 ta TB 0 tb RA 0 ra SA 0 sa KA ks.length ka com)::fb g17 58 (tfd A2 1 a2 B2 0 b2)::fb g18 60 [.arr 64 (tiV f.times.1)]::fb g15 28 zcF::fb g12 28 zcF::fb g11 23 [.arr 32 (u8s once.1)]::fb g9 23 [.arr 32 (u8s (privK 1).1)]::fb ge 67 (eraF f (some ⟨ab,ao,none⟩) 1 a B 0 b 1 K kn kc gi 0 P 1 pc exp)::L) w',fun v _=>match v with | .int _ k=>64 - k.toNat|_=>0,⟨0,fr.said.1,rfl,by omega,by rw[fr.said.2.1];omega,hM⟩,?_⟩
 clear hM
 rintro v u11 w13 ⟨i,out,rfl,hi,ho,hM⟩
 (((refine Av trivial ?_ ?_)))
 ·intro hlt
  have hti:=fr.times.2.1
  have hx:=fr.times.2.2 (fr.times.1[i]'(by omega)) (List.getElem_mem _)
  have hnx:=Az (fr.times.1[i]'(by omega))
  (((refine Am ?_)))
  refine Bw (Kx _ 3 64 (tiV fr.times.1).toArray _ (i:Int) (.int .i64 (fr.times.1[i]'(by omega))) (by kernel_rfl) (by kernel_rfl) (by omega) (by omega) (by simp[tiV])) ?_
  refine Be (Cu _ hx (by omega) hM) ?_
  clear hM
  rintro v w14 ⟨rfl,hM⟩
  (((refine Ab ?_ ?_));(focus omega))
  exact⟨⟨i+1,_,rfl,by omega,by rw[List.length_append];omega,hM⟩,by dsimp only;omega⟩
 intro hge
 obtain rfl:i=64:=by omega
 have hpk:(packB (one1 Pk (Chg.verV (privK 1)) X)).length≤200:=by
  have h1:=Az ((one1 Pk (Chg.verV (privK 1)) X).ls.length:Int)
  have h2:=aIg (l:=(one1 Pk (Chg.verV (privK 1)) X).ls) (f:=leafB) (k:=105) fun l _=>Qb l
  have h3:(one1 Pk (Chg.verV (privK 1)) X).ls.length=1:=rfl
  have h4:(one1 Pk (Chg.verV (privK 1)) X).ps.flatMap parentB=[]:=rfl
  unfold packB
  rw[List.length_append,List.length_append,h4,List.length_nil]
  omega
 (((refine Al ?_;refine Ab trivial ?_;refine Ao hM ?_)))
 refine Bn hM (bCz (aXh Pk (Chg.verV (privK 1)) X) (aIj hL4) hM.fz) (fun w14 hM2=>?_)
 replace hM:=hM2
 clear hM2
 generalize packB (one1 Pk (Chg.verV (privK 1)) X)=pk at hpk ⊢
 have htb:=Cmt.Id (strOfNums pk)
 rw[strOfNums_size]at htb
 refine Be (Cmt.Pp (strOfNums pk) (by rw[strOfNums_size];omega) (by omega) (hM.at_ (wrR gw out false))) ?_
 clear hM
 rintro v w15 ⟨rfl,hM⟩
 have ho2:(out++Cmt.textB (strOfNums pk)).length≤2000:=by rw[List.length_append];omega
 generalize out++Cmt.textB (strOfNums pk)=out2 at ho2 hM
 skip
 refine Bn hM (Ih hM) (fun w16 hM2=>?_)
 replace hM:=hM2
 clear hM2
 ((((iterate 3 refine Ab trivial ?_);refine Ao hM ?_)))
 rw[show strOfNums out2=strOfNums (ints (strOfNums out2)) from(Sn _).symm]
 have ho3:(ints (strOfNums out2)).length≤2000:=by rw[Bm,strOfNums_size];exact ho2
 have hr3:=Re (strOfNums out2)
 generalize ints (strOfNums out2)=inf at ho3 hr3 ⊢
 refine Bn hM (aPy sec.welcome f.id.1 inf (by rw[f.id.2.1];omega) hr3 (by omega) (Sl.nil H4 32 none) rfl (by omega) hM.fz) (fun w17 hM2=>?_)
 replace hM:=hM2
 clear hM2
 have hsl:=aFr sec.welcome f.id.1 inf
 have hss:(strOfNums (sealL rowK tagK sec.welcome f.id.1 inf)).size≤2016:=by rw[strOfNums_size];omega
 generalize strOfNums (sealL rowK tagK sec.welcome f.id.1 inf)=info at hss ⊢
 (((refine Ab trivial ?_;refine Bi hM ?_;clear hM;intro _ hM;refine Ab trivial ?_;refine Ao hM ?_;refine Ab trivial ?_)))
 refine If hM (Sb 1 0 (by omega) hM.fz) ?_
 clear hM
 rintro H5 r w18 l5 hM ⟨WA,wc,rfl,-⟩
 have hL5:=hL4.mono l5.le
 have hK5:=hKg.mono (l4.trans l5).le
 (((refine Bg hM ?_ ?_));(focus (first|exact trivial|assumption|omega));((clear hM;intro _ hM;refine Ab trivial ?_)))
 refine⟨fun v w'=>v=.int .i64 0∧hM.now w',fun _ _=>0,⟨rfl,hM⟩,?_⟩
 rintro v u12 w19 ⟨rfl,hM⟩
 have hM:Mem _ _ _ _:=hM
 (((refine Br trivial ?_ ?_));(focus (first|assumption|omega|with_reducible rfl|exact fun h=>Bool.noConfusion h));((refine Al ?_;refine Ab trivial ?_;refine Ao hM ?_;refine Ab trivial ?_;refine Ao hM ?_)))
 refine Bn hM (aZj sec.confirm fr.said _) (fun w20 hM2=>?_)
 replace hM:=hM2
 clear hM2
 generalize tagH sec.confirm fr.said=tg
 have hp0:c0.props=[]:=by rw[hc0]
 have hq0:c0.path=[]:=by rw[hc0]
 have hw0:c0.wels=[]:=by rw[hc0]
 have ha0:c0.author=1:=by rw[hc0]
 have hcF5:=hcF4.mono l5.le
 obtain⟨c2,hc2⟩:∃ c2:Cmt.Cm,c2=⟨c0.parent,c0.depth,c0.author,c0.props,c0.leaf,c0.above,c0.path,info,c0.wels,tg,c0.sign⟩:=⟨_,rfl⟩
 have e1:c2.props=c0.props:=by rw[hc2]
 have e2:c2.path=c0.path:=by rw[hc2]
 have e3:c2.wels=c0.wels:=by rw[hc2]
 have e4:c2.info.size≤2016:=by rw[hc2];exact hss
 have e5:c2.depth=1:=by rw[hc2];exact hcd
 have e6:c2.author=1:=by rw[hc2];exact ha0
 have hcr2:c2.right=true:=aDc c2 (by omega) (by omega) (e1.trans hp0) (e2.trans hq0) (e3.trans hw0) e4
 have hcF2:=aQq hcF5 c2 e1 e2 e3 e4
 have hsg:=aIk c2 (e1.trans hp0) (e2.trans hq0) (e3.trans hw0) e4
 (((refine Ab trivial ?_;refine Bi hM ?_;clear hM;intro _ hM;refine Aw hM ?_;refine Aw hM ?_)))
 have ec:[Fd.arr 32 (u8s c0.parent.1),.one (.int .i64 c0.depth),.one (.int .i64 c0.author),.one (.slice none c0.props.length 0),.arr 32 (u8s c0.leaf.1),.arr 32 (u8s c0.above.1),.one (.slice RA c0.path.length ra),.one (.string info),.one (.slice none c0.wels.length 0),.arr 32 (u8s tg.1),.arr 32 (u8s c0.sign.1)]=Cmt.cfd none 0 RA ra none 0 c2:=by rw[hc2]
 rw[ec]at hM ⊢
 refine Bv hM (fun w hM=>Cmt.aGa hcr2 hcF2 hM.fz) (fun w21 _ hM2=>?_)
 have hM0:=hM
 replace hM:=hM2
 clear hM2
 generalize Cmt.signedL c2=sgt at hsg ⊢
 (((refine Bd hM ?_ (fun _ _ hM=>?_)));(focus (first|exact trivial|assumption|omega));((refine An trivial ?_;refine Cb hM ?_;clear hM;intro _ hM;refine Ba hM ?_;clear hM;intro _ hM;refine Ao hM ?_)))
 generalize Chg.signV (Chg.verV (privK 1)) (ints (strOfNums sgt))=sg at hM ⊢
 obtain⟨c3,hc3⟩:∃ c3:Cmt.Cm,c3=⟨c2.parent,c2.depth,c2.author,c2.props,c2.leaf,c2.above,c2.path,c2.info,c2.wels,c2.tag,sg⟩:=⟨_,rfl⟩
 have i1:c3.props=c0.props:=by rw[hc3];exact e1
 have i2:c3.path=c0.path:=by rw[hc3];exact e2
 have i3:c3.wels=c0.wels:=by rw[hc3];exact e3
 have i4:c3.info.size≤2016:=by rw[hc3];exact e4
 have i5:c3.depth=1:=by rw[hc3];exact e5
 have i6:c3.author=1:=by rw[hc3];exact e6
 have hcr3:c3.right=true:=aDc c3 (by omega) (by omega) (i1.trans hp0) (i2.trans hq0) (i3.trans hw0) i4
 have hcF3:=aQq hcF5 c3 i1 i2 i3 i4
 have ec3:[Fd.arr 32 (u8s c2.parent.1),.one (.int .i64 c2.depth),.one (.int .i64 c2.author),.one (.slice none c2.props.length 0),.arr 32 (u8s c2.leaf.1),.arr 32 (u8s c2.above.1),.one (.slice RA c2.path.length ra),.one (.string c2.info),.one (.slice none c2.wels.length 0),.arr 32 (u8s c2.tag.1),.arr 32 (u8s sg.1)]=Cmt.cfd none 0 RA ra none 0 c3:=by rw[hc3]
 rw[ec3]at hM ⊢
 clear hM0
 refine Bn hM (Cmt.aOw hcF3 hM.fz) (fun w22 hM2=>?_)
 rw[if_pos hcr3]
 replace hM:=hM2
 clear hM2
 (((refine Ab trivial ?_;refine Bi hM ?_;clear hM;intro _ hM;refine Aw hM ?_;refine An trivial ?_;refine An trivial ?_;refine Aw hM ?_;refine An trivial ?_;refine Aw hM ?_;refine Aw hM ?_)))
 obtain⟨fc,hfc⟩:∃ fc:Frm,fc=⟨Cmt.idC c3,fr.parent,fr.depth,fr.said,fr.times⟩:=⟨_,rfl⟩
 have hfcd:fc.depth=1:=by rw[hfc,hfr];exact hcd
 have hfci:fc.id=Cmt.idC c3:=by rw[hfc]
 have ef:[Fd.arr 32 (u8s (Cmt.idC c3).1),.arr 32 (u8s fr.parent.1),.one (.int .i64 fr.depth),.one (.slice (some ⟨tb0,to0,none⟩) 1 ta),.one (.slice TB 0 tb),.arr 32 (u8s fr.said.1),.arr 64 (tiV fr.times.1)]=fc.fds (some ⟨tb0,to0,none⟩) 1 ta TB 0 tb:=by rw[hfc]
 rw[ef]at hM ⊢
 have hKr:(List.map Ky.fds ks:List (List Fd))=(ks.map Ky.kr).map Kr.fds:=by rw[List.map_map];rfl
 have hK6:Sl H5 33 KA ((ks.map Ky.kr).map Kr.fds):=by rw[← hKr];exact hK5
 have hkl:(ks.map Ky.kr).length=ks.length:=List.length_map ..
 have hem:=fun(w:World) (hM:Mem H5 w0 (wrR gw out2 false::fb g30 123 sec.fds::fb g29 62 (fc.fds (some ⟨tb0,to0,none⟩) 1 ta TB 0 tb)::fb g27 23 [.arr 32 (u8s key.1)]::fb g26 28 (Cmt.cfd none 0 RA ra none 0 c3)::fb g23 139 (gfd (some ⟨tb0,to0,none⟩) 1 ta TB 0 tb RA 0 ra SA 0 sa KA ks.length ka com)::fb g17 58 (tfd A2 1 a2 B2 0 b2)::fb g18 60 [.arr 64 (tiV f.times.1)]::fb g15 28 zcF::fb g12 28 zcF::fb g11 23 [.arr 32 (u8s once.1)]::fb g9 23 [.arr 32 (u8s (privK 1).1)]::fb ge 67 (eraF f (some ⟨ab,ao,none⟩) 1 a B 0 b 1 K kn kc gi 0 P 1 pc exp)::L) w)=>
  aLq (kc:=ka) (a:=ta) (b:=tb) (B:=TB) (RR:=fun en w'=>∃ v,en=.returned v∧∃ H' gch gi' si' A' a' B' b' K' kn' kc' P' pc',v=.tuple #[.pointer (some ⟨gch,0,none⟩),.int .i64 0]∧Le w0 H5 H' ∧
   Mem H' w0 (fb gch 67 (eraF fc A' 1 a' B' 0 b' 1 K' kn' kc' gi' 0 P' 1 pc' sec.export_)::fb gi' 247 [.one (.int .i64 32),.one (.slice (some ⟨si',0,none⟩) 1 1)]::fb g26 28 (Cmt.cfd none 0 RA ra none 0 c3)::fb g12 28 zcF::fb ge 67 (eraF f (some ⟨ab,ao,none⟩) 1 a B 0 b 1 K kn kc gi 0 P 1 pc exp)::L) w')
  fc Pk (Chg.verV (privK 1)) X sec (ks.map Ky.kr) (by rw[hkl];exact hks) (by omega) hL5 hK6 hM
  (fun H' gch gi' si' A' a' B' b' K' kn' kc' P' pc' w' h1 _ _ h4=>⟨_,rfl,H',gch,gi',si',A',a',B',b',K',kn',kc',P',pc',rfl,h1,h4.sub⟩)
 rw[hkl]at hem
 refine La hM hem ?_
 clear hM hem
 rintro r w23 ⟨H6,gch,gi',si',A',a',B',b',K',kn',kc',P',pc',rfl,l6,hM⟩
 (((refine An trivial ?_;refine An trivial ?_;refine Ba hM ?_;clear hM;intro _ hM;refine Ab trivial ?_;refine Ab trivial ?_;refine Ao hM ?_;refine Ab ?_ ?_));(focus omega);((refine Ab trivial ?_;refine Ab trivial ?_;refine Bi hM ?_;clear hM;intro _ hM;refine Ao hM ?_;refine Bi hM ?_;clear hM;intro _ hM;refine Cd hM ?_)))
 exact hR H6 gch A' a' B' b' K' kn' kc' gi' P' pc' RA ra _ c3 fc sec.export_ (l1.trans (l2.trans (l3.trans (l4.trans (l5.trans l6))))) hcr3 (i1.trans hp0) (i2.trans hq0) (i3.trans hw0) hfcd hfci (hcF3.mono l6.le) hM.sub
end
end Go.Proofs.YtgbenhmdamnmcaaGreat
namespace Go.Proofs.YtgbenhmdamnmcaaGreat
open Go.Proofs.Tryz
open Go.RowKit Go.Lib
theorem aDd {H:Hp} {w:World} (hf:Fz H w):Calls prog 8 #[] w fun en w'=>en=.returned (.bool true)∧St w [] w':=by
 have hM:=Mem.start hf
 refine Su ?_
 unfold Ki
 skip
 refine If hM (aQl hM.fz) ?_
 clear hM
 rintro H1 v w2 l1 hM ⟨A,c,ps,rfl,hA,hps⟩
 (((refine Ab ?_ ?_));(focus (simp only[and_true];omega));((refine Bg hM ?_ ?_));(focus (first|exact trivial|assumption|omega));((clear hM;intro _ hM)))
 refine Ee (aWy (RR:=fun en w'=>∃ v,en=.returned v∧∃ H' ge gi si A' a' B' b' K' kn kc' P' pc,∃ (f:Frm) (x ini exp:H32),v=.tuple #[.pointer (some ⟨ge,0,none⟩),.int .i64 0]∧Le w H1 H'∧f.depth=0∧Sl H' 97 A' [Lf.fds ⟨1,pubH (leafK 1 0),Chg.verV (privK 1),x⟩]∧Sl H' 34 (some ⟨si,0,none⟩) [Sd.fds ⟨0,0,ini⟩] ∧
   Mem H' w (fb ge 67 (eraF f A' 1 a' B' 0 b' 1 K' kn kc' gi 0 P' 1 pc exp)::fb gi 247 [.one (.int .i64 32),.one (.slice (some ⟨si,0,none⟩) 1 1)]::[]) w') (hset hzero 0 9) ps hA hps hM (fun H' ge gi si A' a' B' b' K' kn kc' P' pc w' f x ini exp h1 h2 h3 h4 h5=>⟨_,rfl,H',ge,gi,si,A',a',B',b',K',kn,kc',P',pc,f,x,ini,exp,rfl,h1,h2,h3,h4,h5⟩)) ?_
 clear hM
 rintro en w3 ⟨v,rfl,H2,ge,gi,si,A2,a2,B2,b2,K2,kn,kc,P2,pc,f,lx,ini,exp,rfl,l2,hf0,hL,hS,hM⟩
 (((refine Ab trivial ?_;refine Ab trivial ?_)))
 refine If hM (aQl hM.fz) ?_
 clear hM
 rintro H3 v w4 l3 hM ⟨A3,c3,ps3,rfl,-,-⟩
 (((refine Bg hM ?_ ?_));(focus (first|exact trivial|assumption|omega));((clear hM;intro _ hM;refine Ab ?_ ?_));(focus (simp only[and_true];omega)))
 refine Ee (aTm (H:=H3) (RR:=fun en w'=>∃ v,en=.returned v∧∃ H' gch A' a' B' b' K' kn' kc' gi' P' pc' RA ra,∃ (c:Cmt.Cm) (fc:Frm) (exp':H32),v=.tuple #[Cmt.cv none 0 RA ra none 0 c,.pointer (some ⟨gch,0,none⟩),.int .i64 0]∧Le w H3 H'∧c.right=true∧c.props=[]∧c.path=[]∧c.wels=[]∧fc.depth=1∧fc.id=Cmt.idC c∧Cmt.CmF H' none RA none [] c ∧
   Mem H' w (fb gch 67 (eraF fc A' 1 a' B' 0 b' 1 K' kn' kc' gi' 0 P' 1 pc' exp')::[]) w') f hf0 ini exp (hset hzero 0 8) (pubH (leafK 1 0)) lx (hL.mono l3.le) (hS.mono l3.le) hM
   (fun H' gch A' a' B' b' K' kn' kc' gi' P' pc' RA ra w' c fc exp' h1 h2 h3 h4 h5 h6 h7 h8 h9=>⟨_,rfl,H',gch,A',a',B',b',K',kn',kc',gi',P',pc',RA,ra,c,fc,exp',rfl,h1,h2,h3,h4,h5,h6,h7,h8,h9⟩)) ?_
 clear hM
 rintro en w5 ⟨v,rfl,H4,gch,A4,a4,B4,b4,K4,kn4,kc4,gi4,P4,pc4,RA,ra,c,fc,exp4,rfl,l4,hcr,hp0,hq0,hw0,hcd,hci,hcF,hM⟩
 ((((iterate 3 refine Ab trivial ?_);refine Bj hM ?_;clear hM;intro _ _ hM;refine Bi hM ?_;clear hM;intro _ hM;refine Qg trivial ?_ ?_));(focus (first|assumption|omega|with_reducible rfl|exact fun h=>Bool.noConfusion h));((refine Bh ?_;refine Aw hM ?_;refine Ae ?_)))
 rename_i g3 _ _
 refine Bv hM (fun w hM=>Cmt.Er hcF hM.fz) (fun w6 _ hM2=>?_)
 rw[hcr]
 have hM0:=hM
 replace hM:=hM2
 clear hM2
 (((refine An trivial ?_;refine Bh ?_;refine An trivial ?_;refine Bh ?_;refine Aw hM ?_;refine Bh ?_;refine An trivial ?_;refine Bh ?_;refine An trivial ?_;refine Bh ?_;refine Aw hM ?_;refine Bh ?_;refine An trivial ?_;refine Bh ?_)))
 rw[hq0,hw0]
 simp only[List.length_nil]
 (((refine An ?_ ?_));(focus omega);((refine Bh ?_;refine An trivial ?_;refine Bh ?_;refine Aw hM ?_;refine Bh ?_;refine An trivial ?_;refine Bh ?_)))
 rw[hp0]
 simp only[List.length_nil]
 (((refine An ?_ ?_));(focus omega);((refine Bh ?_;refine Qg trivial ?_ ?_));(focus (first|assumption|omega|with_reducible rfl|exact fun h=>Bool.noConfusion h));((refine An trivial ?_;refine Bh ?_;refine An trivial ?_;refine Bh ?_;refine An trivial ?_;refine An trivial ?_;refine Bh ?_;refine An trivial ?_;refine Bh ?_;refine An trivial ?_;refine Bh ?_;refine An trivial ?_;refine Bh ?_;refine An trivial ?_;refine Bh ?_;refine Aw hM ?_;refine Bh ?_;refine Qg trivial ?_ ?_));(focus (first|assumption|omega|with_reducible rfl|exact fun h=>Bool.noConfusion h));((refine An trivial ?_;refine Bh ?_;refine An trivial ?_;refine Bh ?_;refine An trivial ?_;refine Bh ?_;refine An trivial ?_;refine Bh ?_;refine An trivial ?_;refine Bh ?_;refine Aw hM ?_;refine Bh ?_;refine Aw hM ?_;refine Ae ?_)))
 refine Bv hM (fun w hM=>Cmt.aOw hcF hM.fz) (fun w7 _ hM2=>?_)
 rw[if_pos hcr,hci]
 replace hM:=hM2
 clear hM2
 (((refine Bh ?_;refine Qg trivial ?_ ?_));(focus (first|assumption|omega|with_reducible rfl|exact fun h=>Bool.noConfusion h));((refine An trivial ?_;refine Ba hM ?_;clear hM;intro _ hM)))
 simp only[decide_true,decide_eq_true_eq,true_and]
 exact hM.st
end Go.Proofs.YtgbenhmdamnmcaaGreat
