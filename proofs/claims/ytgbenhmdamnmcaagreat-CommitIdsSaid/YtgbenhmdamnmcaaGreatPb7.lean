/- Part 7 of the proof. -/
import Derived.Test.YtgbenhmdamnmcaaGreatPb6
import Derived.Deep.OwnRows
set_option linter.unusedVariables false
namespace Go.Proofs.YtgbenhmdamnmcaaGreat
open Tryz
open Go.RowKit Go.Lib
theorem aVw:∀ n:Fin 65,1≤n.val→thr (n.val:Int) (root n.val):=by decide +kernel
theorem aVx {n:Int} (h:1≤n∧n≤64):thr n (root n):=by
 have:=aVw ⟨n.toNat,by omega⟩ (by simp only;omega)
 simpa only [Int.toNat_of_nonneg (show 0≤n by omega)] using this
section
variable {H:Hp} {w0 w:World} {L R:List Res} {g:Nat} {A B:Option Addr} {a b:Nat} {t:Tr} {qs:List (List Fd)}
theorem aVy {v:Value} (h:TrF H v t) (hf:Fz H w) (hR:t.Rt):Calls prog 65 #[v] w fun en w'=>en=.returned (ha (hRoot t))∧St w [] w':=by
 obtain⟨A,a,B,b,qs,rfl,h1,h2,h3⟩:=h.ex
 have hM:=Mem.start hf
 have hlen:=hR.len
 refine aJj ?_
 unfold Xn
 (((refine Bb hM ?_;clear hM;intro _ _ hM;refine Bj hM ?_;clear hM;intro _ _ hM;refine Ao hM ?_)))
 refine Bn hM (Ug h1 h2 h3 h.len.1 h.len.2 hM.fz) (fun w hM=>?_)
 rw[if_pos (Tr.rt.2 hR)]
 (((refine Bi hM ?_;clear hM;intro _ hM;refine Ab trivial ?_;refine Ao hM ?_;refine Ab trivial ?_)))
 unfold hRoot
 by_cases hn:t.ls=[]
 ·have hl0:t.ls.length=0:=by rw[hn];rfl
  rw[if_pos hn]
  (((refine Cc trivial ?_ ?_));(focus (first|assumption|omega|with_reducible rfl|exact fun h=>Bool.noConfusion h));((refine Am ?_;refine Bu hM ?_ ?_ ?_));(focus rfl);(focus (constructor <;> simp));((clear hM;intro _ _ hM)))
  refine Bn hM (aZb bnone (by decide) hM) (fun w hM=>?_)
  (((refine Bi hM ?_;clear hM;intro _ hM;refine Cd hM ?_)))
  exact⟨rfl,hM.st⟩
 ·have hl0:0<t.ls.length:=List.length_pos_iff.2 hn
  rw[if_neg hn]
  have hts:t.size=t.ls.length:=rfl
  have hrt:thr t.size (root t.size):=aVx ⟨by omega,by omega⟩
  have hlv:level (root t.size)≤8:=by
   have:=(aKr (x:=root t.size) (by have:=hrt.2;omega)).2.2.2.2
   omega
  (((refine Br trivial ?_ ?_));(focus (first|assumption|omega|with_reducible rfl|exact fun h=>Bool.noConfusion h));((refine Al ?_;refine Aw hM ?_;refine An trivial ?_;refine Aw hM ?_;refine An trivial ?_;refine Bd hM ?_ (fun _ _ hM=>?_)));(focus (first|exact trivial|assumption|omega)))
  refine Bv hM (fun w hM=>aFp (hR.gd hn) h1 h2 h3 8 (root t.size) hlv hrt w hM.fz) (fun w' hx hM=>?_)
  (((refine Cb hM ?_;clear hM;intro _ hM;refine Ba hM ?_;clear hM;intro _ hM;refine Cd hM ?_)))
  exact⟨rfl,hM.st⟩
end
end Go.Proofs.YtgbenhmdamnmcaaGreat
namespace Go.Proofs.YtgbenhmdamnmcaaGreat
open Tryz
open Go.RowKit Go.Lib
abbrev sabove:List Int:=[97,98,111,118,101]
def wNode (pl:Int) (way:List Int):Nat→Int
 | 0=>2*pl
 | m+1=>way.getD m 0
def sdR (t:Tr) (pl:Int) (way:List Int) (keys:List H32):Nat→Nat→H32
 | 0,_=>hzero
 | f+1,m=>shaH (sabove++((keys.getD m hzero).1++(sdR t pl way keys f (m+1)).1++(hAt 8 t (bs t.size (wNode pl way m))).1))
def sd (t:Tr) (pl:Int) (way:List Int) (keys:List H32) (m:Nat):H32:=sdR t pl way keys (way.length - m) m
theorem bCf {t:Tr} {pl:Int} {way:List Int} {keys:List H32}:sd t pl way keys way.length=hzero:=by
 unfold sd
 rw[Nat.sub_self]
 rfl
theorem aZc {t:Tr} {pl:Int} {way:List Int} {keys:List H32} {m:Nat} (h:m<way.length):sd t pl way keys m=shaH (sabove++((keys.getD m hzero).1++(sd t pl way keys (m+1)).1++(hAt 8 t (bs t.size (wNode pl way m))).1)):=by
 unfold sd
 obtain⟨f,hf⟩:∃ f,way.length - m=f+1:=⟨way.length - m - 1,by omega⟩
 have hf2:way.length - (m+1)=f:=by omega
 rw[hf,hf2]
 rfl
def newP (t:Tr) (pl:Int) (way:List Int) (keys:List H32) (i:Nat):Pn:=⟨true,keys.getD i hzero,sd t pl way keys (i+1),[]⟩
def wIdx (way:List Int) (k:Nat):Nat:=way.findIdx fun x=>decide (x=2*(k:Int)+1)
def pthPs (way:List Int) (nw:Nat→Pn) (D:Nat→Bool) (ps:List Pn):List Pn:=ps.mapIdx fun k p=>if wIdx way k<way.length∧D (wIdx way k)=true then nw (wIdx way k) else p
theorem aZd {way:List Int} (hn:way.Nodup) {i:Nat} (hi:i<way.length) {k:Nat} (hk:way[i]=2*(k:Int)+1):wIdx way k=i:=
 aCk hi (fun j hj hji=>decide_eq_false fun e=>by
  have:=(List.getElem_inj hn).1 (e.trans hk.symm)
  omega) (decide_eq_true hk)
theorem aKx {way:List Int} {k:Nat} (h:wIdx way k<way.length):way[wIdx way k]=2*(k:Int)+1:=by
 have:=List.findIdx_getElem (p:=fun x=>decide (x=2*(k:Int)+1)) (xs:=way) (w:=h)
 simp only[decide_eq_true_eq]at this
 exact this
theorem aSj {way:List Int} {nw:Nat→Pn} {D D':Nat→Bool} {ps:List Pn} (hn:way.Nodup) {i:Nat} (hi:i<way.length) (hw:way[i]=2*(way[i] / 2)+1∧0≤way[i] / 2) (hD:∀ j,j<way.length→(D' j=true↔D j=true∨j=i)):
  (pthPs way nw D ps).set (way[i] / 2).toNat (nw i)=pthPs way nw D' ps:=by
 unfold pthPs
 refine List.ext_getElem (by simp) fun k h1 h2=>?_
 simp only[List.getElem_set,List.getElem_mapIdx]
 by_cases e:(way[i] / 2).toNat=k
 ·have hk:way[i]=2*(k:Int)+1:=by omega
  have hx:=aZd hn hi hk
  rw[if_pos e,hx,if_pos ⟨hi,(hD i hi).2 (.inr rfl)⟩]
 ·rw[if_neg e]
  by_cases h:wIdx way k<way.length
  ·have hne:wIdx way k≠i:=fun h3=>by
    have:=aKx h
    simp only[h3]at this
    omega
   have:=hD _ h
   by_cases h4:D (wIdx way k)=true
   ·rw[if_pos ⟨h,h4⟩,if_pos ⟨h,this.2 (.inl h4)⟩]
   ·rw[if_neg fun h5=>h4 h5.2,if_neg fun h5=>(this.1 h5.2).elim h4 hne]
  ·rw[if_neg fun h3=>h h3.1,if_neg fun h3=>h h3.1]
theorem aNy {way:List Int} {nw:Nat→Pn} {D:Nat→Bool} {ps:List Pn} (hD:∀ j,j<way.length→D j=false):pthPs way nw D ps=ps:=by
 unfold pthPs
 refine List.ext_getElem (by simp) fun k h1 h2=>?_
 simp only[List.getElem_mapIdx]
 rw[if_neg]
 intro h
 rw[hD _ h.1]at h
 cases h.2
def Tr.pathR (t:Tr) (pl:Int) (pub:H32) (keys:List H32):Tr × Int:=
 if t.nobody pl then (Tr.none,7) else if (dirL t.size pl).length≠keys.length then (Tr.none,16) else
 (⟨t.ls.modify pl.toNat (·.key pub (sd t pl (dirL t.size pl) keys 0)),pthPs (dirL t.size pl) (newP t pl (dirL t.size pl) keys) (fun _=>true) t.ps⟩,0)
def Tr.pathP (t:Tr) (pl:Int) (pub:H32) (keys:List H32):Tr × Int:=if ¬t.right=true then (Tr.none,1) else t.pathR pl pub keys
end Go.Proofs.YtgbenhmdamnmcaaGreat
namespace Go.Proofs.YtgbenhmdamnmcaaGreat
open Tryz
open Go.RowKit Go.Lib
theorem Zk {n x:Int} (h:thr n x):fro n x<til n x:=by
 have:=bAy h
 have h1:fro n x=(fd n x).1:=if_pos h
 have h2:til n x=(fd n x).1+(fd n x).2.1:=if_pos h
 omega
theorem aVz {n x p:Int} (h:thr n x) (ho:x%2=1):hld n x p↔hld n (lf n x) p∨hld n (rt n x) p:=by
 obtain⟨⟨t1,t2⟩,-,⟨e1,e2,e3⟩,-⟩:=aCn h ho
 have:=Zk t1
 have:=Zk t2
 unfold hld
 omega
theorem aWa {t t':Tr} {p:Int} (hl:t'.ls=t.ls) (hp:∀ i:Nat,¬hld t.size (2*i+1) p→t'.ps[i]?=t.ps[i]?):∀ (f:Nat) (x:Int),thr t.size x→¬hld t.size x p→hAt f t' x=hAt f t x:=by
 have hsz:t'.size=t.size:=by unfold Tr.size;rw[hl]
 have hla:∀ i,leafAt t' i=leafAt t i:=fun i=>by unfold leafAt;rw[hl]
 intro f
 induction f with
 | zero=>
   intro x _ _
   rw[hAt,hAt,hla]
 | succ f ih=>
   intro x ht hx
   rw[hAt,hAt,hla,hsz]
   by_cases he:x%2=0
   ·rw[if_pos he,if_pos he]
   ·rw[if_neg he,if_neg he]
    have ho:x%2=1:=by omega
    obtain⟨⟨t1,t2⟩,-⟩:=aCn ht ho
    have hk:=mt (aVz (p:=p) ht ho).2 hx
    rw[not_or]at hk
    have hpa:parAt t' (x / 2)=parAt t (x / 2):=by
     have hx0:=ht.2.1
     have e:2*(((x / 2).toNat:Nat):Int)+1=x:=by omega
     have:=hp (x / 2).toNat (by rw[e];exact hx)
     unfold parAt
     rw[List.getD_eq_getElem?_getD,List.getD_eq_getElem?_getD,this]
    rw[hpa,ih _ t1 hk.1,ih _ t2 hk.2]
theorem aZe {n z p:Int} (h:thr n z) (hh:hld n z p) (ha:0≤ab n z):thr n (bs n z)∧¬hld n (bs n z) p:=by
 obtain⟨ho,hz⟩:=bDw h ha
 have hta:thr n (ab n z):=aHy h (by omega)
 obtain⟨⟨t1,t2⟩,-,⟨e1,e2,e3⟩,b1,b2⟩:=aCn hta ho
 have:=Zk t1
 have:=Zk t2
 rcases hz with hz|hz
 ·have hb:bs n z=rt n (ab n z):=by
   conv=>lhs;rw[hz]
   exact b1
  rw[hb]
  refine⟨t2,fun hr=>?_⟩
  rw[hz]at hh
  unfold hld at hh hr
  omega
 ·have hb:bs n z=lf n (ab n z):=by
   conv=>lhs;rw[hz]
   exact b2
  rw[hb]
  refine⟨t1,fun hr=>?_⟩
  rw[hz]at hh
  unfold hld at hh hr
  omega
theorem aCp {n:Int}:∀ (f:Nat) (x:Int) (m:Nat) (h:m<(dirF f n x).length),(dirF f n x)[m]=ab n ((x::dirF f n x)[m]'(by simp;omega))∧0≤(dirF f n x)[m]
 | 0,x,m,h=>by simp[dirF]at h
 | f+1,x,m,h=>by
   by_cases ha:ab n x<0
   ·simp[dirF,ha]at h
   ·have e:dirF (f+1) n x=ab n x::dirF f n (ab n x):=by rw[dirF,if_neg ha]
    cases m with
    | zero=>
      simp only[e,List.getElem_cons_zero]
      exact⟨trivial,by omega⟩
    | succ m=>
      have h':m<(dirF f n (ab n x)).length:=by rw[e]at h;simpa using h
      obtain⟨h1,h2⟩:=aCp f (ab n x) m h'
      simp only[e,List.getElem_cons_succ]
      exact⟨h1,h2⟩
theorem aCq {pl:Int} {way:List Int} {m:Nat} (h:m≤way.length):wNode pl way m=(2*pl::way)[m]'(by simp;omega):=by
 cases m with
 | zero=>rfl
 | succ m=>
   rw[wNode,List.getElem_cons_succ,List.getD_eq_getElem?_getD,List.getElem?_eq_getElem (by omega)]
   rfl
theorem aNz {n pl:Int} (h:0≤pl∧pl<n∧n≤64) {m:Nat} (hm:m<(dirL n pl).length):thr n (wNode pl (dirL n pl) m)∧hld n (wNode pl (dirL n pl) m) pl∧thr n (bs n (wNode pl (dirL n pl) m))∧¬hld n (bs n (wNode pl (dirL n pl) m)) pl:=by
 have hd:dirL n pl=dirF 8 n (2*pl):=if_pos ⟨h.1,h.2.1⟩
 have ht0:thr n (2*pl):=⟨by omega,by omega,by omega⟩
 have hA:thr n (wNode pl (dirL n pl) m)∧hld n (wNode pl (dirL n pl) m) pl:=by
  cases m with
  | zero=>
    obtain⟨-,e1,e2⟩:=aZa ht0 (by omega)
    refine⟨ht0,?_⟩
    show hld n (2*pl) pl
    unfold hld
    omega
  | succ m=>
    have hw:wNode pl (dirL n pl) (m+1)=(dirL n pl)[m]:=by
     rw[aCq (by omega),List.getElem_cons_succ]
    have hmem:(dirL n pl)[m]∈dirL n pl:=List.getElem_mem _
    obtain⟨-,h2,h3,h4⟩:=aPt h.2.2 hmem
    rw[hw]
    refine⟨⟨by omega,by omega,by omega⟩,?_⟩
    have e:(dirL n pl)[m]=2*((((dirL n pl)[m] / 2).toNat:Nat):Int)+1:=by omega
    rw[e]at hmem ⊢
    exact(aPs h (by omega)).1 hmem
 have hab:0≤ab n (wNode pl (dirL n pl) m):=by
  have hm':m<(dirF 8 n (2*pl)).length:=by rw[← hd];exact hm
  obtain⟨h1,h2⟩:=aCp 8 (2*pl) m hm'
  rw[aCq (by omega)]
  simp only[hd]
  rw[← h1]
  exact h2
 exact⟨hA.1,hA.2,aZe hA.1 hA.2 hab⟩
theorem aPv {n:Int} {ls:List Lf}:∀ {x:Int} {ps:List Pn},(∀ i (hi:i<ps.length),(ps[i].set=true∨ps[i].isZero)∧looseB n ls (x+2*i) none ps[i].loose=true)→parB n ls x ps=true
 | _,[],_=>rfl
 | x,p::r,h=>by
   have h0:=h 0 (by simp)
   have ih:=aPv (n:=n) (ls:=ls) (x:=x+2) (ps:=r) fun i hi=>by
    have:=h (i+1) (by simpa using hi)
    have e:x+2*((i+1:Nat):Int)=x+2+2*(i:Int):=by omega
    rw[e]at this
    simpa using this
   simp only[parB,Bool.and_eq_true,Bool.or_eq_true,decide_eq_true_eq]
   exact⟨by simpa using h0,ih⟩
theorem Tr.Rt.par_new {t:Tr} (h:t.Rt) {ps:List Pn} (hl:ps.length=t.ps.length) (hp:∀ i (hi:i<ps.length),ps[i]=t.ps[i]'(by omega)∨(ps[i].set=true∧ps[i].loose=[])):Tr.Rt ⟨t.ls,ps⟩:=by
 refine⟨⟨h.len.1,by rw[hl];exact h.len.2⟩,h.leaves,aPv fun i hi=>?_,h.last⟩
 have hi2:i<ps.length:=hi
 rcases hp i hi with e|⟨e1,e2⟩
 ·rw[e]
  exact Mp h.par i (by rw[← hl];exact hi2)
 ·rw[e2]
  exact⟨.inl e1,rfl⟩
theorem aFq {way:List Int} {nw:Nat→Pn} {D:Nat→Bool} {ps:List Pn} {i:Nat} (hi:i<(pthPs way nw D ps).length):(pthPs way nw D ps)[i]=ps[i]'(by simpa [pthPs] using hi)∨∃ j,j<way.length∧way[j]?=some (2*(i:Int)+1)∧(pthPs way nw D ps)[i]=nw j:=by
 have e:(pthPs way nw D ps)[i]'hi=(if wIdx way i<way.length∧D (wIdx way i)=true then nw (wIdx way i) else ps[i]'(by simpa [pthPs] using hi)):=List.getElem_mapIdx ..
 rw[e]
 split
 ·rename_i hc
  exact .inr ⟨wIdx way i,hc.1,by rw[List.getElem?_eq_getElem hc.1,aKx hc.1],rfl⟩
 ·exact .inl rfl
theorem Qc {way:List Int} {nw:Nat→Pn} {D:Nat→Bool} {ps:List Pn}:(pthPs way nw D ps).length=ps.length:=by simp[pthPs]
theorem Tr.Rt.pth {t:Tr} (h:t.Rt) {way:List Int} {nw:Nat→Pn} {D:Nat→Bool} (hn:∀ j,(nw j).set=true∧(nw j).loose=[]):Tr.Rt ⟨t.ls,pthPs way nw D t.ps⟩:=
 h.par_new Qc fun i hi=>(aFq hi).imp id fun⟨j,_,_,e⟩=>by rw[e];exact hn j
theorem Tr.Rt.side_hash {t:Tr} (h:t.Rt) {pl:Int} (hb:0≤pl∧pl<t.size) {nw:Nat→Pn} {D:Nat→Bool} {m:Nat} (hm:m<(dirL t.size pl).length):
  hAt 8 ⟨t.ls,pthPs (dirL t.size pl) nw D t.ps⟩ (bs t.size (wNode pl (dirL t.size pl) m))=hAt 8 t (bs t.size (wNode pl (dirL t.size pl) m)):=by
 have hlen:=h.len
 have hts:t.size=t.ls.length:=rfl
 obtain⟨-,-,h3,h4⟩:=aNz (n:=t.size) ⟨hb.1,hb.2,by omega⟩ hm
 refine aWa (t:=t) (t':=⟨t.ls,pthPs (dirL t.size pl) nw D t.ps⟩) rfl (fun i hi=>?_) 8 _ h3 h4
 show(pthPs (dirL t.size pl) nw D t.ps)[i]?=t.ps[i]?
 by_cases hi2:i<t.ps.length
 ·rw[List.getElem?_eq_getElem hi2,List.getElem?_eq_getElem (by rw[Qc];exact hi2)]
  rcases aFq (way:=dirL t.size pl) (nw:=nw) (D:=D) (ps:=t.ps) (i:=i) (by rw[Qc];exact hi2) with e|⟨j,hj,hw,-⟩
  ·rw[e]
  ·exfalso
   have hmem:2*(i:Int)+1∈dirL t.size pl:=List.mem_of_getElem? hw
   exact hi ((aPs ⟨hb.1,hb.2,by omega⟩ (by omega)).1 hmem)
 ·rw[List.getElem?_eq_none (l:=t.ps) (by omega),List.getElem?_eq_none (l:=pthPs (dirL t.size pl) nw D t.ps) (by rw[Qc];omega)]
end Go.Proofs.YtgbenhmdamnmcaaGreat
namespace Go.Proofs.YtgbenhmdamnmcaaGreat
open Tryz
open Go.RowKit Go.Lib
abbrev babove:ByteArray:=ByteArray.mk #[97,98,111,118,101]
theorem cat4 (a b c d:ByteArray):cat [a,b,c,d]=ints a++(ints b++ints c++ints d):=by simp[cat]
section
variable {P:Program} {H:Hp} {w0 w:World} {L R:List Res} {n cap e sz:Nat} {A B:Option Addr} {a b:Nat} {t:Tr} {qs ps:List (List Fd)} {X:List Xp}
theorem aWb {ext:Bool} {S:Nat→Prop} {R1:List Res} {g k off m:Nat} {tt:TypeId} {q:Bool} {v:Value} {fs gs fs':List Fd} {K:Value→World→Prop} (hg0:S g) (h:Mem H w0 L w) [c:ShpC P tt q m] [a:AtA L (some ⟨g,0,none⟩) n cap e sz ps R1] (hk:ps[k]?=some fs) [f:Vf v m gs] [p:Put fs off gs fs']
  (hK:∀ w',Mem H w0 (rowR e sz (some ⟨g,0,none⟩) n cap (ps.set k fs')::R1) w'→K undef w'):dfS P (Rl.only S) w (Ak tt (.pointer (some ⟨g,0+k*sz+off,none⟩)) v) ext K:=⟨fun w1 hd=>by
 have h:=h.drawn hd
 obtain⟨w',h1,h2⟩:=aPn (P:=P) h c a hk f p
 obtain⟨sp,h5,h6,h7,hE,hl,hraw⟩:=h.raw (g:=g)
 have hb:=hraw.bkBlf (g:=g)
 obtain⟨ev,hn,hg⟩:=f.ok
 obtain⟨hk',hke⟩:=List.getElem?_eq_some_iff.1 hk
 obtain⟨hxo,hxs⟩:=hE.ok fs (hke ▸ List.getElem_mem _)
 obtain⟨_,_,k3⟩:=p.cells hxo hg
 have e2:v.cells.size=m:=by rw[← Array.length_toList,ev,hg.len,hn]
 have hle:k*sz+sz≤cap*sz:=by
  rw[← Nat.succ_mul]
  exact Nat.mul_le_mul_right _ (by omega)
 obtain⟨w2,h3,h4⟩:=Mw (P:=P) (i:=0+k*sz+off) (v:=v) c.ok (St.oneF hb) e2 (by rw[ev];exact hg.one) (by rw[hg.len,hn,hxo.len,hxs]at k3;omega)
 rw[h1]at h3
 cases h3
 exact Il h1 ⟨fun _=>(hd.onlyS _).trans1 (h4.only.mono fun j _ ⟨b,hm,_,hj⟩=>by
  rw[List.mem_singleton]at hm
  subst hm
  have hj:g=j:=hj
  exact hj ▸ hg0),hK w' h2⟩⟩
theorem bCg {s d:TypeId} {b o k c m:Nat} {l:List Int} {Kq:Value→Prop} (hM:Mem H w0 L w) [st:StrC P s d] (a:Sl H sz (some ⟨b,o,none⟩) ps) (hk:ps[k]?=some [.arr m (u8s l)]) (hl:l.length=m) (hK:Kq (.string (strOfNums l))):dq P w (Ay s d (.slice (some ⟨b,o+k*sz,none⟩) m c)) Kq:=
 Kw (fun w' hx=>aAg st hl fun j u hu=>by
  have h1:=a.els.at_ hk j u (by simpa [fl,Fd.cells] using hu)
  have h2:=a.cell (hM.fz.ext hx) h1
  rw[Nat.add_assoc]
  exact h2) hK
theorem Mem.readsX:∀ {X:List Xp} {L:List Res},Mem H w0 (allR X::L) w→∀ x∈X,Sl (Hp.of w) 1 x.2.1 (ints8 x.1.loose)
 | [],_,_,_,h=>by cases h
 | y::X,L,hM,x,h=>by
   have h1:=hM.unk
   rcases List.mem_cons.1 h with rfl|h
   ·exact h1.reads (A:=x.2.1)
   ·have h2:Mem H w0 (allR X::xres y::L) w:=h1.perm (.swap ..)
    exact Mem.readsX h2 x h
theorem Mem.readsT {ls:List Lf} (h:Mem H w0 (rowR 118 97 A ls.length a (ls.map Lf.fds)::rowR 222 66 B X.length b (X.map xrow)::allR X::L) w) (hb:∀ x∈X,x.1.loose.length≤maxLen):TrF (Hp.of w) (tv A ls.length a B X.length b) ⟨ls,X.map (·.1)⟩:=by
 obtain⟨-,k1,k2,-⟩:=h.rowLen ⟨.refl _⟩
 have h2:Mem H w0 (rowR 222 66 B X.length b (X.map xrow)::rowR 118 97 A ls.length a (ls.map Lf.fds)::allR X::L) w:=h.perm (.swap ..)
 obtain⟨-,k3,k4,-⟩:=h2.rowLen ⟨.refl _⟩
 have h3:Mem H w0 (allR X::L) w:=h.drop.drop
 exact⟨⟨A,a,B,b,X.map xrow,by simp,h.reads (A:=A) (k:=⟨.refl _⟩),h2.reads (A:=B) (k:=⟨.refl _⟩),Xc fun x hx=>⟨h3.readsX x hx,hb x hx⟩⟩,by simp only;omega,by simp only[List.length_map];omega⟩
theorem aZf {A:Option Addr} {e:Nat} (a b c d:ByteArray) (hs:a.size+b.size+c.size+d.size<1000000000000) (hM:Mem H w0 L w) [k:AtA L A 4 4 e 1 [[.one (.string a)],[.one (.string b)],[.one (.string c)],[.one (.string d)]] R]:
  Calls prog 34 #[.slice A 4 4] w fun en w'=>en=.returned (.agg (u8s (shaH (ints a++(ints b++ints c++ints d))).1).toArray)∧St w [] w':=by
 have h:=Ph A [a,b,c,d] 4 w (hM.rd k) (by simp) (by rw[cat4];simp only[List.length_append,Bm];omega)
 rw[cat4]at h
 exact h
theorem aOa (x:Int) {v:Value} (h:TrF H v t) (hf:Fz H w):Calls prog 192 #[v,.int .i64 x] w fun en w'=>en=.returned (ha (if t.right=true∧0≤x∧x≤2*t.size - 2 then hAt 8 t x else hzero))∧St w [] w':=by
 obtain⟨A,a,B,b,qs,rfl,h1,h2,h3⟩:=h.ex
 have hM:=Mem.start hf
 refine aEk ?_
 unfold Qx
 (((refine Bb hM ?_;clear hM;intro _ _ hM;refine Bj hM ?_;clear hM;intro _ _ hM;refine Ao hM ?_)))
 refine Bn hM (Ug h1 h2 h3 h.len.1 h.len.2 hM.fz) (fun w hM=>?_)
 cases hr:t.right
 ·rw[if_neg (by simp),if_neg (by simp)]
  (((refine Bi hM ?_;clear hM;intro _ hM)))
  refine⟨fun v w'=>v=.bool true∧hM.now w',?_,?_⟩
  ·(((refine Av trivial ?_ ?_)))
   ·intro hx
    ((((iterate 7 refine Ar ?_);refine Ab trivial ?_)))
    exact⟨rfl,hM⟩
   ·intro hx
    (((refine Ae ?_;refine Ab trivial ?_;refine Ae ?_;refine Ab trivial ?_;refine Ae ?_;refine Ao hM ?_;refine Ae ?_;refine Ab trivial ?_;refine Ae ?_;refine Ab ?_ ?_));(focus omega);((refine Ae ?_;refine Ab ?_ ?_));(focus omega);((refine Ae ?_;refine Cc trivial ?_ ?_));(focus (first|assumption|omega|with_reducible rfl|exact fun h=>Bool.noConfusion h));((refine Ab trivial ?_)))
    exact⟨rfl,hM⟩
  rintro v u w3 ⟨rfl,hM⟩
  (((refine Am ?_;refine Ab trivial ?_;refine Bi hM ?_;clear hM;intro _ hM;refine Cd hM ?_)))
  exact⟨rfl,hM.st⟩
 ·have hR:=Tr.rt.1 hr
  have hlen:=hR.len
  have hts:t.size=t.ls.length:=rfl
  rw[if_pos rfl]
  (((refine Bi hM ?_;clear hM;intro _ hM)))
  refine⟨fun v w'=>v=.bool (decide (¬(0≤x∧x≤2*t.size - 2)))∧hM.now w',?_,?_⟩
  ·(((refine Av trivial ?_ ?_)))
   ·intro hx
    ((((iterate 7 refine Ar ?_);refine Ab trivial ?_)))
    exact⟨by rw[decide_eq_true (by omega)],hM⟩
   ·intro hx
    (((refine Ae ?_;refine Ab trivial ?_;refine Ae ?_;refine Ab trivial ?_;refine Ae ?_;refine Ao hM ?_;refine Ae ?_;refine Ab trivial ?_;refine Ae ?_;refine Ab ?_ ?_));(focus omega);((refine Ae ?_;refine Ab ?_ ?_));(focus omega);((refine Ae ?_)))
    (((refine Av trivial ?_ ?_)))
    ·intro hx2
     (((refine Ab trivial ?_)))
     exact⟨by rw[decide_eq_true (by omega)],hM⟩
    ·intro hx2
     (((refine Ab trivial ?_)))
     exact⟨by rw[decide_eq_false (by omega)],hM⟩
  rintro v u w3 ⟨rfl,hM⟩
  by_cases hc:0≤x∧x≤2*t.size - 2
  ·rw[decide_eq_false (by simpa using hc),if_pos ⟨rfl,hc⟩]
   (((refine Al ?_;refine Ao hM ?_)))
   have hne:t.ls≠[]:=fun e=>by rw[hts,e]at hc;simp at hc;omega
   refine Bn hM (aFp (hR.gd hne) h1 h2 h3 8 x (by have:=(aKr (x:=x) (by omega)).2.2.2.2;omega) ⟨by omega,hc.1,hc.2⟩ _ hM.fz) (fun w hM=>?_)
   (((refine Bi hM ?_;clear hM;intro _ hM;refine Cd hM ?_)))
   exact⟨rfl,hM.st⟩
  ·rw[decide_eq_true hc,if_neg (fun h=>hc h.2)]
   (((refine Am ?_;refine Ab trivial ?_;refine Bi hM ?_;clear hM;intro _ hM;refine Cd hM ?_)))
   exact⟨rfl,hM.st⟩
abbrev kfds (keys:List H32):List (List Fd):=keys.map fun h=>[Fd.arr 32 (u8s h.1)]
theorem aKy (hR:t.Rt) {way:List Int} {pl:Int} {keys:List H32} {D:Nat→Bool}:Tr.Rt ⟨t.ls,pthPs way (newP t pl way keys) D t.ps⟩:=hR.pth fun _=>⟨rfl,rfl⟩
theorem bCh {Q:Hp→Value→Prop} (pl:Int) (pub:H32) (keys:List H32) {K:Option Addr} {kc:Nat} (hq:∀ H' v1 r,t.pathP pl pub keys=r→TrF H' v1 r.1→Q H' (.tuple #[v1,.int .i64 r.2])) (hkl:keys.length≤1000000) (hK:Sl H 32 K (kfds keys))
  (h1:Sl H 97 A (t.ls.map Lf.fds)) (h2:Sl H 66 B qs) (h3:All2 (PnF H) qs t.ps) (hl:t.ls.length≤maxLen) (hp:t.ps.length≤maxLen) (hf:Fz H w):
  Calls prog 154 #[tv A t.ls.length a B t.ps.length b,.int .i64 pl,ha pub,.slice K keys.length kc] w (Outp H w Q):=by
 obtain⟨w1,hw1⟩:∃ w1,w1=w:=⟨_,rfl⟩
 rw[← hw1]
 rw[← hw1]at hf
 have hM:=Mem.start hf
 refine aKd ?_
 unfold Xy
 unfold Tr.pathP Tr.pathR at hq
 (((refine Bb hM ?_;clear hM;intro _ _ hM;refine Bb hM ?_;clear hM;intro _ _ hM;refine Bj hM ?_;clear hM;intro _ _ hM;refine Ao hM ?_)))
 rename_i g1 _ g5 _ g2 _
 refine Bn hM (Er h1 h2 h3 hl hp hM.fz) (fun w hM=>?_)
 (((refine Ab trivial ?_)))
 cases hr:t.right
 ·rw[if_pos (by rw[hr];simp)]at hq
  rw[Bool.not_false]
  (((refine Am ?_;refine Ab trivial ?_;refine Bi hM ?_;clear hM;intro _ hM;refine Cd hM ?_)))
  exact hM.out (Le.refl _ _) (hq _ _ _ rfl (aCm H))
 rw[if_neg (by rw[hr];simp)]at hq
 have hR:=Tr.rt.1 hr
 have hlen:=hR.len
 have hts:t.size=t.ls.length:=rfl
 rw[Bool.not_true]
 (((refine Al ?_;refine Ao hM ?_)))
 refine Bn hM (aYz pl h1 hl hM.fz) (fun w hM=>?_)
 by_cases hn:t.nobody pl
 ·rw[if_pos hn]at hq
  rw[decide_eq_true hn]
  (((refine Am ?_;refine Ab trivial ?_;refine Bi hM ?_;clear hM;intro _ hM;refine Cd hM ?_)))
  exact hM.out (Le.refl _ _) (hq _ _ _ rfl (aCm H))
 rw[if_neg hn]at hq
 rw[decide_eq_false hn]
 obtain⟨hb0,hb1,hb2⟩:=Tr.body hn
 (((refine Al ?_;refine Ab trivial ?_;refine Ao hM ?_;refine Ab trivial ?_)))
 refine If hM (Sb t.ls.length pl (by omega) hM.fz) ?_
 rintro H1 v w5 l1 hM ⟨D,c,rfl,hD⟩
 have hdl:=Uc t.size pl
 have hnd:=aSe (n:=t.size) (l:=pl) (by omega)
 have hdm:=fun x hx=>aPt (n:=t.size) (l:=pl) (x:=x) (by omega) hx
 have hside:=fun(D:Nat→Bool) (m:Nat) (hm:m<(dirL t.size pl).length)=>hR.side_hash (pl:=pl) ⟨hb0,hb2⟩ (nw:=newP t pl (dirL t.size pl) keys) (D:=D) hm
 have hwok:=fun(m:Nat) (hm:m<(dirL t.size pl).length)=>aNz (n:=t.size) (pl:=pl) ⟨hb0,hb2,by omega⟩ hm
 rw[← hts]at hD ⊢
 generalize hDL:dirL t.size pl=DL at *
 (((refine Ab trivial ?_;refine Ab trivial ?_)))
 (((refine Av trivial ?_ ?_)))
 ·intro hne
  rw[if_pos (by omega)]at hq
  (((refine Am ?_;refine Ab trivial ?_;refine Bi hM ?_;clear hM;intro _ hM;refine Cd hM ?_)))
  exact hM.out l1 (hq _ _ _ rfl (aCm H1))
 intro hne
 have hkd:DL.length=keys.length:=by omega
 rw[if_neg (by omega)]at hq
 have hK:=hK.mono l1.le
 (((refine Al ?_;refine Ao hM ?_)))
 refine Be (aVs (h1.mono l1.le) (h2.mono l1.le) (h3.mono fun _ _ h=>h.mono l1.le) (by omega) (by omega) (fun p hp=>by have:=(hR.loose p hp).1;omega) hM) ?_
 rintro v w' ⟨A',a',B',b',X,rfl,hX,hM⟩
 have hXl:X.length=t.ps.length:=by rw[← hX,List.length_map]
 obtain⟨g4,rfl⟩:=hM.rowAt ⟨.refl _⟩ (by omega)
 (((refine Bi hM ?_;clear hM;intro _ hM;refine Ab trivial ?_;refine Bj hM ?_;clear hM;intro _ _ hM;refine Bi hM ?_;clear hM;intro _ hM;refine Ab trivial ?_;refine Ab ?_ ?_));(focus omega))
 rename_i g12 _ _
 have hdone:∀ m,m=DL.length→pthPs DL (newP t pl DL keys) (fun j=>decide (m≤j)) t.ps=t.ps:=fun m hm=>aNy fun j hj=>decide_eq_false (by omega)
 refine⟨fun v w'=>∃ (m:Nat) (Y:List Xp),v=.int .i64 ((m:Int) - 1)∧m≤DL.length∧Y.map (·.1)=pthPs DL (newP t pl DL keys) (fun j=>decide (m≤j)) t.ps∧Y.length=t.ps.length∧Mem H1 w1 [fb g12 23 [.arr 32 (u8s (sd t pl DL keys m).1)],fb g1 58 (tfd (some ⟨g4,0,none⟩) t.ls.length a' B' t.ps.length b'),fb g5 23 [.arr 32 (u8s pub.1)],fb g2 58 (tfd none 0 0 none 0 0),rowR 118 97 (some ⟨g4,0,none⟩) t.ls.length a' (t.ls.map Lf.fds),rowR 222 66 B' t.ps.length b' (Y.map xrow),allR Y] w',fun v _=>match v with | .int _ k=>(k+1).toNat|_=>0,⟨DL.length,X,rfl,by omega,by rw[hX,hdone _ rfl],hXl,?_⟩,?_⟩
 ·rw[bCf]
  exact hM.same
 clear hM
 rintro v u w6 ⟨m,Y,rfl,hm,hY,hYl,hM⟩
 cases m with
 | zero=>
   have hY:Y.map (·.1)=pthPs DL (newP t pl DL keys) (fun _=>true) t.ps:=hY.trans (by
    unfold pthPs
    refine List.ext_getElem (by simp) fun k e1 e2=>?_
    simp)
   have hRt:Tr.Rt ⟨t.ls,Y.map (·.1)⟩:=by
    rw[hY]
    exact aKy hR
   obtain⟨l0,hl0⟩:∃ l0,t.ls[pl.toNat]=l0:=⟨_,rfl⟩
   have hk0:(t.ls.map Lf.fds)[pl.toNat]?=some l0.fds:=by rw[← hl0];exact Co hb1
   (((refine Br trivial ?_ ?_));(focus (first|assumption|omega|with_reducible rfl|exact fun h=>Bool.noConfusion h));((refine Al ?_)))
   refine⟨Rl.only fun k=>(some ⟨g4,0,none⟩:Option Addr)=some ⟨k,0,none⟩,?_⟩
   (((refine An trivial ?_;refine aPi hM hM.neA ?_;refine An trivial ?_;(iterate 3 refine aPi hM hM.neA ?_);refine Cf hM ?_ ?_));(focus omega);((intro _ hA));(cases hA);((refine An trivial ?_)))
   refine aWb rfl hM hk0 (fun w' hM=>?_)
   have hz:[Fd.one (.int .i64 l0.name),.arr 32 (u8s pub.1),.arr 32 (u8s l0.ver.1),.arr 32 (u8s l0.abv.1)]=(l0.key pub l0.abv).fds:=rfl
   rw[hz]at hM
   have hk1:((t.ls.map Lf.fds).set pl.toNat (l0.key pub l0.abv).fds)[pl.toNat]?=some (l0.key pub l0.abv).fds:=by
    rw[List.getElem?_set_self (by simpa using hb1)]
   (((refine Cf hM ?_ ?_));(focus omega);((intro _ hA));(cases hA);((refine An trivial ?_)))
   refine aWb rfl hM hk1 (fun w' hM=>?_)
   have hz3:[Fd.one (.int .i64 (l0.key pub l0.abv).name),.arr 32 (u8s (l0.key pub l0.abv).pub.1),.arr 32 (u8s (l0.key pub l0.abv).ver.1),.arr 32 (u8s (sd t pl DL keys 0).1)]=(l0.key pub (sd t pl DL keys 0)).fds:=rfl
   rw[hz3,List.set_set,← List.map_set]at hM
   have hmod:t.ls.set pl.toNat (l0.key pub (sd t pl DL keys 0))=t.ls.modify pl.toNat (·.key pub (sd t pl DL keys 0)):=by
    refine List.ext_getElem (by simp) fun i k1 k2=>?_
    simp only[List.getElem_modify,List.getElem_set]
    split
    ·rename_i e
     subst e
     rw[hl0]
    ·rfl
   rw[hmod]at hM
   have hsl:(t.ls.modify pl.toNat (·.key pub (sd t pl DL keys 0))).length=t.ls.length:=List.length_modify ..
   obtain⟨ls2,hls⟩:∃ ls2,t.ls.modify pl.toNat (·.key pub (sd t pl DL keys 0))=ls2:=⟨_,rfl⟩
   rw[hls]at hM hsl hq
   rw[← hsl,← hYl]at hM
   (((refine Ba hM ?_;clear hM;intro _ hM;refine Ao hM ?_;refine Bi hM ?_;clear hM;intro _ hM;refine Cd hM ?_)))
   have hM:Mem H1 w1 [rowR 118 97 (some ⟨g4,0,none⟩) ls2.length a' (ls2.map Lf.fds),rowR 222 66 B' Y.length b' (Y.map xrow),allR Y] _:=hM.sub
   obtain⟨H4,l4,hM,hT⟩:=hM.frzT (fun x hx=>by have:=(hRt.loose x.1 (List.mem_map_of_mem hx)).1;simp only[maxLen];omega)
   refine hM.out (l1.trans l4) (hq _ _ _ rfl ?_)
   rw[hY]at hT
   exact hT
 | succ i=>
   rw[show(((i+1:Nat):Int) - 1)=(i:Int) by omega]
   have hi:i<DL.length:=by omega
   have hik:i<keys.length:=by omega
   have hxm:=hdm DL[i] (List.getElem_mem _)
   have hkx:(DL[i] / 2).toNat<Y.length:=by omega
   obtain⟨gB,rfl⟩:=(hM.up B').rowAt ⟨.refl _⟩ (by omega)
   obtain⟨kb,ko,rfl⟩:=hK.some_ (by simp[kfds];omega)
   obtain⟨db,dd,rfl⟩:=hD.some_ (by simp[ints8];omega)
   have hnew:newP t pl DL keys i=⟨true,keys[i],sd t pl DL keys (i+1),[]⟩:=by
    unfold newP
    rw[List.getD_eq_getElem?_getD,List.getElem?_eq_getElem hik]
    rfl
   have hrow:xrow (newP t pl DL keys i,none,0)=[Fd.one (.bool true),.arr 32 (u8s keys[i].1),.arr 32 (u8s (sd t pl DL keys (i+1)).1),.one (.slice none 0 0)]:=by
    rw[hnew]
    rfl
   (((refine Cc trivial ?_ ?_));(focus (first|assumption|omega|with_reducible rfl|exact fun h=>Bool.noConfusion h));((refine Am ?_;refine An trivial ?_;refine Aw hM ?_));(refine Kz ‹_› ?_ ?_ ?_);(focus (simp only[List.length_map];omega));(focus (simp only[List.length_map];first|done|omega));((intro _ _ hA));(cases hA);(refine aGk hM ‹_› (Bs ?_) ?_);(focus omega);((refine An ?_ ?_));(focus omega);(refine Kz ‹_› ?_ ?_ ?_);(focus (simp only[List.length_map];omega));(focus (simp only[List.length_map];first|done|omega));((intro _ _ hA));(cases hA);(refine aGk hM ‹_› (Bs ?_) ?_);(focus omega);((refine Aw hM ?_;refine An trivial ?_;refine Cf hM ?_ ?_));(focus omega);((intro _ hA));(cases hA))
   refine aJa hM (fun w' hM=>?_)
   refine aNm hM (by omega) (fun w' hM=>?_)
   rw[← hrow,← List.map_set]at hM
   have hM:=((hM.at_ (allR Y)).outk hkx).drop
   have h0:Mem H1 w1 (xres (newP t pl DL keys i,none,0)::restR Y (DL[i] / 2).toNat::_) _:=hM.row0 3 1
   have hM:=h0.ink hkx
   have hY2:(Y.set (DL[i] / 2).toNat (newP t pl DL keys i,none,0)).map (·.1)=pthPs DL (newP t pl DL keys) (fun j=>decide (i≤j)) t.ps:=by
    rw[List.map_set,hY]
    exact aSj hnd hi ⟨hxm.2.1,hxm.2.2.1⟩ fun j hj=>by simp only[decide_eq_true_eq];omega
   have hYl2:(Y.set (DL[i] / 2).toNat (newP t pl DL keys i,none,0)).length=t.ps.length:=by rw[List.length_set];exact hYl
   clear hY hYl hrow h0
   generalize Y.set (DL[i] / 2).toNat (newP t pl DL keys i,none,0)=Z at *
   have hM:Mem H1 w1 [fb g12 23 [.arr 32 (u8s (sd t pl DL keys (i+1)).1)],fb g1 58 (tfd (some ⟨g4,0,none⟩) t.ls.length a' (some ⟨gB,0,none⟩) t.ps.length b'),fb g5 23 [.arr 32 (u8s pub.1)],fb g2 58 (tfd none 0 0 none 0 0),rowR 118 97 (some ⟨g4,0,none⟩) t.ls.length a' (t.ls.map Lf.fds),rowR 222 66 (some ⟨gB,0,none⟩) t.ps.length b' (Z.map xrow),allR Z] _:=hM.same
   have hRt:Tr.Rt ⟨t.ls,Z.map (·.1)⟩:=by
    rw[hY2]
    exact aKy hR
   obtain⟨k1,k2,k3,k4⟩:=hwok i hi
   have hHash:∀ w,Mem H1 w1 [rowR 118 97 (some ⟨g4,0,none⟩) t.ls.length a' (t.ls.map Lf.fds),rowR 222 66 (some ⟨gB,0,none⟩) t.ps.length b' (Z.map xrow),allR Z] w→Calls prog 192 #[tv (some ⟨g4,0,none⟩) t.ls.length a' (some ⟨gB,0,none⟩) t.ps.length b',.int .i64 (bs t.size (wNode pl DL i))] w fun en w'=>en=.returned (ha (hAt 8 t (bs t.size (wNode pl DL i))))∧St w [] w':=fun w hM=>by
    rw[← hYl2]at hM ⊢
    have h:=aOa (t:=⟨t.ls,Z.map (·.1)⟩) (bs t.size (wNode pl DL i)) (hM.readsT fun x hx=>by have:=(hRt.loose x.1 (List.mem_map_of_mem hx)).1;simp only[maxLen];omega) (Fz.of w)
    rw[if_pos ⟨Tr.rt.2 hRt,k3.2.1,k3.2.2⟩,hY2,hside _ i hi]at h
    exact h
   (((refine Ba hM ?_;clear hM;intro _ hM;refine Ab ?_ ?_));(focus omega))
   refine⟨fun v w'=>v=.int .i64 (wNode pl DL i)∧hM.now w',?_,?_⟩
   ·(((refine Av trivial ?_ ?_)))
    ·intro hpos
     (((refine Am ?_;refine Ab ?_ ?_));(focus omega);(refine Ca ‹_› ?_ ?_ ?_);(focus (simp only[List.length_map];omega));(focus (simp only[List.length_map];first|done|omega));((intro _ _ hA));(cases hA);(refine Bt hM ‹_› (Co ?_) ?_);(focus omega))
     refine⟨?_,hM⟩
     congr 1
     rw[aCq (by omega)]
     cases i with
     | zero=>omega
     | succ i=>
       rw[List.getElem_cons_succ]
       congr 1
       omega
    ·intro hz
     obtain rfl:i=0:=by omega
     (((refine Al ?_)))
     exact⟨rfl,hM⟩
   rintro v u7 w7 ⟨rfl,hM⟩
   refine⟨fun v w'=>∃ g15,v=.pointer (some ⟨g15,0,none⟩)∧Mem H1 w1 [fb g15 23 [.arr 32 (u8s (hAt 8 t (bs t.size (wNode pl DL i))).1)],fb g12 23 [.arr 32 (u8s (sd t pl DL keys (i+1)).1)],fb g1 58 (tfd (some ⟨g4,0,none⟩) t.ls.length a' (some ⟨gB,0,none⟩) t.ps.length b'),fb g5 23 [.arr 32 (u8s pub.1)],fb g2 58 (tfd none 0 0 none 0 0),rowR 118 97 (some ⟨g4,0,none⟩) t.ls.length a' (t.ls.map Lf.fds),rowR 222 66 (some ⟨gB,0,none⟩) t.ps.length b' (Z.map xrow),allR Z] w',⟨?_,?_,?_⟩,?_⟩
   ·(((refine Aw hM ?_;refine Bd hM ?_ (fun _ _ hM=>?_)));(focus (first|exact trivial|assumption|omega)))
    refine Bv hM (fun w hM=>hHash w hM.sub) (fun w' hx hM=>?_)
    (((refine Bx hM ?_;clear hM;intro _ _ hM;refine Cb hM ?_;clear hM;intro _ hM;refine Ba hM ?_;clear hM;intro _ hM)))
    exact⟨_,rfl,hM.same⟩
   ·(((refine Aw hM ?_;refine Bd hM ?_ (fun _ _ hM=>?_)));(focus (first|exact trivial|assumption|omega));((refine Bx hM ?_;clear hM;intro _ _ hM)))
    refine Bv hM (fun w hM=>hHash w hM.sub) (fun w' hx hM=>?_)
    (((refine Cb hM ?_;clear hM;intro _ hM;refine Ba hM ?_;clear hM;intro _ hM)))
    exact⟨_,rfl,hM.same⟩
   ·(((refine Aw hM ?_;refine Bx hM ?_;clear hM;intro _ _ hM;refine Bd hM ?_ (fun _ _ hM=>?_)));(focus (first|exact trivial|assumption|omega)))
    refine Bv hM (fun w hM=>hHash w hM.sub) (fun w' hx hM=>?_)
    (((refine Cb hM ?_;clear hM;intro _ hM;refine Ba hM ?_;clear hM;intro _ hM)))
    exact⟨_,rfl,hM.same⟩
   clear hM
   rintro v u8 w8 ⟨g15,rfl,hM⟩
   ((refine Kz ‹_› ?_ ?_ ?_);(focus (simp only[List.length_map];omega));(focus (simp only[List.length_map];first|done|omega));((intro _ _ hA));(cases hA);((refine An trivial ?_)))
   rw[Int.toNat_natCast]
   refine bCg hM hK (Co hik) keys[i].2.1 ?_
   (((refine An trivial ?_;refine Cr hM ?_;refine An trivial ?_;refine Cr hM ?_;refine By hM ?_ ?_ ?_));(focus rfl);(focus (constructor <;> simp));((clear hM;intro _ _ hM)))
   refine Bv hM (fun w hM=>aZf babove (strOfNums keys[i].1) (strOfNums (sd t pl DL keys (i+1)).1) (strOfNums (hAt 8 t (bs t.size (wNode pl DL i))).1) (by rw[strOfNums_size,strOfNums_size,strOfNums_size,keys[i].2.1,(sd t pl DL keys (i+1)).2.1,(hAt 8 t (bs t.size (wNode pl DL i))).2.1];decide) hM) (fun w' hx hM=>?_)
   rw[Ja,Ja,Ja]
   have hsd:shaH (ints babove++(keys[i].1++(sd t pl DL keys (i+1)).1++(hAt 8 t (bs t.size (wNode pl DL i))).1))=sd t pl DL keys i:=by
    rw[aZc hi,List.getD_eq_getElem?_getD,List.getElem?_eq_getElem hik]
    rfl
   rw[hsd]
   (((refine Cb hM ?_;clear hM;intro _ hM;refine Ba hM ?_;clear hM;intro _ hM;refine Ab ?_ ?_));(focus omega))
   exact⟨⟨i,Z,rfl,by omega,hY2,hYl2,hM.sub⟩,by simp only;omega⟩
end
end Go.Proofs.YtgbenhmdamnmcaaGreat
namespace Go.Proofs.YtgbenhmdamnmcaaGreat
open Tryz
open Go.RowKit
def crossL:List Int→List Int→List Int
 | r::rs,t::ts=>bits .xor .u8 t r::crossL rs ts
 | _,_=>[]
theorem Nm:∀ {r t:List Int},t.length≤r.length→(crossL r t).length=t.length
 | _,[],_=>by simp[crossL]
 | [],_::_,h=>by simp at h
 | r::rs,t::ts,h=>by
   simp only[crossL,List.length_cons]
   rw[Nm (by simpa using h)]
end Go.Proofs.YtgbenhmdamnmcaaGreat
namespace Go.Proofs.YtgbenhmdamnmcaaGreat
open Tryz
open Go.RowKit
section
variable (row:H32→Nat→List Int) (tag:H32→List Int→List Int→List Int)
def sealL (key:H32) (about t:List Int):List Int:=crossL (row key t.length) t++tag key about (crossL (row key t.length) t)
variable {row tag}
variable (kem:H32→List Int→H32) (row tag)
def wrapL (pub once:H32) (about t:List Int):List Int:=once.1++sealL row tag (kem pub once.1) about t
variable {row tag kem}
end
end Go.Proofs.YtgbenhmdamnmcaaGreat
namespace Go.Proofs.YtgbenhmdamnmcaaGreat
open Tryz
open Go.RowKit Go.Lib
abbrev spub:ByteArray:=ByteArray.mk #[112,117,98]
abbrev smark:ByteArray:=ByteArray.mk #[109,97,114,107]
abbrev skem:ByteArray:=ByteArray.mk #[107,101,109]
abbrev sstream:ByteArray:=ByteArray.mk #[115,116,114,101,97,109]
abbrev stag:ByteArray:=ByteArray.mk #[116,97,103]
abbrev es0:ByteArray:=ByteArray.mk #[]
def pubH (k:H32):H32:=shaH (ints spub++k.1)
def markH (k:H32):H32:=shaH (ints smark++k.1)
def kemH (pub:H32) (once:List Int):H32:=shaH (ints skem++(pub.1++once))
def drv (k:H32) (l c:ByteArray):H32:=derivedH k.1 l c
theorem cat3 (a b c:ByteArray):cat [a,b,c]=ints a++(ints b++ints c):=by simp[cat]
section
variable {H:Hp} {w0 w:World} {L R:List Res} {A B:Option Addr} {a b n m:Nat}
theorem aPw {A:Option Addr} {e:Nat} (a b c:ByteArray) (hs:a.size+b.size+c.size<1000000000000) (hM:Mem H w0 L w) [k:AtA L A 3 3 e 1 [[.one (.string a)],[.one (.string b)],[.one (.string c)]] R]:
  Calls prog 34 #[.slice A 3 3] w fun en w'=>en=.returned (.agg (u8s (shaH (ints a++(ints b++ints c))).1).toArray)∧St w [] w':=by
 have h:=Ph A [a,b,c] 3 w (hM.rd k) (by simp) (by rw[cat3];simp only[List.length_append,Bm];omega)
 rw[cat3]at h
 exact h
theorem aWc (hm:m≠0) (w:World):Calls prog 121 #[.pointer none,tv A n a B m b] w fun en w'=>en=.returned (.int .i64 0)∧St w [] w':=by
 have hM:=Mem.start (Fz.of w)
 refine Wc ?_
 unfold Mc
 (((refine Bb hM ?_;clear hM;intro _ _ hM;refine Ab trivial ?_;refine Ao hM ?_;refine Ab trivial ?_;refine Br trivial ?_ ?_));(focus (first|assumption|omega|with_reducible rfl|exact fun h=>Bool.noConfusion h));((refine Al ?_;refine Ab trivial ?_;refine Am ?_)))
 exact⟨rfl,hM.st⟩
instance:PurC prog 121 [.pointer none,tv A n a B m b] (m≠0) (.int .i64 0):=⟨fun h w=>aWc h w⟩
theorem aSk (k:H32) (w:World):Calls prog 120 #[ha k] w fun en w'=>en=.returned (ha (pubH k))∧St w [] w':=by
 have hM:=Mem.start (Fz.of w)
 refine aDv ?_
 unfold Qo
 (((refine Bb hM ?_;clear hM;intro _ _ hM;refine Bj hM ?_;clear hM;intro _ _ hM;refine Ab trivial ?_;refine Hq hM ?_;refine Bu hM ?_ ?_ ?_));(focus rfl);(focus (constructor <;> simp));((clear hM;intro _ _ hM)))
 refine Bn hM (Gk spub (strOfNums k.1) (by rw[strOfNums_size,k.2.1];decide) hM) (fun w2 hM=>?_)
 rw[Ja]
 (((refine Bi hM ?_;clear hM;intro _ hM;refine Cd hM ?_)))
 exact⟨rfl,hM.st⟩
instance (k:H32):PurC prog 120 [.agg (u8s k.1).toArray] True (.agg (u8s (pubH k).1).toArray):=⟨fun _ w=>aSk k w⟩
theorem aZg (k:H32) (w:World):Calls prog 122 #[ha k] w fun en w'=>en=.returned (ha (markH k))∧St w [] w':=by
 have hM:=Mem.start (Fz.of w)
 refine aJx ?_
 unfold Xv
 (((refine Bb hM ?_;clear hM;intro _ _ hM;refine Bj hM ?_;clear hM;intro _ _ hM;refine Ab trivial ?_;refine Hq hM ?_;refine Bu hM ?_ ?_ ?_));(focus rfl);(focus (constructor <;> simp));((clear hM;intro _ _ hM)))
 refine Bn hM (Gk smark (strOfNums k.1) (by rw[strOfNums_size,k.2.1];decide) hM) (fun w2 hM=>?_)
 rw[Ja]
 (((refine Bi hM ?_;clear hM;intro _ hM;refine Cd hM ?_)))
 exact⟨rfl,hM.st⟩
instance (k:H32):PurC prog 122 [.agg (u8s k.1).toArray] True (.agg (u8s (markH k).1).toArray):=⟨fun _ w=>aZg k w⟩
theorem aZh (k:H32) (w:World):Calls prog 62 #[.pointer none,ha k] w fun en w'=>en=.returned (ha (pubH k))∧St w [] w':=by
 have hM:=Mem.start (Fz.of w)
 refine aMn ?_
 unfold aAs
 (((refine Bb hM ?_;clear hM;intro _ _ hM;refine Bj hM ?_;clear hM;intro _ _ hM;refine Ao hM ?_;refine Bg hM ?_ ?_));(focus (first|exact trivial|assumption|omega));((clear hM;intro _ hM;refine Bj hM ?_;clear hM;intro _ _ hM;refine Bi hM ?_;clear hM;intro _ hM)))
 refine⟨fun w'=>hM.now w',?_,?_⟩
 ·repeat' apply And.intro
  all_goals
   (first|(((refine Aw hM ?_;refine Aw hM ?_;refine By hM ?_ ?_ (fun _ _ hM2=>?_)));(focus rfl);(focus (constructor <;> simp));((replace hM:=hM2;clear hM2;refine Bd hM ?_ (fun _ _ hM=>?_)));(focus (first|exact trivial|assumption|omega));((refine By hM ?_ ?_ ?_));(focus rfl);(focus (constructor <;> simp));((clear hM;intro _ _ hM;refine An trivial ?_;refine Bd hM ?_ (fun _ _ hM=>?_)));(focus (first|exact trivial|assumption|omega));((refine Ba hM ?_;clear hM;intro _ hM)))|(((refine Aw hM ?_;refine Aw hM ?_;refine Bd hM ?_ (fun _ _ hM=>?_)));(focus (first|exact trivial|assumption|omega));((refine By hM ?_ ?_ ?_));(focus rfl);(focus (constructor <;> simp));((clear hM;intro _ _ hM;refine By hM ?_ ?_ ?_));(focus rfl);(focus (constructor <;> simp));((clear hM;intro _ _ hM;refine An trivial ?_;refine Bd hM ?_ (fun _ _ hM=>?_)));(focus (first|exact trivial|assumption|omega));((refine Ba hM ?_;clear hM;intro _ hM))))
   exact hM.sub
 rintro u w2 hM
 (((refine Ao hM ?_;refine Bi hM ?_;clear hM;intro _ hM;refine Cd hM ?_)))
 exact⟨rfl,hM.st⟩
instance (k:H32):PurC prog 62 [.pointer none,.agg (u8s k.1).toArray] True (.agg (u8s (pubH k).1).toArray):=⟨fun _ w=>aZh k w⟩
instance (k:H32) (l c:ByteArray):PurC prog 126 [.agg (u8s k.1).toArray,.string l,.string c] (l.size≤1000000∧c.size≤1000000) (.agg (u8s (drv k l c).1).toArray):=⟨fun h w=>aNw k l c w h.1 h.2⟩
theorem aOb (k:H32) (l c:ByteArray) (h:l.size≤1000000∧c.size≤1000000) (w:World):Calls prog 67 #[.pointer none,ha k,.string l,.string c] w fun en w'=>en=.returned (ha (drv k l c))∧St w [] w':=by
 have hM:=Mem.start (Fz.of w)
 refine aDn ?_
 unfold Qk
 (((refine Bb hM ?_;clear hM;intro _ _ hM;refine Bj hM ?_;clear hM;intro _ _ hM;refine Ao hM ?_;refine Bg hM ?_ ?_));(focus (first|exact trivial|assumption|omega));((clear hM;intro _ hM;refine Bj hM ?_;clear hM;intro _ _ hM;refine Bi hM ?_;clear hM;intro _ hM;refine Ao hM ?_;refine Bu hM ?_ ?_ ?_));(focus rfl);(focus (constructor <;> simp));((clear hM;intro _ _ hM;refine Ao hM ?_;refine Bu hM ?_ ?_ ?_));(focus rfl);(focus (constructor <;> simp));((clear hM;intro _ _ hM;refine Ab trivial ?_;refine Bg hM ?_ ?_));(focus (first|exact trivial|assumption|omega));((clear hM;intro _ hM;refine Ao hM ?_;refine Bi hM ?_;clear hM;intro _ hM;refine Cd hM ?_)))
 exact⟨rfl,hM.st⟩
instance (k:H32) (l c:ByteArray):PurC prog 67 [.pointer none,.agg (u8s k.1).toArray,.string l,.string c] (l.size≤1000000∧c.size≤1000000) (.agg (u8s (drv k l c).1).toArray):=⟨fun h w=>aOb k l c h w⟩
theorem aSl (p:H32) (o:List Int) (ho:∀ x∈o,0≤x∧x<256) (hn:o.length≤1000000) (w:World):Calls prog 168 #[ha p,.string (strOfNums o)] w fun en w'=>en=.returned (ha (kemH p o))∧St w [] w':=by
 have hM:=Mem.start (Fz.of w)
 refine aEe ?_
 unfold Qu
 (((refine Bb hM ?_;clear hM;intro _ _ hM;refine Bj hM ?_;clear hM;intro _ _ hM;refine Ab trivial ?_;refine Hq hM ?_;refine Bu hM ?_ ?_ ?_));(focus rfl);(focus (constructor <;> simp));((clear hM;intro _ _ hM)))
 refine Bn hM (aPw skem (strOfNums p.1) (strOfNums o) (by rw[strOfNums_size,strOfNums_size,p.2.1];show 3+32+_<_;omega) hM) (fun w2 hM=>?_)
 rw[Ja,Ck _ ho]
 (((refine Bi hM ?_;clear hM;intro _ hM;refine Cd hM ?_)))
 exact⟨rfl,hM.st⟩
end
end Go.Proofs.YtgbenhmdamnmcaaGreat
namespace Go.Proofs.YtgbenhmdamnmcaaGreat
open Tryz
open Go.RowKit
class BytC (P:Program) (t:TypeId) (e:outParam TypeId):Prop where
 ok:P.underlying t=some (.slice e)∧(P.info? e).map (fun i=>(i.zero,i.size,i.bytes))=some (some (.int .u8 0),1,1)
section
variable {P:Program} {H:Hp} {w0 w:World} {L R R1:List Res} {g n c cap:Nat} {t t' e:TypeId} {K:Value→World→Prop} {X:List PanicEntry→World→Prop} {A:Option Addr} {fs:List Fd} {put:Res→List Res}
theorem aOc (n:Nat):madeCells #[Value.int .u8 0] n=(u8s (List.replicate n 0)).toArray:=by
 unfold madeCells u8s
 apply Array.ext'
 simp only[Array.toList_map,Array.toList_range,List.map_replicate]
 refine List.ext_getElem (by simp) fun i h1 h2=>?_
 simp[Nat.mod_one]
theorem bCi (h:Mem H w0 L w) [b:BytC P t e] (hn:n≤16777216) (hk:∀ g w',Mem H w0 (rowR e 1 (some ⟨g,0,none⟩) n n (byts (List.replicate n 0))::L) w'→K (.slice (some ⟨g,0,none⟩) n n) w'):mop P (Kg t (.int .i64 n) (.int .i64 n)) w K X:=by
 have hr:=run_make_row' (P:=P) t e (.int .u8 0) 1 b.ok.1 b.ok.2 rfl .i64 .i64 n (by omega) (by omega) w
 rw[aOc]at hr
 refine Ch (w':=w.alloc (.cells (u8s (List.replicate n 0)).toArray e)) (u:=.slice (some ⟨w.heap.size,0,none⟩) n n) ?_ (hk _ _ ?_)
 ·simp only[Kg,sv,Sem.run_bind,hr,Result.andThen_ok]
  rfl
 obtain⟨B,hl,hs,hb⟩:=h.own
 have hf:fls (byts (List.replicate n 0))=u8s (List.replicate n 0):=Jn _
 rw[← hf]
 refine⟨⟨⟨w.heap.size,e,fls (byts (List.replicate n 0)),true⟩::B,⟨[⟨w.heap.size,e,fls (byts (List.replicate n 0)),true⟩],B,rfl,⟨Sr _,by rw[In,List.length_replicate],.inr ⟨w.heap.size,[],rfl,by simp,by rw[List.append_nil,hf];simp[u8s],Nat.le_refl _,?_⟩⟩,hl⟩,hs.alloc e _,fun b hm=>?_⟩,h.fz.ext ((Only.refl _ w).alloc _)⟩
 ·exact Nat.le_trans hn (by decide)
 ·rcases List.mem_cons.1 hm with rfl|hm
  ·refine⟨rfl,?_⟩
   cases hh:H w.heap.size with
   | none=>rfl
   | some c=>have:=h.fz.lt hh;omega
  ·exact hb b hm
theorem bCj {sT ty:TypeId} {ks:List Bool} {l:List Int} {s:ByteArray} (h:Mem H w0 L w) [b:BytC P t e] [a:AtR L (some ⟨g,0,none⟩) n cap e 1 (byts l) R1] (hs:s.size=n)
  (hk:∀ w',Mem H w0 (rowR e 1 (some ⟨g,0,none⟩) n cap (byts (ints s))::R1) w'→K (.int .i64 n) w'):mop P (Ai .copy #[t,sT] ty ks [.slice (some ⟨g,0,none⟩) n cap,.string s]) w K X:=by
 obtain⟨B,⟨B1,B2,rfl,⟨h1,h2,h3⟩,h4⟩,hs',hb⟩:=(h.perm a.perm).own
 obtain⟨ht,hi⟩:=b.ok
 have he:(P.info? e).map (·.size)=some 1:=by
  obtain⟨i,hi,hz⟩:=Option.map_eq_some_iff.1 hi
  simp only[Prod.mk.injEq]at hz
  simp[hi,hz.2.1]
 rcases h3 with ⟨hA,_⟩|⟨g',sp,hA,rfl,h8,h9,h10⟩
 ·cases hA
 ·cases hA
  have hs':St w0 (⟨g,e,fls (byts l)++sp,true⟩::B2) w:=hs'
  have hll:l.length=n:=by rw[← h2,In]
  have hfl:(fls (byts l)).length=n:=by rw[Jn];simp[u8s,hll]
  have hil:(u8s (ints s)).length=n:=by simp[u8s,Bm,hs]
  have hst:=Bz (P:=P) 0 (u8s (ints s)) 0 (fls (byts l)++sp) w hs'.head (by rw[List.length_append];omega) (Gx _)
  have hlay:lay (fls (byts l)++sp) (u8s (ints s)) 0=fls (byts (ints s))++sp:=by
   unfold lay
   rw[List.take_zero,List.nil_append,Nat.zero_add,hil,← hfl,List.drop_left' rfl,Jn]
  have hl2:(fls (byts (ints s))++sp).length=(fls (byts l)++sp).length:=by
   rw[Jn,List.length_append,List.length_append,hil,hfl]
  rw[Nat.add_zero,hlay]at hst
  have hg:=hb ⟨g,e,fls (byts l)++sp,true⟩ (by simp)
  refine Ch (w':=w.setRow g (fls (byts (ints s))++sp).toArray) (u:=.int .i64 n) ?_ (hk _ ?_)
  ·have hx:List.take n (List.map (fun b:UInt8=>Value.int IntKind.u8 b.toNat) s.data.toList)=u8s (ints s):=by
    rw[List.take_of_length_le (by rw[List.length_map];show s.size≤n;omega)]
    simp only[u8s,ints,List.map_map]
    rfl
   have hmin:Nat.min n n=n:=Nat.min_self n
   simp[Ai,invoke,builtin,Builtin.copy_,run_underlying ht,Builtin.lenOf,Ce he,Builtin.firstCells,goInt,hs,hmin]
   rw[hx,hst]
   rfl
  ·refine⟨⟨⟨g,e,fls (byts (ints s))++sp,true⟩::B2,⟨[_],B2,rfl,⟨Sr _,by rw[In,Bm,hs],.inr ⟨g,sp,rfl,rfl,by rw[hl2];exact h8,h9,h10⟩⟩,h4⟩,hs'.setRow hl2,fun b hm=>?_⟩,h.fz.same fun b c hc=>setRow_other w g b _ ?_⟩
   ·rcases List.mem_cons.1 hm with rfl|hm
    ·exact⟨rfl,hg.2⟩
    ·exact hb b (List.mem_append.2 (.inr hm))
   ·rintro rfl
    have:=hg.2
    simp only[hc]at this
    cases this
theorem bCk {s d:TypeId} {l:List Int} {i k:Nat} (h:Mem H w0 L w) [st:StrC P s d] [kk:AtB L g t' fs put] [q:Sub fs i n [.arr n (u8s l)]] (hn:k≤n) (hk:K (.string (strOfNums (l.take k))) w):mop P (Ay s d (.slice (some ⟨g,i,none⟩) k c)) w K X:=by
 obtain⟨h1,h2⟩:=h.bytesF kk q
 refine Dv (aAg st (by rw[List.length_take];omega) fun j u hu=>h2 j u ?_) hk
 have hj:j<k:=by have:=(List.getElem?_eq_some_iff.1 hu).1;simp[u8s]at this;omega
 rw[show u8s (l.take k)=(u8s l).take k by simp[u8s,List.map_take],List.getElem?_take]at hu
 simpa [hj] using hu
theorem bCl {R1:List Res} {g k m n cap e sz:Nat} {tt:TypeId} {q:Bool} {v:Value} {fs gs fs':List Fd} {ps:List (List Fd)} {K:Value→World→Prop} (h:Mem H w0 L w) [c:ShpC P tt q m] [a:AtA L (some ⟨g,0,none⟩) n cap e sz ps R1] (hk:ps[k]?=some fs) [f:Vf v m gs] [p:Put fs 0 gs fs'] (hK:∀ w',Mem H w0 (rowR e sz (some ⟨g,0,none⟩) n cap (ps.set k fs')::R1) w'→K undef w'):df P w (Ak tt (.pointer (some ⟨g,0+k*sz,none⟩)) v) false K:=aNn (off:=0) h hk hK
theorem bCm {P:Program} {t:TypeId} {b o n cap sz:Nat} {ii:Int} {kk:IntKind} {Kq:Value→Prop} [c:SliS P t sz] (hi:0≤ii∧ii<n) (hk:Kq (.pointer (some ⟨b,o+ii.toNat*sz,none⟩))):dp P (Ag t (.slice (some ⟨b,o,none⟩) n cap) (.int kk ii)) Kq:=Ob (Bp t b o n cap kk ii sz c.ok.1 c.ok.2 hi.1 hi.2) hk
theorem aPx {α:Type} {T S:List α} {m p:Nat} (h:T.drop m=S.drop m) (hp:m≤p):T[p]?=S[p]?:=by
 have:=congrArg (·[p - m]?) h
 simp only[List.getElem?_drop]at this
 rwa [Nat.add_sub_cancel' hp]at this
end
end Go.Proofs.YtgbenhmdamnmcaaGreat
namespace Go.Proofs.YtgbenhmdamnmcaaGreat
open Tryz
open Go.RowKit Go.Lib
def rowK (k:H32) (n:Nat):List Int:=rowL (drv k sstream es0).1 n
def tagK (k:H32) (about b:List Int):List Int:=((drv (drv k stag es0) (strOfNums about) (strOfNums b)).1).take 16
theorem aCr (k:H32) (n:Nat):(rowK k n).length=n:=aKt _ _
theorem aKz (k:H32) (a b:List Int):(tagK k a b).length=16:=by
 unfold tagK
 rw[List.length_take,(drv _ _ _).2.1]
 rfl
theorem aCs:∀ {r t:List Int} {i:Nat} (h1:i<(crossL r t).length) (h2:i<t.length) (h3:i<r.length),(crossL r t)[i]=bits .xor .u8 t[i] r[i]
 | _::_,_::_,0,_,_,_=>rfl
 | _::rs,_::ts,i+1,h1,h2,h3=>by
   simp only[crossL,List.getElem_cons_succ]
   exact aCs (by simpa [crossL] using h1) _ _
 | [],_,_,_,_,h3=>by simp at h3
 | _::_,[],_,_,h2,_=>by simp at h2
theorem aWd (l:List Int) (i:Nat) (x:Int):(byts l).set i [.one (.int .u8 x)]=byts (l.set i x):=(List.map_set (f:=fun x=>[Fd.one (.int .u8 x)])).symm
theorem aSm {C t:List Int} {i:Nat} (hl:C.length=t.length) (hi:i<t.length):(C.take i++t.drop i).set i (C[i]'(by omega))=C.take (i+1)++t.drop (i+1):=by
 have ht:(C.take i).length=i:=by rw[List.length_take];omega
 rw[List.drop_eq_getElem_cons hi,List.set_append_right _ _ (by omega),ht,Nat.sub_self,List.set_cons_zero,List.take_succ_eq_append_getElem (by omega),List.append_assoc]
 rfl
theorem aSn {C t:List Int} {i:Nat} (hl:C.length=t.length) (hi:i<t.length):(C.take i++t.drop i)[i]'(by rw[List.length_append,List.length_take,List.length_drop];omega)=t[i]:=by
 rw[List.getElem_append_right (by rw[List.length_take];omega)]
 simp only[List.length_take,List.getElem_drop]
 congr 1
 omega
instance:BytC prog 89 5:=⟨⟨by kernel_rfl,by kernel_rfl⟩⟩
instance (p:H32) (o:List Int):PurC prog 168 [.agg (u8s p.1).toArray,.string (strOfNums o)] ((∀ x∈o,0≤x∧x<256)∧o.length≤1000000) (.agg (u8s (kemH p o).1).toArray):=⟨fun h w=>aSl p o h.1 h.2 w⟩
section
variable {H:Hp} {w0 w:World} {L R:List Res} {A B:Option Addr} {a b n m:Nat}
instance (k:H32) (n:Int):PurC prog 200 [.agg (u8s k.1).toArray,.int .i64 n] True (.string (if 1≤n∧n≤65536 then strOfNums (rowL k.1 n.toNat) else ByteArray.mk #[])):=⟨fun _ w=>aRz k n (Fz.of w)⟩
theorem aWe (k:H32) (t:List Int) (ht:∀ x∈t,0≤x∧x<256) (hn:t.length≤65536) (w:World):Calls prog 163 #[ha k,.string (strOfNums t)] w fun en w'=>en=.returned (.string (strOfNums (crossL (rowK k t.length) t)))∧St w [] w':=by
 have hM:=Mem.start (Fz.of w)
 have hs:(strOfNums t).size=t.length:=strOfNums_size t
 have d1:sstream.size≤1000000∧es0.size≤1000000:=by decide
 refine aHj ?_
 unfold Ts
 (((refine Bb hM ?_;clear hM;intro _ _ hM;refine Ao hM ?_;refine Bg hM ?_ ?_));(focus (first|exact trivial|assumption|omega));((clear hM;intro _ hM;refine Ab trivial ?_;refine Bg hM ?_ ?_));(focus (first|exact trivial|assumption|omega));((clear hM;intro _ hM;refine Ab trivial ?_)))
 rw[hs]
 refine bCi hM (by omega) ?_
 intro g w1 hM
 refine bCj hM hs ?_
 intro w2 hM
 rw[Ck t ht]at hM
 have hrl:(rowK k t.length).length=t.length:=aCr _ _
 have hrw:(if 1≤(t.length:Int)∧(t.length:Int)≤65536 then strOfNums (rowL (drv k sstream es0).1 ((t.length:Int)).toNat) else ByteArray.mk #[])=strOfNums (rowK k t.length):=by
  by_cases h0:t.length=0
  ·rw[if_neg (by omega),h0]
   rfl
  ·rw[if_pos (by omega),Int.toNat_natCast]
   rfl
 rw[hrw]
 have hrr:∀ x∈rowK k t.length,0≤x∧x<256:=aNv _ _
 generalize rowK k t.length=row at hrl hrr ⊢
 have hcl:(crossL row t).length=t.length:=Nm (by omega)
 (((refine Ab trivial ?_)))
 refine⟨fun v w'=>∃ i:Nat,v=.int .i64 i∧i≤t.length∧Mem (Hp.of w) w [rowR 5 1 (some ⟨g,0,none⟩) t.length t.length (byts ((crossL row t).take i++t.drop i))] w',fun v _=>match v with | .int _ k=>t.length - k.toNat|_=>0,⟨0,rfl,by omega,by simpa using hM.sub⟩,?_⟩
 clear hM
 rintro v u w3 ⟨i,rfl,hi,hM⟩
 skip
 (((refine Av trivial ?_ ?_)))
 ·intro hlt
  have hit:i<t.length:=by omega
  have hq:(byts ((crossL row t).take i++t.drop i))[((i:Int)).toNat]?=some [.one (.int .u8 t[i])]:=by
   have h9:=aSn hcl hit
   rw[Int.toNat_natCast]
   unfold byts
   rw[List.getElem?_map,List.getElem?_eq_getElem (by rw[List.length_append,List.length_take,List.length_drop];omega),h9]
   rfl
  have hrs:(strOfNums row).size=t.length:=by rw[strOfNums_size,hrl]
  (((refine Am ?_;refine Cf hM ?_ ?_));(focus omega);((intro _ hA));(cases hA))
  refine Cq hM hq ?_
  skip
  refine Ob (aKo _ i (by omega) (by rw[hrs];omega)) ?_
  have hri:(ints (strOfNums row)).getD ((i:Int)).toNat 0=row[i]:=by
   rw[Ck row hrr,Int.toNat_natCast,List.getD_eq_getElem?_getD,List.getElem?_eq_getElem (by omega)]
   rfl
  rw[hri]
  have hxr:bits .xor .u8 t[i] row[i]=(crossL row t)[i]:=(aCs (by omega) hit (by omega)).symm
  (((refine An trivial ?_;refine Cf hM ?_ ?_));(focus omega);((intro _ hA));(cases hA))
  rw[hxr]
  refine bCl hM hq (fun w' hM=>?_)
  rw[aWd,Int.toNat_natCast,aSm hcl hit]at hM
  (((refine Ba hM ?_;clear hM;intro _ hM;refine Ab ?_ ?_));(focus omega))
  exact⟨⟨i+1,by rw[Value.int.injEq];refine⟨rfl,?_⟩;push_cast;rfl,by omega,hM⟩,by simp only;omega⟩
 ·intro hge
  obtain rfl:i=t.length:=by omega
  (((refine Al ?_;refine Rh hM ?_ ?_));(focus (simp;omega)))
  refine⟨?_,hM.st⟩
  rw[← hcl,List.take_length,hcl,List.drop_length,List.append_nil,← hcl,List.take_length]
theorem bCn (k:H32) (ab b:List Int) (hl:ab.length≤1000000) (hb:b.length≤1000000) (w:World):Calls prog 164 #[ha k,.string (strOfNums ab),.string (strOfNums b)] w fun en w'=>en=.returned (.string (strOfNums (tagK k ab b)))∧St w [] w':=by
 have hM:=Mem.start (Fz.of w)
 have h1:(strOfNums ab).size=ab.length:=strOfNums_size _
 have h2:(strOfNums b).size=b.length:=strOfNums_size _
 have d1:stag.size≤1000000∧es0.size≤1000000:=by decide
 have d2:(strOfNums ab).size≤1000000∧(strOfNums b).size≤1000000:=by omega
 refine aMz ?_
 unfold aBs
 (((refine Bb hM ?_;clear hM;intro _ _ hM;refine Ao hM ?_;refine Bg hM ?_ ?_));(focus (first|exact trivial|assumption|omega));((clear hM;intro _ hM;refine Bg hM ?_ ?_));(focus (first|exact trivial|assumption|omega));((clear hM;intro _ hM;refine Bj hM ?_;clear hM;intro _ _ hM;refine Bi hM ?_;clear hM;intro _ hM;refine Ab ?_ ?_));(focus omega))
 refine bCk (n:=32) hM (by decide) ?_
 exact⟨rfl,hM.st⟩
instance (k:H32) (t:List Int):PurC prog 163 [.agg (u8s k.1).toArray,.string (strOfNums t)] ((∀ x∈t,0≤x∧x<256)∧t.length≤65536) (.string (strOfNums (crossL (rowK k t.length) t))):=⟨fun h w=>aWe k t h.1 h.2 w⟩
instance (k:H32) (ab b:List Int):PurC prog 164 [.agg (u8s k.1).toArray,.string (strOfNums ab),.string (strOfNums b)] (ab.length≤1000000∧b.length≤1000000) (.string (strOfNums (tagK k ab b))):=⟨fun h w=>bCn k ab b h.1 h.2 w⟩
theorem aOd {ps:List (List Fd)} (hs:Sl (Hp.of w) 32 A ps) (hn:n=ps.length) (hb:n≤100000) (hM:Mem H w0 L w):Calls prog 162 #[.slice A n a] w fun en w'=>∃ v,en=.returned v∧Ext w w'∧∃ A' a',v=.slice A' n a'∧Mem H w0 (rowR 23 32 A' n a' ps::L) w':=by
 refine Hi ?_
 unfold Ec
 refine Mo (P:=prog) (t:=137) (R:=fun en w'=>∃ v,en=.returned v∧Ext w w'∧∃ A' a',v=.slice A' n a'∧Mem H w0 (rowR 23 32 A' n a' ps::L) w') hs hn hM ?_ (fun A' a' w' hx hM=>⟨_,rfl,hx,_,_,rfl,hM⟩)
 omega
theorem aPy {ps:List (List Fd)} (k:H32) (ab t:List Int) (hl:ab.length≤1000000) (ht:∀ x∈t,0≤x∧x<256) (hn:t.length≤65536) (hs:Sl H 32 A ps) (hnp:n=ps.length) (hb:n≤1000) (hf:Fz H w):Calls prog 88 #[.pointer none,ha k,.string (strOfNums ab),.string (strOfNums t),.slice A n a] w fun en w'=>en=.returned (.string (strOfNums (sealL rowK tagK k ab t)))∧St w [] w':=by
 have hM:=Mem.start hf
 have h1:(strOfNums t).size=t.length:=strOfNums_size _
 have d1:(∀ x∈t,0≤x∧x<256)∧t.length≤65536:=⟨ht,hn⟩
 refine aJr ?_
 unfold Xs
 (((refine Bb hM ?_;clear hM;intro _ _ hM;refine Ab trivial ?_;refine Br trivial ?_ ?_));(focus (first|assumption|omega|with_reducible rfl|exact fun h=>Bool.noConfusion h));((refine Al ?_)))
 refine⟨fun w'=>hM.now w',?_,?_⟩
 ·(((refine Ab trivial ?_)))
  (((refine Av trivial ?_ ?_)))
  ·intro h0
   (((refine Am ?_)))
   refine⟨?_,?_⟩
   all_goals
    (first|(((refine Aw hM ?_;refine By hM ?_ ?_ (fun _ _ hM2=>?_)));(focus rfl);(focus (constructor <;> simp));((replace hM:=hM2;clear hM2)))|(((refine Aw hM ?_))))
    refine My hM (fun w hM=>aOd (hs.mono (Ku hM.fz)) hnp (by omega) hM) ?_
    rintro v w2 hx ⟨A',a',rfl,hM⟩
    (first|(((refine By hM ?_ ?_ ?_));(focus rfl);(focus (constructor <;> simp));((clear hM;intro _ _ hM;refine An trivial ?_;refine Bd hM ?_ (fun _ _ hM=>?_)));(focus (first|exact trivial|assumption|omega));((refine Ba hM ?_;clear hM;intro _ hM)))|(((refine An trivial ?_;refine Bd hM ?_ (fun _ _ hM=>?_)));(focus (first|exact trivial|assumption|omega));((refine Ba hM ?_;clear hM;intro _ hM))))
    exact hM.sub
  ·intro h0
   (((refine Al ?_)))
   exact hM
 rintro u w2 hM
 have hcl:(crossL (rowK k t.length) t).length=t.length:=Nm (by rw[aCr];omega)
 have d2:ab.length≤1000000∧(crossL (rowK k t.length) t).length≤1000000:=by omega
 (((refine Ao hM ?_;refine Bg hM ?_ ?_));(focus (first|exact trivial|assumption|omega));((clear hM;intro _ hM;refine Ao hM ?_;refine Bg hM ?_ ?_));(focus (first|exact trivial|assumption|omega));((clear hM;intro _ hM)))
 refine Ni _ _ (by rw[aKz];omega) ?_
 exact⟨rfl,hM.st⟩
theorem aFr (k:H32) (ab t:List Int):(sealL rowK tagK k ab t).length=t.length+16:=by
 unfold sealL
 rw[List.length_append,Nm (by rw[aCr];omega),aKz]
theorem aZi {ps:List (List Fd)} (pub once:H32) (ab t:List Int) (hl:ab.length≤1000000) (ht:∀ x∈t,0≤x∧x<256) (hn:t.length≤65536) (hs:Sl H 32 A ps) (hnp:n=ps.length) (hb:n≤1000) (hf:Fz H w):Calls prog 93 #[.pointer none,ha pub,ha once,.string (strOfNums ab),.string (strOfNums t),.slice A n a] w fun en w'=>en=.returned (.string (strOfNums (wrapL rowK tagK kemH pub once ab t)))∧St w [] w':=by
 have hM:=Mem.start hf
 have h1:(strOfNums t).size=t.length:=strOfNums_size _
 refine aJt ?_
 have d1:(∀ x∈once.1,0≤x∧x<256)∧once.1.length≤1000000:=⟨once.2.2,by rw[once.2.1];omega⟩
 unfold Xt
 (((refine Bb hM ?_;clear hM;intro _ _ hM;refine Bb hM ?_;clear hM;intro _ _ hM;refine Ab trivial ?_;refine Br trivial ?_ ?_));(focus (first|assumption|omega|with_reducible rfl|exact fun h=>Bool.noConfusion h));((refine Al ?_)))
 rename_i g1 _ g2 _
 refine⟨fun x w'=>∃ g3:Nat,x=.pointer (some ⟨g3,0,none⟩)∧Mem H w [fb g3 23 [.arr 32 (u8s (kemH pub once.1).1)],fb g2 23 [.arr 32 (u8s once.1)],fb g1 23 [.arr 32 (u8s pub.1)]] w',?_,?_⟩
 ·repeat' apply And.intro
  all_goals
   (first|(((refine Aw hM ?_;refine An trivial ?_;refine Cr hM ?_;refine Bd hM ?_ (fun _ _ hM=>?_)));(focus (first|exact trivial|assumption|omega));((refine Bx hM ?_;clear hM;intro _ _ hM;refine Cb hM ?_;clear hM;intro _ hM;refine Ba hM ?_;clear hM;intro _ hM)))|(((refine Aw hM ?_;refine An trivial ?_;refine Cr hM ?_;refine Bx hM ?_;clear hM;intro _ _ hM;refine Bd hM ?_ (fun _ _ hM=>?_)));(focus (first|exact trivial|assumption|omega));((refine Cb hM ?_;clear hM;intro _ hM;refine Ba hM ?_;clear hM;intro _ hM))))
   exact⟨_,rfl,hM.sub⟩
 clear hM
 rintro v u w2 ⟨g3,rfl,hM⟩
 refine⟨fun w'=>hM.now w',?_,?_⟩
 ·repeat' apply And.intro
  all_goals
   (first|(((refine Aw hM ?_;refine Aw hM ?_;refine Bd hM ?_ (fun _ _ hM=>?_)));(focus (first|exact trivial|assumption|omega));((refine By hM ?_ ?_ ?_));(focus rfl);(focus (constructor <;> simp));((clear hM;intro _ _ hM;refine By hM ?_ ?_ ?_));(focus rfl);(focus (constructor <;> simp));((clear hM;intro _ _ hM;refine An trivial ?_;refine Bd hM ?_ (fun _ _ hM=>?_)));(focus (first|exact trivial|assumption|omega));((refine Ba hM ?_;clear hM;intro _ hM)))|(((refine Aw hM ?_;refine Aw hM ?_;refine By hM ?_ ?_ (fun _ _ hM2=>?_)));(focus rfl);(focus (constructor <;> simp));((replace hM:=hM2;clear hM2;refine Bd hM ?_ (fun _ _ hM=>?_)));(focus (first|exact trivial|assumption|omega));((refine By hM ?_ ?_ ?_));(focus rfl);(focus (constructor <;> simp));((clear hM;intro _ _ hM;refine An trivial ?_;refine Bd hM ?_ (fun _ _ hM=>?_)));(focus (first|exact trivial|assumption|omega));((refine Ba hM ?_;clear hM;intro _ hM))))
   exact hM.sub
 rintro u w3 hM
 (((refine Ao hM ?_;refine Bu hM ?_ ?_ ?_));(focus rfl);(focus (constructor <;> simp));((clear hM;intro _ _ hM;refine Ao hM ?_;refine Bu hM ?_ ?_ ?_));(focus rfl);(focus (constructor <;> simp));((clear hM;intro _ _ hM;refine Ab trivial ?_;refine Bg hM ?_ ?_));(focus (first|exact trivial|assumption|omega));((clear hM;intro _ hM;refine An trivial ?_;refine Cr hM ?_;refine Aw hM ?_)))
 refine Bv hM (fun w hM=>aPy (kemH pub once.1) ab t hl ht hn hs hnp hb hM.fz) (fun w5 _ hM=>?_)
 refine Dj _ _ (by rw[aFr,once.2.1];omega) ?_
 (((refine Ba hM ?_;clear hM;intro _ hM)))
 exact⟨rfl,hM.st⟩
end
end Go.Proofs.YtgbenhmdamnmcaaGreat
namespace Go.Proofs.YtgbenhmdamnmcaaGreat
open Tryz
open Go.RowKit
abbrev ssaid:ByteArray:=ByteArray.mk #[115,97,105,100]
abbrev sspot:ByteArray:=ByteArray.mk #[115,112,111,116]
abbrev swelcome:ByteArray:=ByteArray.mk #[119,101,108,99,111,109,101]
abbrev sepo:ByteArray:=ByteArray.mk #[101,112,111,99,104]
abbrev sinit:ByteArray:=ByteArray.mk #[105,110,105,116]
abbrev sconfirm:ByteArray:=ByteArray.mk #[99,111,110,102,105,114,109]
abbrev sapps:ByteArray:=ByteArray.mk #[97,112,112,115]
abbrev sexport:ByteArray:=ByteArray.mk #[101,120,112,111,114,116]
abbrev sapp:ByteArray:=ByteArray.mk #[97,112,112]
def saidH (before:H32) (core:ByteArray):H32:=shaH (ints ssaid++(before.1++ints core))
def ctxL (parent:H32) (depth:Int) (tree said:H32):List Int:=parent.1++numB depth++tree.1++said.1
structure Sec where
 joiner:H32
 welcome:H32
 epoch:H32
 init:H32
 confirm:H32
 apps:H32
 export_:H32
abbrev Sec.fds (s:Sec):List Fd:=[.arr 32 (u8s s.joiner.1),.arr 32 (u8s s.welcome.1),.arr 32 (u8s s.epoch.1),.arr 32 (u8s s.init.1),.arr 32 (u8s s.confirm.1),.arr 32 (u8s s.apps.1),.arr 32 (u8s s.export_.1)]
abbrev Sec.v (s:Sec):Value:=.agg (fl s.fds).toArray
def secOf (j:H32) (ctx:ByteArray):Sec:=
 let e:=drv j sepo ctx
 ⟨j,drv j swelcome es0,e,drv e sinit es0,drv e sconfirm es0,drv e sapps es0,drv e sexport es0⟩
def appH (apps:H32) (place:Int):H32:=drv apps sapp (strOfNums (numB place))
def tagH (confirm said:H32):H32:=hmacH confirm.1 (ints stag++said.1)
section
variable {H:Hp} {w0 w:World} {L R:List Res} {g:Nat}
theorem aWf (h:H32) (core:ByteArray) (hc:core.size≤100000000) (w:World):Calls prog 63 #[ha h,.string core] w fun en w'=>en=.returned (ha (saidH h core))∧St w [] w':=by
 have hM:=Mem.start (Fz.of w)
 refine aJh ?_
 unfold Xm
 (((refine Bb hM ?_;clear hM;intro _ _ hM;refine Bj hM ?_;clear hM;intro _ _ hM;refine Ab trivial ?_;refine Hq hM ?_;refine Bu hM ?_ ?_ ?_));(focus rfl);(focus (constructor <;> simp));((clear hM;intro _ _ hM)))
 refine Bn hM (aPw ssaid (strOfNums h.1) core (by rw[strOfNums_size,h.2.1];show 4+32+_<_;omega) hM) (fun w2 hM=>?_)
 rw[Ck h.1 h.2.2]
 (((refine Bi hM ?_;clear hM;intro _ hM;refine Cd hM ?_)))
 exact⟨rfl,hM.st⟩
instance (h:H32) (core:ByteArray):PurC prog 63 [.agg (u8s h.1).toArray,.string core] (core.size≤100000000) (.agg (u8s (saidH h core).1).toArray):=⟨fun k w=>aWf h core k w⟩
theorem bCo (p:H32) (d:Int) (t s:H32) (hd:0≤d∧d≤4611686018427387903) (w:World):Calls prog 64 #[ha p,.int .i64 d,ha t,ha s] w fun en w'=>en=.returned (.string (strOfNums (ctxL p d t s)))∧St w [] w':=by
 have hM:=Mem.start (Fz.of w)
 have hn:=Az d
 have h1:=p.2.1
 have h2:=t.2.1
 refine aAu ?_
 unfold Oq
 (((refine Bb hM ?_;clear hM;intro _ _ hM;refine Bb hM ?_;clear hM;intro _ _ hM;refine Bb hM ?_;clear hM;intro _ _ hM)))
 refine Be (Ig hM) ?_
 rintro v w2 ⟨g,rfl,hM⟩
 (((refine Ao hM ?_)))
 refine Be (Cx p (by simp) (hM.at_ (wrR g [] false))) ?_
 rintro v w3 ⟨rfl,hM⟩
 rw[List.nil_append]at hM
 skip
 refine Be (Cu d hd (by omega) (hM.at_ (wrR g p.1 false))) ?_
 rintro v w4 ⟨rfl,hM⟩
 (((refine Ao hM ?_)))
 refine Be (Cx t (by rw[List.length_append];omega) (hM.at_ (wrR g (p.1++numB d) false))) ?_
 rintro v w5 ⟨rfl,hM⟩
 (((refine Ao hM ?_)))
 refine Be (Cx s (by rw[List.length_append,List.length_append];omega) (hM.at_ (wrR g (p.1++numB d++t.1) false))) ?_
 rintro v w6 ⟨rfl,hM⟩
 skip
 refine Bn hM (Ih hM) (fun w hM=>?_)
 (((refine Ab trivial ?_;refine Ab trivial ?_)))
 exact⟨rfl,hM.st⟩
instance (p:H32) (d:Int) (t s:H32):PurC prog 64 [.agg (u8s p.1).toArray,.int .i64 d,.agg (u8s t.1).toArray,.agg (u8s s.1).toArray] (0≤d∧d≤4611686018427387903) (.string (strOfNums (ctxL p d t s))):=⟨fun k w=>bCo p d t s k w⟩
theorem bCp (a:H32) (p:Int) (hp:0≤p∧p<64) (w:World):Calls prog 133 #[.pointer none,ha a,.int .i64 p] w fun en w'=>en=.returned (ha (appH a p))∧St w [] w':=by
 have hM:=Mem.start (Fz.of w)
 have hn:=Az p
 refine aMv ?_
 unfold aBg
 (((refine Bb hM ?_;clear hM;intro _ _ hM;refine Bj hM ?_;clear hM;intro _ _ hM)))
 refine⟨fun v w'=>v=.bool false∧hM.now w',?_,?_⟩
 ·(((refine Br trivial ?_ ?_));(focus (first|assumption|omega|with_reducible rfl|exact fun h=>Bool.noConfusion h));((refine Ae ?_;refine Ab trivial ?_;refine Ae ?_;refine Br trivial ?_ ?_));(focus (first|assumption|omega|with_reducible rfl|exact fun h=>Bool.noConfusion h));((refine Ab trivial ?_)))
  exact⟨rfl,hM⟩
 rintro v u w2 ⟨rfl,hM⟩
 (((refine Al ?_)))
 refine Be (Ig hM) ?_
 rintro v w3 ⟨g,rfl,hM⟩
 skip
 refine Be (Cu p (by omega) (by simp) (hM.at_ (wrR g [] false))) ?_
 rintro v w4 ⟨rfl,hM⟩
 rw[List.nil_append]at hM
 skip
 refine Bn hM (Ih hM) (fun w hM=>?_)
 have d1:sapp.size≤1000000∧(strOfNums (numB p)).size≤1000000:=⟨by decide,by rw[strOfNums_size];omega⟩
 (((refine Ab trivial ?_;refine Ab trivial ?_;refine Ao hM ?_;refine Bg hM ?_ ?_));(focus (first|exact trivial|assumption|omega));((clear hM;intro _ hM;refine Bi hM ?_;clear hM;intro _ hM;refine Cd hM ?_)))
 exact⟨rfl,hM.st⟩
instance (a:H32) (p:Int):PurC prog 133 [.pointer none,.agg (u8s a.1).toArray,.int .i64 p] (0≤p∧p<64) (.agg (u8s (appH a p).1).toArray):=⟨fun k w=>bCp a p k w⟩
theorem aZj (c s:H32) (w:World):Calls prog 95 #[ha c,ha s] w fun en w'=>en=.returned (ha (tagH c s))∧St w [] w':=by
 have hM:=Mem.start (Fz.of w)
 refine aMt ?_
 unfold aBd
 (((refine Bb hM ?_;clear hM;intro _ _ hM;refine Bb hM ?_;clear hM;intro _ _ hM;refine Bj hM ?_;clear hM;intro _ _ hM;refine An trivial ?_;refine Cr hM ?_;refine An trivial ?_;refine Cr hM ?_;refine By hM ?_ ?_ ?_));(focus rfl);(focus (constructor <;> simp));((clear hM;intro _ _ hM)))
 refine Bv hM (fun w hM=>aVh c stag (strOfNums s.1) (by decide) (by rw[strOfNums_size,s.2.1];decide) hM) (fun w2 hx hM=>?_)
 rw[Ck s.1 s.2.2]
 (((refine Cb hM ?_;clear hM;intro _ hM;refine Ba hM ?_;clear hM;intro _ hM;refine Cd hM ?_)))
 exact⟨rfl,hM.st⟩
theorem aZk (core:ByteArray) (hc:core.size≤100000000) (w:World):Calls prog 80 #[.string core] w fun en w'=>∃ v,en=.returned v∧∃ n:Int,v=.int .i64 n∧0≤n∧n<4294967296∧St w [] w':=by
 have hM:=Mem.start (Fz.of w)
 refine aJn ?_
 unfold Xq
 (((refine Bu hM ?_ ?_ ?_));(focus rfl);(focus (constructor <;> simp));((clear hM;intro _ _ hM)))
 refine Bn hM (Gk sspot core (by show 4+_<_;omega) hM) (fun w2 hM=>?_)
 generalize shaH (ints sspot++ints core)=h
 have hb:=h.2.2
 have hl:=h.2.1
 (((refine Bj hM ?_;clear hM;intro _ _ hM;refine Bi hM ?_;clear hM;intro _ hM;refine Ab ?_ ?_));(focus omega);((refine Ab trivial ?_)))
 refine⟨fun x v w'=>∃ (i:Nat) (n:Int),v=.int .i64 i∧i≤4∧x=.int .i64 n∧0≤n∧n<256 ^ i∧hM.now w',fun _ v _=>match v with | .int _ k=>4 - k.toNat|_=>0,⟨0,0,rfl,by omega,rfl,by omega,by decide,hM⟩,?_⟩
 rintro x v u w3 ⟨i,n,rfl,hi,rfl,hn0,hn1,hM⟩
 (((refine Av trivial ?_ ?_)))
 ·intro hlt
  have hx:=hb (h.1[i]'(by omega)) (List.getElem_mem _)
  (((refine Am ?_;refine Ab ?_ ?_));(focus omega))
  have hM:Mem _ _ _ _:=hM
  refine aMi hM (v:=.int .u8 (h.1[i]'(by omega))) (by simp[u8s]) ?_
  have hn2:n<16777216:=by
   obtain rfl|rfl|rfl|rfl:i=0∨i=1∨i=2∨i=3:=by omega
   all_goals simp at hn1
   all_goals omega
  refine Bw (Oc _ _ _ _ _ _ (by omega) (by simp[IntKind.bits])) ?_
  have e8:IntKind.i64.wrap (n*2 ^ (8:Int).toNat)=n*256:=by
   rw[show(2:Int) ^ (8:Int).toNat=256 from rfl]
   exact Mx (by omega)
  rw[e8]
  (((refine Ab ?_ ?_));(focus omega);((refine Ab trivial ?_;refine Ab ?_ ?_));(focus omega))
  rw[bBp n _ (by omega) hx]
  exact⟨⟨i+1,n*256+h.1[i],rfl,by omega,rfl,by omega,by rw[Int.pow_succ];omega,hM⟩,by dsimp only;omega⟩
 ·intro hge
  obtain rfl:i=4:=by omega
  (((refine Al ?_)))
  exact⟨_,rfl,n,rfl,hn0,by omega,hM.st⟩
theorem aPz (j:H32) (ctx:ByteArray) (hc:ctx.size≤1000000) (w:World):Calls prog 66 #[.pointer none,ha j,.string ctx] w fun en w'=>en=.returned (secOf j ctx).v∧St w [] w':=by
 have hM:=Mem.start (Fz.of w)
 have d1:swelcome.size≤1000000∧es0.size≤1000000:=by decide
 have d2:sepo.size≤1000000∧ctx.size≤1000000:=⟨by decide,hc⟩
 refine aJl ?_
 unfold Xo
 (((refine Bb hM ?_;clear hM;intro _ _ hM;refine Bj hM ?_;clear hM;intro _ _ hM;refine Ao hM ?_;refine Ab trivial ?_;refine Bj hM ?_;clear hM;intro _ _ hM;refine Bi hM ?_;clear hM;intro _ hM;refine Ao hM ?_;refine Bg hM ?_ ?_));(focus (first|exact trivial|assumption|omega));((clear hM;intro _ hM;refine Ab trivial ?_;refine Bi hM ?_;clear hM;intro _ hM;refine Ao hM ?_;refine Bg hM ?_ ?_));(focus (first|exact trivial|assumption|omega));((clear hM;intro _ hM;refine Ab trivial ?_;refine Bi hM ?_;clear hM;intro _ hM;(iterate 9 refine Ab trivial ?_))))
 rename_i g4 _ g6 _ g7 _ _ _ _ _ _
 generalize hE:drv j sepo ctx=e at hM
 have d3:sinit.size≤1000000∧es0.size≤1000000:=by decide
 have d4:sconfirm.size≤1000000∧es0.size≤1000000:=by decide
 have d5:sapps.size≤1000000∧es0.size≤1000000:=by decide
 have d6:sexport.size≤1000000∧es0.size≤1000000:=by decide
 refine⟨fun v w'=>∃ i:Nat,v=.int .i64 i∧i≤4∧(match i with
  | 0=>Mem (Hp.of w) w [fb g7 123 (Sec.mk j (drv j swelcome es0) e hzero hzero hzero hzero).fds,fb g6 123 (Sec.mk hzero hzero hzero hzero hzero hzero hzero).fds] w'
  | 1=>Mem (Hp.of w) w [fb g7 123 (Sec.mk j (drv j swelcome es0) e (drv e sinit es0) hzero hzero hzero).fds,fb g6 123 (Sec.mk hzero hzero hzero hzero hzero hzero hzero).fds] w'
  | 2=>Mem (Hp.of w) w [fb g7 123 (Sec.mk j (drv j swelcome es0) e (drv e sinit es0) (drv e sconfirm es0) hzero hzero).fds,fb g6 123 (Sec.mk hzero hzero hzero hzero hzero hzero hzero).fds] w'
  | 3=>Mem (Hp.of w) w [fb g7 123 (Sec.mk j (drv j swelcome es0) e (drv e sinit es0) (drv e sconfirm es0) (drv e sapps es0) hzero).fds,fb g6 123 (Sec.mk hzero hzero hzero hzero hzero hzero hzero).fds] w'
  | _=>Mem (Hp.of w) w [fb g7 123 (Sec.mk j (drv j swelcome es0) e (drv e sinit es0) (drv e sconfirm es0) (drv e sapps es0) (drv e sexport es0)).fds,fb g6 123 (Sec.mk hzero hzero hzero hzero hzero hzero hzero).fds] w'),
  fun x _=>match x with | .int _ i=>4 - i.toNat|_=>0,⟨0,rfl,by omega,hM.sub⟩,?_⟩
 clear hM
 rintro x u w3 ⟨i,rfl,hi,hM⟩
 (((refine Av trivial ?_ ?_)))
 ·intro hlt
  obtain rfl|rfl|rfl|rfl:i=0∨i=1∨i=2∨i=3:=by omega
  ·have hM:Mem (Hp.of w) w _ w3:=hM
   (((refine Am ?_)))
   refine Bw (v:=.agg (fl [Fd.one (.pointer (some ⟨g7,96,none⟩)),.one (.string sinit)]).toArray) (fun w=>by kernel_rfl) ?_
   (((refine Bj hM ?_;clear hM;intro _ _ hM;refine Bi hM ?_;clear hM;intro _ hM;refine An trivial ?_;refine Aw hM ?_;refine An trivial ?_;refine Aw hM ?_;refine An trivial ?_;refine Aw hM ?_;refine Bd hM ?_ (fun _ _ hM=>?_)));(focus (first|exact trivial|assumption|omega));((refine An trivial ?_;refine Cb hM ?_;clear hM;intro _ hM;refine Ba hM ?_;clear hM;intro _ hM;refine Ab ?_ ?_));(focus omega))
   exact⟨⟨1,rfl,by omega,hM.sub⟩,by dsimp only;omega⟩
  ·have hM:Mem (Hp.of w) w _ w3:=hM
   (((refine Am ?_)))
   refine Bw (v:=.agg (fl [Fd.one (.pointer (some ⟨g7,128,none⟩)),.one (.string sconfirm)]).toArray) (fun w=>by kernel_rfl) ?_
   (((refine Bj hM ?_;clear hM;intro _ _ hM;refine Bi hM ?_;clear hM;intro _ hM;refine An trivial ?_;refine Aw hM ?_;refine An trivial ?_;refine Aw hM ?_;refine An trivial ?_;refine Aw hM ?_;refine Bd hM ?_ (fun _ _ hM=>?_)));(focus (first|exact trivial|assumption|omega));((refine An trivial ?_;refine Cb hM ?_;clear hM;intro _ hM;refine Ba hM ?_;clear hM;intro _ hM;refine Ab ?_ ?_));(focus omega))
   exact⟨⟨2,rfl,by omega,hM.sub⟩,by dsimp only;omega⟩
  ·have hM:Mem (Hp.of w) w _ w3:=hM
   (((refine Am ?_)))
   refine Bw (v:=.agg (fl [Fd.one (.pointer (some ⟨g7,160,none⟩)),.one (.string sapps)]).toArray) (fun w=>by kernel_rfl) ?_
   (((refine Bj hM ?_;clear hM;intro _ _ hM;refine Bi hM ?_;clear hM;intro _ hM;refine An trivial ?_;refine Aw hM ?_;refine An trivial ?_;refine Aw hM ?_;refine An trivial ?_;refine Aw hM ?_;refine Bd hM ?_ (fun _ _ hM=>?_)));(focus (first|exact trivial|assumption|omega));((refine An trivial ?_;refine Cb hM ?_;clear hM;intro _ hM;refine Ba hM ?_;clear hM;intro _ hM;refine Ab ?_ ?_));(focus omega))
   exact⟨⟨3,rfl,by omega,hM.sub⟩,by dsimp only;omega⟩
  ·have hM:Mem (Hp.of w) w _ w3:=hM
   (((refine Am ?_)))
   refine Bw (v:=.agg (fl [Fd.one (.pointer (some ⟨g7,192,none⟩)),.one (.string sexport)]).toArray) (fun w=>by kernel_rfl) ?_
   (((refine Bj hM ?_;clear hM;intro _ _ hM;refine Bi hM ?_;clear hM;intro _ hM;refine An trivial ?_;refine Aw hM ?_;refine An trivial ?_;refine Aw hM ?_;refine An trivial ?_;refine Aw hM ?_;refine Bd hM ?_ (fun _ _ hM=>?_)));(focus (first|exact trivial|assumption|omega));((refine An trivial ?_;refine Cb hM ?_;clear hM;intro _ hM;refine Ba hM ?_;clear hM;intro _ hM;refine Ab ?_ ?_));(focus omega))
   exact⟨⟨4,rfl,by omega,hM.sub⟩,by dsimp only;omega⟩
 ·intro hge
  obtain rfl:i=4:=by omega
  have hM:Mem (Hp.of w) w [fb g7 123 (Sec.mk j (drv j swelcome es0) e (drv e sinit es0) (drv e sconfirm es0) (drv e sapps es0) (drv e sexport es0)).fds,fb g6 123 (Sec.mk hzero hzero hzero hzero hzero hzero hzero).fds] w3:=hM
  (((refine Al ?_;refine Ao hM ?_;refine Bi hM ?_;clear hM;intro _ hM;refine Cd hM ?_)))
  exact⟨by rw[← hE];rfl,hM.st⟩
end
end Go.Proofs.YtgbenhmdamnmcaaGreat
namespace Go.Proofs.YtgbenhmdamnmcaaGreat
open Tryz
open Go.RowKit Go.Lib
def lvsOk (s:List Int) (ls:List Lf):Prop:=(∀ l∈ls,l=Lf.zero∨(1≤l.name∧l.name≤64))∧(∀ l∈ls,l.name≠0→l.name∉s)∧∀ i j (hi:i<ls.length) (hj:j<ls.length),i<j→ls[i].name≠0→ls[i].name≠ls[j].name
theorem aOe {s:List Int} {l:Lf} {r:List Lf}:lvsOk s (l::r)↔(l=Lf.zero∧lvsOk s r)∨((1≤l.name∧l.name≤64)∧l.name∉s∧lvsOk (l.name::s) r):=by
 constructor
 ·rintro⟨h1,h2,h3⟩
  have hr1:∀ x∈r,x=Lf.zero∨(1≤x.name∧x.name≤64):=fun x hx=>h1 x (List.mem_cons_of_mem _ hx)
  have hr3:∀ i j (hi:i<r.length) (hj:j<r.length),i<j→r[i].name≠0→r[i].name≠r[j].name:=fun i j hi hj hij hn=>by
   have:=h3 (i+1) (j+1) (by simpa using hi) (by simpa using hj) (by omega)
   simpa using this hn
  rcases h1 l (List.mem_cons_self ..) with hz|hz
  ·exact .inl ⟨hz,hr1,fun x hx=>h2 x (List.mem_cons_of_mem _ hx),hr3⟩
  ·refine .inr ⟨hz,h2 l (List.mem_cons_self ..) (by omega),hr1,fun x hx hn hm=>?_,hr3⟩
   rcases List.mem_cons.1 hm with e|hm
   ·obtain⟨j,hj,rfl⟩:=List.getElem_of_mem hx
    have:=h3 0 (j+1) (by simp) (by simpa using hj) (by omega)
    simp only[List.getElem_cons_zero,List.getElem_cons_succ]at this
    exact this (by omega) e.symm
   ·exact h2 x (List.mem_cons_of_mem _ hx) hn hm
 ·rintro(⟨hz,h1,h2,h3⟩|⟨hz,hs,h1,h2,h3⟩)
  ·refine⟨fun x hx=>?_,fun x hx hn=>?_,fun i j hi hj hij hn=>?_⟩
   ·rcases List.mem_cons.1 hx with rfl|hx
    ·exact .inl hz
    ·exact h1 x hx
   ·rcases List.mem_cons.1 hx with rfl|hx
    ·rw[hz]at hn
     exact absurd rfl hn
    ·exact h2 x hx hn
   ·cases i with
    | zero=>
      rw[List.getElem_cons_zero,hz]at hn
      exact absurd rfl hn
    | succ i=>
      obtain⟨j,rfl⟩:∃ k,j=k+1:=⟨j - 1,by omega⟩
      simp only[List.getElem_cons_succ]at hn ⊢
      exact h3 i j (by simpa using hi) (by simpa using hj) (by omega) hn
  ·refine⟨fun x hx=>?_,fun x hx hn=>?_,fun i j hi hj hij hn=>?_⟩
   ·rcases List.mem_cons.1 hx with rfl|hx
    ·exact .inr hz
    ·exact h1 x hx
   ·rcases List.mem_cons.1 hx with rfl|hx
    ·exact hs
    ·exact fun hm=>h2 x hx hn (List.mem_cons_of_mem _ hm)
   ·obtain⟨j,rfl⟩:∃ k,j=k+1:=⟨j - 1,by omega⟩
    have hj':j<r.length:=by simpa using hj
    cases i with
    | zero=>
      simp only[List.getElem_cons_zero,List.getElem_cons_succ]at hn ⊢
      intro e
      exact h2 r[j] (List.getElem_mem hj') (by omega) (by rw[← e];exact List.mem_cons_self ..)
    | succ i=>
      simp only[List.getElem_cons_succ]at hn ⊢
      exact h3 i j (by simpa using hi) hj' (by omega) hn
theorem Pm:∀ {s:List Int} {ls:List Lf},leavesB s ls=true↔lvsOk s ls
 | s,[]=>⟨fun _=>⟨fun _ h=>(by cases h),fun _ h=>(by cases h),fun i j hi=>(by cases hi)⟩,fun _=>rfl⟩
 | s,l::r=>by
   rw[aOe]
   unfold leavesB
   by_cases hz:l=Lf.zero
   ·rw[if_pos hz,Pm]
    constructor
    ·exact fun h=>.inl ⟨hz,h⟩
    ·rintro(⟨-,h⟩|⟨h,-⟩)
     ·exact h
     ·rw[hz]at h
      simp[Lf.zero]at h
   ·rw[if_neg hz,Bool.and_eq_true,decide_eq_true_eq,Pm]
    constructor
    ·exact fun⟨⟨h1,h2⟩,h3⟩=>.inr ⟨h1,h2,h3⟩
    ·rintro(⟨h,-⟩|⟨h1,h2,h3⟩)
     ·exact absurd h hz
     ·exact⟨⟨h1,h2⟩,h3⟩
theorem Tr.Rt.parts {t:Tr} (h:t.Rt):lvsOk [] t.ls∧∀ i (hi:i<t.ps.length),(t.ps[i].set=true∨t.ps[i].isZero)∧(∀ p∈t.ps[i].loose,hld t.size (2*i+1) p∧nameAt t.ls p≠0)∧t.ps[i].loose.Pairwise (·<·):=
 ⟨Pm.1 h.leaves,fun i hi=>by
  obtain⟨a,b⟩:=Mp h.par i hi
  obtain⟨c,d⟩:=Ks b
  rw[show(1:Int)+2*i=2*i+1 by omega]at c
  exact⟨a,fun p hp=>⟨(c p hp).1,(c p hp).2.1⟩,d⟩⟩
end Go.Proofs.YtgbenhmdamnmcaaGreat
namespace Go.Proofs.YtgbenhmdamnmcaaGreat
open Tryz
open Go.RowKit Go.Lib
end Go.Proofs.YtgbenhmdamnmcaaGreat
namespace Go.Proofs.YtgbenhmdamnmcaaGreat
open Tryz
open Go.RowKit Go.Lib
end Go.Proofs.YtgbenhmdamnmcaaGreat
namespace Go.Proofs.YtgbenhmdamnmcaaGreat
open Tryz
open Go.RowKit
theorem Gh:Rdr prog 23 32 (fun _ fs (x:H32)=>fs=[.arr 32 (u8s x.1)]):=aPl Tryz.underlying23 Tryz.underlying5 (by kernel_rfl) (by kernel_rfl)
theorem Ii:Rdr prog 3 1 (fun _ fs (x:Int)=>fs=[.one (.int .i64 x)]∧(Lit.int .i64 x).wf=true):=aPk Tryz.underlying3 (by kernel_rfl)
end Go.Proofs.YtgbenhmdamnmcaaGreat
namespace Go.Proofs.YtgbenhmdamnmcaaGreat
open Tryz
open Go.RowKit Go.Lib
structure Ac where
 op:Int
 name:Int
 at_:Int
 key:Int
abbrev Ac.fds (x:Ac):List Fd:=[.one (.int .u8 x.op),.one (.int .i64 x.name),.one (.int .i64 x.at_),.one (.int .u8 x.key)]
def Ac.good (x:Ac):Prop:=(0≤x.op∧x.op<256)∧0≤x.key∧x.key<256
abbrev Ac.leaf (x:Ac):Lf:=⟨x.name,hset (hset hzero 0 x.key) 1 1,hset (hset hzero 0 x.key) 1 2,hset hzero 0 (x.key%3)⟩
end Go.Proofs.YtgbenhmdamnmcaaGreat
namespace Go.Proofs.YtgbenhmdamnmcaaGreat
open Tryz
open Go.RowKit Go.Lib
end Go.Proofs.YtgbenhmdamnmcaaGreat
namespace Go.Proofs.YtgbenhmdamnmcaaGreat
open Tryz
open Go.RowKit Go.Lib
section
variable {H:Hp} {w0 w:World} {L R:List Res} {A B:Option Addr} {a b:Nat} {t:Tr} {v:Value}
theorem bCq (pl:Int) (pub:H32) (keys:List H32) {K:Option Addr} {kc:Nat} (hkl:keys.length≤1000000) (hK:Sl H 32 K (kfds keys)) (h:TrF H v t) (hf:Fz H w):Calls prog 154 #[v,.int .i64 pl,ha pub,.slice K keys.length kc] w (Outp H w fun H' r=>∃ v1,r=.tuple #[v1,.int .i64 (t.pathP pl pub keys).2]∧TrF H' v1 (t.pathP pl pub keys).1):=by
 obtain⟨A,a,B,b,q,rfl,h1,h2,h3⟩:=h.ex
 exact bCh pl pub keys (fun H' v1 r e k=>by rw[e];exact⟨v1,rfl,k⟩) hkl hK h1 h2 h3 h.len.1 h.len.2 hf
end
end Go.Proofs.YtgbenhmdamnmcaaGreat
namespace Go.Proofs.YtgbenhmdamnmcaaGreat
open Tryz
open Go.RowKit Go.Lib
end Go.Proofs.YtgbenhmdamnmcaaGreat
namespace Go.Proofs.YtgbenhmdamnmcaaGreat
open Tryz
open Go.RowKit Go.Lib
def resL:Nat→Tr→Int→List Int
 | 0,t,x=>if 0<(leafAt t (x / 2)).name then [x] else []
 | f+1,t,x=>if x%2=0 then (if 0<(leafAt t (x / 2)).name then [x] else []) else if (parAt t (x / 2)).set=true then x::(parAt t (x / 2)).loose.map (2*·) else resL f t (lf t.size x)++resL f t (rt t.size x)
theorem aSo {f:Nat} {t:Tr} {x:Int} (h:x%2=0):resL f t x=if 0<(leafAt t (x / 2)).name then [x] else []:=by
 cases f with
 | zero=>rfl
 | succ f=>rw[resL,if_pos h]
theorem aFs {t:Tr} {x:Int} (h:(x / 2).toNat<t.ps.length):parAt t (x / 2)=t.ps[(x / 2).toNat]:=by
 unfold parAt
 rw[List.getD_eq_getElem?_getD,List.getElem?_eq_getElem h]
 rfl
theorem Ui {t:Tr} (h:t.Rt):∀ (f:Nat) (x:Int),thr t.size x→(resL f t x).length≤65*2 ^ f
 | 0,x,_=>by
   unfold resL
   split <;> simp
 | f+1,x,ht=>by
   have hp:0<2 ^ f:=Nat.pow_pos (by decide)
   have h2:(2:Nat) ^ (f+1)=2 ^ f*2:=Nat.pow_succ 2 f
   unfold resL
   by_cases he:x%2=0
   ·rw[if_pos he]
    split <;> simp <;> omega
   ·rw[if_neg he]
    have hlen:=h.len
    obtain⟨k1,k2,k3⟩:=id ht
    have hts:t.size=t.ls.length:=rfl
    have hix:(x / 2).toNat<t.ps.length:=by omega
    by_cases hs:(parAt t (x / 2)).set=true
    ·rw[if_pos hs,aFs hix]
     have:=(h.loose _ (List.getElem_mem hix)).1
     simp only[List.length_cons,List.length_map]
     omega
    ·rw[if_neg hs]
     obtain⟨⟨t1,t2⟩,-⟩:=aCn ht (by omega)
     have:=Ui h f _ t1
     have:=Ui h f _ t2
     rw[List.length_append]
     omega
end Go.Proofs.YtgbenhmdamnmcaaGreat
namespace Go.Proofs.YtgbenhmdamnmcaaGreat
open Tryz
open Go.RowKit Go.Lib
theorem Sc (l:List Int) (x:Int):ints8 (l++[x])=ints8 l++[[.one (.int .i64 x)]]:=by simp[ints8]
section
variable {H:Hp} {w0 w:World} {L R:List Res} {A B K:Option Addr} {a b kc gt go gw gn:Nat} {t:Tr} {qs:List (List Fd)}
theorem aCt {f:Nat} {x:Int} (hR:t.Rt) (h1:Sl H 97 A (t.ls.map Lf.fds)) (he:x%2=0) (ht:thr t.size x) (out:List Int) (ho:out.length≤100000) (hM:Mem H w0 (fb gt 58 (tfd A t.ls.length a B t.ps.length b)::fb go 133 [.one (.slice K out.length kc)]::fb gw 150 [.one (.func (.func 210) #[] #[.pointer (some ⟨gt,0,none⟩),.pointer (some ⟨go,0,none⟩),.pointer (some ⟨gw,0,none⟩),.pointer (some ⟨gn,0,none⟩)])]::fb gn 3 [.one (.int .i64 t.ls.length)]::rowR 3 1 K out.length kc (ints8 (out))::L) w):
  Calls prog 210 #[.int .i64 x,.pointer (some ⟨gt,0,none⟩),.pointer (some ⟨go,0,none⟩),.pointer (some ⟨gw,0,none⟩),.pointer (some ⟨gn,0,none⟩)] w fun en w'=>∃ v,en=.returned v∧v=.tuple #[]∧∃ K' kc',Mem H w0 (fb gt 58 (tfd A t.ls.length a B t.ps.length b)::fb go 133 [.one (.slice K' (out++resL f t x).length kc')]::fb gw 150 [.one (.func (.func 210) #[] #[.pointer (some ⟨gt,0,none⟩),.pointer (some ⟨go,0,none⟩),.pointer (some ⟨gw,0,none⟩),.pointer (some ⟨gn,0,none⟩)])]::fb gn 3 [.one (.int .i64 t.ls.length)]::rowR 3 1 K' (out++resL f t x).length kc' (ints8 (out++resL f t x))::L) w':=by
 have hlen:=hR.len
 have hts:t.size=t.ls.length:=rfl
 obtain⟨k1,k2,k3⟩:=id ht
 have hix:(x / 2).toNat<t.ls.length:=by omega
 have hla:leafAt t (x / 2)=t.ls[(x / 2).toNat]:=by
  unfold leafAt
  rw[List.getD_eq_getElem?_getD,List.getElem?_eq_getElem hix]
  rfl
 rw[aSo he,hla]
 refine Mm ?_
 unfold Hv
 (((refine Ab ?_ ?_));(focus omega);((refine Cc trivial ?_ ?_));(focus (first|assumption|omega|with_reducible rfl|exact fun h=>Bool.noConfusion h));((refine Am ?_;refine Ab trivial ?_;refine Ao hM ?_;refine Ab ?_ ?_));(focus omega);(refine Ca ‹_› ?_ ?_ ?_);(focus (simp only[List.length_map];omega));(focus (simp only[List.length_map];first|done|omega));((intro _ _ hA));(cases hA);((refine Ab trivial ?_));(refine Ff hM ‹_› (Co ?_) ?_);(focus omega))
 (((refine Av trivial ?_ ?_)))
 ·intro hn
  rw[if_pos hn,List.length_append,List.length_singleton,Sc]
  (((refine Am ?_;refine Ao hM ?_;refine Bu hM ?_ ?_ ?_));(focus rfl);(focus (constructor <;> simp));((clear hM;intro _ _ hM;refine Cz hM ?_ ?_));(focus omega);((clear hM;intro _ _ _ hM;refine Bi hM ?_;clear hM;intro _ hM)))
  rename_i A2 c2 _ _
  exact⟨_,rfl,rfl,A2,c2,hM.sub⟩
 ·intro hn
  rw[if_neg hn,List.append_nil]
  (((refine Al ?_)))
  exact⟨_,rfl,rfl,K,kc,hM⟩
theorem aLa (hR:t.Rt) (h1:Sl H 97 A (t.ls.map Lf.fds)) (h2:Sl H 66 B qs) (h3:All2 (PnF H) qs t.ps):∀ (f:Nat) (x:Int),level x≤f→f≤8→thr t.size x→∀ (out:List Int) (K:Option Addr) (kc:Nat) (w:World),out.length+65*2 ^ f≤50000→Mem H w0 (fb gt 58 (tfd A t.ls.length a B t.ps.length b)::fb go 133 [.one (.slice K out.length kc)]::fb gw 150 [.one (.func (.func 210) #[] #[.pointer (some ⟨gt,0,none⟩),.pointer (some ⟨go,0,none⟩),.pointer (some ⟨gw,0,none⟩),.pointer (some ⟨gn,0,none⟩)])]::fb gn 3 [.one (.int .i64 t.ls.length)]::rowR 3 1 K out.length kc (ints8 (out))::L) w →
  Calls prog 210 #[.int .i64 x,.pointer (some ⟨gt,0,none⟩),.pointer (some ⟨go,0,none⟩),.pointer (some ⟨gw,0,none⟩),.pointer (some ⟨gn,0,none⟩)] w fun en w'=>∃ v,en=.returned v∧v=.tuple #[]∧∃ K' kc',Mem H w0 (fb gt 58 (tfd A t.ls.length a B t.ps.length b)::fb go 133 [.one (.slice K' (out++resL f t x).length kc')]::fb gw 150 [.one (.func (.func 210) #[] #[.pointer (some ⟨gt,0,none⟩),.pointer (some ⟨go,0,none⟩),.pointer (some ⟨gw,0,none⟩),.pointer (some ⟨gn,0,none⟩)])]::fb gn 3 [.one (.int .i64 t.ls.length)]::rowR 3 1 K' (out++resL f t x).length kc' (ints8 (out++resL f t x))::L) w':=by
 have hlen:=hR.len
 have hts:t.size=t.ls.length:=rfl
 have hq:qs.length=t.ps.length:=h3.len
 intro f
 induction f with
 | zero=>
   intro x hx _ ht out K kc w ho hM
   have he:x%2=0:=by
    have:=aFo x
    omega
   exact aCt hR h1 he ht out (by omega) hM
 | succ f ih=>
   intro x hx hf8 ht out K kc w ho hM
   have hp2:0<2 ^ f:=Nat.pow_pos (by decide)
   have h22:(2:Nat) ^ (f+1)=2 ^ f*2:=Nat.pow_succ 2 f
   generalize (2:Nat) ^ (f+1)=q2 at *
   by_cases he:x%2=0
   ·exact aCt hR h1 he ht out (by omega) hM
   have hodd:x%2=1:=by omega
   obtain⟨k1,k2,k3⟩:=id ht
   obtain⟨⟨t1,t2⟩,⟨l1,l2⟩,-⟩:=aCn ht hodd
   have hix:(x / 2).toNat<t.ps.length:=by omega
   obtain⟨q,hq1,C,c,rfl,hC,hcl⟩:=h3.at_ (i:=(x / 2).toNat) hix
   obtain⟨p,hpe⟩:∃ p,t.ps[(x / 2).toNat]=p:=⟨_,rfl⟩
   have hpa:parAt t (x / 2)=p:=by
    unfold parAt
    rw[List.getD_eq_getElem?_getD,List.getElem?_eq_getElem hix,hpe]
    rfl
   have hlo:=hR.loose p (hpe ▸ List.getElem_mem _)
   obtain⟨-,hd,-⟩:=hR.parts.2 _ hix
   rw[hpe]at hq1 hC hcl hd
   have hres:resL (f+1) t x=if p.set=true then x::p.loose.map (2*·) else resL f t (lf t.size x)++resL f t (rt t.size x):=by
    rw[resL,if_neg he,hpa]
   rw[hres]
   refine Mm ?_
   unfold Hv
   (((refine Ab ?_ ?_));(focus omega);((refine Br trivial ?_ ?_));(focus (first|assumption|omega|with_reducible rfl|exact fun h=>Bool.noConfusion h));((refine Al ?_;refine Ab trivial ?_;refine Ao hM ?_;refine Ab ?_ ?_));(focus omega))
   refine Ca h2 (by omega) hq.symm (fun bb oo hB=>?_)
   cases hB
   (((refine Ab trivial ?_)))
   refine Bt hM h2 hq1 ?_
   rcases Bool.eq_false_or_eq_true p.set with hset|hset
   ·rw[hset,if_pos rfl]
    (((refine Am ?_;refine Ao hM ?_;refine Bu hM ?_ ?_ ?_));(focus rfl);(focus (constructor <;> simp));((clear hM;intro _ _ hM;refine Cz hM ?_ ?_));(focus omega);((clear hM;intro _ _ _ hM;refine Bi hM ?_;clear hM;intro _ hM;refine Ab trivial ?_;refine Ao hM ?_;refine Ab ?_ ?_));(focus omega);((refine Ab ?_ ?_));(focus omega);((refine Ab trivial ?_)))
    rename_i A2 c2 _ _
    refine Ff hM h2 hq1 ?_
    (((refine Ab trivial ?_)))
    refine⟨fun v w'=>∃ (k:Nat) (K':Option Addr) (kc':Nat),v=.int .i64 k∧k≤p.loose.length∧Mem H w0 (fb gt 58 (tfd A t.ls.length a (some ⟨bb,oo,none⟩) t.ps.length b)::fb go 133 [.one (.slice K' (out++x::(p.loose.take k).map (2*·)).length kc')]::fb gw 150 [.one (.func (.func 210) #[] #[.pointer (some ⟨gt,0,none⟩),.pointer (some ⟨go,0,none⟩),.pointer (some ⟨gw,0,none⟩),.pointer (some ⟨gn,0,none⟩)])]::fb gn 3 [.one (.int .i64 t.ls.length)]::rowR 3 1 K' (out++x::(p.loose.take k).map (2*·)).length kc' (ints8 (out++x::(p.loose.take k).map (2*·)))::L) w',fun v _=>match v with | .int _ k=>p.loose.length - k.toNat|_=>0,⟨0,A2,c2,rfl,by omega,?_⟩,?_⟩
    ·rw[List.take_zero,List.map_nil,List.length_append,List.length_singleton,Sc]
     exact hM.sub
    clear hM
    rintro v u w3 ⟨k,K',kc',rfl,hk,hM⟩
    have hol:(out++x::(p.loose.take k).map (2*·)).length=out.length+(k+1):=by
     simp
     omega
    (((refine Av trivial ?_ ?_)))
    ·intro hlt
     have hlt':k<p.loose.length:=by omega
     have e1:=aCi (l:=p.loose) (i:=k) hlt'
     have hq:=Uf (hd _ (List.getElem_mem hlt')).1
     (((refine Am ?_));(refine Ca ‹_› ?_ ?_ ?_);(focus (simp only[List.length_map];omega));(focus (simp only[List.length_map];first|done|omega));((intro _ _ hA));(cases hA);(refine Bt hM ‹_› (Bs ?_) ?_);(focus omega);((refine Ao hM ?_;refine Ab ?_ ?_));(focus omega);((refine Bu hM ?_ ?_ ?_));(focus rfl);(focus (constructor <;> simp));((clear hM;intro _ _ hM;refine Cz hM ?_ ?_));(focus omega);((clear hM;intro _ _ _ hM;refine Bi hM ?_;clear hM;intro _ hM;refine Ab ?_ ?_));(focus omega))
     rename_i A3 c3 _ _
     refine⟨⟨k+1,A3,c3,rfl,by omega,?_⟩,by simp only;omega⟩
     have e:out++x::(p.loose.take (k+1)).map (2*·)=(out++x::(p.loose.take k).map (2*·))++[2*p.loose[k]]:=by
      rw[List.take_succ_eq_append_getElem hlt',List.map_append,List.append_assoc]
      rfl
     rw[e,List.length_append,List.length_singleton,Sc]
     exact hM.sub
    ·intro hge
     obtain rfl:k=p.loose.length:=by omega
     rw[List.take_length]at hM
     (((refine Al ?_)))
     exact⟨_,rfl,rfl,_,_,hM⟩
   ·rw[hset,if_neg (by simp)]
    have z1:=Ui hR f _ t1
    (((refine Al ?_;refine Aw hM ?_;refine Aw hM ?_;refine Bd hM ?_ (fun _ _ hM=>?_)));(focus (first|exact trivial|assumption|omega)))
    refine aJa hM (fun w hM=>?_)
    refine Ex (ih (lf t.size x) (by omega) (by omega) t1 out K kc w (by omega) hM) ?_
    rintro e w' ⟨v,rfl,rfl,K1,kc1,hM⟩
    dsimp only
    (((refine Ba hM ?_;clear hM;intro _ hM;refine Aw hM ?_;refine Aw hM ?_;refine Bd hM ?_ (fun _ _ hM=>?_)));(focus (first|exact trivial|assumption|omega)))
    refine aJa hM (fun w hM=>?_)
    refine Ex (ih (rt t.size x) (by omega) (by omega) t2 (out++resL f t (lf t.size x)) K1 kc1 w (by rw[List.length_append];omega) hM) ?_
    rintro e w' ⟨v,rfl,rfl,K2,kc2,hM⟩
    dsimp only
    (((refine Ba hM ?_;clear hM;intro _ hM)))
    rw[← List.append_assoc]
    exact⟨_,rfl,rfl,_,_,hM⟩
def resT (t:Tr) (x:Int):List Int:=if thr t.size x then resL 8 t x else []
theorem aLb (x:Int) (hx:x≤1000) (hR:t.Rt) {v:Value} (h:TrF H v t) (hf:Fz H w):Calls prog 187 #[v,.int .i64 x] w fun en w'=>∃ r,en=.returned r∧∃ K kc,r=.slice K (resT t x).length kc∧Mem H w [rowR 3 1 K (resT t x).length kc (ints8 (resT t x))] w':=by
 obtain⟨A,a,B,b,q,rfl,h1,h2,h3⟩:=h.ex
 obtain⟨w1,hw1⟩:∃ w1,w1=w:=⟨_,rfl⟩
 rw[← hw1]
 rw[← hw1]at hf
 have hlen:=hR.len
 have hts:t.size=t.ls.length:=rfl
 have hM:=Mem.start hf
 refine aBx ?_
 unfold Pd
 (((refine Bb hM ?_;clear hM;intro _ _ hM;refine Ao hM ?_)))
 rename_i g1 _
 refine Bn hM (Ug h1 h2 h3 h.len.1 h.len.2 hM.fz) (fun w hM=>?_)
 rw[if_pos (Tr.rt.2 hR)]
 (((refine Bi hM ?_;clear hM;intro _ hM;refine Ab trivial ?_;refine Ao hM ?_;refine Ab trivial ?_;refine Bj hM ?_;clear hM;intro _ _ hM;refine Bi hM ?_;clear hM;intro _ hM;refine Bj hM ?_;clear hM;intro _ _ hM;refine Bj hM ?_;clear hM;intro _ _ hM;refine Ab trivial ?_;refine Bi hM ?_;clear hM;intro _ hM)))
 rename_i _ g2 _ _ g3 _ g4 _ _
 refine⟨fun w'=>∃ K kc,Mem H w1 [fb g3 133 [.one (.slice K (resT t x).length kc)],rowR 3 1 K (resT t x).length kc (ints8 (resT t x))] w',?_,?_⟩
 ·refine⟨fun v w'=>v=.bool (decide (thr t.size x))∧hM.now w',?_,?_⟩
  ·(((refine Av trivial ?_ ?_)))
   ·intro c1
    (((refine Ae ?_;refine Ab trivial ?_;refine Ae ?_;refine Ao hM ?_;refine Ae ?_;refine Ab ?_ ?_));(focus omega);((refine Ae ?_;refine Ab ?_ ?_));(focus omega);((refine Ae ?_)))
    refine⟨?_,hM⟩
    rw[if_pos rfl,Value.bool.injEq,decide_eq_decide]
    unfold thr
    omega
   ·intro c1
    ((((iterate 5 refine Bq ?_);refine Ab trivial ?_)))
    exact⟨by rw[decide_eq_false (by unfold thr;omega)],hM⟩
  rintro v u w2 ⟨rfl,hM⟩
  by_cases c:thr t.size x
  ·rw[decide_eq_true c]
   have hr:resT t x=resL 8 t x:=if_pos c
   rw[hr]
   have h0:Mem H w1 (rowR 3 1 none 0 0 (ints8 [])::_) _:=hM.row0 3 1
   have hM:Mem H w1 (fb g1 58 (tfd A t.ls.length a B t.ps.length b)::fb g3 133 [.one (.slice none 0 0)]::fb g4 150 [.one (.func (.func 210) #[] #[.pointer (some ⟨g1,0,none⟩),.pointer (some ⟨g3,0,none⟩),.pointer (some ⟨g4,0,none⟩),.pointer (some ⟨g2,0,none⟩)])]::fb g2 3 [.one (.int .i64 t.ls.length)]::rowR 3 1 none 0 0 (ints8 [])::[]) _:=h0.sub
   (((refine Am ?_;refine Ao hM ?_)))
   refine Ex (aLa (t:=t) hR h1 h2 h3 8 x (by have:=Zj 8 x;unfold level;omega) (by omega) c [] none 0 _ (by simp) hM) ?_
   rintro e w' ⟨v,rfl,rfl,K1,kc1,hM⟩
   dsimp only
   rw[List.nil_append]at hM
   skip
   exact⟨K1,kc1,hM.sub⟩
  ·rw[decide_eq_false c]
   have hr:resT t x=[]:=if_neg c
   rw[hr]
   (((refine Al ?_)))
   have h0:Mem H w1 (rowR 3 1 none 0 0 (ints8 [])::_) _:=hM.row0 3 1
   exact⟨none,0,h0.sub⟩
 clear hM
 rintro u w2 ⟨K,kc,hM⟩
 (((refine Ao hM ?_)))
 have hM:Mem H w1 [rowR 3 1 K (resT t x).length kc (ints8 (resT t x))] _:=hM.sub
 exact⟨_,rfl,K,kc,rfl,hM⟩
end
end Go.Proofs.YtgbenhmdamnmcaaGreat
namespace Go.Proofs.YtgbenhmdamnmcaaGreat
open Tryz
open Go.RowKit
section
variable {P:Program} {H K:Hp} {w0 w w':World} {L R:List Res} {t:TypeId} {fs:List Fd} {Kt:Value→World→Prop} {X:List PanicEntry→World→Prop}
theorem bAz {tt:TypeId} {q e:Bool} {n i k:Nat} {v:Value} {gs fs':List Fd} {put:Res→List Res} (h:Mem H w0 L w) [c:ShpC P t q n] [a:AtB L k tt fs put] [f:Vf v n gs] [p:Put fs i gs fs'] (hF:Fz K w) (hn:K k=none) (hk:∀ w',Mem H w0 (put (fb k tt fs')) w'→Fz K w'→Kt undef w'):
  dfS P (Rl.fz K) w (Ak t (.pointer (some ⟨k,i,none⟩)) v) e Kt:=⟨fun w1 hd=>by
 refine Fy ((aUk (K:=fun u w2=>u=undef∧Mem H w0 (put (fb k tt fs')) w2) h fun w2 h2=>⟨rfl,h2⟩).out w1 hd) ?_ (fun _ _ h=>h)
 rintro u w2 ⟨h1,rfl,h2⟩
 have ho:=h1 rfl
 have hz:Fz K w2:=hF.same fun b c hb=>ho.block _ (hF.lt hb) (by
  rintro rfl
  rw[hn]at hb
  cases hb)
 exact⟨fun _ _=>hz,hk w2 h2 hz⟩⟩
end
end Go.Proofs.YtgbenhmdamnmcaaGreat
namespace Go.Proofs.YtgbenhmdamnmcaaGreat
open Tryz
open Go.RowKit
structure SW {α:Type} (lt:α→α→Bool):Prop where
 irr:∀ x,lt x x=false
 tra:∀ x y z,lt x y=true→lt y z=true→lt x z=true
 neg:∀ x y z,lt x y=false→lt y z=false→lt x z=false
section
variable {α:Type} {lt:α→α→Bool}
theorem SW.asy (h:SW lt) {x y:α} (k:lt x y=true):lt y x=false:=by
 cases hc:lt y x
 ·rfl
 ·have:=h.tra x y x k hc
  rw[h.irr]at this
  cases this
def tl (lt:α→α→Bool) (p q:α × Nat):Prop:=lt p.1 q.1=true∨(lt q.1 p.1=false∧p.2<q.2)
theorem SW.tlt (h:SW lt) {p q r:α × Nat} (a:tl lt p q) (b:tl lt q r):tl lt p r:=by
 rcases a with a|⟨a,a2⟩ <;> rcases b with b|⟨b,b2⟩
 ·exact .inl (h.tra _ _ _ a b)
 ·refine .inl ?_
  cases hc:lt p.1 r.1
  ·rw[h.neg _ _ _ hc b]at a
   cases a
  ·rfl
 ·refine .inl ?_
  cases hc:lt p.1 r.1
  ·rw[h.neg _ _ _ a hc]at b
   cases b
  ·rfl
 ·exact .inr ⟨h.neg _ _ _ b a,by omega⟩
theorem SW.tla (h:SW lt) {p q:α × Nat} (a:tl lt p q) (b:tl lt q p):False:=by
 rcases a with a|⟨a,a2⟩ <;> rcases b with b|⟨b,b2⟩
 ·have:=h.asy a
  rw[this]at b
  cases b
 ·rw[b]at a
  cases a
 ·rw[a]at b
  cases b
 ·omega
theorem aLc (p q:α × Nat) (h:lt q.1 p.1=false) (ht:p.2<q.2):tl lt p q:=.inr ⟨h,ht⟩
def insB (lt:α→α→Bool) (x:α):List α→List α
 | []=>[x]
 | y::r=>if lt x y then x::y::r else y::insB lt x r
def srtB (lt:α→α→Bool) (l:List α):List α:=l.foldl (fun acc x=>insB lt x acc) []
abbrev ltT (lt:α→α→Bool):α × Nat→α × Nat→Bool:=fun p q=>lt p.1 q.1
theorem aLd (x:α × Nat):∀ T:List (α × Nat),(insB (ltT lt) x T).map (·.1)=insB lt x.1 (T.map (·.1))
 | []=>rfl
 | y::r=>by
   simp only[insB,List.map_cons]
   split <;> simp[aLd x r]
theorem Ms (x:α):∀ T:List α,(insB lt x T).Perm (x::T)
 | []=>.refl _
 | y::r=>by
   simp only[insB]
   split
   ·exact .refl _
   ·exact((Ms x r).cons y).trans (.swap ..)
theorem aQa (h:SW lt) {x:α × Nat}:∀ {T:List (α × Nat)},T.Pairwise (tl lt)→(∀ y∈T,y.2<x.2)→(insB (ltT lt) x T).Pairwise (tl lt)
 | [],_,_=>by simp[insB]
 | y::r,hp,ht=>by
   obtain⟨h1,h2⟩:=List.pairwise_cons.1 hp
   simp only[insB]
   split
   ·rename_i hc
    refine List.pairwise_cons.2 ⟨fun z hz=>?_,hp⟩
    rcases List.mem_cons.1 hz with rfl|hz
    ·exact .inl hc
    ·exact h.tlt (.inl hc) (h1 z hz)
   ·rename_i hc
    refine List.pairwise_cons.2 ⟨fun z hz=>?_,aQa h h2 fun z hz=>ht z (List.mem_cons_of_mem _ hz)⟩
    rcases List.mem_cons.1 ((Ms x r).mem_iff.1 hz) with rfl|hz
    ·exact aLc _ _ (by simpa using hc) (ht y (List.mem_cons_self ..))
    ·exact h1 z hz
theorem foldT (h:SW lt):∀ (P acc:List (α × Nat)),acc.Pairwise (tl lt)→P.Pairwise (fun p q=>p.2<q.2)→(∀ y∈acc,∀ p∈P,y.2<p.2) →
  (P.foldl (fun a x=>insB (ltT lt) x a) acc).Pairwise (tl lt)∧(P.foldl (fun a x=>insB (ltT lt) x a) acc).Perm (acc++P)∧(P.foldl (fun a x=>insB (ltT lt) x a) acc).map (·.1)=(P.map (·.1)).foldl (fun a x=>insB lt x a) (acc.map (·.1))
 | [],acc,ha,_,_=>⟨ha,by simp,rfl⟩
 | p::r,acc,ha,hp,ht=>by
   obtain⟨h1,h2⟩:=List.pairwise_cons.1 hp
   have hperm:=Ms (lt:=ltT lt) p acc
   obtain⟨k1,k2,k3⟩:=foldT h r (insB (ltT lt) p acc) (aQa h ha fun y hy=>ht y hy p (List.mem_cons_self ..)) h2 (fun y hy q hq=>by
    rcases List.mem_cons.1 (hperm.mem_iff.1 hy) with rfl|hy
    ·exact h1 q hq
    ·exact ht y hy q (List.mem_cons_of_mem _ hq))
   refine⟨k1,?_,?_⟩
   ·exact k2.trans ((hperm.append_right r).trans (List.perm_middle.symm))
   ·rw[List.foldl_cons,k3,List.map_cons,List.foldl_cons,aLd]
theorem bCr (h:SW lt) {l:List α} {T:List (α × Nat)} (hp:T.Perm l.zipIdx) (hs:T.Pairwise (tl lt)):T.map (·.1)=srtB lt l:=by
 have ht:(l.zipIdx).Pairwise (fun p q=>p.2<q.2):=by
  have h2:(l.zipIdx.map (·.2)).Pairwise (·<·):=by
   rw[List.zipIdx_map_snd]
   exact List.pairwise_lt_range'
  exact List.pairwise_map.1 h2
 obtain⟨k1,k2,k3⟩:=foldT h l.zipIdx [] .nil ht (fun _ hy=>by cases hy)
 have e:T=(l.zipIdx).foldl (fun a x=>insB (ltT lt) x a) []:=by
  refine List.Perm.eq_of_pairwise (fun a b _ _ hab hba=>(h.tla hab hba).elim) hs k1 (hp.trans ?_)
  simpa using k2.symm
 rw[e,k3,List.zipIdx_map_fst]
 rfl
def okR (lt:α→α→Bool) (U0 U:List (α × Nat)):Prop:=U.Perm U0∧U.Pairwise (tl lt)
inductive Runs (lt:α→α→Bool) (bs:Nat):List (α × Nat)→List (α × Nat)→Prop
 | last {U0 U:List (α × Nat)} (h:okR lt U0 U) (hl:U.length≤bs):Runs lt bs U0 U
 | cons {U0 U R0 R:List (α × Nat)} (h:okR lt U0 U) (hl:U.length=bs) (hr:Runs lt bs R0 R):Runs lt bs (U0++R0) (U++R)
inductive RunsF (lt:α→α→Bool) (bs:Nat):List (α × Nat)→List (α × Nat)→Prop
 | nil:RunsF lt bs [] []
 | snoc {A0 A U0 U:List (α × Nat)} (ha:RunsF lt bs A0 A) (h:okR lt U0 U) (hl:U.length=bs):RunsF lt bs (A0++U0) (A++U)
theorem RunsF.app {bs:Nat} {A0 A:List (α × Nat)} (h:RunsF lt bs A0 A):∀ {R0 R:List (α × Nat)},Runs lt bs R0 R→Runs lt bs (A0++R0) (A++R):=by
 induction h with
 | nil=>exact fun h=>h
 | snoc ha h hl ih=>
   intro R0 R hr
   rw[List.append_assoc,List.append_assoc]
   exact ih (.cons h hl hr)
theorem Runs.len {bs:Nat} {R0 R:List (α × Nat)} (h:Runs lt bs R0 R):R0.length=R.length:=by
 induction h with
 | last h hl=>exact h.1.length_eq.symm
 | cons h hl hr ih=>rw[List.length_append,List.length_append,ih,h.1.length_eq]
theorem RunsF.len {bs:Nat} {R0 R:List (α × Nat)} (h:RunsF lt bs R0 R):R0.length=R.length:=by
 induction h with
 | nil=>rfl
 | snoc ha h hl ih=>rw[List.length_append,List.length_append,ih,h.1.length_eq]
theorem Runs.short {bs:Nat} {R0 R:List (α × Nat)} (h:Runs lt bs R0 R) (hl:R.length≤bs):okR lt R0 R:=by
 cases h with
 | last h _=>exact h
 | cons h hu hr=>
   rename_i U0 U R0 R
   have hz:R=[]:=List.eq_nil_of_length_eq_zero (by rw[List.length_append]at hl;omega)
   have hz0:R0=[]:=List.eq_nil_of_length_eq_zero (by rw[hr.len,hz];rfl)
   rw[hz,hz0,List.append_nil,List.append_nil]
   exact h
theorem okR.nil:okR lt ([]:List (α × Nat)) []:=⟨.refl _,.nil⟩
theorem Runs.first {bs:Nat} {R0 R:List (α × Nat)} (h:Runs lt bs R0 R) (hl:bs≤R.length):∃ U0 U S0 S,R0=U0++S0∧R=U++S∧okR lt U0 U∧U.length=bs∧Runs lt bs S0 S:=by
 cases h with
 | last h hu=>exact⟨R0,R,[],[],by simp,by simp,h,by omega,.last .nil (by simp)⟩
 | cons h hu hr=>exact⟨_,_,_,_,rfl,rfl,h,hu,hr⟩
theorem bCs (h:SW lt) {X Y:List (α × Nat)} {x:α × Nat} (hp:(X++Y).Pairwise (tl lt)) (hy:∀ y∈Y,tl lt x y) (hx:X=[]∨∃ X' y,X=X'++[y]∧tl lt y x):(X++x::Y).Pairwise (tl lt):=by
 obtain⟨h1,h2,h3⟩:=List.pairwise_append.1 hp
 refine List.pairwise_append.2 ⟨h1,List.pairwise_cons.2 ⟨hy,h2⟩,fun u hu v hv=>?_⟩
 rcases List.mem_cons.1 hv with rfl|hv
 ·rcases hx with rfl|⟨X',y,rfl,hxy⟩
  ·cases hu
  ·rcases List.mem_append.1 hu with hu|hu
   ·exact h.tlt ((List.pairwise_append.1 h1).2.2 u hu y (by simp)) hxy
   ·rw[List.mem_singleton.1 hu]
    exact hxy
 ·exact h3 u hu v hv
theorem aQb (h:SW lt) {X Y:List (α × Nat)} (h1:X.Pairwise (tl lt)) (h2:Y.Pairwise (tl lt)) (hx:X=[]∨Y=[]∨∃ X' x y Y',X=X'++[x]∧Y=y::Y'∧tl lt x y):(X++Y).Pairwise (tl lt):=by
 refine List.pairwise_append.2 ⟨h1,h2,fun u hu v hv=>?_⟩
 rcases hx with rfl|rfl|⟨X',x,y,Y',rfl,rfl,hxy⟩
 ·cases hu
 ·cases hv
 ·have a:u=x∨tl lt u x:=by
   rcases List.mem_append.1 hu with hu|hu
   ·exact .inr ((List.pairwise_append.1 h1).2.2 u hu x (by simp))
   ·exact .inl (List.mem_singleton.1 hu)
  have b:v=y∨tl lt y v:=by
   rcases List.mem_cons.1 hv with hv|hv
   ·exact .inl hv
   ·exact .inr ((List.pairwise_cons.1 h2).1 v hv)
  rcases a with rfl|a <;> rcases b with rfl|b
  ·exact hxy
  ·exact h.tlt hxy b
  ·exact h.tlt a hxy
  ·exact h.tlt a (h.tlt hxy b)
theorem Uj {X Y:List (α × Nat)} (h:(X++Y).Pairwise (tl lt)):∀ u∈X,∀ v∈Y,tl lt u v:=(List.pairwise_append.1 h).2.2
theorem aZl (h:SW lt) {U1 U2 V1 V2 M1 M2:List (α × Nat)} (hu:(U1++U2).Pairwise (tl lt)) (hv:(V1++V2).Pairwise (tl lt)) (p1:M1.Perm (U1++V1)) (p2:M2.Perm (U2++V2)) (s1:M1.Pairwise (tl lt)) (s2:M2.Pairwise (tl lt))
  (c1:U1=[]∨V2=[]∨∃ X' x y Y',U1=X'++[x]∧V2=y::Y'∧tl lt x y) (c2:V1=[]∨U2=[]∨∃ X' x y Y',V1=X'++[x]∧U2=y::Y'∧tl lt x y):(M1++M2).Pairwise (tl lt):=by
 have a1:=Uj (aQb h (List.pairwise_append.1 hu).1 (List.pairwise_append.1 hv).2.1 c1)
 have a2:=Uj (aQb h (List.pairwise_append.1 hv).1 (List.pairwise_append.1 hu).2.1 c2)
 have a3:=Uj hu
 have a4:=Uj hv
 refine List.pairwise_append.2 ⟨s1,s2,fun x hx y hy=>?_⟩
 rcases List.mem_append.1 (p1.mem_iff.1 hx) with hx|hx <;> rcases List.mem_append.1 (p2.mem_iff.1 hy) with hy|hy
 ·exact a3 x hx y hy
 ·exact a1 x hx y hy
 ·exact a2 x hx y hy
 ·exact a4 x hx y hy
theorem aQc {β:Type} (P Q S:List β) (x y:β) {i j:Nat} (hi:i=P.length) (hj:j=P.length+1+Q.length):((P++x::(Q++y::S)).set i y).set j x=P++y::(Q++x::S):=by
 subst hi
 subst hj
 rw[List.set_append_right _ _ (Nat.le_refl _),Nat.sub_self,List.set_cons_zero,List.set_append_right _ _ (by omega),show P.length+1+Q.length - P.length=Q.length+1 by omega,List.set_cons_succ,List.set_append_right _ _ (Nat.le_refl _),Nat.sub_self,List.set_cons_zero]
theorem aWg {β:Type} (P Q S:List β) (x y:β) {i j:Nat} (hi:i=P.length) (hj:j=P.length+1+Q.length):((P++x::(Q++y::S)).set j x).set i y=P++y::(Q++x::S):=by
 rw[List.set_comm _ _ (by omega)]
 exact aQc P Q S x y hi hj
theorem aLe {β:Type} (P Q S:List β) (x y:β) {i:Nat} (hi:i=P.length) (h:i<(P++x::(Q++y::S)).length):(P++x::(Q++y::S))[i]=x:=by
 subst hi
 simp
theorem aLf {β:Type} (P Q S:List β) (x y:β) {j:Nat} (hj:j=P.length+1+Q.length) (h:j<(P++x::(Q++y::S)).length):(P++x::(Q++y::S))[j]=y:=by
 subst hj
 rw[List.getElem_append_right (by omega)]
 simp only[show P.length+1+Q.length - P.length=Q.length+1 by omega,List.getElem_cons_succ]
 rw[List.getElem_append_right (by omega)]
 simp
end
end Go.Proofs.YtgbenhmdamnmcaaGreat
namespace Go.Proofs.YtgbenhmdamnmcaaGreat
open Tryz
open Go.RowKit
section
variable {α:Type} {key:α→Int}
abbrev ltU (key:α→Int):α→α→Bool:=fun x y=>decide (key x<key y)
theorem bCt (key:α→Int):SW (ltU key):=⟨fun x=>by simp,fun x y z h1 h2=>by simp only[decide_eq_true_eq]at *;omega,fun x y z h1 h2=>by simp only[decide_eq_false_iff_not]at *;omega⟩
def cpt (key:α→Int):α→List α→List α
 | x,[]=>[x]
 | x,y::r=>if key x=key y then cpt key x r else x::cpt key y r
def cptL (key:α→Int):List α→List α
 | []=>[]
 | x::r=>cpt key x r
def insU (key:α→Int) (x:α):List α→List α
 | []=>[x]
 | y::r=>if key y<key x then y::insU key x r else if key y=key x then y::r else x::y::r
theorem aLg (y:α):∀ S:List α,∃ r,cpt key y S=y::r
 | []=>⟨[],rfl⟩
 | z::R=>by
   unfold cpt
   split
   ·exact aLg y R
   ·exact⟨_,rfl⟩
theorem aLh {x y:α} {S:List α} (h:key x<key y):insU key x (cpt key y S)=x::cpt key y S:=by
 obtain⟨r,e⟩:=aLg (key:=key) y S
 rw[e]
 simp only[insU]
 rw[if_neg (by omega),if_neg (by omega)]
theorem aIe (x:α):∀ (S:List α) (y:α),(y::S).Pairwise (fun a b=>key a≤key b)→key y≤key x→cpt key y (insB (ltU key) x S)=insU key x (cpt key y S)
 | [],y,_,h=>by
   simp only[insB,cpt,insU]
   by_cases e:key y=key x
   ·rw[if_pos e,if_neg (by omega),if_pos e]
   ·rw[if_neg e,if_pos (by omega)]
 | z::R,y,hp,h=>by
   obtain⟨h1,h2⟩:=List.pairwise_cons.1 hp
   have hyz:=h1 z (List.mem_cons_self ..)
   simp only[insB]
   by_cases hxz:key x<key z
   ·rw[if_pos (decide_eq_true hxz)]
    have e1:cpt key y (z::R)=y::cpt key z R:=if_neg (by omega)
    have e2:cpt key x (z::R)=x::cpt key z R:=if_neg (by omega)
    by_cases e:key y=key x
    ·rw[show cpt key y (x::z::R)=cpt key y (z::R) from if_pos e,e1]
     simp only[insU]
     rw[if_neg (by omega),if_pos e]
    ·rw[show cpt key y (x::z::R)=y::cpt key x (z::R) from if_neg e,e2,e1]
     simp only[insU]
     rw[if_pos (by omega),aLh hxz]
   ·rw[if_neg (by simpa using hxz)]
    by_cases e:key y=key z
    ·rw[show cpt key y (z::insB (ltU key) x R)=cpt key y (insB (ltU key) x R) from if_pos e,show cpt key y (z::R)=cpt key y R from if_pos e]
     exact aIe x R y (List.pairwise_cons.2 ⟨fun a ha=>h1 a (List.mem_cons_of_mem _ ha),(List.pairwise_cons.1 h2).2⟩) h
    ·rw[show cpt key y (z::insB (ltU key) x R)=y::cpt key z (insB (ltU key) x R) from if_neg e,show cpt key y (z::R)=y::cpt key z R from if_neg e,aIe x R z h2 (by omega)]
     simp only[insU]
     rw[if_pos (by omega)]
theorem aWh (x:α) {S:List α} (hp:S.Pairwise (fun a b=>key a≤key b)):cptL key (insB (ltU key) x S)=insU key x (cptL key S):=by
 cases S with
 | nil=>rfl
 | cons y S=>
   simp only[insB,cptL]
   by_cases h:key x<key y
   ·rw[if_pos (decide_eq_true h),aLh h]
    exact if_neg (by omega)
   ·rw[if_neg (by simpa using h)]
    exact aIe x S y hp (by omega)
theorem aQd (x:α):∀ {S:List α},S.Pairwise (fun a b=>key a≤key b)→(insB (ltU key) x S).Pairwise (fun a b=>key a≤key b)
 | [],_=>by simp[insB]
 | y::r,hp=>by
   obtain⟨h1,h2⟩:=List.pairwise_cons.1 hp
   simp only[insB]
   by_cases h:key x<key y
   ·rw[if_pos (decide_eq_true h)]
    refine List.pairwise_cons.2 ⟨fun z hz=>?_,hp⟩
    rcases List.mem_cons.1 hz with rfl|hz
    ·omega
    ·have:=h1 z hz
     omega
   ·rw[if_neg (by simpa using h)]
    refine List.pairwise_cons.2 ⟨fun z hz=>?_,aQd x h2⟩
    rcases List.mem_cons.1 ((Ms x r).mem_iff.1 hz) with rfl|hz
    ·omega
    ·exact h1 z hz
theorem aLi:∀ (l S:List α),S.Pairwise (fun a b=>key a≤key b)→cptL key (l.foldl (fun acc x=>insB (ltU key) x acc) S)=l.foldl (fun acc x=>insU key x acc) (cptL key S)
 | [],_,_=>rfl
 | x::r,S,hp=>by rw[List.foldl_cons,aLi r _ (aQd x hp),aWh x hp,List.foldl_cons]
theorem aSp (l:List α):cptL key (srtB (ltU key) l)=l.foldl (fun acc x=>insU key x acc) []:=aLi l [] .nil
end
end Go.Proofs.YtgbenhmdamnmcaaGreat
namespace Go.Proofs.YtgbenhmdamnmcaaGreat
open Tryz
open Go.RowKit
structure Ky where
 node:Int
 priv:H32
 ok:0≤node∧node≤1000
abbrev Ky.fds (k:Ky):List Fd:=[.one (.int .i64 k.node),.arr 32 (u8s k.priv.1)]
def cvK (a b:Ky):Int:=a.node - b.node
theorem aWi:(fun a b:Ky=>decide (cvK a b<0))=ltU Ky.node:=by
 funext a b
 unfold cvK
 exact decide_eq_decide.2 (by omega)
theorem bCu:SW (fun a b:Ky=>decide (cvK a b<0)):=by
 rw[aWi]
 exact bCt _
def sortedK (l:List Ky):List Ky:=l.foldl (fun acc x=>insU Ky.node x acc) []
theorem aOf (l:List Ky):cptL Ky.node (srtB (fun a b:Ky=>decide (cvK a b<0)) l)=sortedK l:=by
 rw[aWi]
 exact aSp l
end Go.Proofs.YtgbenhmdamnmcaaGreat
namespace Go.Proofs.YtgbenhmdamnmcaaGreat
open Tryz
open Go.RowKit Go.Lib
abbrev spath:ByteArray:=ByteArray.mk #[112,97,116,104]
abbrev scommit:ByteArray:=ByteArray.mk #[99,111,109,109,105,116]
abbrev swrap:ByteArray:=ByteArray.mk #[119,114,97,112]
def secK (s:H32):Nat→H32
 | 0=>s
 | k+1=>drv (secK s k) spath es0
def secL (s:H32) (n:Nat):List H32:=(List.range n).map (secK s)
def comS (s:H32) (n:Nat):H32:=drv (secK s (n - 1)) scommit es0
theorem aCu (s:H32) (n:Nat):(secL s n).length=n:=by simp[secL]
theorem aSq (s:H32) (n:Nat):secL s (n+1)=secL s n++[secK s n]:=by simp[secL,List.range_succ]
def mkKy (x:Int) (p:H32):Ky:=if h:0≤x∧x≤1000 then ⟨x,p,h⟩ else ⟨0,p,by omega⟩
theorem aQe {x:Int} {p:H32} (h:0≤x∧x≤1000):mkKy x p=⟨x,p,h⟩:=dif_pos h
theorem aWj {x:Int} {p:H32} (h:0≤x∧x≤1000):(mkKy x p).fds=[.one (.int .i64 x),.arr 32 (u8s p.1)]:=by rw[aQe h]
def keyK (way:List Int) (s:H32) (j:Nat):Ky:=mkKy (way.getD j 0) (drv (secK s j) bnode es0)
def keysL (way:List Int) (s:H32) (n:Nat):List Ky:=(List.range n).map (keyK way s)
theorem aSr (way:List Int) (s:H32) (n:Nat):(keysL way s n).length=n:=by simp[keysL]
theorem aOg (way:List Int) (s:H32) (n:Nat):keysL way s (n+1)=keysL way s n++[keyK way s n]:=by simp[keysL,List.range_succ]
def pubAt (t:Tr) (x:Int):H32 × Bool:=if x%2=0 then ((leafAt t (x / 2)).pub,decide (0<(leafAt t (x / 2)).name)) else ((parAt t (x / 2)).pub,(parAt t (x / 2)).set)
structure Kr where
 node:Int
 priv:H32
abbrev Kr.fds (k:Kr):List Fd:=[.one (.int .i64 k.node),.arr 32 (u8s k.priv.1)]
def Ky.kr (k:Ky):Kr:=⟨k.node,k.priv⟩
def keep1 (t:Tr) (k:Kr):Option Ky:=if h:(0≤k.node∧k.node≤1000)∧k.node≤2*t.size - 2∧pubAt t k.node=(pubH k.priv,true) then some ⟨k.node,k.priv,h.1⟩ else none
def keepL (t:Tr) (l:List Kr):List Ky:=l.filterMap (keep1 t)
theorem aSs {t:Tr} {k:Kr} (h1:0≤k.node∧k.node≤1000) (h2:k.node≤2*t.size - 2) (h3:pubAt t k.node=(pubH k.priv,true)):keep1 t k=some ⟨k.node,k.priv,h1⟩:=dif_pos ⟨h1,h2,h3⟩
theorem aLj {t:Tr} {k:Kr} (h:¬((0≤k.node∧k.node≤1000)∧k.node≤2*t.size - 2∧pubAt t k.node=(pubH k.priv,true))):keep1 t k=none:=dif_neg h
theorem aOh {t:Tr} {l:List Kr} {i:Nat} (h:i<l.length):keepL t (l.take (i+1))=keepL t (l.take i)++(keep1 t l[i]).toList:=by
 unfold keepL
 rw[List.take_succ_eq_append_getElem h,List.filterMap_append]
 cases e:keep1 t l[i] <;> simp[e]
def keepT (t:Tr) (l:List Kr):List Ky:=if t.right=true then sortedK (keepL t l) else []
end Go.Proofs.YtgbenhmdamnmcaaGreat
namespace Go.Proofs.YtgbenhmdamnmcaaGreat
open Tryz
open Go.RowKit
theorem Ij {P:Program} {H:Hp} {w0 w:World} {L R1:List Res} {g k m n cap e sz:Nat} {tt:TypeId} {q:Bool} {v:Value} {fs gs fs':List Fd} {ps:List (List Fd)} {K:Value→World→Prop} (h:Mem H w0 L w) [c:ShpC P tt q m] [a:AtA L (some ⟨g,0,none⟩) n cap e sz ps R1] (hk:ps[k]?=some fs) [f:Vf v m gs] [p:Put fs 0 gs fs'] (hK:∀ w',Mem H w0 (rowR e sz (some ⟨g,0,none⟩) n cap (ps.set k fs')::R1) w'→K undef w'):df P w (Ak tt (.pointer (some ⟨g,0+k*sz,none⟩)) v) false K:=aNn (off:=0) h hk hK
abbrev ltK (cv:Ky→Ky→Int):Ky→Ky→Bool:=fun x y=>decide (cv x y<0)
abbrev fTK (T:List (Ky × Nat)):List (List Fd):=T.map fun p=>Ky.fds p.1
theorem Zl (T:List (Ky × Nat)) (k:Nat) (x:Ky × Nat):(fTK T).set k (Ky.fds x.1)=fTK (T.set k x):=(List.map_set (f:=fun p:Ky × Nat=>Ky.fds p.1)).symm
theorem swpK (P Q S:List (Ky × Nat)) (x y:Ky × Nat) {i j:Nat} (hi:i=P.length) (hj:j=P.length+1+Q.length):((fTK (P++x::(Q++y::S))).set i (Ky.fds y.1)).set j (Ky.fds x.1)=fTK (P++y::(Q++x::S)):=by
 rw[Zl,Zl,aQc P Q S x y hi hj]
theorem swpK' (P Q S:List (Ky × Nat)) (x y:Ky × Nat) {i j:Nat} (hi:i=P.length) (hj:j=P.length+1+Q.length):((fTK (P++x::(Q++y::S))).set j (Ky.fds x.1)).set i (Ky.fds y.1)=fTK (P++y::(Q++x::S)):=by
 rw[Zl,Zl,aWg P Q S x y hi hj]
section
variable {H:Hp} {w0 w:World} {L R:List Res} {A:Option Addr} {n c:Nat} {cv:Ky→Ky→Int} {fc:Nat}
theorem aSt (P U Q V S:List (Ky × Nat)) (hn:(P++(U++(Q++(V++S)))).length=n) (hl:n≤1000000) (hU:U.length=V.length) (x4:Value) (hM:Mem H w0 (rowR 128 33 A n c (fTK (P++(U++(Q++(V++S)))))::R) w):
  Calls prog 218 #[.slice A n c,.int .i64 P.length,.int .i64 ((P.length:Int)+U.length+Q.length),.int .i64 U.length,x4] w fun en w'=>∃ v,en=.returned v∧v=.tuple #[]∧Mem H w0 (rowR 128 33 A n c (fTK (P++(V++(Q++(U++S)))))::R) w':=by
 simp only[List.length_append]at hn
 refine Gs ?_
 unfold Dt
 refine⟨fun v w'=>∃ i:Nat,v=.int .i64 i∧i≤U.length∧Mem H w0 (rowR 128 33 A n c (fTK (P++((V.take i++U.drop i)++(Q++((U.take i++V.drop i)++S)))))::R) w',fun v _=>match v with | .int _ k=>U.length - k.toNat|_=>0,⟨0,rfl,by omega,by simpa using hM⟩,?_⟩
 clear hM
 rintro v u w1 ⟨i,rfl,hi,hM⟩
 (((refine Av trivial ?_ ?_)))
 ·intro hlt
  have hiu:i<U.length:=by omega
  have hiv:i<V.length:=by omega
  obtain⟨T,hT⟩:∃ T,P++((V.take i++U.drop i)++(Q++((U.take i++V.drop i)++S)))=T:=⟨_,rfl⟩
  have e1:T=(P++V.take i)++U[i]::((U.drop (i+1)++Q++U.take i)++V[i]::(V.drop (i+1)++S)):=by
   rw[← hT,List.drop_eq_getElem_cons hiu,List.drop_eq_getElem_cons hiv]
   simp only[List.append_assoc,List.cons_append]
  have e2:P++((V.take (i+1)++U.drop (i+1))++(Q++((U.take (i+1)++V.drop (i+1))++S)))=(P++V.take i)++V[i]::((U.drop (i+1)++Q++U.take i)++U[i]::(V.drop (i+1)++S)):=by
   rw[List.take_succ_eq_append_getElem hiu,List.take_succ_eq_append_getElem hiv]
   simp only[List.append_assoc,List.cons_append,List.nil_append]
  have p1:P.length+i=(P++V.take i).length:=by rw[List.length_append,List.length_take];omega
  have p2:P.length+U.length+Q.length+i=(P++V.take i).length+1+(U.drop (i+1)++Q++U.take i).length:=by
   simp only[List.length_append,List.length_take,List.length_drop]
   omega
  have hTl:T.length=n:=by
   rw[← hT]
   simp only[List.length_append,List.length_take,List.length_drop]
   omega
  rw[hT]at hM
  have g1:∀ (k:Nat) (hk:k<T.length),k=P.length+i→T[k]=U[i]:=fun k hk e=>by
   subst e
   simp only[e1]
   exact aLe _ _ _ _ _ p1 _
  have g2:∀ (k:Nat) (hk:k<T.length),k=P.length+U.length+Q.length+i→T[k]=V[i]:=fun k hk e=>by
   subst e
   simp only[e1]
   exact aLf _ _ _ _ _ p2 _
  have i1:((P.length:Int)+i).toNat=P.length+i:=by omega
  have i2:((P.length:Int)+U.length+Q.length+i).toNat=P.length+U.length+Q.length+i:=by omega
  (((refine Am ?_;refine An ?_ ?_));(focus omega);((refine An ?_ ?_));(focus omega);((refine An ?_ ?_));(focus omega);((refine Cf hM ?_ ?_));(focus omega);((intro _ hA));(cases hA);((refine Cq hM (Bs ?_) ?_));(focus omega);((refine An ?_ ?_));(focus omega);((refine Cf hM ?_ ?_));(focus omega);((intro _ hA));(cases hA);((refine Cq hM (Bs ?_) ?_));(focus omega);((refine Cf hM ?_ ?_));(focus omega);((intro _ hA));(cases hA))
  refine Ij hM (Co (by omega)) (fun w' hM=>?_)
  (((refine Cf hM ?_ ?_));(focus omega);((intro _ hA));(cases hA))
  refine Ij hM (by rw[List.getElem?_set_ne (by omega)];exact Co (by omega)) (fun w' hM=>?_)
  rw[g1 _ _ rfl,g2 _ _ rfl,i1,i2]at hM
  have hs:((fTK T).set (P.length+i) (Ky.fds V[i].1)).set (P.length+U.length+Q.length+i) (Ky.fds U[i].1)=fTK (P++((V.take (i+1)++U.drop (i+1))++(Q++((U.take (i+1)++V.drop (i+1))++S)))):=by
   rw[e2,e1]
   exact swpK _ _ _ _ _ p1 p2
  have hM2:Mem H w0 (rowR 128 33 _ n c (((fTK T).set (P.length+i) (Ky.fds V[i].1)).set (P.length+U.length+Q.length+i) (Ky.fds U[i].1))::R) _:=hM
  rw[hs]at hM2
  have hM:=hM2
  clear hM2
  (((refine Ba hM ?_;clear hM;intro _ hM;refine Ab ?_ ?_));(focus omega))
  exact⟨⟨i+1,rfl,by omega,hM⟩,by simp only;omega⟩
 ·intro hge
  obtain rfl:i=U.length:=by omega
  (((refine Al ?_)))
  refine⟨_,rfl,rfl,?_⟩
  have e:P++((V.take U.length++U.drop U.length)++(Q++((U.take U.length++V.drop U.length)++S)))=P++(V++(Q++(U++S))):=by
   rw[hU,List.take_length,List.drop_length,← hU,List.take_length,List.drop_length]
   simp
  rw[← e]
  exact hM
end
end Go.Proofs.YtgbenhmdamnmcaaGreat
namespace Go.Proofs.YtgbenhmdamnmcaaGreat
open Tryz
open Go.RowKit
section
variable {H:Hp} {w0 w:World} {L R:List Res} {A:Option Addr} {n c:Nat} {cv:Ky→Ky→Int} {fc:Nat}
theorem Xd {T T':List (Ky × Nat)} (P U Q V S:List (Ky × Nat)) {a b k:Int} (ha:a=P.length) (hb:b=(P.length:Int)+U.length+Q.length) (hk:k=U.length) (hT:T=P++(U++(Q++(V++S)))) (hT':T'=P++(V++(Q++(U++S)))) (hn:T.length=n) (hl:n≤1000000) (hU:U.length=V.length) (x4:Value) (hM:Mem H w0 (rowR 128 33 A n c (fTK T)::R) w):
  Calls prog 218 #[.slice A n c,.int .i64 a,.int .i64 b,.int .i64 k,x4] w fun en w'=>∃ v,en=.returned v∧v=.tuple #[]∧Mem H w0 (rowR 128 33 A n c (fTK T')::R) w':=by
 subst ha hb hk hT hT'
 exact aSt P U Q V S hn hl hU x4 hM
theorem aWk {T T':List (Ky × Nat)} (P X Y S:List (Ky × Nat)) {a m b:Int} (ha:a=P.length) (hm:m=(P.length:Int)+X.length) (hb:b=(P.length:Int)+X.length+Y.length) (hT:T=P++(X++(Y++S))) (hT':T'=P++(Y++(X++S))) (hX:0<X.length) (hY:0<Y.length) (hn:T.length=n) (hl:n≤1000000) (x4:Value) (hM:Mem H w0 (rowR 128 33 A n c (fTK T)::R) w):
  Calls prog 217 #[.slice A n c,.int .i64 a,.int .i64 m,.int .i64 b,x4] w fun en w'=>∃ v,en=.returned v∧v=.tuple #[]∧Mem H w0 (rowR 128 33 A n c (fTK T')::R) w':=by
 have hn2:P.length+X.length+Y.length+S.length=n:=by
  rw[hT]at hn
  simp only[List.length_append]at hn
  omega
 refine Ic ?_
 unfold Ep
 (((refine Ab ?_ ?_));(focus omega);((refine Ab ?_ ?_));(focus omega))
 refine⟨fun v u w'=>∃ (E U V F':List (Ky × Nat)),v=.int .i64 U.length∧u=.int .i64 V.length∧0<U.length∧0<V.length∧E.length+U.length=X.length∧E.length+U.length+V.length+F'.length=X.length+Y.length∧E++(V++(U++F'))=Y++X∧Mem H w0 (rowR 128 33 A n c (fTK (P++(E++(U++(V++(F'++S))))))::R) w',fun v u _=>match v,u with | .int _ i,.int _ j=>i.toNat+j.toNat|_,_=>0,⟨[],X,Y,[],by rw[Value.int.injEq];refine⟨rfl,?_⟩;omega,by rw[Value.int.injEq];refine⟨rfl,?_⟩;omega,hX,hY,by simp,by simp,by simp,by rw[hT]at hM;simpa using hM⟩,?_⟩
 clear hM
 rintro v u w1 w2 ⟨E,U,V,F',rfl,rfl,hU,hV,hE,hEl,hEq,hM⟩
 have hTl:(P++(E++(U++(V++(F'++S))))).length=n:=by
  simp only[List.length_append]
  omega
 by_cases hij:U.length=V.length
 ·(((refine Br trivial ?_ ?_));(focus (first|assumption|omega|with_reducible rfl|exact fun h=>Bool.noConfusion h));((refine Al ?_;refine Ab ?_ ?_));(focus omega))
  refine Be (Xd (P++E) U [] V (F'++S) (by rw[List.length_append];push_cast;omega) (by rw[List.length_append];simp only[List.length_nil];push_cast;omega) (by omega) (by simp only[List.append_assoc,List.nil_append]) rfl hTl hl hij x4 hM) ?_
  rintro v w3 ⟨rfl,hM⟩
  skip
  refine⟨_,rfl,rfl,?_⟩
  have e:(P++E)++(V++([]++(U++(F'++S))))=T':=by
   rw[hT',← List.append_assoc Y X S,← hEq]
   simp only[List.append_assoc,List.nil_append]
  rw[← e]
  exact hM
 by_cases hgt:V.length<U.length
 ·have e1:U=U.take V.length++U.drop V.length:=(List.take_append_drop _ _).symm
  have l1:(U.take V.length).length=V.length:=by rw[List.length_take];omega
  have l2:(U.drop V.length).length=U.length - V.length:=List.length_drop
  generalize U.take V.length=U1 at e1 l1
  generalize U.drop V.length=U2 at e1 l2
  (((refine Cc trivial ?_ ?_));(focus (first|assumption|omega|with_reducible rfl|exact fun h=>Bool.noConfusion h));((refine Am ?_;refine Cc trivial ?_ ?_));(focus (first|assumption|omega|with_reducible rfl|exact fun h=>Bool.noConfusion h));((refine Am ?_;refine Ab ?_ ?_));(focus omega))
  refine Be (Xd (P++E) U1 U2 V (F'++S) (by rw[List.length_append];push_cast;omega) (by rw[List.length_append];push_cast;omega) (by omega) (by rw[e1];simp only[List.append_assoc]) rfl hTl hl l1 x4 hM) ?_
  rintro v w3 ⟨rfl,hM⟩
  (((refine Ab ?_ ?_));(focus omega))
  refine⟨⟨E++V,U2,U1,F',by rw[Value.int.injEq];refine⟨rfl,?_⟩;omega,by rw[Value.int.injEq];refine⟨rfl,?_⟩;omega,by omega,by omega,by rw[List.length_append];omega,by rw[List.length_append];omega,by rw[← hEq,e1];simp only[List.append_assoc],by simpa only [List.append_assoc] using hM⟩,by simp only;omega⟩
 ·have e1:V=V.take (V.length - U.length)++V.drop (V.length - U.length):=(List.take_append_drop _ _).symm
  have l1:(V.take (V.length - U.length)).length=V.length - U.length:=by rw[List.length_take];omega
  have l2:(V.drop (V.length - U.length)).length=U.length:=by rw[List.length_drop];omega
  generalize V.take (V.length - U.length)=V1 at e1 l1
  generalize V.drop (V.length - U.length)=V2 at e1 l2
  (((refine Cc trivial ?_ ?_));(focus (first|assumption|omega|with_reducible rfl|exact fun h=>Bool.noConfusion h));((refine Am ?_;refine Br trivial ?_ ?_));(focus (first|assumption|omega|with_reducible rfl|exact fun h=>Bool.noConfusion h));((refine Al ?_;refine Ab ?_ ?_));(focus omega);((refine Ab ?_ ?_));(focus omega);((refine Ab ?_ ?_));(focus omega))
  refine Be (Xd (P++E) U V1 V2 (F'++S) (by rw[List.length_append];push_cast;omega) (by rw[List.length_append];push_cast;omega) (by omega) (by rw[e1];simp only[List.append_assoc]) rfl hTl hl l2.symm x4 hM) ?_
  rintro v w3 ⟨rfl,hM⟩
  (((refine Ab ?_ ?_));(focus omega))
  refine⟨⟨E,V2,V1,U++F',by rw[Value.int.injEq];refine⟨rfl,?_⟩;omega,by rw[Value.int.injEq];refine⟨rfl,?_⟩;omega,by omega,by omega,by omega,by rw[List.length_append];omega,by rw[← hEq,e1];simp only[List.append_assoc],by simpa only [List.append_assoc] using hM⟩,by simp only;omega⟩
end
section
variable {H:Hp} {w0 w:World} {L R:List Res} {A:Option Addr} {n c:Nat} {cv:Ky→Ky→Int} {fc:Nat}
theorem aLk [FunC prog fc] [hc:∀ x y:Ky,PurC prog fc [.agg (fl (Ky.fds x)).toArray,.agg (fl (Ky.fds y)).toArray] True (.int .i64 (cv x y))] (hW:SW (ltK cv)) {T:List (Ky × Nat)} (P M S:List (Ky × Nat)) {a b:Int} (ha:a=P.length) (hb:b=(P.length:Int)+M.length) (hT:T=P++(M++S)) (ht:M.Pairwise (fun p q=>p.2<q.2)) (hn:T.length=n) (hl:n≤1000000) (hM:Mem H w0 (rowR 128 33 A n c (fTK T)::R) w):
  Calls prog 214 #[.slice A n c,.int .i64 a,.int .i64 b,fv fc] w fun en w'=>∃ v,en=.returned v∧v=.tuple #[]∧∃ M',okR (ltK cv) M M'∧Mem H w0 (rowR 128 33 A n c (fTK (P++(M'++S)))::R) w':=by
 have hn2:P.length+M.length+S.length=n:=by
  rw[hT]at hn
  simp only[List.length_append]at hn
  omega
 refine Fm ?_
 unfold Db
 (((refine Ab ?_ ?_));(focus omega))
 refine⟨fun v w'=>∃ (k:Nat) (M1:List (Ky × Nat)),v=.int .i64 ((P.length:Int)+k)∧1≤k∧(k≤M.length∨k=1)∧okR (ltK cv) (M.take k) M1∧Mem H w0 (rowR 128 33 A n c (fTK (P++(M1++(M.drop k++S))))::R) w',fun v _=>match v with | .int _ k=>n+2 - k.toNat|_=>0,⟨1,M.take 1,by rw[Value.int.injEq];refine⟨rfl,?_⟩;omega,by omega,.inr rfl,⟨.refl _,?_⟩,?_⟩,?_⟩
 ·cases M with
  | nil=>exact .nil
  | cons x r=>simp
 ·rw[← List.append_assoc (M.take 1),List.take_append_drop,← hT]
  exact hM
 clear hM
 rintro v u w1 ⟨k,M1,rfl,hk1,hk2,hok,hM⟩
 (((refine Av trivial ?_ ?_)))
 ·intro hlt
  have hkl:k<M.length:=by omega
  have hl1:M1.length=k:=by
   rw[hok.1.length_eq,List.length_take]
   omega
  have hdr:M.drop k=M[k]::M.drop (k+1):=List.drop_eq_getElem_cons hkl
  have htag:∀ y∈M1,y.2<M[k].2:=fun y hy=>by
   have hy:=hok.1.mem_iff.1 hy
   obtain⟨j,hj,rfl⟩:=List.mem_take_iff_getElem.1 hy
   exact List.pairwise_iff_getElem.1 ht j k (by omega) hkl (by omega)
  obtain⟨x,hx⟩:∃ x,M[k]=x:=⟨_,rfl⟩
  rw[hx]at hdr htag
  (((refine Am ?_)))
  refine⟨fun v w'=>∃ (X Y:List (Ky × Nat)),v=.int .i64 ((P.length:Int)+X.length)∧X++Y=M1∧(∀ y∈Y,tl (ltK cv) x y)∧Mem H w0 (rowR 128 33 A n c (fTK (P++(X++x::(Y++(M.drop (k+1)++S)))))::R) w',fun v _=>match v with | .int _ k=>k.toNat|_=>0,⟨M1,[],by rw[hl1],by simp,by simp,by rw[hdr]at hM;simpa using hM⟩,?_⟩
  clear hM
  rintro v u2 w2 ⟨X,Y,rfl,hXY,hY,hM⟩
  have hXl:X.length≤k:=by
   rw[← hl1,← hXY,List.length_append]
   omega
  have hTl:(P++(X++x::(Y++(M.drop (k+1)++S)))).length=n:=by
   have:=congrArg List.length hXY
   simp only[List.length_append,List.length_cons,List.length_drop]at this ⊢
   omega
  have hexit:(X=[]∨∃ X' y,X=X'++[y]∧tl (ltK cv) y x)→okR (ltK cv) (M.take (k+1)) (X++x::Y):=fun he=>by
   refine⟨?_,bCs hW (by rw[hXY];exact hok.2) hY he⟩
   rw[List.take_succ_eq_append_getElem hkl,hx]
   refine List.perm_middle.trans ?_
   rw[hXY]
   exact((hok.1.cons x)).trans (List.perm_append_singleton x _).symm
  refine⟨fun w'=>∃ (X':List (Ky × Nat)) (y:Ky × Nat),X=X'++[y]∧tl (ltK cv) x y∧Mem H w0 (rowR 128 33 A n c (fTK (P++(X++x::(Y++(M.drop (k+1)++S)))))::R) w',?_,?_⟩
  ·rcases List.eq_nil_or_concat X with rfl|⟨X',y,hxx⟩
   ·have h0:([]:List (Ky × Nat)).length=0:=rfl
    (((refine aJb trivial ?_ ?_));(focus (first|assumption|omega|with_reducible rfl|exact fun h=>Bool.noConfusion h));(((iterate 10 refine Jg ?_);refine Bq ?_;refine Jg ?_;refine An trivial ?_;refine Ba hM ?_;clear hM;intro _ hM;refine Al ?_;refine Ab ?_ ?_));(focus omega))
    refine⟨⟨k+1,[]++x::Y,by rw[Value.int.injEq];refine⟨rfl,?_⟩;push_cast;omega,by omega,.inl (by omega),hexit (.inl rfl),by simpa using hM⟩,by simp only;omega⟩
   ·rw[List.concat_eq_append]at hxx
    subst hxx
    have hT2:P++((X'++[y])++x::(Y++(M.drop (k+1)++S)))=(P++X')++y::([]++x::(Y++(M.drop (k+1)++S))):=by simp only[List.append_assoc,List.cons_append,List.nil_append]
    obtain⟨T2,hT3⟩:∃ T2,P++((X'++[y])++x::(Y++(M.drop (k+1)++S)))=T2:=⟨_,rfl⟩
    rw[hT3]at hM hTl hT2
    rw[List.length_append,List.length_singleton]at hXl ⊢
    have g1:∀ (q:Nat) (hq:q<T2.length),q=P.length+(X'.length+1)→T2[q]=x:=fun q hq e=>by
     subst e
     simp only[hT2]
     exact aLf _ _ _ _ _ (by rw[List.length_append];simp only[List.length_nil];omega) _
    have g2:∀ (q:Nat) (hq:q<T2.length),q=P.length+X'.length→T2[q]=y:=fun q hq e=>by
     subst e
     simp only[hT2]
     exact aLe _ _ _ _ _ (by rw[List.length_append]) _
    (((refine Qg trivial ?_ ?_));(focus (first|assumption|omega|with_reducible rfl|exact fun h=>Bool.noConfusion h));((refine Bh ?_;refine An trivial ?_;refine Bh ?_;refine An trivial ?_;refine Bh ?_;refine An trivial ?_;refine Bh ?_;refine Cf hM ?_ ?_));(focus omega);((intro _ hA));(cases hA);((refine Bh ?_;refine Cq hM (Bs ?_) ?_));(focus omega);((refine Bh ?_;refine An trivial ?_;refine Bh ?_;refine An trivial ?_;refine Bh ?_;refine An ?_ ?_));(focus omega);((refine Bh ?_;refine Cf hM ?_ ?_));(focus omega);((intro _ hA));(cases hA);((refine Bh ?_;refine Cq hM (Co ?_) ?_));(focus omega);((refine Ae ?_;refine Bd hM ?_ (fun _ _ hM=>?_)));(focus (first|exact trivial|assumption|omega));((refine Bh ?_)))
    (((refine aTz trivial ?_ ?_)))
    ·intro hc
     rw[g1 _ _ (by omega),g2 _ _ (by omega)]at hc
     (((refine An trivial ?_;refine Ba hM ?_;clear hM;intro _ hM;refine Am ?_)))
     exact⟨X',y,rfl,.inl (decide_eq_true hc),by rw[hT3];exact hM⟩
    ·intro hc
     rw[g1 _ _ (by omega),g2 _ _ (by omega)]at hc
     (((refine An trivial ?_;refine Ba hM ?_;clear hM;intro _ hM;refine Al ?_;refine Ab ?_ ?_));(focus omega))
     refine⟨⟨k+1,(X'++[y])++x::Y,by rw[Value.int.injEq];refine⟨rfl,?_⟩;push_cast;omega,by omega,.inl (by omega),hexit (.inr ⟨X',y,rfl,aLc _ _ (decide_eq_false hc) (htag y (by rw[← hXY];simp))⟩),?_⟩,by simp only;omega⟩
     rw[← hT3]at hM
     simpa only [List.append_assoc,List.cons_append] using hM
  clear hM
  rintro u3 w3 ⟨X',y,rfl,hxy,hM⟩
  have hT2:P++((X'++[y])++x::(Y++(M.drop (k+1)++S)))=(P++X')++y::([]++x::(Y++(M.drop (k+1)++S))):=by simp only[List.append_assoc,List.cons_append,List.nil_append]
  rw[hT2]at hM hTl
  rw[List.length_append,List.length_singleton]at hXl ⊢
  obtain⟨T2,hT3⟩:∃ T2,(P++X')++y::([]++x::(Y++(M.drop (k+1)++S)))=T2:=⟨_,rfl⟩
  rw[hT3]at hM hTl
  have p1:P.length+X'.length=(P++X').length:=by rw[List.length_append]
  have p2:P.length+(X'.length+1)=(P++X').length+1+([]:List (Ky × Nat)).length:=by rw[List.length_append];simp only[List.length_nil];omega
  have g1:∀ (q:Nat) (hq:q<T2.length),q=P.length+(X'.length+1)→T2[q]=x:=fun q hq e=>by
   subst e
   simp only[← hT3]
   exact aLf _ _ _ _ _ p2 _
  have g2:∀ (q:Nat) (hq:q<T2.length),q=P.length+X'.length→T2[q]=y:=fun q hq e=>by
   subst e
   simp only[← hT3]
   exact aLe _ _ _ _ _ p1 _
  (((refine An ?_ ?_));(focus omega);((refine An ?_ ?_));(focus omega);((refine Cf hM ?_ ?_));(focus omega);((intro _ hA));(cases hA);((refine Cq hM (Co ?_) ?_));(focus omega);((refine Cf hM ?_ ?_));(focus omega);((intro _ hA));(cases hA);((refine Cq hM (Bs ?_) ?_));(focus omega);((refine Cf hM ?_ ?_));(focus omega);((intro _ hA));(cases hA))
  refine Ij hM (Co (by omega)) (fun w' hM=>?_)
  (((refine Cf hM ?_ ?_));(focus omega);((intro _ hA));(cases hA))
  refine Ij hM (by rw[List.getElem?_set_ne (by omega)];exact Co (by omega)) (fun w' hM=>?_)
  first|rw[g1 _ _ (by omega),g2 _ _ (by omega)]at hM|rw[g2 _ _ (by omega),g1 _ _ (by omega)]at hM
  have i1:((P.length:Int)+((X'.length+1:Nat):Int)).toNat=P.length+(X'.length+1):=by omega
  have i2:((P.length:Int)+((X'.length+1:Nat):Int) - 1).toNat=P.length+X'.length:=by omega
  rw[i1,i2]at hM
  have hs:((fTK T2).set (P.length+(X'.length+1)) (Ky.fds y.1)).set (P.length+X'.length) (Ky.fds x.1)=fTK ((P++X')++x::([]++y::(Y++(M.drop (k+1)++S)))):=by
   rw[← hT3]
   exact swpK' _ _ _ _ _ p1 p2
  have hM2:Mem H w0 (rowR 128 33 _ n c (((fTK T2).set (P.length+(X'.length+1)) (Ky.fds y.1)).set (P.length+X'.length) (Ky.fds x.1))::R) _:=hM
  rw[hs]at hM2
  have hM:=hM2
  clear hM2
  (((refine Ba hM ?_;clear hM;intro _ hM;refine Ab ?_ ?_));(focus omega))
  refine⟨⟨X',y::Y,by rw[Value.int.injEq];refine⟨rfl,?_⟩;omega,by rw[← hXY];simp,fun z hz=>?_,by simpa only [List.append_assoc,List.cons_append,List.nil_append] using hM⟩,by simp only;omega⟩
  rcases List.mem_cons.1 hz with rfl|hz
  ·exact hxy
  ·exact hY z hz
 ·intro hge
  (((refine Al ?_)))
  have hk3:M.take k=M:=List.take_of_length_le (by omega)
  have hk4:M.drop k=[]:=List.drop_eq_nil_of_le (by omega)
  rw[hk3]at hok
  rw[hk4,List.nil_append]at hM
  exact⟨_,rfl,rfl,M1,hok,hM⟩
end
end Go.Proofs.YtgbenhmdamnmcaaGreat
namespace Go.Proofs.YtgbenhmdamnmcaaGreat
open Tryz
open Go.RowKit
section
variable {α:Type} {lt:α→α→Bool}
theorem aWl {X Y:List (α × Nat)} {x:α × Nat} (hp:(X++Y).Pairwise (tl lt)) (h1:∀ y∈X,tl lt y x) (h2:∀ y∈Y,tl lt x y):(X++x::Y).Pairwise (tl lt):=by
 obtain⟨a1,a2,a3⟩:=List.pairwise_append.1 hp
 refine List.pairwise_append.2 ⟨a1,List.pairwise_cons.2 ⟨h2,a2⟩,fun u hu v hv=>?_⟩
 rcases List.mem_cons.1 hv with rfl|hv
 ·exact h1 u hu
 ·exact a3 u hu v hv
theorem aQf (h:SW lt) {V:List (α × Nat)} (hp:V.Pairwise (tl lt)) {i:Nat} (hi:i<V.length) {x:α × Nat} (hx:tl lt V[i] x):∀ y∈V.take (i+1),tl lt y x:=fun y hy=>by
 obtain⟨j,hj,rfl⟩:=List.mem_take_iff_getElem.1 hy
 by_cases hc:j=i
 ·subst hc
  exact hx
 ·exact h.tlt (List.pairwise_iff_getElem.1 hp j i (by omega) hi (by omega)) hx
theorem aQg (h:SW lt) {V:List (α × Nat)} (hp:V.Pairwise (tl lt)) {i:Nat} (hi:i<V.length) {x:α × Nat} (hx:tl lt x V[i]):∀ y∈V.drop i,tl lt x y:=fun y hy=>by
 obtain⟨j,hj,rfl⟩:=List.mem_drop_iff_getElem.1 hy
 by_cases hc:j=0
 ·subst hc
  exact hx
 ·exact h.tlt hx (List.pairwise_iff_getElem.1 hp i (i+j) hi (by omega) (by omega))
theorem ends {U V:List (α × Nat)} {k j:Nat} (h:k=0∨j=V.length∨∃ (hk:k - 1<U.length) (hj:j<V.length),tl lt U[k - 1] V[j]):U.take k=[]∨V.drop j=[]∨∃ X' x y Y',U.take k=X'++[x]∧V.drop j=y::Y'∧tl lt x y:=by
 rcases h with rfl|rfl|⟨hk,hj,h⟩
 ·exact .inl rfl
 ·exact .inr (.inl (List.drop_length))
 ·by_cases h0:k=0
  ·exact .inl (by rw[h0];rfl)
  ·refine .inr (.inr ⟨U.take (k - 1),U[k - 1],V[j],V.drop (j+1),?_,List.drop_eq_getElem_cons hj,h⟩)
   rw[← List.take_succ_eq_append_getElem hk]
   congr 1
   omega
end
end Go.Proofs.YtgbenhmdamnmcaaGreat
namespace Go.Proofs.YtgbenhmdamnmcaaGreat
open Tryz
open Go.RowKit
section
variable {H:Hp} {w0 w:World} {L R:List Res} {A:Option Addr} {n c:Nat} {cv:Ky→Ky→Int} {fc:Nat}
theorem aWm [FunC prog fc] [hc:∀ x y:Ky,PurC prog fc [.agg (fl (Ky.fds x)).toArray,.agg (fl (Ky.fds y)).toArray] True (.int .i64 (cv x y))] (hW:SW (ltK cv)) {T:List (Ky × Nat)} (P V S:List (Ky × Nat)) (x:Ky × Nat) {a m b:Int} (ha:a=P.length) (hm:m=(P.length:Int)+1) (hb:b=(P.length:Int)+1+V.length) (hT:T=P++(x::(V++S))) (hV:V.Pairwise (tl (ltK cv))) (ht:∀ v∈V,x.2<v.2) (hn:T.length=n) (hl:n≤1000000) (hM:Mem H w0 (rowR 128 33 A n c (fTK T)::R) w):
  Calls prog 215 #[.slice A n c,.int .i64 a,.int .i64 m,.int .i64 b,fv fc] w fun en w'=>∃ v,en=.returned v∧v=.tuple #[]∧∃ M',M'.Perm (x::V)∧M'.Pairwise (tl (ltK cv))∧Mem H w0 (rowR 128 33 A n c (fTK (P++(M'++S)))::R) w':=by
 have hn2:P.length+1+V.length+S.length=n:=by
  rw[hT]at hn
  simp only[List.length_append,List.length_cons]at hn
  omega
 have g1:∀ (q:Nat) (hq:q<T.length),q=P.length→T[q]=x:=fun q hq e=>by
  subst e
  simp[hT]
 have g2:∀ (q:Nat) (hq:q<T.length) (i:Nat) (hi:i<V.length),q=P.length+1+i→T[q]=V[i]:=fun q hq i hi e=>by
  subst e
  simp only[hT]
  rw[List.getElem_append_right (by omega)]
  simp only[show P.length+1+i - P.length=i+1 by omega,List.getElem_cons_succ]
  rw[List.getElem_append_left hi]
 refine Ct ?_
 unfold Cg
 (((refine Ab ?_ ?_));(focus omega);((refine Cc trivial ?_ ?_));(focus (first|assumption|omega|with_reducible rfl|exact fun h=>Bool.noConfusion h));((refine Am ?_)))
 refine⟨fun v u w'=>∃ (I J:Nat),v=.int .i64 ((P.length:Int)+1+I)∧u=.int .i64 ((P.length:Int)+1+J)∧I≤J∧J≤V.length∧(∀ y∈V.take I,tl (ltK cv) y x)∧(∀ y∈V.drop J,tl (ltK cv) x y)∧hM.now w',fun v u _=>match v,u with | .int _ i,.int _ j=>j.toNat - i.toNat|_,_=>0,⟨0,V.length,by rw[Value.int.injEq];refine⟨rfl,?_⟩;omega,by rw[Value.int.injEq];refine⟨rfl,?_⟩;omega,by omega,by omega,by simp,by simp,hM⟩,?_⟩
 rintro v u u2 w2 ⟨I,J,rfl,rfl,hIJ,hJ,hI1,hJ1,hM⟩
 (((refine Av trivial ?_ ?_)))
 ·intro hlt
  have hlt':I<J:=by omega
  (((refine Am ?_;refine Ab ?_ ?_));(focus omega);((refine Ab trivial ?_;refine Ab ?_ ?_));(focus omega))
  have e2:((P.length:Int)+1+I+(P.length+1+J))%18446744073709551616 / 2 ^ Int.toNat 1=(P.length:Int)+1+((I+J) / 2:Nat):=by
   rw[show(2:Int) ^ Int.toNat 1=2 from rfl]
   omega
  rw[e2]
  have hd:I≤(I+J) / 2∧(I+J) / 2<J:=by omega
  generalize (I+J) / 2=d at hd
  have hdl:d<V.length:=by omega
  (((refine Ab ?_ ?_));(focus omega);((refine Cf hM ?_ ?_));(focus omega);((intro _ hA));(cases hA);((refine Cq hM (Co ?_) ?_));(focus omega);((refine Cf hM ?_ ?_));(focus omega);((intro _ hA));(cases hA);((refine Cq hM (Co ?_) ?_));(focus omega);((refine Bd hM ?_ (fun _ _ hM=>?_)));(focus (first|exact trivial|assumption|omega)))
  (((refine aTz trivial ?_ ?_)))
  ·intro hcm
   rw[g2 _ _ d hdl (by omega),g1 _ _ (by omega)]at hcm
   (((refine Ba hM ?_;clear hM;intro _ hM;refine Am ?_;refine Ab ?_ ?_));(focus omega))
   exact⟨⟨d+1,J,by rw[Value.int.injEq];refine⟨rfl,?_⟩;push_cast;omega,rfl,by omega,hJ,aQf hW hV hdl (.inl (decide_eq_true hcm)),hJ1,hM⟩,by simp only;omega⟩
  ·intro hcm
   rw[g2 _ _ d hdl (by omega),g1 _ _ (by omega)]at hcm
   (((refine Ba hM ?_;clear hM;intro _ hM;refine Al ?_)))
   exact⟨⟨I,d,rfl,rfl,by omega,by omega,hI1,aQg hW hV hdl (aLc _ _ (decide_eq_false hcm) (ht _ (List.getElem_mem hdl))),hM⟩,by simp only;omega⟩
 ·intro hge
  obtain rfl:I=J:=by omega
  (((refine Al ?_)))
  have hM:Mem H w0 (rowR 128 33 A n c (fTK T)::R) _:=hM
  rw[hT]at hM
  clear g1 g2
  refine⟨fun v w'=>∃ q:Nat,v=.int .i64 ((P.length:Int)+q)∧q≤I∧Mem H w0 (rowR 128 33 A n c (fTK (P++(V.take q++x::(V.drop q++S))))::R) w',fun v _=>match v with | .int _ k=>n - k.toNat|_=>0,⟨0,by rw[Value.int.injEq];refine⟨rfl,?_⟩;omega,by omega,hM⟩,?_⟩
  clear hM
  rintro v u3 w3 ⟨q,rfl,hq,hM⟩
  (((refine Ab ?_ ?_));(focus omega))
  (((refine Av trivial ?_ ?_)))
  ·intro hlt
   have hqv:q<V.length:=by omega
   have hTl:(P++(V.take q++x::(V.drop q++S))).length=n:=by
    simp only[List.length_append,List.length_cons,List.length_take,List.length_drop]
    omega
   have e1:P++(V.take q++x::(V.drop q++S))=(P++V.take q)++x::([]++V[q]::(V.drop (q+1)++S)):=by
    rw[List.drop_eq_getElem_cons hqv]
    simp only[List.append_assoc,List.cons_append,List.nil_append]
   have e2:P++(V.take (q+1)++x::(V.drop (q+1)++S))=(P++V.take q)++V[q]::([]++x::(V.drop (q+1)++S)):=by
    rw[List.take_succ_eq_append_getElem hqv]
    simp only[List.append_assoc,List.cons_append,List.nil_append]
   obtain⟨y,hy⟩:∃ y,V[q]=y:=⟨_,rfl⟩
   rw[hy]at e1 e2
   obtain⟨T2,hT2⟩:∃ T2,P++(V.take q++x::(V.drop q++S))=T2:=⟨_,rfl⟩
   rw[hT2]at hM hTl e1
   have p1:P.length+q=(P++V.take q).length:=by
    rw[List.length_append,List.length_take]
    omega
   have p2:P.length+q+1=(P++V.take q).length+1+([]:List (Ky × Nat)).length:=by
    rw[← p1]
    rfl
   have g1:∀ (k:Nat) (hk:k<T2.length),k=P.length+q→T2[k]=x:=fun k hk e=>by
    subst e
    simp only[e1]
    exact aLe _ _ _ _ _ p1 _
   have g2:∀ (k:Nat) (hk:k<T2.length),k=P.length+q+1→T2[k]=y:=fun k hk e=>by
    subst e
    simp only[e1]
    exact aLf _ _ _ _ _ p2 _
   (((refine Am ?_;refine An ?_ ?_));(focus omega);((refine An ?_ ?_));(focus omega);((refine Cf hM ?_ ?_));(focus omega);((intro _ hA));(cases hA);((refine Cq hM (Co ?_) ?_));(focus omega);((refine Cf hM ?_ ?_));(focus omega);((intro _ hA));(cases hA);((refine Cq hM (Bs ?_) ?_));(focus omega);((refine Cf hM ?_ ?_));(focus omega);((intro _ hA));(cases hA))
   refine Ij hM (Co (by omega)) (fun w' hM=>?_)
   (((refine Cf hM ?_ ?_));(focus omega);((intro _ hA));(cases hA))
   refine Ij hM (by rw[List.getElem?_set_ne (by omega)];exact Co (by omega)) (fun w' hM=>?_)
   first|rw[g1 _ _ (by omega),g2 _ _ (by omega)]at hM|rw[g2 _ _ (by omega),g1 _ _ (by omega)]at hM
   have i1:((P.length:Int)+q).toNat=P.length+q:=by omega
   have i2:((P.length:Int)+q+1).toNat=P.length+q+1:=by omega
   rw[i1,i2]at hM
   have hs:((fTK T2).set (P.length+q) (Ky.fds y.1)).set (P.length+q+1) (Ky.fds x.1)=fTK (P++(V.take (q+1)++x::(V.drop (q+1)++S))):=by
    rw[e1,e2]
    exact swpK _ _ _ _ _ p1 p2
   have hM2:Mem H w0 (rowR 128 33 _ n c (((fTK T2).set (P.length+q) (Ky.fds y.1)).set (P.length+q+1) (Ky.fds x.1))::R) _:=hM
   rw[hs]at hM2
   have hM:=hM2
   clear hM2
   (((refine Ba hM ?_;clear hM;intro _ hM;refine Ab ?_ ?_));(focus omega))
   exact⟨⟨q+1,by rw[Value.int.injEq];refine⟨rfl,?_⟩;push_cast;omega,by omega,hM⟩,by simp only;omega⟩
  ·intro hge2
   obtain rfl:q=I:=by omega
   (((refine Al ?_)))
   refine⟨_,rfl,rfl,V.take q++x::V.drop q,?_,aWl (by rw[List.take_append_drop];exact hV) hI1 hJ1,by simpa only [List.append_assoc,List.cons_append] using hM⟩
   refine List.perm_middle.trans ?_
   rw[List.take_append_drop]
theorem aWn [FunC prog fc] [hc:∀ x y:Ky,PurC prog fc [.agg (fl (Ky.fds x)).toArray,.agg (fl (Ky.fds y)).toArray] True (.int .i64 (cv x y))] (hW:SW (ltK cv)) {T:List (Ky × Nat)} (P V S:List (Ky × Nat)) (x:Ky × Nat) (hv1:V.length≠1) {a m b:Int} (ha:a=P.length) (hm:m=(P.length:Int)+V.length) (hb:b=(P.length:Int)+V.length+1) (hT:T=P++(V++x::S)) (hV:V.Pairwise (tl (ltK cv))) (ht:∀ v∈V,v.2<x.2) (hn:T.length=n) (hl:n≤1000000) (hM:Mem H w0 (rowR 128 33 A n c (fTK T)::R) w):
  Calls prog 215 #[.slice A n c,.int .i64 a,.int .i64 m,.int .i64 b,fv fc] w fun en w'=>∃ v,en=.returned v∧v=.tuple #[]∧∃ M',M'.Perm (V++[x])∧M'.Pairwise (tl (ltK cv))∧Mem H w0 (rowR 128 33 A n c (fTK (P++(M'++S)))::R) w':=by
 have hn2:P.length+1+V.length+S.length=n:=by
  rw[hT]at hn
  simp only[List.length_append,List.length_cons]at hn
  omega
 have g1:∀ (q:Nat) (hq:q<T.length),q=P.length+V.length→T[q]=x:=fun q hq e=>by
  subst e
  simp[hT]
 have g2:∀ (q:Nat) (hq:q<T.length) (i:Nat) (hi:i<V.length),q=P.length+i→T[q]=V[i]:=fun q hq i hi e=>by
  subst e
  simp only[hT]
  rw[List.getElem_append_right (by omega)]
  simp only[show P.length+i - P.length=i by omega]
  rw[List.getElem_append_left hi]
 refine Ct ?_
 unfold Cg
 (((refine Ab ?_ ?_));(focus omega);((refine Br trivial ?_ ?_));(focus (first|assumption|omega|with_reducible rfl|exact fun h=>Bool.noConfusion h));((refine Al ?_;refine Ab ?_ ?_));(focus omega);((refine Cc trivial ?_ ?_));(focus (first|assumption|omega|with_reducible rfl|exact fun h=>Bool.noConfusion h));((refine Am ?_)))
 refine⟨fun v u w'=>∃ (I J:Nat),v=.int .i64 ((P.length:Int)+I)∧u=.int .i64 ((P.length:Int)+J)∧I≤J∧J≤V.length∧(∀ y∈V.take I,tl (ltK cv) y x)∧(∀ y∈V.drop J,tl (ltK cv) x y)∧hM.now w',fun v u _=>match v,u with | .int _ i,.int _ j=>j.toNat - i.toNat|_,_=>0,⟨0,V.length,by rw[Value.int.injEq];refine⟨rfl,?_⟩;omega,by rw[Value.int.injEq];refine⟨rfl,?_⟩;omega,by omega,by omega,by simp,by simp,hM⟩,?_⟩
 rintro v u u2 w2 ⟨I,J,rfl,rfl,hIJ,hJ,hI1,hJ1,hM⟩
 (((refine Av trivial ?_ ?_)))
 ·intro hlt
  have hlt':I<J:=by omega
  (((refine Am ?_;refine Ab ?_ ?_));(focus omega);((refine Ab trivial ?_;refine Ab ?_ ?_));(focus omega))
  have e2:((P.length:Int)+I+(P.length+J))%18446744073709551616 / 2 ^ Int.toNat 1=(P.length:Int)+((I+J) / 2:Nat):=by
   rw[show(2:Int) ^ Int.toNat 1=2 from rfl]
   omega
  rw[e2]
  have hd:I≤(I+J) / 2∧(I+J) / 2<J:=by omega
  generalize (I+J) / 2=d at hd
  have hdl:d<V.length:=by omega
  (((refine Ab ?_ ?_));(focus omega);((refine Cf hM ?_ ?_));(focus omega);((intro _ hA));(cases hA);((refine Cq hM (Co ?_) ?_));(focus omega);((refine Cf hM ?_ ?_));(focus omega);((intro _ hA));(cases hA);((refine Cq hM (Bs ?_) ?_));(focus omega);((refine Bd hM ?_ (fun _ _ hM=>?_)));(focus (first|exact trivial|assumption|omega)))
  rw[g1 _ _ (by omega),g2 _ _ d hdl (by omega)]
  by_cases hcm:cv x.1 V[d].1<0
  ·(((refine Qg trivial ?_ ?_));(focus (first|assumption|omega|with_reducible rfl|exact fun h=>Bool.noConfusion h));((refine An trivial ?_;refine Ba hM ?_;clear hM;intro _ hM;refine Al ?_)))
   exact⟨⟨I,d,rfl,rfl,by omega,by omega,hI1,aQg hW hV hdl (.inl (decide_eq_true hcm)),hM⟩,by simp only;omega⟩
  ·(((refine aJb trivial ?_ ?_));(focus (first|assumption|omega|with_reducible rfl|exact fun h=>Bool.noConfusion h));((refine An trivial ?_;refine Ba hM ?_;clear hM;intro _ hM;refine Am ?_;refine Ab ?_ ?_));(focus omega))
   exact⟨⟨d+1,J,by rw[Value.int.injEq];refine⟨rfl,?_⟩;push_cast;omega,rfl,by omega,hJ,aQf hW hV hdl (aLc _ _ (decide_eq_false hcm) (ht _ (List.getElem_mem hdl))),hJ1,hM⟩,by simp only;omega⟩
 ·intro hge
  obtain rfl:I=J:=by omega
  (((refine Al ?_)))
  have hM:Mem H w0 (rowR 128 33 A n c (fTK T)::R) _:=hM
  rw[hT]at hM
  clear g1 g2
  refine⟨fun v w'=>∃ q:Nat,v=.int .i64 ((P.length:Int)+q)∧I≤q∧q≤V.length∧Mem H w0 (rowR 128 33 A n c (fTK (P++(V.take q++x::(V.drop q++S))))::R) w',fun v _=>match v with | .int _ k=>k.toNat|_=>0,⟨V.length,by rw[Value.int.injEq];refine⟨rfl,?_⟩;omega,by omega,by omega,by simpa using hM⟩,?_⟩
  clear hM
  rintro v u3 w3 ⟨q,rfl,hq,hq2,hM⟩
  (((refine Av trivial ?_ ?_)))
  ·intro hlt
   obtain⟨q,rfl⟩:∃ q',q=q'+1:=⟨q - 1,by omega⟩
   have hqv:q<V.length:=by omega
   have hTl:(P++(V.take (q+1)++x::(V.drop (q+1)++S))).length=n:=by
    simp only[List.length_append,List.length_cons,List.length_take,List.length_drop]
    omega
   have e1:P++(V.take (q+1)++x::(V.drop (q+1)++S))=(P++V.take q)++V[q]::([]++x::(V.drop (q+1)++S)):=by
    rw[List.take_succ_eq_append_getElem hqv]
    simp only[List.append_assoc,List.cons_append,List.nil_append]
   have e2:P++(V.take q++x::(V.drop q++S))=(P++V.take q)++x::([]++V[q]::(V.drop (q+1)++S)):=by
    rw[List.drop_eq_getElem_cons hqv]
    simp only[List.append_assoc,List.cons_append,List.nil_append]
   obtain⟨y,hy⟩:∃ y,V[q]=y:=⟨_,rfl⟩
   rw[hy]at e1 e2
   obtain⟨T2,hT2⟩:∃ T2,P++(V.take (q+1)++x::(V.drop (q+1)++S))=T2:=⟨_,rfl⟩
   rw[hT2]at hM hTl e1
   have p1:P.length+q=(P++V.take q).length:=by
    rw[List.length_append,List.length_take]
    omega
   have p2:P.length+(q+1)=(P++V.take q).length+1+([]:List (Ky × Nat)).length:=by
    rw[← p1]
    rfl
   have g1:∀ (k:Nat) (hk:k<T2.length),k=P.length+(q+1)→T2[k]=x:=fun k hk e=>by
    subst e
    simp only[e1]
    exact aLf _ _ _ _ _ p2 _
   have g2:∀ (k:Nat) (hk:k<T2.length),k=P.length+q→T2[k]=y:=fun k hk e=>by
    subst e
    simp only[e1]
    exact aLe _ _ _ _ _ p1 _
   (((refine Am ?_;refine An ?_ ?_));(focus omega);((refine An ?_ ?_));(focus omega);((refine Cf hM ?_ ?_));(focus omega);((intro _ hA));(cases hA);((refine Cq hM (Co ?_) ?_));(focus omega);((refine Cf hM ?_ ?_));(focus omega);((intro _ hA));(cases hA);((refine Cq hM (Bs ?_) ?_));(focus omega);((refine Cf hM ?_ ?_));(focus omega);((intro _ hA));(cases hA))
   refine Ij hM (Co (by omega)) (fun w' hM=>?_)
   (((refine Cf hM ?_ ?_));(focus omega);((intro _ hA));(cases hA))
   refine Ij hM (by rw[List.getElem?_set_ne (by omega)];exact Co (by omega)) (fun w' hM=>?_)
   first|rw[g1 _ _ (by omega),g2 _ _ (by omega)]at hM|rw[g2 _ _ (by omega),g1 _ _ (by omega)]at hM
   have i1:((P.length:Int)+((q+1:Nat):Int)).toNat=P.length+(q+1):=by omega
   have i2:((P.length:Int)+((q+1:Nat):Int) - 1).toNat=P.length+q:=by omega
   rw[i1,i2]at hM
   have hs:((fTK T2).set (P.length+(q+1)) (Ky.fds y.1)).set (P.length+q) (Ky.fds x.1)=fTK (P++(V.take q++x::(V.drop q++S))):=by
    rw[e1,e2]
    exact swpK' _ _ _ _ _ p1 p2
   have hM2:Mem H w0 (rowR 128 33 _ n c (((fTK T2).set (P.length+(q+1)) (Ky.fds y.1)).set (P.length+q) (Ky.fds x.1))::R) _:=hM
   rw[hs]at hM2
   have hM:=hM2
   clear hM2
   (((refine Ba hM ?_;clear hM;intro _ hM;refine Ab ?_ ?_));(focus omega))
   exact⟨⟨q,by rw[Value.int.injEq];refine⟨rfl,?_⟩;push_cast;omega,by omega,by omega,hM⟩,by simp only;omega⟩
  ·intro hge2
   obtain rfl:q=I:=by omega
   (((refine Al ?_)))
   refine⟨_,rfl,rfl,V.take q++x::V.drop q,?_,aWl (by rw[List.take_append_drop];exact hV) hI1 hJ1,by simpa only [List.append_assoc,List.cons_append] using hM⟩
   refine List.perm_middle.trans ?_
   rw[List.take_append_drop]
   exact(List.perm_append_singleton x V).symm
end
end Go.Proofs.YtgbenhmdamnmcaaGreat
namespace Go.Proofs.YtgbenhmdamnmcaaGreat
open Tryz
open Go.RowKit
section
variable {H:Hp} {w0 w:World} {L R:List Res} {A:Option Addr} {n c:Nat} {cv:Ky→Ky→Int} {fc:Nat}
def symSK (H:Hp) (w0:World) (R:List Res) (A:Option Addr) (n c:Nat) (cv:Ky→Ky→Int) (fc N:Nat):Prop:=
 ∀ (T P U V S:List (Ky × Nat)) (a m b:Int) (w:World),a=P.length→m=(P.length:Int)+U.length→b=(P.length:Int)+U.length+V.length→T=P++(U++(V++S))→0<U.length→0<V.length→U.length+V.length<N→U.Pairwise (tl (ltK cv))→V.Pairwise (tl (ltK cv))→(∀ u∈U,∀ v∈V,u.2<v.2)→T.length=n→Mem H w0 (rowR 128 33 A n c (fTK T)::R) w →
   Calls prog 215 #[.slice A n c,.int .i64 a,.int .i64 m,.int .i64 b,fv fc] w fun en w'=>∃ v,en=.returned v∧v=.tuple #[]∧∃ M',M'.Perm (U++V)∧M'.Pairwise (tl (ltK cv))∧Mem H w0 (rowR 128 33 A n c (fTK (P++(M'++S)))::R) w'
theorem aWo [FunC prog fc] [hc:∀ x y:Ky,PurC prog fc [.agg (fl (Ky.fds x)).toArray,.agg (fl (Ky.fds y)).toArray] True (.int .i64 (cv x y))] (hW:SW (ltK cv)) (hl:n≤1000000) {N:Nat} (ih:symSK H w0 R A n c cv fc N) {T:List (Ky × Nat)} (P U V S:List (Ky × Nat)) {a m b:Int} (ha:a=P.length) (hm:m=(P.length:Int)+U.length) (hb:b=(P.length:Int)+U.length+V.length) (hT:T=P++(U++(V++S))) (hu1:1<U.length) (hv1:1<V.length) (hN:U.length+V.length<N+1) (hU:U.Pairwise (tl (ltK cv))) (hV:V.Pairwise (tl (ltK cv))) (ht:∀ u∈U,∀ v∈V,u.2<v.2) (hn:T.length=n) (hM:Mem H w0 (rowR 128 33 A n c (fTK T)::R) w):
  Calls prog 215 #[.slice A n c,.int .i64 a,.int .i64 m,.int .i64 b,fv fc] w fun en w'=>∃ v,en=.returned v∧v=.tuple #[]∧∃ M',M'.Perm (U++V)∧M'.Pairwise (tl (ltK cv))∧Mem H w0 (rowR 128 33 A n c (fTK (P++(M'++S)))::R) w':=by
 subst ha hm hb
 have hn2:P.length+U.length+V.length+S.length=n:=by
  rw[hT]at hn
  simp only[List.length_append]at hn
  omega
 have g1:∀ (q:Nat) (hq:q<T.length) (i:Nat) (hi:i<U.length),q=P.length+i→T[q]=U[i]:=fun q hq i hi e=>by
  subst e
  simp only[hT]
  rw[List.getElem_append_right (by omega)]
  simp only[show P.length+i - P.length=i by omega]
  rw[List.getElem_append_left hi]
 have g2:∀ (q:Nat) (hq:q<T.length) (i:Nat) (hi:i<V.length),q=P.length+U.length+i→T[q]=V[i]:=fun q hq i hi e=>by
  subst e
  simp only[hT]
  rw[List.getElem_append_right (by omega)]
  simp only[show P.length+U.length+i - P.length=U.length+i by omega]
  rw[List.getElem_append_right (by omega)]
  simp only[show U.length+i - U.length=i by omega]
  rw[List.getElem_append_left hi]
 refine Ct ?_
 unfold Cg
 (((refine Ab ?_ ?_));(focus omega);((refine Br trivial ?_ ?_));(focus (first|assumption|omega|with_reducible rfl|exact fun h=>Bool.noConfusion h));((refine Al ?_;refine Ab ?_ ?_));(focus omega);((refine Br trivial ?_ ?_));(focus (first|assumption|omega|with_reducible rfl|exact fun h=>Bool.noConfusion h));((refine Al ?_;refine Ab ?_ ?_));(focus omega);((refine Ab trivial ?_;refine Ab ?_ ?_));(focus omega))
 have e0:((P.length:Int)+(P.length+U.length+V.length))%18446744073709551616 / 2 ^ Int.toNat 1=(P.length:Int)+((U.length+V.length) / 2:Nat):=by
  rw[show(2:Int) ^ Int.toNat 1=2 from rfl]
  omega
 rw[e0]
 have hmu:2*((U.length+V.length) / 2)≤U.length+V.length∧U.length+V.length≤2*((U.length+V.length) / 2)+1:=by omega
 generalize (U.length+V.length) / 2=mu at hmu
 obtain⟨lo,hi,z1,z2,z3,z4,z5,z6,zd⟩:∃ lo hi:Nat,lo≤hi∧hi≤U.length∧hi≤mu∧mu≤lo+V.length∧(lo=0∨mu=lo+V.length)∧(hi=U.length∨hi=mu)∧((mu<U.length∧lo=mu - V.length∧hi=mu∧V.length≤mu)∨(¬mu<U.length∧lo=0∧hi=U.length)):=by
  by_cases hc:mu<U.length
  ·exact⟨mu - V.length,mu,by omega,by omega,by omega,by omega,by omega,by omega,by omega⟩
  ·exact⟨0,U.length,by omega,by omega,by omega,by omega,by omega,by omega,by omega⟩
 (((refine Ab ?_ ?_));(focus omega);((refine Ab ?_ ?_));(focus omega))
 refine⟨fun v u w'=>v=.int .i64 ((P.length:Int)+lo)∧u=.int .i64 ((P.length:Int)+hi)∧hM.now w',?_,?_⟩
 ·skip
  (((refine Av trivial ?_ ?_)))
  ·intro hc
   (((refine Am ?_;refine Ab ?_ ?_));(focus omega))
   exact⟨by rw[Value.int.injEq];refine⟨rfl,?_⟩;omega,by rw[Value.int.injEq];refine⟨rfl,?_⟩;omega,hM⟩
  ·intro hc
   (((refine Al ?_)))
   exact⟨by rw[Value.int.injEq];refine⟨rfl,?_⟩;omega,by rw[Value.int.injEq];refine⟨rfl,?_⟩;omega,hM⟩
 clear zd
 rintro v u u2 w2 ⟨rfl,rfl,hM⟩
 (((refine Ab ?_ ?_));(focus omega))
 refine⟨fun v u w'=>∃ (I J:Nat),v=.int .i64 ((P.length:Int)+I)∧u=.int .i64 ((P.length:Int)+J)∧lo≤I∧I≤J∧J≤hi∧(I=lo∨∃ (i j:Nat) (hi:i<U.length) (hj:j<V.length),i+1=I∧j+I=mu∧tl (ltK cv) U[i] V[j])∧(J=hi∨∃ (i j:Nat) (hi:i<U.length) (hj:j<V.length),i=J∧j+1+J=mu∧tl (ltK cv) V[j] U[i])∧hM.now w',fun v u _=>match v,u with | .int _ i,.int _ j=>j.toNat - i.toNat|_,_=>0,⟨lo,hi,rfl,rfl,by omega,by omega,by omega,.inl rfl,.inl rfl,hM⟩,?_⟩
 rintro v u u2 w2 ⟨I,J,rfl,rfl,hI0,hIJ,hJ0,hI1,hJ1,hM⟩
 (((refine Av trivial ?_ ?_)))
 ·intro hlt
  have hlt':I<J:=by omega
  (((refine Am ?_;refine Ab ?_ ?_));(focus omega);((refine Ab trivial ?_;refine Ab ?_ ?_));(focus omega))
  have e2:((P.length:Int)+I+(P.length+J))%18446744073709551616 / 2 ^ Int.toNat 1=(P.length:Int)+((I+J) / 2:Nat):=by
   rw[show(2:Int) ^ Int.toNat 1=2 from rfl]
   omega
  rw[e2]
  have hd:I≤(I+J) / 2∧(I+J) / 2<J:=by omega
  generalize (I+J) / 2=d at hd
  have hdu:d<U.length:=by omega
  have hdv:mu - 1 - d<V.length:=by omega
  (((refine Ab ?_ ?_));(focus omega);((refine An ?_ ?_));(focus omega);((refine Cf hM ?_ ?_));(focus omega);((intro _ hA));(cases hA);((refine Cq hM (Co ?_) ?_));(focus omega);((refine Cf hM ?_ ?_));(focus omega);((intro _ hA));(cases hA);((refine Cq hM (Bs ?_) ?_));(focus omega);((refine Bd hM ?_ (fun _ _ hM=>?_)));(focus (first|exact trivial|assumption|omega)))
  rw[g2 _ _ (mu - 1 - d) hdv (by omega),g1 _ _ d hdu (by omega)]
  by_cases hcm:cv V[mu - 1 - d].1 U[d].1<0
  ·(((refine Qg trivial ?_ ?_));(focus (first|assumption|omega|with_reducible rfl|exact fun h=>Bool.noConfusion h));((refine An trivial ?_;refine Ba hM ?_;clear hM;intro _ hM;refine Al ?_)))
   exact⟨⟨I,d,rfl,rfl,by omega,by omega,by omega,hI1,.inr ⟨d,mu - 1 - d,hdu,hdv,rfl,by omega,.inl (decide_eq_true hcm)⟩,hM⟩,by simp only;omega⟩
  ·(((refine aJb trivial ?_ ?_));(focus (first|assumption|omega|with_reducible rfl|exact fun h=>Bool.noConfusion h));((refine An trivial ?_;refine Ba hM ?_;clear hM;intro _ hM;refine Am ?_;refine Ab ?_ ?_));(focus omega))
   exact⟨⟨d+1,J,by rw[Value.int.injEq];refine⟨rfl,?_⟩;push_cast;omega,rfl,by omega,by omega,by omega,.inr ⟨d,mu - 1 - d,hdu,hdv,rfl,by omega,aLc _ _ (decide_eq_false hcm) (ht _ (List.getElem_mem hdu) _ (List.getElem_mem hdv))⟩,hJ1,hM⟩,by simp only;omega⟩
 intro hge
 obtain rfl:I=J:=by omega
 obtain⟨j,hj⟩:∃ j,I+j=mu:=⟨mu - I,by omega⟩
 have c1:U.take I=[]∨V.drop j=[]∨∃ X' x y Y',U.take I=X'++[x]∧V.drop j=y::Y'∧tl (ltK cv) x y:=by
  refine ends ?_
  rcases hI1 with h|⟨i',j',h1,h2,h3,h4,h5⟩
  ·omega
  ·obtain rfl:j'=j:=by omega
   obtain rfl:i'=I - 1:=by omega
   exact .inr (.inr ⟨h1,h2,h5⟩)
 have c2:V.take j=[]∨U.drop I=[]∨∃ X' x y Y',V.take j=X'++[x]∧U.drop I=y::Y'∧tl (ltK cv) x y:=by
  refine ends ?_
  rcases hJ1 with h|⟨i',j',h1,h2,h3,h4,h5⟩
  ·omega
  ·obtain rfl:j'=j - 1:=by omega
   obtain rfl:i'=I:=by omega
   exact .inr (.inr ⟨h2,h1,h5⟩)
 have eU:U=U.take I++U.drop I:=(List.take_append_drop _ _).symm
 have eV:V=V.take j++V.drop j:=(List.take_append_drop _ _).symm
 have lU:(U.take I).length=I:=by rw[List.length_take];omega
 have lV:(V.take j).length=j:=by rw[List.length_take];omega
 have lU2:(U.drop I).length+I=U.length:=by rw[List.length_drop];omega
 have lV2:(V.drop j).length+j=V.length:=by rw[List.length_drop];omega
 clear hI1 hJ1 g1 g2
 generalize U.take I=U1 at *
 generalize U.drop I=U2 at *
 generalize V.take j=V1 at *
 generalize V.drop j=V2 at *
 have hT2:T=(P++U1)++(U2++(V1++(V2++S))):=by
  rw[hT,eU,eV]
  simp only[List.append_assoc]
 rw[eU]at hU
 rw[eV]at hV
 have t1:∀ u∈U1,∀ v∈V1,u.2<v.2:=fun u hu v hv=>ht u (by rw[eU];exact List.mem_append_left _ hu) v (by rw[eV];exact List.mem_append_left _ hv)
 have t2:∀ u∈U2,∀ v∈V2,u.2<v.2:=fun u hu v hv=>ht u (by rw[eU];exact List.mem_append_right _ hu) v (by rw[eV];exact List.mem_append_right _ hv)
 obtain⟨sU1,sU2,-⟩:=List.pairwise_append.1 hU
 obtain⟨sV1,sV2,-⟩:=List.pairwise_append.1 hV
 (((refine Al ?_;refine Ab ?_ ?_));(focus omega))
 have hM:Mem H w0 (rowR 128 33 A n c (fTK T)::R) _:=hM
 refine⟨fun w'=>Mem H w0 (rowR 128 33 A n c (fTK ((P++U1)++(V1++(U2++(V2++S)))))::R) w',?_,?_⟩
 ·refine⟨fun v w'=>v=.bool (decide (0<U2.length∧0<V1.length))∧hM.now w',?_,?_⟩
  ·skip
   (((refine Av trivial ?_ ?_)))
   ·intro k1
    (((refine Ae ?_;refine Ab trivial ?_;refine Ae ?_;refine Ab trivial ?_;refine Ae ?_)))
    (((refine Av trivial ?_ ?_)))
    ·intro k2
     (((refine Ab trivial ?_)))
     exact⟨by rw[decide_eq_true (by omega)],hM⟩
    ·intro k2
     (((refine Ab trivial ?_)))
     exact⟨by rw[decide_eq_false (by omega)],hM⟩
   ·intro k1
    ((((iterate 3 refine Bq ?_);refine Ab trivial ?_)))
    exact⟨by rw[decide_eq_false (by omega)],hM⟩
  rintro v u3 w3 ⟨rfl,hM⟩
  by_cases hc:0<U2.length∧0<V1.length
  ·rw[decide_eq_true hc]
   (((refine Am ?_)))
   refine Be (aWk (P++U1) U2 V1 (V2++S) (by rw[List.length_append];push_cast;omega) (by rw[List.length_append];push_cast;omega) (by rw[List.length_append];push_cast;omega) hT2 rfl hc.1 hc.2 hn hl _ hM) ?_
   rintro v w4 ⟨rfl,hM⟩
   skip
   exact hM
  ·rw[decide_eq_false hc]
   (((refine Al ?_)))
   have hM:Mem H w0 (rowR 128 33 A n c (fTK T)::R) _:=hM
   rw[hT2]at hM
   rcases Decidable.not_and_iff_or_not.1 hc with h|h
   ·obtain rfl:U2=[]:=List.eq_nil_of_length_eq_zero (by omega)
    exact hM
   ·obtain rfl:V1=[]:=List.eq_nil_of_length_eq_zero (by omega)
    exact hM
 clear hM
 rintro u3 w3 hM
 rw[show(P++U1)++(V1++(U2++(V2++S)))=P++(U1++(V1++(U2++(V2++S)))) by simp only[List.append_assoc]]at hM
 refine⟨fun w'=>∃ M1:List (Ky × Nat),M1.Perm (U1++V1)∧M1.Pairwise (tl (ltK cv))∧Mem H w0 (rowR 128 33 A n c (fTK (P++(M1++(U2++(V2++S)))))::R) w',?_,?_⟩
 ·refine⟨fun v w'=>v=.bool (decide (0<U1.length∧0<V1.length))∧hM.now w',?_,?_⟩
  ·skip
   (((refine Av trivial ?_ ?_)))
   ·intro k1
    (((refine Ae ?_;refine Ab trivial ?_;refine Ae ?_;refine Ab trivial ?_;refine Ae ?_)))
    (((refine Av trivial ?_ ?_)))
    ·intro k2
     (((refine Ab trivial ?_)))
     exact⟨by rw[decide_eq_true (by omega)],hM⟩
    ·intro k2
     (((refine Ab trivial ?_)))
     exact⟨by rw[decide_eq_false (by omega)],hM⟩
   ·intro k1
    ((((iterate 3 refine Bq ?_);refine Ab trivial ?_)))
    exact⟨by rw[decide_eq_false (by omega)],hM⟩
  rintro v u4 w4 ⟨rfl,hM⟩
  by_cases hc:0<U1.length∧0<V1.length
  ·rw[decide_eq_true hc]
   (((refine Am ?_)))
   refine Be (ih _ P U1 V1 (U2++(V2++S)) _ _ _ _ (by omega) (by omega) (by omega) rfl hc.1 hc.2 (by omega) sU1 sV1 t1 (by simp only[List.length_append];omega) hM) ?_
   rintro v w5 ⟨rfl,M1,p1,s1,hM⟩
   skip
   exact⟨M1,p1,s1,hM⟩
  ·rw[decide_eq_false hc]
   (((refine Al ?_)))
   have hM:Mem H w0 (rowR 128 33 A n c (fTK (P++(U1++(V1++(U2++(V2++S))))))::R) _:=hM
   rw[← List.append_assoc U1]at hM
   refine⟨U1++V1,.refl _,?_,hM⟩
   rcases Decidable.not_and_iff_or_not.1 hc with h|h
   ·obtain rfl:U1=[]:=List.eq_nil_of_length_eq_zero (by omega)
    exact sV1
   ·obtain rfl:V1=[]:=List.eq_nil_of_length_eq_zero (by omega)
    rw[List.append_nil]
    exact sU1
 clear hM
 rintro u5 w5 ⟨M1,p1,s1,hM⟩
 have l1:=p1.length_eq
 rw[List.length_append]at l1
 have hfin:∀ M2:List (Ky × Nat),M2.Perm (U2++V2)→M2.Pairwise (tl (ltK cv))→(M1++M2).Perm (U++V)∧(M1++M2).Pairwise (tl (ltK cv)):=fun M2 p2 s2=>by
  refine⟨?_,aZl hW hU hV p1 p2 s1 s2 c1 c2⟩
  rw[eU,eV]
  refine(p1.append p2).trans ?_
  simp only[List.append_assoc]
  refine List.Perm.append_left _ ?_
  rw[← List.append_assoc,← List.append_assoc U2]
  exact List.Perm.append_right _ List.perm_append_comm
 refine⟨fun v w'=>v=.bool (decide (0<U2.length∧0<V2.length))∧hM.now w',?_,?_⟩
 ·skip
  (((refine Av trivial ?_ ?_)))
  ·intro k1
   (((refine Ae ?_;refine Ab trivial ?_;refine Ae ?_;refine Ab trivial ?_;refine Ae ?_)))
   (((refine Av trivial ?_ ?_)))
   ·intro k2
    (((refine Ab trivial ?_)))
    exact⟨by rw[decide_eq_true (by omega)],hM⟩
   ·intro k2
    (((refine Ab trivial ?_)))
    exact⟨by rw[decide_eq_false (by omega)],hM⟩
  ·intro k1
   ((((iterate 3 refine Bq ?_);refine Ab trivial ?_)))
   exact⟨by rw[decide_eq_false (by omega)],hM⟩
 rintro v u6 w6 ⟨rfl,hM⟩
 have hM:Mem H w0 (rowR 128 33 A n c (fTK (P++(M1++(U2++(V2++S)))))::R) _:=hM
 rw[← List.append_assoc P]at hM
 by_cases hc:0<U2.length∧0<V2.length
 ·rw[decide_eq_true hc]
  (((refine Am ?_)))
  refine Be (ih _ (P++M1) U2 V2 S _ _ _ _ (by rw[List.length_append];push_cast;omega) (by rw[List.length_append];push_cast;omega) (by rw[List.length_append];push_cast;omega) rfl hc.1 hc.2 (by omega) sU2 sV2 t2 (by simp only[List.length_append];omega) hM) ?_
  rintro v w7 ⟨rfl,M2,p2,s2,hM⟩
  skip
  exact⟨_,rfl,rfl,M1++M2,(hfin M2 p2 s2).1,(hfin M2 p2 s2).2,by simpa only [List.append_assoc] using hM⟩
 ·rw[decide_eq_false hc]
  (((refine Al ?_)))
  have h2:=hfin (U2++V2) (.refl _) (by
   rcases Decidable.not_and_iff_or_not.1 hc with h|h
   ·obtain rfl:U2=[]:=List.eq_nil_of_length_eq_zero (by omega)
    exact sV2
   ·obtain rfl:V2=[]:=List.eq_nil_of_length_eq_zero (by omega)
    rw[List.append_nil]
    exact sU2)
  exact⟨_,rfl,rfl,M1++(U2++V2),h2.1,h2.2,by simpa only [List.append_assoc] using hM⟩
theorem aLl [FunC prog fc] [hc:∀ x y:Ky,PurC prog fc [.agg (fl (Ky.fds x)).toArray,.agg (fl (Ky.fds y)).toArray] True (.int .i64 (cv x y))] (hW:SW (ltK cv)) (hl:n≤1000000):∀ N,symSK H w0 R A n c cv fc N:=by
 intro N
 induction N with
 | zero=>intro T P U V S a m b w ha hm hb hT hu hv hN
         omega
 | succ N ih=>
   intro T P U V S a m b w ha hm hb hT hu hv hN hU hV ht hn hM
   by_cases h1:U.length=1
   ·obtain⟨x,rfl⟩:=List.length_eq_one_iff.1 h1
    exact aWm hW P V S x ha (by simpa using hm) (by simpa using hb) (by simpa using hT) hV (fun v hv=>ht x (by simp) v hv) hn hl hM
   by_cases h2:V.length=1
   ·obtain⟨x,rfl⟩:=List.length_eq_one_iff.1 h2
    exact aWn hW P U S x h1 ha (by simpa using hm) (by simpa using hb) (by simpa using hT) hU (fun u hu=>ht u hu x (by simp)) hn hl hM
   exact aWo hW hl ih P U V S ha hm hb hT (by omega) (by omega) hN hU hV ht hn hM
end
end Go.Proofs.YtgbenhmdamnmcaaGreat
namespace Go.Proofs.YtgbenhmdamnmcaaGreat
open Tryz
open Go.RowKit
section
variable {H:Hp} {w0 w:World} {L R:List Res} {A:Option Addr} {n c:Nat} {cv:Ky→Ky→Int} {fc:Nat}
theorem aSu [FunC prog fc] [hc:∀ x y:Ky,PurC prog fc [.agg (fl (Ky.fds x)).toArray,.agg (fl (Ky.fds y)).toArray] True (.int .i64 (cv x y))] (hW:SW (ltK cv)) (hl:n≤1000000) (T0:List (Ky × Nat)) (ht:T0.Pairwise (fun p q=>p.2<q.2)) (hn:T0.length=n) (hM:Mem H w0 (rowR 128 33 A n c (fTK T0)::R) w):
  Calls prog 211 #[.slice A n c,.int .i64 n,fv fc] w fun en w'=>∃ v,en=.returned v∧v=.tuple #[]∧∃ T,okR (ltK cv) T0 T∧Mem H w0 (rowR 128 33 A n c (fTK T)::R) w':=by
 have hsub:∀ {X Y Z:List (Ky × Nat)},T0=X++(Y++Z)→Y.Pairwise (fun p q=>p.2<q.2):=fun {X Y Z} e=>by
  rw[e]at ht
  exact(List.pairwise_append.1 (List.pairwise_append.1 ht).2.1).1
 have hcr:∀ {X Y Z W:List (Ky × Nat)},T0=X++(Y++(Z++W))→∀ {U V:List (Ky × Nat)},U.Perm Y→V.Perm Z→∀ u∈U,∀ v∈V,u.2<v.2:=fun {X Y Z W} e {U V} p1 p2 u hu v hv=>by
  rw[e]at ht
  exact(List.pairwise_append.1 (List.pairwise_append.1 ht).2.1).2.2 u (p1.mem_iff.1 hu) v (List.mem_append_left _ (p2.mem_iff.1 hv))
 refine Ia ?_
 unfold Eo
 refine⟨fun v u w'=>∃ (A0 A1 Z:List (Ky × Nat)),v=.int .i64 A1.length∧u=.int .i64 ((A1.length:Int)+20)∧T0=A0++Z∧RunsF (ltK cv) 20 A0 A1∧Mem H w0 (rowR 128 33 A n c (fTK (A1++Z))::R) w',fun v _ _=>match v with | .int _ k=>n+1 - k.toNat|_=>0,⟨[],[],T0,rfl,rfl,rfl,.nil,hM⟩,?_⟩
 clear hM
 rintro v u u2 w2 ⟨A0,A1,Z,rfl,rfl,hT,hA,hM⟩
 have hal:=hA.len
 have hlen:A1.length+Z.length=n:=by
  rw[hT,List.length_append]at hn
  omega
 (((refine Av trivial ?_ ?_)))
 ·intro hle
  (((refine Am ?_)))
  have eZ:Z=Z.take 20++Z.drop 20:=(List.take_append_drop _ _).symm
  have lZ:(Z.take 20).length=20:=by rw[List.length_take];omega
  generalize Z.take 20=Z1 at eZ lZ
  generalize Z.drop 20=Z2 at eZ
  subst eZ
  refine Be (aLk (cv:=cv) hW A1 Z1 Z2 rfl (by omega) rfl (hsub hT) (by rw[List.length_append];exact hlen) hl hM) ?_
  rintro v w3 ⟨rfl,M',hok,hM⟩
  have hml:=hok.1.length_eq
  (((refine Ab ?_ ?_));(focus omega))
  exact⟨⟨A0++Z1,A1++M',Z2,by rw[Value.int.injEq];refine⟨rfl,?_⟩;rw[List.length_append];push_cast;omega,by rw[Value.int.injEq];refine⟨rfl,?_⟩;rw[List.length_append];push_cast;omega,by rw[hT,List.append_assoc],.snoc hA hok (by omega),by rw[List.append_assoc];exact hM⟩,by simp only;omega⟩
 intro hgt
 (((refine Al ?_)))
 refine Be (aLk (cv:=cv) hW A1 Z [] rfl (by omega) (by rw[List.append_nil]) (hsub (X:=A0) (Z:=[]) (by rw[List.append_nil];exact hT)) (by rw[List.length_append];exact hlen) hl hM) ?_
 clear hM
 rintro v w3 ⟨rfl,M',hok,hM⟩
 rw[List.append_nil]at hM
 have hml:=hok.1.length_eq
 have hr0:Runs (ltK cv) 20 T0 (A1++M'):=by
  rw[hT]
  exact hA.app (.last hok (by omega))
 generalize A1++M'=T1 at hr0 hM
 clear hT hA hal hlen hok hml hgt
 refine⟨fun v w'=>∃ (bs:Nat) (T:List (Ky × Nat)),v=.int .i64 bs∧20≤bs∧bs≤2000000∧Runs (ltK cv) bs T0 T∧Mem H w0 (rowR 128 33 A n c (fTK T)::R) w',fun v _=>match v with | .int _ k=>n+1 - k.toNat|_=>0,⟨20,T1,rfl,by omega,by omega,hr0,hM⟩,?_⟩
 clear hM hr0
 rintro v u3 w4 ⟨bs,T,rfl,hb1,hb2,hr,hM⟩
 have htl:=hr.len
 (((refine Av trivial ?_ ?_)))
 ·intro hlt
  (((refine Am ?_;refine Ab ?_ ?_));(focus omega))
  refine⟨fun v u w'=>∃ (A0 A1 R0 R1:List (Ky × Nat)),v=.int .i64 A1.length∧u=.int .i64 ((A1.length:Int)+2*bs)∧T0=A0++R0∧RunsF (ltK cv) (2*bs) A0 A1∧Runs (ltK cv) bs R0 R1∧Mem H w0 (rowR 128 33 A n c (fTK (A1++R1))::R) w',fun v _ _=>match v with | .int _ k=>n+1 - k.toNat|_=>0,⟨[],[],T0,T,rfl,by rw[Value.int.injEq];refine⟨rfl,?_⟩;simp,rfl,.nil,hr,hM⟩,?_⟩
  clear hM hr htl
  rintro v u u4 w5 ⟨A0,A1,R0,R1,rfl,rfl,hT,hA,hr,hM⟩
  have hal:=hA.len
  have hrl:=hr.len
  have hlen:A1.length+R1.length=n:=by
   rw[hT,List.length_append]at hn
   omega
  (((refine Av trivial ?_ ?_)))
  ·intro hle
   (((refine Am ?_;refine Ab ?_ ?_));(focus omega))
   obtain⟨U0,U,S0,S,rfl,rfl,okU,hUl,hr⟩:=hr.first (by omega)
   rw[List.length_append]at hlen hrl
   obtain⟨V0,V,S0,S,rfl,rfl,okV,hVl,hr⟩:=hr.first (by omega)
   rw[List.length_append]at hlen
   refine Be (aLl (cv:=cv) hW hl (U.length+V.length+1) _ A1 U V S _ _ _ _ rfl (by omega) (by omega) rfl (by omega) (by omega) (by omega) okU.2 okV.2 (hcr hT okU.1 okV.1) (by simp only[List.length_append];omega) hM) ?_
   clear hM
   rintro v w6 ⟨rfl,M',p,s,hM⟩
   have hml:=p.length_eq
   rw[List.length_append]at hml
   (((refine Ab ?_ ?_));(focus omega);((refine Ab ?_ ?_));(focus omega))
   exact⟨⟨A0++(U0++V0),A1++M',S0,S,by rw[Value.int.injEq];refine⟨rfl,?_⟩;rw[List.length_append];push_cast;omega,by rw[Value.int.injEq];refine⟨rfl,?_⟩;rw[List.length_append];push_cast;omega,by rw[hT];simp only[List.append_assoc],.snoc hA ⟨p.trans (okU.1.append okV.1),s⟩ (by omega),hr,by rw[List.append_assoc];exact hM⟩,by simp only;omega⟩
  intro hgt
  (((refine Al ?_)))
  refine⟨fun w'=>∃ T,Runs (ltK cv) (2*bs) T0 T∧Mem H w0 (rowR 128 33 A n c (fTK T)::R) w',?_,?_⟩
  ·(((refine Ab ?_ ?_));(focus omega))
   (((refine Av trivial ?_ ?_)))
   ·intro hc2
    (((refine Am ?_)))
    obtain⟨U0,U,S0,S,rfl,rfl,okU,hUl,hr⟩:=hr.first (by omega)
    rw[List.length_append]at hlen hrl
    have okS:=hr.short (by omega)
    refine Be (aLl (cv:=cv) hW hl (U.length+S.length+1) _ A1 U S [] _ _ _ _ rfl (by omega) (by omega) (by rw[List.append_nil]) (by omega) (by omega) (by omega) okU.2 okS.2 (hcr (W:=[]) (by rw[List.append_nil];exact hT) okU.1 okS.1) (by simp only[List.length_append];omega) hM) ?_
    clear hM
    rintro v w6 ⟨rfl,M',p,s,hM⟩
    have hml:=p.length_eq
    rw[List.length_append]at hml
    rw[List.append_nil]at hM
    skip
    refine⟨A1++M',?_,hM⟩
    rw[hT]
    exact hA.app (.last ⟨p.trans (okU.1.append okS.1),s⟩ (by omega))
   ·intro hc2
    (((refine Al ?_)))
    refine⟨A1++R1,?_,hM⟩
    rw[hT]
    exact hA.app (.last (hr.short (by omega)) (by omega))
  clear hM
  rintro u5 w6 ⟨T2,hr2,hM⟩
  (((refine Ab ?_ ?_));(focus omega))
  exact⟨⟨2*bs,T2,by rw[Value.int.injEq];refine⟨rfl,?_⟩;push_cast;omega,by omega,by omega,hr2,hM⟩,by simp only;omega⟩
 ·intro hge
  (((refine Al ?_)))
  exact⟨_,rfl,rfl,T,hr.short (by omega),hM⟩
theorem aSv [FunC prog fc] [hc:∀ x y:Ky,PurC prog fc [.agg (fl (Ky.fds x)).toArray,.agg (fl (Ky.fds y)).toArray] True (.int .i64 (cv x y))] (hW:SW (ltK cv)) (l:List Ky) (hl:l.length≤1000000) (hM:Mem H w0 (rowR 128 33 A l.length c (l.map Ky.fds)::R) w):
  Calls prog 194 #[.slice A l.length c,fv fc] w fun en w'=>∃ v,en=.returned v∧v=.tuple #[]∧Mem H w0 (rowR 128 33 A l.length c ((srtB (ltK cv) l).map Ky.fds)::R) w':=by
 have e:fTK l.zipIdx=l.map Ky.fds:=by
  have:fTK l.zipIdx=(l.zipIdx.map (·.1)).map Ky.fds:=by rw[List.map_map];rfl
  rw[this,List.zipIdx_map_fst]
 have ht:(l.zipIdx).Pairwise (fun p q=>p.2<q.2):=by
  have h2:(l.zipIdx.map (·.2)).Pairwise (·<·):=by
   rw[List.zipIdx_map_snd]
   exact List.pairwise_lt_range'
  exact List.pairwise_map.1 h2
 rw[← e]at hM
 refine Fc ?_
 unfold Cy
 (((refine Ab trivial ?_)))
 refine Be (aSu (cv:=cv) hW hl l.zipIdx ht List.length_zipIdx hM) ?_
 rintro v w2 ⟨rfl,T,hok,hM⟩
 skip
 refine⟨_,rfl,rfl,?_⟩
 rw[← bCr hW hok.1 hok.2,List.map_map]
 exact hM
end
end Go.Proofs.YtgbenhmdamnmcaaGreat
namespace Go.Proofs.YtgbenhmdamnmcaaGreat
open Tryz
open Go.RowKit
section
variable {α:Type} {key:α→Int}
def lk (key:α→Int):α→List α→Int
 | x,[]=>key x
 | _,y::r=>lk key y r
theorem aZm {x y:α} (h:key x=key y):∀ R:List α,lk key x R=lk key y R
 | []=>h
 | _::_=>rfl
theorem aCv (z:α):∀ (R:List α) (x:α),cpt key x (R++[z])=cpt key x R++(if lk key x R=key z then [] else [z])
 | [],x=>by
   by_cases h:key x=key z
   ·rw[if_pos (show lk key x []=key z from h),List.append_nil]
    exact if_pos h
   ·rw[if_neg (show ¬lk key x []=key z from h)]
    exact if_neg h
 | y::R,x=>by
   by_cases h:key x=key y
   ·rw[List.cons_append,show cpt key x (y::(R++[z]))=cpt key x (R++[z]) from if_pos h,show cpt key x (y::R)=cpt key x R from if_pos h,aCv z R x,aZm h]
    rfl
   ·rw[List.cons_append,show cpt key x (y::(R++[z]))=x::cpt key y (R++[z]) from if_neg h,show cpt key x (y::R)=x::cpt key y R from if_neg h,aCv z R y]
    rfl
theorem aQh:∀ (R:List α) (x:α) {i:Nat} (h:i<(x::R).length),lk key x (R.take i)=key ((x::R)[i])
 | _,_,0,_=>rfl
 | [],_,_+1,h=>by simp at h
 | y::R,x,i+1,h=>by
   rw[List.take_succ_cons]
   exact aQh R y (by simpa using h)
theorem Xe {S:List α} {i:Nat} (h1:0<i) (hi:i<S.length):cptL key (S.take (i+1))=cptL key (S.take i)++(if key (S[i - 1]'(by omega))=key S[i] then [] else [S[i]]):=by
 cases S with
 | nil=>simp at hi
 | cons x R=>
   obtain⟨i,rfl⟩:∃ j,i=j+1:=⟨i - 1,by omega⟩
   have hi':i<R.length:=by simpa using hi
   rw[List.take_succ_cons,List.take_succ_cons,List.take_succ_eq_append_getElem hi']
   simp only[cptL,Nat.add_sub_cancel,List.getElem_cons_succ]
   rw[aCv,aQh R x (by simp only[List.length_cons];omega)]
theorem aCw {S:List α}:∀ {i:Nat},i≤S.length→(∀ (j:Nat) (hj:j<S.length),0<j→j<i→key (S[j - 1]'(by omega))≠key S[j])→cptL key (S.take i)=S.take i
 | 0,_,_=>by simp[cptL]
 | 1,h,_=>by
   cases S with
   | nil=>simp at h
   | cons x R=>simp[cptL,cpt]
 | i+2,h,hn=>by
   rw[Xe (by omega) (by omega),aCw (i:=i+1) (by omega) fun j hj h0 h1=>hn j hj h0 (by omega),if_neg (hn (i+1) (by omega) (by omega) (by omega)),← List.take_succ_eq_append_getElem (by omega)]
end
end Go.Proofs.YtgbenhmdamnmcaaGreat
namespace Go.Proofs.YtgbenhmdamnmcaaGreat
open Tryz
open Go.RowKit Go.Lib
section
variable {P:Program} {H:Hp} {w0 w:World} {L R':List Res} {n m capx e e' ex sz by_ t tx ty:Nat} {A B:Option Addr} {ps qs:List (List Fd)} {ks:List Bool} {K:Value→World→Prop} {X:List PanicEntry→World→Prop}
theorem aZn (h:Mem H w0 L w) [cc:SliC P t e sz by_] [k':AtR L B m capx ex sz qs R'] [cx:SliC P tx e' sz by_] (a:Sl H sz A ps) (hn:n=ps.length) (hm:0<m) (hb:n+m≤9223372036854775807∧(n+m)*by_≤140737488355328)
  (hk:∀ A' cap' w',Mem H w0 (rowR e sz A' (n+m) cap' (ps++qs)::L) w'→K (.slice A' (n+m) cap') w'):mop P (Ai .append #[t,tx] ty ks [.slice A n n,.slice B m capx]) w K X:=by
 have hs:Src P sz tx (.slice B m capx) m (fls qs) w:=h.src k' cx.und capx
 obtain⟨q1,q2,-⟩:=h.open_ k'
 obtain⟨ht,i,z,hi,hz,h4,h5,h6⟩:=Jk cc.ok
 have hd:Drawn w w.drew:=⟨1,rfl⟩
 have h7:=h.drawn hd
 have hfl:(fls ps).length=n*sz:=by rw[a.els.len,hn]
 have hql:(fls qs).length=m*sz:=by rw[q1.len,q2]
 have hfx:(Builtin.firstCells i.size n (.slice A n n)).run P w.drew=.ok (fls ps).toArray w.drew:=by
  rw[h4]
  cases A with
  | none=>
    have:ps=[]:=by
     rcases a.at_ with h|⟨b,o,c,h,_⟩
     ·exact h
     ·cases h
    subst this
    subst hn
    simp[Builtin.firstCells,fls]
  | some a0=>
    refine run_firstCells_some w.drew sz n a0 n n (fls ps) hfl (fun j u hu=>?_)
    rcases a.at_ with rfl|⟨b,o,c,hA,hH,hc⟩
    ·simp[fls]at hu
    ·cases hA
     rw[Addr.add_lit]
     exact Sl.cell a h7.fz hu
 have hgm:grownCap w (n+m) n e≤maxLen:=grownCap_le_maxLen w (n+m) n e (by simp only[maxLen];omega)
 have hge:=grownCap_ge w (n+m) n e
 have hrun:∀ v w',(Builtin.append_ #[t,tx] ty #[.slice A n n,.slice B m capx]).run P w=.ok v w'→(Ai .append #[t,tx] ty ks [.slice A n n,.slice B m capx]).run P w=.ok (.value v) w':=fun v w' h=>by
  simp[Ai,invoke,builtin,h]
 have e1:(fls ps++fls qs).toArray++Builtin.zeroCells z.cells (grownCap w (n+m) n e - (n+m))=(fls (ps++qs)++(Builtin.zeroCells z.cells (grownCap w (n+m) n e - (n+m))).toList).toArray:=by
  apply Array.ext'
  simp[Gj]
 obtain⟨Bk,hl,hs4,hb4⟩:=h7.own
 refine Ch (hrun (.slice (some ⟨w.heap.size,0,none⟩) (n+m) (grownCap w (n+m) n e)) (w.drew.alloc (.cells ((fls ps++fls qs).toArray++Builtin.zeroCells z.cells (grownCap w (n+m) n e - (n+m))) e)) ?_) (hk _ _ _ ?_)
 ·exact run_append_grow_src (P:=P) w t tx ty e i z ht hi hz A n n (fls ps) hfx _ m (fls qs) (by rw[h4];exact hs) (by omega) (by omega) (growslice_fits (by omega) (by rw[h5];exact hb.2))
 ·rw[e1]
  refine⟨⟨⟨w.heap.size,e,fls (ps++qs)++(Builtin.zeroCells z.cells (grownCap w (n+m) n e - (n+m))).toList,true⟩::Bk,⟨[_],Bk,rfl,⟨a.els.app q1,by simp[hn,q2],.inr ⟨w.heap.size,(Builtin.zeroCells z.cells (grownCap w (n+m) n e - (n+m))).toList,rfl,rfl,?_,hge,hgm⟩⟩,hl⟩,hs4.alloc e _,fun b hm=>?_⟩,h7.fz.ext ((Only.refl _ _).alloc _)⟩
  ·simp only[List.length_append,Array.length_toList,size_zeroCells,h6,Gj,hfl,hql]
   rw[← Nat.add_mul,← Nat.add_mul]
   congr 1
   omega
  ·rcases List.mem_cons.1 hm with rfl|hm
   ·refine⟨rfl,?_⟩
    cases hh:H w.heap.size with
    | none=>rfl
    | some c=>have:=h.fz.lt hh;omega
   ·exact hb4 b hm
end
end Go.Proofs.YtgbenhmdamnmcaaGreat
namespace Go.Proofs.YtgbenhmdamnmcaaGreat
open Tryz
open Go.RowKit Go.Lib
section
variable {P:Program} {H:Hp} {w:World} {n cap sz t:Nat} {A:Option Addr} {ps:List (List Fd)} {K:Value→World→Prop} {X:List PanicEntry→World→Prop}
theorem Sl.take (h:Sl H sz A ps) (k:Nat):Sl H sz A (ps.take k):=⟨h.els.take k,by
 rcases h.at_ with rfl|⟨b,o,c,hA,hH,hc⟩
 ·exact .inl (by simp)
 ·refine .inr ⟨b,o,c,hA,hH,fun j u hu=>hc j u ?_⟩
  rw[← List.take_append_drop k ps,Gj,List.getElem?_append_left (List.getElem?_eq_some_iff.1 hu).1]
  exact hu⟩
theorem Sl.drop_ {b o:Nat} (h:Sl H sz (some ⟨b,o,none⟩) ps) {k:Nat} (hk:k≤ps.length):Sl H sz (some ⟨b,o+k*sz,none⟩) (ps.drop k):=⟨⟨fun q hq=>h.els.ok q (List.mem_of_mem_drop hq)⟩,by
 rcases h.at_ with rfl|⟨b,o,c,hA,hH,hc⟩
 ·exact .inl (by simp)
 ·cases hA
  refine .inr ⟨_,_,c,rfl,hH,fun j u hu=>?_⟩
  rw[Nat.add_assoc]
  refine hc _ u ?_
  have ht:(fls (ps.take k)).length=k*sz:=by rw[(h.els.take k).len,List.length_take,Nat.min_eq_left hk]
  rw[← List.take_append_drop k ps,Gj,List.getElem?_append_right (by omega),ht,Nat.add_sub_cancel_left]
  exact hu⟩
end
end Go.Proofs.YtgbenhmdamnmcaaGreat
namespace Go.Proofs.YtgbenhmdamnmcaaGreat
open Tryz
open Go.RowKit Go.Lib
instance:FunC prog 195:=⟨by kernel_rfl⟩
instance:FunC prog 197:=⟨by kernel_rfl⟩
section
variable {H:Hp} {w0 w:World} {L R:List Res} {A B:Option Addr} {a c n m:Nat}
theorem aOi (x y:Ky) (w:World):Calls prog 195 #[.agg (fl x.fds).toArray,.agg (fl y.fds).toArray] w fun en w'=>en=.returned (.int .i64 (cvK x y))∧St w [] w':=by
 have hM:=Mem.start (Fz.of w)
 have h1:=x.ok
 have h2:=y.ok
 refine Wt ?_
 unfold Mk
 (((refine Bb hM ?_;clear hM;intro _ _ hM;refine Bb hM ?_;clear hM;intro _ _ hM;refine Ab trivial ?_;refine Ao hM ?_;refine Ab trivial ?_;refine Ao hM ?_;refine Ab ?_ ?_));(focus omega))
 exact⟨rfl,hM.st⟩
instance (x y:Ky):PurC prog 195 [.agg (fl x.fds).toArray,.agg (fl y.fds).toArray] True (.int .i64 (cvK x y)):=⟨fun _ w=>aOi x y w⟩
theorem aOj (x y:Ky) (w:World):Calls prog 197 #[.agg (fl x.fds).toArray,.agg (fl y.fds).toArray] w fun en w'=>en=.returned (.bool (decide (x.node=y.node)))∧St w [] w':=by
 have hM:=Mem.start (Fz.of w)
 refine Wv ?_
 unfold Ml
 (((refine Bb hM ?_;clear hM;intro _ _ hM;refine Bb hM ?_;clear hM;intro _ _ hM;refine Ab trivial ?_;refine Ao hM ?_;refine Ab trivial ?_;refine Ao hM ?_)))
 exact⟨rfl,hM.st⟩
instance (x y:Ky):PurC prog 197 [.agg (fl x.fds).toArray,.agg (fl y.fds).toArray] True (.bool (decide (x.node=y.node))):=⟨fun _ w=>aOj x y w⟩
theorem aOk {ps:List (List Fd)} (hs:Sl (Hp.of w) 33 A ps) (hn:n=ps.length) (hb:n≤100000) (hM:Mem H w0 L w):Calls prog 193 #[.slice A n a] w fun en w'=>∃ v,en=.returned v∧∃ A' a',v=.slice A' n a'∧Mem H w0 (rowR 128 33 A' n a' ps::L) w':=by
 refine Hu ?_
 unfold En
 refine Mo (P:=prog) (t:=63) (R:=fun en w'=>∃ v,en=.returned v∧∃ A' a',v=.slice A' n a'∧Mem H w0 (rowR 128 33 A' n a' ps::L) w') hs hn hM ?_ (fun A' a' w' hx hM=>⟨_,rfl,_,_,rfl,hM⟩)
 omega
theorem aFt {α:Type} {lt:α→α→Bool}:∀ (l acc:List α),(l.foldl (fun acc x=>insB lt x acc) acc).length=acc.length+l.length
 | [],acc=>by simp
 | p::r,acc=>by
   rw[List.foldl_cons,aFt r,(Ms p acc).length_eq,List.length_cons,List.length_cons]
   omega
theorem aWp {α:Type} {lt:α→α→Bool} (l:List α):(srtB lt l).length=l.length:=by
 unfold srtB
 rw[aFt]
 simp
theorem aWq {α:Type} {T:List α} {k:Nat} {x:α} (h:k<T.length):(T.set k x).take (k+1)=T.take k++[x]:=by
 rw[List.set_eq_take_append_cons_drop,if_pos h,List.take_append,List.length_take,Nat.min_eq_left (by omega),List.take_of_length_le (by rw[List.length_take];omega),Nat.add_sub_cancel_left]
 rfl
theorem bCv (S:List Ky) (hn:n=S.length) (hl:n≤1000000) (hM:Mem H w0 (rowR 128 33 A n c (S.map Ky.fds)::R) w):
  Calls prog 196 #[.slice A n c,fv 197] w fun en w'=>∃ v,en=.returned v∧v=.slice A (cptL Ky.node S).length c∧Mem H w0 (rowR 128 33 A (cptL Ky.node S).length c ((cptL Ky.node S).map Ky.fds)::R) w':=by
 refine Fx ?_
 unfold Dh
 have hcp:=(Mem.rowLen (A:=A) hM ⟨.refl _⟩).2.1
 (((refine Ab trivial ?_)))
 (((refine Av trivial ?_ ?_)))
 ·intro h2
  (((refine Am ?_)))
  have e:cptL Ky.node S=S:=by
   match S,hn with
   | [],_=>rfl
   | [x],_=>rfl
   | _::_::_,hn=>simp only[List.length_cons]at hn;omega
  rw[e,← hn]
  exact⟨_,rfl,rfl,hM⟩
 intro h2
 (((refine Al ?_)))
 obtain⟨g,rfl⟩:=hM.rowAt (n:=n) ⟨.refl _⟩ (by omega)
 refine⟨fun v w'=>∃ i:Nat,v=.int .i64 i∧1≤i∧i≤n∧(∀ (j:Nat) (hj:j<S.length),0<j→j<i→Ky.node (S[j - 1]'(by omega))≠Ky.node S[j])∧Mem H w0 (rowR 128 33 (some ⟨g,0,none⟩) n c (S.map Ky.fds)::R) w',fun v _=>match v with | .int _ k=>n - k.toNat|_=>0,⟨1,rfl,by omega,by omega,fun j hj h0 h1=>by omega,hM⟩,?_⟩
 clear hM
 rintro v u w1 ⟨i,rfl,hi1,hi2,hne,hM⟩
 (((refine Ab trivial ?_)))
 (((refine Av trivial ?_ ?_)))
 ·intro hlt
  have hil:i<S.length:=by omega
  have ht1:((i:Int) - 1).toNat=i - 1:=by omega
  have hk:decide (S[i].node=(S[((i:Int) - 1).toNat]'(by omega)).node)=decide (S[i].node=(S[i - 1]'(by omega)).node):=by simp only[ht1]
  (((refine Am ?_;refine Cf hM ?_ ?_));(focus omega);((intro _ hA));(cases hA);((refine Cq hM (Bs ?_) ?_));(focus omega);((refine An ?_ ?_));(focus omega);((refine Cf hM ?_ ?_));(focus omega);((intro _ hA));(cases hA);((refine Cq hM (Co ?_) ?_));(focus omega);((refine Bd hM ?_ (fun _ _ hM=>?_)));(focus (first|exact trivial|assumption|omega));((refine Ba hM ?_;clear hM;intro _ hM)))
  rw[hk]
  by_cases hq:S[i].node=(S[i - 1]'(by omega)).node
  ·rw[decide_eq_true hq]
   have hall:=aCw (key:=Ky.node) (S:=S) (i:=i) (by omega) (fun j hj h0 h1=>hne j hj h0 (by omega))
   have hnx:=Xe (key:=Ky.node) (S:=S) (i:=i) (by omega) hil
   rw[if_pos hq.symm,List.append_nil,hall]at hnx
   (((refine Am ?_;refine Ab ?_ ?_));(focus omega))
   refine⟨fun v v2 w'=>∃ (j k:Nat) (T:List Ky),v=.int .i64 k∧v2=.int .i64 j∧1≤j∧i+j≤n∧k=(cptL Ky.node (S.take (i+j))).length∧k+1≤i+j∧T.length=n∧T.take k=cptL Ky.node (S.take (i+j))∧T.drop (i+j - 1)=S.drop (i+j - 1)∧Mem H w0 (rowR 128 33 (some ⟨g,0,none⟩) n c (T.map Ky.fds)::R) w',fun _ v _=>match v with | .int _ k=>n - k.toNat|_=>0,⟨1,i,S,rfl,rfl,by omega,by omega,by rw[hnx,List.length_take];omega,by omega,hn.symm,by rw[hnx],rfl,hM⟩,?_⟩
   clear hM
   rintro v v2 u2 w2 ⟨j,k,T,rfl,rfl,hj1,hj2,hk1,hk2,hTl,hT1,hT2,hM⟩
   (((refine Ab trivial ?_)))
   (((refine Av trivial ?_ ?_)))
   ·intro hjl
    have hij:i+j<S.length:=by omega
    have a1:(T.map Ky.fds)[i+j]?=some (S[i+j]).fds:=by
     rw[List.getElem?_map,aPx hT2 (by omega),List.getElem?_eq_getElem hij]
     rfl
    have a2:(T.map Ky.fds)[i+j - 1]?=some (S[i+j - 1]'(by omega)).fds:=by
     rw[List.getElem?_map,aPx hT2 (by omega),List.getElem?_eq_getElem (by omega)]
     rfl
    have hst:=Xe (key:=Ky.node) (S:=S) (i:=i+j) (by omega) hij
    have hT3:T.drop (i+j)=S.drop (i+j):=by
     have:=congrArg (List.drop 1) hT2
     rw[List.drop_drop,List.drop_drop,show i+j - 1+1=i+j by omega]at this
     exact this
    have hkl2:k≤i+j - 1:=by omega
    (((refine Am ?_)))
    refine⟨fun x w'=>∃ (k':Nat) (T':List Ky),x=.int .i64 k'∧k'=(cptL Ky.node (S.take (i+j+1))).length∧k'≤i+j∧T'.length=n∧T'.take k'=cptL Ky.node (S.take (i+j+1))∧T'.drop (i+j)=S.drop (i+j)∧Mem H w0 (rowR 128 33 (some ⟨g,0,none⟩) n c (T'.map Ky.fds)::R) w',?_,?_⟩
    ·refine bCm (by omega) ?_
     rw[show 0+((i:Int)).toNat*33+((j:Int)).toNat*33=0+(i+j)*33 by omega]
     refine Cq hM a1 ?_
     (((refine An ?_ ?_));(focus omega);((refine An ?_ ?_));(focus omega))
     rw[show 0+((i:Int)).toNat*33+((j:Int) - 1).toNat*33=0+(i+j - 1)*33 by omega]
     refine Cq hM a2 ?_
     by_cases hq2:(S[i+j]).node=(S[i+j - 1]'(by omega)).node
     ·rw[if_pos hq2.symm,List.append_nil]at hst
      (((refine Bd hM ?_ (fun _ _ hM=>?_)));(focus (first|exact trivial|assumption|omega));((refine An trivial ?_;refine Ba hM ?_;clear hM;intro _ hM)))
      rw[decide_eq_true hq2]
      simp only[Bool.not_true]
      (((refine Al ?_)))
      exact⟨k,T,rfl,by rw[hst,hk1],by omega,hTl,by rw[hst,hT1],hT3,hM⟩
     ·rw[if_neg (fun h=>hq2 h.symm)]at hst
      (((refine Bd hM ?_ (fun _ _ hM=>?_)));(focus (first|exact trivial|assumption|omega));((refine An trivial ?_;refine Ba hM ?_;clear hM;intro _ hM)))
      rw[decide_eq_false hq2]
      simp only[Bool.not_false]
      (((refine Am ?_;refine Ab ?_ ?_));(focus omega))
      rw[show 0+((i:Int)).toNat*33+((j:Int)).toNat*33=0+(i+j)*33 by omega]
      refine Zh hM a1 ?_
      (((refine aAd hM ?_ ?_));(focus omega);((intro _ hA));(cases hA);((refine aNm hM ?_ ?_));(focus omega);((clear hM;intro _ hM;refine Ab ?_ ?_));(focus omega))
      have e5:(T.map Ky.fds).set ((k:Int)).toNat (S[i+j]).fds=(T.set k S[i+j]).map Ky.fds:=by
       rw[Int.toNat_natCast]
       exact(List.map_set (f:=Ky.fds)).symm
      have hM:Mem H w0 (rowR 128 33 (some ⟨g,0,none⟩) n c ((T.map Ky.fds).set ((k:Int)).toNat (S[i+j]).fds)::R) _:=hM
      rw[e5]at hM
      refine⟨k+1,T.set k S[i+j],by rw[Value.int.injEq];refine⟨rfl,?_⟩;push_cast;rfl,by rw[hst,List.length_append,List.length_singleton,hk1],by omega,by rw[List.length_set,hTl],?_,?_,hM⟩
      ·rw[hst,← hT1,aWq (by omega)]
      ·rw[List.drop_set_of_lt (by omega),hT3]
    clear hM
    rintro v u4 w4 ⟨k',T',rfl,hk1',hk2',hTl',hT1',hT2',hM⟩
    (((refine Ab ?_ ?_));(focus omega))
    exact⟨⟨j+1,k',T',rfl,by rw[Value.int.injEq];refine⟨rfl,?_⟩;push_cast;rfl,by omega,by omega,hk1',by omega,hTl',hT1',hT2',hM⟩,by simp only;omega⟩
   ·intro hjg
    obtain rfl:j=n - i:=by omega
    have e0:i+(n - i)=S.length:=by omega
    rw[e0,List.take_length]at hk1 hT1
    (((refine Al ?_;refine Ab ?_ ?_));(focus omega))
    rw[Int.toNat_natCast]
    refine aKp hM (by omega) ?_
    clear hM
    intro w4 hM
    rw[← List.map_take,hT1]at hM
    (((refine Ab ?_ ?_));(focus omega))
    rw[hk1]at hM
    rw[Int.toNat_natCast,hk1]
    exact⟨_,rfl,rfl,hM⟩
  ·rw[decide_eq_false hq]
   (((refine Al ?_;refine Ab ?_ ?_));(focus omega))
   refine⟨⟨i+1,by rw[Value.int.injEq];refine⟨rfl,?_⟩;push_cast;rfl,by omega,by omega,fun j hj h0 h1=>?_,hM⟩,by simp only;omega⟩
   by_cases e:j=i
   ·subst e
    exact fun h=>hq h.symm
   ·exact hne j hj h0 (by omega)
 ·intro hge
  obtain rfl:i=n:=by omega
  (((refine Al ?_)))
  have e:cptL Ky.node S=S:=by
   have:=aCw (key:=Ky.node) (S:=S) (i:=S.length) (by omega) (fun j hj h0 h1=>hne j hj h0 (by omega))
   rwa [List.take_length]at this
  rw[e,← hn]
  exact⟨_,rfl,rfl,hM⟩
theorem aFu (l:List Ky) (hn:n=l.length) (hl:n≤100000) (hs:Sl (Hp.of w) 33 A (l.map Ky.fds)) (hM:Mem H w0 L w):
  Calls prog 155 #[.slice A n a] w fun en w'=>∃ v,en=.returned v∧∃ A' c',v=.slice A' (sortedK l).length c'∧Mem H w0 (rowR 128 33 A' (sortedK l).length c' ((sortedK l).map Ky.fds)::L) w':=by
 refine aBn ?_
 unfold Pa
 skip
 refine Be (aOk hs (by rw[List.length_map,hn]) (by omega) hM) ?_
 clear hM
 rintro v w2 ⟨C,cc,rfl,hM⟩
 skip
 subst hn
 refine Be (aSv (cv:=cvK) bCu l (by omega) hM) ?_
 clear hM
 rintro v w3 ⟨rfl,hM⟩
 skip
 refine Be (bCv (srtB (ltK cvK) l) (aWp l).symm (by omega) hM) ?_
 clear hM
 rintro v w4 ⟨rfl,hM⟩
 skip
 have e:=aOf l
 have hM:Mem H w0 (rowR 128 33 C (cptL Ky.node (srtB (fun a b:Ky=>decide (cvK a b<0)) l)).length cc ((cptL Ky.node (srtB (fun a b:Ky=>decide (cvK a b<0)) l)).map Ky.fds)::L) _:=hM
 rw[e]at hM
 exact⟨_,rfl,C,cc,by rw[← e],hM⟩
end
end Go.Proofs.YtgbenhmdamnmcaaGreat
namespace Go.Proofs.YtgbenhmdamnmcaaGreat
open Tryz
open Go.RowKit
theorem Mem.fzb {H:Hp} {w0 w:World} {L:List Res} {g:Nat} {t:TypeId} {fs:List Fd} (h:Mem H w0 (fb g t fs::L) w):∃ H',Le w0 H H'∧Mem H' w0 L w∧FbF H' g fs:=by
 obtain⟨B,⟨B1,B2,rfl,⟨hf,rfl⟩,h4⟩,hs,hb⟩:=h.own
 have hs:St w0 (⟨g,t,fl fs,true⟩::B2) w:=hs
 have hg:=hb ⟨g,t,fl fs,true⟩ (by simp)
 have hne:=(List.pairwise_cons.1 hs.ne).1
 refine⟨hadd H g (fl fs),⟨aYi hg.2,fun b hb1 hc=>?_⟩,⟨⟨B2,h4,hs.drop,fun b hm=>⟨(hb b (List.mem_append.2 (.inr hm))).1,?_⟩⟩,h.fz.hadd hs.head⟩,FbF.add hf⟩
 ·unfold hadd
  rw[if_neg]
  ·exact hc
  ·rintro rfl
   have:=hs.new _ (List.mem_cons_self ..) rfl
   simp only at this
   omega
 ·unfold hadd
  rw[if_neg]
  ·exact(hb b (List.mem_append.2 (.inr hm))).2
  ·intro e
   exact hne b hm e.symm
end Go.Proofs.YtgbenhmdamnmcaaGreat
namespace Go.Proofs.YtgbenhmdamnmcaaGreat
open Tryz
open Go.RowKit Go.Lib
section
variable {H:Hp} {w0 w:World} {L R:List Res} {A B K:Option Addr} {a c n m kc:Nat} {t:Tr} {v:Value}
theorem aQi (x:Int) (hx:0≤x∧x≤2*t.size - 2) (hR:t.Rt) (h:TrF H v t) (hf:Fz H w):Calls prog 152 #[v,.int .i64 x] w fun en w'=>en=.returned (.tuple #[ha (pubAt t x).1,.bool (pubAt t x).2])∧St w [] w':=by
 obtain⟨A,a,B,b,q,rfl,h1,h2,h3⟩:=h.ex
 have hM:=Mem.start hf
 have hlen:=hR.len
 have hts:t.size=t.ls.length:=rfl
 have hq:q.length=t.ps.length:=h3.len
 refine aJz ?_
 unfold Xw
 unfold pubAt
 by_cases he:x%2=0
 ·have hix:(x / 2).toNat<t.ls.length:=by omega
  have hla:leafAt t (x / 2)=t.ls[(x / 2).toNat]:=by
   unfold leafAt
   rw[List.getD_eq_getElem?_getD,List.getElem?_eq_getElem hix]
   rfl
  rw[if_pos he,hla]
  (((refine Bb hM ?_;clear hM;intro _ _ hM;refine Bj hM ?_;clear hM;intro _ _ hM;refine Ab ?_ ?_));(focus omega);((refine Cc trivial ?_ ?_));(focus (first|assumption|omega|with_reducible rfl|exact fun h=>Bool.noConfusion h));((refine Am ?_)))
  rename_i g1 _ g2 _
  have hM9:Mem H w (fb g1 58 (tfd A t.ls.length a B t.ps.length b)::[fb g2 23 [.arr 32 (u8s hzero.1)]]) _:=hM.same
  clear hM
  obtain⟨H',le',hM,hB⟩:=hM9.fzb
  refine⟨Rl.fz H',?_⟩
  have hF:=hM.fz
  have hn:=hM.free (g:=g2)
  have k1:=h1.mono le'.le
  have k2:=h2.mono le'.le
  (((refine An trivial ?_));(refine Nh ‹_› ‹_› ?_);((refine An ?_ ?_));(focus omega);(refine Kz ‹_› ?_ ?_ ?_);(focus (simp only[List.length_map];omega));(focus (simp only[List.length_map];first|done|omega));((intro _ _ hA));(cases hA);((refine An trivial ?_)))
  refine aHw hF k1 (Co hix) ?_
  (((refine An trivial ?_));(refine Nh ‹_› ‹_› ?_);((refine An ?_ ?_));(focus omega);(refine Kz ‹_› ?_ ?_ ?_);(focus (simp only[List.length_map];omega));(focus (simp only[List.length_map];first|done|omega));((intro _ _ hA));(cases hA);((refine An trivial ?_)))
  refine aHw hF k1 (Co hix) ?_
  refine An trivial ?_
  refine bAz hM hF hn ?_
  clear hM
  intro w4 hM hF
  (((refine Ba hM ?_;clear hM;intro _ hM;refine Cd hM ?_)))
  exact⟨rfl,hM.st⟩
 ·have hix:(x / 2).toNat<t.ps.length:=by omega
  obtain⟨q,hq1,C,c,rfl,hC,hcl⟩:=h3.at_ (i:=(x / 2).toNat) hix
  obtain⟨p,hpe⟩:∃ p,t.ps[(x / 2).toNat]=p:=⟨_,rfl⟩
  have hpa:parAt t (x / 2)=p:=by
   unfold parAt
   rw[List.getD_eq_getElem?_getD,List.getElem?_eq_getElem hix,hpe]
   rfl
  rw[if_neg he,hpa]
  rw[hpe]at hq1
  (((refine Bb hM ?_;clear hM;intro _ _ hM;refine Bj hM ?_;clear hM;intro _ _ hM;refine Ab ?_ ?_));(focus omega);((refine Br trivial ?_ ?_));(focus (first|assumption|omega|with_reducible rfl|exact fun h=>Bool.noConfusion h));((refine Al ?_)))
  rename_i g1 _ g2 _
  have hM9:Mem H w (fb g1 58 (tfd A t.ls.length a B t.ps.length b)::[fb g2 23 [.arr 32 (u8s hzero.1)]]) _:=hM.same
  clear hM
  obtain⟨H',le',hM,hB⟩:=hM9.fzb
  refine⟨Rl.fz H',?_⟩
  have hF:=hM.fz
  have hn:=hM.free (g:=g2)
  have k1:=h1.mono le'.le
  have k2:=h2.mono le'.le
  (((refine An trivial ?_));(refine Nh ‹_› ‹_› ?_);((refine An ?_ ?_));(focus omega))
  refine Kz k2 (by omega) hq.symm (fun bb oo hB=>?_)
  cases hB
  (((refine An trivial ?_)))
  refine aHw hF k2 hq1 ?_
  (((refine An trivial ?_));(refine Nh ‹_› ‹_› ?_);((refine An ?_ ?_));(focus omega);((refine An ?_ ?_));(focus omega);((refine An trivial ?_)))
  refine aHw hF k2 hq1 ?_
  refine bAz hM hF hn ?_
  clear hM
  intro w4 hM hF
  (((refine Ba hM ?_;clear hM;intro _ hM;refine Cd hM ?_)))
  exact⟨rfl,hM.st⟩
theorem aZo (l:List Kr) (hl:l.length≤1000) (h:TrF H v t) (hs:Sl H 33 K (l.map Kr.fds)) (hf:Fz H w):
  Calls prog 130 #[v,.slice K l.length kc] w (Outp H w fun H' r=>∃ K2 kc2,r=.slice K2 (keepT t l).length kc2∧Sl H' 33 K2 ((keepT t l).map Ky.fds)):=by
 obtain⟨w1,hw1⟩:∃ w1,w1=w:=⟨_,rfl⟩
 rw[← hw1]
 rw[← hw1]at hf
 have hM:=Mem.start hf
 have hx:=h.ex
 obtain⟨TA,ta,TB,tb,tq,rfl,-⟩:=hx
 refine aHf ?_
 unfold Tp
 (((refine Bb hM ?_;clear hM;intro _ _ hM;refine Ao hM ?_)))
 refine Bn hM (aId h hM.fz) (fun w hM=>?_)
 cases hr:t.right
 ·(((refine Ab trivial ?_;refine Am ?_)))
  refine hM.out (Le.refl _ _) ⟨none,0,?_,?_⟩
  ·unfold keepT
   rw[hr]
   rfl
  ·unfold keepT
   rw[hr]
   exact Sl.nil _ _ _
 have hR:=Tr.rt.1 hr
 have hlen:=hR.len
 have hts:t.size=t.ls.length:=rfl
 have hkt:keepT t l=sortedK (keepL t l):=if_pos hr
 rw[hkt]
 (((refine Ab trivial ?_;refine Al ?_;refine Ab trivial ?_)))
 rename_i g1 _ _
 have h0:Mem H w1 (rowR 128 33 none 0 0 ((keepL t (l.take 0)).map Ky.fds)::_) _:=hM.row0 128 33
 refine⟨fun v u w'=>∃ (i:Nat) (K2:Option Addr) (kc2:Nat),v=.slice K2 (keepL t (l.take i)).length kc2∧u=.int .i64 i∧i≤l.length∧Mem H w1 [rowR 128 33 K2 (keepL t (l.take i)).length kc2 ((keepL t (l.take i)).map Ky.fds),fb g1 58 (tfd TA t.ls.length ta TB t.ps.length tb)] w',fun _ u _=>match u with | .int _ k=>l.length - k.toNat|_=>0,⟨0,none,0,rfl,rfl,by omega,h0⟩,?_⟩
 clear hM h0
 rintro v u u4 w4 ⟨i,K2,kc2,rfl,rfl,hi,hM⟩
 have hkl:(keepL t (l.take i)).length≤1000:=by
  have:=List.length_filterMap_le (keep1 t) (l.take i)
  rw[List.length_take]at this
  show(List.filterMap _ _).length≤_
  omega
 skip
 (((refine Av trivial ?_ ?_)))
 ·intro hlt
  have hlt':i<l.length:=by omega
  have hst:=aOh (t:=t) hlt'
  obtain⟨k,hk⟩:∃ k,l[i]=k:=⟨_,rfl⟩
  rw[hk]at hst
  have hq:(l.map Kr.fds)[((i:Int)).toNat]?=some k.fds:=by
   rw[Int.toNat_natCast,← hk]
   exact Co hlt'
  (((refine Am ?_)))
  refine⟨fun v w'=>∃ (K3:Option Addr) (kc3:Nat),v=.slice K3 (keepL t (l.take (i+1))).length kc3∧Mem H w1 [rowR 128 33 K3 (keepL t (l.take (i+1))).length kc3 ((keepL t (l.take (i+1))).map Ky.fds),fb g1 58 (tfd TA t.ls.length ta TB t.ps.length tb)] w',?_,?_⟩
  ·((refine Ca ‹_› ?_ ?_ ?_);(focus (simp only[List.length_map];omega));(focus (simp only[List.length_map];first|done|omega));((intro _ _ hA));(cases hA);(refine Bt hM ‹_› (Bs ?_) ?_);(focus omega);((refine Bj hM ?_;clear hM;intro _ _ hM;refine Bi hM ?_;clear hM;intro _ hM)))
   rename_i gk _ _
   rw[hk]at hM
   have hM:Mem H w1 [fb gk 128 k.fds,rowR 128 33 K2 (keepL t (l.take i)).length kc2 ((keepL t (l.take i)).map Ky.fds),fb g1 58 (tfd TA t.ls.length ta TB t.ps.length tb)] _:=hM
   refine⟨fun w'=>(0≤k.node∧k.node≤2*t.size - 2)∧hM.now w',?_,?_⟩
   ·by_cases hr2:0≤k.node∧k.node≤2*t.size - 2
    ·(((refine Ab trivial ?_;refine Ao hM ?_;refine Br trivial ?_ ?_));(focus (first|assumption|omega|with_reducible rfl|exact fun h=>Bool.noConfusion h));((refine Ae ?_;refine Ab trivial ?_;refine Ae ?_;refine Ao hM ?_;refine Ae ?_;refine Ab trivial ?_;refine Ae ?_;refine Ao hM ?_;refine Ae ?_;refine Ab trivial ?_;refine Ae ?_;refine Ab ?_ ?_));(focus omega);((refine Ae ?_;refine Ab ?_ ?_));(focus omega);((refine Ae ?_;refine Br trivial ?_ ?_));(focus (first|assumption|omega|with_reducible rfl|exact fun h=>Bool.noConfusion h));((refine Ab trivial ?_;refine Al ?_)))
     exact⟨hr2,hM⟩
    ·have hno:keep1 t k=none:=aLj fun h=>hr2 ⟨h.1.1,h.2.1⟩
     rw[hno,Option.toList_none,List.append_nil]at hst
     by_cases hr3:k.node<0
     ·(((refine Ab trivial ?_;refine Ao hM ?_;refine Cc trivial ?_ ?_));(focus (first|assumption|omega|with_reducible rfl|exact fun h=>Bool.noConfusion h));(((iterate 8 refine Ar ?_);refine Ab trivial ?_;refine Am ?_)))
      exact⟨K2,kc2,by rw[hst],by rw[hst];exact hM.sub⟩
     ·(((refine Ab trivial ?_;refine Ao hM ?_;refine Br trivial ?_ ?_));(focus (first|assumption|omega|with_reducible rfl|exact fun h=>Bool.noConfusion h));((refine Ae ?_;refine Ab trivial ?_;refine Ae ?_;refine Ao hM ?_;refine Ae ?_;refine Ab trivial ?_;refine Ae ?_;refine Ao hM ?_;refine Ae ?_;refine Ab trivial ?_;refine Ae ?_;refine Ab ?_ ?_));(focus omega);((refine Ae ?_;refine Ab ?_ ?_));(focus omega);((refine Ae ?_;refine Cc trivial ?_ ?_));(focus (first|assumption|omega|with_reducible rfl|exact fun h=>Bool.noConfusion h));((refine Ab trivial ?_;refine Am ?_)))
      exact⟨K2,kc2,by rw[hst],by rw[hst];exact hM.sub⟩
   rintro u6 w6 ⟨hr2,hM⟩
   have hk1:(0≤k.node∧k.node≤1000):=by omega
   (((refine Ao hM ?_;refine Ab trivial ?_;refine Ao hM ?_)))
   refine Bn hM (aQi k.node hr2 hR h hM.fz) (fun w hM=>?_)
   (((refine Ab trivial ?_;refine Ab trivial ?_;refine Bj hM ?_;clear hM;intro _ _ hM;refine Bi hM ?_;clear hM;intro _ hM)))
   rename_i gp _ _
   obtain⟨pb,hpb⟩:∃ pb,pubAt t k.node=pb:=⟨_,rfl⟩
   obtain⟨pp,ps⟩:=pb
   rw[hpb]at hM ⊢
   dsimp only at hM ⊢
   refine⟨fun v w'=>v=.bool (decide (pubAt t k.node=(pubH k.priv,true)))∧hM.now w',?_,?_⟩
   ·cases ps
    ·(((refine Jg ?_;refine Jg ?_;refine Bq ?_;refine Jg ?_;refine Jg ?_;refine An trivial ?_;refine Ba hM (fun _ hM2=>?_);replace hM:=hM2;clear hM2)))
     exact⟨by rw[hpb,decide_eq_false (by simp)],hM⟩
    ·(((refine Bh ?_;refine An trivial ?_;refine Bh ?_;refine Aw hM ?_;refine Ae ?_;refine Bd hM ?_ (fun _ _ hM=>?_)));(focus (first|exact trivial|assumption|omega));((refine Bh ?_));(refine Aw ‹Mem _ _ _ _› ?_);((refine Bh ?_)))
     refine An trivial ?_
     (((refine An trivial ?_;refine Ba hM ?_;clear hM;intro _ hM)))
     refine⟨?_,hM⟩
     rw[hpb,Value.bool.injEq,decide_eq_decide,Prod.mk.injEq]
     exact⟨fun h=>⟨h.symm,rfl⟩,fun h=>h.1.symm⟩
   rintro v u7 w7 ⟨rfl,hM⟩
   by_cases hpk:pubAt t k.node=(pubH k.priv,true)
   ·rw[aSs hk1 hr2.2 hpk,Option.toList_some]at hst
    rw[decide_eq_true hpk]
    (((refine Am ?_;refine Ao hM ?_;refine Bu hM ?_ ?_ ?_));(focus rfl);(focus (constructor <;> simp));((clear hM;intro _ _ hM;refine Cz hM ?_ ?_));(focus omega);((clear hM;intro _ _ _ hM)))
    rename_i A3 c3 _
    have hM:Mem H w1 [rowR 128 33 A3 ((keepL t (l.take i)).length+1) c3 ((keepL t (l.take i)).map Ky.fds++[k.fds]),fb g1 58 (tfd TA t.ls.length ta TB t.ps.length tb)] _:=hM.sub
    have e:(keepL t (l.take i)).map Ky.fds++[k.fds]=(keepL t (l.take (i+1))).map Ky.fds:=by
     rw[hst,List.map_append]
     rfl
    have e2:(keepL t (l.take i)).length+1=(keepL t (l.take (i+1))).length:=by
     rw[hst,List.length_append]
     rfl
    rw[e,e2]at hM
    exact⟨A3,c3,by rw[e2],hM⟩
   ·have hno:keep1 t k=none:=aLj fun h=>hpk h.2.2
    rw[hno,Option.toList_none,List.append_nil]at hst
    rw[decide_eq_false hpk]
    (((refine Al ?_)))
    exact⟨K2,kc2,by rw[hst],by rw[hst];exact hM.sub⟩
  clear hM
  rintro v u5 w5 ⟨K3,kc3,rfl,hM⟩
  (((refine Ab ?_ ?_));(focus omega))
  exact⟨⟨i+1,K3,kc3,rfl,by rw[Value.int.injEq];refine⟨rfl,?_⟩;push_cast;rfl,by omega,hM⟩,by simp only;omega⟩
 ·intro hge
  obtain rfl:i=l.length:=by omega
  rw[List.take_length]at hM hkl ⊢
  (((refine Al ?_)))
  refine Be (aFu (keepL t l) rfl (by omega) (hM.reads (A:=K2)) hM) ?_
  clear hM
  rintro v w5 ⟨A',c',rfl,hM⟩
  skip
  obtain⟨H4,l4,hM,hs4,-⟩:=hM.fz0
  exact hM.out l4 ⟨A',c',rfl,hs4⟩
end
end Go.Proofs.YtgbenhmdamnmcaaGreat
namespace Go.Proofs.YtgbenhmdamnmcaaGreat
open Tryz
open Go.RowKit Go.Lib
end Go.Proofs.YtgbenhmdamnmcaaGreat
namespace Go.Proofs.YtgbenhmdamnmcaaGreat
open Tryz
open Go.RowKit Go.Lib
theorem aWr (a b:ByteArray):ints (a++b)=ints a++ints b:=by simp[ints]
section
variable {H:Hp} {w0 w:World} {L R:List Res} {A B K:Option Addr} {a c n m kc:Nat} {t:Tr} {v:Value}
theorem bDf (h:H32) (w:World):Calls prog 136 #[ha h] w fun en w'=>en=.returned (.string (strOfNums h.1))∧St w [] w':=by
 have hM:=Mem.start (Fz.of w)
 refine Me ?_
 unfold Hr
 (((refine Bb hM ?_;clear hM;intro _ _ hM;refine Ab trivial ?_;refine Hq hM ?_)))
 exact⟨rfl,hM.st⟩
theorem aWs (k:H32) (w:World):Calls prog 71 #[ha k] w fun en w'=>en=.returned (ha (pubH k))∧St w [] w':=by
 have hM:=Mem.start (Fz.of w)
 have hs:(strOfNums k.1).size=32:=by rw[strOfNums_size,k.2.1]
 have h3:spub.size=3:=rfl
 refine Ns ?_
 unfold Iy
 (((refine Bb hM ?_;clear hM;intro _ _ hM;refine Bj hM ?_;clear hM;intro _ _ hM;refine Ao hM ?_;refine Bg hM ?_ ?_));(focus (first|exact trivial|assumption|omega));((clear hM;intro _ hM)))
 refine Ab (by rw[hs];show 3+_≤_;omega) ?_
 have hs2:(spub++strOfNums k.1).size<1099511627776:=by rw[ByteArray.size_append,hs,h3];decide
 refine Bn hM (Pw _ _ hs2) (fun w2 hM=>?_)
 have e:hv (shaSum (ints (spub++strOfNums k.1)))=.agg (u8s (pubH k).1).toArray:=by
  rw[aWr,Ja]
  rfl
 rw[e]
 (((refine Bi hM ?_;clear hM;intro _ hM;refine Cd hM ?_)))
 exact⟨rfl,hM.st⟩
instance (k:H32):PurC prog 71 [.agg (u8s k.1).toArray] True (.agg (u8s (pubH k).1).toArray):=⟨fun _ w=>aWs k w⟩
end
end Go.Proofs.YtgbenhmdamnmcaaGreat
namespace Go.Proofs.YtgbenhmdamnmcaaGreat
open Tryz
open Go.RowKit Go.Lib
def idxI {α:Type} (f:α→Bool) (l:List α):Int:=match l.findIdx? f with
 | some i=>i
 | none => -1
theorem aQj {α:Type} {f:α→Bool} {l:List α} {i:Nat} (hi:i<l.length) (h:∀ j (hj:j<i),f (l[j]'(by omega))=false) (hf:f l[i]=true):idxI f l=i:=by
 unfold idxI
 have:l.findIdx? f=some i:=List.findIdx?_eq_some_iff_getElem.2 ⟨hi,hf,fun j hj=>by simp[h j hj]⟩
 rw[this]
theorem aFv {α:Type} {f:α→Bool} {l:List α} (h:∀ j (hj:j<l.length),f l[j]=false):idxI f l = -1:=by
 unfold idxI
 have:l.findIdx? f=none:=by
  rw[List.findIdx?_eq_none_iff]
  intro x hx
  obtain⟨j,hj,rfl⟩:=List.mem_iff_getElem.1 hx
  exact h j hj
 rw[this]
theorem aCx {α:Type} (f:α→Bool) (l:List α):(idxI f l = -1∧∀ x∈l,f x=false)∨∃ i:Nat,∃ hi:i<l.length,idxI f l=i∧f l[i]=true∧∀ j (hj:j<i),f (l[j]'(by omega))=false:=by
 unfold idxI
 cases h:l.findIdx? f with
 | none=>exact .inl ⟨rfl,by simpa [List.findIdx?_eq_none_iff] using h⟩
 | some i=>
   obtain⟨h1,h2,h3⟩:=List.findIdx?_eq_some_iff_getElem.1 h
   exact .inr ⟨i,h1,rfl,h2,fun j hj=>by simpa using h3 j hj⟩
abbrev ivv (y:Int):Value:=.int .i64 y
theorem aOl (l:List Int) (i:Nat):(ints8 l).take i=ints8 (l.take i):=by simp[ints8]
theorem aSw (l:List Int) (i:Nat) (x:Int):(ints8 l).set i [.one (.int .i64 x)]=ints8 (l.set i x):=(List.map_set (f:=fun x=>[Fd.one (.int .i64 x)])).symm
theorem aWt {α:Type} (l:List α) (i:Nat) (x:α) (h:i<l.length):(l.set i x).take (i+1)=l.take i++[x]:=by
 rw[List.take_succ_eq_append_getElem (by simpa using h),List.getElem_set_self,List.take_set_of_le (Nat.le_refl i)]
section
variable {H:Hp} {w0 w:World} {L R:List Res} {A B K F:Option Addr} {a c n m kc fc:Nat} {t:Tr} {v:Value}
theorem bCw (l:List Int) (hl:l.length≤100) (hr:∀ x∈l,0≤x∧x≤4611686018427387903) (hs:Sl H 1 K (ints8 l)) (hf:Fz H w):Calls prog 153 #[.slice K l.length kc] w fun en w'=>en=.returned (.string (strOfNums (l.flatMap numB)))∧St w [] w':=by
 have hM:=Mem.start hf
 refine aKb ?_
 unfold Xx
 refine Be (Ig hM) ?_
 clear hM
 rintro v w2 ⟨g,rfl,hM⟩
 (((refine Ab trivial ?_)))
 refine⟨fun v w'=>∃ i:Nat,v=.int .i64 i∧i≤l.length∧((l.take i).flatMap numB).length≤8*i∧Mem H w [wrR g ((l.take i).flatMap numB) false] w',fun v _=>match v with | .int _ k=>l.length - k.toNat|_=>0,⟨0,rfl,by omega,by simp,hM⟩,?_⟩
 clear hM
 rintro v u w3 ⟨i,rfl,hi,hb,hM⟩
 skip
 (((refine Av trivial ?_ ?_)))
 ·intro hlt
  have hit:i<l.length:=by omega
  have hx:=hr _ (List.getElem_mem hit)
  have hnl:=Az l[i]
  (((refine Am ?_));(refine Ca ‹_› ?_ ?_ ?_);(focus (simp only[List.length_map];omega));(focus (simp only[List.length_map];first|done|omega));((intro _ _ hA));(cases hA);(refine Bt hM ‹_› (Bs ?_) ?_);(focus omega))
  refine Be (Cu l[i] hx (by omega) hM) ?_
  clear hM
  rintro v w4 ⟨rfl,hM⟩
  (((refine Ab ?_ ?_));(focus omega))
  have e:(l.take i).flatMap numB++numB l[i]=(l.take (i+1)).flatMap numB:=by
   rw[List.take_succ_eq_append_getElem hit,List.flatMap_append]
   simp
  have hb2:((l.take (i+1)).flatMap numB).length≤8*(i+1):=by
   rw[← e,List.length_append]
   omega
  rw[e]at hM
  exact⟨⟨i+1,by rw[Value.int.injEq];refine⟨rfl,?_⟩;push_cast;rfl,by omega,hb2,hM⟩,by simp only;omega⟩
 ·intro hge
  obtain rfl:i=l.length:=by omega
  rw[List.take_length]at hM
  (((refine Al ?_)))
  refine Bn hM (Ih hM) (fun w5 hM=>?_)
  (((refine Ab trivial ?_;refine Ab trivial ?_)))
  exact⟨rfl,hM.st⟩
theorem aSx (l:List Int) (x:Int) (hl:l.length≤maxLen) (hs:Sl H 1 K (ints8 l)) (hf:Fz H w):Calls prog 91 #[.slice K l.length kc,.int .i64 x] w fun en w'=>en=.returned (.int .i64 (idxI (fun y=>decide (x=y)) l))∧St w [] w':=by
 have hM:=Mem.start hf
 have hl':l.length≤9223372036854775807:=hl
 refine Na ?_
 unfold Gz
 (((refine Ab trivial ?_)))
 refine⟨fun v w'=>∃ i:Nat,v=.int .i64 i∧i≤l.length∧(∀ j (hj:j<l.length),j<i→decide (x=l[j])=false)∧hM.now w',fun v _=>match v with | .int _ k=>l.length - k.toNat|_=>0,⟨0,rfl,by omega,by intro j hj h;omega,hM⟩,?_⟩
 rintro v u w3 ⟨i,rfl,hi,hlow,hM⟩
 skip
 (((refine Av trivial ?_ ?_)))
 ·intro hlt
  have hit:i<l.length:=by omega
  (((refine Am ?_));(refine Ca ‹_› ?_ ?_ ?_);(focus (simp only[List.length_map];omega));(focus (simp only[List.length_map];first|done|omega));((intro _ _ hA));(cases hA);(refine Bt hM ‹_› (Bs ?_) ?_);(focus omega))
  (((refine Av trivial ?_ ?_)))
  ·intro hx
   (((refine Am ?_)))
   exact⟨by rw[aQj (i:=i) hit (fun j hj=>hlow j (by omega) hj) (decide_eq_true hx)],hM.st⟩
  ·intro hx
   (((refine Al ?_;refine Ab ?_ ?_));(focus omega))
   exact⟨⟨i+1,by rw[Value.int.injEq];refine⟨rfl,?_⟩;push_cast;rfl,by omega,fun j hj hji=>by
    rcases Nat.lt_or_ge j i with h|h
    ·exact hlow j hj h
    ·obtain rfl:j=i:=by omega
     exact decide_eq_false hx,hM⟩,by simp only;omega⟩
 ·intro hge
  (((refine Al ?_)))
  exact⟨by rw[aFv fun j hj=>hlow j hj (by omega)],hM.st⟩
theorem aIf (l:List Int) (x:Int) (hl:l.length≤maxLen) (hs:Sl H 1 K (ints8 l)) (hf:Fz H w):Calls prog 191 #[.slice K l.length kc,.int .i64 x] w fun en w'=>en=.returned (.bool (decide (x∈l)))∧St w [] w':=by
 have hM:=Mem.start hf
 refine Kf ?_
 unfold Fp
 refine Bn hM (aSx l x hl hs hM.fz) (fun w hM=>?_)
 rcases aCx (fun y=>decide (x=y)) l with ⟨e,h⟩|⟨i,hi,e,h,-⟩
 ·rw[e,decide_eq_false (fun hm=>by have:=h x hm;simp at this)]
  (((refine Br trivial ?_ ?_));(focus (first|assumption|omega|with_reducible rfl|exact fun h=>Bool.noConfusion h)))
  exact⟨rfl,hM.st⟩
 ·have hm:x∈l:=by
   have:=of_decide_eq_true h
   rw[this]
   exact List.getElem_mem hi
  rw[e,decide_eq_true hm]
  (((refine Cc trivial ?_ ?_));(focus (first|assumption|omega|with_reducible rfl|exact fun h=>Bool.noConfusion h)))
  exact⟨rfl,hM.st⟩
def isF (fresh:List Int) (y:Int):Bool:=decide (y.tmod 2=0∧IntKind.i64.wrap (y.tdiv 2)∈fresh)
theorem aSy (g:Nat) (fresh:List Int) (y:Int) (hl:fresh.length≤maxLen) (hs:Sl H 1 F (ints8 fresh)) (hM:Mem H w0 (fb g 133 [.one (.slice F fresh.length fc)]::R) w):
  Calls prog 190 #[.int .i64 y,.pointer (some ⟨g,0,none⟩)] w fun en w'=>en=.returned (.bool (isF fresh y))∧Mem H w0 (fb g 133 [.one (.slice F fresh.length fc)]::R) w':=by
 refine Wr ?_
 unfold Mj isF
 refine Bw (bAv _ _ _ _ _ (by decide)) ?_
 by_cases h:y.tmod 2=0
 ·refine Cc trivial h ?_
  (((refine Ae ?_;refine Ao hM ?_;refine Ae ?_;refine Ab trivial ?_;refine Ae ?_)))
  refine Bw (bAw _ _ _ _ _ (by decide)) ?_
  (((refine Ae ?_)))
  refine Bn hM (aIf fresh (IntKind.i64.wrap (y.tdiv 2)) hl hs hM.fz) (fun w hM=>?_)
  (((refine Ab trivial ?_)))
  exact⟨by rw[decide_eq_decide.2 (show(y.tmod 2=0∧IntKind.i64.wrap (y.tdiv 2)∈fresh)↔IntKind.i64.wrap (y.tdiv 2)∈fresh from⟨fun k=>k.2,fun k=>⟨h,k⟩⟩)],hM⟩
 ·refine Br trivial h ?_
  ((((iterate 4 refine Bq ?_);refine Ab trivial ?_)))
  exact⟨by rw[decide_eq_false (fun k=>h k.1)],hM⟩
theorem aZp {r:Res} {cl:Value} {f:Int→Bool} (xs:List Int) (hn:xs.length=n) (hc:Clo prog H w0 r cl ivv f) (hM:Mem H w0 (r::rowR 3 1 A n c (ints8 xs)::R) w) (hb:n<1000000):
  Calls prog 178 #[.slice A n c,cl] w fun en w'=>∃ v,en=.returned v∧v=.int .i64 (idxI f xs)∧Mem H w0 (r::rowR 3 1 A n c (ints8 xs)::R) w':=by
 subst hn
 refine Fh ?_
 unfold Do
 (((refine Ab trivial ?_)))
 refine⟨fun x w=>∃ i:Nat,x=.int .i64 i∧i≤xs.length∧(∀ j (hj:j<xs.length),j<i→f xs[j]=false)∧hM.now w,fun x _=>match x with | .int _ i=>xs.length - i.toNat|_=>0,⟨0,rfl,by omega,by intro j hj h;omega,hM⟩,?_⟩
 rintro x u w ⟨i,rfl,hi,hf,hM⟩
 (((refine Av trivial ?_ ?_)))
 ·intro hlt
  have hit:i<xs.length:=by omega
  (((refine Am ?_;refine aAd hM ?_ ?_));(focus omega);((intro _ hA));(cases hA);((refine Zh hM (Bs ?_) ?_));(focus omega))
  refine hc _ _ _ _ _ hM (fun w hM=>?_)
  cases hfi:f xs[i]
  ·(((refine Al ?_;refine Ab ?_ ?_));(focus omega))
   exact⟨⟨i+1,by rw[Value.int.injEq];refine⟨rfl,?_⟩;push_cast;rfl,by omega,fun j hj hji=>by
    rcases Nat.lt_or_ge j i with h|h
    ·exact hf j hj h
    ·obtain rfl:j=i:=by omega
     exact hfi,hM⟩,by simp only;omega⟩
  ·(((refine Am ?_)))
   exact⟨_,rfl,by rw[aQj (i:=i) hit (fun j hj=>hf j (by omega) hj) hfi],hM⟩
 ·intro hge
  (((refine Al ?_)))
  exact⟨_,rfl,by rw[aFv fun j hj=>hf j hj (by omega)],hM⟩
theorem aZq {r:Res} {cl:Value} {f:Int→Bool} (xs:List Int) (hn:xs.length=n) (hc:Clo prog H w0 r cl ivv f) (hM:Mem H w0 (r::rowR 3 1 A n c (ints8 xs)::R) w) (hb:n<1000000):
  Calls prog 189 #[.slice A n c,cl] w fun en w'=>∃ v,en=.returned v∧v=.slice A (xs.filter fun x=>!f x).length c∧Mem H w0 (r::rowR 3 1 A (xs.filter fun x=>!f x).length c (ints8 (xs.filter fun x=>!f x))::R) w':=by
 refine Jc ?_
 unfold Fa
 refine Be (aZp xs hn hc hM hb) ?_
 clear hM
 rintro v w2 ⟨rfl,hM⟩
 rcases aCx f xs with ⟨hi,hall⟩|⟨i0,hi0,hi,hfi,hlow⟩
 ·rw[hi]
  (((refine Cc trivial ?_ ?_));(focus (first|assumption|omega|with_reducible rfl|exact fun h=>Bool.noConfusion h));((refine Am ?_)))
  have e:xs.filter (fun x=>!f x)=xs:=List.filter_eq_self.2 fun x hx=>by simp[hall x hx]
  rw[e,hn]
  exact⟨_,rfl,rfl,hM⟩
 ·rw[hi]
  have hcl:n≤c:=((hM.up A).rowLen ⟨.refl _⟩).2.1
  (((refine Br trivial ?_ ?_));(focus (first|assumption|omega|with_reducible rfl|exact fun h=>Bool.noConfusion h));((refine Al ?_;refine Ab ?_ ?_));(focus omega))
  have e0:(xs.take (i0+1)).filter (fun x=>!f x)=xs.take i0:=by
   rw[List.take_succ_eq_append_getElem hi0,List.filter_append,List.filter_eq_self.2 fun x hx=>?_]
   ·simp[hfi]
   ·obtain⟨j,hj,rfl⟩:=List.mem_iff_getElem.1 hx
    have hj2:j<i0:=by simp at hj;omega
    simp[hlow j hj2]
  obtain⟨g,rfl⟩:=(hM.up A).rowAt ⟨.refl _⟩ (by omega)
  refine⟨fun x y w'=>∃ (i j:Nat) (ys:List Int),x=.int .i64 i∧y=.int .i64 j∧i<j∧j≤n∧ys.length=n∧ys.take i=(xs.take j).filter (fun x=>!f x)∧ys.drop j=xs.drop j∧Mem H w0 (r::rowR 3 1 (some ⟨g,0,none⟩) n c (ints8 ys)::R) w',
   fun _ y _=>match y with | .int _ j=>n - j.toNat|_=>0,⟨i0,i0+1,xs,rfl,by rw[Value.int.injEq];refine⟨rfl,?_⟩;push_cast;rfl,by omega,by omega,hn,e0.symm,rfl,hM⟩,?_⟩
  clear hM
  rintro x y u w3 ⟨i,j,ys,rfl,rfl,hij,hjn,hyl,htk,hdr,hM⟩
  (((refine Ab trivial ?_)))
  (((refine Av trivial ?_ ?_)))
  ·intro hlt
   have hj1:j<ys.length:=by omega
   have hj2:j<xs.length:=by omega
   have hyj:ys[j]=xs[j]:=by
    have:=congrArg (·[0]?) hdr
    simpa [hj1,hj2] using this
   have hd1:ys.drop (j+1)=xs.drop (j+1):=by
    have:=congrArg (List.drop 1) hdr
    simpa [List.drop_drop] using this
   (((refine Am ?_)))
   refine⟨fun x w'=>∃ (i:Nat) (ys:List Int),x=.int .i64 i∧i<j+1∧ys.length=n∧ys.take i=(xs.take (j+1)).filter (fun x=>!f x)∧ys.drop (j+1)=xs.drop (j+1)∧Mem H w0 (r::rowR 3 1 (some ⟨g,0,none⟩) n c (ints8 ys)::R) w',?_,?_⟩
   ·(((refine aAd hM ?_ ?_));(focus omega);((intro _ hA));(cases hA);((refine Zh hM (Bs ?_) ?_));(focus omega))
    refine hc ys[j] _ _ _ _ (hM.at_ r) (fun w hM=>?_)
    rw[hyj,List.take_succ_eq_append_getElem hj2,List.filter_append]
    cases hf:f xs[j]
    ·(((refine Ab trivial ?_;refine Am ?_;refine aAd hM ?_ ?_));(focus omega);((intro _ hA));(cases hA);((refine aNm hM ?_ ?_));(focus omega);((clear hM;intro _ hM;refine Ab ?_ ?_));(focus omega))
     refine⟨i+1,ys.set i xs[j],by rw[Value.int.injEq];refine⟨rfl,?_⟩;push_cast;rfl,by omega,by simpa using hyl,?_,?_,?_⟩
     ·rw[aWt _ _ _ (by omega),htk]
      simp[hf]
     ·rw[List.drop_set_of_lt (by omega),hd1]
     ·rw[aSw,Int.toNat_natCast]at hM
      exact hM.sub
    ·(((refine Ab trivial ?_;refine Al ?_)))
     exact⟨i,ys,rfl,by omega,hyl,by simp[hf,htk],hd1,hM.sub⟩
   ·clear hM
    rintro x u w4 ⟨i,ys,rfl,hij,hyl,htk,hdr,hM⟩
    (((refine Ab ?_ ?_));(focus omega))
    exact⟨⟨i,j+1,ys,rfl,by rw[Value.int.injEq];refine⟨rfl,?_⟩;push_cast;rfl,by omega,by omega,hyl,htk,hdr,hM⟩,by simp only;omega⟩
  ·intro hge
   have:j=n:=by omega
   subst this
   rw[← hn,List.take_length]at htk
   have hlen:i=(xs.filter fun x=>!f x).length:=by rw[← htk,List.length_take];omega
   (((refine Al ?_;refine Ab ?_ ?_));(focus omega))
   rw[Int.toNat_natCast]
   refine aKp hM (k:=i) (by omega) (fun w4 hM=>?_)
   (((refine Ab ?_ ?_));(focus omega))
   rw[aOl,htk,hlen]at hM
   rw[Int.toNat_natCast,hlen]
   exact⟨_,rfl,rfl,hM.same⟩
end
end Go.Proofs.YtgbenhmdamnmcaaGreat
