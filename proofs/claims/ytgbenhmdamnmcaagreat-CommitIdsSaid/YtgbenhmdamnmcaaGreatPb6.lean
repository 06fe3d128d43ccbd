/- Part 6 of the proof. -/
import Derived.Test.YtgbenhmdamnmcaaGreatPb5
import Derived.LaidEql
import Derived.OpenShut
import Derived.RangeFuncBox
import Derived.RangeFuncLeaves
import Derived.Shelf.Abstract
import Derived.WalkKit
import Derived.OwnWalkIn
import Derived.TacticsInMore
import Derived.LoopNIn
import Derived.LoopIn
import Derived.Maps.AppendAt
import Derived.Lib.AppendZerosOnto
import Derived.Lib.Overlaps
set_option linter.unusedVariables false
namespace Go.Proofs.YtgbenhmdamnmcaaGreat
open Tryz
open Go.RowKit
def Rl.fz (K:Hp):Rl:=⟨fun a b=>Fz K a→Fz K b,fun _ h=>h,fun h k x=>k (h x),fun h x=>x.ext h.ext⟩
def hadd (H:Hp) (g:Nat) (cs:List Value):Hp:=fun k=>if k=g then some cs.toArray else H k
section
variable {P:Program} {H H' K:Hp} {w0 w w':World} {L L' R R':List Res} {g i:Nat} {t t':TypeId} {fs gs fs':List Fd} {put:Res→List Res} {q:Bool} {n m cap e e' sz by_:Nat} {v:Value} {Kt:Value→World→Prop} {X:List PanicEntry→World→Prop} {Kq:Value→Prop} {A:Option Addr} {ps qs:List (List Fd)}
theorem Fz.hadd {cs:List Value} (h:Fz H w) (b:Blf w g t cs):Fz (hadd H g cs) w:=fun k c hk=>by
 unfold Go.Proofs.YtgbenhmdamnmcaaGreat.hadd at hk
 split at hk
 ·rename_i e
  subst e
  cases hk
  obtain⟨fr,hb,_⟩:=b
  exact⟨t,fr,hb⟩
 ·exact h k c hk
theorem aYi {cs:List Value} (h:H g=none):H.le (hadd H g cs):=fun k c hk=>by
 unfold hadd
 split
 ·rename_i e
  subst e
  rw[h]at hk
  cases hk
 ·exact hk
theorem Mem.free (h:Mem H w0 L w) [k:AtF L g t' fs R]:H g=none:=by
 obtain⟨B,⟨B1,B2,rfl,⟨_,rfl⟩,_⟩,_,hb⟩:=(h.perm k.perm).own
 exact(hb ⟨g,t',fl fs,true⟩ (by simp)).2
theorem Mem.fzAdd (h:Mem H w0 L w) (hK:Fz K w) (g:Nat) [k:AtF L g t' fs R]:Fz (hadd K g (fl fs)) w:=by
 obtain⟨B,⟨B1,B2,rfl,⟨_,rfl⟩,_⟩,hs,_⟩:=(h.perm k.perm).own
 exact hK.hadd (t:=t') (hs.own ⟨g,t',fl fs,true⟩ (by simp)).blf
theorem FbF.add {fs:List Fd} (h:FOk fs):FbF (hadd K g (fl fs)) g fs:=⟨h,(fl fs).toArray,by simp[hadd],fun j u hu=>by simpa using hu⟩
theorem Fz.mono {w:World} (h:Fz H' w) (k:H.le H'):Fz H w:=fun b c hb=>h b c (k b c hb)
def K2 (H:Hp) (g:Nat) (fs:List Fd) (g2:Nat) (fs2:List Fd):Hp:=hadd (hadd H g (fl fs)) g2 (fl fs2)
theorem Nh (hF:Fz K w) (h:FbF K g fs) [c:ShpC P t q n] [s:Sub fs i n gs] [f:Fv q gs v] (hk:Kq v):dqS P (Rl.fz K) w (Ad t (.pointer (some ⟨g,i,none⟩))) Kq:=
 ⟨v,fun w' hw=>by
  have:=h.load (P:=P) (t:=t) (q:=q) (hw hF) c s f
  unfold opq
  rw[this]
  exact⟨rfl,Drawn.refl w'⟩,hk⟩
theorem aHw {b o k off:Nat} (hF:Fz K w) (a:Sl K sz (some ⟨b,o,none⟩) ps) [c:ShpC P t q n] (hp:ps[k]?=some fs) [s:Sub fs off n gs] [f:Fv q gs v] (hk:Kq v):dqS P (Rl.fz K) w (Ad t (.pointer (some ⟨b,o+k*sz+off,none⟩))) Kq:=
 ⟨v,fun w' hw=>by
  have:=Sq (P:=P) (w:=w') a.els hp c s f (fun _ _ hu=>a.cell (hw hF) hu)
  unfold opq
  rw[this]
  exact⟨rfl,Drawn.refl w'⟩,hk⟩
theorem Mem.refd {fs':List Fd} (h:Mem H w0 (fb g t fs::L) w) (he:fl fs=fl fs') (hf:FOk fs'):Mem H w0 (fb g t fs'::L) w:=by
 have:Mem H w0 ([fb g t fs']++L) w:=h.imp fun B ⟨_,hb⟩=>⟨B,[],by simp,⟨hf,by rw[hb,he]⟩,rfl⟩
 exact this
end
end Go.Proofs.YtgbenhmdamnmcaaGreat
namespace Go.Proofs.YtgbenhmdamnmcaaGreat
open Tryz
open Go.RowKit
class PurC (P:Program) (f:Nat) (args:List Value) (c:outParam Prop) (v:outParam Value):Prop where
 ok:c→∀ (w:World),Calls P f args.toArray w fun en w'=>en=.returned v∧St w [] w'
section
variable {P:Program} {H K:Hp} {w0 w:World} {L:List Res} {f:Nat} {args:List Value} {c:Prop} {v:Value} {Kt:Value→World→Prop} {X:List PanicEntry→World→Prop}
theorem Bg (h:Mem H w0 L w) [hf:FunC P f] [p:PurC P f args c v] (hc:c) (hk:∀ w',Mem H w0 L w'→Kt v w'):mop P (Ah (fv f) args) w Kt X:=Bn h (p.ok hc w) hk
theorem Bd {ext:Bool} (h:Mem H w0 L w) [hf:FunC P f] [p:PurC P f args c v] (hc:c) (hk:∀ w',Ext w w'→Mem H w0 L w'→Kt v w'):df P w (Ah (fv f) args) ext Kt:=Bv h (fun w _=>p.ok hc w) hk
end
end Go.Proofs.YtgbenhmdamnmcaaGreat
namespace Go.Proofs.YtgbenhmdamnmcaaGreat
open Tryz
open Go.RowKit
def numB (n:Int):List Int:=
 if n<64 then [n]
 else if n<16384 then [64+n / 256,n%256]
 else if n<1073741824 then [128+n / 16777216,n / 65536%256,n / 256%256,n%256]
 else [192+n / 72057594037927936,n / 281474976710656%256,n / 1099511627776%256,n / 4294967296%256,n / 16777216%256,n / 65536%256,n / 256%256,n%256]
theorem Rz (n:Int) (h:0≤n∧n≤4611686018427387903):∀ x∈numB n,0≤x∧x<256:=by
 unfold numB
 split
 ·intro x hx;simp at hx;omega
 ·split
  ·intro x hx;simp at hx;rcases hx with rfl|rfl <;> omega
  ·split
   ·intro x hx;simp at hx;rcases hx with rfl|rfl|rfl|rfl <;> omega
   ·intro x hx;simp at hx;rcases hx with rfl|rfl|rfl|rfl|rfl|rfl|rfl|rfl <;> omega
theorem Az (n:Int):(numB n).length≤8∧1≤(numB n).length:=by
 unfold numB
 repeat' split
 all_goals simp
def wrR (g:Nat) (out:List Int) (bad:Bool):Res:=exR (fun(p:Option Addr × Nat)=>[fb g 177 [.one (.slice p.1 out.length p.2),.one (.bool bad)],rowR 5 1 p.1 out.length p.2 (byts out)])
section
variable {H:Hp} {w0 w:World} {L R:List Res} {g:Nat} {out:List Int} {bad:Bool}
theorem Mem.wr (h:Mem H w0 (wrR g out bad::L) w):∃ A c,Mem H w0 (fb g 177 [.one (.slice A out.length c),.one (.bool bad)]::rowR 5 1 A out.length c (byts out)::L) w:=by
 obtain⟨p,h⟩:=h.unex
 exact⟨p.1,p.2,h⟩
theorem Mem.unwr {A:Option Addr} {n c:Nat} (h:Mem H w0 (fb g 177 [.one (.slice A n c),.one (.bool bad)]::rowR 5 1 A n c (byts out)::L) w) (hn:n=out.length):Mem H w0 (wrR g out bad::L) w:=by
 subst hn
 exact Mem.toex (R:=fun(p:Option Addr × Nat)=>[fb g 177 [.one (.slice p.1 out.length p.2),.one (.bool bad)],rowR 5 1 p.1 out.length p.2 (byts out)]) (A,c) h
theorem Ig (hM:Mem H w0 L w):Calls prog 36 #[] w fun en w'=>∃ v,en=.returned v∧∃ g,v=.pointer (some ⟨g,0,none⟩)∧Mem H w0 (wrR g [] false::L) w':=by
 refine aMl ?_
 unfold aAr
 (((refine Ab trivial ?_;refine Bb hM ?_;clear hM;intro _ _ hM)))
 rename_i g _
 have hM:Mem H w0 (fb g 177 [.one (.slice none 0 0),.one (.bool false)]::rowR 5 1 none 0 0 (byts [])::L) _:=(hM.row0 5 1).perm (.swap ..)
 exact⟨_,rfl,g,rfl,Mem.unwr hM rfl⟩
theorem Cx (h:H32) (hb:out.length<1000000000) (hM:Mem H w0 (wrR g out bad::L) w):Calls prog 84 #[.pointer (some ⟨g,0,none⟩),ha h] w fun en w'=>∃ v,en=.returned v∧v=.tuple #[]∧Mem H w0 (wrR g (out++h.1) bad::L) w':=by
 refine Rp ?_
 unfold Jr
 obtain⟨A,c,hM⟩:=hM.wr
 (((refine Bb hM ?_;clear hM;intro _ _ hM;refine Ab trivial ?_;refine Am ?_;refine An trivial ?_;refine An trivial ?_;refine Aw hM ?_;refine An trivial ?_;refine aJa hM ?_;clear hM;intro _ hM)))
 refine aPj hM (by omega) (fun A' c' w4 hM=>?_)
 (((refine An trivial ?_;refine An trivial ?_;refine Cb hM ?_;clear hM;intro _ hM;refine Ba hM ?_;clear hM;intro _ hM)))
 exact⟨_,rfl,rfl,Mem.unwr ((hM.upB g).sub:Mem H w0 (fb g 177 [.one (.slice A' (out.length+32) c'),.one (.bool bad)]::rowR 5 1 A' (out.length+32) c' (byts (out++h.1))::L) _) (by simp[h.2.1])⟩
theorem aRs (w:World):Calls prog 116 #[] w fun en w'=>en=.returned (.agg #[.int .i64 64,.int .i64 16384,.int .i64 1073741824,.int .i64 4611686018427387903])∧St w [] w':=by
 have hM:=Mem.start (Fz.of w)
 refine aDt ?_
 unfold Qn
 (((refine Bj hM ?_;clear hM;intro _ _ hM;refine Ab trivial ?_;refine Bi hM ?_;clear hM;intro _ hM;refine Cd hM ?_)))
 exact⟨rfl,hM.st⟩
instance:PurC prog 116 [] True (.agg #[.int .i64 64,.int .i64 16384,.int .i64 1073741824,.int .i64 4611686018427387903]):=⟨fun _ w=>aRs w⟩
def kindN (n:Int):Int:=if n<64 then 0 else if n<16384 then 1 else if n<1073741824 then 2 else 3
theorem Sa (n:Int):(n<64∧kindN n=0∧numB n=[n])∨(64≤n∧n<16384∧kindN n=1∧numB n=[64+n / 256,n%256]) ∨
  (16384≤n∧n<1073741824∧kindN n=2∧numB n=[128+n / 16777216,n / 65536%256,n / 256%256,n%256]) ∨
  (1073741824≤n∧kindN n=3∧numB n=[192+n / 72057594037927936,n / 281474976710656%256,n / 1099511627776%256,n / 4294967296%256,n / 16777216%256,n / 65536%256,n / 256%256,n%256]):=by
 unfold kindN numB
 by_cases h1:n<64
 ·exact .inl ⟨h1,if_pos h1,if_pos h1⟩
 ·by_cases h2:n<16384
  ·exact .inr (.inl ⟨by omega,h2,by rw[if_neg h1,if_pos h2],by rw[if_neg h1,if_pos h2]⟩)
  ·by_cases h3:n<1073741824
   ·exact .inr (.inr (.inl ⟨by omega,h3,by rw[if_neg h1,if_neg h2,if_pos h3],by rw[if_neg h1,if_neg h2,if_pos h3]⟩))
   ·exact .inr (.inr (.inr ⟨by omega,by rw[if_neg h1,if_neg h2,if_neg h3],by rw[if_neg h1,if_neg h2,if_neg h3]⟩))
theorem Ua (n:Int):((numB n).length:Int)=1*2 ^ (kindN n).toNat:=by
 rcases Sa n with ⟨_,h2,h3⟩|⟨_,_,h2,h3⟩|⟨_,_,h2,h3⟩|⟨_,h2,h3⟩ <;> (rw[h2,h3];rfl)
theorem or64 (a k:Int) (ha:0≤a∧a<64) (hk:0≤k∧k≤3):bits .or .u8 a (k*64)=a+k*64:=by
 have key:∀ x:Fin 64,∀ y:Fin 4,bits .or .u8 (x.val:Int) ((y.val:Int)*64)=(x.val:Int)+(y.val:Int)*64:=by decide +kernel
 have:=key ⟨a.toNat,by omega⟩ ⟨k.toNat,by omega⟩
 simp only[Int.toNat_of_nonneg ha.1,Int.toNat_of_nonneg hk.1]at this
 exact this
theorem Px (n:Int) (h:0≤n∧n≤4611686018427387903):0≤(numB n).getD 0 0 - kindN n*64∧(numB n).getD 0 0 - kindN n*64<64∧0≤kindN n∧kindN n≤3:=by
 rcases Sa n with ⟨_,h2,h3⟩|⟨_,_,h2,h3⟩|⟨_,_,h2,h3⟩|⟨_,h2,h3⟩ <;> (rw[h2,h3];simp;omega)
theorem byteAt (n:Int) (h:0≤n∧n≤4611686018427387903) (i:Nat) (hi:i<(numB n).length):
  n / 2 ^ (8*(((numB n).length:Int) - 1 - i)).toNat%256=if i=0 then (numB n).getD 0 0 - kindN n*64 else (numB n).getD i 0:=by
 rcases Sa n with ⟨h1,h2,h3⟩|⟨h1,h0,h2,h3⟩|⟨h1,h0,h2,h3⟩|⟨h1,h2,h3⟩ <;> rw[h3]at hi ⊢ <;> rw[h2]
 ·obtain rfl:i=0:=by simp at hi;omega
  simp
  omega
 ·obtain rfl|rfl:i=0∨i=1:=by simp at hi;omega
  all_goals simp
  all_goals omega
 ·obtain rfl|rfl|rfl|rfl:i=0∨i=1∨i=2∨i=3:=by simp at hi;omega
  all_goals simp
  all_goals omega
 ·obtain rfl|rfl|rfl|rfl|rfl|rfl|rfl|rfl:i=0∨i=1∨i=2∨i=3∨i=4∨i=5∨i=6∨i=7:=by simp at hi;omega
  all_goals simp
  all_goals omega
theorem Py {out:List Int} (l:List Int) (i:Nat) (h:i<l.length):byts (out++l.take i)++[[.one (.int .u8 (l.getD i 0))]]=byts (out++l.take (i+1)):=by
 have e:out++l.take (i+1)=(out++l.take i)++[l.getD i 0]:=by
  rw[List.take_succ_eq_append_getElem h,← List.append_assoc,List.getD_eq_getElem?_getD,List.getElem?_eq_getElem h]
  rfl
 rw[e,Oi (out++l.take i)]
 rfl
theorem Cu (n:Int) (h:0≤n∧n≤4611686018427387903) (hb:out.length<1000000000) (hM:Mem H w0 (wrR g out bad::L) w):Calls prog 85 #[.pointer (some ⟨g,0,none⟩),.int .i64 n] w fun en w'=>∃ v,en=.returned v∧v=.tuple #[]∧Mem H w0 (wrR g (out++numB n) bad::L) w':=by
 refine Tf ?_
 unfold Km
 (((refine Ab trivial ?_;refine Al ?_)))
 refine⟨fun x w'=>x=.bool false∧hM.now w',?_,?_⟩
 ·(((refine Br trivial ?_ ?_));(focus (first|assumption|omega|with_reducible rfl|exact fun h=>Bool.noConfusion h));((refine Ae ?_;refine Ab trivial ?_;refine Ae ?_;refine Br trivial ?_ ?_));(focus (first|assumption|omega|with_reducible rfl|exact fun h=>Bool.noConfusion h));((refine Ab trivial ?_)))
  exact⟨rfl,hM⟩
 rintro x u w1 ⟨rfl,hM⟩
 (((refine Al ?_)))
 refine⟨fun x w'=>∃ k:Nat,x=.int .i64 k∧k≤3∧(1≤k→64≤n)∧(2≤k→16384≤n)∧(3≤k→1073741824≤n)∧hM.now w',fun x _=>match x with | .int _ i=>3 - i.toNat|_=>0,⟨0,rfl,by omega,by omega,by omega,by omega,hM⟩,?_⟩
 rintro x u w2 ⟨k,rfl,hk,h1,h2,h3,hM⟩
 have hlen:=Az n
 refine⟨fun w'=>k<3∧(k=0→64≤n)∧(k=1→16384≤n)∧(k=2→1073741824≤n)∧hM.now w',?_,?_⟩
 ·obtain rfl|rfl|rfl|rfl:k=0∨k=1∨k=2∨k=3:=by omega
  ·have e0:(((0:Nat):Int))=0:=rfl
   simp only[e0]
   (((refine Cc trivial ?_ ?_));(focus (first|assumption|omega|with_reducible rfl|exact fun h=>Bool.noConfusion h));((refine Ae ?_;refine Ab trivial ?_;refine Ae ?_;refine Bg hM ?_ (fun _ hM2=>?_)));(focus (first|exact trivial|assumption|omega));((replace hM:=hM2;clear hM2;refine Ae ?_;refine Ab trivial ?_;refine Ae ?_)))
   refine Bw (v:=.int .i64 64) (fun w=>by kernel_rfl) ?_
   (((refine Ae ?_)))
   (((refine Av trivial ?_ ?_)))
   ·intro hn
    (((refine Ab trivial ?_;refine Am ?_)))
    exact⟨by omega,by omega,by omega,by omega,hM⟩
   ·intro hn
    (((refine Ab trivial ?_;refine Al ?_)))
    have hkn:(0:Int)=kindN n:=by
     unfold kindN
     simp at h1 h2 h3
     repeat' split
     all_goals omega
    refine Bw (Oc _ _ _ _ _ _ (by omega) (by simp[IntKind.bits])) ?_
    have hL:IntKind.i64.wrap (1*2 ^ (0:Int).toNat)=((numB n).length:Int):=by
     rw[Ua,← hkn]
     rfl
    rw[hL]
    refine⟨fun x w'=>∃ i:Nat,x=.int .i64 i∧i≤(numB n).length∧Mem H w0 (wrR g (out++(numB n).take i) bad::L) w',fun x _=>match x with | .int _ i=>(numB n).length - i.toNat|_=>0,⟨0,rfl,by omega,by simpa using hM⟩,?_⟩
    clear hM
    rintro x u w4 ⟨i,rfl,hi,hM⟩
    skip
    (((refine Av trivial ?_ ?_)))
    ·intro hlt
     have hlt':i<(numB n).length:=by omega
     have hby:=byteAt n h i hlt'
     have hhd:=Px n h
     (((refine Am ?_;refine Ab ?_ ?_));(focus omega);((refine Ab ?_ ?_));(focus omega);((refine Ab ?_ ?_));(focus omega);((refine Ab ?_ ?_));(focus omega);((refine Ab trivial ?_)))
     rw[hby]
     refine⟨fun x w'=>x=.int .u8 ((numB n).getD i 0)∧hM.now w',?_,?_⟩
     ·skip
      (((refine Av trivial ?_ ?_)))
      ·intro h0
       obtain rfl:i=0:=by omega
       (((refine Am ?_)))
       refine Bw (Oc _ _ _ _ _ _ (by omega) (by simp[IntKind.bits])) ?_
       have h6:IntKind.i64.wrap ((0:Int)*2 ^ (6:Int).toNat)=kindN n*64:=by
        rw[← hkn]
        rfl
       rw[h6]
       (((refine Ab trivial ?_;refine Ab trivial ?_)))
       refine⟨?_,hM⟩
       rw[if_pos rfl,Int.emod_eq_of_lt (by omega) (by omega),or64 _ _ (by omega) (by omega)]
       congr 1
       omega
      ·intro h0
       (((refine Al ?_)))
       exact⟨by rw[if_neg (by omega)],hM⟩
     ·rintro x u w5 ⟨rfl,hM⟩
      obtain⟨A,c,hM⟩:=hM.wr
      have hol:(out++(numB n).take i).length≤out.length+8:=by rw[List.length_append,List.length_take];omega
      (((refine Ab trivial ?_;refine Ab trivial ?_;refine Ao hM ?_;refine Bu hM ?_ ?_ ?_));(focus rfl);(focus (constructor <;> simp));((clear hM;intro _ _ hM;refine Cz hM ?_ ?_));(focus omega);((clear hM;intro _ _ _ hM;refine Ab trivial ?_;refine Ab trivial ?_;refine Bi hM ?_;clear hM;intro _ hM;refine Ab ?_ ?_));(focus omega))
      rw[Py _ _ hlt']at hM
      have hl2:(out++(numB n).take i).length+1=(out++(numB n).take (i+1)).length:=by
       rw[List.length_append,List.length_append,List.length_take,List.length_take];omega
      have hM2:=Mem.unwr (hM.upB g) hl2
      refine⟨⟨i+1,by rw[Int.natCast_add];rfl,by omega,hM2⟩,?_⟩
      show(numB n).length - ((i:Int)+1).toNat<(numB n).length - (i:Int).toNat
      omega
    ·intro hge
     (((refine Al ?_)))
     rw[List.take_of_length_le (by omega)]at hM
     exact⟨_,rfl,rfl,hM⟩
  ·have e0:(((1:Nat):Int))=1:=rfl
   simp only[e0]
   (((refine Cc trivial ?_ ?_));(focus (first|assumption|omega|with_reducible rfl|exact fun h=>Bool.noConfusion h));((refine Ae ?_;refine Ab trivial ?_;refine Ae ?_;refine Bg hM ?_ (fun _ hM2=>?_)));(focus (first|exact trivial|assumption|omega));((replace hM:=hM2;clear hM2;refine Ae ?_;refine Ab trivial ?_;refine Ae ?_)))
   refine Bw (v:=.int .i64 16384) (fun w=>by kernel_rfl) ?_
   (((refine Ae ?_)))
   (((refine Av trivial ?_ ?_)))
   ·intro hn
    (((refine Ab trivial ?_;refine Am ?_)))
    exact⟨by omega,by omega,by omega,by omega,hM⟩
   ·intro hn
    (((refine Ab trivial ?_;refine Al ?_)))
    have hkn:(1:Int)=kindN n:=by
     unfold kindN
     simp at h1 h2 h3
     repeat' split
     all_goals omega
    refine Bw (Oc _ _ _ _ _ _ (by omega) (by simp[IntKind.bits])) ?_
    have hL:IntKind.i64.wrap (1*2 ^ (1:Int).toNat)=((numB n).length:Int):=by
     rw[Ua,← hkn]
     rfl
    rw[hL]
    refine⟨fun x w'=>∃ i:Nat,x=.int .i64 i∧i≤(numB n).length∧Mem H w0 (wrR g (out++(numB n).take i) bad::L) w',fun x _=>match x with | .int _ i=>(numB n).length - i.toNat|_=>0,⟨0,rfl,by omega,by simpa using hM⟩,?_⟩
    clear hM
    rintro x u w4 ⟨i,rfl,hi,hM⟩
    skip
    (((refine Av trivial ?_ ?_)))
    ·intro hlt
     have hlt':i<(numB n).length:=by omega
     have hby:=byteAt n h i hlt'
     have hhd:=Px n h
     (((refine Am ?_;refine Ab ?_ ?_));(focus omega);((refine Ab ?_ ?_));(focus omega);((refine Ab ?_ ?_));(focus omega);((refine Ab ?_ ?_));(focus omega);((refine Ab trivial ?_)))
     rw[hby]
     refine⟨fun x w'=>x=.int .u8 ((numB n).getD i 0)∧hM.now w',?_,?_⟩
     ·skip
      (((refine Av trivial ?_ ?_)))
      ·intro h0
       obtain rfl:i=0:=by omega
       (((refine Am ?_)))
       refine Bw (Oc _ _ _ _ _ _ (by omega) (by simp[IntKind.bits])) ?_
       have h6:IntKind.i64.wrap ((1:Int)*2 ^ (6:Int).toNat)=kindN n*64:=by
        rw[← hkn]
        rfl
       rw[h6]
       (((refine Ab trivial ?_;refine Ab trivial ?_)))
       refine⟨?_,hM⟩
       rw[if_pos rfl,Int.emod_eq_of_lt (by omega) (by omega),or64 _ _ (by omega) (by omega)]
       congr 1
       omega
      ·intro h0
       (((refine Al ?_)))
       exact⟨by rw[if_neg (by omega)],hM⟩
     ·rintro x u w5 ⟨rfl,hM⟩
      obtain⟨A,c,hM⟩:=hM.wr
      have hol:(out++(numB n).take i).length≤out.length+8:=by rw[List.length_append,List.length_take];omega
      (((refine Ab trivial ?_;refine Ab trivial ?_;refine Ao hM ?_;refine Bu hM ?_ ?_ ?_));(focus rfl);(focus (constructor <;> simp));((clear hM;intro _ _ hM;refine Cz hM ?_ ?_));(focus omega);((clear hM;intro _ _ _ hM;refine Ab trivial ?_;refine Ab trivial ?_;refine Bi hM ?_;clear hM;intro _ hM;refine Ab ?_ ?_));(focus omega))
      rw[Py _ _ hlt']at hM
      have hl2:(out++(numB n).take i).length+1=(out++(numB n).take (i+1)).length:=by
       rw[List.length_append,List.length_append,List.length_take,List.length_take];omega
      have hM2:=Mem.unwr (hM.upB g) hl2
      refine⟨⟨i+1,by rw[Int.natCast_add];rfl,by omega,hM2⟩,?_⟩
      show(numB n).length - ((i:Int)+1).toNat<(numB n).length - (i:Int).toNat
      omega
    ·intro hge
     (((refine Al ?_)))
     rw[List.take_of_length_le (by omega)]at hM
     exact⟨_,rfl,rfl,hM⟩
  ·have e0:(((2:Nat):Int))=2:=rfl
   simp only[e0]
   (((refine Cc trivial ?_ ?_));(focus (first|assumption|omega|with_reducible rfl|exact fun h=>Bool.noConfusion h));((refine Ae ?_;refine Ab trivial ?_;refine Ae ?_;refine Bg hM ?_ (fun _ hM2=>?_)));(focus (first|exact trivial|assumption|omega));((replace hM:=hM2;clear hM2;refine Ae ?_;refine Ab trivial ?_;refine Ae ?_)))
   refine Bw (v:=.int .i64 1073741824) (fun w=>by kernel_rfl) ?_
   (((refine Ae ?_)))
   (((refine Av trivial ?_ ?_)))
   ·intro hn
    (((refine Ab trivial ?_;refine Am ?_)))
    exact⟨by omega,by omega,by omega,by omega,hM⟩
   ·intro hn
    (((refine Ab trivial ?_;refine Al ?_)))
    have hkn:(2:Int)=kindN n:=by
     unfold kindN
     simp at h1 h2 h3
     repeat' split
     all_goals omega
    refine Bw (Oc _ _ _ _ _ _ (by omega) (by simp[IntKind.bits])) ?_
    have hL:IntKind.i64.wrap (1*2 ^ (2:Int).toNat)=((numB n).length:Int):=by
     rw[Ua,← hkn]
     rfl
    rw[hL]
    refine⟨fun x w'=>∃ i:Nat,x=.int .i64 i∧i≤(numB n).length∧Mem H w0 (wrR g (out++(numB n).take i) bad::L) w',fun x _=>match x with | .int _ i=>(numB n).length - i.toNat|_=>0,⟨0,rfl,by omega,by simpa using hM⟩,?_⟩
    clear hM
    rintro x u w4 ⟨i,rfl,hi,hM⟩
    skip
    (((refine Av trivial ?_ ?_)))
    ·intro hlt
     have hlt':i<(numB n).length:=by omega
     have hby:=byteAt n h i hlt'
     have hhd:=Px n h
     (((refine Am ?_;refine Ab ?_ ?_));(focus omega);((refine Ab ?_ ?_));(focus omega);((refine Ab ?_ ?_));(focus omega);((refine Ab ?_ ?_));(focus omega);((refine Ab trivial ?_)))
     rw[hby]
     refine⟨fun x w'=>x=.int .u8 ((numB n).getD i 0)∧hM.now w',?_,?_⟩
     ·skip
      (((refine Av trivial ?_ ?_)))
      ·intro h0
       obtain rfl:i=0:=by omega
       (((refine Am ?_)))
       refine Bw (Oc _ _ _ _ _ _ (by omega) (by simp[IntKind.bits])) ?_
       have h6:IntKind.i64.wrap ((2:Int)*2 ^ (6:Int).toNat)=kindN n*64:=by
        rw[← hkn]
        rfl
       rw[h6]
       (((refine Ab trivial ?_;refine Ab trivial ?_)))
       refine⟨?_,hM⟩
       rw[if_pos rfl,Int.emod_eq_of_lt (by omega) (by omega),or64 _ _ (by omega) (by omega)]
       congr 1
       omega
      ·intro h0
       (((refine Al ?_)))
       exact⟨by rw[if_neg (by omega)],hM⟩
     ·rintro x u w5 ⟨rfl,hM⟩
      obtain⟨A,c,hM⟩:=hM.wr
      have hol:(out++(numB n).take i).length≤out.length+8:=by rw[List.length_append,List.length_take];omega
      (((refine Ab trivial ?_;refine Ab trivial ?_;refine Ao hM ?_;refine Bu hM ?_ ?_ ?_));(focus rfl);(focus (constructor <;> simp));((clear hM;intro _ _ hM;refine Cz hM ?_ ?_));(focus omega);((clear hM;intro _ _ _ hM;refine Ab trivial ?_;refine Ab trivial ?_;refine Bi hM ?_;clear hM;intro _ hM;refine Ab ?_ ?_));(focus omega))
      rw[Py _ _ hlt']at hM
      have hl2:(out++(numB n).take i).length+1=(out++(numB n).take (i+1)).length:=by
       rw[List.length_append,List.length_append,List.length_take,List.length_take];omega
      have hM2:=Mem.unwr (hM.upB g) hl2
      refine⟨⟨i+1,by rw[Int.natCast_add];rfl,by omega,hM2⟩,?_⟩
      show(numB n).length - ((i:Int)+1).toNat<(numB n).length - (i:Int).toNat
      omega
    ·intro hge
     (((refine Al ?_)))
     rw[List.take_of_length_le (by omega)]at hM
     exact⟨_,rfl,rfl,hM⟩
  ·have e0:(((3:Nat):Int))=3:=rfl
   simp only[e0]
   (((refine Br trivial ?_ ?_));(focus (first|assumption|omega|with_reducible rfl|exact fun h=>Bool.noConfusion h));(((iterate 5 refine Bq ?_);refine Ab trivial ?_;refine Al ?_)))
   ·have hkn:(3:Int)=kindN n:=by
     unfold kindN
     simp at h1 h2 h3
     repeat' split
     all_goals omega
    refine Bw (Oc _ _ _ _ _ _ (by omega) (by simp[IntKind.bits])) ?_
    have hL:IntKind.i64.wrap (1*2 ^ (3:Int).toNat)=((numB n).length:Int):=by
     rw[Ua,← hkn]
     rfl
    rw[hL]
    refine⟨fun x w'=>∃ i:Nat,x=.int .i64 i∧i≤(numB n).length∧Mem H w0 (wrR g (out++(numB n).take i) bad::L) w',fun x _=>match x with | .int _ i=>(numB n).length - i.toNat|_=>0,⟨0,rfl,by omega,by simpa using hM⟩,?_⟩
    clear hM
    rintro x u w4 ⟨i,rfl,hi,hM⟩
    skip
    (((refine Av trivial ?_ ?_)))
    ·intro hlt
     have hlt':i<(numB n).length:=by omega
     have hby:=byteAt n h i hlt'
     have hhd:=Px n h
     (((refine Am ?_;refine Ab ?_ ?_));(focus omega);((refine Ab ?_ ?_));(focus omega);((refine Ab ?_ ?_));(focus omega);((refine Ab ?_ ?_));(focus omega);((refine Ab trivial ?_)))
     rw[hby]
     refine⟨fun x w'=>x=.int .u8 ((numB n).getD i 0)∧hM.now w',?_,?_⟩
     ·skip
      (((refine Av trivial ?_ ?_)))
      ·intro h0
       obtain rfl:i=0:=by omega
       (((refine Am ?_)))
       refine Bw (Oc _ _ _ _ _ _ (by omega) (by simp[IntKind.bits])) ?_
       have h6:IntKind.i64.wrap ((3:Int)*2 ^ (6:Int).toNat)=kindN n*64:=by
        rw[← hkn]
        rfl
       rw[h6]
       (((refine Ab trivial ?_;refine Ab trivial ?_)))
       refine⟨?_,hM⟩
       rw[if_pos rfl,Int.emod_eq_of_lt (by omega) (by omega),or64 _ _ (by omega) (by omega)]
       congr 1
       omega
      ·intro h0
       (((refine Al ?_)))
       exact⟨by rw[if_neg (by omega)],hM⟩
     ·rintro x u w5 ⟨rfl,hM⟩
      obtain⟨A,c,hM⟩:=hM.wr
      have hol:(out++(numB n).take i).length≤out.length+8:=by rw[List.length_append,List.length_take];omega
      (((refine Ab trivial ?_;refine Ab trivial ?_;refine Ao hM ?_;refine Bu hM ?_ ?_ ?_));(focus rfl);(focus (constructor <;> simp));((clear hM;intro _ _ hM;refine Cz hM ?_ ?_));(focus omega);((clear hM;intro _ _ _ hM;refine Ab trivial ?_;refine Ab trivial ?_;refine Bi hM ?_;clear hM;intro _ hM;refine Ab ?_ ?_));(focus omega))
      rw[Py _ _ hlt']at hM
      have hl2:(out++(numB n).take i).length+1=(out++(numB n).take (i+1)).length:=by
       rw[List.length_append,List.length_append,List.length_take,List.length_take];omega
      have hM2:=Mem.unwr (hM.upB g) hl2
      refine⟨⟨i+1,by rw[Int.natCast_add];rfl,by omega,hM2⟩,?_⟩
      show(numB n).length - ((i:Int)+1).toNat<(numB n).length - (i:Int).toNat
      omega
    ·intro hge
     (((refine Al ?_)))
     rw[List.take_of_length_le (by omega)]at hM
     exact⟨_,rfl,rfl,hM⟩
 ·rintro u w3 ⟨hk3,g1,g2,g3,hM⟩
  (((refine Ab ?_ ?_));(focus omega))
  exact⟨⟨k+1,by simp,by omega,fun _=>by omega,fun _=>by omega,fun _=>by omega,hM⟩,by simp;omega⟩
theorem Ih (hM:Mem H w0 (wrR g out false::L) w):Calls prog 38 #[.pointer (some ⟨g,0,none⟩)] w fun en w'=>en=.returned (.tuple #[.string (strOfNums out),.int .i64 0])∧St w [] w':=by
 refine Ta ?_
 unfold Kl
 obtain⟨A,c,hM⟩:=hM.wr
 refine⟨fun x w'=>x=.bool false∧w=w',?_,?_⟩
 ·(((refine Ab trivial ?_;refine Ae ?_;refine Ab trivial ?_;refine Ae ?_;refine Ab trivial ?_;refine Ae ?_;refine Ab trivial ?_;refine Ae ?_;refine Ao hM ?_;refine Ab trivial ?_)))
  exact⟨rfl,rfl⟩
 rintro x u w2 ⟨rfl,rfl⟩
 (((refine Al ?_;refine Ab trivial ?_;refine Ab trivial ?_;refine Ao hM ?_)))
 refine Rh hM (Nat.le_refl _) ?_
 rw[List.take_length]
 exact⟨rfl,St.nil w⟩
end
end Go.Proofs.YtgbenhmdamnmcaaGreat
namespace Go.Proofs.YtgbenhmdamnmcaaGreat
open Tryz
open Go.RowKit
section
variable {P:Program} {H:Hp} {w0 w:World} {L:List Res} {g n:Nat} {t t':TypeId} {fs:List Fd} {put:Res→List Res} {v:Value} {K:Value→World→Prop} {X:List PanicEntry→World→Prop}
theorem SubA.set {o j:Nat} {ls:List Value} {putA:List Value→List Fd} (s:SubA fs o n ls putA) (hf:FOk fs) (hj:j<n) (hv:v.oneCell'=true):FOk (putA (ls.set j v))∧lay (fl fs) [v] (o+j)=fl (putA (ls.set j v))∧o+j+1≤(fl fs).length:=by
 obtain⟨a,b,rfl,rfl,h3⟩:=s.ok
 have hls:FdOk (.arr n ls):=hf.ok _ (by simp)
 have hl:ls.length=n:=hls.len
 have ha:=hf.left.left.len
 refine⟨?_,?_,?_⟩
 ·rw[h3]
  refine(hf.left.left.app ⟨fun f hm=>?_⟩).app hf.right
  rw[List.mem_singleton.1 hm]
  refine⟨by simpa [Fd.cells,Fd.size] using hl,fun u hu=>?_⟩
  rcases List.mem_or_eq_of_mem_set hu with hu|rfl
  ·exact hls.one u hu
  ·exact hv
 ·rw[h3]
  unfold lay
  have e1:fl (a++[.arr n ls]++b)=fl a++(ls++fl b):=by simp[Du,fl,Fd.cells]
  have e2:fl (a++[.arr n (ls.set j v)]++b)=fl a++(ls.set j v++fl b):=by simp[Du,fl,Fd.cells]
  rw[e1,e2,← ha,List.take_length_add_append,List.take_append_of_le_length (by omega),List.length_singleton,Nat.add_assoc,List.drop_length_add_append,List.drop_append_of_le_length (by omega)]
  rw[List.set_eq_take_append_cons_drop,if_pos (by omega)]
  simp
 ·simp[Du,fl,Fd.cells]
  omega
theorem aUi {o j:Nat} {ls:List Value} {putA:List Value→List Fd} (h:Mem H w0 L w) (cc:ShpC P t false 1) (k:AtB L g t' fs put) (s:SubA fs o n ls putA) (hv:One v) (hj:j<n):∃ w',(Ak t (.pointer (some ⟨g,o+j,none⟩)) v).run P w=.ok .skip w'∧Mem H w0 (put (fb g t' (putA (ls.set j v)))) w':=by
 obtain⟨hb,hf⟩:=h.blf k
 obtain⟨h1,h2,h3⟩:=s.set hf hj hv.ok
 have hl:(fl (putA (ls.set j v))).length=(fl fs).length:=by rw[← h2];exact Dm _ _ _ (by simpa using h3)
 have hst:=Bz (P:=P) (o+j) [v] 0 (fl fs) w hb (by simpa using h3) (fun u hu=>by rw[List.mem_singleton.1 hu];exact hv.ok)
 refine⟨_,?_,h.setRow k h1 hl⟩
 simp only[Nat.add_zero,h2]at hst
 have e:v.cells.toList=[v]:=by have:=hv.ok;cases v <;> simp_all [Value.cells,Value.oneCell']
 have e2:v.cells.size=1:=by rw[← Array.length_toList,e];rfl
 simp[Ak,su,Instr.storeAt,Instr.sureAddr,storeVar,Ce (Gv (w:=w) cc.ok).2,e,hst,e2]
theorem aUj {o j:Nat} {ls:List Value} {putA:List Value→List Fd} (h:Mem H w0 L w) [cc:ShpC P t false 1] [k:AtB L g t' fs put] [s:SubA fs o n ls putA] [hv:One v] (hj:j<n) (hk:∀ w',Mem H w0 (put (fb g t' (putA (ls.set j v)))) w'→K undef w'):mop P (Ak t (.pointer (some ⟨g,o+j,none⟩)) v) w K X:=by
 obtain⟨w',h1,h2⟩:=aUi h cc k s hv hj
 exact Il h1 (hk w' h2)
theorem bBm {o j:Nat} {ls:List Value} {putA:List Value→List Fd} (h:Mem H w0 L w) [cc:ShpC P t false 1] [k:AtB L g t' fs put] [s:SubA fs o n ls putA] (hv:ls[j]?=some v) (hk:K v w):mop P (Ad t (.pointer (some ⟨g,o+j,none⟩))) w K X:=aMi h hv hk
end
end Go.Proofs.YtgbenhmdamnmcaaGreat
namespace Go.Proofs.YtgbenhmdamnmcaaGreat
open Tryz
open Go.RowKit
theorem aCe {F G:Prop} (h:G):mif (.bool (!true)) F G:=Al h
theorem aCf {F G:Prop} (h:F):mif (.bool (!false)) F G:=Am h
section
variable {H:Hp} {w0 w:World} {L:List Res}
theorem aUk {P:Program} {t tt:TypeId} {q:Bool} {n i k:Nat} {v:Value} {fs gs fs':List Fd} {put:Res→List Res} {K:Value→World→Prop} (h:Mem H w0 L w) [c:ShpC P t q n] [a:AtB L k tt fs put] [f:Vf v n gs] [p:Put fs i gs fs'] (hk:∀ w',Mem H w0 (put (fb k tt fs')) w'→K undef w'):
  dfS P (Rl.only fun b=>b=k) w (Ak t (.pointer (some ⟨k,i,none⟩)) v) true K:=⟨fun w1 hd=>by
 have h:=h.drawn hd
 obtain⟨w',h1,h2⟩:=aPe h c a f p
 obtain⟨hb,hf⟩:=h.blf a
 obtain⟨e,hn,hg⟩:=f.ok
 obtain⟨_,k2,k3⟩:=p.cells hf hg
 have e2:v.cells.size=n:=by rw[← Array.length_toList,e,hg.len,hn]
 obtain⟨w2,h3,h4⟩:=Mw (P:=P) (i:=i) (v:=v) c.ok (St.oneF hb) e2 (by rw[e];exact hg.one) (by rw[hg.len,hn]at k3;exact k3)
 rw[h1]at h3
 cases h3
 exact Il h1 ⟨fun _=>(hd.onlyS _).trans1 (h4.only.mono fun j _ ⟨b,hm,_,hj⟩=>by
  rw[List.mem_singleton]at hm
  subst hm
  exact hj.symm),hk w' h2⟩⟩
theorem Mem.neB {a b ta tb:Nat} {fa fb':List Fd} {R R':List Res} (h:Mem H w0 (fb a ta fa::R) w) [k:AtF R b tb fb' R']:¬a=b:=by
 rintro rfl
 obtain⟨B,⟨B1,B2,rfl,⟨_,rfl⟩,B3,B4,rfl,⟨_,rfl⟩,_⟩,hs,_⟩:=(h.perm (k.perm.cons _)).own
 exact(List.pairwise_cons.1 hs.ne).1 ⟨a,tb,fl fb',true⟩ (by simp) rfl
end
end Go.Proofs.YtgbenhmdamnmcaaGreat
namespace Go.Proofs.YtgbenhmdamnmcaaGreat
open Tryz
open Go.RowKit
theorem aFi {want:Bool} {w:World} {run:(Value→World→Prop)→Prop} {K:Value→World→Prop} (h:K undef w):mguard undef want run w K:=Uq (by intro h;cases h) h
theorem bBn (A X B Y:List Value) (o:Nat) (h:o+Y.length≤X.length):lay (A++(X++B)) Y (A.length+o)=A++(lay X Y o++B):=by
 unfold lay
 rw[List.take_length_add_append,Nat.add_assoc,List.drop_length_add_append,List.take_append_of_le_length (by omega),List.drop_append_of_le_length (by omega)]
 simp
section
variable {P:Program} {H:Hp} {w0 w:World} {L:List Res} {n cap e sz by_:Nat} {t:TypeId} {A:Option Addr} {ps:List (List Fd)} {X:List PanicEntry→World→Prop}
theorem Mem.setFld {R1:List Res} {g k off:Nat} {fs gs fs':List Fd} (h:Mem H w0 (rowR e sz (some ⟨g,0,none⟩) n cap ps::R1) w) (hk:ps[k]?=some fs) (hp:Put fs off gs fs') (hg:FOk gs):∃ w',(storeCells ⟨g,0+k*sz+off,none⟩ (fl gs) 0).run P w=.ok () w'∧Mem H w0 (rowR e sz (some ⟨g,0,none⟩) n cap (ps.set k fs')::R1) w':=by
 obtain⟨B,⟨B1,B2,rfl,⟨h1,h2,h3⟩,h4⟩,hs',hb⟩:=h.own
 obtain⟨hk',rfl⟩:=List.getElem?_eq_some_iff.1 hk
 rcases h3 with ⟨hA,h3,_⟩|⟨g',sp,hA,rfl,h5,h6⟩
 ·cases hA
 ·cases hA
  have hs':St w0 (⟨g,e,fls ps++sp,true⟩::B2) w:=hs'
  have hfl:(fls ps).length=n*sz:=by rw[h1.len,h2]
  obtain⟨hxo,hxs⟩:=h1.ok ps[k] (List.getElem_mem _)
  obtain⟨hf',hly,hle0⟩:=hp.cells hxo hg
  have hxl:(fl ps[k]).length=sz:=by rw[hxo.len,hxs]
  have hle:k*sz+sz≤n*sz:=by rw[← Nat.succ_mul];exact Nat.mul_le_mul_right _ (by omega)
  have hst:=Bz (P:=P) (0+k*sz+off) (fl gs) 0 (fls ps++sp) w hs'.head (by rw[List.length_append,hfl];omega) hg.one
  have ht:(fls (ps.take k)).length=k*sz:=by rw[(h1.take k).len,List.length_take,Nat.min_eq_left (by omega)]
  have hlay:lay (fls ps++sp) (fl gs) (0+k*sz+off+0)=fls (ps.set k fs')++sp:=by
   have e1:ps=ps.take k++ps[k]::ps.drop (k+1):=by rw[List.getElem_cons_drop,List.take_append_drop]
   rw[List.set_eq_take_append_cons_drop,if_pos hk']
   conv=>lhs;rw[e1]
   rw[show 0+k*sz+off+0=(fls (ps.take k)).length+off by rw[ht];omega,Gj,Gj,Gy,Gy,← hly,List.append_assoc,List.append_assoc,bBn _ _ _ _ _ hle0]
   simp
  refine⟨_,hst,?_⟩
  rw[hlay]
  have hl2:(fls (ps.set k fs')++sp).length=(fls ps++sp).length:=by
   rw[← hlay]
   exact Dm _ _ _ (by rw[List.length_append,hfl];omega)
  have hsz':fsz fs'=sz:=by
   have hh:=congrArg List.length hly
   rw[Dm _ _ _ hle0,hxl,hf'.len]at hh
   omega
  have hels:Els sz (ps.set k fs'):=⟨fun q hq=>by
   rcases List.mem_or_eq_of_mem_set hq with hq|rfl
   ·exact h1.ok q hq
   ·exact⟨hf',hsz'⟩⟩
  have hgg:=hb ⟨g,e,fls ps++sp,true⟩ (by simp)
  refine⟨⟨⟨g,e,fls (ps.set k fs')++sp,true⟩::B2,⟨[⟨g,e,fls (ps.set k fs')++sp,true⟩],B2,rfl,⟨hels,by simpa using h2,.inr ⟨g,sp,rfl,rfl,by rw[hl2];exact h5,h6⟩⟩,h4⟩,hs'.setRow hl2,fun b hm=>?_⟩,h.fz.same fun b c hc=>setRow_other w g b _ ?_⟩
  ·rcases List.mem_cons.1 hm with rfl|hm
   ·exact⟨rfl,hgg.2⟩
   ·exact hb b (List.mem_append.2 (.inr hm))
  ·rintro rfl
   have:=hgg.2
   simp only[hc]at this
   cases this
theorem aPn {R1:List Res} {g k off m:Nat} {tt:TypeId} {q:Bool} {v:Value} {fs gs fs':List Fd} (h:Mem H w0 L w) (c:ShpC P tt q m) (a:AtA L (some ⟨g,0,none⟩) n cap e sz ps R1) (hk:ps[k]?=some fs) (f:Vf v m gs) (p:Put fs off gs fs'):
  ∃ w',(Ak tt (.pointer (some ⟨g,0+k*sz+off,none⟩)) v).run P w=.ok .skip w'∧Mem H w0 (rowR e sz (some ⟨g,0,none⟩) n cap (ps.set k fs')::R1) w':=by
 obtain⟨ev,hn,hp⟩:=f.ok
 obtain⟨w',hr,hm⟩:=(h.perm a.perm).setFld (P:=P) hk p hp
 refine⟨w',?_,hm⟩
 have e2:v.cells.size=m:=by rw[← Array.length_toList,ev,hp.len,hn]
 simp[Ak,su,Instr.storeAt,Instr.sureAddr,storeVar,Ce (Gv (w:=w) c.ok).2,ev,e2]
 simp only[Nat.zero_add]at hr
 simp[hr]
theorem bBo {R1:List Res} {g k off m:Nat} {tt:TypeId} {q:Bool} {v:Value} {fs gs fs':List Fd} {K:Value→World→Prop} (h:Mem H w0 L w) [c:ShpC P tt q m] [a:AtA L (some ⟨g,0,none⟩) n cap e sz ps R1] (hk:ps[k]?=some fs) [f:Vf v m gs] [p:Put fs off gs fs']
  (hK:∀ w',Mem H w0 (rowR e sz (some ⟨g,0,none⟩) n cap (ps.set k fs')::R1) w'→K undef w'):mop P (Ak tt (.pointer (some ⟨g,0+k*sz+off,none⟩)) v) w K X:=by
 obtain⟨w',hr,hm⟩:=aPn (P:=P) h c a hk f p
 exact Il hr (hK w' hm)
theorem aNn {R1:List Res} {g k off m:Nat} {tt:TypeId} {q:Bool} {v:Value} {fs gs fs':List Fd} {K:Value→World→Prop} (h:Mem H w0 L w) [c:ShpC P tt q m] [a:AtA L (some ⟨g,0,none⟩) n cap e sz ps R1] (hk:ps[k]?=some fs) [f:Vf v m gs] [p:Put fs off gs fs']
  (hK:∀ w',Mem H w0 (rowR e sz (some ⟨g,0,none⟩) n cap (ps.set k fs')::R1) w'→K undef w'):df P w (Ak tt (.pointer (some ⟨g,0+k*sz+off,none⟩)) v) false K:=Ej fun w1 hd=>Fy (bBo (X:=fun _ _=>False) (h.drawn hd) hk hK) (fun v w' h=>⟨(fun e=>by cases e),h⟩) (fun _ _ h=>h)
end
end Go.Proofs.YtgbenhmdamnmcaaGreat
namespace Go.Proofs.YtgbenhmdamnmcaaGreat
open Tryz
open Go.RowKit
theorem Dj {P:Program} {t:TypeId} {q:Bool} {K:Value→Prop} (a b:List Int) (h:a.length+b.length≤1000000000000) (hk:K (.string (strOfNums (a++b)))):dp P (Af .add t q (.string (strOfNums a)) (.string (strOfNums b))) K:=by
 refine An (by rw[strOfNums_size,strOfNums_size];omega) ?_
 rw[Mn]
 exact hk
theorem Ni {P:Program} {t:TypeId} {q:Bool} {w:World} {K:Value→World→Prop} {X:List PanicEntry→World→Prop} (a b:List Int) (h:a.length+b.length≤1000000000000) (hk:K (.string (strOfNums (a++b))) w):mop P (Af .add t q (.string (strOfNums a)) (.string (strOfNums b))) w K X:=by
 refine Ab (by rw[strOfNums_size,strOfNums_size];omega) ?_
 rw[Mn]
 exact hk
section
variable {H:Hp} {w0 w:World} {L R:List Res} {g:Nat}
theorem aUl (h:H32) (w:World):Calls prog 112 #[ha h] w fun en w'=>en=.returned (.string (strOfNums h.1))∧St w [] w':=by
 have hM:=Mem.start (Fz.of w)
 refine Wa ?_
 unfold Mb
 (((refine Bb hM ?_;clear hM;intro _ _ hM;refine Ab trivial ?_;refine Hq hM ?_)))
 exact⟨rfl,hM.st⟩
instance (h:H32):PurC prog 112 [.agg (u8s h.1).toArray] True (.string (strOfNums h.1)):=⟨fun _ w=>aUl h w⟩
theorem aYj (n:Int) (h:0≤n∧n≤4611686018427387903) (w:World):Calls prog 40 #[.int .i64 n] w fun en w'=>en=.returned (.string (strOfNums (numB n)))∧St w [] w':=by
 have hM:=Mem.start (Fz.of w)
 refine Yr ?_
 unfold Nq
 (((refine Av trivial ?_ ?_)))
 ·intro h1
  (((refine Am ?_;refine Ab trivial ?_;refine Bu hM ?_ ?_ ?_));(focus rfl);(focus (constructor <;> simp));((clear hM;intro _ _ hM)))
  refine Rh (l:=[n%256]) (R:=[]) (a:=⟨.refl _⟩) hM (by simp) ?_
  refine⟨?_,hM.st⟩
  unfold numB
  rw[if_pos h1,Int.emod_eq_of_lt h.1 (by omega)]
  rfl
 ·intro h1
  (((refine Al ?_)))
  (((refine Av trivial ?_ ?_)))
  ·intro h2
   (((refine Am ?_;refine Ab ?_ ?_));(focus omega);((refine Ab ?_ ?_));(focus omega);((refine Ab trivial ?_;refine Ab ?_ ?_));(focus omega);((refine Ab trivial ?_;refine Bu hM ?_ ?_ ?_));(focus rfl);(focus (constructor <;> simp));((clear hM;intro _ _ hM)))
   refine Rh (l:=[(64+n / 256)%256,n%256%256]) (R:=[]) (a:=⟨.refl _⟩) hM (by simp) ?_
   refine⟨?_,hM.st⟩
   unfold numB
   rw[if_neg h1,if_pos h2,Int.emod_eq_of_lt (a:=64+n / 256) (by omega) (by omega),Int.emod_emod_of_dvd _ (by omega)]
   rfl
  ·intro h2
   (((refine Al ?_)))
   (((refine Av trivial ?_ ?_)))
   ·intro h3
    (((refine Am ?_;refine Ab ?_ ?_));(focus omega);((refine Ab ?_ ?_));(focus omega);((refine Ab trivial ?_;refine Ab ?_ ?_));(focus omega);((refine Ab ?_ ?_));(focus omega);((refine Ab trivial ?_;refine Ab ?_ ?_));(focus omega);((refine Ab ?_ ?_));(focus omega);((refine Ab trivial ?_;refine Ab ?_ ?_));(focus omega);((refine Ab trivial ?_;refine Bu hM ?_ ?_ ?_));(focus rfl);(focus (constructor <;> simp));((clear hM;intro _ _ hM)))
    refine Rh (l:=[(128+n / 16777216)%256,n / 65536%256%256,n / 256%256%256,n%256%256]) (R:=[]) (a:=⟨.refl _⟩) hM (by simp) ?_
    refine⟨?_,hM.st⟩
    unfold numB
    rw[if_neg h1,if_neg h2,if_pos h3,Int.emod_eq_of_lt (a:=128+n / 16777216) (by omega) (by omega)]
    simp only[Int.emod_emod_of_dvd _ (Int.dvd_refl 256)]
    rfl
   ·intro h3
    (((refine Al ?_;refine Bj hM ?_;clear hM;intro _ _ hM)))
    rename_i g _
    refine⟨fun x y w'=>(x=.int .i64 (n)∧y=.int .i64 (7)∧Mem (Hp.of w) w [fb g 183 [.one (.int .u8 0),.one (.int .u8 0),.one (.int .u8 0),.one (.int .u8 0),.one (.int .u8 0),.one (.int .u8 0),.one (.int .u8 0),.one (.int .u8 0)]] w')∨(x=.int .i64 (n / 256)∧y=.int .i64 (6)∧Mem (Hp.of w) w [fb g 183 [.one (.int .u8 0),.one (.int .u8 0),.one (.int .u8 0),.one (.int .u8 0),.one (.int .u8 0),.one (.int .u8 0),.one (.int .u8 0),.one (.int .u8 (n%256%256))]] w')∨(x=.int .i64 (n / 65536)∧y=.int .i64 (5)∧Mem (Hp.of w) w [fb g 183 [.one (.int .u8 0),.one (.int .u8 0),.one (.int .u8 0),.one (.int .u8 0),.one (.int .u8 0),.one (.int .u8 0),.one (.int .u8 (n / 256%256%256)),.one (.int .u8 (n%256%256))]] w')∨(x=.int .i64 (n / 16777216)∧y=.int .i64 (4)∧Mem (Hp.of w) w [fb g 183 [.one (.int .u8 0),.one (.int .u8 0),.one (.int .u8 0),.one (.int .u8 0),.one (.int .u8 0),.one (.int .u8 (n / 65536%256%256)),.one (.int .u8 (n / 256%256%256)),.one (.int .u8 (n%256%256))]] w')∨(x=.int .i64 (n / 4294967296)∧y=.int .i64 (3)∧Mem (Hp.of w) w [fb g 183 [.one (.int .u8 0),.one (.int .u8 0),.one (.int .u8 0),.one (.int .u8 0),.one (.int .u8 (n / 16777216%256%256)),.one (.int .u8 (n / 65536%256%256)),.one (.int .u8 (n / 256%256%256)),.one (.int .u8 (n%256%256))]] w')∨(x=.int .i64 (n / 1099511627776)∧y=.int .i64 (2)∧Mem (Hp.of w) w [fb g 183 [.one (.int .u8 0),.one (.int .u8 0),.one (.int .u8 0),.one (.int .u8 (n / 4294967296%256%256)),.one (.int .u8 (n / 16777216%256%256)),.one (.int .u8 (n / 65536%256%256)),.one (.int .u8 (n / 256%256%256)),.one (.int .u8 (n%256%256))]] w')∨(x=.int .i64 (n / 281474976710656)∧y=.int .i64 (1)∧Mem (Hp.of w) w [fb g 183 [.one (.int .u8 0),.one (.int .u8 0),.one (.int .u8 (n / 1099511627776%256%256)),.one (.int .u8 (n / 4294967296%256%256)),.one (.int .u8 (n / 16777216%256%256)),.one (.int .u8 (n / 65536%256%256)),.one (.int .u8 (n / 256%256%256)),.one (.int .u8 (n%256%256))]] w')∨(x=.int .i64 (n / 72057594037927936)∧y=.int .i64 (0)∧Mem (Hp.of w) w [fb g 183 [.one (.int .u8 0),.one (.int .u8 (n / 281474976710656%256%256)),.one (.int .u8 (n / 1099511627776%256%256)),.one (.int .u8 (n / 4294967296%256%256)),.one (.int .u8 (n / 16777216%256%256)),.one (.int .u8 (n / 65536%256%256)),.one (.int .u8 (n / 256%256%256)),.one (.int .u8 (n%256%256))]] w')∨(x=.int .i64 (n / 18446744073709551616)∧y=.int .i64 (-1)∧Mem (Hp.of w) w [fb g 183 [.one (.int .u8 (n / 72057594037927936%256%256)),.one (.int .u8 (n / 281474976710656%256%256)),.one (.int .u8 (n / 1099511627776%256%256)),.one (.int .u8 (n / 4294967296%256%256)),.one (.int .u8 (n / 16777216%256%256)),.one (.int .u8 (n / 65536%256%256)),.one (.int .u8 (n / 256%256%256)),.one (.int .u8 (n%256%256))]] w'),fun _ y _=>match y with | .int _ i=>(i+1).toNat|_=>0,.inl ⟨rfl,rfl,hM⟩,?_⟩
    clear hM
    rintro x y u w2 (⟨rfl,rfl,hM⟩|⟨rfl,rfl,hM⟩|⟨rfl,rfl,hM⟩|⟨rfl,rfl,hM⟩|⟨rfl,rfl,hM⟩|⟨rfl,rfl,hM⟩|⟨rfl,rfl,hM⟩|⟨rfl,rfl,hM⟩|⟨rfl,rfl,hM⟩)
    ·(((refine Cc trivial ?_ ?_));(focus (first|assumption|omega|with_reducible rfl|exact fun h=>Bool.noConfusion h));((refine Am ?_;refine Ab ?_ ?_));(focus omega);((refine Ab trivial ?_;refine Ab trivial ?_;refine Bi hM ?_;clear hM;intro _ hM;refine Ab ?_ ?_));(focus omega);((refine Ab ?_ ?_));(focus omega))
     refine⟨.inr (.inl ⟨by first|rfl|(congr 1;omega),rfl,hM⟩),by first|decide|(dsimp only;omega)|(simp;done)⟩
    ·(((refine Cc trivial ?_ ?_));(focus (first|assumption|omega|with_reducible rfl|exact fun h=>Bool.noConfusion h));((refine Am ?_;refine Ab ?_ ?_));(focus omega);((refine Ab trivial ?_;refine Ab trivial ?_;refine Bi hM ?_;clear hM;intro _ hM;refine Ab ?_ ?_));(focus omega);((refine Ab ?_ ?_));(focus omega))
     refine⟨.inr (.inr (.inl ⟨by first|rfl|(congr 1;omega),rfl,hM⟩)),by first|decide|(dsimp only;omega)|(simp;done)⟩
    ·(((refine Cc trivial ?_ ?_));(focus (first|assumption|omega|with_reducible rfl|exact fun h=>Bool.noConfusion h));((refine Am ?_;refine Ab ?_ ?_));(focus omega);((refine Ab trivial ?_;refine Ab trivial ?_;refine Bi hM ?_;clear hM;intro _ hM;refine Ab ?_ ?_));(focus omega);((refine Ab ?_ ?_));(focus omega))
     refine⟨.inr (.inr (.inr (.inl ⟨by first|rfl|(congr 1;omega),rfl,hM⟩))),by first|decide|(dsimp only;omega)|(simp;done)⟩
    ·(((refine Cc trivial ?_ ?_));(focus (first|assumption|omega|with_reducible rfl|exact fun h=>Bool.noConfusion h));((refine Am ?_;refine Ab ?_ ?_));(focus omega);((refine Ab trivial ?_;refine Ab trivial ?_;refine Bi hM ?_;clear hM;intro _ hM;refine Ab ?_ ?_));(focus omega);((refine Ab ?_ ?_));(focus omega))
     refine⟨.inr (.inr (.inr (.inr (.inl ⟨by first|rfl|(congr 1;omega),rfl,hM⟩)))),by first|decide|(dsimp only;omega)|(simp;done)⟩
    ·(((refine Cc trivial ?_ ?_));(focus (first|assumption|omega|with_reducible rfl|exact fun h=>Bool.noConfusion h));((refine Am ?_;refine Ab ?_ ?_));(focus omega);((refine Ab trivial ?_;refine Ab trivial ?_;refine Bi hM ?_;clear hM;intro _ hM;refine Ab ?_ ?_));(focus omega);((refine Ab ?_ ?_));(focus omega))
     refine⟨.inr (.inr (.inr (.inr (.inr (.inl ⟨by first|rfl|(congr 1;omega),rfl,hM⟩))))),by first|decide|(dsimp only;omega)|(simp;done)⟩
    ·(((refine Cc trivial ?_ ?_));(focus (first|assumption|omega|with_reducible rfl|exact fun h=>Bool.noConfusion h));((refine Am ?_;refine Ab ?_ ?_));(focus omega);((refine Ab trivial ?_;refine Ab trivial ?_;refine Bi hM ?_;clear hM;intro _ hM;refine Ab ?_ ?_));(focus omega);((refine Ab ?_ ?_));(focus omega))
     refine⟨.inr (.inr (.inr (.inr (.inr (.inr (.inl ⟨by first|rfl|(congr 1;omega),rfl,hM⟩)))))),by first|decide|(dsimp only;omega)|(simp;done)⟩
    ·(((refine Cc trivial ?_ ?_));(focus (first|assumption|omega|with_reducible rfl|exact fun h=>Bool.noConfusion h));((refine Am ?_;refine Ab ?_ ?_));(focus omega);((refine Ab trivial ?_;refine Ab trivial ?_;refine Bi hM ?_;clear hM;intro _ hM;refine Ab ?_ ?_));(focus omega);((refine Ab ?_ ?_));(focus omega))
     refine⟨.inr (.inr (.inr (.inr (.inr (.inr (.inr (.inl ⟨by first|rfl|(congr 1;omega),rfl,hM⟩))))))),by first|decide|(dsimp only;omega)|(simp;done)⟩
    ·(((refine Cc trivial ?_ ?_));(focus (first|assumption|omega|with_reducible rfl|exact fun h=>Bool.noConfusion h));((refine Am ?_;refine Ab ?_ ?_));(focus omega);((refine Ab trivial ?_;refine Ab trivial ?_;refine Bi hM ?_;clear hM;intro _ hM;refine Ab ?_ ?_));(focus omega);((refine Ab ?_ ?_));(focus omega))
     refine⟨.inr (.inr (.inr (.inr (.inr (.inr (.inr (.inr (⟨by first|rfl|(congr 1;omega),rfl,hM⟩)))))))),by first|decide|(dsimp only;omega)|(simp;done)⟩
    ·(((refine Br trivial ?_ ?_));(focus (first|assumption|omega|with_reducible rfl|exact fun h=>Bool.noConfusion h));((refine Al ?_;refine Ab trivial ?_;refine Ao hM ?_;refine Ab trivial ?_;refine Ab trivial ?_;refine Bi hM ?_;clear hM;intro _ hM;refine Ab trivial ?_)))
     have hM:=Mem.refd (fs':=[.arr 8 (u8s [(n / 72057594037927936%256%256+192)%256,n / 281474976710656%256%256,n / 1099511627776%256%256,n / 4294967296%256%256,n / 16777216%256%256,n / 65536%256%256,n / 256%256%256,n%256%256])]) hM rfl ⟨fun f hf=>by
      rw[List.mem_singleton.1 hf]
      exact⟨rfl,fun u hu=>Gx _ u hu⟩⟩
     (((refine Hq hM ?_)))
     refine⟨?_,hM.st⟩
     unfold numB
     rw[if_neg h1,if_neg h2,if_neg h3]
     simp only[Int.emod_emod_of_dvd _ (Int.dvd_refl 256)]
     rw[show(n / 72057594037927936%256+192)%256=192+n / 72057594037927936 by omega]
instance (n:Int):PurC prog 40 [.int .i64 n] (0≤n∧n≤4611686018427387903) (.string (strOfNums (numB n))):=⟨fun h w=>aYj n h w⟩
end
end Go.Proofs.YtgbenhmdamnmcaaGreat
namespace Go.Proofs.YtgbenhmdamnmcaaGreat
open Tryz
open Go.RowKit
def xorB (c x:Int):Int:=bits .xor .u8 x c
def pad (l:List Int):List Int:=l++List.replicate (64 - l.length) 0
def kk (l:List Int):List Int:=if 64<l.length then shaSum l else l
def hmac (k m:List Int):List Int:=shaSum ((pad (kk k)).map (xorB 92)++shaSum ((pad (kk k)).map (xorB 54)++m))
theorem Ir (k m:List Int):(hmac k m).length=32:=Da _
theorem Nj (k m:List Int):∀ x∈hmac k m,0≤x∧x<256:=Hk _
theorem aFj (l:List Int):(kk l).length≤64:=by
 unfold kk
 split
 ·rw[Da];omega
 ·omega
theorem aNo (l:List Int) (h:l.length≤64):(pad l).length=64:=by simp[pad];omega
theorem aNp (c x:Int):0≤xorB c x∧xorB c x<256:=by
 have:=bounds_u8 (wf_bits .xor .u8 x c)
 unfold xorB
 omega
theorem Rb (c:Int) (l:List Int):∀ x∈l.map (xorB c),0≤x∧x<256:=by
 intro x hx
 obtain⟨y,_,rfl⟩:=List.mem_map.1 hx
 exact aNp c y
def xk (c:Int) (l:List Int) (i:Nat):List Int:=(l.take i).map (xorB c)++l.drop i
theorem Pz (c:Int) (l:List Int) (i:Nat):(xk c l i).length=l.length:=by simp[xk];omega
theorem bAx (c:Int) (l:List Int) (i:Nat) (h:i<l.length):(xk c l i).getD i 0=l.getD i 0:=by
 have h1:(l.take i).length=i:=by simp;omega
 unfold xk List.getD
 rw[List.getElem?_append_right (by rw[List.length_map,h1];omega),List.length_map,h1,Nat.sub_self,List.getElem?_drop]
 simp
theorem aUm (c:Int) (l:List Int) (i:Nat) (h:i<l.length):(xk c l i).set i (xorB c (l.getD i 0))=xk c l (i+1):=by
 unfold xk
 have h1:(l.take i).length=i:=by simp;omega
 rw[List.set_append,if_neg (by rw[List.length_map,h1];omega),List.length_map,h1,Nat.sub_self,List.drop_eq_getElem_cons h,List.set_cons_zero,List.take_succ_eq_append_getElem h,List.map_append,List.append_assoc]
 simp[List.getD,h]
theorem aUn (c:Int) (l:List Int):xk c l l.length=l.map (xorB c):=by simp[xk]
theorem aYk (l:List Int):lay (u8s (List.replicate 64 0)) (u8s l) 0=u8s (pad l):=by
 unfold lay pad
 rw[Ng,Ds,List.take_zero,List.nil_append,Nat.zero_add]
 congr 1
 unfold u8s
 rw[← List.map_drop,List.drop_replicate]
theorem build2s (a b:ByteArray) (w:World):(Aj 41 2 [(0,.string a),(1,.string b)]).run prog w=.ok (.value (.slice (some ⟨w.heap.size,0,none⟩) 2 2)) (w.alloc (.cells [Value.string a,.string b].toArray 9)):=by kernel_rfl
theorem RowSt.rd {w0 w:World} {e sz:Nat} {L:List Bk} {A:Option Addr} {n cap:Nat} {xs:List Value} (h:RowSt w0 e sz L A n cap xs w):Rd w A xs:=by
 rcases h.2 with ⟨rfl,rfl,rfl,_⟩|⟨g,sp,rfl,hst,_⟩
 ·have:=h.1
  rw[Nat.zero_mul]at this
  rw[List.eq_nil_of_length_eq_zero this]
  exact .inl rfl
 ·refine .inr ⟨g,0,rfl,?_,fun j u hu=>?_⟩
  ·exact hst.head.lt
  ·rw[Nat.zero_add,hst.cell 0 rfl j]
   show(xs++sp)[j]?=some u
   rw[List.getElem?_append_left (List.getElem?_eq_some_iff.1 hu).1]
   exact hu
set_option maxRecDepth 100000 in
set_option maxHeartbeats 1000000 in
theorem Ub (key:ByteArray) (A:Option Addr) (ss:List ByteArray) (c:Nat) (w:World) (hr:Rd w A (ss.map .string)) (hk:key.size<1000000000000) (hss:ss.length<1000000) (hsz:(cat ss).length<1000000000000):
  Calls prog 169 #[.string key,.slice A ss.length c] w fun e w'=>e=.returned (hv (hmac (ints key) (cat ss)))∧St w [] w':=by
 refine aNd ?_
 unfold aBu
 have z32:(u8s (List.replicate 32 0)).length=32:=by simp[u8s]
 refine Dx (St.nil w) (fun r w1 h1=>?_)
 have h1:St w [⟨r,23,u8s (List.replicate 32 0),true⟩] w1:=by simpa [u8s] using h1
 refine⟨fun v w2=>∃ k:ByteArray,v=.string k∧ints k=kk (ints key)∧St w [⟨r,23,u8s (List.replicate 32 0),true⟩] w2,?_,?_⟩
 ·(repeat (first|(refine Ab ?_ ?_;first|exact trivial|omega)|(refine An ?_ ?_;first|exact trivial|omega)))
  refine Di (fun hlt=>?_) (fun hge=>?_)
  ·refine Ch (buildstr key w1) ?_
   refine Ee (aYg key w1 (by omega)) ?_
   rintro e w2 ⟨rfl,h2⟩
   have h2:=h1.call0 h2
   have h32:(u8s (shaSum (ints key))).length=32:=by rw[Ds,Da]
   refine Dx h2 (fun g w3 h3=>?_)
   refine Dn (q:=true) (k:=32) (by kernel_rfl) h3 (by simpa [hv,Value.cells] using h32) (by intro u hu;exact Gx _ u hu) (by simp) (fun w4 h4=>?_)
   have e:lay (List.replicate 32 (Value.int .u8 0)) (hv (shaSum (ints key))).cells.toList 0=u8s (shaSum (ints key)):=Hm _ _ (by show(u8s (shaSum (ints key))).length=_;rw[h32];simp)
   rw[e]at h4
   (repeat (first|(refine Ab ?_ ?_;first|exact trivial|omega)|(refine An ?_ ?_;first|exact trivial|omega)))
   refine Dv (Dk 89 9 5 g 0 32 _ (shaSum (ints key)) (by kernel_rfl) (by kernel_rfl) (by kernel_rfl) (Da _) (fun i hi=>by rw[Nat.zero_add,h4.cell 0 rfl i];exact Iw _ i (by rw[Da];omega))) ?_
   refine⟨_,rfl,?_,h4.drop⟩
   rw[Ck _ (Hk _),kk,if_pos (by rw[Bm];omega)]
  ·exact⟨key,rfl,by rw[kk,if_neg (by rw[Bm];omega)],h1⟩
 ·rintro v u w2 ⟨k,rfl,hk1,h2⟩
  clear h1
  have hkl:(ints k).length≤64:=by rw[hk1];exact aFj _
  have hks:k.size≤64:=by rwa [Bm]at hkl
  have htk:(ints k).take (min k.size 64)=ints k:=List.take_of_length_le (by rw[Bm];omega)
  obtain⟨P,hP⟩:∃ P,P=pad (kk (ints key)):=⟨_,rfl⟩
  have hPl:P.length=64:=by rw[hP];exact aNo _ (aFj _)
  have hlay:lay (u8s (List.replicate 64 0)) (u8s ((ints k).take (min k.size 64))) 0=u8s P:=by rw[htk,aYk,hk1,hP]
  have hm:hmac (ints key) (cat ss)=shaSum (P.map (xorB 92)++shaSum (P.map (xorB 54)++cat ss)):=by rw[hP];rfl
  rw[hm]
  refine Dx h2 (fun p w3 h3=>?_)
  refine Dx h3 (fun q w4 h4=>?_)
  have h4:St w [⟨q,168,u8s (List.replicate 64 0),true⟩,⟨p,168,u8s (List.replicate 64 0),true⟩,⟨r,23,u8s (List.replicate 32 0),true⟩] w4:=by simpa [u8s] using h4
  clear h2 h3
  have z64:(u8s (List.replicate 64 0)).length=64:=by simp[u8s]
  (repeat (first|(refine Ab ?_ ?_;first|exact trivial|omega)|(refine An ?_ ?_;first|exact trivial|omega)))
  obtain⟨w5,hr5,h5⟩:=Ix (P:=prog) (o:=0) (m:=64) (c:=64) (s:=k) (dT:=89) (sT:=9) (ty:=3) (e:=5) (ks:=[false,false]) h4.swap (by kernel_rfl) (by kernel_rfl) (by rw[z64];omega)
  rw[hlay]at h5
  refine Ch hr5 ?_
  (repeat (first|(refine Ab ?_ ?_;first|exact trivial|omega)|(refine An ?_ ?_;first|exact trivial|omega)))
  obtain⟨w6,hr6,h6⟩:=Ix (P:=prog) (o:=0) (m:=64) (c:=64) (s:=k) (dT:=89) (sT:=9) (ty:=3) (e:=5) (ks:=[false,false]) h5.swap (by kernel_rfl) (by kernel_rfl) (by rw[z64];omega)
  rw[hlay]at h6
  refine Ch hr6 ?_
  clear h4 h5 hr5 hr6
  refine⟨fun v w7=>∃ i:Nat,i≤64∧v=.int .i64 i∧St w [⟨q,168,u8s (xk 92 P i),true⟩,⟨p,168,u8s (xk 54 P i),true⟩,⟨r,23,u8s (List.replicate 32 0),true⟩] w7,fun v _=>64 - (intOf v).toNat,⟨0,by omega,rfl,by simpa [xk] using h6⟩,?_⟩
  clear h6
  rintro v u w7 ⟨i,hi,rfl,h7⟩
  (repeat (first|(refine Ab ?_ ?_;first|exact trivial|omega)|(refine An ?_ ?_;first|exact trivial|omega)))
  refine Di (fun hlt=>?_) (fun hge=>?_)
  ·have hi':i<64:=by omega
   have c1:∀ w8 B C,St w (⟨q,168,B,true⟩::⟨p,168,u8s (xk 54 P i),true⟩::C) w8→w8.cell? ⟨p,i,none⟩=some (.int .u8 (P.getD i 0)):=fun w8 B C h=>by
    rw[h.cell 1 rfl i,← bAx 54 P i (by omega)];exact Iw _ i (by rw[Pz];omega)
   have c2:∀ w8 B C,St w (B::⟨q,168,u8s (xk 92 P i),true⟩::C) w8→w8.cell? ⟨q,i,none⟩=some (.int .u8 (P.getD i 0)):=fun w8 B C h=>by
    rw[h.cell 1 rfl i,← bAx 92 P i (by omega)];exact Iw _ i (by rw[Pz];omega)
   (repeat (first|(refine Ab ?_ ?_;first|exact trivial|omega)|(refine An ?_ ?_;first|exact trivial|omega)))
   refine Ek (c1 _ _ _ h7) (by omega) ?_
   (repeat (first|(refine Ab ?_ ?_;first|exact trivial|omega)|(refine An ?_ ?_;first|exact trivial|omega)))
   refine Oe (j:=i) h7.swap (by omega) (by rw[Ds,Pz];omega) rfl (fun w8 h8=>?_)
   rw[Pv]at h8
   have h8:St w (⟨p,168,u8s (xk 54 P (i+1)),true⟩::⟨q,168,u8s (xk 92 P i),true⟩::⟨r,23,u8s (List.replicate 32 0),true⟩::[]) w8:=by
    rw[← aUm 54 P i (by omega)];exact h8
   (repeat (first|(refine Ab ?_ ?_;first|exact trivial|omega)|(refine An ?_ ?_;first|exact trivial|omega)))
   refine Ek (c2 _ _ _ h8) (by omega) ?_
   (repeat (first|(refine Ab ?_ ?_;first|exact trivial|omega)|(refine An ?_ ?_;first|exact trivial|omega)))
   refine Oe (j:=i) h8.swap (by omega) (by rw[Ds,Pz];omega) rfl (fun w9 h9=>?_)
   rw[Pv]at h9
   have h9:St w (⟨q,168,u8s (xk 92 P (i+1)),true⟩::⟨p,168,u8s (xk 54 P (i+1)),true⟩::⟨r,23,u8s (List.replicate 32 0),true⟩::[]) w9:=by
    rw[← aUm 92 P i (by omega)];exact h9
   (repeat (first|(refine Ab ?_ ?_;first|exact trivial|omega)|(refine An ?_ ?_;first|exact trivial|omega)))
   exact⟨⟨i+1,by omega,rfl,h9⟩,by simp[intOf];omega⟩
  ·obtain rfl:i=64:=by omega
   have a1:xk 54 P 64=P.map (xorB 54):=by rw[← hPl];exact aUn 54 P
   have a2:xk 92 P 64=P.map (xorB 92):=by rw[← hPl];exact aUn 92 P
   rw[a1,a2]at h7
   have r1:=Rb 54 P
   have r2:=Rb 92 P
   have l1:(P.map (xorB 54)).length=64:=by rw[List.length_map,hPl]
   have l2:(P.map (xorB 92)).length=64:=by rw[List.length_map,hPl]
   generalize P.map (xorB 54)=X at h7 r1 l1 ⊢
   generalize P.map (xorB 92)=Y at h7 r2 l2 ⊢
   (repeat (first|(refine Ab ?_ ?_;first|exact trivial|omega)|(refine An ?_ ?_;first|exact trivial|omega)))
   refine Dv (Dk 89 9 5 p 0 64 _ X (by kernel_rfl) (by kernel_rfl) (by kernel_rfl) l1 (fun i hi=>by rw[Nat.zero_add,h7.cell 1 rfl i];exact Iw X i (by omega))) ?_
   refine Ch (buildstr _ _) ?_
   have h8:=h7.alloc 9 [Value.string (strOfNums X)]
   have hrow:RowSt w 9 1 [⟨q,168,u8s Y,true⟩,⟨p,168,u8s X,true⟩,⟨r,23,u8s (List.replicate 32 0),true⟩] (some ⟨w7.heap.size,0,none⟩) 1 1 [Value.string (strOfNums X)] (w7.alloc (.cells [Value.string (strOfNums X)].toArray 9)):=
    ⟨rfl,.inr ⟨w7.heap.size,[],rfl,h8,rfl,by omega,by unfold maxLen;omega⟩⟩
   have hsrc:=aQr (P:=prog) (size:=1) (tx:=41) (e':=9) _ (by kernel_rfl) (A:=A) (m:=ss.length) (c:=c) (news:=ss.map .string) (by simp) ((h8.only.rd hr (fun b off _ h=>by obtain⟨b',hb,h2,_⟩:=h;simp at hb;rcases hb with rfl|rfl|rfl|rfl <;> cases h2))) (by intro u hu;obtain⟨x,_,rfl⟩:=List.mem_map.1 hu;rfl)
   refine Zy hrow hsrc (by unfold maxLen;omega) (by omega) (fun A' cap' w8 h9=>?_)
   have hrd9:Rd w8 A' ((strOfNums X::ss).map .string):=h9.rd
   have hcat:cat (strOfNums X::ss)=X++cat ss:=by
    unfold cat
    rw[List.map_cons,List.flatten_cons,Ck X r1]
   have hsum:=Ph A' (strOfNums X::ss) cap' w8 hrd9 (by simp;omega) (by rw[hcat,List.length_append];omega)
   rw[hcat,List.length_cons,Nat.add_comm ss.length 1]at hsum
   refine Ee hsum ?_
   rintro e w9 ⟨rfl,h10⟩
   have h10:=h9.base.call0 h10
   clear h7 h8 h9 hrow hsrc hsum hrd9
   obtain⟨D,hD⟩:∃ D,D=shaSum (X++cat ss):=⟨_,rfl⟩
   have rD:=Hk (X++cat ss)
   have lD:=Da (X++cat ss)
   rw[← hD]at rD lD ⊢
   have hDl:(u8s D).length=32:=by rw[Ds,lD]
   refine Dx h10 (fun d w10 h11=>?_)
   refine Dn (q:=true) (k:=32) (by kernel_rfl) h11 (by simpa [hv,Value.cells] using hDl) (by intro u hu;exact Gx _ u hu) (by simp) (fun w11 h12=>?_)
   have e:lay (List.replicate 32 (Value.int .u8 0)) (hv D).cells.toList 0=u8s D:=Hm _ _ (by show(u8s D).length=_;rw[hDl];simp)
   rw[e]at h12
   (repeat (first|(refine Ab ?_ ?_;first|exact trivial|omega)|(refine An ?_ ?_;first|exact trivial|omega)))
   refine Kw (fun w3 hw=>Dk 89 9 5 q 0 64 _ Y (by kernel_rfl) (by kernel_rfl) (by kernel_rfl) l2 (fun i hi=>hw.cell (by rw[Nat.zero_add,h12.cell 1 rfl i];exact Iw Y i (by omega)))) ?_
   (repeat (first|(refine Ab ?_ ?_;first|exact trivial|omega)|(refine An ?_ ?_;first|exact trivial|omega)))
   refine Kw (fun w3 hw=>Dk 89 9 5 d 0 32 _ D (by kernel_rfl) (by kernel_rfl) (by kernel_rfl) lD (fun i hi=>hw.cell (by rw[Nat.zero_add,h12.cell 0 rfl i];exact Iw D i (by omega)))) ?_
   refine Ej fun w12 hd12=>Ch (build2s _ _ _) ⟨(fun e=>by cases e),?_⟩
   have h13:=(h12.drawn hd12)
   refine Ej fun w13 hd13=>?_
   have h14:=(h13.alloc 9 [Value.string (strOfNums Y),.string (strOfNums D)]).drawn hd13
   have hcat2:cat [strOfNums Y,strOfNums D]=Y++D:=by
    simp[cat,Ck Y r2,Ck D rD]
   have hsum:=Ph (some ⟨w12.heap.size,0,none⟩) [strOfNums Y,strOfNums D] 2 w13 (.inr ⟨w12.heap.size,0,rfl,h14.head.lt,fun j u hu=>by rw[Nat.zero_add,h14.cell 0 rfl j];exact hu⟩) (by simp) (by rw[hcat2,List.length_append];omega)
   rw[hcat2]at hsum
   refine Ee hsum ?_
   rintro e w14 ⟨rfl,h15⟩
   have h15:=h14.drop.call0 h15
   refine⟨(fun e=>by cases e),?_⟩
   refine Ej fun w15 hd15=>?_
   have h16:=(h15.drawn hd15).drop.drop.drop
   have hEl:(u8s (shaSum (Y++D))).length=32:=by rw[Ds,Da]
   refine Dn (q:=true) (k:=32) (by kernel_rfl) h16 (by simpa [hv,Value.cells] using hEl) (by intro u hu;exact Gx _ u hu) (by rw[z32];omega) (fun w17 h17=>⟨(fun e=>by cases e),?_⟩)
   have e:lay (u8s (List.replicate 32 0)) (hv (shaSum (Y++D))).cells.toList 0=u8s (shaSum (Y++D)):=Hm _ _ (by show(u8s (shaSum (Y++D))).length=_;rw[hEl,z32])
   rw[e]at h17
   refine Cn fun w18 hd18=>?_
   have h18:=h17.drawn hd18
   refine Lk (Ed h18.head) hEl ?_
   exact⟨rfl,h18.drop⟩
end Go.Proofs.YtgbenhmdamnmcaaGreat
namespace Go.Proofs.YtgbenhmdamnmcaaGreat
open Tryz
open Go.RowKit
end Go.Proofs.YtgbenhmdamnmcaaGreat
namespace Go.Proofs.YtgbenhmdamnmcaaGreat
open Tryz
end Go.Proofs.YtgbenhmdamnmcaaGreat
namespace Go.Proofs.YtgbenhmdamnmcaaGreat
open Tryz
open Go.RowKit
section
variable {H:Hp} {w0 w:World} {L R:List Res} {g:Nat}
theorem aUo (h:H32) (w:World):Calls prog 136 #[ha h] w fun en w'=>en=.returned (.string (strOfNums h.1))∧St w [] w':=by
 have hM:=Mem.start (Fz.of w)
 refine Me ?_
 unfold Hr
 (((refine Bb hM ?_;clear hM;intro _ _ hM;refine Ab trivial ?_;refine Hq hM ?_)))
 exact⟨rfl,hM.st⟩
instance (h:H32):PurC prog 136 [.agg (u8s h.1).toArray] True (.string (strOfNums h.1)):=⟨fun _ w=>aUo h w⟩
end
end Go.Proofs.YtgbenhmdamnmcaaGreat
namespace Go.Proofs.YtgbenhmdamnmcaaGreat
open Tryz
open Go.RowKit
def Byt (l:List Int):Prop:=∀ x∈l,0≤x∧x<256
instance (l:List Int):Decidable (Byt l):=by unfold Byt;infer_instance
def vl:List Int→Int
 | []=>0
 | a::r=>r.foldl (fun n x=>n*256+x) (a%64)
theorem bBp (n x:Int) (hn:0≤n∧n<18014398509481984) (hx:0≤x∧x<256):bits .or .i64 (n*256) x=n*256+x:=by
 obtain⟨a,rfl⟩:∃ a:Nat,n=a:=⟨n.toNat,by omega⟩
 obtain⟨b,rfl⟩:∃ b:Nat,x=b:=⟨x.toNat,by omega⟩
 have ha:a<18014398509481984:=by omega
 have hb:b<256:=by omega
 have e:((a:Int)*256)=((a*256:Nat):Int):=by omega
 have k:(a*256) ||| b=a*256+b:=by
  have:=Nat.two_pow_add_eq_or_of_lt (i:=8) (b:=b) (by omega) a
  rw[Nat.mul_comm a 256]
  exact this.symm
 rw[e]
 show IntKind.i64.wrap (((BitVec.ofInt 64 ((a*256:Nat):Int) ||| BitVec.ofInt 64 (b:Int):BitVec 64).toNat:Nat):Int)=_
 simp only[BitVec.ofInt_natCast,BitVec.toNat_or,BitVec.toNat_ofNat]
 rw[Nat.mod_eq_of_lt (by omega),Nat.mod_eq_of_lt (by omega),k]
 simp only[IntKind.wrap,IntKind.bits,IntKind.signed]
 simp
 omega
def szN (a:Int):Nat:=if a<64 then 1 else if a<128 then 2 else if a<192 then 4 else 8
def bdN (a:Int):Int:=if a<64 then 0 else if a<128 then 64 else if a<192 then 16384 else 1073741824
theorem Byt.take {l:List Int} (h:Byt l) (n:Nat):Byt (l.take n):=fun x hx=>h x (List.mem_of_mem_take hx)
theorem Byt.drop {l:List Int} (h:Byt l) (n:Nat):Byt (l.drop n):=fun x hx=>h x (List.mem_of_mem_drop hx)
theorem Byt.getD {l:List Int} (h:Byt l) (n:Nat):0≤l.getD n 0∧l.getD n 0<256:=by
 rw[List.getD_eq_getElem?_getD]
 cases hx:l[n]? with
 | none=>simp
 | some x=>exact h x (List.mem_of_getElem? hx)
abbrev RS:=List Int × Int
def tk (n:Nat) (s:RS):List Int × Bool × RS:=if s.2≠0 then ([],false,s) else if s.1.length<n then ([],false,(s.1,2)) else (s.1.take n,true,(s.1.drop n,0))
theorem bBq {n:Nat} {s:RS} (h:Byt s.1):Byt (tk n s).1∧Byt (tk n s).2.2.1:=by
 unfold tk
 split
 ·exact⟨fun x hx=>(by cases hx),h⟩
 ·split
  ·exact⟨fun x hx=>(by cases hx),h⟩
  ·exact⟨h.take n,h.drop n⟩
def nm (most:Int) (s:RS):Int × RS:=
 if s.2≠0 then (0,s)
 else if s.1=[] then (0,([],2))
 else if s.1.length<szN (s.1.headD 0) then (0,(s.1,2))
 else if vl (s.1.take (szN (s.1.headD 0)))<bdN (s.1.headD 0) then (0,(s.1.drop (szN (s.1.headD 0)),3))
 else if most<vl (s.1.take (szN (s.1.headD 0))) then (0,(s.1.drop (szN (s.1.headD 0)),5))
 else (vl (s.1.take (szN (s.1.headD 0))),(s.1.drop (szN (s.1.headD 0)),0))
def hs (l:List Int):H32:=if h:l.length=32∧Byt l then ⟨l,h.1,h.2⟩ else hzero
def rdH (s:RS):H32 × RS:=(hs (tk 32 s).1,(tk 32 s).2.2)
end Go.Proofs.YtgbenhmdamnmcaaGreat
namespace Go.Proofs.YtgbenhmdamnmcaaGreat
open Tryz
open Go.RowKit
theorem bBr (most:Int) (s:RS) (hl:Byt s.1):Byt (nm most s).2.1:=by
 unfold nm
 split
 ·exact hl
 ·split
  ·exact fun x hx=>by cases hx
  ·split
   ·exact hl
   ·split
    ·exact hl.drop _
    ·split
     ·exact hl.drop _
     ·exact hl.drop _
theorem aYl (s:RS) (hl:Byt s.1):Byt (rdH s).2.1:=(bBq hl).2
end Go.Proofs.YtgbenhmdamnmcaaGreat
namespace Go.Proofs.YtgbenhmdamnmcaaGreat
open Tryz
open Go.RowKit
theorem bDr (n:Nat) (s:RS):(tk n s).2.2.1.length≤s.1.length:=by
 unfold tk
 split
 ·exact Nat.le_refl _
 ·split
  ·exact Nat.le_refl _
  ·simp
theorem bDs (most:Int) (s:RS):(nm most s).2.1.length≤s.1.length:=by
 unfold nm
 split
 ·exact Nat.le_refl _
 ·split
  ·simp
  ·split
   ·exact Nat.le_refl _
   ·split
    ·simp
    ·split <;> simp
structure RdS where
 l:List Int
 e:Int
 ok:Byt l∧l.length≤1000000000000
def RdS.rs (s:RdS):RS:=(s.l,s.e)
def nmS (most:Int) (s:RdS):Int × RdS:=((nm most s.rs).1,⟨(nm most s.rs).2.1,(nm most s.rs).2.2,bBr most s.rs s.ok.1,Nat.le_trans (bDs most s.rs) s.ok.2⟩)
def hsS (s:RdS):H32 × RdS:=((rdH s.rs).1,⟨(rdH s.rs).2.1,(rdH s.rs).2.2,aYl s.rs s.ok.1,Nat.le_trans (bDr 32 s.rs) s.ok.2⟩)
end Go.Proofs.YtgbenhmdamnmcaaGreat
namespace Go.Proofs.YtgbenhmdamnmcaaGreat.Chg
open Tryz
open Go.RowKit
structure Prp where
 epoch:H32
 depth:Int
 author:Int
 seq:Int
 kind:Int
 name:Int
 pub:H32
 sign:H32
deriving DecidableEq
abbrev Prp.fds (p:Prp):List Fd:=[.arr 32 (u8s p.epoch.1),.one (.int .i64 p.depth),.one (.int .i64 p.author),.one (.int .i64 p.seq),.one (.int .i64 p.kind),.one (.int .i64 p.name),.arr 32 (u8s p.pub.1),.arr 32 (u8s p.sign.1)]
abbrev prv (p:Prp):Value:=.agg (fl p.fds).toArray
def Prp.right (p:Prp):Prop:=(0≤p.depth∧p.depth≤4611686018427387903)∧(1≤p.author∧p.author≤64)∧(1≤p.name∧p.name≤64)∧(1≤p.seq∧p.seq≤4611686018427387903)∧(if p.kind=2 then p.name=p.author else (p.kind=1∨p.kind=3)∧p.pub=hzero)
instance (p:Prp):Decidable p.right:=by unfold Prp.right;infer_instance
def rank (k:Int):Int:=if k=2 then 0 else if k=3 then 1 else if k=1 then 2 else 3
def Prp.lt (p q:Prp):Prop:=rank p.kind<rank q.kind∨rank p.kind=rank q.kind∧p.name<q.name
section
variable {H:Hp} {w0 w:World} {L R:List Res} {g:Nat}
theorem aCg (n:Int) (w:World):Calls prog 99 #[.int .i64 n] w fun en w'=>en=.returned (.bool (decide (1≤n∧n≤64)))∧St w [] w':=by
 have hM:=Mem.start (Fz.of w)
 refine aBf ?_
 unfold Ov
 (((refine Av trivial ?_ ?_)))
 ·intro h
  (((refine Ae ?_;refine Ab trivial ?_;refine Ae ?_)))
  (((refine Av trivial ?_ ?_))) <;>
  ·intro h2
   (((refine Ab trivial ?_)))
   exact⟨by simp;omega,hM.st⟩
 ·intro h
  (((refine Bq ?_;refine Bq ?_;refine Ab trivial ?_)))
  exact⟨by simp;omega,hM.st⟩
instance (n:Int):PurC prog 99 [.int .i64 n] True (.bool (decide (1≤n∧n≤64))):=⟨fun _ w=>aCg n w⟩
def Prp.rt0 (p:Prp):Prop:=(0≤p.depth∧p.depth≤4611686018427387903)∧(1≤p.author∧p.author≤64)∧(1≤p.name∧p.name≤64)∧(1≤p.seq∧p.seq≤4611686018427387903)
theorem aCh (p:Prp) (h:¬p.rt0):decide p.right=false:=decide_eq_false (fun k=>h ⟨k.1,k.2.1,k.2.2.1,k.2.2.2.1⟩)
theorem aFk (p:Prp) (h:p.rt0) (hk:p.kind=2):decide p.right=decide (p.name=p.author):=by
 rw[Bool.eq_iff_iff]
 simp only[decide_eq_true_eq]
 unfold Prp.right
 rw[if_pos hk]
 exact⟨fun k=>k.2.2.2.2,fun k=>⟨h.1,h.2.1,h.2.2.1,h.2.2.2,k⟩⟩
theorem Wy (p:Prp) (h:p.rt0) (h2:p.kind≠2) (hk:p.kind=1∨p.kind=3):decide p.right=decide (p.pub=hzero):=by
 rw[Bool.eq_iff_iff]
 simp only[decide_eq_true_eq]
 unfold Prp.right
 rw[if_neg h2]
 exact⟨fun k=>k.2.2.2.2.2,fun k=>⟨h.1,h.2.1,h.2.2.1,h.2.2.2,hk,k⟩⟩
theorem aFl (p:Prp) (h2:p.kind≠2) (hk:¬(p.kind=1∨p.kind=3)):decide p.right=false:=decide_eq_false (fun k=>by
 have:=k.2.2.2.2
 rw[if_neg h2]at this
 exact hk this.1)
theorem Er (p:Prp) (w:World):Calls prog 31 #[prv p] w fun en w'=>en=.returned (.bool (decide p.right))∧St w [] w':=by
 have hM:=Mem.start (Fz.of w)
 refine aAq ?_
 unfold Oo
 (((refine Bb hM ?_;clear hM;intro _ _ hM;refine Ab trivial ?_;refine Ao hM ?_;refine Bj hM ?_;clear hM;intro _ _ hM;refine Bi hM ?_;clear hM;intro _ hM)))
 rename_i g1 _ g2 _
 refine⟨fun x w'=>∃ b:Bool,x=.bool b∧(b=true→¬p.rt0)∧(b=false→p.rt0)∧hM.now w',?_,?_⟩
 ·(((refine Ab trivial ?_;refine Ao hM ?_)))
  (((refine Av trivial ?_ ?_)))
  ·intro h1
   ((((iterate 3 refine Ar ?_);refine Ab trivial ?_;(iterate 4 refine Ar ?_);refine Ab trivial ?_;(iterate 4 refine Ar ?_);refine Ab trivial ?_;(iterate 3 refine Ar ?_);refine Ab trivial ?_;(iterate 3 refine Ar ?_);refine Ab trivial ?_)))
   exact⟨_,rfl,fun _ k=>by unfold Prp.rt0 at k;omega,by simp,hM⟩
  ·intro h1
   (((refine Ae ?_;refine Ab trivial ?_;refine Ae ?_;refine Ao hM ?_;refine Ae ?_)))
   (((refine Av trivial ?_ ?_)))
   ·intro h2
    (((refine Ab trivial ?_;(iterate 4 refine Ar ?_);refine Ab trivial ?_;(iterate 4 refine Ar ?_);refine Ab trivial ?_;(iterate 3 refine Ar ?_);refine Ab trivial ?_;(iterate 3 refine Ar ?_);refine Ab trivial ?_)))
    exact⟨_,rfl,fun _ k=>by unfold Prp.rt0 at k;omega,by simp,hM⟩
   ·intro h2
    (((refine Ab trivial ?_;refine Ae ?_;refine Ab trivial ?_;refine Ae ?_;refine Ao hM ?_;refine Ae ?_;refine Bg hM ?_ (fun _ hM2=>?_)));(focus (first|exact trivial|assumption|omega));((replace hM:=hM2;clear hM2;refine Ae ?_;refine Ab trivial ?_;refine Ab trivial ?_)))
    by_cases h3:1≤p.author∧p.author≤64
    ·rw[decide_eq_true h3]
     simp only[Bool.not_true]
     (((refine Ae ?_;refine Ab trivial ?_;refine Ae ?_;refine Ao hM ?_;refine Ae ?_;refine Bg hM ?_ ?_));(focus (first|exact trivial|assumption|omega));((clear hM;intro _ hM;refine Ae ?_;refine Ab trivial ?_;refine Ab trivial ?_)))
     by_cases h4:1≤p.name∧p.name≤64
     ·rw[decide_eq_true h4]
      simp only[Bool.not_true]
      (((refine Ae ?_;refine Ab trivial ?_;refine Ae ?_;refine Ao hM ?_;refine Ae ?_)))
      (((refine Av trivial ?_ ?_)))
      ·intro h5
       (((refine Ab trivial ?_;(iterate 3 refine Ar ?_);refine Ab trivial ?_)))
       exact⟨_,rfl,fun _ k=>by unfold Prp.rt0 at k;omega,by simp,hM⟩
      ·intro h5
       (((refine Ab trivial ?_;refine Ae ?_;refine Ab trivial ?_;refine Ae ?_;refine Ao hM ?_;refine Ae ?_)))
       (((refine Av trivial ?_ ?_)))
       ·intro h6
        (((refine Ab trivial ?_)))
        exact⟨_,rfl,fun _ k=>by unfold Prp.rt0 at k;omega,by simp,hM⟩
       ·intro h6
        (((refine Ab trivial ?_)))
        exact⟨_,rfl,by simp,fun _=>by unfold Prp.rt0;omega,hM⟩
     ·rw[decide_eq_false h4]
      simp only[Bool.not_false]
      ((((iterate 3 refine Ar ?_);refine Ab trivial ?_;(iterate 3 refine Ar ?_);refine Ab trivial ?_)))
      exact⟨_,rfl,fun _ k=>by unfold Prp.rt0 at k;omega,by simp,hM⟩
    ·rw[decide_eq_false h3]
     simp only[Bool.not_false]
     ((((iterate 4 refine Ar ?_);refine Ab trivial ?_;(iterate 3 refine Ar ?_);refine Ab trivial ?_;(iterate 3 refine Ar ?_);refine Ab trivial ?_)))
     exact⟨_,rfl,fun _ k=>by unfold Prp.rt0 at k;omega,by simp,hM⟩
 ·rintro x u w5 ⟨b,rfl,hb1,hb2,hM⟩
  cases b with
  | true=>
    (((refine Am ?_)))
    exact⟨by rw[aCh p (hb1 rfl)],hM.st⟩
  | false=>
    have h0:=hb2 rfl
    (((refine Al ?_;refine Ab trivial ?_;refine Ao hM ?_)))
    (((refine Av trivial ?_ ?_)))
    ·intro h2
     rw[aFk p h0 h2]
     (((refine Am ?_;refine Ab trivial ?_;refine Ao hM ?_;refine Ab trivial ?_;refine Ao hM ?_)))
     try first|refine Ab trivial ?_|refine An trivial ?_
     skip
     exact⟨rfl,hM.st⟩
    ·intro h2
     (((refine Al ?_)))
     refine⟨fun x w'=>x=.bool (decide (p.kind=1∨p.kind=3))∧hM.now w',?_,?_⟩
     ·skip
      (((refine Av trivial ?_ ?_)))
      ·intro h3
       (((refine Am ?_)))
       exact⟨by simp[h3];try rfl,hM⟩
      ·intro h3
       (((refine Al ?_)))
       exact⟨by simp[h3];try rfl,hM⟩
     ·rintro x u w6 ⟨rfl,hM⟩
      by_cases h3:p.kind=1∨p.kind=3
      ·rw[decide_eq_true h3,Wy p h0 h2 h3]
       (((refine Am ?_;refine Ab trivial ?_;refine Ao hM ?_;refine Ab trivial ?_)))
       try first|refine Ab trivial ?_|refine An trivial ?_
       skip
       exact⟨rfl,hM.st⟩
      ·rw[decide_eq_false h3,aFl p h2 h3]
       (((refine Al ?_)))
       exact⟨rfl,hM.st⟩
instance (p:Prp):PurC prog 31 [prv p] True (.bool (decide p.right)):=⟨fun _ w=>Er p w⟩
set_option maxRecDepth 8000 in
theorem Wz (p:Prp) (w:World):Calls prog 33 #[prv p] w fun en w'=>en=.returned (.bool (decide p.right))∧St w [] w':=by
 have hM:=Mem.start (Fz.of w)
 refine Sy ?_
 unfold Kk
 (((refine Bb hM ?_;clear hM;intro _ _ hM;refine Ab trivial ?_;refine Ao hM ?_;refine Bj hM ?_;clear hM;intro _ _ hM;refine Bi hM ?_;clear hM;intro _ hM)))
 refine⟨fun x w'=>∃ b:Bool,x=.bool b∧(b=true→¬p.rt0)∧(b=false→0≤p.depth∧p.depth≤4611686018427387903∧1≤p.seq∧p.seq≤4611686018427387903)∧hM.now w',?_,?_⟩
 ·(((refine Ab trivial ?_;refine Ao hM ?_)))
  (((refine Av trivial ?_ ?_)))
  ·intro h1
   ((((iterate 3 refine Ar ?_);refine Ab trivial ?_;(iterate 3 refine Ar ?_);refine Ab trivial ?_;(iterate 3 refine Ar ?_);refine Ab trivial ?_)))
   exact⟨_,rfl,fun _ k=>by unfold Prp.rt0 at k;omega,by simp,hM⟩
  ·intro h1
   (((refine Ae ?_;refine Ab trivial ?_;refine Ae ?_;refine Ao hM ?_;refine Ae ?_)))
   (((refine Av trivial ?_ ?_)))
   ·intro h2
    (((refine Ab trivial ?_;(iterate 3 refine Ar ?_);refine Ab trivial ?_;(iterate 3 refine Ar ?_);refine Ab trivial ?_)))
    exact⟨_,rfl,fun _ k=>by unfold Prp.rt0 at k;omega,by simp,hM⟩
   ·intro h2
    (((refine Ab trivial ?_;refine Ae ?_;refine Ab trivial ?_;refine Ae ?_;refine Ao hM ?_;refine Ae ?_)))
    (((refine Av trivial ?_ ?_)))
    ·intro h5
     (((refine Ab trivial ?_;(iterate 3 refine Ar ?_);refine Ab trivial ?_)))
     exact⟨_,rfl,fun _ k=>by unfold Prp.rt0 at k;omega,by simp,hM⟩
    ·intro h5
     (((refine Ab trivial ?_;refine Ae ?_;refine Ab trivial ?_;refine Ae ?_;refine Ao hM ?_;refine Ae ?_)))
     (((refine Av trivial ?_ ?_)))
     ·intro h6
      (((refine Ab trivial ?_)))
      exact⟨_,rfl,fun _ k=>by unfold Prp.rt0 at k;omega,by simp,hM⟩
     ·intro h6
      (((refine Ab trivial ?_)))
      exact⟨_,rfl,by simp,fun _=>by omega,hM⟩
 rintro x u w5 ⟨b,rfl,hb1,hb2,hM⟩
 cases b with
 | true=>
   (((refine Am ?_)))
   exact⟨by rw[aCh p (hb1 rfl)],hM.st⟩
 | false=>
   have h0:=hb2 rfl
   (((refine Al ?_)))
   refine⟨fun x w'=>∃ b:Bool,x=.bool b∧(b=true→¬p.rt0)∧(b=false→p.rt0)∧hM.now w',?_,?_⟩
   ·(((refine Ab trivial ?_;refine Ao hM ?_)))
    (((refine Av trivial ?_ ?_)))
    ·intro h1
     ((((iterate 3 refine Ar ?_);refine Ab trivial ?_;(iterate 3 refine Ar ?_);refine Ab trivial ?_;(iterate 3 refine Ar ?_);refine Ab trivial ?_)))
     exact⟨_,rfl,fun _ k=>by unfold Prp.rt0 at k;omega,by simp,hM⟩
    ·intro h1
     (((refine Ae ?_;refine Ab trivial ?_;refine Ae ?_;refine Ao hM ?_;refine Ae ?_)))
     (((refine Av trivial ?_ ?_)))
     ·intro h2
      (((refine Ab trivial ?_;(iterate 3 refine Ar ?_);refine Ab trivial ?_;(iterate 3 refine Ar ?_);refine Ab trivial ?_)))
      exact⟨_,rfl,fun _ k=>by unfold Prp.rt0 at k;omega,by simp,hM⟩
     ·intro h2
      (((refine Ab trivial ?_;refine Ae ?_;refine Ab trivial ?_;refine Ae ?_;refine Ao hM ?_;refine Ae ?_)))
      (((refine Av trivial ?_ ?_)))
      ·intro h5
       (((refine Ab trivial ?_;(iterate 3 refine Ar ?_);refine Ab trivial ?_)))
       exact⟨_,rfl,fun _ k=>by unfold Prp.rt0 at k;omega,by simp,hM⟩
      ·intro h5
       (((refine Ab trivial ?_;refine Ae ?_;refine Ab trivial ?_;refine Ae ?_;refine Ao hM ?_;refine Ae ?_)))
       (((refine Av trivial ?_ ?_)))
       ·intro h6
        (((refine Ab trivial ?_)))
        exact⟨_,rfl,fun _ k=>by unfold Prp.rt0 at k;omega,by simp,hM⟩
       ·intro h6
        (((refine Ab trivial ?_)))
        exact⟨_,rfl,by simp,fun _=>by unfold Prp.rt0;omega,hM⟩
   rintro x u w6 ⟨b,rfl,hb1,hb2,hM⟩
   cases b with
   | true=>
     (((refine Am ?_)))
     exact⟨by rw[aCh p (hb1 rfl)],hM.st⟩
   | false=>
     have h0:=hb2 rfl
     (((refine Al ?_;refine Ab trivial ?_;refine Ao hM ?_)))
     (((refine Av trivial ?_ ?_)))
     ·intro h2
      rw[aFk p h0 h2]
      (((refine Am ?_;refine Ab trivial ?_;refine Ao hM ?_;refine Ab trivial ?_;refine Ao hM ?_)))
      try first|refine Ab trivial ?_|refine An trivial ?_
      skip
      exact⟨rfl,hM.st⟩
     ·intro h2
      (((refine Al ?_;refine Ab trivial ?_;refine Ao hM ?_)))
      (((refine Av trivial ?_ ?_)))
      ·intro h3
       rw[Wy p h0 h2 (.inl h3)]
       ((((iterate 3 refine Ar ?_);refine Ab trivial ?_;refine Ae ?_;refine Ab trivial ?_;refine Ae ?_;refine Ao hM ?_;refine Ae ?_;refine Ab trivial ?_;refine Ae ?_)))
       try first|refine Ab trivial ?_|refine An trivial ?_
       (((refine Ab trivial ?_)))
       exact⟨rfl,hM.st⟩
      ·intro h3
       (((refine Ae ?_;refine Ab trivial ?_;refine Ae ?_;refine Ao hM ?_;refine Ae ?_)))
       (((refine Av trivial ?_ ?_)))
       ·intro h4
        rw[Wy p h0 h2 (.inr h4)]
        (((refine Ab trivial ?_;refine Ae ?_;refine Ab trivial ?_;refine Ae ?_;refine Ao hM ?_;refine Ae ?_;refine Ab trivial ?_;refine Ae ?_)))
        try first|refine Ab trivial ?_|refine An trivial ?_
        (((refine Ab trivial ?_)))
        exact⟨rfl,hM.st⟩
       ·intro h4
        rw[aFl p h2 (by omega)]
        (((refine Ab trivial ?_;(iterate 4 refine Bq ?_);refine Ab trivial ?_)))
        exact⟨rfl,hM.st⟩
instance (p:Prp):PurC prog 33 [prv p] True (.bool (decide p.right)):=⟨fun _ w=>Wz p w⟩
end
end Go.Proofs.YtgbenhmdamnmcaaGreat.Chg
namespace Go.Proofs.YtgbenhmdamnmcaaGreat.Chg
open Tryz
open Go.RowKit
def shaH (l:List Int):H32:=⟨shaSum l,Da l,Hk l⟩
def hmacH (k m:List Int):H32:=⟨hmac k m,Ir k m,Nj k m⟩
theorem Pj (a b:ByteArray):ints (a++b)=ints a++ints b:=by
 obtain⟨⟨a⟩⟩:=a
 obtain⟨⟨b⟩⟩:=b
 simp[ints]
abbrev sver:ByteArray:=ByteArray.mk #[118,101,114]
abbrev ssign:ByteArray:=ByteArray.mk #[115,105,103,110]
def verV (k:H32):H32:=shaH (ints sver++k.1)
def signV (v:H32) (t:List Int):H32:=hmacH v.1 (ints ssign++t)
theorem Ja (h:H32):ints (strOfNums h.1)=h.1:=Ck _ h.2.2
section
variable {H:Hp} {w0 w:World} {L R:List Res} {g:Nat}
theorem cat2 (a b:ByteArray):cat [a,b]=ints a++ints b:=by simp[cat]
theorem Gk {A:Option Addr} {e:Nat} (a b:ByteArray) (hs:a.size+b.size<1000000000000) (hM:Mem H w0 L w) [k:AtA L A 2 2 e 1 [[.one (.string a)],[.one (.string b)]] R]:
  Calls prog 34 #[.slice A 2 2] w fun en w'=>en=.returned (.agg (u8s (shaH (ints a++ints b)).1).toArray)∧St w [] w':=by
 have h:=Ph A [a,b] 2 w (hM.rd k) (by simp) (by rw[cat2,List.length_append,Bm,Bm];omega)
 rw[cat2]at h
 exact h
theorem aUp {A:Option Addr} {e:Nat} (key:H32) (a b:ByteArray) (hs:a.size+b.size<1000000000) (hM:Mem H w0 L w) [k:AtA L A 2 2 e 1 [[.one (.string a)],[.one (.string b)]] R]:
  Calls prog 169 #[.string (strOfNums key.1),.slice A 2 2] w fun en w'=>en=.returned (.agg (u8s (hmacH key.1 (ints a++ints b)).1).toArray)∧St w [] w':=by
 have h:=Ub (strOfNums key.1) A [a,b] 2 w (hM.rd k) (by rw[strOfNums_size,key.2.1];omega) (by simp) (by rw[cat2,List.length_append,Bm,Bm];omega)
 rw[cat2,Ja]at h
 exact h
theorem aNq (k:H32) (w:World):Calls prog 73 #[ha k] w fun en w'=>en=.returned (.agg (u8s (verV k).1).toArray)∧St w [] w':=by
 have hM:=Mem.start (Fz.of w)
 refine aDp ?_
 unfold Ql
 (((refine Bb hM ?_;clear hM;intro _ _ hM;refine Bj hM ?_;clear hM;intro _ _ hM;refine Ab trivial ?_;refine Hq hM ?_;refine Bu hM ?_ ?_ ?_));(focus rfl);(focus (constructor <;> simp));((clear hM;intro _ _ hM)))
 refine Bn hM (Gk sver (strOfNums k.1) (by rw[strOfNums_size,k.2.1];decide) hM) (fun w2 hM=>?_)
 rw[Ja]
 (((refine Bi hM ?_;clear hM;intro _ hM;refine Cd hM ?_)))
 exact⟨rfl,hM.st⟩
instance (k:H32):PurC prog 73 [.agg (u8s k.1).toArray] True (.agg (u8s (verV k).1).toArray):=⟨fun _ w=>aNq k w⟩
theorem aUq (v:H32) (s:ByteArray) (hs:s.size≤1000000) (w:World):Calls prog 170 #[ha v,.string s] w fun en w'=>en=.returned (.agg (u8s (signV v (ints s)).1).toArray)∧St w [] w':=by
 have hM:=Mem.start (Fz.of w)
 refine aKf ?_
 unfold Xz
 (((refine Bb hM ?_;clear hM;intro _ _ hM;refine Bj hM ?_;clear hM;intro _ _ hM;refine Ab trivial ?_;refine Hq hM ?_;refine Bu hM ?_ ?_ ?_));(focus rfl);(focus (constructor <;> simp));((clear hM;intro _ _ hM)))
 refine Bn hM (aUp v ssign s (by have:ssign.size=4:=rfl;omega) hM) (fun w2 hM=>?_)
 (((refine Bi hM ?_;clear hM;intro _ hM;refine Cd hM ?_)))
 exact⟨rfl,hM.st⟩
instance (v:H32) (s:ByteArray):PurC prog 170 [.agg (u8s v.1).toArray,.string s] (s.size≤1000000) (.agg (u8s (signV v (ints s)).1).toArray):=⟨fun h w=>aUq v s h w⟩
theorem aUr (k:H32) (s:ByteArray) (hs:s.size≤1000000) (w:World):Calls prog 96 #[ha k,.string s] w fun en w'=>en=.returned (.agg (u8s (signV (verV k) (ints s)).1).toArray)∧St w [] w':=by
 have hM:=Mem.start (Fz.of w)
 refine aJv ?_
 unfold Xu
 (((refine Bb hM ?_;clear hM;intro _ _ hM;refine Bj hM ?_;clear hM;intro _ _ hM;refine Ao hM ?_;refine Bg hM ?_ ?_));(focus (first|exact trivial|assumption|omega));((clear hM;intro _ hM;refine Bg hM ?_ ?_));(focus (first|exact trivial|assumption|omega));((clear hM;intro _ hM;refine Bi hM ?_;clear hM;intro _ hM;refine Cd hM ?_)))
 exact⟨rfl,hM.st⟩
instance (v:H32) (s:ByteArray):PurC prog 96 [.agg (u8s v.1).toArray,.string s] (s.size≤1000000) (.agg (u8s (signV (verV v) (ints s)).1).toArray):=⟨fun h w=>aUr v s h w⟩
theorem aNr (k:H32) (w:World):Calls prog 69 #[ha k] w fun en w'=>en=.returned (.agg (u8s (verV k).1).toArray)∧St w [] w':=by
 have hM:=Mem.start (Fz.of w)
 refine Rm ?_
 unfold Jq
 (((refine Bb hM ?_;clear hM;intro _ _ hM;refine Bj hM ?_;clear hM;intro _ _ hM;refine Ao hM ?_;refine Bg hM ?_ ?_));(focus (first|exact trivial|assumption|omega));((clear hM;intro _ hM)))
 refine Ab (by rw[strOfNums_size,k.2.1];decide) ?_
 have h:=fun w=>Pw (sver++strOfNums k.1) w (by rw[ByteArray.size_append,strOfNums_size,k.2.1];decide)
 rw[Pj,Ja]at h
 refine Bn hM (h _) (fun w2 hM=>?_)
 have e:hv (shaSum (ints sver++k.1))=.agg (u8s (verV k).1).toArray:=rfl
 rw[e]
 (((refine Bi hM ?_;clear hM;intro _ hM;refine Cd hM ?_)))
 exact⟨rfl,hM.st⟩
instance (k:H32):PurC prog 69 [.agg (u8s k.1).toArray] True (.agg (u8s (verV k).1).toArray):=⟨fun _ w=>aNr k w⟩
def textL (p:Prp):List Int:=p.epoch.1++numB p.depth++numB p.author++numB p.seq++numB p.kind++numB p.name++p.pub.1
def txt (p:Prp):ByteArray:=strOfNums (textL p)
theorem Je (p:Prp):(textL p).length≤104:=by
 have h1:=Az p.depth
 have h2:=Az p.author
 have h3:=Az p.seq
 have h4:=Az p.kind
 have h5:=Az p.name
 have h6:=p.epoch.2.1
 have h7:=p.pub.2.1
 simp only[textL,List.length_append]
 omega
theorem aKq {p:Prp} (h:p.right):(0≤p.depth∧p.depth≤4611686018427387903)∧(0≤p.author∧p.author≤4611686018427387903)∧(0≤p.seq∧p.seq≤4611686018427387903)∧(0≤p.kind∧p.kind≤4611686018427387903)∧(0≤p.name∧p.name≤4611686018427387903):=by
 obtain⟨h1,h2,h3,h4,h5⟩:=h
 have hk:p.kind=2∨p.kind=1∨p.kind=3:=by
  by_cases hk:p.kind=2
  ·exact .inl hk
  ·rw[if_neg hk]at h5
   exact .inr h5.1
 refine⟨h1,?_,?_,?_,?_⟩ <;> omega
theorem aYm (p:Prp) (h:p.right) (w:World):Calls prog 172 #[prv p] w fun en w'=>en=.returned (.string (txt p))∧St w [] w':=by
 obtain⟨b1,b2,b3,b4,b5⟩:=aKq h
 have l1:=Az p.depth
 have l2:=Az p.author
 have l3:=Az p.seq
 have l4:=Az p.kind
 have l5:=Az p.name
 have l6:=p.epoch.2.1
 have hM:=Mem.start (Fz.of w)
 refine aEg ?_
 unfold Qv
 (((refine Bb hM ?_;clear hM;intro _ _ hM)))
 rename_i b _
 refine Be (Ig hM) ?_
 rintro v w1 ⟨g,rfl,hM⟩
 (((refine Ab trivial ?_;refine Ao hM ?_)))
 refine Be (Cx p.epoch (by simp) (hM.at_ (wrR g [] false))) ?_
 rintro v w2 ⟨rfl,hM⟩
 rw[List.nil_append]at hM
 (((refine Ab trivial ?_;refine Ao hM ?_;refine Ab trivial ?_;refine Ao hM ?_;refine Ab trivial ?_;refine Ao hM ?_;refine Ab trivial ?_;refine Ab trivial ?_;refine Ao hM ?_;refine Ab trivial ?_;refine Ab trivial ?_;refine Ao hM ?_;refine Ab trivial ?_)))
 refine⟨fun x w'=>∃ i:Nat,x=.int .i64 i∧i≤5∧(match i with
  | 0=>Mem (Hp.of w) w [wrR g p.epoch.1 false,fb b 75 p.fds] w'
  | 1=>Mem (Hp.of w) w [wrR g (p.epoch.1++numB p.depth) false,fb b 75 p.fds] w'
  | 2=>Mem (Hp.of w) w [wrR g (p.epoch.1++numB p.depth++numB p.author) false,fb b 75 p.fds] w'
  | 3=>Mem (Hp.of w) w [wrR g (p.epoch.1++numB p.depth++numB p.author++numB p.seq) false,fb b 75 p.fds] w'
  | 4=>Mem (Hp.of w) w [wrR g (p.epoch.1++numB p.depth++numB p.author++numB p.seq++numB p.kind) false,fb b 75 p.fds] w'
  | _=>Mem (Hp.of w) w [wrR g (p.epoch.1++numB p.depth++numB p.author++numB p.seq++numB p.kind++numB p.name) false,fb b 75 p.fds] w'),
  fun x _=>match x with | .int _ i=>5 - i.toNat|_=>0,⟨0,rfl,by omega,hM⟩,?_⟩
 clear hM
 rintro x u w3 ⟨i,rfl,hi,hM⟩
 (((refine Av trivial ?_ ?_)))
 ·intro hlt
  obtain rfl|rfl|rfl|rfl|rfl:i=0∨i=1∨i=2∨i=3∨i=4:=by omega
  ·have hM:Mem (Hp.of w) w _ w3:=hM
   (((refine Am ?_)))
   refine Bw (v:=.int .i64 p.depth) (fun w=>by kernel_rfl) ?_
   refine Be (Cu p.depth b1 (by first|omega|(simp only[List.length_append];omega)) hM) ?_
   rintro v w4 ⟨rfl,hM⟩
   (((refine Ab ?_ ?_));(focus omega))
   exact⟨⟨1,rfl,by omega,hM⟩,by first|decide|(dsimp only;omega)|(simp;done)⟩
  ·have hM:Mem (Hp.of w) w _ w3:=hM
   (((refine Am ?_)))
   refine Bw (v:=.int .i64 p.author) (fun w=>by kernel_rfl) ?_
   refine Be (Cu p.author b2 (by first|omega|(simp only[List.length_append];omega)) hM) ?_
   rintro v w4 ⟨rfl,hM⟩
   (((refine Ab ?_ ?_));(focus omega))
   exact⟨⟨2,rfl,by omega,hM⟩,by first|decide|(dsimp only;omega)|(simp;done)⟩
  ·have hM:Mem (Hp.of w) w _ w3:=hM
   (((refine Am ?_)))
   refine Bw (v:=.int .i64 p.seq) (fun w=>by kernel_rfl) ?_
   refine Be (Cu p.seq b3 (by first|omega|(simp only[List.length_append];omega)) hM) ?_
   rintro v w4 ⟨rfl,hM⟩
   (((refine Ab ?_ ?_));(focus omega))
   exact⟨⟨3,rfl,by omega,hM⟩,by first|decide|(dsimp only;omega)|(simp;done)⟩
  ·have hM:Mem (Hp.of w) w _ w3:=hM
   (((refine Am ?_)))
   refine Bw (v:=.int .i64 p.kind) (fun w=>by kernel_rfl) ?_
   refine Be (Cu p.kind b4 (by first|omega|(simp only[List.length_append];omega)) hM) ?_
   rintro v w4 ⟨rfl,hM⟩
   (((refine Ab ?_ ?_));(focus omega))
   exact⟨⟨4,rfl,by omega,hM⟩,by first|decide|(dsimp only;omega)|(simp;done)⟩
  ·have hM:Mem (Hp.of w) w _ w3:=hM
   (((refine Am ?_)))
   refine Bw (v:=.int .i64 p.name) (fun w=>by kernel_rfl) ?_
   refine Be (Cu p.name b5 (by first|omega|(simp only[List.length_append];omega)) hM) ?_
   rintro v w4 ⟨rfl,hM⟩
   (((refine Ab ?_ ?_));(focus omega))
   exact⟨⟨5,rfl,by omega,hM⟩,by first|decide|(dsimp only;omega)|(simp;done)⟩
 ·intro hge
  obtain rfl:i=5:=by omega
  have hM:Mem (Hp.of w) w [wrR g (p.epoch.1++numB p.depth++numB p.author++numB p.seq++numB p.kind++numB p.name) false,fb b 75 p.fds] w3:=hM
  (((refine Al ?_;refine Ab trivial ?_;refine Ab trivial ?_;refine Ao hM ?_)))
  refine Be (Cx p.pub (by first|omega|(simp only[List.length_append];omega)) hM) ?_
  rintro v w4 ⟨rfl,hM⟩
  refine Bn hM (Ih hM) (fun w5 hM=>?_)
  (((refine Ab trivial ?_;refine Ab trivial ?_)))
  exact⟨rfl,hM.st⟩
instance (p:Prp):PurC prog 172 [prv p] p.right (.string (txt p)):=⟨fun h w=>aYm p h w⟩
theorem aUs (p:Prp) (h:p.right) (w:World):Calls prog 111 #[prv p] w fun en w'=>en=.returned (.string (txt p))∧St w [] w':=by
 obtain⟨b1,b2,b3,b4,b5⟩:=aKq h
 have l1:=Az p.depth
 have l2:=Az p.author
 have l3:=Az p.seq
 have l4:=Az p.kind
 have l5:=Az p.name
 have l6:=p.epoch.2.1
 have l7:=p.pub.2.1
 have hM:=Mem.start (Fz.of w)
 refine Vy ?_
 unfold Ma
 (((refine Bb hM ?_;clear hM;intro _ _ hM;refine An trivial ?_;refine Aw hM ?_;refine Bd hM ?_ (fun _ _ hM=>?_)));(focus (first|exact trivial|assumption|omega));((refine An trivial ?_));(refine Aw ‹Mem _ _ _ _› ?_);((refine Bd hM ?_ (fun _ _ hM=>?_)));(focus (first|exact trivial|assumption|omega)))
 refine Dj _ _ (by omega) ?_
 (((refine An trivial ?_));(refine Aw ‹Mem _ _ _ _› ?_);((refine Bd hM ?_ (fun _ _ hM=>?_)));(focus (first|exact trivial|assumption|omega)))
 refine Dj _ _ (by first|omega|(simp only[List.length_append];omega)) ?_
 (((refine An trivial ?_));(refine Aw ‹Mem _ _ _ _› ?_);((refine Bd hM ?_ (fun _ _ hM=>?_)));(focus (first|exact trivial|assumption|omega)))
 refine Dj _ _ (by first|omega|(simp only[List.length_append];omega)) ?_
 (((refine Ba hM ?_;clear hM;intro _ hM;refine An trivial ?_;refine An trivial ?_;refine Aw hM ?_;refine Bd hM ?_ (fun _ _ hM=>?_)));(focus (first|exact trivial|assumption|omega)))
 refine Dj _ _ (by first|omega|(simp only[List.length_append];omega)) ?_
 (((refine An trivial ?_;refine An trivial ?_));(refine Aw ‹Mem _ _ _ _› ?_);((refine Bd hM ?_ (fun _ _ hM=>?_)));(focus (first|exact trivial|assumption|omega)))
 refine Dj _ _ (by first|omega|(simp only[List.length_append];omega)) ?_
 (((refine An trivial ?_;refine An trivial ?_));(refine Aw ‹Mem _ _ _ _› ?_);((refine Bd hM ?_ (fun _ _ hM=>?_)));(focus (first|exact trivial|assumption|omega)))
 refine Dj _ _ (by first|omega|(simp only[List.length_append];omega)) ?_
 (((refine Ba hM ?_;clear hM;intro _ hM)))
 exact⟨rfl,hM.st⟩
instance (p:Prp):PurC prog 111 [prv p] p.right (.string (txt p)):=⟨fun h w=>aUs p h w⟩
abbrev Prp.signed (p:Prp) (v:H32):Prp:={ p with sign:=signV v (ints (txt p)) }
def packB (p:Prp):ByteArray:=strOfNums (textL p++p.sign.1)
abbrev es0:ByteArray:=ByteArray.mk #[]
end
end Go.Proofs.YtgbenhmdamnmcaaGreat.Chg
namespace Go.Proofs.YtgbenhmdamnmcaaGreat.Chg
open Tryz
open Go.RowKit
abbrev p0:Prp:=⟨hzero,0,0,0,0,0,hzero,hzero⟩
end Go.Proofs.YtgbenhmdamnmcaaGreat.Chg
namespace Go.Proofs.YtgbenhmdamnmcaaGreat.Chg
open Tryz
open Go.RowKit
def q1 (s:RdS):=hsS s
def q2 (s:RdS):=nmS 4611686018427387903 (q1 s).2
def q3 (s:RdS):=nmS 64 (q2 s).2
section
variable {H:Hp} {w0 w:World} {L R:List Res} {g:Nat} {s:RdS}
theorem aUt (p:Prp) (w:World):Calls prog 107 #[prv p] w fun en w'=>en=.returned (.string (if p.right then packB p else es0))∧St w [] w':=by
 have hM:=Mem.start (Fz.of w)
 have hl:=Je p
 have l7:=p.sign.2.1
 refine aDr ?_
 unfold Qm
 (((refine Bb hM ?_;clear hM;intro _ _ hM;refine Ao hM ?_;refine Bg hM ?_ ?_));(focus (first|exact trivial|assumption|omega));((clear hM;intro _ hM;refine Ab trivial ?_)))
 by_cases h:p.right
 ·rw[decide_eq_true h,if_pos h]
  simp only[Bool.not_true]
  (((refine Al ?_;refine Aw hM ?_;refine Bd hM ?_ (fun _ _ hM=>?_)));(focus (first|exact trivial|assumption|omega));((refine An trivial ?_;refine An trivial ?_)))
  refine Cr (by assumption) ?_
  unfold txt
  first|refine Ni (textL p) p.sign.1 (by omega) ?_|refine Dj (textL p) p.sign.1 (by omega) ?_
  (((refine Ba hM ?_;clear hM;intro _ hM)))
  exact⟨rfl,hM.st⟩
 ·rw[decide_eq_false h,if_neg h]
  simp only[Bool.not_false]
  (((refine Am ?_)))
  first|exact⟨rfl,hM.st⟩|exact⟨trivial,hM.st⟩
theorem aUu (p:Prp) (h:p.right) (w:World):Calls prog 42 #[prv p] w fun en w'=>en=.returned (.string (packB p))∧St w [] w':=by
 have hM:=Mem.start (Fz.of w)
 have hl:=Je p
 have l7:=p.sign.2.1
 refine Vp ?_
 unfold Lw
 (((refine Bb hM ?_;clear hM;intro _ _ hM;refine Aw hM ?_;refine Bd hM ?_ (fun _ _ hM=>?_)));(focus (first|exact trivial|assumption|omega));((refine An trivial ?_));(refine Aw ‹Mem _ _ _ _› ?_);((refine Bd hM ?_ (fun _ _ hM=>?_)));(focus (first|exact trivial|assumption|omega)))
 unfold txt
 first|refine Ni (textL p) p.sign.1 (by omega) ?_|refine Dj (textL p) p.sign.1 (by omega) ?_
 (((refine Ba hM ?_;clear hM;intro _ hM)))
 exact⟨rfl,hM.st⟩
instance (p:Prp):PurC prog 107 [prv p] True (.string (if p.right then packB p else es0)):=⟨fun _ w=>aUt p w⟩
instance (p:Prp):PurC prog 42 [prv p] p.right (.string (packB p)):=⟨fun h w=>aUu p h w⟩
instance (s:ByteArray):PurC prog 35 [.string s] (s.size<1099511627776) (.agg (u8s (shaH (ints s)).1).toArray):=⟨fun h w=>Pw s w h⟩
theorem _root_.Go.Proofs.YtgbenhmdamnmcaaGreat.Byt.app {a b:List Int} (h:Byt a) (k:Byt b):Byt (a++b):=fun x hx=>(List.mem_append.1 hx).elim (h x) (k x)
end
end Go.Proofs.YtgbenhmdamnmcaaGreat.Chg
namespace Go.Proofs.YtgbenhmdamnmcaaGreat
open Tryz
open Go.RowKit
def lev:Nat→Int→Int
 | 0,_=>0
 | f+1,x=>if x%2=1 then lev f (x / 2)+1 else 0
def level (x:Int):Int:=lev 8 x
def thr (n x:Int):Prop:=(1≤n∧n≤64)∧0≤x∧x≤2*n - 2
instance (n x:Int):Decidable (thr n x):=by unfold thr;infer_instance
def pw (k:Int):Int:=2 ^ k.toNat
def rtN (n:Int):Int:=if n≤1 then 1 else if n≤2 then 2 else if n≤4 then 4 else if n≤8 then 8 else if n≤16 then 16 else if n≤32 then 32 else 64
def root (n:Int):Int:=if thr n 0 then rtN n - 1 else -1
def pLeft (n x:Int):Int:=if thr n x∧level x≠0 then x - pw (level x - 1) else -1
def rg:Nat→Int→Int→Int
 | 0,_,x=>x
 | f+1,n,x=>if thr n x then x else rg f n (x - pw (level x - 1))
def okr:Nat→Int→Int→Bool
 | 0,_,_=>false
 | f+1,n,x=>decide (0≤x∧x<128)&&(decide (thr n x)||(decide (1≤level x)&&okr f n (x - pw (level x - 1))))
def pRight (n x:Int):Int:=if thr n x∧level x≠0 then rg 8 n (x+pw (level x - 1)) else -1
def up1 (x:Int):Int:=x - x / pw (level x+1)%2*pw (level x+1)+pw (level x)
def ug:Nat→Int→Int→Int
 | 0,_,x=>x
 | f+1,n,x=>if thr n (up1 x) then up1 x else ug f n (up1 x)
def oku:Nat→Int→Int→Bool
 | 0,_,_=>false
 | f+1,n,x=>decide (0≤x∧x<128)&&(decide (thr n (up1 x))||oku f n (up1 x))
def pAbove (n x:Int):Int:=if thr n x∧x≠root n then ug 8 n x else -1
def pBeside (n x:Int):Int:=if pAbove n x<0 then -1 else if x<pAbove n x then pRight n (pAbove n x) else pLeft n (pAbove n x)
def pFrom (n x:Int):Int:=if thr n x then (x+1 - pw (level x)) / 2 else 0
def pTo (n x:Int):Int:=if thr n x then min ((x+1+pw (level x)) / 2) n else 0
def halfI (n:Int):Int:=if n≤2 then 1 else if n≤4 then 2 else if n≤8 then 4 else if n≤16 then 8 else if n≤32 then 16 else 32
def rootI (a n:Int):Int:=if n=1 then 2*a else 2*(a+halfI n) - 1
def fnd:Nat→Int→Int→Int→Int→Int→Int × Int × Int × Int
 | 0,a,n,_,p,b=>(a,n,p,b)
 | f+1,a,n,x,p,b=>if rootI a n=x then (a,n,p,b) else if x<rootI a n then fnd f a (halfI n) x (rootI a n) (rootI (a+halfI n) (n - halfI n)) else fnd f (a+halfI n) (n - halfI n) x (rootI a n) (rootI a (halfI n))
def fd (n x:Int):Int × Int × Int × Int:=fnd 7 0 n x (-1) (-1)
def rRoot (n:Int):Int:=if thr n 0 then rootI 0 n else -1
def lf (n x:Int):Int:=if thr n x then (if (fd n x).2.1=1 then -1 else rootI (fd n x).1 (halfI (fd n x).2.1)) else -1
def rt (n x:Int):Int:=if thr n x then (if (fd n x).2.1=1 then -1 else rootI ((fd n x).1+halfI (fd n x).2.1) ((fd n x).2.1 - halfI (fd n x).2.1)) else -1
def ab (n x:Int):Int:=if thr n x then (fd n x).2.2.1 else -1
def bs (n x:Int):Int:=if thr n x then (fd n x).2.2.2 else -1
def fro (n x:Int):Int:=if thr n x then (fd n x).1 else 0
def til (n x:Int):Int:=if thr n x then (fd n x).1+(fd n x).2.1 else 0
def hld (n x p:Int):Prop:=fro n x≤p∧p<til n x
instance (n x p:Int):Decidable (hld n x p):=by unfold hld;infer_instance
def dirF:Nat→Int→Int→List Int
 | 0,_,_=>[]
 | f+1,n,x=>if ab n x<0 then [] else ab n x::dirF f n (ab n x)
def dirL (n l:Int):List Int:=if 0≤l∧l<n then dirF 8 n (2*l) else []
set_option maxRecDepth 100000 in
theorem aRt:∀ n:Fin 65,∀ x:Fin 127,thr (n.val:Int) (x.val:Int) →
  pLeft n.val x.val=lf n.val x.val∧pRight n.val x.val=rt n.val x.val∧pAbove n.val x.val=ab n.val x.val∧pBeside n.val x.val=bs n.val x.val∧pFrom n.val x.val=fro n.val x.val∧pTo n.val x.val=til n.val x.val ∧
  (level x.val≠0→okr 8 n.val (x.val+pw (level x.val - 1))=true)∧((x.val:Int)≠root n.val→oku 8 n.val x.val=true)∧root n.val=rRoot n.val:=by decide +kernel
end Go.Proofs.YtgbenhmdamnmcaaGreat
namespace Go.Proofs.YtgbenhmdamnmcaaGreat
open Tryz
open Go.RowKit Go.Lib
set_option maxRecDepth 100000 in
theorem bBs:∀ y:Fin 128,bits .and .i64 y.val 1=y.val%2∧bits .or .i64 (bits .andNot .i64 y.val (pw (level y.val+1))) (pw (level y.val))=up1 y.val∧level (up1 y.val)=level y.val+1∧pw (level y.val)≤y.val+1∧level y.val≤7:=by decide +kernel
set_option maxRecDepth 100000 in
theorem bBt:∀ n:Fin 65,∀ x:Fin 127,thr (n.val:Int) (x.val:Int)→0≤(fd n.val x.val).1∧1≤(fd n.val x.val).2.1∧(fd n.val x.val).1+(fd n.val x.val).2.1≤64:=by decide +kernel
theorem aKr {x:Int} (h:0≤x∧x<128):bits .and .i64 x 1=x%2∧bits .or .i64 (bits .andNot .i64 x (pw (level x+1))) (pw (level x))=up1 x∧level (up1 x)=level x+1∧pw (level x)≤x+1∧level x≤7:=by
 have:=bBs ⟨x.toNat,by omega⟩
 simpa only [Int.toNat_of_nonneg h.1] using this
theorem bAy {n x:Int} (h:thr n x):0≤(fd n x).1∧1≤(fd n x).2.1∧(fd n x).1+(fd n x).2.1≤64:=by
 obtain⟨h1,h2,h3⟩:=id h
 have:=bBt ⟨n.toNat,by omega⟩ ⟨x.toNat,by omega⟩
 simp only[Int.toNat_of_nonneg h2,Int.toNat_of_nonneg (show 0≤n by omega)]at this
 exact this h
theorem Is {n x:Int} (h:thr n x):pLeft n x=lf n x∧pRight n x=rt n x∧pAbove n x=ab n x∧pBeside n x=bs n x∧pFrom n x=fro n x∧pTo n x=til n x ∧
  (level x≠0→okr 8 n (x+pw (level x - 1))=true)∧(x≠root n→oku 8 n x=true)∧root n=rRoot n:=by
 obtain⟨h1,h2,h3⟩:=id h
 have:=aRt ⟨n.toNat,by omega⟩ ⟨x.toNat,by omega⟩
 simp only[Int.toNat_of_nonneg h2,Int.toNat_of_nonneg (show 0≤n by omega)]at this
 exact this h
theorem Zj:∀ (f:Nat) (x:Int),0≤lev f x∧lev f x≤f
 | 0,x=>by simp[lev]
 | f+1,x=>by
   have:=Zj f (x / 2)
   unfold lev
   split <;> omega
theorem Jh (x:Int):0≤level x∧level x≤8:=Zj 8 x
theorem aHx {k:Int} (h:k≤9):1≤pw k∧pw k≤512:=by
 have h2:(2:Nat) ^ k.toNat≤2 ^ 9:=Nat.pow_le_pow_right (by decide) (by omega)
 have h3:0<(2:Nat) ^ k.toNat:=Nat.pow_pos (by decide)
 have h4:pw k=((2 ^ k.toNat:Nat):Int):=by unfold pw;push_cast;rfl
 rw[h4]
 omega
instance {P:Program} {t:TypeId} {q:Bool} {k':IntKind} (b:Int):StepC P (Af .shl t q (.int .i64 1) (.int k' b)) (0≤b∧b<62) (.int .i64 (pw b)):=⟨fun h=>by
 have:=Oc (P:=P) t q .i64 k' 1 b h.1 (by show b<64;omega)
 have h2:(2:Nat) ^ b.toNat≤2 ^ 62:=Nat.pow_le_pow_right (by decide) (by omega)
 have h4:(2:Int) ^ b.toNat=((2 ^ b.toNat:Nat):Int):=by push_cast;rfl
 have h5:-9223372036854775808≤(2:Int) ^ b.toNat∧(2:Int) ^ b.toNat<9223372036854775808:=by
  generalize (2:Nat) ^ b.toNat=m at h2 h4
  rw[h4]
  omega
 rw[Int.one_mul,Mx h5]at this
 exact this⟩
theorem aUv {P:Program} (t:TypeId) (c:Bool) (k:IntKind) (a b:Int):Pur P (Af .andNot t c (.int k a) (.int k b)) (.int k (bits .andNot k a b)):=fun w=>by
 simp[Af,sv,eqGuard,binOp,go_sem]
instance {P:Program} {t:TypeId} {q:Bool} {k:IntKind} (a b:Int):StepC P (Af .andNot t q (.int k a) (.int k b)) True (.int k (bits .andNot k a b)):=⟨fun _=>aUv t q k a b⟩
section
variable {H:Hp} {w0 w:World} {L:List Res}
theorem aUw (n x:Int) (w:World):Calls prog 166 #[.int .i64 n,.int .i64 x] w fun en w'=>en=.returned (.bool (decide (thr n x)))∧St w [] w':=by
 have hM:=Mem.start (Fz.of w)
 refine aEa ?_
 unfold Qr
 (((refine Av trivial ?_ ?_)))
 ·intro h1
  (((refine Ae ?_;refine Ab trivial ?_;refine Ae ?_)))
  (((refine Av trivial ?_ ?_)))
  ·intro h2
   (((refine Ab trivial ?_;refine Ae ?_;refine Ab trivial ?_;refine Ae ?_)))
   (((refine Av trivial ?_ ?_)))
   ·intro h3
    (((refine Ab trivial ?_;refine Ae ?_;refine Ab trivial ?_;refine Ae ?_;refine Ab trivial ?_;refine Ae ?_;refine Ab ?_ ?_));(focus omega);((refine Ae ?_;refine Ab ?_ ?_));(focus omega);((refine Ae ?_)))
    (((refine Av trivial ?_ ?_)))
    ·intro h4
     (((refine Ab trivial ?_)))
     exact⟨by rw[decide_eq_true (show thr n x from⟨⟨h1,h2⟩,h3,h4⟩)],hM.st⟩
    ·intro h4
     (((refine Ab trivial ?_)))
     exact⟨by rw[decide_eq_false (show ¬thr n x from fun h=>h4 h.2.2)],hM.st⟩
   ·intro h3
    (((refine Ab trivial ?_;(iterate 5 refine Bq ?_);refine Ab trivial ?_)))
    exact⟨by rw[decide_eq_false (show ¬thr n x from fun h=>h3 h.2.1)],hM.st⟩
  ·intro h2
   (((refine Ab trivial ?_;refine Bq ?_;refine Bq ?_;refine Ab trivial ?_;(iterate 5 refine Bq ?_);refine Ab trivial ?_)))
   exact⟨by rw[decide_eq_false (show ¬thr n x from fun h=>h2 h.1.2)],hM.st⟩
 ·intro h1
  (((refine Bq ?_;refine Bq ?_;refine Ab trivial ?_;refine Bq ?_;refine Bq ?_;refine Ab trivial ?_;(iterate 5 refine Bq ?_);refine Ab trivial ?_)))
  exact⟨by rw[decide_eq_false (show ¬thr n x from fun h=>h1 h.1.1)],hM.st⟩
instance (n x:Int):PurC prog 166 [.int .i64 n,.int .i64 x] True (.bool (decide (thr n x))):=⟨fun _ w=>aUw n x w⟩
theorem aUx (x:Int) (hx:0≤x∧x<128) (w:World):Calls prog 205 #[.int .i64 x] w fun en w'=>en=.returned (.int .i64 (level x))∧St w [] w':=by
 have hM:=Mem.start (Fz.of w)
 refine aEo ?_
 unfold Qz
 refine⟨fun v u w'=>∃ (y k:Int) (f:Nat),v=.int .i64 y∧u=.int .i64 k∧f≤7∧k=7 - f∧0≤y∧y<2 ^ f∧level x=k+lev (f+1) y∧hM.now w',fun _ u _=>match u with | .int _ k=>7 - k.toNat|_=>0,⟨x,0,7,rfl,rfl,by omega,by omega,hx.1,hx.2,by unfold level;rw[Int.zero_add],hM⟩,?_⟩
 rintro v u i w2 ⟨y,k,f,rfl,rfl,hf,hk,hy,hy2,hl,hM⟩
 have h7:(2:Int) ^ f≤128:=by
  have h2:(2:Nat) ^ f≤2 ^ 7:=Nat.pow_le_pow_right (by decide) hf
  have h4:(2:Int) ^ f=((2 ^ f:Nat):Int):=by push_cast;rfl
  omega
 obtain⟨hb,_⟩:=aKr (x:=y) (by omega)
 (((refine Ab trivial ?_)))
 rw[hb]
 (((refine Av trivial ?_ ?_)))
 ·intro ho
  cases f with
  | zero=>simp at hy2;omega
  | succ f=>
    (((refine Am ?_;refine Ab ?_ ?_));(focus omega);((refine Ab ?_ ?_));(focus omega))
    have hd:y / 2 ^ (1:Int).toNat=y / 2:=rfl
    rw[hd]
    have hp:(2:Int) ^ (f+1)=2 ^ f*2:=Int.pow_succ 2 f
    refine⟨⟨y / 2,k+1,f,rfl,rfl,by omega,by omega,by omega,by omega,?_,hM⟩,?_⟩
    ·rw[hl]
     conv=>lhs;rw[lev,if_pos ho]
     omega
    ·simp only
     omega
 ·intro ho
  (((refine Al ?_)))
  refine⟨?_,hM.st⟩
  rw[hl,lev,if_neg ho]
  simp
instance (x:Int):PurC prog 205 [.int .i64 x] (0≤x∧x<128) (.int .i64 (level x)):=⟨fun h w=>aUx x h w⟩
theorem aUy (n:Int) (w:World):Calls prog 125 #[.int .i64 n] w fun en w'=>en=.returned (.int .i64 (root n))∧St w [] w':=by
 have hM:=Mem.start (Fz.of w)
 refine aGx ?_
 unfold Tl
 by_cases ht:thr n 0
 ·rw[show root n=rtN n - 1 from if_pos ht]
  have hn:=ht.1
  (((refine Bg hM ?_ ?_));(focus (first|exact trivial|assumption|omega));((clear hM;intro _ hM;refine Ab trivial ?_)))
  rw[decide_eq_true ht]
  (((refine aCe ?_)))
  refine⟨fun v w'=>∃ k:Int,v=.int .i64 k∧(k=1∨k=2∨k=4∨k=8∨k=16∨k=32∨k=64)∧(k=1∨k<2*n)∧hM.now w',fun v _=>match v with | .int _ k=>100 - k.toNat|_=>0,⟨1,rfl,.inl rfl,.inl rfl,hM⟩,?_⟩
  rintro v i w2 ⟨k,rfl,h1,h2,hM⟩
  (((refine Av trivial ?_ ?_)))
  ·intro h
   (((refine Am ?_;refine Ab ?_ ?_));(focus omega))
   exact⟨⟨k*2,rfl,by omega,by omega,hM⟩,by simp only;omega⟩
  ·intro h
   (((refine Al ?_;refine Ab ?_ ?_));(focus omega))
   refine⟨?_,hM.st⟩
   rw[show rtN n=k by unfold rtN;(repeat' split);all_goals omega]
 ·rw[show root n = -1 from if_neg ht]
  (((refine Bg hM ?_ ?_));(focus (first|exact trivial|assumption|omega));((clear hM;intro _ hM;refine Ab trivial ?_)))
  rw[decide_eq_false ht]
  (((refine aCf ?_)))
  exact⟨rfl,hM.st⟩
instance (n:Int):PurC prog 125 [.int .i64 n] True (.int .i64 (root n)):=⟨fun _ w=>aUy n w⟩
end
end Go.Proofs.YtgbenhmdamnmcaaGreat
namespace Go.Proofs.YtgbenhmdamnmcaaGreat
open Tryz
open Go.RowKit Go.Lib
set_option maxRecDepth 100000 in
theorem bBu:∀ n:Fin 65,∀ x:Fin 127,thr (n.val:Int) (x.val:Int)→ab n.val x.val<0∨thr n.val (ab n.val x.val):=by decide +kernel
theorem aHy {n x:Int} (h:thr n x) (ha:¬ab n x<0):thr n (ab n x):=by
 obtain⟨h1,h2,h3⟩:=id h
 have:=bBu ⟨n.toNat,by omega⟩ ⟨x.toNat,by omega⟩
 simp only[Int.toNat_of_nonneg h2,Int.toNat_of_nonneg (show 0≤n by omega)]at this
 exact(this h).resolve_left ha
instance {P:Program} (a b c d:Value):StepC P (Aq (.tuple #[a,b,c,d]) 0) True a:=⟨fun _=>Fk [a,b,c,d] 0 a rfl⟩
instance {P:Program} (a b c d:Value):StepC P (Aq (.tuple #[a,b,c,d]) 1) True b:=⟨fun _=>Fk [a,b,c,d] 1 b rfl⟩
instance {P:Program} (a b c d:Value):StepC P (Aq (.tuple #[a,b,c,d]) 2) True c:=⟨fun _=>Fk [a,b,c,d] 2 c rfl⟩
instance {P:Program} (a b c d:Value):StepC P (Aq (.tuple #[a,b,c,d]) 3) True d:=⟨fun _=>Fk [a,b,c,d] 3 d rfl⟩
theorem bBv (a n:Int):min a n=if n<a then n else a:=by split <;> omega
section
variable {H:Hp} {w0 w:World} {L:List Res}
theorem bDt {n x:Int} (h:¬thr n x):lf n x = -1:=if_neg h
theorem bDu {n x:Int} (h:¬thr n x):rt n x = -1:=if_neg h
theorem aPo {n x:Int} (h:¬thr n x):ab n x = -1:=if_neg h
theorem bDv {n x:Int} (h:¬thr n x):bs n x = -1:=if_neg h
theorem aUz {n x:Int} (h:¬thr n x):fro n x=0:=if_neg h
theorem aVa {n x:Int} (h:¬thr n x):til n x=0:=if_neg h
theorem aVb (n x:Int) (w:World):Calls prog 174 #[.int .i64 n,.int .i64 x] w fun en w'=>en=.returned (.int .i64 (lf n x))∧St w [] w':=by
 have hM:=Mem.start (Fz.of w)
 refine aHl ?_
 unfold Tt
 refine⟨fun v w'=>v=.int .i64 (if thr n x then level x else 0)∧hM.now w',?_,?_⟩
 ·by_cases ht:thr n x
  ·obtain⟨h1,h2,h3⟩:=id ht
   (((refine Bg hM ?_ (fun _ hM2=>?_)));(focus (first|exact trivial|assumption|omega));((replace hM:=hM2;clear hM2)))
   rw[decide_eq_true ht]
   (((refine Am ?_;refine Bg hM ?_ ?_));(focus (first|exact trivial|assumption|omega));((clear hM;intro _ hM)))
   exact⟨by rw[if_pos ht],hM⟩
  ·(((refine Bg hM ?_ (fun _ hM2=>?_)));(focus (first|exact trivial|assumption|omega));((replace hM:=hM2;clear hM2)))
   rw[decide_eq_false ht]
   (((refine Al ?_)))
   exact⟨by rw[if_neg ht],hM⟩
 rintro v u w2 ⟨rfl,hM⟩
 by_cases ht:thr n x
 ·obtain⟨h1,h2,h3⟩:=id ht
  rw[if_pos ht]
  have hl:=Jh x
  rw[← (Is ht).1]
  (((refine Av trivial ?_ ?_)))
  ·intro h
   (((refine Am ?_)))
   exact⟨by unfold pLeft;rw[if_neg (fun h'=>h'.2 h)],hM.st⟩
  ·intro h
   have hp:=aHx (k:=level x - 1) (by omega)
   (((refine Al ?_;refine Ab ?_ ?_));(focus omega);((refine Ab ?_ ?_));(focus omega);((refine Ab ?_ ?_));(focus omega))
   exact⟨by unfold pLeft;rw[if_pos ⟨ht,h⟩],hM.st⟩
 ·rw[if_neg ht,bDt ht]
  (((refine Cc trivial ?_ ?_));(focus (first|assumption|omega|with_reducible rfl|exact fun h=>Bool.noConfusion h));((refine Am ?_)))
  exact⟨rfl,hM.st⟩
instance (n x:Int):PurC prog 174 [.int .i64 n,.int .i64 x] True (.int .i64 (lf n x)):=⟨fun _ w=>aVb n x w⟩
theorem aRu (n x:Int) (w:World):Calls prog 175 #[.int .i64 n,.int .i64 x] w fun en w'=>en=.returned (.int .i64 (rt n x))∧St w [] w':=by
 have hM:=Mem.start (Fz.of w)
 refine aEi ?_
 unfold Qw
 refine⟨fun v w'=>v=.int .i64 (if thr n x then level x else 0)∧hM.now w',?_,?_⟩
 ·by_cases ht:thr n x
  ·obtain⟨h1,h2,h3⟩:=id ht
   (((refine Bg hM ?_ (fun _ hM2=>?_)));(focus (first|exact trivial|assumption|omega));((replace hM:=hM2;clear hM2)))
   rw[decide_eq_true ht]
   (((refine Am ?_;refine Bg hM ?_ ?_));(focus (first|exact trivial|assumption|omega));((clear hM;intro _ hM)))
   exact⟨by rw[if_pos ht],hM⟩
  ·(((refine Bg hM ?_ (fun _ hM2=>?_)));(focus (first|exact trivial|assumption|omega));((replace hM:=hM2;clear hM2)))
   rw[decide_eq_false ht]
   (((refine Al ?_)))
   exact⟨by rw[if_neg ht],hM⟩
 rintro v u w2 ⟨rfl,hM⟩
 by_cases ht:thr n x
 ·obtain⟨h1,h2,h3⟩:=id ht
  rw[if_pos ht]
  have hl:=Jh x
  obtain⟨-,hR,-,-,-,-,hk,-,-⟩:=Is ht
  rw[← hR]
  (((refine Av trivial ?_ ?_)))
  ·intro h
   (((refine Am ?_)))
   exact⟨by unfold pRight;rw[if_neg (fun h'=>h'.2 h)],hM.st⟩
  ·intro h
   have hp:=aHx (k:=level x - 1) (by omega)
   have hk:=hk h
   (((refine Al ?_;refine Ab ?_ ?_));(focus omega);((refine Ab ?_ ?_));(focus omega);((refine Ab ?_ ?_));(focus omega))
   rw[show pRight n x=rg 8 n (x+pw (level x - 1)) from if_pos ⟨ht,h⟩]
   refine⟨fun v w'=>∃ (f:Nat) (y:Int),v=.int .i64 y∧okr f n y=true∧rg 8 n (x+pw (level x - 1))=rg f n y∧hM.now w',fun v _=>match v with | .int _ k=>k.toNat|_=>0,⟨8,_,rfl,hk,rfl,hM⟩,?_⟩
   rintro v i w2 ⟨f,y,rfl,ho,he,hM⟩
   cases f with
   | zero=>simp[okr]at ho
   | succ f=>
     simp only[okr,Bool.and_eq_true,Bool.or_eq_true,decide_eq_true_eq]at ho
     obtain⟨hy,ho⟩:=ho
     by_cases hty:thr n y
     ·(((refine Bg hM ?_ ?_));(focus (first|exact trivial|assumption|omega));((clear hM;intro _ hM;refine Ab trivial ?_)))
      rw[decide_eq_true hty]
      (((refine aCe ?_)))
      exact⟨by rw[he,rg,if_pos hty],hM.st⟩
     ·obtain⟨hl1,ho⟩:=ho.resolve_left hty
      have hl:=Jh y
      have hp:=aHx (k:=level y - 1) (by omega)
      (((refine Bg hM ?_ ?_));(focus (first|exact trivial|assumption|omega));((clear hM;intro _ hM;refine Ab trivial ?_)))
      rw[decide_eq_false hty]
      (((refine aCf ?_;refine Bg hM ?_ ?_));(focus (first|exact trivial|assumption|omega));((clear hM;intro _ hM;refine Ab ?_ ?_));(focus omega);((refine Ab ?_ ?_));(focus omega);((refine Ab ?_ ?_));(focus omega))
      refine⟨⟨f,_,rfl,ho,by rw[he,rg,if_neg hty],hM⟩,?_⟩
      cases f with
      | zero=>simp[okr]at ho
      | succ f=>
        simp only[okr,Bool.and_eq_true,decide_eq_true_eq]at ho
        simp only
        omega
 ·rw[if_neg ht,bDu ht]
  (((refine Cc trivial ?_ ?_));(focus (first|assumption|omega|with_reducible rfl|exact fun h=>Bool.noConfusion h));((refine Am ?_)))
  exact⟨rfl,hM.st⟩
instance (n x:Int):PurC prog 175 [.int .i64 n,.int .i64 x] True (.int .i64 (rt n x)):=⟨fun _ w=>aRu n x w⟩
theorem Xa (n x:Int) (w:World):Calls prog 202 #[.int .i64 n,.int .i64 x] w fun en w'=>en=.returned (.int .i64 (ab n x))∧St w [] w':=by
 have hM:=Mem.start (Fz.of w)
 refine aEm ?_
 unfold Qy
 refine⟨fun v w'=>v=.bool (decide (¬thr n x∨x=root n))∧hM.now w',?_,?_⟩
 ·by_cases ht:thr n x
  ·(((refine Bg hM ?_ (fun _ hM2=>?_)));(focus (first|exact trivial|assumption|omega));((replace hM:=hM2;clear hM2;refine Ab trivial ?_)))
   rw[decide_eq_true ht,Bool.not_true]
   (((refine Ae ?_;refine Ab trivial ?_;refine Ae ?_;refine Ab trivial ?_;refine Ae ?_;refine Bg hM ?_ ?_));(focus (first|exact trivial|assumption|omega));((clear hM;intro _ hM;refine Ae ?_)))
   (((refine Av trivial ?_ ?_)))
   ·intro h
    (((refine Ab trivial ?_)))
    exact⟨by rw[decide_eq_true (.inr h)],hM⟩
   ·intro h
    (((refine Ab trivial ?_)))
    exact⟨by rw[decide_eq_false (by simp[ht,h])],hM⟩
  ·(((refine Bg hM ?_ (fun _ hM2=>?_)));(focus (first|exact trivial|assumption|omega));((replace hM:=hM2;clear hM2;refine Ab trivial ?_)))
   rw[decide_eq_false ht,Bool.not_false]
   ((((iterate 4 refine Ar ?_);refine Ab trivial ?_)))
   exact⟨by rw[decide_eq_true (.inl ht)],hM⟩
 rintro v u w2 ⟨rfl,hM⟩
 by_cases ht:thr n x
 ·obtain⟨-,-,hA,-,-,-,-,hu,-⟩:=Is ht
  rw[← hA]
  by_cases hr:x=root n
  ·rw[decide_eq_true (.inr hr)]
   (((refine Am ?_)))
   exact⟨by unfold pAbove;rw[if_neg (fun h=>h.2 hr)],hM.st⟩
  ·rw[decide_eq_false (by simp[ht,hr])]
   have hu:=hu hr
   (((refine Al ?_)))
   rw[show pAbove n x=ug 8 n x from if_pos ⟨ht,hr⟩]
   refine⟨fun v w'=>∃ (f:Nat) (y:Int),v=.int .i64 y∧oku f n y=true∧ug 8 n x=ug f n y∧hM.now w',fun v _=>match v with | .int _ k=>(8 - level k).toNat|_=>0,⟨8,_,rfl,hu,rfl,hM⟩,?_⟩
   rintro v i w2 ⟨f,y,rfl,ho,he,hM⟩
   cases f with
   | zero=>simp[oku]at ho
   | succ f=>
     simp only[oku,Bool.and_eq_true,Bool.or_eq_true,decide_eq_true_eq]at ho
     obtain⟨hy,ho⟩:=ho
     obtain⟨-,hb,hv,-,h7⟩:=aKr hy
     have hl:=Jh y
     (((refine Bg hM ?_ ?_));(focus (first|exact trivial|assumption|omega));((clear hM;intro _ hM;refine An ?_ ?_));(focus omega);((refine An ?_ ?_));(focus omega);((refine An trivial ?_;refine An ?_ ?_));(focus omega);((refine An trivial ?_;refine Ba hM ?_;clear hM;intro _ hM;refine Bg hM ?_ ?_));(focus (first|exact trivial|assumption|omega));((clear hM;intro _ hM)))
     rw[hb]
     by_cases hty:thr n (up1 y)
     ·skip
      rw[decide_eq_true hty]
      (((refine Am ?_)))
      exact⟨by rw[he,ug,if_pos hty],hM.st⟩
     ·have ho:=ho.resolve_left hty
      skip
      rw[decide_eq_false hty]
      (((refine Al ?_)))
      refine⟨⟨f,_,rfl,ho,by rw[he,ug,if_neg hty],hM⟩,?_⟩
      simp only
      omega
 ·rw[decide_eq_true (.inl ht),aPo ht]
  (((refine Am ?_)))
  exact⟨rfl,hM.st⟩
instance (n x:Int):PurC prog 202 [.int .i64 n,.int .i64 x] True (.int .i64 (ab n x)):=⟨fun _ w=>Xa n x w⟩
theorem aNs (n x:Int) (w:World):Calls prog 188 #[.int .i64 n,.int .i64 x] w fun en w'=>en=.returned (.int .i64 (bs n x))∧St w [] w':=by
 have hM:=Mem.start (Fz.of w)
 refine aBz ?_
 unfold Pe
 by_cases ht:thr n x
 ·obtain⟨-,-,hA,hB,-⟩:=Is ht
  rw[← hB]
  unfold pBeside
  rw[hA]
  (((refine Bg hM ?_ ?_));(focus (first|exact trivial|assumption|omega));((clear hM;intro _ hM)))
  (((refine Av trivial ?_ ?_)))
  ·intro h
   (((refine Am ?_)))
   exact⟨by rw[if_pos h],hM.st⟩
  ·intro h
   rw[if_neg h]
   have hta:thr n (ab n x):=aHy ht h
   obtain⟨hl,hr,-⟩:=Is hta
   rw[hl,hr]
   (((refine Al ?_)))
   (((refine Av trivial ?_ ?_)))
   ·intro h2
    (((refine Am ?_;refine Bg hM ?_ ?_));(focus (first|exact trivial|assumption|omega));((clear hM;intro _ hM)))
    exact⟨by rw[if_pos h2],hM.st⟩
   ·intro h2
    (((refine Al ?_;refine Bg hM ?_ ?_));(focus (first|exact trivial|assumption|omega));((clear hM;intro _ hM)))
    exact⟨by rw[if_neg h2],hM.st⟩
 ·rw[bDv ht]
  have:=aPo ht
  (((refine Bg hM ?_ ?_));(focus (first|exact trivial|assumption|omega));((clear hM;intro _ hM;refine Cc trivial ?_ ?_));(focus (first|assumption|omega|with_reducible rfl|exact fun h=>Bool.noConfusion h));((refine Am ?_)))
  exact⟨rfl,hM.st⟩
instance (n x:Int):PurC prog 188 [.int .i64 n,.int .i64 x] True (.int .i64 (bs n x)):=⟨fun _ w=>aNs n x w⟩
theorem aNt (n x:Int) (w:World):Calls prog 203 #[.int .i64 n,.int .i64 x] w fun en w'=>en=.returned (.tuple #[.int .i64 (fro n x),.int .i64 (til n x)])∧St w [] w':=by
 have hM:=Mem.start (Fz.of w)
 refine aCb ?_
 unfold Pf
 by_cases ht:thr n x
 ·obtain⟨h1,h2,h3⟩:=id ht
  obtain⟨-,-,-,-,hF,hT,-⟩:=Is ht
  obtain⟨-,-,-,hq,h7⟩:=aKr (x:=x) (by omega)
  have hl:=Jh x
  have hp:=aHx (k:=level x) (by omega)
  rw[← hF,← hT]
  unfold pFrom pTo
  rw[if_pos ht,if_pos ht,bBv]
  (((refine Bg hM ?_ ?_));(focus (first|exact trivial|assumption|omega));((clear hM;intro _ hM;refine Ab trivial ?_)))
  rw[decide_eq_true ht]
  (((refine aCe ?_;refine Bg hM ?_ ?_));(focus (first|exact trivial|assumption|omega));((clear hM;intro _ hM;refine Ab ?_ ?_));(focus omega);((refine Ab ?_ ?_));(focus omega);((refine Ab ?_ ?_));(focus omega);((refine Ab ?_ ?_));(focus omega);((refine Ab ?_ ?_));(focus omega);((refine Ab ?_ ?_));(focus omega);((refine Ab ?_ ?_));(focus omega))
  exact⟨rfl,hM.st⟩
 ·rw[aUz ht,aVa ht]
  (((refine Bg hM ?_ ?_));(focus (first|exact trivial|assumption|omega));((clear hM;intro _ hM;refine Ab trivial ?_)))
  rw[decide_eq_false ht]
  (((refine aCf ?_)))
  exact⟨rfl,hM.st⟩
instance (n x:Int):PurC prog 203 [.int .i64 n,.int .i64 x] True (.tuple #[.int .i64 (fro n x),.int .i64 (til n x)]):=⟨fun _ w=>aNt n x w⟩
theorem aRv (n x p:Int) (w:World):Calls prog 167 #[.int .i64 n,.int .i64 x,.int .i64 p] w fun en w'=>en=.returned (.bool (decide (hld n x p)))∧St w [] w':=by
 have hM:=Mem.start (Fz.of w)
 refine aEc ?_
 unfold Qs
 (((refine Bg hM ?_ ?_));(focus (first|exact trivial|assumption|omega));((clear hM;intro _ hM;refine Ab trivial ?_;refine Ab trivial ?_)))
 (((refine Av trivial ?_ ?_)))
 ·intro h1
  (((refine Ae ?_;refine Ab trivial ?_;refine Ae ?_;refine Ab trivial ?_;refine Ae ?_)))
  (((refine Av trivial ?_ ?_)))
  ·intro h2
   (((refine Ab trivial ?_)))
   exact⟨by rw[decide_eq_true (show hld n x p from⟨h1,h2⟩)],hM.st⟩
  ·intro h2
   (((refine Ab trivial ?_)))
   exact⟨by rw[decide_eq_false (show ¬hld n x p from fun h=>h2 h.2)],hM.st⟩
 ·intro h1
  ((((iterate 3 refine Bq ?_);refine Ab trivial ?_)))
  exact⟨by rw[decide_eq_false (show ¬hld n x p from fun h=>h1 h.1)],hM.st⟩
instance (n x p:Int):PurC prog 167 [.int .i64 n,.int .i64 x,.int .i64 p] True (.bool (decide (hld n x p))):=⟨fun _ w=>aRv n x p w⟩
end
end Go.Proofs.YtgbenhmdamnmcaaGreat
namespace Go.Proofs.YtgbenhmdamnmcaaGreat
open Tryz
open Go.RowKit
def cand (k l:Nat):Int:=(l / 2 ^ k*2 ^ (k+1)+2 ^ k - 1:Nat)
def cands (n l:Nat):List Int:=([1,2,3,4,5,6].map fun k=>cand k l).filter fun x=>decide (x≤2*(n:Int) - 2)
set_option maxRecDepth 100000 in
theorem aYn:∀ n:Fin 65,∀ l:Fin 64,l.val<n.val→dirL n.val l.val=cands n.val l.val:=by decide +kernel
set_option maxRecDepth 100000 in
theorem aVc:∀ i:Fin 63,∀ l:Fin 64,(1≤level (2*(i.val:Int)+1)∧level (2*(i.val:Int)+1)≤6)∧(((2*(i.val:Int)+1+1 - pw (level (2*i.val+1))) / 2≤l.val∧(l.val:Int)<(2*i.val+1+1+pw (level (2*i.val+1))) / 2)↔cand (level (2*i.val+1)).toNat l.val=2*i.val+1):=by decide +kernel
set_option maxRecDepth 100000 in
theorem aVd:∀ k:Fin 7,∀ l:Fin 64,1≤k.val→cand k.val l.val%2=1∧0≤cand k.val l.val∧cand k.val l.val<127∧level (cand k.val l.val)=k.val:=by decide +kernel
def okd:Nat→Int→Int→Bool
 | 0,n,x=>decide (ab n x<0)
 | f+1,n,x=>decide (ab n x<0)||okd f n (ab n x)
set_option maxRecDepth 100000 in
theorem aYo:∀ n:Fin 65,∀ x:Fin 127,thr (n.val:Int) (x.val:Int)→okd 8 n.val x.val=true:=by decide +kernel
set_option maxRecDepth 100000 in
theorem aYp:∀ n:Fin 65,∀ x:Fin 127,thr (n.val:Int) (x.val:Int)→ab n.val x.val<0∨level x.val<level (ab n.val x.val)∧level (ab n.val x.val)≤7:=by decide +kernel
end Go.Proofs.YtgbenhmdamnmcaaGreat
namespace Go.Proofs.YtgbenhmdamnmcaaGreat
open Tryz
open Go.RowKit Go.Lib
theorem bBw (n x:Int):okd 8 n x=true:=by
 by_cases h:thr n x
 ·obtain⟨h1,h2,h3⟩:=id h
  have:=aYo ⟨n.toNat,by omega⟩ ⟨x.toNat,by omega⟩
  simp only[Int.toNat_of_nonneg h2,Int.toNat_of_nonneg (show 0≤n by omega)]at this
  exact this h
 ·simp[okd,aPo h]
theorem aVe {f:Nat} {n x:Int} (h:ab n x<0):dirF f n x=[]:=by
 cases f with
 | zero=>rfl
 | succ f=>rw[dirF,if_pos h]
theorem aRw {f:Nat} {n x:Int} (h:¬ab n x<0) (ho:okd f n x=true):∃ g,f=g+1∧dirF f n x=ab n x::dirF g n (ab n x)∧okd g n (ab n x)=true:=by
 cases f with
 | zero=>simp[okd]at ho;omega
 | succ f=>
   simp only[okd,Bool.or_eq_true,decide_eq_true_eq]at ho
   exact⟨f,rfl,by rw[dirF,if_neg h],ho.resolve_left h⟩
theorem aKs:∀ (f:Nat) (n x:Int),(dirF f n x).length≤f
 | 0,n,x=>by simp[dirF]
 | f+1,n,x=>by
   rw[dirF]
   split
   ·simp
   ·have:=aKs f n (ab n x)
    simp only[List.length_cons]
    omega
theorem Uc (n l:Int):(dirL n l).length≤8:=by
 unfold dirL
 split
 ·exact aKs 8 n _
 ·simp
abbrev ints8 (l:List Int):List (List Fd):=l.map fun x=>[.one (.int .i64 x)]
theorem Nk (l:List Int):(ints8 l).length=l.length:=by simp[ints8]
theorem aRx (l:List Int):Els 1 (ints8 l):=Els.map (f:=fun x=>[.one (.int .i64 x)]) l fun _=>⟨inferInstance,rfl⟩
theorem aCi {l:List Int} {i:Nat} (h:i<l.length):(ints8 l)[i]?=some [.one (.int .i64 l[i])]:=by simp[ints8,h]
end Go.Proofs.YtgbenhmdamnmcaaGreat
namespace Go.Proofs.YtgbenhmdamnmcaaGreat
open Tryz
open Go.RowKit
structure Lf where
 name:Int
 pub:H32
 ver:H32
 abv:H32
deriving DecidableEq
abbrev Lf.fds (l:Lf):List Fd:=[.one (.int .i64 l.name),.arr 32 (u8s l.pub.1),.arr 32 (u8s l.ver.1),.arr 32 (u8s l.abv.1)]
abbrev lv (l:Lf):Value:=.agg (fl l.fds).toArray
def Lf.zero:Lf:=⟨0,hzero,hzero,hzero⟩
structure Pn where
 set:Bool
 pub:H32
 abv:H32
 loose:List Int
deriving DecidableEq
def Pn.zero:Pn:=⟨false,hzero,hzero,[]⟩
structure Tr where
 ls:List Lf
 ps:List Pn
deriving DecidableEq
def Tr.none:Tr:=⟨[],[]⟩
def nameAt (ls:List Lf) (p:Int):Int:=match ls[p.toNat]? with
 | some l=>l.name
 | none=>0
def leavesB:List Int→List Lf→Bool
 | _,[]=>true
 | s,l::r=>if l=Lf.zero then leavesB s r else decide ((1≤l.name∧l.name≤64)∧l.name∉s)&&leavesB (l.name::s) r
def looseB (n:Int) (ls:List Lf) (x:Int):Option Int→List Int→Bool
 | _,[]=>true
 | o,p::r=>decide (hld n x p∧nameAt ls p≠0∧∀ q∈o,q<p)&&looseB n ls x (some p) r
def Pn.isZero (p:Pn):Prop:=p.set=false∧p.pub=hzero∧p.abv=hzero∧p.loose=[]
instance (p:Pn):Decidable p.isZero:=by unfold Pn.isZero;infer_instance
def parB (n:Int) (ls:List Lf):Int→List Pn→Bool
 | _,[]=>true
 | x,p::r=>(p.set||decide p.isZero)&&looseB n ls x none p.loose&&parB n ls (x+2) r
abbrev Tr.size (t:Tr):Int:=t.ls.length
def Tr.right (t:Tr):Bool:=decide (t.ls.length≤64∧t.ps.length=t.ls.length - 1)&&leavesB [] t.ls&&parB t.size t.ls 1 t.ps&&decide (t.ls=[]∨0<nameAt t.ls (t.size - 1))
abbrev Pn.row (p:Pn) (C:Option Addr) (c:Nat):List Fd:=[.one (.bool p.set),.arr 32 (u8s p.pub.1),.arr 32 (u8s p.abv.1),.one (.slice C p.loose.length c)]
def PnF (H:Hp) (q:List Fd) (p:Pn):Prop:=∃ C c,q=p.row C c∧Sl H 1 C (ints8 p.loose)∧p.loose.length≤maxLen
theorem PnF.mono {H H':Hp} {q:List Fd} {p:Pn} (h:PnF H q p) (k:H.le H'):PnF H' q p:=by
 obtain⟨C,c,h1,h2,h3⟩:=h
 exact⟨C,c,h1,h2.mono k,h3⟩
theorem All2.mono {α:Type} {r r':List Fd→α→Prop} (h:∀ q x,r q x→r' q x):∀ {ps:List (List Fd)} {xs:List α},All2 r ps xs→All2 r' ps xs
 | [],[],_=>trivial
 | _::_,_::_,k=>⟨h _ _ k.1,k.2.mono h⟩
 | [],_::_,k=>k.elim
 | _::_,[],k=>k.elim
theorem All2.at_ {α:Type} {r:List Fd→α→Prop}:∀ {ps:List (List Fd)} {xs:List α},All2 r ps xs→∀ {i:Nat} (h:i<xs.length),∃ q,ps[i]?=some q∧r q xs[i]
 | [],[],_,i,h=>by cases h
 | q::ps,x::xs,k,0,_=>⟨q,rfl,k.1⟩
 | q::ps,x::xs,k,i+1,h=>by
   obtain⟨q',h1,h2⟩:=k.2.at_ (i:=i) (by simpa using h)
   exact⟨q',by simpa using h1,by simpa using h2⟩
 | [],_::_,k,_,_=>k.elim
 | _::_,[],k,_,_=>k.elim
abbrev tfd (A:Option Addr) (n a:Nat) (B:Option Addr) (m b:Nat):List Fd:=[.one (.slice A n a),.one (.slice B m b)]
abbrev tv (A:Option Addr) (n a:Nat) (B:Option Addr) (m b:Nat):Value:=.agg (fl (tfd A n a B m b)).toArray
theorem aPp (l:Lf):l=Lf.zero↔(l.name=0∧l.pub=hzero∧l.ver=hzero∧l.abv=hzero):=by
 cases l
 simp[Lf.zero]
structure TrF (H:Hp) (v:Value) (t:Tr):Prop where
 ex:∃ A a B b qs,v=tv A t.ls.length a B t.ps.length b∧Sl H 97 A (t.ls.map Lf.fds)∧Sl H 66 B qs∧All2 (PnF H) qs t.ps
 len:t.ls.length≤maxLen∧t.ps.length≤maxLen
theorem TrF.mono {H H':Hp} {v:Value} {t:Tr} (h:TrF H v t) (k:H.le H'):TrF H' v t:=by
 obtain⟨A,a,B,b,qs,h1,h2,h3,h4⟩:=h.ex
 exact⟨⟨A,a,B,b,qs,h1,h2.mono k,h3.mono k,h4.mono fun _ _ h=>h.mono k⟩,h.len⟩
end Go.Proofs.YtgbenhmdamnmcaaGreat
namespace Go.Proofs.YtgbenhmdamnmcaaGreat.Cmt
open Tryz
open Go.RowKit Go.Proofs.YtgbenhmdamnmcaaGreat.Chg
structure Rn where
 pub:H32
 wraps:List ByteArray
structure Wl where
 name:Int
 card:Int
 wrap:ByteArray
deriving DecidableEq
abbrev sfd (s:ByteArray):List Fd:=[.one (.string s)]
abbrev Wl.fds (x:Wl):List Fd:=[.one (.int .i64 x.name),.one (.int .i64 x.card),.one (.string x.wrap)]
abbrev wv (x:Wl):Value:=.agg (fl x.fds).toArray
abbrev Rn.row (r:Rn) (C:Option Addr) (c:Nat):List Fd:=[.arr 32 (u8s r.pub.1),.one (.slice C r.wraps.length c)]
def RnF (H:Hp) (q:List Fd) (r:Rn):Prop:=∃ C c,q=r.row C c∧Sl H 1 C (r.wraps.map sfd)∧r.wraps.length≤maxLen
theorem RnF.mono {H H':Hp} {q:List Fd} {r:Rn} (h:RnF H q r) (k:H.le H'):RnF H' q r:=by
 obtain⟨C,c,h1,h2,h3⟩:=h
 exact⟨C,c,h1,h2.mono k,h3⟩
structure Cm where
 parent:H32
 depth:Int
 author:Int
 props:List Prp
 leaf:H32
 above:H32
 path:List Rn
 info:ByteArray
 wels:List Wl
 tag:H32
 sign:H32
abbrev cfd (P:Option Addr) (pc:Nat) (Q:Option Addr) (qc:Nat) (W:Option Addr) (wc:Nat) (c:Cm):List Fd:=
 [.arr 32 (u8s c.parent.1),.one (.int .i64 c.depth),.one (.int .i64 c.author),.one (.slice P c.props.length pc),.arr 32 (u8s c.leaf.1),.arr 32 (u8s c.above.1),.one (.slice Q c.path.length qc),.one (.string c.info),.one (.slice W c.wels.length wc),.arr 32 (u8s c.tag.1),.arr 32 (u8s c.sign.1)]
abbrev cv (P:Option Addr) (pc:Nat) (Q:Option Addr) (qc:Nat) (W:Option Addr) (wc:Nat) (c:Cm):Value:=.agg (fl (cfd P pc Q qc W wc c)).toArray
structure CmF (H:Hp) (P Q W:Option Addr) (qs:List (List Fd)) (c:Cm):Prop where
 props:Sl H 101 P (c.props.map Prp.fds)
 path:Sl H 33 Q qs
 path2:All2 (RnF H) qs c.path
 wels:Sl H 3 W (c.wels.map Wl.fds)
 len:c.props.length≤maxLen∧c.path.length≤maxLen∧c.wels.length≤maxLen∧c.info.size≤maxLen
theorem CmF.mono {H H':Hp} {P Q W:Option Addr} {qs:List (List Fd)} {c:Cm} (h:CmF H P Q W qs c) (k:H.le H'):CmF H' P Q W qs c:=
 ⟨h.props.mono k,h.path.mono k,h.path2.mono fun _ _ x=>RnF.mono x k,h.wels.mono k,h.len⟩
def longS (s:ByteArray):Bool:=decide (1024<s.size)
def Rn.odd (r:Rn):Bool:=decide (64<r.wraps.length)||r.wraps.any longS
def Wl.odd (x:Wl):Bool:=!decide (1≤x.name∧x.name≤64)||decide (x.card<0)||decide (4611686018427387903<x.card)||longS x.wrap
def Cm.fits (c:Cm):Prop:=(1≤c.depth∧c.depth≤4611686018427387903)∧(1≤c.author∧c.author≤64)∧c.props.length≤16∧c.path.length≤64∧c.info.size≤65536∧c.wels.length≤16
instance (c:Cm):Decidable c.fits:=by unfold Cm.fits;infer_instance
def Cm.right (c:Cm):Bool:=decide c.fits&&!c.path.any Rn.odd&&(!c.props.any (fun p=>!decide p.right)&&!c.wels.any Wl.odd)
end Go.Proofs.YtgbenhmdamnmcaaGreat.Cmt
namespace Go.Proofs.YtgbenhmdamnmcaaGreat.Cmt
open Tryz
open Go.RowKit Go.Proofs.YtgbenhmdamnmcaaGreat.Chg
structure Chn where
 kind:Int
 name:Int
 pub:H32
abbrev Chn.fds (c:Chn):List Fd:=[.one (.int .i64 c.kind),.one (.int .i64 c.name),.arr 32 (u8s c.pub.1)]
theorem Gh:Rdr prog 23 32 (fun _ fs (x:H32)=>fs=[.arr 32 (u8s x.1)]):=aPl Tryz.underlying23 Tryz.underlying5 (by kernel_rfl) (by kernel_rfl)
theorem Ii:Rdr prog 3 1 (fun _ fs (x:Int)=>fs=[.one (.int .i64 x)]∧(Lit.int .i64 x).wf=true):=aPk Tryz.underlying3 (by kernel_rfl)
theorem aNu:Rdr prog 9 1 (fun _ fs (x:ByteArray)=>fs=sfd x∧x.size≤maxLen):=aXz Tryz.underlying9 (by kernel_rfl)
theorem aYq:Rdr prog 73 34 (fun _ fs (x:Chn)=>fs=x.fds):=
 (Jo (sz:=34) Tryz.underlying73 (by kernel_rfl) (Rdf.cons Ii rfl rfl rfl (Rdf.cons Ii rfl rfl rfl (Rdf.cons Gh rfl rfl rfl (Rdf.nil _))))).map fun _ fs x _ h=>by
  obtain⟨g1,h1,rfl,_,⟨rfl,_⟩,g2,h2,rfl,_,⟨rfl,_⟩,g3,h3,rfl,_,rfl,rfl⟩:=h
  exact⟨⟨x.1,x.2.1,x.2.2.1⟩,rfl⟩
theorem aYr:Rdr prog 75 101 (fun _ fs (x:Prp)=>fs=x.fds∧True):=
 (Jo (sz:=101) Tryz.underlying75 (by kernel_rfl) (Rdf.cons Gh rfl rfl rfl (Rdf.cons Ii rfl rfl rfl (Rdf.cons Ii rfl rfl rfl (Rdf.cons Ii rfl rfl rfl (Rdf.cons aYq rfl rfl rfl (Rdf.cons Gh rfl rfl rfl (Rdf.nil _)))))))).map fun _ fs x _ h=>by
  obtain⟨g1,h1,rfl,_,rfl,g2,h2,rfl,_,⟨rfl,_⟩,g3,h3,rfl,_,⟨rfl,_⟩,g4,h4,rfl,_,⟨rfl,_⟩,g5,h5,rfl,_,rfl,g6,h6,rfl,_,rfl,rfl⟩:=h
  exact⟨⟨x.1,x.2.1,x.2.2.1,x.2.2.2.1,x.2.2.2.2.1.1,x.2.2.2.2.1.2,x.2.2.2.2.1.3,x.2.2.2.2.2.1⟩,rfl,trivial⟩
theorem aVf:Rdr prog 24 1 (fun H fs (xs:List Prp)=>∃ A cap,fs=[.one (.slice A xs.length cap)]∧xs.length≤maxLen∧Sl H 101 A (xs.map Prp.fds)):=
 (Pu Tryz.underlying24 (by kernel_rfl) (by omega) aYr).map fun H fs xs _ ⟨A,cap,ps,h1,h2,h3,h4⟩=>by
  obtain⟨rfl,_⟩:=All2.eq_map h4
  exact⟨xs,A,cap,h1,h2,h3⟩
theorem aYs:Rdr prog 41 1 (fun H fs (xs:List ByteArray)=>∃ A cap,fs=[.one (.slice A xs.length cap)]∧xs.length≤maxLen∧Sl H 1 A (xs.map sfd)):=
 (Pu Tryz.underlying41 (by kernel_rfl) (by omega) aNu).map fun H fs xs _ ⟨A,cap,ps,h1,h2,h3,h4⟩=>by
  obtain⟨rfl,_⟩:=All2.eq_map h4
  exact⟨xs,A,cap,h1,h2,h3⟩
theorem bBx:Rdr prog 43 33 RnF:=
 (Jo (sz:=33) Tryz.underlying43 (by kernel_rfl) (Rdf.cons Gh rfl rfl rfl (Rdf.cons aYs rfl rfl rfl (Rdf.nil _)))).map fun _ fs x _ h=>by
  obtain⟨g1,h1,rfl,_,rfl,g2,h2,rfl,_,⟨A,c,rfl,hl,hs⟩,rfl⟩:=h
  exact⟨⟨x.1,x.2.1⟩,A,c,rfl,hs,hl⟩
theorem aYt:Rdr prog 25 1 (fun H fs (xs:List Rn)=>∃ A cap ps,fs=[.one (.slice A xs.length cap)]∧xs.length≤maxLen∧Sl H 33 A ps∧All2 (RnF H) ps xs):=
 Pu Tryz.underlying25 (by kernel_rfl) (by omega) bBx
theorem bBy:Rdr prog 45 3 (fun _ fs (x:Wl)=>fs=x.fds∧x.wrap.size≤maxLen):=
 (Jo (sz:=3) Tryz.underlying45 (by kernel_rfl) (Rdf.cons Ii rfl rfl rfl (Rdf.cons Ii rfl rfl rfl (Rdf.cons aNu rfl rfl rfl (Rdf.nil _))))).map fun _ fs x _ h=>by
  obtain⟨g1,h1,rfl,_,⟨rfl,_⟩,g2,h2,rfl,_,⟨rfl,_⟩,g3,h3,rfl,_,⟨rfl,hl⟩,rfl⟩:=h
  exact⟨⟨x.1,x.2.1,x.2.2.1⟩,rfl,hl⟩
theorem aYu:Rdr prog 26 1 (fun H fs (xs:List Wl)=>∃ A cap,fs=[.one (.slice A xs.length cap)]∧xs.length≤maxLen∧Sl H 3 A (xs.map Wl.fds)):=
 (Pu Tryz.underlying26 (by kernel_rfl) (by omega) bBy).map fun H fs xs _ ⟨A,cap,ps,h1,h2,h3,h4⟩=>by
  obtain⟨rfl,_⟩:=All2.eq_map h4
  exact⟨xs,A,cap,h1,h2,h3⟩
theorem bBz:Rdr prog 28 166 (fun H fs (c:Cm)=>∃ P pc Q qc W wc qs,fs=cfd P pc Q qc W wc c∧CmF H P Q W qs c):=
 (Jo (sz:=166) Tryz.underlying28 (by kernel_rfl) (Rdf.cons Gh rfl rfl rfl (Rdf.cons Ii rfl rfl rfl (Rdf.cons Ii rfl rfl rfl (Rdf.cons aVf rfl rfl rfl (Rdf.cons Gh rfl rfl rfl (Rdf.cons Gh rfl rfl rfl (Rdf.cons aYt rfl rfl rfl (Rdf.cons aNu rfl rfl rfl (Rdf.cons aYu rfl rfl rfl (Rdf.cons Gh rfl rfl rfl (Rdf.cons Gh rfl rfl rfl (Rdf.nil _))))))))))))).map fun _ fs x _ h=>by
  obtain⟨g1,h1,rfl,_,rfl,g2,h2,rfl,_,⟨rfl,_⟩,g3,h3,rfl,_,⟨rfl,_⟩,g4,h4,rfl,_,⟨P,pc,rfl,hP,hP2⟩,g5,h5,rfl,_,rfl,g6,h6,rfl,_,rfl,g7,h7,rfl,_,⟨Q,qc,qs,rfl,hQ,hQ2,hQ3⟩,g8,h8,rfl,_,⟨rfl,hi⟩,g9,h9,rfl,_,⟨W,wc,rfl,hW,hW2⟩,g10,h10,rfl,_,rfl,g11,h11,rfl,_,rfl,rfl⟩:=h
  exact⟨⟨x.1,x.2.1,x.2.2.1,x.2.2.2.1,x.2.2.2.2.1,x.2.2.2.2.2.1,x.2.2.2.2.2.2.1,x.2.2.2.2.2.2.2.1,x.2.2.2.2.2.2.2.2.1,x.2.2.2.2.2.2.2.2.2.1,x.2.2.2.2.2.2.2.2.2.2.1⟩,P,pc,Q,qc,W,wc,qs,rfl,hP2,hQ2,hQ3,hW2,hP,hQ,hW,hi⟩
end Go.Proofs.YtgbenhmdamnmcaaGreat.Cmt
namespace Go.Proofs.YtgbenhmdamnmcaaGreat
open Tryz
open Go.RowKit
def fourB (n:Int):List Int:=[n / 16777216%256,n / 65536%256,n / 256%256,n%256]
theorem Yf (n:Int):∀ x∈fourB n,0≤x∧x<256:=by
 intro x hx
 simp only[fourB,List.mem_cons,List.not_mem_nil,or_false]at hx
 omega
theorem build4b (a b c d:Int) (w:World):(Aj 89 4 [(0,.int .u8 a),(1,.int .u8 b),(2,.int .u8 c),(3,.int .u8 d)]).run prog w=.ok (.value (.slice (some ⟨w.heap.size,0,none⟩) 4 4)) (w.alloc (.cells (u8s [a,b,c,d]).toArray 5)):=by kernel_rfl
theorem conv4 (a b c d:Int) (w:World) {w0:World} {L:List Bk} (h:St w0 L w):
  PurW prog (w.alloc (.cells (u8s [a,b,c,d]).toArray 5)) (Ay 89 9 (.slice (some ⟨w.heap.size,0,none⟩) 4 4)) (.string (strOfNums [a,b,c,d])):=
 Dk 89 9 5 w.heap.size 0 4 _ [a,b,c,d] (by kernel_rfl) (by kernel_rfl) (by kernel_rfl) rfl (fun i hi=>by
  rw[Nat.zero_add,(h.alloc 5 (u8s [a,b,c,d])).cell 0 rfl i]
  exact Iw [a,b,c,d] i (by simpa using hi))
theorem aPq (n:Int) (w:World):Calls prog 176 #[.int .i64 n] w fun e w'=>e=.returned (.string (strOfNums (fourB n)))∧St w [] w':=by
 refine aNf ?_
 unfold aBv
 (repeat (first|(refine Ab ?_ ?_;first|exact trivial|omega)|(refine An ?_ ?_;first|exact trivial|omega)))
 refine Ch (build4b _ _ _ _ _) ?_
 refine Dv (conv4 _ _ _ _ _ (St.nil w)) ?_
 exact⟨rfl,((St.nil w).alloc _ _).drop⟩
theorem build3s (a b c:ByteArray) (w:World):(Aj 41 3 [(0,.string a),(1,.string b),(2,.string c)]).run prog w=.ok (.value (.slice (some ⟨w.heap.size,0,none⟩) 3 3)) (w.alloc (.cells [Value.string a,.string b,.string c].toArray 9)):=by kernel_rfl
def derived (x:List Int) (l c:ByteArray):List Int:=hmac x (fourB l.size++(ints l++ints c))
set_option maxHeartbeats 1000000 in
theorem aRy (x:List Int) (l c:ByteArray) (w:World) (hx:x.length=32) (rx:∀ c∈x,0≤c∧c<256) (hl:l.size≤1000000) (hc:c.size≤1000000):
  Calls prog 126 #[hv x,.string l,.string c] w fun e w'=>e=.returned (hv (derived x l c))∧St w [] w':=by
 refine aGz ?_
 unfold Tm
 have z32:(u8s (List.replicate 32 0)).length=32:=by simp[u8s]
 refine aPd (St.nil w) (fun b w1 h1=>?_)
 have h1:St w [⟨b,23,u8s x,true⟩] w1:=by simpa [hv,Value.cells] using h1
 refine Dx h1 (fun r w3 h3=>?_)
 have h3:St w [⟨r,23,u8s (List.replicate 32 0),true⟩,⟨b,23,u8s x,true⟩] w3:=by simpa [u8s] using h3
 clear h1
 (repeat (first|(refine Ab ?_ ?_;first|exact trivial|omega)|(refine An ?_ ?_;first|exact trivial|omega)))
 refine Kw (fun w4 hw=>Dk 89 9 5 b 0 32 _ x (by kernel_rfl) (by kernel_rfl) (by kernel_rfl) hx (fun i hi=>hw.cell (by rw[Nat.zero_add,h3.cell 1 rfl i];exact Iw x i (by omega)))) ?_
 (repeat (first|(refine Ab ?_ ?_;first|exact trivial|omega)|(refine An ?_ ?_;first|exact trivial|omega)))
 refine Ej fun w4 hd4=>Ee (aPq l.size w4) ?_
 rintro e w5 ⟨rfl,h5⟩
 have x5:Ext w3 w5:=hd4.ext.trans h5.ext0
 have h5:=(h3.drawn hd4).call0 h5
 refine⟨fun _=>x5,?_⟩
 refine Ej fun w6 hd6=>Ch (build3s _ _ _ _) ⟨fun _=>hd6.ext.trans ((Only.refl _ w6).alloc _),?_⟩
 have h6:=h5.drawn hd6
 refine Ej fun w7 hd7=>?_
 have h7:=(h6.alloc 9 [Value.string (strOfNums (fourB l.size)),.string l,.string c]).drawn hd7
 have hcat:cat [strOfNums (fourB l.size),l,c]=fourB l.size++(ints l++ints c):=by simp[cat,Ck _ (Yf l.size)]
 have hc:=Ub (strOfNums x) (some ⟨w6.heap.size,0,none⟩) [strOfNums (fourB l.size),l,c] 3 w7 (.inr ⟨w6.heap.size,0,rfl,h7.head.lt,fun j u hu=>by rw[Nat.zero_add,h7.cell 0 rfl j];exact hu⟩) (by rw[strOfNums_size];omega) (by simp) (by rw[hcat];simp[fourB,Bm];omega)
 rw[hcat,Ck x rx]at hc
 refine Ee hc ?_
 rintro e w8 ⟨rfl,h8⟩
 have h8:=h7.drop.call0 h8
 refine⟨(fun e=>by cases e),?_⟩
 have hEl:(u8s (derived x l c)).length=32:=by rw[Ds,derived,Ir]
 refine Ej fun w9 hd9=>Dn (q:=true) (k:=32) (by kernel_rfl) (h8.drawn hd9) (by simpa [hv,Value.cells,derived] using hEl) (by intro u hu;exact Gx _ u hu) (by rw[z32];omega) (fun w8 h8=>⟨(fun e=>by cases e),?_⟩)
 have e:lay (u8s (List.replicate 32 0)) (hv (derived x l c)).cells.toList 0=u8s (derived x l c):=Hm _ _ (by show(u8s (derived x l c)).length=_;rw[hEl,z32])
 have h8:St w [⟨r,23,u8s (derived x l c),true⟩,⟨b,23,u8s x,true⟩] w8:=by rw[← e];exact h8
 refine Cn fun w9 hd9=>?_
 have h9:=h8.drawn hd9
 refine Lk (Ed h9.head) hEl ?_
 exact⟨rfl,h9.drop.drop⟩
theorem aCj (x:List Int) (l c:ByteArray):(derived x l c).length=32:=Ir _ _
end Go.Proofs.YtgbenhmdamnmcaaGreat
namespace Go.Proofs.YtgbenhmdamnmcaaGreat
open Tryz
open Go.RowKit
def hmacH (k m:List Int):H32:=⟨hmac k m,Ir k m,Nj k m⟩
def streamL (key:List Int) (k:Nat):List Int:=((List.range k).map fun(i:Nat)=>hmac key (fourB (i:Int))).flatten
theorem Fj (key:List Int):∀ k,(streamL key k).length=32*k
 | 0=>rfl
 | k+1=>by
   have:=Fj key k
   simp only[streamL,List.range_succ,List.map_append,List.flatten_append,List.length_append]at this ⊢
   rw[this]
   simp[Ir]
   omega
theorem Ud (key:List Int) (k:Nat):streamL key (k+1)=streamL key k++hmac key (fourB k):=by
 simp[streamL,List.range_succ]
theorem aEr (key:List Int) (k:Nat):∀ x∈streamL key k,0≤x∧x<256:=by
 intro x hx
 simp only[streamL,List.mem_flatten,List.mem_map]at hx
 obtain⟨_,⟨i,_,rfl⟩,hx⟩:=hx
 exact Nj _ _ x hx
def rowL (key:List Int) (n:Nat):List Int:=(streamL key (n / 32+1)).take n
theorem Ue (key:List Int) (k j:Nat) (h:k≤j):(streamL key j).take (32*k)=streamL key k:=by
 induction j with
 | zero=>
   have:k=0:=by omega
   subst this
   rfl
 | succ j ih=>
   rcases Nat.lt_or_ge j k with hlt|hge
   ·have:k=j+1:=by omega
    subst this
    rw[List.take_of_length_le (by rw[Fj];omega)]
   ·rw[Ud,List.take_append_of_le_length (by rw[Fj];omega)]
    exact ih hge
theorem aYv (key:List Int) (n k:Nat) (h:n≤32*k):(streamL key k).take n=rowL key n:=by
 unfold rowL
 rcases Nat.lt_or_ge k (n / 32+1) with hlt|hge
 ·rw[← Ue key k (n / 32+1) (by omega),List.take_take,Nat.min_eq_left h]
 ·rw[← Ue key (n / 32+1) k (by omega),List.take_take,Nat.min_eq_left (by omega)]
theorem aKt (key:List Int) (n:Nat):(rowL key n).length=n:=by
 unfold rowL
 rw[List.length_take,Fj]
 omega
theorem aNv (key:List Int) (n:Nat):∀ x∈rowL key n,0≤x∧x<256:=fun x hx=>aEr _ _ x (List.mem_of_mem_take hx)
section
variable {H:Hp} {w w0:World} {L R:List Res}
theorem aHz (s:ByteArray):cat [s]=ints s:=by simp[cat]
theorem aVg {A:Option Addr} {e:Nat} (key:H32) (i:Nat) (hM:Mem H w0 L w) [k:AtA L A 1 1 e 1 [[.one (.string (strOfNums (fourB i)))]] R]:
  Calls prog 169 #[.string (strOfNums key.1),.slice A 1 1] w fun en w'=>en=.returned (ha (hmacH key.1 (fourB i)))∧St w [] w':=by
 have hr:=hM.rd k
 have h:=Ub (strOfNums key.1) A [strOfNums (fourB i)] 1 w hr (by rw[strOfNums_size];rw[key.2.1];omega) (by simp) (by rw[aHz,Bm,strOfNums_size];simp[fourB])
 rw[aHz,Ck _ key.2.2,Ck _ (Yf _)]at h
 exact h
theorem aRz (key:H32) (n:Int) (hf:Fz H w):Calls prog 200 #[ha key,.int .i64 n] w fun e w'=>e=.returned (.string (if 1≤n∧n≤65536 then strOfNums (rowL key.1 n.toNat) else ByteArray.mk #[]))∧St w [] w':=by
 have hM:=Mem.start hf
 refine aHp ?_
 unfold Tw
 (((refine Bb hM ?_;clear hM;intro _ _ hM)))
 rename_i g _
 refine⟨fun x w'=>x=.bool (!decide (1≤n∧n≤65536))∧hM.now w',?_,?_⟩
 ·by_cases h:1≤n∧n≤65536
  ·(((refine Br trivial ?_ ?_));(focus (first|assumption|omega|with_reducible rfl|exact fun h=>Bool.noConfusion h));((refine Ae ?_;refine Ab trivial ?_;refine Ae ?_;refine Br trivial ?_ ?_));(focus (first|assumption|omega|with_reducible rfl|exact fun h=>Bool.noConfusion h));((refine Ab trivial ?_)))
   exact⟨by simp[h],hM⟩
  ·(((refine Av trivial ?_ ?_))) <;>
   ·intro h2
    (first|(((refine Ae ?_;refine Ab trivial ?_;refine Ae ?_;refine Cc trivial ?_ ?_));(focus (first|assumption|omega|with_reducible rfl|exact fun h=>Bool.noConfusion h));((refine Ab trivial ?_)))|(((refine Ar ?_;refine Ar ?_;refine Ab trivial ?_))))
    exact⟨by simp[h],hM⟩
 rintro x u w2 ⟨rfl,hM⟩
 by_cases h:1≤n∧n≤65536
 ·rw[if_pos h,decide_eq_true h]
  simp only[Bool.not_true]
  (((refine Al ?_)))
  refine⟨fun x y w'=>∃ (i:Nat) (A:Option Addr) (c:Nat),x=.slice A (32*i) c∧y=.int .i64 i∧(i=0∨32*(i - 1)<n)∧Mem H w [rowR 5 1 A (32*i) c (byts (streamL key.1 i)),fb g 23 [.arr 32 (u8s key.1)]] w',
   fun x _ _=>match x with | .slice _ k _=>n.toNat+32 - k|_=>0,⟨0,none,0,rfl,rfl,.inl rfl,hM.row0 5 1⟩,?_⟩
  rintro x y u w3 ⟨i,A,c,rfl,rfl,hi,hM⟩
  (((refine Ab trivial ?_)))
  (((refine Av trivial ?_ ?_)))
  ·intro hlt
   (((refine Am ?_)))
   refine⟨fun x w'=>∃ g7:Nat,x=.pointer (some ⟨g7,0,none⟩)∧Mem H w [fb g7 23 [.arr 32 (u8s (hmacH key.1 (fourB i)).1)],rowR 5 1 A (32*i) c (byts (streamL key.1 i)),fb g 23 [.arr 32 (u8s key.1)]] w',?_,?_⟩
   ·refine⟨?_,?_,?_,?_⟩
    all_goals
     (first|(((refine An trivial ?_;refine Cr hM ?_;refine Bx hM ?_;clear hM;intro _ _ hM)))|(((refine An trivial ?_;refine Cr hM ?_))))
     refine Bv hM (fun w hM=>aPq i w) (fun w4 _ hM=>?_)
     (first|(((refine By hM ?_ ?_ ?_));(focus rfl);(focus (constructor <;> simp));((clear hM;intro _ _ hM;refine Bx hM ?_;clear hM;intro _ _ hM)))|(((refine Bx hM ?_;clear hM;intro _ _ hM;refine By hM ?_ ?_ ?_));(focus rfl);(focus (constructor <;> simp));((clear hM;intro _ _ hM)))|(((refine By hM ?_ ?_ ?_));(focus rfl);(focus (constructor <;> simp));((clear hM;intro _ _ hM))))
     refine Bv hM (fun w hM=>aVg key i hM) (fun w5 _ hM=>?_)
     (first|(((refine Bx hM ?_;clear hM;intro _ _ hM;refine Cb hM ?_;clear hM;intro _ hM;refine Ba hM ?_;clear hM;intro _ hM)))|(((refine Cb hM ?_;clear hM;intro _ hM;refine Ba hM ?_;clear hM;intro _ hM))))
     exact⟨_,rfl,hM.sub⟩
   ·rintro x u w4 ⟨g7,rfl,hM⟩
    (((refine Ab trivial ?_)))
    refine aPj hM (by omega) (fun A' c' w5 hM=>?_)
    (((refine Ab ?_ ?_));(focus omega))
    refine⟨⟨i+1,A',c',by rw[Nat.mul_add],by simp,.inr (by simp;omega),?_⟩,by simp;omega⟩
    rw[Ud,Nat.mul_add]
    exact hM.rm g7
  ·intro hge
   have hl:=(hM.rowLen (A:=A) ⟨.refl _⟩)
   (((refine Al ?_;refine Ab ?_ ?_));(focus omega))
   refine Rh hM (by rw[Fj];omega) ?_
   rw[aYv _ _ _ (by omega)]
   exact⟨rfl,hM.st⟩
 ·rw[if_neg h,decide_eq_false h]
  simp only[Bool.not_false]
  (((refine Am ?_)))
  exact⟨trivial,hM.st⟩
theorem aVh {A:Option Addr} {e:Nat} (key:H32) (a b:ByteArray) (ha':a.size≤100000) (hb':b.size≤100000) (hM:Mem H w0 L w) [k:AtA L A 2 2 e 1 [[.one (.string a)],[.one (.string b)]] R]:
  Calls prog 169 #[.string (strOfNums key.1),.slice A 2 2] w fun en w'=>en=.returned (ha (hmacH key.1 (ints a++ints b)))∧St w [] w':=by
 have hr:=hM.rd k
 have h:=Ub (strOfNums key.1) A [a,b] 2 w hr (by rw[strOfNums_size];rw[key.2.1];omega) (by simp) (by simp[cat,Bm];omega)
 rw[Ck _ key.2.2]at h
 have e2:cat [a,b]=ints a++ints b:=by simp[cat]
 rw[e2]at h
 exact h
theorem aVi {A:Option Addr} {e:Nat} (key:H32) (a:ByteArray) (ha':a.size≤100000) (hM:Mem H w0 L w) [k:AtA L A 1 1 e 1 [[.one (.string a)]] R]:
  Calls prog 169 #[.string (strOfNums key.1),.slice A 1 1] w fun en w'=>en=.returned (ha (hmacH key.1 (ints a)))∧St w [] w':=by
 have hr:=hM.rd k
 have h:=Ub (strOfNums key.1) A [a] 1 w hr (by rw[strOfNums_size];rw[key.2.1];omega) (by simp) (by simp[cat,Bm];omega)
 rw[Ck _ key.2.2,aHz]at h
 exact h
def derivedH (x:List Int) (l c:ByteArray):H32:=⟨derived x l c,aCj _ _ _,Nj _ _⟩
theorem aNw (key:H32) (l c:ByteArray) (w:World) (hl:l.size≤1000000) (hc:c.size≤1000000):Calls prog 126 #[ha key,.string l,.string c] w fun e w'=>e=.returned (ha (derivedH key.1 l c))∧St w [] w':=aRy key.1 l c w key.2.1 key.2.2 hl hc
end
end Go.Proofs.YtgbenhmdamnmcaaGreat
namespace Go.Proofs.YtgbenhmdamnmcaaGreat
open Tryz
open Go.RowKit Go.Shelf Go.Lib
attribute [local go_sem] Oper.semAt_some
theorem aVj {n x:Int} (h:thr n x):ab n x<0∨level x<level (ab n x)∧level (ab n x)≤7:=by
 obtain⟨h1,h2,h3⟩:=id h
 have:=aYp ⟨n.toNat,by omega⟩ ⟨x.toNat,by omega⟩
 simp only[Int.toNat_of_nonneg h2,Int.toNat_of_nonneg (show 0≤n by omega)]at this
 exact this h
theorem aNx {n x:Int} (h:¬ab n x<0):thr n x:=Decidable.byContradiction fun hn=>h (by rw[aPo hn];omega)
theorem Only.grown0 {w w':World} (h:Only (fun k=>∃ b∈([]:List Bk),b.nw=false∧b.g=k) w w'):w.grownBy w' none:=⟨h.os,h.tape,h.output,h.size,fun k hk _=>h.block k hk (by rintro⟨_,hm,_⟩;cases hm)⟩
theorem bCa (n x:Int) (w:World):Calls prog 165 #[.int .i64 n,.int .i64 x] w fun en w'=>∃ b1 b2,en=.returned (.func (.func 201) #[] #[.pointer (some ⟨b1,0,none⟩),.pointer (some ⟨b2,0,none⟩)])∧Mem (Hp.of w) w [fb b2 3 [.one (.int .i64 x)],fb b1 3 [.one (.int .i64 n)]] w':=by
 have hM:=Mem.start (Fz.of w)
 refine aNb ?_
 unfold aBt
 (((refine Bb hM ?_;clear hM;intro _ _ hM;refine Bb hM ?_;clear hM;intro _ _ hM;refine Ab trivial ?_)))
 exact⟨_,_,rfl,hM⟩
def mea (v:Value):Nat:=match v with
 | .int _ k=>if k<0 then 0 else (9 - level k).toNat
 | _=>0
set_option maxRecDepth 100000 in
set_option maxHeartbeats 1000000 in
theorem bCb (m:Nat) (hm:2≤m) (l b1 b2:Nat) (n x:Int) (W0:Nat) (J Jx:List Int→World→Prop) (hJ:AbidesFrom W0 J)
  (hY:∀ pre y W,J pre W→pre.length<(dirF 8 n x).length→YieldAt Fence.wide (m - 1) prog l #[.int .i64 y] W fun e W'=>
   (e=.returned (.bool true)∧J (pre++[y]) W'∧W'.heap[b1]?=W.heap[b1]?)∨(e=.returned (.bool false)∧Jx (pre++[y]) W'))
  (W:World) (l1:b1<W.heap.size) (h1:W.cell? ⟨b1,0,none⟩=some (.int .i64 n)) (h2:W.cell? ⟨b2,0,none⟩=some (.int .i64 x)) (h0:J [] W):
  CallsIn Fence.wide m prog 201 #[.func (.yield l) #[] #[],.pointer (some ⟨b1,0,none⟩),.pointer (some ⟨b2,0,none⟩)] W fun e W'=>(∃ v,e=.returned v) ∧
   ((∃ ys,ys=dirF 8 n x∧J ys W')∨(∃ pre,pre <+: dirF 8 n x∧Jx pre W')):=by
 have f1:Fence.wide.fn 202:=trivial
 have m1:1≤m:=by omega
 refine callsIn_of_wp Tryz.func201 rfl trivial ?_ rfl
 simp only[Tryz.ntmps201,List.size_toArray,List.length_cons,List.length_nil,Nat.reduceAdd,Nat.reduceSub,Array.replicate_succ,Array.replicate_zero,List.push_toArray,List.append_toArray,List.nil_append,List.cons_append]
 gi_wp2_with (gi_at_call 202;refine(callsIn_wide.2 (Xa n x _)).mono ?_;rintro e w1 ⟨rfl,hst⟩)
 have hg:=Only.grown0 hst.only
 have hb1:w1.heap[b1]?=W.heap[b1]?∧W.heap.size≤w1.heap.size:=⟨hg.block b1 l1 (by simp),hg.size⟩
 have hJ1:J [] w1:=hJ [] W w1 none h0 hg (fun r e=>by cases e)
 gi_loopw [4] (fun p wr=>∃ (f:Nat) (y:Int) (pre:List Int),p=.int .i64 (ab n y)∧dirF 8 n x=pre++dirF f n y∧okd f n y=true∧J pre wr∧wr.heap[b1]?=W.heap[b1]?) (fun p _=>mea p)
 case atStart=>
  exact⟨8,x,[],rfl,rfl,bBw _ _,hJ1,hb1.1⟩
 case round=>
  obtain⟨f,y,pre,rfl,hx,ho,hJs,hB⟩:=hrel
  have c1:wr.cell? ⟨b1,0,none⟩=some (.int .i64 n):=(World.cell?_of_block (w:=W) (a:=⟨b1,0,none⟩) hB).trans h1
  by_cases hp:ab n y<0
  ·have hq:¬0≤ab n y:=by omega
   gi_wp2
   refine⟨fun _ h=>(by cases h),?_⟩
   gi_wp2
   go_end0
   exact⟨⟨_,rfl⟩,.inl ⟨pre,by rw[hx,aVe hp,List.append_nil],hJs⟩⟩
  ·have hq:0≤ab n y:=by omega
   obtain⟨g,rfl,e2,ho⟩:=aRw hp ho
   obtain⟨fn,tmps,assign,body,hy,hR⟩:=hY pre (ab n y) wr hJs (by rw[hx,e2];simp)
   gi_wp2
   refine hR.mono ?_
   rintro e W3 (⟨rfl,hJ3,hk3⟩|⟨rfl,hJx3⟩)
   ·have c3:W3.cell? ⟨b1,0,none⟩=some (.int .i64 n):=(World.cell?_of_block (w:=wr) (a:=⟨b1,0,none⟩) hk3).trans c1
    gi_wp2_with (gi_at_call 202;refine(callsIn_wide.2 (Xa n (ab n y) _)).mono ?_;rintro e w4 ⟨rfl,hst4⟩)
    have hg4:=Only.grown0 hst4.only
    have hB3:=hk3.trans hB
    have hl3:b1<W3.heap.size:=by
     have e:W3.heap[b1]?=some W.heap[b1]:=by rw[hB3];simp[l1]
     exact(Array.getElem?_eq_some_iff.1 e).1
    have hB4:w4.heap[b1]?=W3.heap[b1]?:=hg4.block b1 hl3 (by simp)
    have hJ4:J (pre++[ab n y]) w4:=hJ _ W3 w4 none hJ3 hg4 (fun r e=>by cases e)
    go_roundw
    case rel=>exact⟨g,ab n y,pre++[ab n y],rfl,by rw[hx,e2];simp,ho,hJ4,hB4.trans hB3⟩
    case measure=>
     have hp:¬ab n y<0:=by omega
     have ht:=aHy (aNx hp) hp
     have:=aVj ht
     have h8:=Jh (ab n y)
     have h7:=(aVj (aNx hp)).resolve_left hp
     show mea (.int .i64 (ab n (ab n y)))<mea (.int .i64 (ab n y))
     simp only[mea]
     rw[if_neg hp]
     split <;> omega
   ·gi_wp2
    go_end0
    exact⟨⟨_,rfl⟩,.inr ⟨pre++[ab n y],⟨dirF g n (ab n y),by rw[hx,e2];simp⟩,hJx3⟩⟩
theorem aVk (m:Nat) (hm:2≤m) (b1 b2:Nat) (n x:Int) (w:World) (l1:b1<w.heap.size) (l2:b2<w.heap.size) (h1:w.cell? ⟨b1,0,none⟩=some (.int .i64 n)) (h2:w.cell? ⟨b2,0,none⟩=some (.int .i64 x)):
  SeqStopsK Fence.wide m prog 201 #[.pointer (some ⟨b1,0,none⟩),.pointer (some ⟨b2,0,none⟩)] (fun y:Int=>#[Value.int .i64 y]) (fun A B=>B.heap[b1]?=A.heap[b1]?) (fun ys=>ys=dirF 8 n x) (fun pre=>pre <+: dirF 8 n x) (dirF 8 n x).length w:=fun l J Jx W hW hJ _ hY h0=>
 bCb m hm l b1 b2 n x W.heap.size J Jx hJ hY W (Nat.lt_of_lt_of_le l1 hW.size) ((hW.cell (p:=⟨b1,0,none⟩) l1).trans h1) ((hW.cell (p:=⟨b2,0,none⟩) l2).trans h2) h0
theorem Boxed.app2 {W w1:World} {n₀ n1 B:Nat} {t e:TypeId} {size:Nat} {v v':Value} {k m:Nat} {xs ys:List Value} {tmp:Obj}
  (hv:Boxed W B t v) (hte:t≠e) (hrow:W.ownsRow n₀ e size v k xs) (hn₀:n₀≤W.heap.size) (hn1:n1≤n₀) (hB:n1≤B)
  (hown':w1.ownsRow n₀ e size v' m ys) (hgrow:(W.alloc tmp).grownBy w1 v.ownBlock):
  Boxed w1 B t v∧Boxed (w1.setCell ⟨B,0,none⟩ v') B t v'∧(w1.setCell ⟨B,0,none⟩ v').ownsRow n₀ e size v' m ys∧KeepsOthers W (w1.setCell ⟨B,0,none⟩ v')∧Below n1 W (w1.setCell ⟨B,0,none⟩ v')∧∀ i,i<n₀→i≠B→(w1.setCell ⟨B,0,none⟩ v').heap[i]?=W.heap[i]?:=by
 have hv1:Boxed w1 B t v:=(hv.alloc tmp).kept hgrow (hv.not_row hte hrow)
 have hge:∀ j,v.ownBlock=some j→n₀≤j:=fun j ej=>by
  rcases hrow.2 with ⟨rfl,_⟩|⟨g,cap,cur,rfl,hb,_,_⟩
  ·simp[Value.ownBlock]at ej
  ·obtain rfl:g=j:=by simpa [Value.ownBlock] using ej
   exact hb
 refine⟨hv1,hv1.set v',hown'.kept (grownBy_setCell' w1 B v') (.inr (hv1.not_row hte hown').symm),?_,?_,?_⟩
 ·refine((KeepsOthers.alloc W tmp).trans (KeepsOthers.of_grownBy hgrow fun j o ej hj=>?_)).trans (KeepsOthers.setCell _ _ _)
  rcases(hrow.alloc tmp).2 with ⟨rfl,_⟩|⟨g,cap,cur,rfl,_,hgb,_⟩
  ·simp[Value.ownBlock]at ej
  ·obtain rfl:g=j:=by simpa [Value.ownBlock] using ej
   rw[hgb]at hj;cases hj;rfl
 ·refine(((Below.refl n1 W).alloc (Nat.le_trans hn1 hn₀) tmp).grown hgrow (by simp;omega) fun j ej=>?_).setCell (p:=⟨B,0,none⟩) hB v'
  exact Nat.le_trans hn1 (hge j ej)
 ·intro i hi hne
  have hs:w1.heap.size≥(W.alloc tmp).heap.size:=hgrow.size
  rw[World.size_alloc]at hs
  rw[(grownBy_setCell' w1 B v').block i (by omega) (by simpa using hne)]
  rw[hgrow.block i (by rw[World.size_alloc];omega) (fun e=>by have:=hge i e.symm;omega)]
  exact Below.heap_alloc W tmp i (by omega)
theorem info3:(prog.info? 3).map (fun i=>(i.zero,i.size,i.bytes))=some (some (.int .i64 0),1,8):=by kernel_rfl
set_option maxRecDepth 100000 in
set_option maxHeartbeats 2000000 in
theorem bCc (n l:Int) (hl:0≤l∧l<n) (hb:l≤1000000) (w:World):
  Calls prog 89 #[.int .i64 n,.int .i64 l] w fun e W'=>∃ v,e=.returned v∧W'.ownsRow w.heap.size 3 1 v (dirL n l).length ((dirL n l).map (Value.int .i64))∧Below w.heap.size w W':=by
 have hD:dirL n l=dirF 8 n (2*l):=if_pos hl
 have hlen:=Uc n l
 rw[hD]at hlen ⊢
 have hw:IntKind.i64.wrap (2*l)=2*l:=Mx (by omega)
 obtain⟨i0,hi,hz0,hz1,hz2⟩:=info_parts info3
 have f1:Fence.wide.fn 165:=trivial
 have hn1:¬l<0:=by omega
 have hn2:¬n≤l:=by omega
 have hmx:9≤maxLen:=by decide
 refine(callsIn_wide (n:=8)).1 ?_
 refine callsIn_of_wp_marks Tryz.func89 rfl trivial ?_ rfl
 simp only[Tryz.ntmps89,List.size_toArray,List.length_cons,List.length_nil,Nat.reduceAdd,Nat.reduceSub,Array.replicate_succ,Array.replicate_zero,List.push_toArray,List.append_toArray,List.nil_append,List.cons_append]
 gi_wp2_with (gi_at_call 165;refine(callsIn_wide.2 (bCa n (2*l) _)).mono ?_;rintro e w2 ⟨b1,b2,rfl,hM⟩)
 have hgr:=Only.grown0 hM.st.only
 have bO:Boxed w2 w.heap.size 133 (.slice none 0 0):=(Boxed.new w _ _).kept hgr (by simp)
 have hsz:w.heap.size+1≤w2.heap.size:=by have:=hgr.size;rwa [World.size_alloc]at this
 have hB0:Below w.heap.size w w2:=((Below.refl _ w).alloc (Nat.le_refl _) _).trans (hM.st.only.below (by simp) (fun i _ h=>by obtain⟨_,hm,_⟩:=h;cases hm))
 obtain⟨k1,_⟩:=Mem.blf (g:=b1) (hM.upB b1) inferInstance
 obtain⟨k2,_⟩:=Mem.blf (g:=b2) (hM.upB b2) inferInstance
 have hne:b1≠w.heap.size:=by
  rintro rfl
  obtain⟨fr,h1,_⟩:=k1
  rw[show w2.heap[w.heap.size]?=_ from bO]at h1
  simp at h1
 refine wpIn_rangeFunc_ownG rfl (by omega) (gf:=201) (lb:=#[.pointer (some ⟨b1,0,none⟩),.pointer (some ⟨b2,0,none⟩)]) rfl trivial (enters_of Tryz.func201 (by kernel_rfl) rfl)
  (aVk _ (by omega) b1 b2 n (2*l) w2 k1.lt k2.lt (by rw[k1.cell];rfl) (by rw[k2.cell];rfl)) (fun h k=>Eq.trans k h) (fun W j o o' hj _ _ _=>?kb) (Below.refl _ _) (fun _=>rfl)
  (fun pre W=>(∃ v,Boxed W w.heap.size 133 v∧W.ownsRow w2.heap.size 3 1 v pre.length (pre.map (Value.int .i64))∧True)∧Below w.heap.size w W∧w2.heap.size≤W.heap.size)
  (fun _ _ _=>False)
  (OwnFrom.and (Own.from (holdsRow_own w2.heap.size w.heap.size 133 3 1 (fun pre:List Int=>pre.length) (fun pre=>pre.map (Value.int .i64)) (fun _ _=>True)) _) (OwnFrom.and (ownFrom_below (Nat.le_refl _) (by omega)) (fun s A B row hs hg hr=>Nat.le_trans hs hg.size)))
  (fun _ _ _ _ _ hs _ _=>hs)
  ⟨⟨_,bO,World.ownsRow_nil _ _ _ _,trivial⟩,hB0,Nat.le_refl _⟩
  (fun x=>{ tmps:=#[.int .i64 n,.int .i64 l,undef,undef,.slice none 0 0,.pointer (some ⟨w.heap.size,0,none⟩),.int .i64 x,.int .i64 l,.bool false,.bool false,.int .i64 l,.int .i64 n,.bool false,.bool false,.int .i64 n,.int .i64 l,.int .i64 (2*l),.func (.func 201) #[] #[.pointer (some ⟨b1,0,none⟩),.pointer (some ⟨b2,0,none⟩)],.int .i64 x,undef,undef,undef,undef,undef],defers:=[] }) ?assign ?body ?done ?stop
 case kb=>exact(grownBy_putObj' W j o').block b1 (by have:=k1.lt;have:=(Array.getElem?_eq_some_iff.1 ‹W.heap[j]?=some o›).1;omega) (by have:=k1.lt;simp;omega)
 case assign=>
  intro l x W K hK
  gi_wp2
  exact hK
 case body=>
  rintro l pre x W ⟨⟨v,hv,hrow,-⟩,hB,hsw⟩ hlt
  have hc:=hv.cell
  gi_wp2_with (gi_at_builtin;refine wpListIn_append_own _ rfl _ _ 133 rfl w2.heap.size 3 i0 (.int .i64 0) 1 8 (by kernel_rfl) hi hz0 hz1 hz2 rfl (by decide) _ _ _ rfl (hrow.alloc _) ⟨W.heap.size,0,none⟩ 1 1 [.int .i64 x] rfl rfl (cell_one_new _ _ _) (by simp[Value.oneCell']) (by omega) (by omega) (by simp;omega) ?_;intro v' w1 hown' hgrow _;obtain⟨g',cap',rfl⟩:=ownsRow_succ hown';obtain⟨hv1,hv2,hr2,hk2,hb2,hx2⟩:=Boxed.app2 hv (n1:=w.heap.size) (by decide) hrow hsw (by omega) (Nat.le_refl _) hown' hgrow;have hc1:=hv1.cell;have hf1:=hv1.frozen)
  exact⟨hk2.from _,hx2 b1 k1.lt hne,⟨_,hv2,by simpa using hr2,trivial⟩,hB.trans hb2,Nat.le_trans hsw hb2.size⟩
 case done=>
  rintro D ys W hD rfl ⟨⟨v,hv,hrow,-⟩,hB,hsw⟩ hK
  have hc:=hv.cell
  gi_wp2
  refine⟨by simp,.inl ⟨_,_,rfl,run_takeDeferred hK,?_⟩⟩
  exact⟨_,results_tmp rfl _ _ _,v,rfl,⟨(ownsRow_putObj hrow (.deferred none) hK rfl).1,(ownsRow_putObj hrow (.deferred none) hK rfl).2.imp id fun⟨g,cap,cur,h1,h2,h3⟩=>⟨g,cap,cur,h1,by omega,h3⟩⟩,hB.trans (belowK_b (w:=w) (Nat.le_refl _) W D _ _ (by omega) hK rfl rfl)⟩
 case stop=>
  rintro D c pre W _ _ h _
  exact h.elim
set_option maxRecDepth 100000 in
set_option maxHeartbeats 2000000 in
theorem aYw (n l:Int) (hl:l<0∨n≤l) (w:World):Calls prog 89 #[.int .i64 n,.int .i64 l] w fun e W'=>e=.returned (.slice none 0 0)∧Below w.heap.size w W':=by
 refine(callsIn_wide (n:=8)).1 ?_
 refine callsIn_of_wp_marks Tryz.func89 rfl trivial ?_ rfl
 simp only[Tryz.ntmps89,List.size_toArray,List.length_cons,List.length_nil,Nat.reduceAdd,Nat.reduceSub,Array.replicate_succ,Array.replicate_zero,List.push_toArray,List.append_toArray,List.nil_append,List.cons_append]
 by_cases h1:l<0
 ·gi_wp2
  exact⟨_,results_tmp rfl _ _ _,rfl,Below.refl _ _⟩
 ·have h2:n≤l:=by omega
  gi_wp2
  exact⟨_,results_tmp rfl _ _ _,rfl,Below.refl _ _⟩
theorem aSa (l:List Int):fls (ints8 l)=l.map (Value.int .i64):=by
 induction l with
 | nil=>rfl
 | cons x r ih=>
   show fls ([.one (.int .i64 x)]::ints8 r)=_
   rw[Gy,ih]
   rfl
theorem aPr {H:Hp} {w W':World} {e:TypeId} {v:Value} {D:List Int} (hf:Fz H w) (ho:W'.ownsRow w.heap.size e 1 v D.length (D.map (Value.int .i64))) (hb:Below w.heap.size w W'):
  Outp H w (fun H' v=>∃ A cap,v=.slice A D.length cap∧Sl H' 1 A (ints8 D)) (.returned v) W':=by
 have hst:St w [] W':=⟨(fun _ h=>by cases h),.nil,(fun _ h=>by cases h),Only.of_below hb fun i hi hge=>by omega⟩
 have hF:∀ b c,H b=some c→∃ t fr,W'.heap[b]?=some (.cells c t fr):=fun b c hc=>by
  obtain⟨t,fr,h⟩:=hf b c hc
  exact⟨t,fr,(hb.block b (hf.lt hc)).trans h⟩
 rcases ho.2 with ⟨rfl,hn⟩|⟨g,cap,cur,rfl,hge,hgb,hnc,hcm,hsz,htk⟩
 ·have hD:D=[]:=List.eq_nil_of_length_eq_zero hn
  subst hD
  exact⟨_,H,rfl,Le.refl _ _,⟨⟨[],rfl,hst,fun _ h=>by cases h⟩,hF⟩,none,0,rfl,Sl.nil _ _ _⟩
 ·have hg0:H g=none:=by
   cases hh:H g with
   | none=>rfl
   | some c=>have:=hf.lt hh;omega
  refine⟨_,fun k=>if k=g then some cur else H k,rfl,⟨fun b c hc=>?_,fun b hb' hn=>?_⟩,⟨⟨[],rfl,hst,fun _ h=>by cases h⟩,fun b c hc=>?_⟩,some ⟨g,0,none⟩,cap,rfl,aRx D,.inr ⟨g,0,cur,rfl,if_pos rfl,fun j u hu=>?_⟩⟩
  ·show(if b=g then some cur else H b)=some c
   rw[if_neg (by rintro rfl;rw[hg0]at hc;cases hc)]
   exact hc
  ·show(if b=g then some cur else H b)=none
   rw[if_neg (by omega)]
   exact hn
  ·have hc:(if b=g then some cur else H b)=some c:=hc
   by_cases e:b=g
   ·rw[if_pos e]at hc
    cases hc
    exact⟨_,_,by rw[e];exact hgb⟩
   ·rw[if_neg e]at hc
    exact hF b c hc
  ·rw[aSa,← htk]at hu
   rw[Nat.zero_add,← Array.getElem?_toList]
   rw[List.getElem?_take]at hu
   split at hu
   ·exact hu
   ·cases hu
theorem Sb {H:Hp} {w:World} (n l:Int) (hb:l≤1000000) (hf:Fz H w):Calls prog 89 #[.int .i64 n,.int .i64 l] w (Outp H w (fun H' v=>∃ A cap,v=.slice A (dirL n l).length cap∧Sl H' 1 A (ints8 (dirL n l)))):=by
 by_cases hl:0≤l∧l<n
 ·refine(bCc n l hl hb w).mono ?_
  rintro e W' ⟨v,rfl,ho,hB⟩
  exact aPr hf ho hB
 ·refine(aYw n l (by omega) w).mono ?_
  rintro e W' ⟨rfl,hB⟩
  have:dirL n l=[]:=if_neg hl
  rw[this]
  exact aPr (e:=3) (D:=[]) hf ⟨rfl,.inl ⟨rfl,rfl⟩⟩ hB
end Go.Proofs.YtgbenhmdamnmcaaGreat
namespace Go.Proofs.YtgbenhmdamnmcaaGreat
open Tryz
open Go.RowKit Go.Lib
instance {P:Program} {ts:Array TypeId} {ty:TypeId} {cs:List Bool} {k k':IntKind} (x y:Int):StepC P (Ai .max ts ty cs [.int k x,.int k' y]) True (.int k (if x<y then y else x)):=⟨fun _ w=>by simp[Ai,invoke,go_sem]⟩
def seenL (s:List Int):List Value:=(List.range 65).map fun(i:Nat)=>.bool (decide ((i:Int)∈s))
theorem aVl (s:List Int) {i:Int} (h:0≤i∧i≤64):(seenL s)[i.toNat]?=some (.bool (decide (i∈s))):=by
 unfold seenL
 have hi:i.toNat<65:=by omega
 simp[hi,Int.toNat_of_nonneg h.1]
theorem aSb (s:List Int) {i:Int} (h:0≤i∧i≤64):(seenL s).set i.toNat (.bool true)=seenL (i::s):=by
 unfold seenL
 refine List.ext_getElem (by simp) fun k h1 h2=>?_
 simp only[List.getElem_set,List.getElem_map,List.getElem_range,List.mem_cons]
 split
 ·rename_i e
  have:(k:Int)=i:=by omega
  simp[this]
 ·rename_i e
  have:(k:Int)≠i:=by omega
  simp[this]
theorem aVm (s:List Int):FdOk (.arr 65 (seenL s)):=⟨by simp[Fd.cells,Fd.size,seenL],fun u hu=>by
 simp only[Fd.cells,seenL,List.mem_map]at hu
 obtain⟨_,_,rfl⟩:=hu
 rfl⟩
theorem aSc:List.replicate 65 (Value.bool false)=seenL []:=rfl
theorem aIa {s:List Int} {ls:List Lf} {i:Nat} (h:i<ls.length):leavesB s (ls.drop i)=if ls[i]=Lf.zero then leavesB s (ls.drop (i+1)) else decide ((1≤ls[i].name∧ls[i].name≤64)∧ls[i].name∉s)&&leavesB (ls[i].name::s) (ls.drop (i+1)):=by
 rw[List.drop_eq_getElem_cons h,leavesB]
theorem aSd {n:Int} {ls:List Lf} {x:Int} {ps:List Pn} {i:Nat} (h:i<ps.length):parB n ls x (ps.drop i)=((ps[i].set||decide ps[i].isZero)&&looseB n ls x none ps[i].loose&&parB n ls (x+2) (ps.drop (i+1))):=by
 rw[List.drop_eq_getElem_cons h,parB]
theorem aKu {n:Int} {ls:List Lf} {x:Int} {o:Option Int} {l:List Int} {i:Nat} (h:i<l.length):looseB n ls x o (l.drop i)=(decide (hld n x l[i]∧nameAt ls l[i]≠0∧∀ q∈o,q<l[i])&&looseB n ls x (some l[i]) (l.drop (i+1))):=by
 rw[List.drop_eq_getElem_cons h,looseB]
def prv (l:List Int):Nat→Option Int
 | 0=>none
 | k+1=>l[k]?
theorem Qa {ls:List Lf} {p:Int} (h0:0≤p) (h:p.toNat<ls.length):nameAt ls p=ls[p.toNat].name:=by
 unfold nameAt
 rw[List.getElem?_eq_getElem h]
theorem Uf {n x p:Int} (h:hld n x p):0≤p∧p<n∧thr n x:=by
 by_cases ht:thr n x
 ·obtain⟨-,-,-,-,-,hT,-⟩:=Is ht
  have h1:fro n x=(fd n x).1:=if_pos ht
  have h2:=(bAy ht).1
  have h3:pTo n x≤n:=by unfold pTo;rw[if_pos ht];omega
  obtain⟨a,b⟩:=h
  exact⟨by omega,by omega,ht⟩
 ·obtain⟨a,b⟩:=h
  rw[aUz ht]at a
  rw[aVa ht]at b
  omega
section
variable {H:Hp} {w0 w:World} {L:List Res} {A B:Option Addr} {a b:Nat} {t:Tr} {qs:List (List Fd)}
theorem aYx (p:Pn) (C:Option Addr) (c:Nat) (w:World):Calls prog 177 #[.agg (fl (p.row C c)).toArray] w fun en w'=>en=.returned (.bool (decide p.isZero))∧St w [] w':=by
 have hM:=Mem.start (Fz.of w)
 refine aKh ?_
 unfold Ya
 (((refine Bb hM ?_;clear hM;intro _ _ hM;refine Ab trivial ?_;refine Ao hM ?_;refine Ab trivial ?_)))
 cases hs:p.set
 ·rw[Bool.not_false]
  (((refine Ae ?_;refine Ab trivial ?_;refine Ae ?_;refine Ao hM ?_;refine Ae ?_;refine Ab trivial ?_;refine Ae ?_)))
  (((refine Av trivial ?_ ?_)))
  ·intro h1
   (((refine Ab trivial ?_;refine Ae ?_;refine Ab trivial ?_;refine Ae ?_;refine Ao hM ?_;refine Ae ?_;refine Ab trivial ?_;refine Ae ?_)))
   (((refine Av trivial ?_ ?_)))
   ·intro h2
    (((refine Ab trivial ?_;refine Ae ?_;refine Ab trivial ?_;refine Ae ?_;refine Ao hM ?_;refine Ae ?_;refine Ab trivial ?_;refine Ae ?_)))
    (((refine Av trivial ?_ ?_)))
    ·intro h3
     (((refine Ab trivial ?_)))
     exact⟨by rw[decide_eq_true (show p.isZero from⟨hs,h1,h2,List.eq_nil_of_length_eq_zero (by omega)⟩)],hM.st⟩
    ·intro h3
     (((refine Ab trivial ?_)))
     exact⟨by rw[decide_eq_false (show ¬p.isZero from fun h=>h3 (by rw[h.2.2.2];rfl))],hM.st⟩
   ·intro h2
    (((refine Ab trivial ?_;(iterate 4 refine Bq ?_);refine Ab trivial ?_)))
    exact⟨by rw[decide_eq_false (show ¬p.isZero from fun h=>h2 h.2.2.1)],hM.st⟩
  ·intro h1
   (((refine Ab trivial ?_;(iterate 4 refine Bq ?_);refine Ab trivial ?_;(iterate 4 refine Bq ?_);refine Ab trivial ?_)))
   exact⟨by rw[decide_eq_false (show ¬p.isZero from fun h=>h1 h.2.1)],hM.st⟩
 ·rw[Bool.not_true]
  ((((iterate 4 refine Bq ?_);refine Ab trivial ?_;(iterate 4 refine Bq ?_);refine Ab trivial ?_;(iterate 4 refine Bq ?_);refine Ab trivial ?_)))
  exact⟨by rw[decide_eq_false (show ¬p.isZero from fun h=>by rw[h.1]at hs;cases hs)],hM.st⟩
instance (p:Pn) (C:Option Addr) (c:Nat):PurC prog 177 [.agg (fl (p.row C c)).toArray] True (.bool (decide p.isZero)):=⟨fun _ w=>aYx p C c w⟩
theorem Er (h1:Sl H 97 A (t.ls.map Lf.fds)) (h2:Sl H 66 B qs) (h3:All2 (PnF H) qs t.ps) (hl:t.ls.length≤maxLen) (hp:t.ps.length≤maxLen) (hf:Fz H w):
  Calls prog 127 #[tv A t.ls.length a B t.ps.length b] w fun en w'=>en=.returned (.bool t.right)∧St w [] w':=by
 have hM:=Mem.start hf
 refine aHb ?_
 unfold Tn
 have hl':t.ls.length≤9223372036854775807:=hl
 have hp':t.ps.length≤9223372036854775807:=hp
 have hq:qs.length=t.ps.length:=h3.len
 have hts:t.size=t.ls.length:=rfl
 (((refine Bb hM ?_;clear hM;intro _ _ hM;refine Ab trivial ?_;refine Ao hM ?_;refine Ab trivial ?_)))
 rename_i g1 _
 refine⟨fun v w'=>v=.bool (!decide (t.ls.length≤64∧t.ps.length=t.ls.length - 1))∧hM.now w',?_,?_⟩
 ·(((refine Av trivial ?_ ?_)))
  ·intro h
   ((((iterate 7 refine Ar ?_);refine Ab trivial ?_)))
   exact⟨by rw[decide_eq_false (by omega)];rfl,hM⟩
  ·intro h
   (((refine Ae ?_;refine Ab trivial ?_;refine Ae ?_;refine Ao hM ?_;refine Ae ?_;refine Ab trivial ?_;refine Ae ?_;refine Ab trivial ?_;refine Ae ?_;refine Ab ?_ ?_));(focus omega);((refine Ae ?_;refine Ab trivial ?_;refine Ae ?_)))
   rw[show(if (t.ls.length:Int) - 1<0 then 0 else (t.ls.length:Int) - 1)=((t.ls.length - 1:Nat):Int) by split <;> omega]
   (((refine Av trivial ?_ ?_)))
   ·intro h4
    (((refine Ab trivial ?_)))
    exact⟨by rw[decide_eq_false (by omega)];rfl,hM⟩
   ·intro h4
    (((refine Ab trivial ?_)))
    exact⟨by rw[decide_eq_true (by omega)];rfl,hM⟩
 rintro v u w2 ⟨rfl,hM⟩
 by_cases hsz:t.ls.length≤64∧t.ps.length=t.ls.length - 1
 case neg=>
  rw[decide_eq_false hsz]
  (((refine aCf ?_)))
  refine⟨?_,hM.st⟩
  unfold Tr.right
  rw[decide_eq_false hsz]
  rfl
 rw[decide_eq_true hsz]
 (((refine aCe ?_;refine Bj hM ?_;clear hM;intro _ _ hM;refine Ab trivial ?_;refine Ao hM ?_;refine Ab trivial ?_)))
 rename_i g2 _
 rw[aSc]at hM
 refine⟨fun v w'=>∃ (i:Nat) (s:List Int),v=.int .i64 i∧i≤t.ls.length∧leavesB [] t.ls=leavesB s (t.ls.drop i)∧Mem H w [fb g2 267 [.arr 65 (seenL s)],fb g1 58 (tfd A t.ls.length a B t.ps.length b)] w',fun v _=>match v with | .int _ k=>t.ls.length - k.toNat|_=>0,⟨0,[],rfl,by omega,rfl,hM⟩,?_⟩
 clear hM
 rintro v u2 w3 ⟨i,s,rfl,hi,hb,hM⟩
 have hso:=aVm s
 (((refine Av trivial ?_ ?_)))
 ·intro hlt
  have hdr:=aIa (s:=s) (ls:=t.ls) (i:=i) (by omega)
  (((refine Am ?_)))
  refine⟨fun w'=>∃ s',leavesB [] t.ls=leavesB s' (t.ls.drop (i+1))∧Mem H w [fb g2 267 [.arr 65 (seenL s')],fb g1 58 (tfd A t.ls.length a B t.ps.length b)] w',?_,?_⟩
  ·((refine Ca ‹_› ?_ ?_ ?_);(focus (simp only[List.length_map];omega));(focus (simp only[List.length_map];first|done|omega));((intro _ _ hA));(cases hA);(refine Bt hM ‹_› (Bs ?_) ?_);(focus omega);((refine Bj hM ?_;clear hM;intro _ _ hM;refine Bi hM ?_;clear hM;intro _ hM;refine Ao hM ?_;refine Ab trivial ?_)))
   (((refine Av trivial ?_ ?_)))
   ·intro hz
    (((refine Am ?_)))
    exact⟨s,by rw[hb,hdr,if_pos ((aPp _).2 hz)],hM.sub⟩
   ·intro hz
    rw[if_neg (fun e=>hz ((aPp _).1 e))]at hdr
    (((refine Al ?_)))
    refine⟨fun v w'=>v=.bool (!decide ((1≤t.ls[i].name∧t.ls[i].name≤64)∧t.ls[i].name∉s))∧hM.now w',?_,?_⟩
    ·(((refine Ab trivial ?_;refine Ao hM ?_)))
     (((refine Av trivial ?_ ?_)))
     ·intro h
      ((((iterate 3 refine Ar ?_);refine Ab trivial ?_;(iterate 4 refine Ar ?_);refine Ab trivial ?_)))
      exact⟨by rw[decide_eq_false (by omega)];rfl,hM⟩
     ·intro h
      (((refine Ae ?_;refine Ab trivial ?_;refine Ae ?_;refine Ao hM ?_;refine Ae ?_)))
      (((refine Av trivial ?_ ?_)))
      ·intro h4
       (((refine Ab trivial ?_;(iterate 4 refine Ar ?_);refine Ab trivial ?_)))
       exact⟨by rw[decide_eq_false (by omega)];rfl,hM⟩
      ·intro h4
       have hs:=aVl s (i:=t.ls[i].name) (by omega)
       (((refine Ab trivial ?_;refine Ae ?_;refine Ab trivial ?_;refine Ae ?_;refine Ao hM ?_;refine Ae ?_;refine Ab ?_ ?_));(focus omega);((refine Ae ?_)))
       refine bBm hM hs ?_
       (((refine Ab trivial ?_)))
       exact⟨by simp[show 1≤t.ls[i].name by omega,show t.ls[i].name≤64 by omega],hM⟩
    rintro v u4 w5 ⟨rfl,hM⟩
    by_cases hc:(1≤t.ls[i].name∧t.ls[i].name≤64)∧t.ls[i].name∉s
    ·rw[decide_eq_true hc]
     (((refine aCe ?_;refine Ab trivial ?_;refine Ao hM ?_;refine Ab ?_ ?_));(focus omega);((refine aUj hM ?_ ?_));(focus omega);((clear hM;intro _ hM)))
     rw[aSb s (by omega)]at hM
     exact⟨t.ls[i].name::s,by rw[hb,hdr,decide_eq_true hc,Bool.true_and],hM.sub⟩
    ·rw[decide_eq_false hc]
     (((refine aCf ?_)))
     refine⟨?_,hM.st⟩
     unfold Tr.right
     rw[hb,hdr,decide_eq_false hc]
     simp
  ·rintro u3 w4 ⟨s',hb',hM⟩
   (((refine Ab ?_ ?_));(focus omega))
   exact⟨⟨i+1,s',rfl,by omega,hb',hM⟩,by simp only;omega⟩
 ·intro hge
  have hls:leavesB [] t.ls=true:=by
   rw[hb,List.drop_eq_nil_of_le (by omega)]
   rfl
  (((refine Al ?_;refine Ab trivial ?_;refine Ao hM ?_;refine Ab trivial ?_)))
  have hM:=hM.at_ (fb g1 58 (tfd A t.ls.length a B t.ps.length b))
  refine⟨fun v w'=>∃ i:Nat,v=.int .i64 i∧i≤t.ps.length∧parB t.size t.ls 1 t.ps=parB t.size t.ls (2*i+1) (t.ps.drop i)∧Mem H w [fb g1 58 (tfd A t.ls.length a B t.ps.length b)] w',fun v _=>match v with | .int _ k=>t.ps.length - k.toNat|_=>0,⟨0,rfl,by omega,rfl,hM.sub⟩,?_⟩
  clear hM hi hb hge hso
  rintro v u5 w5 ⟨i,rfl,hi,hb,hM⟩
  (((refine Av trivial ?_ ?_)))
  ·intro hlt
   obtain⟨p,hpe⟩:∃ p,t.ps[i]=p:=⟨_,rfl⟩
   obtain⟨q,hq1,C,c,rfl,hC,hcl⟩:=h3.at_ (i:=i) (by omega)
   have hdr:=aSd (n:=t.size) (ls:=t.ls) (x:=2*i+1) (ps:=t.ps) (i:=i) (by omega)
   rw[hpe]at hq1 hC hcl hdr
   have hcl':p.loose.length≤9223372036854775807:=hcl
   (((refine Am ?_)))
   refine Ca h2 (by omega) hq.symm (fun bb oo hB=>?_)
   cases hB
   refine Bt hM h2 hq1 ?_
   (((refine Bj hM ?_;clear hM;intro _ _ hM;refine Bi hM ?_;clear hM;intro _ hM)))
   rename_i g3 _ _
   refine⟨fun v w'=>v=.bool (!(p.set||decide p.isZero))∧hM.now w',?_,?_⟩
   ·(((refine Ab trivial ?_;refine Ao hM ?_;refine Ab trivial ?_)))
    rcases Bool.eq_false_or_eq_true p.set with hs|hs
    ·have e:(!p.set)=false:=by rw[hs];rfl
     rw[e]
     ((((iterate 3 refine Bq ?_);refine Ab trivial ?_)))
     exact⟨by rw[hs,Bool.true_or];rfl,hM⟩
    ·have e:(!p.set)=true:=by rw[hs];rfl
     rw[e]
     (((refine Ae ?_;refine Ao hM ?_;refine Ae ?_;refine Bg hM ?_ (fun _ hM2=>?_)));(focus (first|exact trivial|assumption|omega));((replace hM:=hM2;clear hM2;refine Ae ?_;refine Ab trivial ?_;refine Ab trivial ?_)))
     exact⟨by rw[hs,Bool.false_or],hM⟩
   rintro v u6 w6 ⟨rfl,hM⟩
   cases hz:(p.set||decide p.isZero)
   ·rw[Bool.not_false]
    (((refine Am ?_)))
    refine⟨?_,hM.st⟩
    unfold Tr.right
    rw[hb,hdr,hz]
    simp
   rw[hz,Bool.true_and]at hdr
   rw[Bool.not_true]
   (((refine Al ?_;refine Ab trivial ?_;refine Ao hM ?_;refine Ab trivial ?_)))
   refine⟨fun v w'=>∃ k:Nat,v=.int .i64 k∧k≤p.loose.length∧looseB t.size t.ls (2*i+1) none p.loose=looseB t.size t.ls (2*i+1) (prv p.loose k) (p.loose.drop k)∧hM.now w',fun v _=>match v with | .int _ k=>p.loose.length - k.toNat|_=>0,⟨0,rfl,by omega,rfl,hM⟩,?_⟩
   rintro v u7 w7 ⟨k,rfl,hk,hlb,hM⟩
   (((refine Av trivial ?_ ?_)))
   ·intro hlt2
    obtain⟨x,hx⟩:∃ x,p.loose[k]=x:=⟨_,rfl⟩
    have hdl:=aKu (n:=t.size) (ls:=t.ls) (x:=2*i+1) (o:=prv p.loose k) (l:=p.loose) (i:=k) (by omega)
    rw[hx]at hdl
    (((refine Am ?_));(refine Ca ‹_› ?_ ?_ ?_);(focus (simp only[List.length_map];omega));(focus (simp only[List.length_map];first|done|omega));((intro _ _ hA));(cases hA);(refine Bt hM ‹_› (Bs ?_) ?_);(focus omega))
    rw[hx]
    refine⟨fun v w'=>v=.bool (!decide (hld t.size (2*i+1) x∧nameAt t.ls x≠0∧∀ q∈prv p.loose k,q<x))∧hM.now w',?_,?_⟩
    ·(((refine Ab ?_ ?_));(focus omega);((refine Ab ?_ ?_));(focus omega);((refine Bg hM ?_ (fun _ hM2=>?_)));(focus (first|exact trivial|assumption|omega));((replace hM:=hM2;clear hM2;refine Ab trivial ?_)))
     by_cases hh:hld t.size (2*i+1) x
     ·obtain⟨r1,r2,-⟩:=Uf hh
      have hna:=Qa (ls:=t.ls) (p:=x) r1 (by omega)
      rw[decide_eq_true hh,Bool.not_true]
      (((refine Ae ?_;refine Ab trivial ?_;refine Ae ?_;refine Ao hM ?_;refine Ae ?_;refine Ab trivial ?_;refine Ae ?_));(refine Ca ‹_› ?_ ?_ ?_);(focus (simp only[List.length_map];omega));(focus (simp only[List.length_map];first|done|omega));((intro _ _ hA));(cases hA);((refine Ae ?_;refine Ab trivial ?_;refine Ae ?_));(refine Ff hM ‹_› (Co ?_) ?_);(focus omega);((refine Ae ?_)))
      rw[← hna]
      (((refine Av trivial ?_ ?_)))
      ·intro h5
       (((refine Ab trivial ?_;(iterate 3 refine Ar ?_);(iterate 8 refine aFi ?_);refine Ar ?_;refine Ab trivial ?_)))
       exact⟨by rw[decide_eq_false (fun h=>h.2.1 h5)];rfl,hM⟩
      ·intro h5
       cases k with
       | zero=>
         (((refine Ab trivial ?_;refine Ae ?_;refine Ab trivial ?_;refine Ae ?_;refine Br trivial ?_ ?_));(focus (first|assumption|omega|with_reducible rfl|exact fun h=>Bool.noConfusion h));((refine Ae ?_;refine Ab trivial ?_;(iterate 8 refine Bq ?_);refine Ae ?_;refine Ab trivial ?_;refine Ab trivial ?_)))
         exact⟨by rw[decide_eq_true ⟨hh,h5,by simp[prv]⟩];rfl,hM⟩
       | succ k=>
         have hix:(((k+1:Nat):Int) - 1).toNat=k:=by omega
         have hpv:prv p.loose (k+1)=some p.loose[k]:=List.getElem?_eq_getElem (by omega)
         (((refine Ab trivial ?_;refine Ae ?_;refine Ab trivial ?_;refine Ae ?_;refine Cc trivial ?_ ?_));(focus (first|assumption|omega|with_reducible rfl|exact fun h=>Bool.noConfusion h));((refine Ae ?_;refine Ab trivial ?_;refine Ae ?_;refine Ab trivial ?_;refine Ae ?_;refine Ab trivial ?_;refine Ae ?_;refine Ao hM ?_;refine Ae ?_;refine Ab trivial ?_;refine Ae ?_;refine Ab ?_ ?_));(focus omega);((refine Ae ?_));(refine Ca ‹_› ?_ ?_ ?_);(focus (simp only[List.length_map];omega));(focus (simp only[List.length_map];first|done|omega));((intro _ _ hA));(cases hA);((refine Ae ?_));(refine Bt hM ‹_› (Co ?_) ?_);(focus omega);((refine Ae ?_)))
         (((refine Av trivial ?_ ?_)))
         ·intro h6
          simp only[hix]at h6
          (((refine Ae ?_;refine Ab trivial ?_;refine Ab trivial ?_)))
          exact⟨by rw[decide_eq_false (fun h=>by have:=h.2.2 _ hpv;omega)];rfl,hM⟩
         ·intro h6
          simp only[hix]at h6
          (((refine Ae ?_;refine Ab trivial ?_;refine Ab trivial ?_)))
          exact⟨by rw[decide_eq_true ⟨hh,h5,fun q hq=>by rw[hpv]at hq;cases hq;omega⟩];rfl,hM⟩
     ·rw[decide_eq_false hh,Bool.not_false]
      ((((iterate 7 refine Ar ?_);refine Ab trivial ?_;(iterate 3 refine Ar ?_);(iterate 8 refine aFi ?_);refine Ar ?_;refine Ab trivial ?_)))
      exact⟨by rw[decide_eq_false (fun h=>hh h.1)];rfl,hM⟩
    rintro v u8 w8 ⟨rfl,hM⟩
    by_cases hc:hld t.size (2*i+1) x∧nameAt t.ls x≠0∧∀ q∈prv p.loose k,q<x
    ·rw[decide_eq_true hc,Bool.not_true]
     rw[decide_eq_true hc,Bool.true_and]at hdl
     (((refine Al ?_;refine Ab ?_ ?_));(focus omega))
     refine⟨⟨k+1,rfl,by omega,?_,hM⟩,by simp only;omega⟩
     rw[hlb,hdl,prv,List.getElem?_eq_getElem (by omega),hx]
    ·rw[decide_eq_false hc,Bool.not_false]
     (((refine Am ?_)))
     refine⟨?_,hM.st⟩
     unfold Tr.right
     rw[hb,hdr,hlb,hdl,decide_eq_false hc]
     simp
   ·intro hge2
    have hl2:looseB t.size t.ls (2*i+1) none p.loose=true:=by
     rw[hlb,List.drop_eq_nil_of_le (by omega)]
     rfl
    rw[hl2,Bool.true_and]at hdr
    (((refine Al ?_;refine Ab ?_ ?_));(focus omega))
    refine⟨⟨i+1,rfl,by omega,?_,hM.sub⟩,by simp only;omega⟩
    rw[hb,hdr]
    congr 1
  ·intro hge
   have hps:parB t.size t.ls 1 t.ps=true:=by
    rw[hb,List.drop_eq_nil_of_le (by omega)]
    rfl
   have hR:t.right=decide (t.ls=[]∨0<nameAt t.ls (t.size - 1)):=by
    unfold Tr.right
    rw[hls,hps,decide_eq_true hsz]
    simp
   (((refine Al ?_)))
   (((refine Av trivial ?_ ?_)))
   ·intro h0
    ((((iterate 8 refine Ar ?_);refine Ab trivial ?_)))
    exact⟨by rw[hR,decide_eq_true (.inl (List.eq_nil_of_length_eq_zero (by omega)))],hM.st⟩
   ·intro h0
    (((refine Ae ?_;refine Ab trivial ?_;refine Ae ?_;refine Ao hM ?_;refine Ae ?_;refine Ab trivial ?_;refine Ae ?_;refine Ab ?_ ?_));(focus omega);((refine Ae ?_));(refine Ca ‹_› ?_ ?_ ?_);(focus (simp only[List.length_map];omega));(focus (simp only[List.length_map];first|done|omega));((intro _ _ hA));(cases hA);((refine Ae ?_;refine Ab trivial ?_;refine Ae ?_));(refine Ff hM ‹_› (Co ?_) ?_);(focus omega);((refine Ae ?_)))
    rw[← Qa (ls:=t.ls) (p:=(t.ls.length:Int) - 1) (by omega) (by omega)]
    (((refine Av trivial ?_ ?_)))
    ·intro h9
     (((refine Ab trivial ?_)))
     exact⟨by rw[hR,decide_eq_true (.inr h9)],hM.st⟩
    ·intro h9
     (((refine Ab trivial ?_)))
     exact⟨by rw[hR,decide_eq_false (fun h=>h.elim (fun h=>h0 (by rw[h];rfl)) h9)],hM.st⟩
end
end Go.Proofs.YtgbenhmdamnmcaaGreat
namespace Go.Proofs.YtgbenhmdamnmcaaGreat
open Tryz
open Go.RowKit
theorem Xb {n l:Int} (h:0≤l∧l<n∧n≤64):dirL n l=cands n.toNat l.toNat:=by
 have:=aYn ⟨n.toNat,by omega⟩ ⟨l.toNat,by omega⟩ (by simp only;omega)
 simpa only [Int.toNat_of_nonneg h.1,Int.toNat_of_nonneg (show 0≤n by omega)] using this
theorem aFm {n l:Nat} {x:Int}:x∈cands n l↔∃ k,(1≤k∧k≤6)∧cand k l=x∧x≤2*n - 2:=by
 unfold cands
 simp only[List.mem_filter,List.mem_map,decide_eq_true_eq]
 constructor
 ·rintro⟨⟨k,hk,rfl⟩,h⟩
  exact⟨k,by simp at hk;omega,rfl,h⟩
 ·rintro⟨k,hk,rfl,h⟩
  refine⟨⟨k,?_,rfl⟩,h⟩
  simp only[List.mem_cons,List.not_mem_nil,or_false]
  omega
theorem aIb {k l:Nat} (hk:1≤k∧k≤6) (hl:l<64):cand k l%2=1∧0≤cand k l∧cand k l<127∧level (cand k l)=k:=aVd ⟨k,by omega⟩ ⟨l,hl⟩ hk.1
theorem aPs {n l:Int} {i:Nat} (h:0≤l∧l<n∧n≤64) (hi:(i:Int)+1<n):2*(i:Int)+1∈dirL n l↔hld n (2*i+1) l:=by
 have ht:thr n (2*i+1):=⟨by omega,by omega,by omega⟩
 obtain⟨-,-,-,-,hF,hT,-⟩:=Is ht
 obtain⟨⟨h1,h2⟩,h3⟩:=aVc ⟨i,by omega⟩ ⟨l.toNat,by omega⟩
 simp only[Int.toNat_of_nonneg h.1]at h1 h2 h3
 rw[Xb h,aFm]
 unfold hld
 rw[← hF,← hT]
 unfold pFrom pTo
 rw[if_pos ht,if_pos ht]
 have hmin:l<min ((2*(i:Int)+1+1+pw (level (2*i+1))) / 2) n↔l<(2*(i:Int)+1+1+pw (level (2*i+1))) / 2:=by omega
 rw[hmin,h3]
 constructor
 ·rintro⟨k,hk,hc,-⟩
  have hl:=(aIb (l:=l.toNat) hk (by omega)).2.2.2
  rw[hc]at hl
  rw[hl]
  exact hc
 ·intro hc
  exact⟨(level (2*i+1)).toNat,by omega,hc,by omega⟩
theorem aPt {n l x:Int} (h:n≤64) (hx:x∈dirL n l):(0≤l∧l<n)∧x=2*(x / 2)+1∧0≤x / 2∧x / 2+1<n:=by
 by_cases hl:0≤l∧l<n
 ·rw[Xb ⟨hl.1,hl.2,h⟩,aFm]at hx
  obtain⟨k,hk,rfl,hle⟩:=hx
  obtain⟨h1,h2,-⟩:=aIb (l:=l.toNat) hk (by omega)
  refine⟨hl,?_⟩
  have:((n.toNat:Nat):Int)=n:=Int.toNat_of_nonneg (by omega)
  omega
 ·unfold dirL at hx
  rw[if_neg hl]at hx
  cases hx
theorem aSe {n l:Int} (h:n≤64):(dirL n l).Nodup:=by
 by_cases hl:0≤l∧l<n
 ·rw[Xb ⟨hl.1,hl.2,h⟩]
  unfold cands
  have hc:∀ k,1≤k→k≤6→level (cand k l.toNat)=k:=fun k h1 h2=>(aIb (l:=l.toNat) ⟨h1,h2⟩ (by omega)).2.2.2
  have hne:∀ a b:Nat,1≤a→a≤6→1≤b→b≤6→a≠b→cand a l.toNat≠cand b l.toNat:=fun a b h1 h2 h3 h4 hn e=>by
   have:=hc a h1 h2
   rw[e,hc b h3 h4]at this
   omega
  have hm:([1,2,3,4,5,6].map fun k=>cand k l.toNat).Nodup:=by
   simp only[List.map_cons,List.map_nil,List.nodup_cons,List.mem_cons,List.not_mem_nil,or_false,not_or,not_false_eq_true,List.nodup_nil,and_true]
   refine⟨⟨?_,?_,?_,?_,?_⟩,⟨?_,?_,?_,?_⟩,⟨?_,?_,?_⟩,⟨?_,?_⟩,?_⟩ <;> exact hne _ _ (by omega) (by omega) (by omega) (by omega) (by omega)
  exact List.Pairwise.filter _ hm
 ·unfold dirL
  rw[if_neg hl]
  exact List.nodup_nil
def fix {α:Type} (f:α→Bool) (l:List α):Int:=if l.findIdx f<l.length then (l.findIdx f:Int) else -1
theorem aCk {α:Type} {f:α→Bool} {l:List α} {i:Nat} (h:i<l.length) (hb:∀ j (hj:j<l.length),j<i→f l[j]=false) (ht:f l[i]=true):l.findIdx f=i:=by
 rw[List.findIdx_eq h]
 exact⟨ht,fun j hj=>by simpa using hb j (by omega) hj⟩
theorem aIc {α:Type} {f:α→Bool} {l:List α} (hb:∀ j (hj:j<l.length),f l[j]=false):l.findIdx f=l.length:=by
 rw[List.findIdx_eq_length]
 intro x hx
 obtain⟨j,hj,rfl⟩:=List.getElem_of_mem hx
 simpa using hb j hj
theorem bCd {α:Type} {f:α→Bool} {l:List α} {i:Nat} (h:i<l.length) (hb:∀ j (hj:j<l.length),j<i→f l[j]=false) (ht:f l[i]=true):fix f l=i:=by
 unfold fix
 rw[aCk h hb ht,if_pos h]
theorem aVn {α:Type} {f:α→Bool} {l:List α} (hb:∀ j (hj:j<l.length),f l[j]=false):fix f l = -1:=by
 unfold fix
 rw[aIc hb,if_neg (by omega)]
def Tr.place (t:Tr) (name:Int):Int:=if name<1 then -1 else fix (fun l=>decide (l.name=name)) t.ls
def Tr.sound (t:Tr):Tr:=if t.right then t else Tr.none
theorem Ks {n:Int} {ls:List Lf} {x:Int}:∀ {o:Option Int} {l:List Int},looseB n ls x o l=true→(∀ p∈l,hld n x p∧nameAt ls p≠0∧∀ q∈o,q<p)∧l.Pairwise (·<·)
 | _,[],_=>⟨fun _ h=>(by cases h),.nil⟩
 | o,p::r,h=>by
   simp only[looseB,Bool.and_eq_true,decide_eq_true_eq]at h
   obtain⟨h1,h2⟩:=h
   obtain⟨h3,h4⟩:=Ks h2
   refine⟨fun y hy=>?_,.cons (fun y hy=>(h3 y hy).2.2 p rfl) h4⟩
   rcases List.mem_cons.1 hy with rfl|hy
   ·exact h1
   ·obtain⟨a,b,c⟩:=h3 y hy
    exact⟨a,b,fun q hq=>by have:=h1.2.2 q hq;have:=c p rfl;omega⟩
theorem Mp {n:Int} {ls:List Lf}:∀ {x:Int} {ps:List Pn},parB n ls x ps=true→∀ i (hi:i<ps.length),(ps[i].set=true∨ps[i].isZero)∧looseB n ls (x+2*i) none ps[i].loose=true
 | _,[],_,i,hi=>by cases hi
 | x,p::r,h,i,hi=>by
   simp only[parB,Bool.and_eq_true,Bool.or_eq_true,decide_eq_true_eq]at h
   cases i with
   | zero=>simpa using h.1
   | succ i=>
     have:=Mp h.2 i (by simpa using hi)
     have e:x+2*((i+1:Nat):Int)=x+2+2*(i:Int):=by omega
     rw[e]
     simpa using this
theorem Nl:∀ {s:List Int} {ls:List Lf},leavesB s ls=true→∀ l∈ls,l=Lf.zero∨(1≤l.name∧l.name≤64)
 | _,[],_,_,h=>by cases h
 | s,l::r,h,x,hx=>by
   unfold leavesB at h
   split at h
   ·rename_i hz
    rcases List.mem_cons.1 hx with rfl|hx
    ·exact .inl hz
    ·exact Nl h x hx
   ·simp only[Bool.and_eq_true,decide_eq_true_eq]at h
    rcases List.mem_cons.1 hx with rfl|hx
    ·exact .inr h.1.1
    ·exact Nl h.2 x hx
structure Tr.Rt (t:Tr):Prop where
 len:t.ls.length≤64∧t.ps.length=t.ls.length - 1
 leaves:leavesB [] t.ls=true
 par:parB t.size t.ls 1 t.ps=true
 last:t.ls=[]∨0<nameAt t.ls (t.size - 1)
theorem Tr.rt {t:Tr}:t.right=true↔t.Rt:=by
 unfold Tr.right
 simp only[Bool.and_eq_true,decide_eq_true_eq]
 exact⟨fun⟨⟨⟨a,b⟩,c⟩,d⟩=>⟨a,b,c,d⟩,fun⟨a,b,c,d⟩=>⟨⟨⟨a,b⟩,c⟩,d⟩⟩
def Tr.nobody (t:Tr) (p:Int):Prop:=(p<0∨t.size≤p)∨nameAt t.ls p=0
instance (t:Tr) (p:Int):Decidable (t.nobody p):=by unfold Tr.nobody;infer_instance
def Lf.key (l:Lf) (pub abv:H32):Lf:=⟨l.name,pub,l.ver,abv⟩
end Go.Proofs.YtgbenhmdamnmcaaGreat
namespace Go.Proofs.YtgbenhmdamnmcaaGreat
open Tryz
open Go.RowKit Go.Lib
def bk (g e:Nat) (cs:List Value):Res:=fun B=>B=[⟨g,e,cs,true⟩]
class AtK (L:List Res) (g:Nat) (e:outParam Nat) (cs:outParam (List Value)) (R:outParam (List Res)):Prop where
 perm:L.Perm (bk g e cs::R)
instance (L:List Res) (g e:Nat) (cs:List Value):AtK (bk g e cs::L) g e cs L:=⟨.refl _⟩
section
variable {P:Program} {H:Hp} {w0 w:World} {L R:List Res} {n cap e sz by_ g:Nat} {t:TypeId} {A:Option Addr} {ps:List (List Fd)} {cs:List Value} {X:List PanicEntry→World→Prop} {K:Value→World→Prop}
theorem Mem.raw (h:Mem H w0 L w) [k:AtA L (some ⟨g,0,none⟩) n cap e sz ps R]:∃ sp,(fls ps++sp).length=cap*sz∧n≤cap∧cap≤maxLen∧Els sz ps∧ps.length=n∧Mem H w0 (bk g e (fls ps++sp)::R) w:=by
 obtain⟨B,⟨B1,B2,rfl,⟨h1,h2,h3⟩,h4⟩,hs',hb⟩:=(h.perm k.perm).own
 rcases h3 with ⟨hA,_⟩|⟨g',sp,hA,rfl,h5,h6,h7⟩
 ·cases hA
 ·cases hA
  exact⟨sp,h5,h6,h7,h1,h2,⟨_,⟨_,B2,rfl,rfl,h4⟩,hs',hb⟩,h.fz⟩
theorem Mem.bkBlf (h:Mem H w0 L w) [k:AtK L g e cs R]:Blf w g e cs:=by
 obtain⟨B,⟨B1,B2,rfl,rfl,_⟩,hs,_⟩:=(h.perm k.perm).own
 exact(hs.own ⟨g,e,cs,true⟩ (by simp)).blf
end
end Go.Proofs.YtgbenhmdamnmcaaGreat
namespace Go.Proofs.YtgbenhmdamnmcaaGreat
open Tryz
open Go.RowKit Go.Lib
end Go.Proofs.YtgbenhmdamnmcaaGreat
namespace Go.Proofs.YtgbenhmdamnmcaaGreat
open Tryz
open Go.RowKit Go.Lib
abbrev Xp:=Pn × Option Addr × Nat
abbrev xrow (x:Xp):List Fd:=x.1.row x.2.1 x.2.2
abbrev xres (x:Xp):Res:=rowR 3 1 x.2.1 x.1.loose.length x.2.2 (ints8 x.1.loose)
def allR (X:List Xp):Res:=fun B=>Hl (X.map xres) B
def restR (X:List Xp) (j:Nat):Res:=fun B=>Hl ((X.take j++X.drop (j+1)).map xres) B
abbrev x0:Xp:=(Pn.zero,none,0)
section
variable {H:Hp} {w0 w:World} {L:List Res} {X:List Xp} {j:Nat} {A B:Option Addr} {n m a b e sz cap k:Nat} {ps:List (List Fd)}
theorem Mem.all0 (h:Mem H w0 L w):Mem H w0 (allR []::L) w:=Mem.fold (R:=[]) (L:=L) h fun _ hb=>hb
theorem aVo (hj:j<X.length):(X.map xres).Perm (xres X[j]::(X.take j++X.drop (j+1)).map xres):=by
 have e:X=X.take j++X[j]::X.drop (j+1):=by simp
 conv=>lhs;rw[e]
 rw[List.map_append,List.map_append,List.map_cons]
 exact List.perm_middle
theorem aYy (hj:j<X.length) (y:Xp):((X.set j y).map xres).Perm (xres y::(X.take j++X.drop (j+1)).map xres):=by
 rw[List.set_eq_take_append_cons_drop,if_pos hj,List.map_append,List.map_append,List.map_cons]
 exact List.perm_middle
theorem Mem.outk (h:Mem H w0 (allR X::L) w) (hj:j<X.length):Mem H w0 (xres X[j]::restR X j::L) w:=by
 have h1:Mem H w0 (X.map xres++L) w:=h.imp (R:=X.map xres) fun _ hb=>hb
 have h2:=h1.perm ((aVo hj).append_right L)
 have h3:Mem H w0 ((X.take j++X.drop (j+1)).map xres++(xres X[j]::L)) w:=h2.perm List.perm_middle.symm
 have h4:Mem H w0 (restR X j::xres X[j]::L) w:=h3.fold fun _ hb=>hb
 exact h4.perm (.swap ..)
theorem Mem.ink {y:Xp} (h:Mem H w0 (xres y::restR X j::L) w) (hj:j<X.length):Mem H w0 (allR (X.set j y)::L) w:=by
 have h1:Mem H w0 (restR X j::xres y::L) w:=h.perm (.swap ..)
 have h2:Mem H w0 ((X.take j++X.drop (j+1)).map xres++(xres y::L)) w:=h1.imp fun _ hb=>hb
 have h3:Mem H w0 ((X.set j y).map xres++L) w:=(h2.perm List.perm_middle).perm ((aYy hj y).append_right L).symm
 exact h3.fold fun _ hb=>hb
theorem Mem.addk {y:Xp} (h:Mem H w0 (allR X::xres y::L) w):Mem H w0 (allR (X++[y])::L) w:=by
 have h1:Mem H w0 (X.map xres++(xres y::L)) w:=h.imp fun _ hb=>hb
 have h2:Mem H w0 ((X++[y]).map xres++L) w:=by
  rw[List.map_append,List.append_assoc]
  exact h1
 exact h2.fold fun _ hb=>hb
theorem Mem.unk {x:Xp} (h:Mem H w0 (allR (x::X)::L) w):Mem H w0 (xres x::allR X::L) w:=by
 have h1:Mem H w0 (xres x::(X.map xres++L)) w:=h.imp (R:=xres x::X.map xres) fun _ hb=>hb
 have h2:Mem H w0 (X.map xres++(xres x::L)) w:=h1.perm List.perm_middle.symm
 have h3:Mem H w0 (allR X::xres x::L) w:=h2.fold fun _ hb=>hb
 exact h3.perm (.swap ..)
theorem Mem.frzX:∀ {X:List Xp} {L:List Res} {H:Hp},Mem H w0 (allR X::L) w→∃ H',Le w0 H H'∧Mem H' w0 L w∧∀ x∈X,Sl H' 1 x.2.1 (ints8 x.1.loose)
 | [],L,H,h=>⟨H,Le.refl _ _,h.drop,fun _ h=>by cases h⟩
 | x::X,L,H,h=>by
   obtain⟨H1,l1,h1,s1,-⟩:=h.unk.fz0
   obtain⟨H2,l2,h2,s2⟩:=Mem.frzX h1
   refine⟨H2,l1.trans l2,h2,fun y hy=>?_⟩
   rcases List.mem_cons.1 hy with rfl|hy
   ·exact s1.mono l2.le
   ·exact s2 y hy
theorem Xc {H:Hp}:∀ {X:List Xp},(∀ x∈X,Sl H 1 x.2.1 (ints8 x.1.loose)∧x.1.loose.length≤maxLen)→All2 (PnF H) (X.map xrow) (X.map (·.1))
 | [],_=>trivial
 | x::X,h=>⟨⟨x.2.1,x.2.2,rfl,h x (List.mem_cons_self ..)⟩,Xc fun y hy=>h y (List.mem_cons_of_mem _ hy)⟩
theorem Mem.frzT {ls:List Lf} (h:Mem H w0 (rowR 118 97 A ls.length a (ls.map Lf.fds)::rowR 222 66 B X.length b (X.map xrow)::allR X::L) w) (hb:∀ x∈X,x.1.loose.length≤maxLen):∃ H',Le w0 H H'∧Mem H' w0 L w∧TrF H' (tv A ls.length a B X.length b) ⟨ls,X.map (·.1)⟩:=by
 obtain⟨-,k1,k2,-⟩:=h.rowLen ⟨.refl _⟩
 obtain⟨H1,l1,h,s1,-⟩:=h.fz0
 obtain⟨-,k3,k4,-⟩:=h.rowLen ⟨.refl _⟩
 obtain⟨H2,l2,h,s2,-⟩:=h.fz0
 obtain⟨H3,l3,h,s3⟩:=h.frzX
 refine⟨H3,(l1.trans l2).trans l3,h,⟨A,a,B,b,X.map xrow,by simp,s1.mono (l2.trans l3).le,s2.mono l3.le,Xc fun x hx=>⟨s3 x hx,hb x hx⟩⟩,by simp only;omega,by simp only[List.length_map];omega⟩
theorem Mem.short (h:Mem H w0 (rowR e sz A n cap ps::L) w) (hk:k≤n):Mem H w0 (rowR e sz A k cap (ps.take k)::L) w:=by
 obtain⟨B,⟨B1,B2,rfl,⟨h1,h2,h3⟩,h4⟩,hs',hb⟩:=h.own
 refine⟨⟨_,⟨B1,B2,rfl,⟨h1.take k,by rw[List.length_take];omega,?_⟩,h4⟩,hs',hb⟩,h.fz⟩
 rcases h3 with ⟨hA,hn,hc,hB⟩|⟨g,sp,hA,hB,h5,h6,h7⟩
 ·exact .inl ⟨hA,by omega,hc,hB⟩
 ·have e1:fls ps=fls (ps.take k)++fls (ps.drop k):=by rw[← Gj,List.take_append_drop]
  exact .inr ⟨g,fls (ps.drop k)++sp,hA,by rw[hB,e1,List.append_assoc],by rw[← List.append_assoc,← e1];exact h5,by omega,h7⟩
theorem Ku {H:Hp} (hf:Fz H w):H.le (Hp.of w):=fun b c h=>by
 obtain⟨t,fr,e⟩:=hf b c h
 simp[Hp.of,e]
end
theorem aCl:∀ {l:List Int} {lo hi:Int},l.Pairwise (·<·)→(∀ x∈l,lo≤x∧x<hi)→lo≤hi→(l.length:Int)≤hi - lo
 | [],lo,hi,_,_,h=>by simp;omega
 | x::r,lo,hi,hp,hb,h=>by
   obtain⟨h1,h2⟩:=List.pairwise_cons.1 hp
   have hx:=hb x (List.mem_cons_self ..)
   have:=aCl (lo:=lo+1) (hi:=hi) h2 (fun y hy=>by have:=h1 y hy;have:=hb y (List.mem_cons_of_mem _ hy);omega) (by omega)
   simp only[List.length_cons]
   omega
theorem Tr.Rt.loose {t:Tr} (h:t.Rt):∀ p∈t.ps,p.loose.length≤64∧p.loose.Pairwise (·<·):=by
 intro p hp
 obtain⟨i,hi,rfl⟩:=List.getElem_of_mem hp
 obtain⟨h1,h2⟩:=Ks (Mp h.par i hi).2
 have hl:=h.len
 have:=aCl (lo:=0) (hi:=t.size) h2 (fun x hx=>by have:=Uf (h1 x hx).1;omega) (by unfold Tr.size;omega)
 refine⟨?_,h2⟩
 unfold Tr.size at this
 omega
end Go.Proofs.YtgbenhmdamnmcaaGreat
namespace Go.Proofs.YtgbenhmdamnmcaaGreat
open Tryz
open Go.RowKit Go.Lib
section
variable {H:Hp} {w0 w:World} {L R:List Res} {A B C:Option Addr} {a b c n:Nat} {t:Tr} {qs ps:List (List Fd)}
theorem aVp {Q:Ending→World→Prop} (hs:Sl (Hp.of w) 97 A ps) (hn:n=ps.length) (hb:n≤100000) (hM:Mem H w0 L w)
  (hQ:∀ A' a' w',Ext w w'→Mem H w0 (rowR 118 97 A' n a' ps::L) w'→Q (.returned (.slice A' n a')) w'):Calls prog 141 #[.slice A n a] w Q:=by
 refine He ?_
 unfold Eb
 refine Mo (P:=prog) (t:=55) (R:=Q) hs hn hM ?_ hQ
 omega
theorem Mq (hs:Sl (Hp.of w) 97 A ps) (hn:n=ps.length) (hb:n≤100000) (hM:Mem H w0 L w):Calls prog 141 #[.slice A n a] w fun en w'=>∃ v,en=.returned v∧Ext w w'∧∃ A' a',v=.slice A' n a'∧Mem H w0 (rowR 118 97 A' n a' ps::L) w':=
 aVp hs hn hb hM fun A' a' w' hx hM=>⟨_,rfl,hx,_,_,rfl,hM⟩
theorem aVq {Q:Ending→World→Prop} (hs:Sl (Hp.of w) 66 A ps) (hn:n=ps.length) (hb:n≤100000) (hM:Mem H w0 L w)
  (hQ:∀ A' a' w',Ext w w'→Mem H w0 (rowR 222 66 A' n a' ps::L) w'→Q (.returned (.slice A' n a')) w'):Calls prog 142 #[.slice A n a] w Q:=by
 refine Fs ?_
 unfold De
 refine Mo (P:=prog) (t:=56) (R:=Q) hs hn hM ?_ hQ
 omega
theorem Mr (hs:Sl (Hp.of w) 66 A ps) (hn:n=ps.length) (hb:n≤100000) (hM:Mem H w0 L w):Calls prog 142 #[.slice A n a] w fun en w'=>∃ v,en=.returned v∧Ext w w'∧∃ A' a',v=.slice A' n a'∧Mem H w0 (rowR 222 66 A' n a' ps::L) w':=
 aVq hs hn hb hM fun A' a' w' hx hM=>⟨_,rfl,hx,_,_,rfl,hM⟩
theorem aVr {Q:Ending→World→Prop} (hs:Sl (Hp.of w) 1 A ps) (hn:n=ps.length) (hb:n≤100000) (hM:Mem H w0 L w)
  (hQ:∀ A' a' w',Ext w w'→Mem H w0 (rowR 3 1 A' n a' ps::L) w'→Q (.returned (.slice A' n a')) w'):Calls prog 143 #[.slice A n a] w Q:=by
 refine Nf ?_
 unfold Hg
 refine Mo (P:=prog) (t:=133) (R:=Q) hs hn hM ?_ hQ
 omega
theorem aSf (hs:Sl (Hp.of w) 1 A ps) (hn:n=ps.length) (hb:n≤100000) (hM:Mem H w0 L w):Calls prog 143 #[.slice A n a] w fun en w'=>∃ v,en=.returned v∧Ext w w'∧∃ A' a',v=.slice A' n a'∧Mem H w0 (rowR 3 1 A' n a' ps::L) w':=
 aVr hs hn hb hM fun A' a' w' hx hM=>⟨_,rfl,hx,_,_,rfl,hM⟩
theorem aVs (h1:Sl H 97 A (t.ls.map Lf.fds)) (h2:Sl H 66 B qs) (h3:All2 (PnF H) qs t.ps) (hl:t.ls.length≤1000) (hp:t.ps.length≤1000) (hlo:∀ p∈t.ps,p.loose.length≤1000) (hM:Mem H w0 L w):
  Calls prog 182 #[tv A t.ls.length a B t.ps.length b] w fun en w'=>∃ v,en=.returned v∧∃ A' a' B' b' X,v=tv A' t.ls.length a' B' t.ps.length b'∧X.map (·.1)=t.ps ∧
   Mem H w0 (rowR 118 97 A' t.ls.length a' (t.ls.map Lf.fds)::rowR 222 66 B' t.ps.length b' (X.map xrow)::allR X::L) w':=by
 have hq:qs.length=t.ps.length:=h3.len
 refine aHn ?_
 unfold Tu
 (((refine Bb hM ?_;clear hM;intro _ _ hM;refine Bj hM ?_;clear hM;intro _ _ hM)))
 rename_i g1 _ g2 _
 refine⟨fun v w'=>∃ g3 A' a' B' b',v=.pointer (some ⟨g3,0,none⟩)∧Mem H w0 (fb g3 58 (tfd A' t.ls.length a' B' t.ps.length b')::fb g2 58 (tfd none 0 0 none 0 0)::rowR 118 97 A' t.ls.length a' (t.ls.map Lf.fds)::rowR 222 66 B' t.ps.length b' qs::L) w',⟨?_,?_,?_⟩,?_⟩
 ·(((refine An trivial ?_;refine Aw hM ?_;refine An trivial ?_;refine Aw hM ?_)))
  refine My hM (fun w hM=>Mq (h1.mono (Ku hM.fz)) (by simp) (by omega) hM) ?_
  rintro v w' hx ⟨A',a',rfl,hM⟩
  skip
  refine La hM (fun w hM=>(Mr (h2.mono (Ku hM.fz)) hq.symm (by omega) hM).mono fun en w' ⟨v,h,_,k⟩=>⟨v,h,k⟩) ?_
  rintro v w' ⟨B',b',rfl,hM⟩
  (((refine An trivial ?_;refine Bx hM ?_;clear hM;intro _ _ hM;refine Cb hM ?_;clear hM;intro _ hM;refine Ba hM ?_;clear hM;intro _ hM)))
  exact⟨_,A',a',B',b',rfl,hM.sub⟩
 ·(((refine An trivial ?_;refine Aw hM ?_;refine An trivial ?_;refine Aw hM ?_)))
  refine My hM (fun w hM=>Mq (h1.mono (Ku hM.fz)) (by simp) (by omega) hM) ?_
  rintro v w' hx ⟨A',a',rfl,hM⟩
  (((refine Bx hM ?_;clear hM;intro _ _ hM)))
  refine La hM (fun w hM=>(Mr (h2.mono (Ku hM.fz)) hq.symm (by omega) hM).mono fun en w' ⟨v,h,_,k⟩=>⟨v,h,k⟩) ?_
  rintro v w' ⟨B',b',rfl,hM⟩
  (((refine An trivial ?_;refine Cb hM ?_;clear hM;intro _ hM;refine Ba hM ?_;clear hM;intro _ hM)))
  exact⟨_,A',a',B',b',rfl,hM.sub⟩
 ·(((refine An trivial ?_;refine Aw hM ?_;refine An trivial ?_;refine Aw hM ?_;refine Bx hM ?_;clear hM;intro _ _ hM)))
  refine My hM (fun w hM=>Mq (h1.mono (Ku hM.fz)) (by simp) (by omega) hM) ?_
  rintro v w' hx ⟨A',a',rfl,hM⟩
  skip
  refine La hM (fun w hM=>(Mr (h2.mono (Ku hM.fz)) hq.symm (by omega) hM).mono fun en w' ⟨v,h,_,k⟩=>⟨v,h,k⟩) ?_
  rintro v w' ⟨B',b',rfl,hM⟩
  (((refine An trivial ?_;refine Cb hM ?_;clear hM;intro _ hM;refine Ba hM ?_;clear hM;intro _ hM)))
  exact⟨_,A',a',B',b',rfl,hM.sub⟩
 clear hM
 rintro v u2 w2 ⟨g3,A',a',B',b',rfl,hM⟩
 (((refine Ab trivial ?_;refine Ao hM ?_;refine Ab trivial ?_)))
 have hM0:Mem H w0 (fb g3 58 (tfd A' t.ls.length a' B' t.ps.length b')::fb g2 58 (tfd none 0 0 none 0 0)::rowR 118 97 A' t.ls.length a' (t.ls.map Lf.fds)::rowR 222 66 B' t.ps.length b' qs::allR []::L) _:=hM.all0.same
 refine⟨fun v w'=>∃ (i:Nat) (X:List Xp),v=.int .i64 i∧i≤t.ps.length∧X.map (·.1)=t.ps.take i∧Mem H w0 (fb g3 58 (tfd A' t.ls.length a' B' t.ps.length b')::fb g2 58 (tfd none 0 0 none 0 0)::rowR 118 97 A' t.ls.length a' (t.ls.map Lf.fds)::rowR 222 66 B' t.ps.length b' (X.map xrow++qs.drop i)::allR X::L) w',fun v _=>match v with | .int _ k=>t.ps.length - k.toNat|_=>0,⟨0,[],rfl,by omega,rfl,hM0⟩,?_⟩
 clear hM hM0
 rintro v u3 w3 ⟨i,X,rfl,hi,hX,hM⟩
 have hXl:X.length=i:=by
  have:=congrArg List.length hX
  simp at this
  omega
 (((refine Av trivial ?_ ?_)))
 ·intro hlt
  have hlt':i<t.ps.length:=by omega
  obtain⟨q,hq1,C,c,rfl,hC,hcl⟩:=h3.at_ (i:=i) hlt'
  obtain⟨p,hpe⟩:∃ p,t.ps[i]=p:=⟨_,rfl⟩
  have hpl:=hlo p (hpe ▸ List.getElem_mem _)
  rw[hpe]at hq1 hC
  have hrow:(X.map xrow++qs.drop i)[(i:Int).toNat]?=some (p.row C c):=by
   rw[Int.toNat_natCast,List.getElem?_append_right (by simp;omega)]
   simp[hXl,hq1]
  (((refine Am ?_;refine An trivial ?_;refine Aw hM ?_;refine An trivial ?_;refine Aw hM ?_;refine Cf hM ?_ ?_));(focus omega);((intro _ hA));(cases hA);((refine An trivial ?_)))
  refine aTx hM hrow ?_
  refine My hM (fun w hM=>aSf (hC.mono (Ku hM.fz)) (by simp) (by omega) hM) ?_
  rintro v w' hx ⟨C',c',rfl,hM⟩
  (((refine Cf hM ?_ ?_));(focus omega);((intro _ hA));(cases hA);((refine An trivial ?_)))
  refine aNn hM hrow (fun w' hM=>?_)
  (((refine Ba hM ?_;clear hM;intro _ hM;refine Ab ?_ ?_));(focus omega))
  rename_i g5 _ _ _ _
  have hset:(X.map xrow++qs.drop i).set (i:Int).toNat (p.row C' c')=(X++[(p,C',c')]).map xrow++qs.drop (i+1):=by
   rw[Int.toNat_natCast,List.set_append_right _ _ (by simp;omega)]
   simp only[List.length_map,hXl,Nat.sub_self,List.map_append,List.append_assoc]
   rw[List.drop_eq_getElem_cons (by omega)]
   rfl
  have hM2:Mem H w0 (rowR 222 66 (some ⟨g5,0,none⟩) t.ps.length b' ((X++[(p,C',c')]).map xrow++qs.drop (i+1))::_) _:=hset ▸ hM
  have hM:Mem H w0 (allR X::xres (p,C',c')::fb g3 58 (tfd A' t.ls.length a' (some ⟨g5,0,none⟩) t.ps.length b')::fb g2 58 (tfd none 0 0 none 0 0)::rowR 118 97 A' t.ls.length a' (t.ls.map Lf.fds)::rowR 222 66 (some ⟨g5,0,none⟩) t.ps.length b' ((X++[(p,C',c')]).map xrow++qs.drop (i+1))::L) _:=hM2.sub
  refine⟨⟨i+1,X++[(p,C',c')],rfl,by omega,?_,hM.addk.same⟩,by simp only;omega⟩
  rw[List.map_append,hX,List.take_succ_eq_append_getElem hlt',hpe]
  rfl
 ·intro hge
  obtain rfl:i=t.ps.length:=by omega
  rw[List.take_length]at hX
  rw[List.drop_eq_nil_of_le (by omega),List.append_nil]at hM
  (((refine Al ?_;refine Ao hM ?_;refine Bi hM ?_;clear hM;intro _ hM;refine Cd hM ?_)))
  exact⟨_,rfl,_,_,_,_,_,rfl,hX,hM.sub⟩
theorem aYz (p:Int) (h1:Sl H 97 A (t.ls.map Lf.fds)) (hl:t.ls.length≤maxLen) (hf:Fz H w):Calls prog 181 #[tv A t.ls.length a B n b,.int .i64 p] w fun en w'=>en=.returned (.bool (decide (t.nobody p)))∧St w [] w':=by
 have hM:=Mem.start hf
 have hl':t.ls.length≤9223372036854775807:=hl
 refine aKj ?_
 unfold Yb
 (((refine Bb hM ?_;clear hM;intro _ _ hM)))
 (((refine Av trivial ?_ ?_)))
 ·intro h
  ((((iterate 5 refine Ar ?_);refine Ab trivial ?_;(iterate 7 refine Ar ?_);refine Ab trivial ?_)))
  exact⟨by rw[decide_eq_true (show t.nobody p from .inl (.inl h))],hM.st⟩
 ·intro h
  (((refine Ae ?_;refine Ab trivial ?_;refine Ae ?_;refine Ab trivial ?_;refine Ae ?_;refine Ao hM ?_;refine Ae ?_;refine Ab trivial ?_;refine Ae ?_)))
  (((refine Av trivial ?_ ?_)))
  ·intro h2
   (((refine Ab trivial ?_;(iterate 7 refine Ar ?_);refine Ab trivial ?_)))
   exact⟨by rw[decide_eq_true (show t.nobody p from .inl (.inr h2))],hM.st⟩
  ·intro h2
   have h3:p.toNat<t.ls.length:=by omega
   have h4:=Qa (ls:=t.ls) (p:=p) (by omega) h3
   (((refine Ab trivial ?_;refine Ae ?_;refine Ab trivial ?_;refine Ae ?_;refine Ao hM ?_;refine Ae ?_;refine Ab trivial ?_;refine Ae ?_));(refine Ca ‹_› ?_ ?_ ?_);(focus (simp only[List.length_map];omega));(focus (simp only[List.length_map];first|done|omega));((intro _ _ hA));(cases hA);((refine Ae ?_;refine Ab trivial ?_;refine Ae ?_));(refine Ff hM ‹_› (Co ?_) ?_);(focus omega);((refine Ae ?_)))
   rw[← h4]
   (((refine Av trivial ?_ ?_)))
   ·intro h5
    (((refine Ab trivial ?_)))
    exact⟨by rw[decide_eq_true (show t.nobody p from .inr h5)],hM.st⟩
   ·intro h5
    (((refine Ab trivial ?_)))
    exact⟨by rw[decide_eq_false (show ¬t.nobody p from fun k=>k.elim (fun k=>k.elim h h2) h5)],hM.st⟩
theorem Ug (h1:Sl H 97 A (t.ls.map Lf.fds)) (h2:Sl H 66 B qs) (h3:All2 (PnF H) qs t.ps) (hl:t.ls.length≤maxLen) (hp:t.ps.length≤maxLen) (hf:Fz H w):
  Calls prog 123 #[tv A t.ls.length a B t.ps.length b] w fun en w'=>en=.returned (if t.right=true then tv A t.ls.length a B t.ps.length b else tv none 0 0 none 0 0)∧St w [] w':=by
 have hM:=Mem.start hf
 refine aGv ?_
 unfold Tj
 (((refine Bb hM ?_;clear hM;intro _ _ hM;refine Bj hM ?_;clear hM;intro _ _ hM;refine Ao hM ?_)))
 refine Bn hM (Er h1 h2 h3 hl hp hM.fz) (fun w hM=>?_)
 cases hr:t.right
 ·(((refine Al ?_;refine Ab trivial ?_;refine Bi hM ?_;clear hM;intro _ hM;refine Cd hM ?_)))
  exact⟨rfl,hM.st⟩
 ·(((refine Am ?_;refine Ao hM ?_;refine Bi hM ?_;clear hM;intro _ hM;refine Cd hM ?_)))
  exact⟨rfl,hM.st⟩
theorem aSg (g:Nat) (x:Int) (y:Lf) (hM:Mem H w0 (fb g 3 [.one (.int .i64 x)]::R) w):
  Calls prog 148 #[lv y,.pointer (some ⟨g,0,none⟩)] w fun e w'=>∃ v,e=.returned v∧v=.bool (decide (y.name=x))∧Mem H w0 (fb g 3 [.one (.int .i64 x)]::R) w':=by
 refine aBi ?_
 unfold Oy
 (((refine Bb hM ?_;clear hM;intro _ _ hM;refine Ab trivial ?_;refine Ao hM ?_;refine Ao hM ?_)))
 (((refine Av trivial ?_ ?_)))
 all_goals
  intro hi
  skip
  exact⟨_,rfl,by simp[hi],hM.drop⟩
theorem aFn (g:Nat) (x:Int):Clo prog H w0 (fb g 3 [.one (.int .i64 x)]) (.func (.func 148) #[] #[.pointer (some ⟨g,0,none⟩)]) lv (fun y:Lf=>decide (y.name=x)):=fun y R w K X hM hk=>
 Ex (aSg g x y hM) (by rintro e w' ⟨v,rfl,rfl,h⟩;exact hk w' h)
theorem aVt {r:Res} {cl:Value} {f:Lf→Bool} (ls:List Lf) (hl:ls.length<1000000) (hc:Clo prog H w0 r cl lv f) (hs:Sl H 97 A (ls.map Lf.fds)) (hM:Mem H w0 (r::R) w):
  Calls prog 147 #[.slice A ls.length a,cl] w fun en w'=>∃ v,en=.returned v∧v=.int .i64 (fix f ls)∧Mem H w0 (r::R) w':=by
 refine Fu ?_
 unfold Dg
 (((refine Ab trivial ?_)))
 refine⟨fun v w'=>∃ i:Nat,v=.int .i64 i∧i≤ls.length∧(∀ j (hj:j<ls.length),j<i→f ls[j]=false)∧Mem H w0 (r::R) w',fun v _=>match v with | .int _ k=>ls.length - k.toNat|_=>0,⟨0,rfl,by omega,fun j _ h=>by omega,hM⟩,?_⟩
 rintro v u w3 ⟨i,rfl,hi,hlo,hM⟩
 (((refine Av trivial ?_ ?_)))
 ·intro hlt
  have hlt':i<ls.length:=by omega
  (((refine Am ?_));(refine Ca ‹_› ?_ ?_ ?_);(focus (simp only[List.length_map];omega));(focus (simp only[List.length_map];first|done|omega));((intro _ _ hA));(cases hA);(refine Bt hM ‹_› (Bs ?_) ?_);(focus omega))
  refine hc _ _ _ _ _ hM (fun w hM=>?_)
  cases hfi:f ls[i]
  ·(((refine Al ?_;refine Ab ?_ ?_));(focus omega))
   refine⟨⟨i+1,rfl,by omega,fun j hj hji=>?_,hM⟩,by simp only;omega⟩
   rcases Nat.lt_or_ge j i with h2|h2
   ·exact hlo j hj h2
   ·obtain rfl:j=i:=by omega
    exact hfi
  ·(((refine Am ?_)))
   exact⟨_,rfl,by rw[bCd hlt' hlo hfi],hM⟩
 ·intro hge
  (((refine Al ?_)))
  exact⟨_,rfl,by rw[aVn fun j hj=>hlo j hj (by omega)],hM⟩
theorem aKv (x:Int) (h1:Sl H 97 A (t.ls.map Lf.fds)) (h2:Sl H 66 B qs) (h3:All2 (PnF H) qs t.ps) (hl:t.ls.length≤maxLen) (hp:t.ps.length≤maxLen) (hf:Fz H w):
  Calls prog 76 #[tv A t.ls.length a B t.ps.length b,.int .i64 x] w fun en w'=>en=.returned (.int .i64 (t.sound.place x))∧St w [] w':=by
 have hM:=Mem.start hf
 refine aGp ?_
 unfold Tc
 (((refine Bb hM ?_;clear hM;intro _ _ hM;refine Bb hM ?_;clear hM;intro _ _ hM;refine Ao hM ?_)))
 rename_i g1 _ g2 _
 (((refine Av trivial ?_ ?_)))
 ·intro h
  (((refine Am ?_)))
  exact⟨by rw[show t.sound.place x = -1 from if_pos h],hM.st⟩
 ·intro h
  (((refine Al ?_;refine Ao hM ?_)))
  have hpl:t.sound.place x=fix (fun l=>decide (l.name=x)) t.sound.ls:=if_neg h
  rw[hpl]
  refine Bn hM (Ug h1 h2 h3 hl hp hM.fz) (fun w hM=>?_)
  have hM:=hM.at_ (fb g2 3 [.one (.int .i64 x)])
  unfold Tr.sound
  cases hr:t.right
  ·rw[if_neg (by simp),if_neg (by simp)]
   (((refine Ab trivial ?_;refine Ab trivial ?_)))
   refine Be (aVt (A:=none) [] (by simp) (aFn g2 x) (Sl.nil _ _ _) hM) ?_
   rintro v w' ⟨rfl,hM⟩
   exact⟨rfl,hM.st⟩
  ·rw[if_pos rfl,if_pos rfl]
   (((refine Ab trivial ?_;refine Ab trivial ?_)))
   have:=(Tr.rt.1 hr).len
   refine Be (aVt t.ls (by omega) (aFn g2 x) h1 hM) ?_
   rintro v w' ⟨rfl,hM⟩
   exact⟨rfl,hM.st⟩
end
end Go.Proofs.YtgbenhmdamnmcaaGreat
namespace Go.Proofs.YtgbenhmdamnmcaaGreat
open Tryz
open Go.RowKit Go.Lib
theorem aCm (H:Hp):TrF H (tv none 0 0 none 0 0) Tr.none:=⟨⟨none,0,none,0,[],rfl,Sl.nil _ _ _,Sl.nil _ _ _,trivial⟩,by simp[Tr.none,maxLen]⟩
end Go.Proofs.YtgbenhmdamnmcaaGreat
namespace Go.Proofs.YtgbenhmdamnmcaaGreat
open Tryz
open Go.RowKit Go.Lib
theorem Tr.body {t:Tr} {p:Int} (h:¬t.nobody p):0≤p∧p.toNat<t.ls.length∧p<t.ls.length:=by
 unfold Tr.nobody Tr.size at h
 omega
end Go.Proofs.YtgbenhmdamnmcaaGreat
namespace Go.Proofs.YtgbenhmdamnmcaaGreat
open Tryz
open Go.RowKit Go.Lib
end Go.Proofs.YtgbenhmdamnmcaaGreat
namespace Go.Proofs.YtgbenhmdamnmcaaGreat
open Tryz
open Go.RowKit Go.Lib
theorem Mem.join {H H':Hp} {w0 w w':World} {L L':List Res} (h:Mem H w0 L w) (hc:Mem H' w L' w') (hn:∀ b,b<w.heap.size→H b=none→H' b=none):Mem H' w0 (L'++L) w':=by
 obtain⟨B,hl,hs,hb⟩:=h.own
 obtain⟨B1,hl1,hs1,hb1⟩:=hc.own
 refine⟨⟨B1++B,Hl.app.2 ⟨B1,B,rfl,hl1,hl⟩,?_,fun b hm=>?_⟩,hc.fz⟩
 ·exact St.call (A:=[]) (B':=B1) hs hs1 rfl rfl rfl (fun b hm=>.inl (hb1 b hm).1) (fun b hm hn=>.inr ⟨b,hm,hn,rfl⟩) (fun _ hm=>by cases hm)
 ·rcases List.mem_append.1 hm with hm|hm
  ·exact hb1 b hm
  ·exact⟨(hb b hm).1,hn _ (hs.own b hm).lt (hb b hm).2⟩
end Go.Proofs.YtgbenhmdamnmcaaGreat
namespace Go.Proofs.YtgbenhmdamnmcaaGreat
open Tryz
open Go.RowKit Go.Lib
theorem Mem.weak {H H':Hp} {w0 w:World} {L:List Res} (h:Mem H' w0 L w) (hl:H.le H'):Mem H w0 L w:=by
 obtain⟨B,h1,h2,h3⟩:=h.own
 refine⟨⟨B,h1,h2,fun b hm=>⟨(h3 b hm).1,?_⟩⟩,h.fz.mono hl⟩
 cases hh:H b.g with
 | none=>rfl
 | some c=>
   have:=hl _ _ hh
   rw[(h3 b hm).2]at this
   cases this
end Go.Proofs.YtgbenhmdamnmcaaGreat
namespace Go.Proofs.YtgbenhmdamnmcaaGreat
open Tryz
open Go.RowKit Go.Lib
end Go.Proofs.YtgbenhmdamnmcaaGreat
namespace Go.Proofs.YtgbenhmdamnmcaaGreat
open Tryz
open Go.RowKit Go.Lib
section
variable {H:Hp} {w0 w:World} {L R:List Res} {v:Value} {t:Tr}
theorem aId (h:TrF H v t) (hf:Fz H w):Calls prog 127 #[v] w fun en w'=>en=.returned (.bool t.right)∧St w [] w':=by
 obtain⟨A,a,B,b,q,rfl,h1,h2,h3⟩:=h.ex
 exact Er h1 h2 h3 h.len.1 h.len.2 hf
end
end Go.Proofs.YtgbenhmdamnmcaaGreat
namespace Go.Proofs.YtgbenhmdamnmcaaGreat
open Tryz
open Go.RowKit Go.Lib
end Go.Proofs.YtgbenhmdamnmcaaGreat
namespace Go.Proofs.YtgbenhmdamnmcaaGreat
open Tryz
open Go.RowKit
set_option maxRecDepth 100000 in
theorem bCe:∀ n:Fin 65,∀ x:Fin 127,thr (n.val:Int) (x.val:Int)→x.val%2=1 →
  (thr (n.val:Int) (lf n.val x.val)∧thr (n.val:Int) (rt n.val x.val))∧(level (lf n.val x.val)<level x.val∧level (rt n.val x.val)<level x.val)∧(fro n.val (lf n.val x.val)=fro n.val x.val∧til n.val (lf n.val x.val)=fro n.val (rt n.val x.val)∧til n.val (rt n.val x.val)=til n.val x.val) ∧
  (bs n.val (lf n.val x.val)=rt n.val x.val∧bs n.val (rt n.val x.val)=lf n.val x.val):=by decide +kernel
set_option maxRecDepth 100000 in
theorem aSh:∀ n:Fin 65,∀ x:Fin 127,thr (n.val:Int) (x.val:Int)→0≤ab n.val x.val→ab n.val x.val%2=1∧((x.val:Int)=lf n.val (ab n.val x.val)∨(x.val:Int)=rt n.val (ab n.val x.val)):=by decide +kernel
set_option maxRecDepth 100000 in
theorem aVu:∀ n:Fin 65,∀ x:Fin 127,thr (n.val:Int) (x.val:Int)→x.val%2=0→level x.val=0∧fro n.val x.val=x.val / 2∧til n.val x.val=x.val / 2+1:=by decide +kernel
theorem aCn {n x:Int} (h:thr n x) (ho:x%2=1):(thr n (lf n x)∧thr n (rt n x))∧(level (lf n x)<level x∧level (rt n x)<level x)∧(fro n (lf n x)=fro n x∧til n (lf n x)=fro n (rt n x)∧til n (rt n x)=til n x)∧(bs n (lf n x)=rt n x∧bs n (rt n x)=lf n x):=by
 obtain⟨h1,h2,h3⟩:=id h
 have:=bCe ⟨n.toNat,by omega⟩ ⟨x.toNat,by omega⟩
 simp only[Int.toNat_of_nonneg h2,Int.toNat_of_nonneg (show 0≤n by omega)]at this
 exact this h (by omega)
theorem bDw {n x:Int} (h:thr n x) (ha:0≤ab n x):ab n x%2=1∧(x=lf n (ab n x)∨x=rt n (ab n x)):=by
 obtain⟨h1,h2,h3⟩:=id h
 have:=aSh ⟨n.toNat,by omega⟩ ⟨x.toNat,by omega⟩
 simp only[Int.toNat_of_nonneg h2,Int.toNat_of_nonneg (show 0≤n by omega)]at this
 exact this h ha
theorem aZa {n x:Int} (h:thr n x) (he:x%2=0):level x=0∧fro n x=x / 2∧til n x=x / 2+1:=by
 obtain⟨h1,h2,h3⟩:=id h
 have:=aVu ⟨n.toNat,by omega⟩ ⟨x.toNat,by omega⟩
 simp only[Int.toNat_of_nonneg h2,Int.toNat_of_nonneg (show 0≤n by omega)]at this
 exact this h (by omega)
end Go.Proofs.YtgbenhmdamnmcaaGreat
namespace Go.Proofs.YtgbenhmdamnmcaaGreat
open Tryz
open Go.RowKit Go.Lib
def shaH (l:List Int):H32:=⟨shaSum l,Da l,Hk l⟩
theorem Ja (h:H32):ints (strOfNums h.1)=h.1:=Ck _ h.2.2
theorem cat2 (a b:ByteArray):cat [a,b]=ints a++ints b:=by simp[cat]
theorem cat1 (a:ByteArray):cat [a]=ints a:=by simp[cat]
abbrev sleaf:List Int:=[108,101,97,102]
abbrev snode:List Int:=[110,111,100,101]
abbrev snone:List Int:=[110,111,110,101]
def leafB (l:Lf):List Int:=if 0<l.name then [1]++numB l.name++l.pub.1++l.ver.1++l.abv.1 else [0]
def parentB (p:Pn):List Int:=if p.set=true then [1]++p.pub.1++p.abv.1++numB p.loose.length++p.loose.flatMap numB else [0]
def leafAt (t:Tr) (i:Int):Lf:=t.ls.getD i.toNat Lf.zero
def parAt (t:Tr) (i:Int):Pn:=t.ps.getD i.toNat Pn.zero
def hAt:Nat→Tr→Int→H32
 | 0,t,x=>shaH (sleaf++leafB (leafAt t (x / 2)))
 | f+1,t,x=>if x%2=0 then shaH (sleaf++leafB (leafAt t (x / 2))) else shaH (snode++(parentB (parAt t (x / 2))++(hAt f t (lf t.size x)).1++(hAt f t (rt t.size x)).1))
theorem aVv {f:Nat} {t:Tr} {x:Int} (h:x%2=0):hAt f t x=shaH (sleaf++leafB (leafAt t (x / 2))):=by
 cases f with
 | zero=>rfl
 | succ f=>rw[hAt,if_pos h]
def hRoot (t:Tr):H32:=if t.ls=[] then shaH snone else hAt 8 t (root t.size)
structure Tr.Gd (t:Tr):Prop where
 len:1≤t.ls.length∧t.ls.length≤64∧t.ps.length+1=t.ls.length
 nm:∀ l∈t.ls,0≤l.name∧l.name≤64
 lo:∀ p∈t.ps,p.loose.length≤64∧∀ q∈p.loose,0≤q∧q≤64
theorem Tr.Rt.gd {t:Tr} (h:t.Rt) (hn:t.ls≠[]):t.Gd:=by
 have hl:=h.len
 have h0:0<t.ls.length:=List.length_pos_iff.2 hn
 refine⟨by omega,fun l hm=>?_,fun p hp=>⟨(h.loose p hp).1,fun q hq=>?_⟩⟩
 ·rcases Nl h.leaves l hm with rfl|h
  ·simp[Lf.zero]
  ·omega
 ·obtain⟨i,hi,rfl⟩:=List.getElem_of_mem hp
  have:=Uf ((Ks (Mp h.par i hi).2).1 q hq).1
  unfold Tr.size at this
  omega
theorem aPu {f:Int→List Int} {l:List Int} {k:Nat} (h:∀ x∈l,(f x).length≤k):(l.flatMap f).length≤l.length*k:=by
 induction l with
 | nil=>simp
 | cons x r ih=>
   have h1:=h x (List.mem_cons_self ..)
   have h2:=ih fun y hy=>h y (List.mem_cons_of_mem _ hy)
   simp only[List.flatMap_cons,List.length_append,List.length_cons,Nat.succ_mul]
   omega
theorem Qb (l:Lf):(leafB l).length≤105:=by
 have:=Az l.name
 unfold leafB
 split
 ·simp[l.pub.2.1,l.ver.2.1,l.abv.2.1]
  omega
 ·simp
theorem Yg {p:Pn} (h:p.loose.length≤64):(parentB p).length≤600:=by
 have:=Az p.loose.length
 have h2:=aPu (f:=numB) (l:=p.loose) (k:=8) fun x _=>(Az x).1
 unfold parentB
 split
 ·simp only[List.length_append,p.pub.2.1,p.abv.2.1,List.length_singleton]
  omega
 ·simp
end Go.Proofs.YtgbenhmdamnmcaaGreat
namespace Go.Proofs.YtgbenhmdamnmcaaGreat
open Tryz
open Go.RowKit Go.Lib
abbrev bleaf:ByteArray:=ByteArray.mk #[108,101,97,102]
abbrev bnode:ByteArray:=ByteArray.mk #[110,111,100,101]
abbrev bnone:ByteArray:=ByteArray.mk #[110,111,110,101]
section
variable {H:Hp} {w0 w:World} {L R:List Res} {g:Nat} {out:List Int} {bad:Bool} {A B:Option Addr} {a b:Nat} {t:Tr} {qs:List (List Fd)}
theorem Gk {A:Option Addr} {e:Nat} (a b:ByteArray) (hs:a.size+b.size<1000000000000) (hM:Mem H w0 L w) [k:AtA L A 2 2 e 1 [[.one (.string a)],[.one (.string b)]] R]:
  Calls prog 34 #[.slice A 2 2] w fun en w'=>en=.returned (.agg (u8s (shaH (ints a++ints b)).1).toArray)∧St w [] w':=by
 have h:=Ph A [a,b] 2 w (hM.rd k) (by simp) (by rw[cat2,List.length_append,Bm,Bm];omega)
 rw[cat2]at h
 exact h
theorem aZb {A:Option Addr} {e:Nat} (a:ByteArray) (hs:a.size<1000000000000) (hM:Mem H w0 L w) [k:AtA L A 1 1 e 1 [[.one (.string a)]] R]:
  Calls prog 34 #[.slice A 1 1] w fun en w'=>en=.returned (.agg (u8s (shaH (ints a)).1).toArray)∧St w [] w':=by
 have h:=Ph A [a] 1 w (hM.rd k) (by simp) (by rw[cat1,Bm];omega)
 rw[cat1]at h
 exact h
theorem aCo (b:Bool) (hb:out.length<1000000000) (hM:Mem H w0 (wrR g out bad::L) w):Calls prog 199 #[.pointer (some ⟨g,0,none⟩),.bool b] w fun en w'=>∃ v,en=.returned v∧v=.tuple #[]∧Mem H w0 (wrR g (out++[if b=true then 1 else 0]) bad::L) w':=by
 refine Ry ?_
 unfold Jz
 obtain⟨A,c,hM⟩:=hM.wr
 cases b
 ·(((refine Ab trivial ?_;refine Al ?_;refine Al ?_;refine Ab trivial ?_;refine Ab trivial ?_;refine Ao hM ?_;refine Bu hM ?_ ?_ ?_));(focus rfl);(focus (constructor <;> simp));((clear hM;intro _ _ hM;refine Cz hM ?_ ?_));(focus omega);((clear hM;intro _ _ _ hM;refine Ab trivial ?_;refine Ab trivial ?_;refine Bi hM ?_;clear hM;intro _ hM)))
  rename_i A' c' _ _
  have e:byts out++[[.one (.int .u8 0)]]=byts (out++[0]):=by rw[Oi];rfl
  rw[e]at hM
  have hM:Mem H w0 (fb g 177 [.one (.slice A' (out.length+1) c'),.one (.bool bad)]::rowR 5 1 A' (out.length+1) c' (byts (out++[0]))::L) _:=hM.sub
  exact⟨_,rfl,rfl,Mem.unwr hM (by simp)⟩
 ·(((refine Ab trivial ?_;refine Al ?_;refine Am ?_;refine Ab trivial ?_;refine Ab trivial ?_;refine Ao hM ?_;refine Bu hM ?_ ?_ ?_));(focus rfl);(focus (constructor <;> simp));((clear hM;intro _ _ hM;refine Cz hM ?_ ?_));(focus omega);((clear hM;intro _ _ _ hM;refine Ab trivial ?_;refine Ab trivial ?_;refine Bi hM ?_;clear hM;intro _ hM)))
  rename_i A' c' _ _
  have e:byts out++[[.one (.int .u8 1)]]=byts (out++[1]):=by rw[Oi];rfl
  rw[e]at hM
  have hM:Mem H w0 (fb g 177 [.one (.slice A' (out.length+1) c'),.one (.bool bad)]::rowR 5 1 A' (out.length+1) c' (byts (out++[1]))::L) _:=hM.sub
  exact⟨_,rfl,rfl,Mem.unwr hM (by simp)⟩
theorem Uh (l:Lf) (hn:0≤l.name∧l.name≤64) (hb:out.length<1000000) (hM:Mem H w0 (wrR g out false::L) w):Calls prog 160 #[.pointer (some ⟨g,0,none⟩),lv l] w fun en w'=>∃ v,en=.returned v∧v=.tuple #[]∧Mem H w0 (wrR g (out++leafB l) false::L) w':=by
 refine Wn ?_
 unfold Mh
 have hnl:=Az l.name
 (((refine Bb hM ?_;clear hM;intro _ _ hM;refine Ab trivial ?_;refine Ao hM ?_)))
 (((refine Av trivial ?_ ?_)))
 ·intro h
  skip
  refine Be (aCo true (by omega) (hM.at_ (wrR g out false))) ?_
  rintro v w2 ⟨rfl,hM⟩
  (((refine Ab trivial ?_;refine Ao hM ?_;refine Cc trivial ?_ ?_));(focus (first|assumption|omega|with_reducible rfl|exact fun h=>Bool.noConfusion h));((refine Am ?_;refine Ab trivial ?_;refine Ao hM ?_)))
  refine Be (Cu l.name (by omega) (by simp;omega) hM) ?_
  rintro v w2 ⟨rfl,hM⟩
  (((refine Ab trivial ?_;refine Ao hM ?_)))
  refine Be (Cx l.pub (by simp;omega) hM) ?_
  rintro v w2 ⟨rfl,hM⟩
  (((refine Ab trivial ?_;refine Ao hM ?_)))
  refine Be (Cx l.ver (by simp[l.pub.2.1];omega) hM) ?_
  rintro v w2 ⟨rfl,hM⟩
  (((refine Ab trivial ?_;refine Ao hM ?_)))
  refine Be (Cx l.abv (by simp[l.pub.2.1,l.ver.2.1];omega) hM) ?_
  rintro v w2 ⟨rfl,hM⟩
  skip
  have e:out++[if true=true then 1 else 0]++numB l.name++l.pub.1++l.ver.1++l.abv.1=out++leafB l:=by
   unfold leafB
   rw[if_pos (show 0<l.name by omega)]
   simp
  rw[e]at hM
  exact⟨_,rfl,rfl,hM.sub⟩
 ·intro h
  skip
  refine Be (aCo false (by omega) (hM.at_ (wrR g out false))) ?_
  rintro v w2 ⟨rfl,hM⟩
  (((refine Ab trivial ?_;refine Ao hM ?_;refine Br trivial ?_ ?_));(focus (first|assumption|omega|with_reducible rfl|exact fun h=>Bool.noConfusion h));((refine Al ?_)))
  have e:out++[if false=true then 1 else 0]=out++leafB l:=by
   unfold leafB
   rw[if_neg (show ¬0<l.name by omega)]
   rfl
  rw[e]at hM
  exact⟨_,rfl,rfl,hM.sub⟩
theorem Pl (p:Pn) {C:Option Addr} {c:Nat} (hs:Sl H 1 C (ints8 p.loose)) (hp:p.loose.length≤64∧∀ q∈p.loose,0≤q∧q≤64) (hb:out.length<1000000) (hM:Mem H w0 (wrR g out false::L) w):Calls prog 161 #[.pointer (some ⟨g,0,none⟩),.agg (fl (p.row C c)).toArray] w fun en w'=>∃ v,en=.returned v∧v=.tuple #[]∧Mem H w0 (wrR g (out++parentB p) false::L) w':=by
 refine Rw ?_
 unfold Jw
 (((refine Bb hM ?_;clear hM;intro _ _ hM;refine Ab trivial ?_;refine Ao hM ?_)))
 rename_i g1 _
 refine Be (aCo p.set (by omega) (hM.at_ (wrR g out false))) ?_
 rintro v w2 ⟨rfl,hM⟩
 (((refine Ab trivial ?_;refine Ao hM ?_)))
 rcases Bool.eq_false_or_eq_true p.set with hset|hset
 ·have e:parentB p=[1]++p.pub.1++p.abv.1++numB p.loose.length++p.loose.flatMap numB:=if_pos hset
  rw[hset]at hM ⊢
  (((refine Am ?_;refine Ab trivial ?_;refine Ao hM ?_)))
  refine Be (Cx p.pub (by simp;omega) (hM.at_ (wrR g (out++[if true=true then 1 else 0]) false))) ?_
  rintro v w2 ⟨rfl,hM⟩
  (((refine Ab trivial ?_;refine Ao hM ?_)))
  refine Be (Cx p.abv (by simp[p.pub.2.1];omega) hM) ?_
  rintro v w2 ⟨rfl,hM⟩
  (((refine Ab trivial ?_;refine Ao hM ?_;refine Ab trivial ?_)))
  refine Be (Cu p.loose.length (by omega) (by simp[p.pub.2.1,p.abv.2.1];omega) hM) ?_
  rintro v w2 ⟨rfl,hM⟩
  have hnl:=Az p.loose.length
  generalize hbase:out++[if true=true then 1 else 0]++p.pub.1++p.abv.1++numB p.loose.length=base at hM
  have hbl:base.length≤out.length+73:=by rw[← hbase];simp[p.pub.2.1,p.abv.2.1];omega
  (((refine Ab trivial ?_;refine Ao hM ?_;refine Ab trivial ?_)))
  refine⟨fun v w'=>∃ k:Nat,v=.int .i64 k∧k≤p.loose.length∧Mem H w0 (wrR g (base++(p.loose.take k).flatMap numB) false::fb g1 222 (p.row C c)::L) w',fun v _=>match v with | .int _ k=>p.loose.length - k.toNat|_=>0,⟨0,rfl,by omega,by simpa using hM⟩,?_⟩
  clear hM
  rintro v u w3 ⟨k,rfl,hk,hM⟩
  (((refine Av trivial ?_ ?_)))
  ·intro hlt
   have hlt':k<p.loose.length:=by omega
   have e1:=aCi (l:=p.loose) (i:=k) hlt'
   have hq:=hp.2 _ (List.getElem_mem hlt')
   have hfl:=aPu (f:=numB) (l:=p.loose.take k) (k:=8) fun x _=>(Az x).1
   rw[List.length_take]at hfl
   (((refine Am ?_));(refine Ca ‹_› ?_ ?_ ?_);(focus (simp only[List.length_map];omega));(focus (simp only[List.length_map];first|done|omega));((intro _ _ hA));(cases hA);(refine Bt hM ‹_› (Bs ?_) ?_);(focus omega))
   refine Be (Cu (out:=base++(p.loose.take k).flatMap numB) p.loose[k] (by omega) (by rw[List.length_append];omega) hM) ?_
   rintro v w4 ⟨rfl,hM⟩
   (((refine Ab ?_ ?_));(focus omega))
   refine⟨⟨k+1,rfl,by omega,?_⟩,by simp only;omega⟩
   rw[List.take_succ_eq_append_getElem hlt',List.flatMap_append,← List.append_assoc]
   simpa using hM
  ·intro hge
   obtain rfl:k=p.loose.length:=by omega
   rw[List.take_length]at hM
   (((refine Al ?_)))
   have e2:base++p.loose.flatMap numB=out++parentB p:=by
    rw[e,← hbase]
    simp
   rw[e2]at hM
   exact⟨_,rfl,rfl,hM.sub⟩
 ·have e:parentB p=[0]:=if_neg (by rw[hset];simp)
  rw[hset]at hM ⊢
  (((refine Al ?_)))
  have e2:out++[if false=true then 1 else 0]=out++parentB p:=by
   rw[e]
   rfl
  rw[e2]at hM
  exact⟨_,rfl,rfl,hM.sub⟩
theorem aFo (x:Int):x%2=1→1≤level x:=fun h=>by
 have:=Zj 7 (x / 2)
 unfold level
 rw[lev,if_pos h]
 omega
theorem aSi (l:Lf) (hn:0≤l.name∧l.name≤64):∀ x∈leafB l,0≤x∧x<256:=fun x hx=>by
 unfold leafB at hx
 split at hx
 ·simp only[List.mem_append,List.mem_singleton]at hx
  rcases hx with (((rfl|hx)|hx)|hx)|hx
  ·omega
  ·exact Rz l.name (by omega) x hx
  ·exact l.pub.2.2 x hx
  ·exact l.ver.2.2 x hx
  ·exact l.abv.2.2 x hx
 ·rw[List.mem_singleton.1 hx]
  omega
theorem aKw (p:Pn) (hp:p.loose.length≤64∧∀ q∈p.loose,0≤q∧q≤64):∀ x∈parentB p,0≤x∧x<256:=fun x hx=>by
 unfold parentB at hx
 split at hx
 ·simp only[List.mem_append,List.mem_singleton]at hx
  rcases hx with (((rfl|hx)|hx)|hx)|hx
  ·omega
  ·exact p.pub.2.2 x hx
  ·exact p.abv.2.2 x hx
  ·exact Rz p.loose.length (by omega) x hx
  ·obtain⟨q,hq,hx⟩:=List.mem_flatMap.1 hx
   exact Rz q (by have:=hp.2 q hq;omega) x hx
 ·rw[List.mem_singleton.1 hx]
  omega
theorem Yh {f:Nat} {x:Int} (hG:t.Gd) (h1:Sl H 97 A (t.ls.map Lf.fds)) (he:x%2=0) (ht:thr t.size x) (hf:Fz H w):
  Calls prog 124 #[tv A t.ls.length a B t.ps.length b,.int .i64 x] w fun en w'=>en=.returned (ha (hAt f t x))∧St w [] w':=by
 have hM:=Mem.start hf
 have hlen:=hG.len
 have hts:t.size=t.ls.length:=rfl
 obtain⟨k1,k2,k3⟩:=id ht
 refine Qp ?_
 unfold Lb
 (((refine Bb hM ?_;clear hM;intro _ _ hM;refine Bj hM ?_;clear hM;intro _ _ hM)))
 refine Be (Ig hM) ?_
 rintro v w2 ⟨g,rfl,hM⟩
 have hix:(x / 2).toNat<t.ls.length:=by omega
 have hla:leafAt t (x / 2)=t.ls[(x / 2).toNat]:=by
  unfold leafAt
  rw[List.getD_eq_getElem?_getD,List.getElem?_eq_getElem hix]
  rfl
 have hlb:=Qb t.ls[(x / 2).toNat]
 (((refine Ab ?_ ?_));(focus omega);((refine Cc trivial ?_ ?_));(focus (first|assumption|omega|with_reducible rfl|exact fun h=>Bool.noConfusion h));((refine Am ?_;refine Ab trivial ?_;refine Ao hM ?_;refine Ab ?_ ?_));(focus omega);(refine Ca ‹_› ?_ ?_ ?_);(focus (simp only[List.length_map];omega));(focus (simp only[List.length_map];first|done|omega));((intro _ _ hA));(cases hA);(refine Bt hM ‹_› (Co ?_) ?_);(focus omega))
 refine Be (Uh t.ls[(x / 2).toNat] (hG.nm _ (List.getElem_mem _)) (by simp) (hM.at_ (wrR g [] false))) ?_
 rintro v w3 ⟨rfl,hM⟩
 refine Bn hM (Ih hM) (fun w hM=>?_)
 (((refine Ab trivial ?_;refine Ab trivial ?_;refine Bu hM ?_ ?_ ?_));(focus rfl);(focus (constructor <;> simp));((clear hM;intro _ _ hM)))
 refine Bn hM (Gk bleaf (strOfNums ([]++leafB t.ls[(x / 2).toNat])) (by rw[strOfNums_size];simp;have:bleaf.size=4:=rfl;omega) hM) (fun w hM=>?_)
 (((refine Bi hM ?_;clear hM;intro _ hM;refine Cd hM ?_)))
 refine⟨?_,hM.st⟩
 rw[List.nil_append,Ck _ (aSi _ (hG.nm _ (List.getElem_mem _))),aVv he,hla]
 rfl
theorem aFp (hG:t.Gd) (h1:Sl H 97 A (t.ls.map Lf.fds)) (h2:Sl H 66 B qs) (h3:All2 (PnF H) qs t.ps):∀ (f:Nat) (x:Int),level x≤f→thr t.size x→∀ w,Fz H w →
  Calls prog 124 #[tv A t.ls.length a B t.ps.length b,.int .i64 x] w fun en w'=>en=.returned (ha (hAt f t x))∧St w [] w':=by
 have hlen:=hG.len
 have hts:t.size=t.ls.length:=rfl
 have hq:qs.length=t.ps.length:=h3.len
 intro f
 induction f with
 | zero=>
   intro x hx ht w hf
   have he:x%2=0:=by
    have:=aFo x
    omega
   exact Yh hG h1 he ht hf
 | succ f ih=>
   intro x hx ht w hf
   by_cases he:x%2=0
   ·exact Yh hG h1 he ht hf
   have ho:x%2=1:=by omega
   obtain⟨k1,k2,k3⟩:=id ht
   obtain⟨⟨t1,t2⟩,⟨l1,l2⟩,-⟩:=aCn ht ho
   have hM:=Mem.start hf
   refine Qp ?_
   unfold Lb
   (((refine Bb hM ?_;clear hM;intro _ _ hM;refine Bj hM ?_;clear hM;intro _ _ hM)))
   refine Be (Ig hM) ?_
   rintro v w2 ⟨g,rfl,hM⟩
   have hix:(x / 2).toNat<t.ps.length:=by omega
   obtain⟨q,hq1,C,c,rfl,hC,hcl⟩:=h3.at_ (i:=(x / 2).toNat) hix
   obtain⟨p,hpe⟩:∃ p,t.ps[(x / 2).toNat]=p:=⟨_,rfl⟩
   have hpa:parAt t (x / 2)=p:=by
    unfold parAt
    rw[List.getD_eq_getElem?_getD,List.getElem?_eq_getElem hix,hpe]
    rfl
   have hlo:=hG.lo p (hpe ▸ List.getElem_mem _)
   have hpl:=Yg hlo.1
   rw[hpe]at hq1 hC hcl
   (((refine Ab ?_ ?_));(focus omega);((refine Br trivial ?_ ?_));(focus (first|assumption|omega|with_reducible rfl|exact fun h=>Bool.noConfusion h));((refine Al ?_;refine Ab trivial ?_;refine Ao hM ?_;refine Ab trivial ?_;refine Ab trivial ?_;refine Ao hM ?_;refine Ab ?_ ?_));(focus omega))
   refine Ca h2 (by omega) hq.symm (fun bb oo hB=>?_)
   cases hB
   refine Bt hM h2 hq1 ?_
   refine Be (Pl p hC hlo (by simp) (hM.at_ (wrR g [] false))) ?_
   rintro v w3 ⟨rfl,hM⟩
   (((refine Aw hM ?_;refine Bd hM ?_ (fun _ _ hM=>?_)));(focus (first|exact trivial|assumption|omega)))
   have hbl:∀ y∈snode++(parentB p++(hAt f t (lf t.size x)).1++(hAt f t (rt t.size x)).1),0≤y∧y<256:=fun y hy=>by
    simp only[List.mem_append]at hy
    rcases hy with hy|(hy|hy)|hy
    ·simp at hy
     omega
    ·exact aKw p hlo y hy
    ·exact(hAt f t (lf t.size x)).2.2 y hy
    ·exact(hAt f t (rt t.size x)).2.2 y hy
   refine Bv hM (fun w hM=>ih (lf t.size x) (by omega) t1 w hM.fz) (fun w' hx hM=>?_)
   refine La hM (fun w hM=>Cx (hAt f t (lf t.size x)) (by simp;omega) (hM.at_ (wrR g ([]++parentB p) false))) ?_
   rintro v w4 ⟨rfl,hM⟩
   (((refine Ba hM ?_;clear hM;intro _ hM;refine Aw hM ?_;refine Bd hM ?_ (fun _ _ hM=>?_)));(focus (first|exact trivial|assumption|omega)))
   refine Bv hM (fun w hM=>ih (rt t.size x) (by omega) t2 w hM.fz) (fun w' hx hM=>?_)
   refine La hM (fun w hM=>Cx (hAt f t (rt t.size x)) (by simp[(hAt f t (lf t.size x)).2.1];omega) (hM.at_ (wrR g ([]++parentB p++(hAt f t (lf t.size x)).1) false))) ?_
   rintro v w5 ⟨rfl,hM⟩
   (((refine Ba hM ?_;clear hM;intro _ hM)))
   refine Bn hM (Ih hM) (fun w hM=>?_)
   (((refine Ab trivial ?_;refine Ab trivial ?_;refine Bu hM ?_ ?_ ?_));(focus rfl);(focus (constructor <;> simp));((clear hM;intro _ _ hM)))
   refine Bn hM (Gk bnode (strOfNums ([]++parentB p++(hAt f t (lf t.size x)).1++(hAt f t (rt t.size x)).1)) (by rw[strOfNums_size];simp[(hAt f t (lf t.size x)).2.1,(hAt f t (rt t.size x)).2.1];have:bnode.size=4:=rfl;omega) hM) (fun w hM=>?_)
   (((refine Bi hM ?_;clear hM;intro _ hM;refine Cd hM ?_)))
   refine⟨?_,hM.st⟩
   rw[List.nil_append,Ck _ (fun y hy=>hbl y (List.mem_append.2 (.inr hy))),hAt,if_neg he,hpa]
   rfl
end
end Go.Proofs.YtgbenhmdamnmcaaGreat
