/- Part 6 of the proof. -/
import Derived.Test.YtgbenhmdamnmcaaGreatPd5
import Derived.LaidEql
import Derived.OpenShut
set_option linter.unusedVariables false
namespace Go.Proofs.YtgbenhmdamnmcaaGreat
open Go.Proofs.Tryz
open Go.RowKit
def Rl.fz (K:Hp):Rl:=⟨fun a b=>Fz K a→Fz K b,fun _ h=>h,fun h k x=>k (h x),fun h x=>x.ext h.ext⟩
def hadd (H:Hp) (g:Nat) (cs:List Value):Hp:=fun k=>if k=g then some cs.toArray else H k
section
variable {P:Program} {H H' K:Hp} {w0 w w':World} {L L' R R':List Res} {g i:Nat} {t t':TypeId} {fs gs fs':List Fd} {put:Res→List Res} {q:Bool} {n m cap e e' sz by_:Nat} {v:Value} {Kt:Value→World→Prop} {X:List PanicEntry→World→Prop} {Kq:Value→Prop} {A:Option Addr} {ps qs:List (List Fd)}
theorem Fz.hadd {cs:List Value} (h:Fz H w) (b:Blf w g t cs):Fz (hadd H g cs) w:=fun k c hk=>by
 unfold Go.Proofs.YtgbenhmdamnmcaaGreat.hadd at hk
 split at hk
 ·rename_i e
  subst e
  cases hk
  obtain⟨fr,hb,_⟩:=b
  exact⟨t,fr,hb⟩
 ·exact h k c hk
theorem aVu {cs:List Value} (h:H g=none):H.le (hadd H g cs):=fun k c hk=>by
 unfold hadd
 split
 ·rename_i e
  subst e
  rw[h]at hk
  cases hk
 ·exact hk
theorem Mem.free (h:Mem H w0 L w) [k:AtF L g t' fs R]:H g=none:=by
 obtain⟨B,⟨B1,B2,rfl,⟨_,rfl⟩,_⟩,_,hb⟩:=(h.perm k.perm).own
 exact(hb ⟨g,t',fl fs,true⟩ (by simp)).2
theorem Mem.fzAdd (h:Mem H w0 L w) (hK:Fz K w) (g:Nat) [k:AtF L g t' fs R]:Fz (hadd K g (fl fs)) w:=by
 obtain⟨B,⟨B1,B2,rfl,⟨_,rfl⟩,_⟩,hs,_⟩:=(h.perm k.perm).own
 exact hK.hadd (t:=t') (hs.own ⟨g,t',fl fs,true⟩ (by simp)).blf
theorem FbF.add {fs:List Fd} (h:FOk fs):FbF (hadd K g (fl fs)) g fs:=⟨h,(fl fs).toArray,by simp[hadd],fun j u hu=>by simpa using hu⟩
theorem Fz.mono {w:World} (h:Fz H' w) (k:H.le H'):Fz H w:=fun b c hb=>h b c (k b c hb)
def K2 (H:Hp) (g:Nat) (fs:List Fd) (g2:Nat) (fs2:List Fd):Hp:=hadd (hadd H g (fl fs)) g2 (fl fs2)
theorem Dj (hF:Fz K w) (h:FbF K g fs) [c:ShpC P t q n] [s:Sub fs i n gs] [f:Fv q gs v] (hk:Kq v):dqS P (Rl.fz K) w (Ad t (.pointer (some ⟨g,i,none⟩))) Kq:=
 ⟨v,fun w' hw=>by
  have:=h.load (P:=P) (t:=t) (q:=q) (hw hF) c s f
  unfold opq
  rw[this]
  exact⟨rfl,Drawn.refl w'⟩,hk⟩
theorem aFa {b o k off:Nat} (hF:Fz K w) (a:Sl K sz (some ⟨b,o,none⟩) ps) [c:ShpC P t q n] (hp:ps[k]?=some fs) [s:Sub fs off n gs] [f:Fv q gs v] (hk:Kq v):dqS P (Rl.fz K) w (Ad t (.pointer (some ⟨b,o+k*sz+off,none⟩))) Kq:=
 ⟨v,fun w' hw=>by
  have:=Ss (P:=P) (w:=w') a.els hp c s f (fun _ _ hu=>a.cell (hw hF) hu)
  unfold opq
  rw[this]
  exact⟨rfl,Drawn.refl w'⟩,hk⟩
theorem Mem.refd {fs':List Fd} (h:Mem H w0 (fb g t fs::L) w) (he:fl fs=fl fs') (hf:FOk fs'):Mem H w0 (fb g t fs'::L) w:=by
 have:Mem H w0 ([fb g t fs']++L) w:=h.imp fun B ⟨_,hb⟩=>⟨B,[],by simp,⟨hf,by rw[hb,he]⟩,rfl⟩
 exact this
end
end Go.Proofs.YtgbenhmdamnmcaaGreat
namespace Go.Proofs.YtgbenhmdamnmcaaGreat
open Go.Proofs.Tryz
open Go.RowKit
class PurC (P:Program) (f:Nat) (args:List Value) (c:outParam Prop) (v:outParam Value):Prop where
 ok:c→∀ (w:World),Calls P f args.toArray w fun en w'=>en=.returned v∧St w [] w'
section
variable {P:Program} {H K:Hp} {w0 w:World} {L:List Res} {f:Nat} {args:List Value} {c:Prop} {v:Value} {Kt:Value→World→Prop} {X:List PanicEntry→World→Prop}
theorem Bl (h:Mem H w0 L w) [hf:FunC P f] [p:PurC P f args c v] (hc:c) (hk:∀ w',Mem H w0 L w'→Kt v w'):mop P (Ah (fv f) args) w Kt X:=Bn h (p.ok hc w) hk
theorem Bs {ext:Bool} (h:Mem H w0 L w) [hf:FunC P f] [p:PurC P f args c v] (hc:c) (hk:∀ w',Ext w w'→Mem H w0 L w'→Kt v w'):df P w (Ah (fv f) args) ext Kt:=Cg h (fun w _=>p.ok hc w) hk
end
end Go.Proofs.YtgbenhmdamnmcaaGreat
namespace Go.Proofs.YtgbenhmdamnmcaaGreat
open Go.Proofs.Tryz
open Go.RowKit
def numB (n:Int):List Int:=
 if n<64 then [n]
 else if n<16384 then [64+n / 256,n%256]
 else if n<1073741824 then [128+n / 16777216,n / 65536%256,n / 256%256,n%256]
 else [192+n / 72057594037927936,n / 281474976710656%256,n / 1099511627776%256,n / 4294967296%256,n / 16777216%256,n / 65536%256,n / 256%256,n%256]
theorem Rz (n:Int) (h:0≤n∧n≤4611686018427387903):∀ x∈numB n,0≤x∧x<256:=by
 unfold numB
 split
 ·intro x hx;simp at hx;omega
 ·split
  ·intro x hx;simp at hx;rcases hx with rfl|rfl <;> omega
  ·split
   ·intro x hx;simp at hx;rcases hx with rfl|rfl|rfl|rfl <;> omega
   ·intro x hx;simp at hx;rcases hx with rfl|rfl|rfl|rfl|rfl|rfl|rfl|rfl <;> omega
theorem Be (n:Int):(numB n).length≤8∧1≤(numB n).length:=by
 unfold numB
 repeat' split
 all_goals simp
def wrR (g:Nat) (out:List Int) (bad:Bool):Res:=exR (fun(p:Option Addr × Nat)=>[fb g 177 [.one (.slice p.1 out.length p.2),.one (.bool bad)],rowR 5 1 p.1 out.length p.2 (byts out)])
section
variable {H:Hp} {w0 w:World} {L R:List Res} {g:Nat} {out:List Int} {bad:Bool}
theorem Mem.wr (h:Mem H w0 (wrR g out bad::L) w):∃ A c,Mem H w0 (fb g 177 [.one (.slice A out.length c),.one (.bool bad)]::rowR 5 1 A out.length c (byts out)::L) w:=by
 obtain⟨p,h⟩:=h.unex
 exact⟨p.1,p.2,h⟩
theorem Mem.unwr {A:Option Addr} {n c:Nat} (h:Mem H w0 (fb g 177 [.one (.slice A n c),.one (.bool bad)]::rowR 5 1 A n c (byts out)::L) w) (hn:n=out.length):Mem H w0 (wrR g out bad::L) w:=by
 subst hn
 exact Mem.toex (R:=fun(p:Option Addr × Nat)=>[fb g 177 [.one (.slice p.1 out.length p.2),.one (.bool bad)],rowR 5 1 p.1 out.length p.2 (byts out)]) (A,c) h
theorem Hw (hM:Mem H w0 L w):Calls prog 36 #[] w fun en w'=>∃ v,en=.returned v∧∃ g,v=.pointer (some ⟨g,0,none⟩)∧Mem H w0 (wrR g [] false::L) w':=by
 refine aJk ?_
 unfold Zp
 (((refine Ab trivial ?_;refine Bh hM ?_;clear hM;intro _ _ hM)))
 rename_i g _
 have hM:Mem H w0 (fb g 177 [.one (.slice none 0 0),.one (.bool false)]::rowR 5 1 none 0 0 (byts [])::L) _:=(hM.row0 5 1).perm (.swap ..)
 exact⟨_,rfl,g,rfl,Mem.unwr hM rfl⟩
theorem Dd (h:H32) (hb:out.length<1000000000) (hM:Mem H w0 (wrR g out bad::L) w):Calls prog 84 #[.pointer (some ⟨g,0,none⟩),ha h] w fun en w'=>∃ v,en=.returned v∧v=.tuple #[]∧Mem H w0 (wrR g (out++h.1) bad::L) w':=by
 refine Rs ?_
 unfold Jn
 obtain⟨A,c,hM⟩:=hM.wr
 (((refine Bh hM ?_;clear hM;intro _ _ hM;refine Ab trivial ?_;refine Am ?_;refine Ap trivial ?_;refine Ap trivial ?_;refine Ba hM ?_;refine Ap trivial ?_;refine aGm hM ?_;clear hM;intro _ hM)))
 refine aLz hM (by omega) (fun A' c' w4 hM=>?_)
 (((refine Ap trivial ?_;refine Ap trivial ?_;refine Ca hM ?_;clear hM;intro _ hM;refine Bc hM ?_;clear hM;intro _ hM)))
 exact⟨_,rfl,rfl,Mem.unwr ((hM.upB g).sub:Mem H w0 (fb g 177 [.one (.slice A' (out.length+32) c'),.one (.bool bad)]::rowR 5 1 A' (out.length+32) c' (byts (out++h.1))::L) _) (by simp[h.2.1])⟩
theorem aOk (w:World):Calls prog 116 #[] w fun en w'=>en=.returned (.agg #[.int .i64 64,.int .i64 16384,.int .i64 1073741824,.int .i64 4611686018427387903])∧St w [] w':=by
 have hM:=Mem.start (Fz.of w)
 refine aBy ?_
 unfold Qr
 (((refine Bf hM ?_;clear hM;intro _ _ hM;refine Ab trivial ?_;refine Az hM ?_;clear hM;intro _ hM;refine Bz hM ?_)))
 exact⟨rfl,hM.st⟩
instance:PurC prog 116 [] True (.agg #[.int .i64 64,.int .i64 16384,.int .i64 1073741824,.int .i64 4611686018427387903]):=⟨fun _ w=>aOk w⟩
def kindN (n:Int):Int:=if n<64 then 0 else if n<16384 then 1 else if n<1073741824 then 2 else 3
theorem Sa (n:Int):(n<64∧kindN n=0∧numB n=[n])∨(64≤n∧n<16384∧kindN n=1∧numB n=[64+n / 256,n%256]) ∨
  (16384≤n∧n<1073741824∧kindN n=2∧numB n=[128+n / 16777216,n / 65536%256,n / 256%256,n%256]) ∨
  (1073741824≤n∧kindN n=3∧numB n=[192+n / 72057594037927936,n / 281474976710656%256,n / 1099511627776%256,n / 4294967296%256,n / 16777216%256,n / 65536%256,n / 256%256,n%256]):=by
 unfold kindN numB
 by_cases h1:n<64
 ·exact .inl ⟨h1,if_pos h1,if_pos h1⟩
 ·by_cases h2:n<16384
  ·exact .inr (.inl ⟨by omega,h2,by rw[if_neg h1,if_pos h2],by rw[if_neg h1,if_pos h2]⟩)
  ·by_cases h3:n<1073741824
   ·exact .inr (.inr (.inl ⟨by omega,h3,by rw[if_neg h1,if_neg h2,if_pos h3],by rw[if_neg h1,if_neg h2,if_pos h3]⟩))
   ·exact .inr (.inr (.inr ⟨by omega,by rw[if_neg h1,if_neg h2,if_neg h3],by rw[if_neg h1,if_neg h2,if_neg h3]⟩))
theorem Ud (n:Int):((numB n).length:Int)=1*2 ^ (kindN n).toNat:=by
 rcases Sa n with ⟨_,h2,h3⟩|⟨_,_,h2,h3⟩|⟨_,_,h2,h3⟩|⟨_,h2,h3⟩ <;> (rw[h2,h3];rfl)
theorem or64 (a k:Int) (ha:0≤a∧a<64) (hk:0≤k∧k≤3):bits .or .u8 a (k*64)=a+k*64:=by
 have key:∀ x:Fin 64,∀ y:Fin 4,bits .or .u8 (x.val:Int) ((y.val:Int)*64)=(x.val:Int)+(y.val:Int)*64:=by decide +kernel
 have:=key ⟨a.toNat,by omega⟩ ⟨k.toNat,by omega⟩
 simp only[Int.toNat_of_nonneg ha.1,Int.toNat_of_nonneg hk.1]at this
 exact this
theorem Py (n:Int) (h:0≤n∧n≤4611686018427387903):0≤(numB n).getD 0 0 - kindN n*64∧(numB n).getD 0 0 - kindN n*64<64∧0≤kindN n∧kindN n≤3:=by
 rcases Sa n with ⟨_,h2,h3⟩|⟨_,_,h2,h3⟩|⟨_,_,h2,h3⟩|⟨_,h2,h3⟩ <;> (rw[h2,h3];simp;omega)
theorem byteAt (n:Int) (h:0≤n∧n≤4611686018427387903) (i:Nat) (hi:i<(numB n).length):
  n / 2 ^ (8*(((numB n).length:Int) - 1 - i)).toNat%256=if i=0 then (numB n).getD 0 0 - kindN n*64 else (numB n).getD i 0:=by
 rcases Sa n with ⟨h1,h2,h3⟩|⟨h1,h0,h2,h3⟩|⟨h1,h0,h2,h3⟩|⟨h1,h2,h3⟩ <;> rw[h3]at hi ⊢ <;> rw[h2]
 ·obtain rfl:i=0:=by simp at hi;omega
  simp
  omega
 ·obtain rfl|rfl:i=0∨i=1:=by simp at hi;omega
  all_goals simp
  all_goals omega
 ·obtain rfl|rfl|rfl|rfl:i=0∨i=1∨i=2∨i=3:=by simp at hi;omega
  all_goals simp
  all_goals omega
 ·obtain rfl|rfl|rfl|rfl|rfl|rfl|rfl|rfl:i=0∨i=1∨i=2∨i=3∨i=4∨i=5∨i=6∨i=7:=by simp at hi;omega
  all_goals simp
  all_goals omega
theorem Pz {out:List Int} (l:List Int) (i:Nat) (h:i<l.length):byts (out++l.take i)++[[.one (.int .u8 (l.getD i 0))]]=byts (out++l.take (i+1)):=by
 have e:out++l.take (i+1)=(out++l.take i)++[l.getD i 0]:=by
  rw[List.take_succ_eq_append_getElem h,← List.append_assoc,List.getD_eq_getElem?_getD,List.getElem?_eq_getElem h]
  rfl
 rw[e,Ol (out++l.take i)]
 rfl
theorem Da (n:Int) (h:0≤n∧n≤4611686018427387903) (hb:out.length<1000000000) (hM:Mem H w0 (wrR g out bad::L) w):Calls prog 85 #[.pointer (some ⟨g,0,none⟩),.int .i64 n] w fun en w'=>∃ v,en=.returned v∧v=.tuple #[]∧Mem H w0 (wrR g (out++numB n) bad::L) w':=by
 refine Ti ?_
 unfold Km
 (((refine Ab trivial ?_;refine Aj ?_)))
 refine⟨fun x w'=>x=.bool false∧hM.now w',?_,?_⟩
 ·(((refine Bm trivial ?_ ?_));(focus (first|assumption|omega|with_reducible rfl|exact fun h=>Bool.noConfusion h));((refine Ae ?_;refine Ab trivial ?_;refine Ae ?_;refine Bm trivial ?_ ?_));(focus (first|assumption|omega|with_reducible rfl|exact fun h=>Bool.noConfusion h));((refine Ab trivial ?_)))
  exact⟨rfl,hM⟩
 rintro x u w1 ⟨rfl,hM⟩
 (((refine Aj ?_)))
 refine⟨fun x w'=>∃ k:Nat,x=.int .i64 k∧k≤3∧(1≤k→64≤n)∧(2≤k→16384≤n)∧(3≤k→1073741824≤n)∧hM.now w',fun x _=>match x with | .int _ i=>3 - i.toNat|_=>0,⟨0,rfl,by omega,by omega,by omega,by omega,hM⟩,?_⟩
 rintro x u w2 ⟨k,rfl,hk,h1,h2,h3,hM⟩
 have hlen:=Be n
 refine⟨fun w'=>k<3∧(k=0→64≤n)∧(k=1→16384≤n)∧(k=2→1073741824≤n)∧hM.now w',?_,?_⟩
 ·obtain rfl|rfl|rfl|rfl:k=0∨k=1∨k=2∨k=3:=by omega
  ·have e0:(((0:Nat):Int))=0:=rfl
   simp only[e0]
   (((refine Bt trivial ?_ ?_));(focus (first|assumption|omega|with_reducible rfl|exact fun h=>Bool.noConfusion h));((refine Ae ?_;refine Ab trivial ?_;refine Ae ?_;refine Bl hM ?_ (fun _ hM2=>?_)));(focus (first|exact trivial|assumption|omega));((replace hM:=hM2;clear hM2;refine Ae ?_;refine Ab trivial ?_;refine Ae ?_)))
   refine Br (v:=.int .i64 64) (fun w=>by kernel_rfl) ?_
   (((refine Ae ?_)))
   (((refine Aw trivial ?_ ?_)))
   ·intro hn
    (((refine Ab trivial ?_;refine Am ?_)))
    exact⟨by omega,by omega,by omega,by omega,hM⟩
   ·intro hn
    (((refine Ab trivial ?_;refine Aj ?_)))
    have hkn:(0:Int)=kindN n:=by
     unfold kindN
     simp at h1 h2 h3
     repeat' split
     all_goals omega
    refine Br (Lk _ _ _ _ _ _ (by omega) (by simp[IntKind.bits])) ?_
    have hL:IntKind.i64.wrap (1*2 ^ (0:Int).toNat)=((numB n).length:Int):=by
     rw[Ud,← hkn]
     rfl
    rw[hL]
    refine⟨fun x w'=>∃ i:Nat,x=.int .i64 i∧i≤(numB n).length∧Mem H w0 (wrR g (out++(numB n).take i) bad::L) w',fun x _=>match x with | .int _ i=>(numB n).length - i.toNat|_=>0,⟨0,rfl,by omega,by simpa using hM⟩,?_⟩
    clear hM
    rintro x u w4 ⟨i,rfl,hi,hM⟩
    skip
    (((refine Aw trivial ?_ ?_)))
    ·intro hlt
     have hlt':i<(numB n).length:=by omega
     have hby:=byteAt n h i hlt'
     have hhd:=Py n h
     (((refine Am ?_;refine Ab ?_ ?_));(focus omega);((refine Ab ?_ ?_));(focus omega);((refine Ab ?_ ?_));(focus omega);((refine Ab ?_ ?_));(focus omega);((refine Ab trivial ?_)))
     rw[hby]
     refine⟨fun x w'=>x=.int .u8 ((numB n).getD i 0)∧hM.now w',?_,?_⟩
     ·skip
      (((refine Aw trivial ?_ ?_)))
      ·intro h0
       obtain rfl:i=0:=by omega
       (((refine Am ?_)))
       refine Br (Lk _ _ _ _ _ _ (by omega) (by simp[IntKind.bits])) ?_
       have h6:IntKind.i64.wrap ((0:Int)*2 ^ (6:Int).toNat)=kindN n*64:=by
        rw[← hkn]
        rfl
       rw[h6]
       (((refine Ab trivial ?_;refine Ab trivial ?_)))
       refine⟨?_,hM⟩
       rw[if_pos rfl,Int.emod_eq_of_lt (by omega) (by omega),or64 _ _ (by omega) (by omega)]
       congr 1
       omega
      ·intro h0
       (((refine Aj ?_)))
       exact⟨by rw[if_neg (by omega)],hM⟩
     ·rintro x u w5 ⟨rfl,hM⟩
      obtain⟨A,c,hM⟩:=hM.wr
      have hol:(out++(numB n).take i).length≤out.length+8:=by rw[List.length_append,List.length_take];omega
      (((refine Ab trivial ?_;refine Ab trivial ?_;refine An hM ?_;refine Bx hM ?_ ?_ ?_));(focus rfl);(focus (constructor <;> simp));((clear hM;intro _ _ hM;refine Co hM ?_ ?_));(focus omega);((clear hM;intro _ _ _ hM;refine Ab trivial ?_;refine Ab trivial ?_;refine Az hM ?_;clear hM;intro _ hM;refine Ab ?_ ?_));(focus omega))
      rw[Pz _ _ hlt']at hM
      have hl2:(out++(numB n).take i).length+1=(out++(numB n).take (i+1)).length:=by
       rw[List.length_append,List.length_append,List.length_take,List.length_take];omega
      have hM2:=Mem.unwr (hM.upB g) hl2
      refine⟨⟨i+1,by rw[Int.natCast_add];rfl,by omega,hM2⟩,?_⟩
      show(numB n).length - ((i:Int)+1).toNat<(numB n).length - (i:Int).toNat
      omega
    ·intro hge
     (((refine Aj ?_)))
     rw[List.take_of_length_le (by omega)]at hM
     exact⟨_,rfl,rfl,hM⟩
  ·have e0:(((1:Nat):Int))=1:=rfl
   simp only[e0]
   (((refine Bt trivial ?_ ?_));(focus (first|assumption|omega|with_reducible rfl|exact fun h=>Bool.noConfusion h));((refine Ae ?_;refine Ab trivial ?_;refine Ae ?_;refine Bl hM ?_ (fun _ hM2=>?_)));(focus (first|exact trivial|assumption|omega));((replace hM:=hM2;clear hM2;refine Ae ?_;refine Ab trivial ?_;refine Ae ?_)))
   refine Br (v:=.int .i64 16384) (fun w=>by kernel_rfl) ?_
   (((refine Ae ?_)))
   (((refine Aw trivial ?_ ?_)))
   ·intro hn
    (((refine Ab trivial ?_;refine Am ?_)))
    exact⟨by omega,by omega,by omega,by omega,hM⟩
   ·intro hn
    (((refine Ab trivial ?_;refine Aj ?_)))
    have hkn:(1:Int)=kindN n:=by
     unfold kindN
     simp at h1 h2 h3
     repeat' split
     all_goals omega
    refine Br (Lk _ _ _ _ _ _ (by omega) (by simp[IntKind.bits])) ?_
    have hL:IntKind.i64.wrap (1*2 ^ (1:Int).toNat)=((numB n).length:Int):=by
     rw[Ud,← hkn]
     rfl
    rw[hL]
    refine⟨fun x w'=>∃ i:Nat,x=.int .i64 i∧i≤(numB n).length∧Mem H w0 (wrR g (out++(numB n).take i) bad::L) w',fun x _=>match x with | .int _ i=>(numB n).length - i.toNat|_=>0,⟨0,rfl,by omega,by simpa using hM⟩,?_⟩
    clear hM
    rintro x u w4 ⟨i,rfl,hi,hM⟩
    skip
    (((refine Aw trivial ?_ ?_)))
    ·intro hlt
     have hlt':i<(numB n).length:=by omega
     have hby:=byteAt n h i hlt'
     have hhd:=Py n h
     (((refine Am ?_;refine Ab ?_ ?_));(focus omega);((refine Ab ?_ ?_));(focus omega);((refine Ab ?_ ?_));(focus omega);((refine Ab ?_ ?_));(focus omega);((refine Ab trivial ?_)))
     rw[hby]
     refine⟨fun x w'=>x=.int .u8 ((numB n).getD i 0)∧hM.now w',?_,?_⟩
     ·skip
      (((refine Aw trivial ?_ ?_)))
      ·intro h0
       obtain rfl:i=0:=by omega
       (((refine Am ?_)))
       refine Br (Lk _ _ _ _ _ _ (by omega) (by simp[IntKind.bits])) ?_
       have h6:IntKind.i64.wrap ((1:Int)*2 ^ (6:Int).toNat)=kindN n*64:=by
        rw[← hkn]
        rfl
       rw[h6]
       (((refine Ab trivial ?_;refine Ab trivial ?_)))
       refine⟨?_,hM⟩
       rw[if_pos rfl,Int.emod_eq_of_lt (by omega) (by omega),or64 _ _ (by omega) (by omega)]
       congr 1
       omega
      ·intro h0
       (((refine Aj ?_)))
       exact⟨by rw[if_neg (by omega)],hM⟩
     ·rintro x u w5 ⟨rfl,hM⟩
      obtain⟨A,c,hM⟩:=hM.wr
      have hol:(out++(numB n).take i).length≤out.length+8:=by rw[List.length_append,List.length_take];omega
      (((refine Ab trivial ?_;refine Ab trivial ?_;refine An hM ?_;refine Bx hM ?_ ?_ ?_));(focus rfl);(focus (constructor <;> simp));((clear hM;intro _ _ hM;refine Co hM ?_ ?_));(focus omega);((clear hM;intro _ _ _ hM;refine Ab trivial ?_;refine Ab trivial ?_;refine Az hM ?_;clear hM;intro _ hM;refine Ab ?_ ?_));(focus omega))
      rw[Pz _ _ hlt']at hM
      have hl2:(out++(numB n).take i).length+1=(out++(numB n).take (i+1)).length:=by
       rw[List.length_append,List.length_append,List.length_take,List.length_take];omega
      have hM2:=Mem.unwr (hM.upB g) hl2
      refine⟨⟨i+1,by rw[Int.natCast_add];rfl,by omega,hM2⟩,?_⟩
      show(numB n).length - ((i:Int)+1).toNat<(numB n).length - (i:Int).toNat
      omega
    ·intro hge
     (((refine Aj ?_)))
     rw[List.take_of_length_le (by omega)]at hM
     exact⟨_,rfl,rfl,hM⟩
  ·have e0:(((2:Nat):Int))=2:=rfl
   simp only[e0]
   (((refine Bt trivial ?_ ?_));(focus (first|assumption|omega|with_reducible rfl|exact fun h=>Bool.noConfusion h));((refine Ae ?_;refine Ab trivial ?_;refine Ae ?_;refine Bl hM ?_ (fun _ hM2=>?_)));(focus (first|exact trivial|assumption|omega));((replace hM:=hM2;clear hM2;refine Ae ?_;refine Ab trivial ?_;refine Ae ?_)))
   refine Br (v:=.int .i64 1073741824) (fun w=>by kernel_rfl) ?_
   (((refine Ae ?_)))
   (((refine Aw trivial ?_ ?_)))
   ·intro hn
    (((refine Ab trivial ?_;refine Am ?_)))
    exact⟨by omega,by omega,by omega,by omega,hM⟩
   ·intro hn
    (((refine Ab trivial ?_;refine Aj ?_)))
    have hkn:(2:Int)=kindN n:=by
     unfold kindN
     simp at h1 h2 h3
     repeat' split
     all_goals omega
    refine Br (Lk _ _ _ _ _ _ (by omega) (by simp[IntKind.bits])) ?_
    have hL:IntKind.i64.wrap (1*2 ^ (2:Int).toNat)=((numB n).length:Int):=by
     rw[Ud,← hkn]
     rfl
    rw[hL]
    refine⟨fun x w'=>∃ i:Nat,x=.int .i64 i∧i≤(numB n).length∧Mem H w0 (wrR g (out++(numB n).take i) bad::L) w',fun x _=>match x with | .int _ i=>(numB n).length - i.toNat|_=>0,⟨0,rfl,by omega,by simpa using hM⟩,?_⟩
    clear hM
    rintro x u w4 ⟨i,rfl,hi,hM⟩
    skip
    (((refine Aw trivial ?_ ?_)))
    ·intro hlt
     have hlt':i<(numB n).length:=by omega
     have hby:=byteAt n h i hlt'
     have hhd:=Py n h
     (((refine Am ?_;refine Ab ?_ ?_));(focus omega);((refine Ab ?_ ?_));(focus omega);((refine Ab ?_ ?_));(focus omega);((refine Ab ?_ ?_));(focus omega);((refine Ab trivial ?_)))
     rw[hby]
     refine⟨fun x w'=>x=.int .u8 ((numB n).getD i 0)∧hM.now w',?_,?_⟩
     ·skip
      (((refine Aw trivial ?_ ?_)))
      ·intro h0
       obtain rfl:i=0:=by omega
       (((refine Am ?_)))
       refine Br (Lk _ _ _ _ _ _ (by omega) (by simp[IntKind.bits])) ?_
       have h6:IntKind.i64.wrap ((2:Int)*2 ^ (6:Int).toNat)=kindN n*64:=by
        rw[← hkn]
        rfl
       rw[h6]
       (((refine Ab trivial ?_;refine Ab trivial ?_)))
       refine⟨?_,hM⟩
       rw[if_pos rfl,Int.emod_eq_of_lt (by omega) (by omega),or64 _ _ (by omega) (by omega)]
       congr 1
       omega
      ·intro h0
       (((refine Aj ?_)))
       exact⟨by rw[if_neg (by omega)],hM⟩
     ·rintro x u w5 ⟨rfl,hM⟩
      obtain⟨A,c,hM⟩:=hM.wr
      have hol:(out++(numB n).take i).length≤out.length+8:=by rw[List.length_append,List.length_take];omega
      (((refine Ab trivial ?_;refine Ab trivial ?_;refine An hM ?_;refine Bx hM ?_ ?_ ?_));(focus rfl);(focus (constructor <;> simp));((clear hM;intro _ _ hM;refine Co hM ?_ ?_));(focus omega);((clear hM;intro _ _ _ hM;refine Ab trivial ?_;refine Ab trivial ?_;refine Az hM ?_;clear hM;intro _ hM;refine Ab ?_ ?_));(focus omega))
      rw[Pz _ _ hlt']at hM
      have hl2:(out++(numB n).take i).length+1=(out++(numB n).take (i+1)).length:=by
       rw[List.length_append,List.length_append,List.length_take,List.length_take];omega
      have hM2:=Mem.unwr (hM.upB g) hl2
      refine⟨⟨i+1,by rw[Int.natCast_add];rfl,by omega,hM2⟩,?_⟩
      show(numB n).length - ((i:Int)+1).toNat<(numB n).length - (i:Int).toNat
      omega
    ·intro hge
     (((refine Aj ?_)))
     rw[List.take_of_length_le (by omega)]at hM
     exact⟨_,rfl,rfl,hM⟩
  ·have e0:(((3:Nat):Int))=3:=rfl
   simp only[e0]
   (((refine Bm trivial ?_ ?_));(focus (first|assumption|omega|with_reducible rfl|exact fun h=>Bool.noConfusion h));(((iterate 5 refine Bv ?_);refine Ab trivial ?_;refine Aj ?_)))
   ·have hkn:(3:Int)=kindN n:=by
     unfold kindN
     simp at h1 h2 h3
     repeat' split
     all_goals omega
    refine Br (Lk _ _ _ _ _ _ (by omega) (by simp[IntKind.bits])) ?_
    have hL:IntKind.i64.wrap (1*2 ^ (3:Int).toNat)=((numB n).length:Int):=by
     rw[Ud,← hkn]
     rfl
    rw[hL]
    refine⟨fun x w'=>∃ i:Nat,x=.int .i64 i∧i≤(numB n).length∧Mem H w0 (wrR g (out++(numB n).take i) bad::L) w',fun x _=>match x with | .int _ i=>(numB n).length - i.toNat|_=>0,⟨0,rfl,by omega,by simpa using hM⟩,?_⟩
    clear hM
    rintro x u w4 ⟨i,rfl,hi,hM⟩
    skip
    (((refine Aw trivial ?_ ?_)))
    ·intro hlt
     have hlt':i<(numB n).length:=by omega
     have hby:=byteAt n h i hlt'
     have hhd:=Py n h
     (((refine Am ?_;refine Ab ?_ ?_));(focus omega);((refine Ab ?_ ?_));(focus omega);((refine Ab ?_ ?_));(focus omega);((refine Ab ?_ ?_));(focus omega);((refine Ab trivial ?_)))
     rw[hby]
     refine⟨fun x w'=>x=.int .u8 ((numB n).getD i 0)∧hM.now w',?_,?_⟩
     ·skip
      (((refine Aw trivial ?_ ?_)))
      ·intro h0
       obtain rfl:i=0:=by omega
       (((refine Am ?_)))
       refine Br (Lk _ _ _ _ _ _ (by omega) (by simp[IntKind.bits])) ?_
       have h6:IntKind.i64.wrap ((3:Int)*2 ^ (6:Int).toNat)=kindN n*64:=by
        rw[← hkn]
        rfl
       rw[h6]
       (((refine Ab trivial ?_;refine Ab trivial ?_)))
       refine⟨?_,hM⟩
       rw[if_pos rfl,Int.emod_eq_of_lt (by omega) (by omega),or64 _ _ (by omega) (by omega)]
       congr 1
       omega
      ·intro h0
       (((refine Aj ?_)))
       exact⟨by rw[if_neg (by omega)],hM⟩
     ·rintro x u w5 ⟨rfl,hM⟩
      obtain⟨A,c,hM⟩:=hM.wr
      have hol:(out++(numB n).take i).length≤out.length+8:=by rw[List.length_append,List.length_take];omega
      (((refine Ab trivial ?_;refine Ab trivial ?_;refine An hM ?_;refine Bx hM ?_ ?_ ?_));(focus rfl);(focus (constructor <;> simp));((clear hM;intro _ _ hM;refine Co hM ?_ ?_));(focus omega);((clear hM;intro _ _ _ hM;refine Ab trivial ?_;refine Ab trivial ?_;refine Az hM ?_;clear hM;intro _ hM;refine Ab ?_ ?_));(focus omega))
      rw[Pz _ _ hlt']at hM
      have hl2:(out++(numB n).take i).length+1=(out++(numB n).take (i+1)).length:=by
       rw[List.length_append,List.length_append,List.length_take,List.length_take];omega
      have hM2:=Mem.unwr (hM.upB g) hl2
      refine⟨⟨i+1,by rw[Int.natCast_add];rfl,by omega,hM2⟩,?_⟩
      show(numB n).length - ((i:Int)+1).toNat<(numB n).length - (i:Int).toNat
      omega
    ·intro hge
     (((refine Aj ?_)))
     rw[List.take_of_length_le (by omega)]at hM
     exact⟨_,rfl,rfl,hM⟩
 ·rintro u w3 ⟨hk3,g1,g2,g3,hM⟩
  (((refine Ab ?_ ?_));(focus omega))
  exact⟨⟨k+1,by simp,by omega,fun _=>by omega,fun _=>by omega,fun _=>by omega,hM⟩,by simp;omega⟩
theorem Ia (hM:Mem H w0 (wrR g out false::L) w):Calls prog 38 #[.pointer (some ⟨g,0,none⟩)] w fun en w'=>en=.returned (.tuple #[.string (strOfNums out),.int .i64 0])∧St w [] w':=by
 refine Sz ?_
 unfold Kf
 obtain⟨A,c,hM⟩:=hM.wr
 refine⟨fun x w'=>x=.bool false∧w=w',?_,?_⟩
 ·(((refine Ab trivial ?_;refine Ae ?_;refine Ab trivial ?_;refine Ae ?_;refine Ab trivial ?_;refine Ae ?_;refine Ab trivial ?_;refine Ae ?_;refine An hM ?_;refine Ab trivial ?_)))
  exact⟨rfl,rfl⟩
 rintro x u w2 ⟨rfl,rfl⟩
 (((refine Aj ?_;refine Ab trivial ?_;refine Ab trivial ?_;refine An hM ?_)))
 refine Rk hM (Nat.le_refl _) ?_
 rw[List.take_length]
 exact⟨rfl,St.nil w⟩
end
end Go.Proofs.YtgbenhmdamnmcaaGreat
namespace Go.Proofs.YtgbenhmdamnmcaaGreat
open Go.Proofs.Tryz
open Go.RowKit
section
variable {P:Program} {H:Hp} {w0 w:World} {L:List Res} {g n:Nat} {t t':TypeId} {fs:List Fd} {put:Res→List Res} {v:Value} {K:Value→World→Prop} {X:List PanicEntry→World→Prop}
theorem SubA.set {o j:Nat} {ls:List Value} {putA:List Value→List Fd} (s:SubA fs o n ls putA) (hf:FOk fs) (hj:j<n) (hv:v.oneCell'=true):FOk (putA (ls.set j v))∧lay (fl fs) [v] (o+j)=fl (putA (ls.set j v))∧o+j+1≤(fl fs).length:=by
 obtain⟨a,b,rfl,rfl,h3⟩:=s.ok
 have hls:FdOk (.arr n ls):=hf.ok _ (by simp)
 have hl:ls.length=n:=hls.len
 have ha:=hf.left.left.len
 refine⟨?_,?_,?_⟩
 ·rw[h3]
  refine(hf.left.left.app ⟨fun f hm=>?_⟩).app hf.right
  rw[List.mem_singleton.1 hm]
  refine⟨by simpa [Fd.cells,Fd.size] using hl,fun u hu=>?_⟩
  rcases List.mem_or_eq_of_mem_set hu with hu|rfl
  ·exact hls.one u hu
  ·exact hv
 ·rw[h3]
  unfold lay
  have e1:fl (a++[.arr n ls]++b)=fl a++(ls++fl b):=by simp[Dy,fl,Fd.cells]
  have e2:fl (a++[.arr n (ls.set j v)]++b)=fl a++(ls.set j v++fl b):=by simp[Dy,fl,Fd.cells]
  rw[e1,e2,← ha,List.take_length_add_append,List.take_append_of_le_length (by omega),List.length_singleton,Nat.add_assoc,List.drop_length_add_append,List.drop_append_of_le_length (by omega)]
  rw[List.set_eq_take_append_cons_drop,if_pos (by omega)]
  simp
 ·simp[Dy,fl,Fd.cells]
  omega
theorem aRj {o j:Nat} {ls:List Value} {putA:List Value→List Fd} (h:Mem H w0 L w) (cc:ShpC P t false 1) (k:AtB L g t' fs put) (s:SubA fs o n ls putA) (hv:One v) (hj:j<n):∃ w',(Ai t (.pointer (some ⟨g,o+j,none⟩)) v).run P w=.ok .skip w'∧Mem H w0 (put (fb g t' (putA (ls.set j v)))) w':=by
 obtain⟨hb,hf⟩:=h.blf k
 obtain⟨h1,h2,h3⟩:=s.set hf hj hv.ok
 have hl:(fl (putA (ls.set j v))).length=(fl fs).length:=by rw[← h2];exact Ds _ _ _ (by simpa using h3)
 have hst:=Cc (P:=P) (o+j) [v] 0 (fl fs) w hb (by simpa using h3) (fun u hu=>by rw[List.mem_singleton.1 hu];exact hv.ok)
 refine⟨_,?_,h.setRow k h1 hl⟩
 simp only[Nat.add_zero,h2]at hst
 have e:v.cells.toList=[v]:=by have:=hv.ok;cases v <;> simp_all [Value.cells,Value.oneCell']
 have e2:v.cells.size=1:=by rw[← Array.length_toList,e];rfl
 simp[Ai,su,Instr.storeAt,Instr.sureAddr,storeVar,Ch (Gm (w:=w) cc.ok).2,e,hst,e2]
theorem aKc {o j:Nat} {ls:List Value} {putA:List Value→List Fd} (h:Mem H w0 L w) [cc:ShpC P t false 1] [k:AtB L g t' fs put] [s:SubA fs o n ls putA] [hv:One v] (hj:j<n) (hk:∀ w',Mem H w0 (put (fb g t' (putA (ls.set j v)))) w'→K undef w'):mop P (Ai t (.pointer (some ⟨g,o+j,none⟩)) v) w K X:=by
 obtain⟨w',h1,h2⟩:=aRj h cc k s hv hj
 exact Ie h1 (hk w' h2)
theorem aZc {o j:Nat} {ls:List Value} {putA:List Value→List Fd} (h:Mem H w0 L w) [cc:ShpC P t false 1] [k:AtB L g t' fs put] [s:SubA fs o n ls putA] (hv:ls[j]?=some v) (hk:K v w):mop P (Ad t (.pointer (some ⟨g,o+j,none⟩))) w K X:=aJj h hv hk
class OwnC (P:Program) (f:Nat) (args:List Value) (r:Res) (c:outParam Prop) (r':outParam Res) (v:outParam Value):Prop where
 ok:c→∀ (H:Hp) (w0 w:World) (L:List Res),Mem H w0 (r::L) w→Calls P f args.toArray w fun en w'=>en=.returned v∧Mem H w0 (r'::L) w'
theorem Bu {f:Nat} {a:List Value} {c:Prop} {r':Res} (h:Mem H w0 L w) [hf:FunC P f] [k:AtB L g t fs put] [o:OwnC P f (.pointer (some ⟨g,0,none⟩)::a) (fb g t fs) c r' v] (hc:c) (hk:∀ w',Mem H w0 (put r') w'→K v w'):mop P (Ah (fv f) (.pointer (some ⟨g,0,none⟩)::a)) w K X:=by
 obtain⟨R,h1,h2⟩:=k.perm
 exact Bi (Q:=fun u w'=>u=v∧Mem H w0 (put r') w') ((o.ok hc H w0 w R (h.perm h1)).mono fun en w' ⟨e,hm⟩=>⟨v,e,rfl,hm.perm (h2 r').symm⟩) (fun u w' ⟨e,hm⟩=>by subst e;exact hk w' hm)
end
end Go.Proofs.YtgbenhmdamnmcaaGreat
namespace Go.Proofs.YtgbenhmdamnmcaaGreat
open Go.Proofs.Tryz
open Go.RowKit
theorem Ms {P:Program} {w:World} {t:TypeId} {v:Value} {K:Value→World→Prop} {X:List PanicEntry→World→Prop} (hk:X [{ v:=.iface t v,recovered:=false }] w):mop P (Hu (.iface t v)) w K X:=by
 refine⟨?_⟩
 simp only[Hu,sv,Instr.panic,goPanic]
 exact hk
theorem Sb {F G:Prop} (h:G):mif (.bool (!true)) F G:=Aj h
theorem Sc {F G:Prop} (h:F):mif (.bool (!false)) F G:=Am h
section
variable {H:Hp} {w0 w:World} {L:List Res}
theorem aAp {P:Program} {t tt:TypeId} {q:Bool} {n i k:Nat} {v:Value} {fs gs fs':List Fd} {put:Res→List Res} {K:Value→World→Prop} (h:Mem H w0 L w) [c:ShpC P t q n] [a:AtB L k tt fs put] [f:Vf v n gs] [p:Put fs i gs fs'] (hk:∀ w',Mem H w0 (put (fb k tt fs')) w'→K undef w'):
  dfS P (Rl.only fun b=>b=k) w (Ai t (.pointer (some ⟨k,i,none⟩)) v) true K:=⟨fun w1 hd=>by
 have h:=h.drawn hd
 obtain⟨w',h1,h2⟩:=aLv h c a f p
 obtain⟨hb,hf⟩:=h.blf a
 obtain⟨e,hn,hg⟩:=f.ok
 obtain⟨_,k2,k3⟩:=p.cells hf hg
 have e2:v.cells.size=n:=by rw[← Array.length_toList,e,hg.len,hn]
 obtain⟨w2,h3,h4⟩:=Na (P:=P) (i:=i) (v:=v) c.ok (St.oneF hb) e2 (by rw[e];exact hg.one) (by rw[hg.len,hn]at k3;exact k3)
 rw[h1]at h3
 cases h3
 exact Ie h1 ⟨fun _=>(hd.onlyS _).trans1 (h4.only.mono fun j _ ⟨b,hm,_,hj⟩=>by
  rw[List.mem_singleton]at hm
  subst hm
  exact hj.symm),hk w' h2⟩⟩
theorem Mem.neB {a b ta tb:Nat} {fa fb':List Fd} {R R':List Res} (h:Mem H w0 (fb a ta fa::R) w) [k:AtF R b tb fb' R']:¬a=b:=by
 rintro rfl
 obtain⟨B,⟨B1,B2,rfl,⟨_,rfl⟩,B3,B4,rfl,⟨_,rfl⟩,_⟩,hs,_⟩:=(h.perm (k.perm.cons _)).own
 exact(List.pairwise_cons.1 hs.ne).1 ⟨a,tb,fl fb',true⟩ (by simp) rfl
end
end Go.Proofs.YtgbenhmdamnmcaaGreat
namespace Go.Proofs.YtgbenhmdamnmcaaGreat
open Go.Proofs.Tryz
open Go.RowKit
theorem aDd {want:Bool} {w:World} {run:(Value→World→Prop)→Prop} {K:Value→World→Prop} (h:K undef w):mguard undef want run w K:=Uw (by intro h;cases h) h
theorem aZd (A X B Y:List Value) (o:Nat) (h:o+Y.length≤X.length):lay (A++(X++B)) Y (A.length+o)=A++(lay X Y o++B):=by
 unfold lay
 rw[List.take_length_add_append,Nat.add_assoc,List.drop_length_add_append,List.take_append_of_le_length (by omega),List.drop_append_of_le_length (by omega)]
 simp
section
variable {P:Program} {H:Hp} {w0 w:World} {L:List Res} {n cap e sz by_:Nat} {t:TypeId} {A:Option Addr} {ps:List (List Fd)} {X:List PanicEntry→World→Prop}
theorem Mem.setFld {R1:List Res} {g k off:Nat} {fs gs fs':List Fd} (h:Mem H w0 (rowR e sz (some ⟨g,0,none⟩) n cap ps::R1) w) (hk:ps[k]?=some fs) (hp:Put fs off gs fs') (hg:FOk gs):∃ w',(storeCells ⟨g,0+k*sz+off,none⟩ (fl gs) 0).run P w=.ok () w'∧Mem H w0 (rowR e sz (some ⟨g,0,none⟩) n cap (ps.set k fs')::R1) w':=by
 obtain⟨B,⟨B1,B2,rfl,⟨h1,h2,h3⟩,h4⟩,hs',hb⟩:=h.own
 obtain⟨hk',rfl⟩:=List.getElem?_eq_some_iff.1 hk
 rcases h3 with ⟨hA,h3,_⟩|⟨g',sp,hA,rfl,h5,h6⟩
 ·cases hA
 ·cases hA
  have hs':St w0 (⟨g,e,fls ps++sp,true⟩::B2) w:=hs'
  have hfl:(fls ps).length=n*sz:=by rw[h1.len,h2]
  obtain⟨hxo,hxs⟩:=h1.ok ps[k] (List.getElem_mem _)
  obtain⟨hf',hly,hle0⟩:=hp.cells hxo hg
  have hxl:(fl ps[k]).length=sz:=by rw[hxo.len,hxs]
  have hle:k*sz+sz≤n*sz:=by rw[← Nat.succ_mul];exact Nat.mul_le_mul_right _ (by omega)
  have hst:=Cc (P:=P) (0+k*sz+off) (fl gs) 0 (fls ps++sp) w hs'.head (by rw[List.length_append,hfl];omega) hg.one
  have ht:(fls (ps.take k)).length=k*sz:=by rw[(h1.take k).len,List.length_take,Nat.min_eq_left (by omega)]
  have hlay:lay (fls ps++sp) (fl gs) (0+k*sz+off+0)=fls (ps.set k fs')++sp:=by
   have e1:ps=ps.take k++ps[k]::ps.drop (k+1):=by rw[List.getElem_cons_drop,List.take_append_drop]
   rw[List.set_eq_take_append_cons_drop,if_pos hk']
   conv=>lhs;rw[e1]
   rw[show 0+k*sz+off+0=(fls (ps.take k)).length+off by rw[ht];omega,Gp,Gp,Gn,Gn,← hly,List.append_assoc,List.append_assoc,aZd _ _ _ _ _ hle0]
   simp
  refine⟨_,hst,?_⟩
  rw[hlay]
  have hl2:(fls (ps.set k fs')++sp).length=(fls ps++sp).length:=by
   rw[← hlay]
   exact Ds _ _ _ (by rw[List.length_append,hfl];omega)
  have hsz':fsz fs'=sz:=by
   have hh:=congrArg List.length hly
   rw[Ds _ _ _ hle0,hxl,hf'.len]at hh
   omega
  have hels:Els sz (ps.set k fs'):=⟨fun q hq=>by
   rcases List.mem_or_eq_of_mem_set hq with hq|rfl
   ·exact h1.ok q hq
   ·exact⟨hf',hsz'⟩⟩
  have hgg:=hb ⟨g,e,fls ps++sp,true⟩ (by simp)
  refine⟨⟨⟨g,e,fls (ps.set k fs')++sp,true⟩::B2,⟨[⟨g,e,fls (ps.set k fs')++sp,true⟩],B2,rfl,⟨hels,by simpa using h2,.inr ⟨g,sp,rfl,rfl,by rw[hl2];exact h5,h6⟩⟩,h4⟩,hs'.setRow hl2,fun b hm=>?_⟩,h.fz.same fun b c hc=>setRow_other w g b _ ?_⟩
  ·rcases List.mem_cons.1 hm with rfl|hm
   ·exact⟨rfl,hgg.2⟩
   ·exact hb b (List.mem_append.2 (.inr hm))
  ·rintro rfl
   have:=hgg.2
   simp only[hc]at this
   cases this
theorem aMc {R1:List Res} {g k off m:Nat} {tt:TypeId} {q:Bool} {v:Value} {fs gs fs':List Fd} (h:Mem H w0 L w) (c:ShpC P tt q m) (a:AtA L (some ⟨g,0,none⟩) n cap e sz ps R1) (hk:ps[k]?=some fs) (f:Vf v m gs) (p:Put fs off gs fs'):
  ∃ w',(Ai tt (.pointer (some ⟨g,0+k*sz+off,none⟩)) v).run P w=.ok .skip w'∧Mem H w0 (rowR e sz (some ⟨g,0,none⟩) n cap (ps.set k fs')::R1) w':=by
 obtain⟨ev,hn,hp⟩:=f.ok
 obtain⟨w',hr,hm⟩:=(h.perm a.perm).setFld (P:=P) hk p hp
 refine⟨w',?_,hm⟩
 have e2:v.cells.size=m:=by rw[← Array.length_toList,ev,hp.len,hn]
 simp[Ai,su,Instr.storeAt,Instr.sureAddr,storeVar,Ch (Gm (w:=w) c.ok).2,ev,e2]
 simp only[Nat.zero_add]at hr
 simp[hr]
theorem aZe {R1:List Res} {g k off m:Nat} {tt:TypeId} {q:Bool} {v:Value} {fs gs fs':List Fd} {K:Value→World→Prop} (h:Mem H w0 L w) [c:ShpC P tt q m] [a:AtA L (some ⟨g,0,none⟩) n cap e sz ps R1] (hk:ps[k]?=some fs) [f:Vf v m gs] [p:Put fs off gs fs']
  (hK:∀ w',Mem H w0 (rowR e sz (some ⟨g,0,none⟩) n cap (ps.set k fs')::R1) w'→K undef w'):mop P (Ai tt (.pointer (some ⟨g,0+k*sz+off,none⟩)) v) w K X:=by
 obtain⟨w',hr,hm⟩:=aMc (P:=P) h c a hk f p
 exact Ie hr (hK w' hm)
theorem aKd {R1:List Res} {g k off m:Nat} {tt:TypeId} {q:Bool} {v:Value} {fs gs fs':List Fd} {K:Value→World→Prop} (h:Mem H w0 L w) [c:ShpC P tt q m] [a:AtA L (some ⟨g,0,none⟩) n cap e sz ps R1] (hk:ps[k]?=some fs) [f:Vf v m gs] [p:Put fs off gs fs']
  (hK:∀ w',Mem H w0 (rowR e sz (some ⟨g,0,none⟩) n cap (ps.set k fs')::R1) w'→K undef w'):df P w (Ai tt (.pointer (some ⟨g,0+k*sz+off,none⟩)) v) false K:=El fun w1 hd=>Fc (aZe (X:=fun _ _=>False) (h.drawn hd) hk hK) (fun v w' h=>⟨(fun e=>by cases e),h⟩) (fun _ _ h=>h)
end
end Go.Proofs.YtgbenhmdamnmcaaGreat
namespace Go.Proofs.YtgbenhmdamnmcaaGreat
open Go.Proofs.Tryz
open Go.RowKit
theorem aKe {P:Program} {t:TypeId} {q:Bool} {K:Value→Prop} (a b:List Int) (h:a.length+b.length≤1000000000000) (hk:K (.string (strOfNums (a++b)))):dp P (Af .add t q (.string (strOfNums a)) (.string (strOfNums b))) K:=by
 refine Ap (by rw[strOfNums_size,strOfNums_size];omega) ?_
 rw[Mq]
 exact hk
theorem aMd {P:Program} {t:TypeId} {q:Bool} {w:World} {K:Value→World→Prop} {X:List PanicEntry→World→Prop} (a b:List Int) (h:a.length+b.length≤1000000000000) (hk:K (.string (strOfNums (a++b))) w):mop P (Af .add t q (.string (strOfNums a)) (.string (strOfNums b))) w K X:=by
 refine Ab (by rw[strOfNums_size,strOfNums_size];omega) ?_
 rw[Mq]
 exact hk
section
variable {H:Hp} {w0 w:World} {L R:List Res} {g:Nat}
theorem aVv (n:Int) (h:0≤n∧n≤4611686018427387903) (w:World):Calls prog 40 #[.int .i64 n] w fun en w'=>en=.returned (.string (strOfNums (numB n)))∧St w [] w':=by
 have hM:=Mem.start (Fz.of w)
 refine Xv ?_
 unfold Nu
 (((refine Aw trivial ?_ ?_)))
 ·intro h1
  (((refine Am ?_;refine Ab trivial ?_;refine Bx hM ?_ ?_ ?_));(focus rfl);(focus (constructor <;> simp));((clear hM;intro _ _ hM)))
  refine Rk (l:=[n%256]) (R:=[]) (a:=⟨.refl _⟩) hM (by simp) ?_
  refine⟨?_,hM.st⟩
  unfold numB
  rw[if_pos h1,Int.emod_eq_of_lt h.1 (by omega)]
  rfl
 ·intro h1
  (((refine Aj ?_)))
  (((refine Aw trivial ?_ ?_)))
  ·intro h2
   (((refine Am ?_;refine Ab ?_ ?_));(focus omega);((refine Ab ?_ ?_));(focus omega);((refine Ab trivial ?_;refine Ab ?_ ?_));(focus omega);((refine Ab trivial ?_;refine Bx hM ?_ ?_ ?_));(focus rfl);(focus (constructor <;> simp));((clear hM;intro _ _ hM)))
   refine Rk (l:=[(64+n / 256)%256,n%256%256]) (R:=[]) (a:=⟨.refl _⟩) hM (by simp) ?_
   refine⟨?_,hM.st⟩
   unfold numB
   rw[if_neg h1,if_pos h2,Int.emod_eq_of_lt (a:=64+n / 256) (by omega) (by omega),Int.emod_emod_of_dvd _ (by omega)]
   rfl
  ·intro h2
   (((refine Aj ?_)))
   (((refine Aw trivial ?_ ?_)))
   ·intro h3
    (((refine Am ?_;refine Ab ?_ ?_));(focus omega);((refine Ab ?_ ?_));(focus omega);((refine Ab trivial ?_;refine Ab ?_ ?_));(focus omega);((refine Ab ?_ ?_));(focus omega);((refine Ab trivial ?_;refine Ab ?_ ?_));(focus omega);((refine Ab ?_ ?_));(focus omega);((refine Ab trivial ?_;refine Ab ?_ ?_));(focus omega);((refine Ab trivial ?_;refine Bx hM ?_ ?_ ?_));(focus rfl);(focus (constructor <;> simp));((clear hM;intro _ _ hM)))
    refine Rk (l:=[(128+n / 16777216)%256,n / 65536%256%256,n / 256%256%256,n%256%256]) (R:=[]) (a:=⟨.refl _⟩) hM (by simp) ?_
    refine⟨?_,hM.st⟩
    unfold numB
    rw[if_neg h1,if_neg h2,if_pos h3,Int.emod_eq_of_lt (a:=128+n / 16777216) (by omega) (by omega)]
    simp only[Int.emod_emod_of_dvd _ (Int.dvd_refl 256)]
    rfl
   ·intro h3
    (((refine Aj ?_;refine Bf hM ?_;clear hM;intro _ _ hM)))
    rename_i g _
    refine⟨fun x y w'=>(x=.int .i64 (n)∧y=.int .i64 (7)∧Mem (Hp.of w) w [fb g 183 [.one (.int .u8 0),.one (.int .u8 0),.one (.int .u8 0),.one (.int .u8 0),.one (.int .u8 0),.one (.int .u8 0),.one (.int .u8 0),.one (.int .u8 0)]] w')∨(x=.int .i64 (n / 256)∧y=.int .i64 (6)∧Mem (Hp.of w) w [fb g 183 [.one (.int .u8 0),.one (.int .u8 0),.one (.int .u8 0),.one (.int .u8 0),.one (.int .u8 0),.one (.int .u8 0),.one (.int .u8 0),.one (.int .u8 (n%256%256))]] w')∨(x=.int .i64 (n / 65536)∧y=.int .i64 (5)∧Mem (Hp.of w) w [fb g 183 [.one (.int .u8 0),.one (.int .u8 0),.one (.int .u8 0),.one (.int .u8 0),.one (.int .u8 0),.one (.int .u8 0),.one (.int .u8 (n / 256%256%256)),.one (.int .u8 (n%256%256))]] w')∨(x=.int .i64 (n / 16777216)∧y=.int .i64 (4)∧Mem (Hp.of w) w [fb g 183 [.one (.int .u8 0),.one (.int .u8 0),.one (.int .u8 0),.one (.int .u8 0),.one (.int .u8 0),.one (.int .u8 (n / 65536%256%256)),.one (.int .u8 (n / 256%256%256)),.one (.int .u8 (n%256%256))]] w')∨(x=.int .i64 (n / 4294967296)∧y=.int .i64 (3)∧Mem (Hp.of w) w [fb g 183 [.one (.int .u8 0),.one (.int .u8 0),.one (.int .u8 0),.one (.int .u8 0),.one (.int .u8 (n / 16777216%256%256)),.one (.int .u8 (n / 65536%256%256)),.one (.int .u8 (n / 256%256%256)),.one (.int .u8 (n%256%256))]] w')∨(x=.int .i64 (n / 1099511627776)∧y=.int .i64 (2)∧Mem (Hp.of w) w [fb g 183 [.one (.int .u8 0),.one (.int .u8 0),.one (.int .u8 0),.one (.int .u8 (n / 4294967296%256%256)),.one (.int .u8 (n / 16777216%256%256)),.one (.int .u8 (n / 65536%256%256)),.one (.int .u8 (n / 256%256%256)),.one (.int .u8 (n%256%256))]] w')∨(x=.int .i64 (n / 281474976710656)∧y=.int .i64 (1)∧Mem (Hp.of w) w [fb g 183 [.one (.int .u8 0),.one (.int .u8 0),.one (.int .u8 (n / 1099511627776%256%256)),.one (.int .u8 (n / 4294967296%256%256)),.one (.int .u8 (n / 16777216%256%256)),.one (.int .u8 (n / 65536%256%256)),.one (.int .u8 (n / 256%256%256)),.one (.int .u8 (n%256%256))]] w')∨(x=.int .i64 (n / 72057594037927936)∧y=.int .i64 (0)∧Mem (Hp.of w) w [fb g 183 [.one (.int .u8 0),.one (.int .u8 (n / 281474976710656%256%256)),.one (.int .u8 (n / 1099511627776%256%256)),.one (.int .u8 (n / 4294967296%256%256)),.one (.int .u8 (n / 16777216%256%256)),.one (.int .u8 (n / 65536%256%256)),.one (.int .u8 (n / 256%256%256)),.one (.int .u8 (n%256%256))]] w')∨(x=.int .i64 (n / 18446744073709551616)∧y=.int .i64 (-1)∧Mem (Hp.of w) w [fb g 183 [.one (.int .u8 (n / 72057594037927936%256%256)),.one (.int .u8 (n / 281474976710656%256%256)),.one (.int .u8 (n / 1099511627776%256%256)),.one (.int .u8 (n / 4294967296%256%256)),.one (.int .u8 (n / 16777216%256%256)),.one (.int .u8 (n / 65536%256%256)),.one (.int .u8 (n / 256%256%256)),.one (.int .u8 (n%256%256))]] w'),fun _ y _=>match y with | .int _ i=>(i+1).toNat|_=>0,.inl ⟨rfl,rfl,hM⟩,?_⟩
    clear hM
    rintro x y u w2 (⟨rfl,rfl,hM⟩|⟨rfl,rfl,hM⟩|⟨rfl,rfl,hM⟩|⟨rfl,rfl,hM⟩|⟨rfl,rfl,hM⟩|⟨rfl,rfl,hM⟩|⟨rfl,rfl,hM⟩|⟨rfl,rfl,hM⟩|⟨rfl,rfl,hM⟩)
    ·(((refine Bt trivial ?_ ?_));(focus (first|assumption|omega|with_reducible rfl|exact fun h=>Bool.noConfusion h));((refine Am ?_;refine Ab ?_ ?_));(focus omega);((refine Ab trivial ?_;refine Ab trivial ?_;refine Az hM ?_;clear hM;intro _ hM;refine Ab ?_ ?_));(focus omega);((refine Ab ?_ ?_));(focus omega))
     refine⟨.inr (.inl ⟨by first|rfl|(congr 1;omega),rfl,hM⟩),by first|decide|(dsimp only;omega)|(simp;done)⟩
    ·(((refine Bt trivial ?_ ?_));(focus (first|assumption|omega|with_reducible rfl|exact fun h=>Bool.noConfusion h));((refine Am ?_;refine Ab ?_ ?_));(focus omega);((refine Ab trivial ?_;refine Ab trivial ?_;refine Az hM ?_;clear hM;intro _ hM;refine Ab ?_ ?_));(focus omega);((refine Ab ?_ ?_));(focus omega))
     refine⟨.inr (.inr (.inl ⟨by first|rfl|(congr 1;omega),rfl,hM⟩)),by first|decide|(dsimp only;omega)|(simp;done)⟩
    ·(((refine Bt trivial ?_ ?_));(focus (first|assumption|omega|with_reducible rfl|exact fun h=>Bool.noConfusion h));((refine Am ?_;refine Ab ?_ ?_));(focus omega);((refine Ab trivial ?_;refine Ab trivial ?_;refine Az hM ?_;clear hM;intro _ hM;refine Ab ?_ ?_));(focus omega);((refine Ab ?_ ?_));(focus omega))
     refine⟨.inr (.inr (.inr (.inl ⟨by first|rfl|(congr 1;omega),rfl,hM⟩))),by first|decide|(dsimp only;omega)|(simp;done)⟩
    ·(((refine Bt trivial ?_ ?_));(focus (first|assumption|omega|with_reducible rfl|exact fun h=>Bool.noConfusion h));((refine Am ?_;refine Ab ?_ ?_));(focus omega);((refine Ab trivial ?_;refine Ab trivial ?_;refine Az hM ?_;clear hM;intro _ hM;refine Ab ?_ ?_));(focus omega);((refine Ab ?_ ?_));(focus omega))
     refine⟨.inr (.inr (.inr (.inr (.inl ⟨by first|rfl|(congr 1;omega),rfl,hM⟩)))),by first|decide|(dsimp only;omega)|(simp;done)⟩
    ·(((refine Bt trivial ?_ ?_));(focus (first|assumption|omega|with_reducible rfl|exact fun h=>Bool.noConfusion h));((refine Am ?_;refine Ab ?_ ?_));(focus omega);((refine Ab trivial ?_;refine Ab trivial ?_;refine Az hM ?_;clear hM;intro _ hM;refine Ab ?_ ?_));(focus omega);((refine Ab ?_ ?_));(focus omega))
     refine⟨.inr (.inr (.inr (.inr (.inr (.inl ⟨by first|rfl|(congr 1;omega),rfl,hM⟩))))),by first|decide|(dsimp only;omega)|(simp;done)⟩
    ·(((refine Bt trivial ?_ ?_));(focus (first|assumption|omega|with_reducible rfl|exact fun h=>Bool.noConfusion h));((refine Am ?_;refine Ab ?_ ?_));(focus omega);((refine Ab trivial ?_;refine Ab trivial ?_;refine Az hM ?_;clear hM;intro _ hM;refine Ab ?_ ?_));(focus omega);((refine Ab ?_ ?_));(focus omega))
     refine⟨.inr (.inr (.inr (.inr (.inr (.inr (.inl ⟨by first|rfl|(congr 1;omega),rfl,hM⟩)))))),by first|decide|(dsimp only;omega)|(simp;done)⟩
    ·(((refine Bt trivial ?_ ?_));(focus (first|assumption|omega|with_reducible rfl|exact fun h=>Bool.noConfusion h));((refine Am ?_;refine Ab ?_ ?_));(focus omega);((refine Ab trivial ?_;refine Ab trivial ?_;refine Az hM ?_;clear hM;intro _ hM;refine Ab ?_ ?_));(focus omega);((refine Ab ?_ ?_));(focus omega))
     refine⟨.inr (.inr (.inr (.inr (.inr (.inr (.inr (.inl ⟨by first|rfl|(congr 1;omega),rfl,hM⟩))))))),by first|decide|(dsimp only;omega)|(simp;done)⟩
    ·(((refine Bt trivial ?_ ?_));(focus (first|assumption|omega|with_reducible rfl|exact fun h=>Bool.noConfusion h));((refine Am ?_;refine Ab ?_ ?_));(focus omega);((refine Ab trivial ?_;refine Ab trivial ?_;refine Az hM ?_;clear hM;intro _ hM;refine Ab ?_ ?_));(focus omega);((refine Ab ?_ ?_));(focus omega))
     refine⟨.inr (.inr (.inr (.inr (.inr (.inr (.inr (.inr (⟨by first|rfl|(congr 1;omega),rfl,hM⟩)))))))),by first|decide|(dsimp only;omega)|(simp;done)⟩
    ·(((refine Bm trivial ?_ ?_));(focus (first|assumption|omega|with_reducible rfl|exact fun h=>Bool.noConfusion h));((refine Aj ?_;refine Ab trivial ?_;refine An hM ?_;refine Ab trivial ?_;refine Ab trivial ?_;refine Az hM ?_;clear hM;intro _ hM;refine Ab trivial ?_)))
     have hM:=Mem.refd (fs':=[.arr 8 (u8s [(n / 72057594037927936%256%256+192)%256,n / 281474976710656%256%256,n / 1099511627776%256%256,n / 4294967296%256%256,n / 16777216%256%256,n / 65536%256%256,n / 256%256%256,n%256%256])]) hM rfl ⟨fun f hf=>by
      rw[List.mem_singleton.1 hf]
      exact⟨rfl,fun u hu=>Fk _ u hu⟩⟩
     (((refine Jh hM ?_)))
     refine⟨?_,hM.st⟩
     unfold numB
     rw[if_neg h1,if_neg h2,if_neg h3]
     simp only[Int.emod_emod_of_dvd _ (Int.dvd_refl 256)]
     rw[show(n / 72057594037927936%256+192)%256=192+n / 72057594037927936 by omega]
instance (n:Int):PurC prog 40 [.int .i64 n] (0≤n∧n≤4611686018427387903) (.string (strOfNums (numB n))):=⟨fun h w=>aVv n h w⟩
end
end Go.Proofs.YtgbenhmdamnmcaaGreat
namespace Go.Proofs.YtgbenhmdamnmcaaGreat
open Go.Proofs.Tryz
open Go.RowKit
def xorB (c x:Int):Int:=bits .xor .u8 x c
def pad (l:List Int):List Int:=l++List.replicate (64 - l.length) 0
def kk (l:List Int):List Int:=if 64<l.length then shaSum l else l
def hmac (k m:List Int):List Int:=shaSum ((pad (kk k)).map (xorB 92)++shaSum ((pad (kk k)).map (xorB 54)++m))
theorem Ij (k m:List Int):(hmac k m).length=32:=Dg _
theorem Nm (k m:List Int):∀ x∈hmac k m,0≤x∧x<256:=He _
theorem aDe (l:List Int):(kk l).length≤64:=by
 unfold kk
 split
 ·rw[Dg];omega
 ·omega
theorem aKf (l:List Int) (h:l.length≤64):(pad l).length=64:=by simp[pad];omega
theorem aKg (c x:Int):0≤xorB c x∧xorB c x<256:=by
 have:=bounds_u8 (wf_bits .xor .u8 x c)
 unfold xorB
 omega
theorem Rh (c:Int) (l:List Int):∀ x∈l.map (xorB c),0≤x∧x<256:=by
 intro x hx
 obtain⟨y,_,rfl⟩:=List.mem_map.1 hx
 exact aKg c y
def xk (c:Int) (l:List Int) (i:Nat):List Int:=(l.take i).map (xorB c)++l.drop i
theorem Qa (c:Int) (l:List Int) (i:Nat):(xk c l i).length=l.length:=by simp[xk];omega
theorem aYi (c:Int) (l:List Int) (i:Nat) (h:i<l.length):(xk c l i).getD i 0=l.getD i 0:=by
 have h1:(l.take i).length=i:=by simp;omega
 unfold xk List.getD
 rw[List.getElem?_append_right (by rw[List.length_map,h1];omega),List.length_map,h1,Nat.sub_self,List.getElem?_drop]
 simp
theorem aRk (c:Int) (l:List Int) (i:Nat) (h:i<l.length):(xk c l i).set i (xorB c (l.getD i 0))=xk c l (i+1):=by
 unfold xk
 have h1:(l.take i).length=i:=by simp;omega
 rw[List.set_append,if_neg (by rw[List.length_map,h1];omega),List.length_map,h1,Nat.sub_self,List.drop_eq_getElem_cons h,List.set_cons_zero,List.take_succ_eq_append_getElem h,List.map_append,List.append_assoc]
 simp[List.getD,h]
theorem aRl (c:Int) (l:List Int):xk c l l.length=l.map (xorB c):=by simp[xk]
theorem aVw (l:List Int):lay (u8s (List.replicate 64 0)) (u8s l) 0=u8s (pad l):=by
 unfold lay pad
 rw[Nl,Dw,List.take_zero,List.nil_append,Nat.zero_add]
 congr 1
 unfold u8s
 rw[← List.map_drop,List.drop_replicate]
theorem build2s (a b:ByteArray) (w:World):(Al 41 2 [(0,.string a),(1,.string b)]).run prog w=.ok (.value (.slice (some ⟨w.heap.size,0,none⟩) 2 2)) (w.alloc (.cells [Value.string a,.string b].toArray 9)):=by kernel_rfl
theorem RowSt.rd {w0 w:World} {e sz:Nat} {L:List Bk} {A:Option Addr} {n cap:Nat} {xs:List Value} (h:RowSt w0 e sz L A n cap xs w):Rd w A xs:=by
 rcases h.2 with ⟨rfl,rfl,rfl,_⟩|⟨g,sp,rfl,hst,_⟩
 ·have:=h.1
  rw[Nat.zero_mul]at this
  rw[List.eq_nil_of_length_eq_zero this]
  exact .inl rfl
 ·refine .inr ⟨g,0,rfl,?_,fun j u hu=>?_⟩
  ·exact hst.head.lt
  ·rw[Nat.zero_add,hst.cell 0 rfl j]
   show(xs++sp)[j]?=some u
   rw[List.getElem?_append_left (List.getElem?_eq_some_iff.1 hu).1]
   exact hu
set_option maxRecDepth 100000 in
set_option maxHeartbeats 1000000 in
theorem Ue (key:ByteArray) (A:Option Addr) (ss:List ByteArray) (c:Nat) (w:World) (hr:Rd w A (ss.map .string)) (hk:key.size<1000000000000) (hss:ss.length<1000000) (hsz:(cat ss).length<1000000000000):
  Calls prog 169 #[.string key,.slice A ss.length c] w fun e w'=>e=.returned (hv (hmac (ints key) (cat ss)))∧St w [] w':=by
 refine aJt ?_
 unfold aAi
 have z32:(u8s (List.replicate 32 0)).length=32:=by simp[u8s]
 refine Eb (St.nil w) (fun r w1 h1=>?_)
 have h1:St w [⟨r,23,u8s (List.replicate 32 0),true⟩] w1:=by simpa [u8s] using h1
 refine⟨fun v w2=>∃ k:ByteArray,v=.string k∧ints k=kk (ints key)∧St w [⟨r,23,u8s (List.replicate 32 0),true⟩] w2,?_,?_⟩
 ·(repeat (first|(refine Ab ?_ ?_;first|exact trivial|omega)|(refine Ap ?_ ?_;first|exact trivial|omega)))
  refine Dn (fun hlt=>?_) (fun hge=>?_)
  ·refine Cl (buildstr key w1) ?_
   refine Ej (aVt key w1 (by omega)) ?_
   rintro e w2 ⟨rfl,h2⟩
   have h2:=h1.call0 h2
   have h32:(u8s (shaSum (ints key))).length=32:=by rw[Dw,Dg]
   refine Eb h2 (fun g w3 h3=>?_)
   refine Dt (q:=true) (k:=32) (by kernel_rfl) h3 (by simpa [hv,Value.cells] using h32) (by intro u hu;exact Fk _ u hu) (by simp) (fun w4 h4=>?_)
   have e:lay (List.replicate 32 (Value.int .u8 0)) (hv (shaSum (ints key))).cells.toList 0=u8s (shaSum (ints key)):=Hg _ _ (by show(u8s (shaSum (ints key))).length=_;rw[h32];simp)
   rw[e]at h4
   (repeat (first|(refine Ab ?_ ?_;first|exact trivial|omega)|(refine Ap ?_ ?_;first|exact trivial|omega)))
   refine Dz (Do 89 9 5 g 0 32 _ (shaSum (ints key)) (by kernel_rfl) (by kernel_rfl) (by kernel_rfl) (Dg _) (fun i hi=>by rw[Nat.zero_add,h4.cell 0 rfl i];exact In _ i (by rw[Dg];omega))) ?_
   refine⟨_,rfl,?_,h4.drop⟩
   rw[Ce _ (He _),kk,if_pos (by rw[Bq];omega)]
  ·exact⟨key,rfl,by rw[kk,if_neg (by rw[Bq];omega)],h1⟩
 ·rintro v u w2 ⟨k,rfl,hk1,h2⟩
  clear h1
  have hkl:(ints k).length≤64:=by rw[hk1];exact aDe _
  have hks:k.size≤64:=by rwa [Bq]at hkl
  have htk:(ints k).take (min k.size 64)=ints k:=List.take_of_length_le (by rw[Bq];omega)
  obtain⟨P,hP⟩:∃ P,P=pad (kk (ints key)):=⟨_,rfl⟩
  have hPl:P.length=64:=by rw[hP];exact aKf _ (aDe _)
  have hlay:lay (u8s (List.replicate 64 0)) (u8s ((ints k).take (min k.size 64))) 0=u8s P:=by rw[htk,aVw,hk1,hP]
  have hm:hmac (ints key) (cat ss)=shaSum (P.map (xorB 92)++shaSum (P.map (xorB 54)++cat ss)):=by rw[hP];rfl
  rw[hm]
  refine Eb h2 (fun p w3 h3=>?_)
  refine Eb h3 (fun q w4 h4=>?_)
  have h4:St w [⟨q,168,u8s (List.replicate 64 0),true⟩,⟨p,168,u8s (List.replicate 64 0),true⟩,⟨r,23,u8s (List.replicate 32 0),true⟩] w4:=by simpa [u8s] using h4
  clear h2 h3
  have z64:(u8s (List.replicate 64 0)).length=64:=by simp[u8s]
  (repeat (first|(refine Ab ?_ ?_;first|exact trivial|omega)|(refine Ap ?_ ?_;first|exact trivial|omega)))
  obtain⟨w5,hr5,h5⟩:=Io (P:=prog) (o:=0) (m:=64) (c:=64) (s:=k) (dT:=89) (sT:=9) (ty:=3) (e:=5) (ks:=[false,false]) h4.swap (by kernel_rfl) (by kernel_rfl) (by rw[z64];omega)
  rw[hlay]at h5
  refine Cl hr5 ?_
  (repeat (first|(refine Ab ?_ ?_;first|exact trivial|omega)|(refine Ap ?_ ?_;first|exact trivial|omega)))
  obtain⟨w6,hr6,h6⟩:=Io (P:=prog) (o:=0) (m:=64) (c:=64) (s:=k) (dT:=89) (sT:=9) (ty:=3) (e:=5) (ks:=[false,false]) h5.swap (by kernel_rfl) (by kernel_rfl) (by rw[z64];omega)
  rw[hlay]at h6
  refine Cl hr6 ?_
  clear h4 h5 hr5 hr6
  refine⟨fun v w7=>∃ i:Nat,i≤64∧v=.int .i64 i∧St w [⟨q,168,u8s (xk 92 P i),true⟩,⟨p,168,u8s (xk 54 P i),true⟩,⟨r,23,u8s (List.replicate 32 0),true⟩] w7,fun v _=>64 - (intOf v).toNat,⟨0,by omega,rfl,by simpa [xk] using h6⟩,?_⟩
  clear h6
  rintro v u w7 ⟨i,hi,rfl,h7⟩
  (repeat (first|(refine Ab ?_ ?_;first|exact trivial|omega)|(refine Ap ?_ ?_;first|exact trivial|omega)))
  refine Dn (fun hlt=>?_) (fun hge=>?_)
  ·have hi':i<64:=by omega
   have c1:∀ w8 B C,St w (⟨q,168,B,true⟩::⟨p,168,u8s (xk 54 P i),true⟩::C) w8→w8.cell? ⟨p,i,none⟩=some (.int .u8 (P.getD i 0)):=fun w8 B C h=>by
    rw[h.cell 1 rfl i,← aYi 54 P i (by omega)];exact In _ i (by rw[Qa];omega)
   have c2:∀ w8 B C,St w (B::⟨q,168,u8s (xk 92 P i),true⟩::C) w8→w8.cell? ⟨q,i,none⟩=some (.int .u8 (P.getD i 0)):=fun w8 B C h=>by
    rw[h.cell 1 rfl i,← aYi 92 P i (by omega)];exact In _ i (by rw[Qa];omega)
   (repeat (first|(refine Ab ?_ ?_;first|exact trivial|omega)|(refine Ap ?_ ?_;first|exact trivial|omega)))
   refine Em (c1 _ _ _ h7) (by omega) ?_
   (repeat (first|(refine Ab ?_ ?_;first|exact trivial|omega)|(refine Ap ?_ ?_;first|exact trivial|omega)))
   refine Oh (j:=i) h7.swap (by omega) (by rw[Dw,Qa];omega) rfl (fun w8 h8=>?_)
   rw[Pw]at h8
   have h8:St w (⟨p,168,u8s (xk 54 P (i+1)),true⟩::⟨q,168,u8s (xk 92 P i),true⟩::⟨r,23,u8s (List.replicate 32 0),true⟩::[]) w8:=by
    rw[← aRk 54 P i (by omega)];exact h8
   (repeat (first|(refine Ab ?_ ?_;first|exact trivial|omega)|(refine Ap ?_ ?_;first|exact trivial|omega)))
   refine Em (c2 _ _ _ h8) (by omega) ?_
   (repeat (first|(refine Ab ?_ ?_;first|exact trivial|omega)|(refine Ap ?_ ?_;first|exact trivial|omega)))
   refine Oh (j:=i) h8.swap (by omega) (by rw[Dw,Qa];omega) rfl (fun w9 h9=>?_)
   rw[Pw]at h9
   have h9:St w (⟨q,168,u8s (xk 92 P (i+1)),true⟩::⟨p,168,u8s (xk 54 P (i+1)),true⟩::⟨r,23,u8s (List.replicate 32 0),true⟩::[]) w9:=by
    rw[← aRk 92 P i (by omega)];exact h9
   (repeat (first|(refine Ab ?_ ?_;first|exact trivial|omega)|(refine Ap ?_ ?_;first|exact trivial|omega)))
   exact⟨⟨i+1,by omega,rfl,h9⟩,by simp[intOf];omega⟩
  ·obtain rfl:i=64:=by omega
   have a1:xk 54 P 64=P.map (xorB 54):=by rw[← hPl];exact aRl 54 P
   have a2:xk 92 P 64=P.map (xorB 92):=by rw[← hPl];exact aRl 92 P
   rw[a1,a2]at h7
   have r1:=Rh 54 P
   have r2:=Rh 92 P
   have l1:(P.map (xorB 54)).length=64:=by rw[List.length_map,hPl]
   have l2:(P.map (xorB 92)).length=64:=by rw[List.length_map,hPl]
   generalize P.map (xorB 54)=X at h7 r1 l1 ⊢
   generalize P.map (xorB 92)=Y at h7 r2 l2 ⊢
   (repeat (first|(refine Ab ?_ ?_;first|exact trivial|omega)|(refine Ap ?_ ?_;first|exact trivial|omega)))
   refine Dz (Do 89 9 5 p 0 64 _ X (by kernel_rfl) (by kernel_rfl) (by kernel_rfl) l1 (fun i hi=>by rw[Nat.zero_add,h7.cell 1 rfl i];exact In X i (by omega))) ?_
   refine Cl (buildstr _ _) ?_
   have h8:=h7.alloc 9 [Value.string (strOfNums X)]
   have hrow:RowSt w 9 1 [⟨q,168,u8s Y,true⟩,⟨p,168,u8s X,true⟩,⟨r,23,u8s (List.replicate 32 0),true⟩] (some ⟨w7.heap.size,0,none⟩) 1 1 [Value.string (strOfNums X)] (w7.alloc (.cells [Value.string (strOfNums X)].toArray 9)):=
    ⟨rfl,.inr ⟨w7.heap.size,[],rfl,h8,rfl,by omega,by unfold maxLen;omega⟩⟩
   have hsrc:=aNp (P:=prog) (size:=1) (tx:=41) (e':=9) _ (by kernel_rfl) (A:=A) (m:=ss.length) (c:=c) (news:=ss.map .string) (by simp) ((h8.only.rd hr (fun b off _ h=>by obtain⟨b',hb,h2,_⟩:=h;simp at hb;rcases hb with rfl|rfl|rfl|rfl <;> cases h2))) (by intro u hu;obtain⟨x,_,rfl⟩:=List.mem_map.1 hu;rfl)
   refine Zb hrow hsrc (by unfold maxLen;omega) (by omega) (fun A' cap' w8 h9=>?_)
   have hrd9:Rd w8 A' ((strOfNums X::ss).map .string):=h9.rd
   have hcat:cat (strOfNums X::ss)=X++cat ss:=by
    unfold cat
    rw[List.map_cons,List.flatten_cons,Ce X r1]
   have hsum:=Ph A' (strOfNums X::ss) cap' w8 hrd9 (by simp;omega) (by rw[hcat,List.length_append];omega)
   rw[hcat,List.length_cons,Nat.add_comm ss.length 1]at hsum
   refine Ej hsum ?_
   rintro e w9 ⟨rfl,h10⟩
   have h10:=h9.base.call0 h10
   clear h7 h8 h9 hrow hsrc hsum hrd9
   obtain⟨D,hD⟩:∃ D,D=shaSum (X++cat ss):=⟨_,rfl⟩
   have rD:=He (X++cat ss)
   have lD:=Dg (X++cat ss)
   rw[← hD]at rD lD ⊢
   have hDl:(u8s D).length=32:=by rw[Dw,lD]
   refine Eb h10 (fun d w10 h11=>?_)
   refine Dt (q:=true) (k:=32) (by kernel_rfl) h11 (by simpa [hv,Value.cells] using hDl) (by intro u hu;exact Fk _ u hu) (by simp) (fun w11 h12=>?_)
   have e:lay (List.replicate 32 (Value.int .u8 0)) (hv D).cells.toList 0=u8s D:=Hg _ _ (by show(u8s D).length=_;rw[hDl];simp)
   rw[e]at h12
   (repeat (first|(refine Ab ?_ ?_;first|exact trivial|omega)|(refine Ap ?_ ?_;first|exact trivial|omega)))
   refine Kx (fun w3 hw=>Do 89 9 5 q 0 64 _ Y (by kernel_rfl) (by kernel_rfl) (by kernel_rfl) l2 (fun i hi=>hw.cell (by rw[Nat.zero_add,h12.cell 1 rfl i];exact In Y i (by omega)))) ?_
   (repeat (first|(refine Ab ?_ ?_;first|exact trivial|omega)|(refine Ap ?_ ?_;first|exact trivial|omega)))
   refine Kx (fun w3 hw=>Do 89 9 5 d 0 32 _ D (by kernel_rfl) (by kernel_rfl) (by kernel_rfl) lD (fun i hi=>hw.cell (by rw[Nat.zero_add,h12.cell 0 rfl i];exact In D i (by omega)))) ?_
   refine El fun w12 hd12=>Cl (build2s _ _ _) ⟨(fun e=>by cases e),?_⟩
   have h13:=(h12.drawn hd12)
   refine El fun w13 hd13=>?_
   have h14:=(h13.alloc 9 [Value.string (strOfNums Y),.string (strOfNums D)]).drawn hd13
   have hcat2:cat [strOfNums Y,strOfNums D]=Y++D:=by
    simp[cat,Ce Y r2,Ce D rD]
   have hsum:=Ph (some ⟨w12.heap.size,0,none⟩) [strOfNums Y,strOfNums D] 2 w13 (.inr ⟨w12.heap.size,0,rfl,h14.head.lt,fun j u hu=>by rw[Nat.zero_add,h14.cell 0 rfl j];exact hu⟩) (by simp) (by rw[hcat2,List.length_append];omega)
   rw[hcat2]at hsum
   refine Ej hsum ?_
   rintro e w14 ⟨rfl,h15⟩
   have h15:=h14.drop.call0 h15
   refine⟨(fun e=>by cases e),?_⟩
   refine El fun w15 hd15=>?_
   have h16:=(h15.drawn hd15).drop.drop.drop
   have hEl:(u8s (shaSum (Y++D))).length=32:=by rw[Dw,Dg]
   refine Dt (q:=true) (k:=32) (by kernel_rfl) h16 (by simpa [hv,Value.cells] using hEl) (by intro u hu;exact Fk _ u hu) (by rw[z32];omega) (fun w17 h17=>⟨(fun e=>by cases e),?_⟩)
   have e:lay (u8s (List.replicate 32 0)) (hv (shaSum (Y++D))).cells.toList 0=u8s (shaSum (Y++D)):=Hg _ _ (by show(u8s (shaSum (Y++D))).length=_;rw[hEl,z32])
   rw[e]at h17
   refine Cs fun w18 hd18=>?_
   have h18:=h17.drawn hd18
   refine Lo (Eh h18.head) hEl ?_
   exact⟨rfl,h18.drop⟩
end Go.Proofs.YtgbenhmdamnmcaaGreat
namespace Go.Proofs.YtgbenhmdamnmcaaGreat
open Go.Proofs.Tryz
open Go.RowKit
end Go.Proofs.YtgbenhmdamnmcaaGreat
namespace Go.Proofs.YtgbenhmdamnmcaaGreat
open Go.Proofs.Tryz
end Go.Proofs.YtgbenhmdamnmcaaGreat
namespace Go.Proofs.YtgbenhmdamnmcaaGreat
open Go.Proofs.Tryz
open Go.RowKit
section
variable {H:Hp} {w0 w:World} {L R:List Res} {g:Nat}
theorem aRm (h:H32) (w:World):Calls prog 136 #[ha h] w fun en w'=>en=.returned (.string (strOfNums h.1))∧St w [] w':=by
 have hM:=Mem.start (Fz.of w)
 refine Mh ?_
 unfold Hm
 (((refine Bh hM ?_;clear hM;intro _ _ hM;refine Ab trivial ?_;refine Jh hM ?_)))
 exact⟨rfl,hM.st⟩
instance (h:H32):PurC prog 136 [.agg (u8s h.1).toArray] True (.string (strOfNums h.1)):=⟨fun _ w=>aRm h w⟩
end
end Go.Proofs.YtgbenhmdamnmcaaGreat
namespace Go.Proofs.YtgbenhmdamnmcaaGreat
open Go.Proofs.Tryz
open Go.RowKit
def Byt (l:List Int):Prop:=∀ x∈l,0≤x∧x<256
instance (l:List Int):Decidable (Byt l):=by unfold Byt;infer_instance
def vl:List Int→Int
 | []=>0
 | a::r=>r.foldl (fun n x=>n*256+x) (a%64)
theorem aFb (b:List Int) (i:Nat) (h1:1≤i) (h:i<b.length):vl (b.take (i+1))=vl (b.take i)*256+b.getD i 0:=by
 cases b with
 | nil=>simp at h
 | cons a r=>
   obtain⟨j,rfl⟩:∃ j,i=j+1:=⟨i - 1,by omega⟩
   have hj:j<r.length:=by simpa using h
   show vl (a::r.take (j+1))=vl (a::r.take j)*256+(a::r).getD (j+1) 0
   have e:(a::r).getD (j+1) 0=r[j]:=by simp[hj]
   rw[e]
   show(r.take (j+1)).foldl (fun n x=>n*256+x) (a%64)=(r.take j).foldl (fun n x=>n*256+x) (a%64)*256+r[j]
   rw[List.take_succ_eq_append_getElem hj,List.foldl_append]
   rfl
theorem aRn (b:List Int) (hb:Byt b):∀ i,i+1≤b.length→0≤vl (b.take (i+1))∧vl (b.take (i+1))<64*256 ^ i:=by
 intro i
 induction i with
 | zero=>
   intro h
   cases b with
   | nil=>simp at h
   | cons a r=>
     simp[vl]
     omega
 | succ i ih=>
   intro h
   rw[aFb b (i+1) (by omega) (by omega)]
   have:=ih (by omega)
   have hx:0≤b.getD (i+1) 0∧b.getD (i+1) 0<256:=by
    have hlt:i+1<b.length:=by omega
    have:b.getD (i+1) 0=b[i+1]:=by simp[hlt]
    rw[this]
    exact hb _ (List.getElem_mem _)
   rw[Int.pow_succ]
   omega
theorem aRo (n x:Int) (hn:0≤n∧n<18014398509481984) (hx:0≤x∧x<256):bits .or .i64 (n*256) x=n*256+x:=by
 obtain⟨a,rfl⟩:∃ a:Nat,n=a:=⟨n.toNat,by omega⟩
 obtain⟨b,rfl⟩:∃ b:Nat,x=b:=⟨x.toNat,by omega⟩
 have ha:a<18014398509481984:=by omega
 have hb:b<256:=by omega
 have e:((a:Int)*256)=((a*256:Nat):Int):=by omega
 have k:(a*256) ||| b=a*256+b:=by
  have:=Nat.two_pow_add_eq_or_of_lt (i:=8) (b:=b) (by omega) a
  rw[Nat.mul_comm a 256]
  exact this.symm
 rw[e]
 show IntKind.i64.wrap (((BitVec.ofInt 64 ((a*256:Nat):Int) ||| BitVec.ofInt 64 (b:Int):BitVec 64).toNat:Nat):Int)=_
 simp only[BitVec.ofInt_natCast,BitVec.toNat_or,BitVec.toNat_ofNat]
 rw[Nat.mod_eq_of_lt (by omega),Nat.mod_eq_of_lt (by omega),k]
 simp only[IntKind.wrap,IntKind.bits,IntKind.signed]
 simp
 omega
def szN (a:Int):Nat:=if a<64 then 1 else if a<128 then 2 else if a<192 then 4 else 8
def bdN (a:Int):Int:=if a<64 then 0 else if a<128 then 64 else if a<192 then 16384 else 1073741824
theorem form1 (a:Int) (h:0≤a∧a<64):numB (vl [a])=[a]:=by
 have e:vl [a]=a:=by simp[vl];omega
 rw[e,numB,if_pos h.2]
theorem form2 (a b:Int) (ha:64≤a∧a<128) (hb:0≤b∧b<256):(numB (vl [a,b])≠[a,b])↔vl [a,b]<64:=by
 have e:vl [a,b]=a%64*256+b:=by simp[vl]
 rw[e]
 unfold numB
 by_cases h:a%64*256+b<64
 ·rw[if_pos h]
  simp[h]
 ·rw[if_neg h,if_pos (by omega)]
  simp only[h,iff_false,ne_eq,Decidable.not_not]
  rw[show 64+(a%64*256+b) / 256=a by omega,show(a%64*256+b)%256=b by omega]
theorem form4 (a b c d:Int) (ha:128≤a∧a<192) (hb:0≤b∧b<256) (hc:0≤c∧c<256) (hd:0≤d∧d<256):(numB (vl [a,b,c,d])≠[a,b,c,d])↔vl [a,b,c,d]<16384:=by
 have e:vl [a,b,c,d]=((a%64*256+b)*256+c)*256+d:=by simp[vl]
 rw[e]
 unfold numB
 by_cases h:((a%64*256+b)*256+c)*256+d<16384
 ·simp only[h,iff_true,if_true]
  split <;> simp
 ·rw[if_neg (by omega),if_neg h,if_pos (by omega)]
  simp only[h,iff_false,ne_eq,Decidable.not_not]
  generalize hn:((a%64*256+b)*256+c)*256+d=n at h ⊢
  rw[show 128+n / 16777216=a by omega,show n / 65536%256=b by omega,show n / 256%256=c by omega,show n%256=d by omega]
theorem form8 (a b c d e f g h:Int) (ha:192≤a∧a<256) (hb:0≤b∧b<256) (hc:0≤c∧c<256) (hd:0≤d∧d<256) (he:0≤e∧e<256) (hf:0≤f∧f<256) (hg:0≤g∧g<256) (hh:0≤h∧h<256):(numB (vl [a,b,c,d,e,f,g,h])≠[a,b,c,d,e,f,g,h])↔vl [a,b,c,d,e,f,g,h]<1073741824:=by
 have ee:vl [a,b,c,d,e,f,g,h]=((((((a%64*256+b)*256+c)*256+d)*256+e)*256+f)*256+g)*256+h:=by simp[vl]
 rw[ee]
 unfold numB
 by_cases hx:((((((a%64*256+b)*256+c)*256+d)*256+e)*256+f)*256+g)*256+h<1073741824
 ·simp only[hx,iff_true,if_true]
  (repeat' split) <;> simp
 ·rw[if_neg (by omega),if_neg (by omega),if_neg hx]
  simp only[hx,iff_false,ne_eq,Decidable.not_not]
  generalize hn:((((((a%64*256+b)*256+c)*256+d)*256+e)*256+f)*256+g)*256+h=n at hx ⊢
  rw[show 192+n / 72057594037927936=a by omega,show n / 281474976710656%256=b by omega,show n / 1099511627776%256=c by omega,show n / 4294967296%256=d by omega,show n / 16777216%256=e by omega,show n / 65536%256=f by omega,show n / 256%256=g by omega,show n%256=h by omega]
theorem aRp {l:List Int} (h:l.length=2):∃ a b,l=[a,b]:=by
 match l,h with
 | [a,b],_=>exact⟨a,b,rfl⟩
theorem aOl {l:List Int} (h:l.length=4):∃ a b c d,l=[a,b,c,d]:=by
 match l,h with
 | [a,b,c,d],_=>exact⟨a,b,c,d,rfl⟩
theorem aKh {l:List Int} (h:l.length=8):∃ a b c d e f g i,l=[a,b,c,d,e,f,g,i]:=by
 match l,h with
 | [a,b,c,d,e,f,g,i],_=>exact⟨a,b,c,d,e,f,g,i,rfl⟩
theorem aHl (l:List Int) (hl:Byt l) (hn:szN (l.headD 0)≤l.length) (h0:l≠[]):(numB (vl (l.take (szN (l.headD 0))))≠l.take (szN (l.headD 0)))↔vl (l.take (szN (l.headD 0)))<bdN (l.headD 0):=by
 obtain⟨a,r,rfl⟩:∃ a r,l=a::r:=by
  cases l with
  | nil=>exact absurd rfl h0
  | cons a r=>exact⟨a,r,rfl⟩
 have ha:=hl a (by simp)
 simp only[List.headD_cons]at hn ⊢
 have hm:∀ x∈(a::r).take (szN a),0≤x∧x<256:=fun x hx=>hl x (List.mem_of_mem_take hx)
 have hlen:((a::r).take (szN a)).length=szN a:=by rw[List.length_take];omega
 have hhd:(a::r).take (szN a)=a::r.take (szN a - 1):=by
  cases hs:szN a with
  | zero=>unfold szN at hs;(repeat' split at hs) <;> cases hs
  | succ k=>rfl
 by_cases h1:a<64
 ·have e:szN a=1:=if_pos h1
  rw[e]at hhd ⊢
  rw[hhd]
  simp only[Nat.sub_self,List.take_zero]
  have:=form1 a ⟨ha.1,h1⟩
  have hv:vl [a]=a:=by simp[vl];omega
  rw[this]
  simp only[ne_eq,not_true,false_iff]
  rw[hv,bdN,if_pos h1]
  omega
 ·by_cases h2:a<128
  ·have e:szN a=2:=by unfold szN;rw[if_neg h1,if_pos h2]
   have eb:bdN a=64:=by unfold bdN;rw[if_neg h1,if_pos h2]
   rw[e]at hm hlen hhd ⊢
   rw[eb]
   obtain⟨x,y,hxy⟩:=aRp hlen
   rw[hxy]at hhd hm ⊢
   obtain rfl:x=a:=(List.cons.inj hhd).1
   exact form2 x y (by omega) (hm y (by simp))
  ·by_cases h3:a<192
   ·have e:szN a=4:=by unfold szN;rw[if_neg h1,if_neg h2,if_pos h3]
    have eb:bdN a=16384:=by unfold bdN;rw[if_neg h1,if_neg h2,if_pos h3]
    rw[e]at hm hlen hhd ⊢
    rw[eb]
    obtain⟨x,y,z,u,hxy⟩:=aOl hlen
    rw[hxy]at hhd hm ⊢
    obtain rfl:x=a:=(List.cons.inj hhd).1
    exact form4 x y z u (by omega) (hm y (by simp)) (hm z (by simp)) (hm u (by simp))
   ·have e:szN a=8:=by unfold szN;rw[if_neg h1,if_neg h2,if_neg h3]
    have eb:bdN a=1073741824:=by unfold bdN;rw[if_neg h1,if_neg h2,if_neg h3]
    rw[e]at hm hlen hhd ⊢
    rw[eb]
    obtain⟨x,y,z,u,v,p,q,t,hxy⟩:=aKh hlen
    rw[hxy]at hhd hm ⊢
    obtain rfl:x=a:=(List.cons.inj hhd).1
    exact form8 x y z u v p q t (by omega) (hm y (by simp)) (hm z (by simp)) (hm u (by simp)) (hm v (by simp)) (hm p (by simp)) (hm q (by simp)) (hm t (by simp))
theorem Byt.take {l:List Int} (h:Byt l) (n:Nat):Byt (l.take n):=fun x hx=>h x (List.mem_of_mem_take hx)
theorem Byt.drop {l:List Int} (h:Byt l) (n:Nat):Byt (l.drop n):=fun x hx=>h x (List.mem_of_mem_drop hx)
theorem Byt.getD {l:List Int} (h:Byt l) (n:Nat):0≤l.getD n 0∧l.getD n 0<256:=by
 rw[List.getD_eq_getElem?_getD]
 cases hx:l[n]? with
 | none=>simp
 | some x=>exact h x (List.mem_of_getElem? hx)
theorem aHm {l:List Int} (h:Byt l) (n:Nat):(strOfNums l).extract 0 n=strOfNums (l.take n):=by
 rw[← Ln ((strOfNums l).extract 0 n),Fm,Ce l h,List.drop_zero]
theorem aHn {l:List Int} (h:Byt l) (n:Nat):(strOfNums l).extract n (strOfNums l).size=strOfNums (l.drop n):=by
 rw[← Ln ((strOfNums l).extract n _),Fm,Ce l h,strOfNums_size,List.take_length]
theorem aHo {P:Program} {t:TypeId} {k:IntKind} {w:World} {K:Value→World→Prop} {X:List PanicEntry→World→Prop} {l:List Int} {n:Int} (ht:P.underlying t=some .string) (hl:Byt l) (h:0≤n∧n≤l.length) (hk:K (.string (strOfNums (l.take n.toNat))) w):mop P (Ax t (.string (strOfNums l)) none (some (.int k n)) none) w K X:=
 Br (Lm t _ k n ht h.1 (by rw[strOfNums_size];exact h.2)) (by rw[aHm hl];exact hk)
theorem aHp {P:Program} {t:TypeId} {k:IntKind} {w:World} {K:Value→World→Prop} {X:List PanicEntry→World→Prop} {l:List Int} {n:Int} (ht:P.underlying t=some .string) (hl:Byt l) (h:0≤n∧n≤l.length) (hk:K (.string (strOfNums (l.drop n.toNat))) w):mop P (Ax t (.string (strOfNums l)) (some (.int k n)) none none) w K X:=
 Br (Ll t _ k n ht h.1 (by rw[strOfNums_size];exact h.2)) (by rw[aHn hl];exact hk)
theorem aVx {P:Program} {t:TypeId} {k:IntKind} {w:World} {K:Value→World→Prop} {X:List PanicEntry→World→Prop} {l:List Int} {n:Int} (ht:P.underlying t=some .string) (hl:Byt l) (h:0≤n∧n<l.length) (hk:K (.int .u8 (l.getD n.toNat 0)) w):mop P (Cq t (.string (strOfNums l)) (.int k n)) w K X:=
 Br (Jd t _ k n ht h.1 (by rw[strOfNums_size];exact h.2)) (by rw[Ce l hl];exact hk)
theorem Mt {P:Program} {t:TypeId} {k:IntKind} {w:World} {K:Value→World→Prop} {X:List PanicEntry→World→Prop} {l:List Int} {n v:Int} (ht:P.underlying t=some .string) (hl:Byt l) (h:0≤n∧n<l.length) (hv:l.getD n.toNat 0=v) (hk:K (.int .u8 v) w):mop P (Cq t (.string (strOfNums l)) (.int k n)) w K X:=
 aVx ht hl h (by rw[hv];exact hk)
theorem and63 (a:Int) (h:0≤a∧a<256):bits .and .u8 a 63=a%64:=by
 have key:∀ m:Fin 256,bits .and .u8 (m.val:Int) 63=(m.val:Int)%64:=by decide +kernel
 have:=key ⟨a.toNat,by omega⟩
 simp only[Int.toNat_of_nonneg h.1]at this
 exact this
theorem szN1 {a:Int} (h:a<64):szN a=1∧bdN a=0:=⟨if_pos h,if_pos h⟩
theorem szN2 {a:Int} (h:64≤a∧a<128):szN a=2∧bdN a=64:=by
 unfold szN bdN
 rw[if_neg (by omega),if_pos (by omega),if_neg (by omega),if_pos (by omega)]
 exact⟨rfl,rfl⟩
theorem szN4 {a:Int} (h:128≤a∧a<192):szN a=4∧bdN a=16384:=by
 unfold szN bdN
 rw[if_neg (by omega),if_neg (by omega),if_pos (by omega),if_neg (by omega),if_neg (by omega),if_pos (by omega)]
 exact⟨rfl,rfl⟩
theorem szN8 {a:Int} (h:192≤a):szN a=8∧bdN a=1073741824:=by
 unfold szN bdN
 rw[if_neg (by omega),if_neg (by omega),if_neg (by omega),if_neg (by omega),if_neg (by omega),if_neg (by omega)]
 exact⟨rfl,rfl⟩
theorem aFc (a:Int):1≤szN a∧szN a≤8:=by
 unfold szN
 (repeat' split) <;> omega
theorem aRq (a:Int) (h:0≤a∧a<256):IntKind.i64.wrap (1*2 ^ (a / 64).toNat)=((szN a:Nat):Int):=by
 obtain h1|h1|h1|h1:a / 64=0∨a / 64=1∨a / 64=2∨a / 64=3:=by omega
 all_goals rw[h1];unfold szN
 ·rw[if_pos (by omega)];rfl
 ·rw[if_neg (by omega),if_pos (by omega)];rfl
 ·rw[if_neg (by omega),if_neg (by omega),if_pos (by omega)];rfl
 ·rw[if_neg (by omega),if_neg (by omega),if_neg (by omega)];rfl
abbrev RS:=List Int × Int
def tk (n:Nat) (s:RS):List Int × Bool × RS:=if s.2≠0 then ([],false,s) else if s.1.length<n then ([],false,(s.1,2)) else (s.1.take n,true,(s.1.drop n,0))
theorem Vx {n:Nat} {s:RS} (h:Byt s.1):Byt (tk n s).1∧Byt (tk n s).2.2.1:=by
 unfold tk
 split
 ·exact⟨fun x hx=>(by cases hx),h⟩
 ·split
  ·exact⟨fun x hx=>(by cases hx),h⟩
  ·exact⟨h.take n,h.drop n⟩
def nm (most:Int) (s:RS):Int × RS:=
 if s.2≠0 then (0,s)
 else if s.1=[] then (0,([],2))
 else if s.1.length<szN (s.1.headD 0) then (0,(s.1,2))
 else if vl (s.1.take (szN (s.1.headD 0)))<bdN (s.1.headD 0) then (0,(s.1.drop (szN (s.1.headD 0)),3))
 else if most<vl (s.1.take (szN (s.1.headD 0))) then (0,(s.1.drop (szN (s.1.headD 0)),5))
 else (vl (s.1.take (szN (s.1.headD 0))),(s.1.drop (szN (s.1.headD 0)),0))
abbrev rdR (g:Nat) (s:RS):Res:=fb g 187 [.one (.string (strOfNums s.1)),.one (.int .i64 s.2)]
abbrev rrR (g:Nat) (s:RS):Res:=fb g 105 [.one (.string (strOfNums s.1)),.one (.int .i64 s.2)]
theorem aZf {P:Program} {H:Hp} {w0 w:World} {L:List Res} {g t n c:Nat} {l0 b:List Int} {dT sT ty e:TypeId} {ks:List Bool} {K:Value→World→Prop} {X:List PanicEntry→World→Prop} (hd:P.underlying dT=some (.slice e)) (he:(P.info? e).map (·.size)=some 1) (h:Mem H w0 (fb g t [.arr n (u8s l0)]::L) w) (hb:Byt b) (hn:l0.length=n) (hl:b.length≤n)
  (hk:∀ w',Mem H w0 (fb g t [.arr n (u8s (b++l0.drop b.length))]::L) w'→K (.int .i64 b.length) w'):mop P (Ak .copy #[dT,sT] ty ks [.slice (some ⟨g,0,none⟩) n c,.string (strOfNums b)]) w K X:=by
 obtain⟨h1,h2⟩:=h.blf (g:=g) (t:=t) (fs:=[.arr n (u8s l0)]) (put:=fun r=>r::L) inferInstance
 have e1:fl [Fd.arr n (u8s l0)]=u8s l0:=by simp[fl,Fd.cells]
 have e2:fl [Fd.arr n (u8s (b++l0.drop b.length))]=u8s (b++l0.drop b.length):=by simp[fl,Fd.cells]
 rw[e1]at h1
 have hlay:lay (u8s l0) (u8s b) 0=u8s (b++l0.drop b.length):=by simp[lay,u8s]
 have hst:=Cc (P:=P) 0 (u8s b) 0 (u8s l0) w h1 (by simp[u8s];omega) (Fk _)
 have hf:FOk [Fd.arr n (u8s (b++l0.drop b.length))]:=⟨fun f hf=>by
  rw[List.mem_singleton.1 hf]
  exact⟨by show(u8s (b++l0.drop b.length)).length=n;simp[u8s];omega,fun u hu=>Fk _ u hu⟩⟩
 have hm:=h.setRow (fs':=[.arr n (u8s (b++l0.drop b.length))]) (g:=g) (t:=t) (put:=fun r=>r::L) inferInstance hf (by rw[e1,e2];simp[u8s];omega)
 rw[e2]at hm
 rw[Nat.add_zero,hlay]at hst
 refine Cl (w':=_) (u:=.int .i64 b.length) ?_ (hk _ hm)
 have hsz:(strOfNums b).size=b.length:=strOfNums_size b
 have hmin:Nat.min (strOfNums b).size n=b.length:=by rw[hsz];exact Nat.min_eq_left hl
 have hx:List.take b.length (List.map (fun b:UInt8=>Value.int IntKind.u8 b.toNat) (strOfNums b).data.toList)=u8s b:=by
  have:=Ce b hb
  unfold ints at this
  have e3:List.map (fun b:UInt8=>Value.int IntKind.u8 b.toNat) (strOfNums b).data.toList=u8s b:=by
   conv=>rhs;rw[← this]
   simp only[u8s,List.map_map]
   rfl
  rw[e3,List.take_of_length_le (by simp[u8s])]
 simp[Ak,invoke,builtin,Builtin.copy_,run_underlying hd,Builtin.lenOf,Ch he,Builtin.firstCells,goInt,hmin]
 rw[hx,hst]
 rfl
def hs (l:List Int):H32:=if h:l.length=32∧Byt l then ⟨l,h.1,h.2⟩ else hzero
def rdH (s:RS):H32 × RS:=(hs (tk 32 s).1,(tk 32 s).2.2)
theorem aFd (n:Nat) (s:RS):(tk n s).1=[]∨(tk n s).1.length=n:=by
 unfold tk
 split
 ·exact .inl rfl
 ·split
  ·exact .inl rfl
  ·right
   simp
   omega
theorem aYj {s:RS} (h:Byt s.1):(tk 32 s).1++hzero.1.drop (tk 32 s).1.length=(hs (tk 32 s).1).1:=by
 rcases aFd 32 s with e|e
 ·rw[e]
  unfold hs
  rw[dif_neg (by simp)]
  rfl
 ·unfold hs
  rw[dif_pos ⟨e,(Vx h).1⟩]
  show _=(tk 32 s).1
  rw[List.drop_eq_nil_of_le (by rw[e,hzero.2.1];exact Nat.le_refl _),List.append_nil]
section
variable {H:Hp} {w0 w:World} {L R:List Res} {g:Nat} {s:RS}
theorem aAq (n:Nat) (hn:n≤65536) (hl:Byt s.1) (hz:s.1.length≤1000000000000) (hM:Mem H w0 (rdR g s::L) w):Calls prog 115 #[.pointer (some ⟨g,0,none⟩),.int .i64 n] w fun en w'=>∃ v,en=.returned v∧v=.tuple #[.string (strOfNums (tk n s).1),.bool (tk n s).2.1]∧Mem H w0 (rdR g (tk n s).2.2::L) w':=by
 refine Rw ?_
 unfold Jr
 refine⟨fun x w'=>∃ b:Bool,x=.bool b∧(b=true↔s.2≠0)∧hM.now w',?_,?_⟩
 ·(((refine Ab trivial ?_;refine Ae ?_;refine Ab trivial ?_;refine Ae ?_;refine Ab trivial ?_;refine Ae ?_;refine Ab trivial ?_;refine Ae ?_;refine An hM ?_;refine Ae ?_)))
  (((refine Aw trivial ?_ ?_)))
  ·intro h
   (((refine Ab trivial ?_)))
   exact⟨_,rfl,by simp[h],hM⟩
  ·intro h
   (((refine Ab trivial ?_)))
   exact⟨_,rfl,by simp at h;simp[h],hM⟩
 rintro x u w2 ⟨b,rfl,hb,hM⟩
 cases b with
 | true=>
   (((refine Am ?_)))
   have h:=hb.1 rfl
   refine⟨_,rfl,?_,?_⟩ <;> (unfold tk;rw[if_pos h])
   ·rfl
   ·exact hM
 | false=>
   have h0:¬s.2≠0:=fun h=>by have:=hb.2 h;cases this
   have h00:s.2=0:=by omega
   (((refine Aj ?_;refine Ab trivial ?_;refine Ab trivial ?_;refine An hM ?_;refine Ab trivial ?_)))
   rw[strOfNums_size]
   (((refine Aw trivial ?_ ?_)))
   ·intro h1
    have h1':s.1.length<n:=by omega
    (((refine Am ?_;refine Ab trivial ?_;refine Ab trivial ?_;refine Az hM ?_;clear hM;intro _ hM)))
    refine⟨_,rfl,?_,?_⟩ <;> (unfold tk;rw[if_neg h0,if_pos h1'])
    ·rfl
    ·exact hM
   ·intro h1
    have h1':¬s.1.length<n:=by omega
    (((refine Aj ?_;refine Ab trivial ?_;refine Ab trivial ?_;refine An hM ?_)))
    refine aHo (by kernel_rfl) hl (by omega) ?_
    (((refine Ab trivial ?_;refine Ab trivial ?_;refine An hM ?_)))
    refine aHp (by kernel_rfl) hl (by omega) ?_
    (((refine Ab trivial ?_;refine Ab trivial ?_;refine Az hM ?_;clear hM;intro _ hM)))
    refine⟨_,rfl,?_,?_⟩ <;> (unfold tk;rw[if_neg h0,if_neg h1'])
    ·rfl
    ·rw[h00]at hM
     exact hM
theorem aRr (n:Nat) (hn:n≤65536) (hl:Byt s.1) (hz:s.1.length≤1000000000000) (hM:Mem H w0 (rrR g s::L) w):Calls prog 118 #[.pointer (some ⟨g,0,none⟩),.int .i64 n] w fun en w'=>∃ v,en=.returned v∧v=.string (strOfNums (tk n s).1)∧Mem H w0 (rrR g (tk n s).2.2::L) w':=by
 refine Nj ?_
 unfold Gy
 (((refine Ab trivial ?_;refine Ab trivial ?_;refine An hM ?_)))
 (((refine Aw trivial ?_ ?_)))
 ·intro h
  (((refine Am ?_)))
  refine⟨_,rfl,?_,?_⟩ <;> (unfold tk;rw[if_pos h])
  ·rfl
  ·exact hM
 ·intro h0
  have h00:s.2=0:=by omega
  (((refine Aj ?_;refine Ab trivial ?_;refine Ab trivial ?_;refine An hM ?_;refine Ab trivial ?_)))
  rw[strOfNums_size]
  (((refine Aw trivial ?_ ?_)))
  ·intro h1
   have h1':s.1.length<n:=by omega
   (((refine Am ?_;refine Ab trivial ?_;refine Ab trivial ?_;refine Az hM ?_;clear hM;intro _ hM)))
   refine⟨_,rfl,?_,?_⟩ <;> (unfold tk;rw[if_neg h0,if_pos h1'])
   ·rfl
   ·exact hM
  ·intro h1
   have h1':¬s.1.length<n:=by omega
   (((refine Aj ?_;refine Ab trivial ?_;refine Ab trivial ?_;refine An hM ?_)))
   refine aHo (by kernel_rfl) hl (by omega) ?_
   (((refine Ab trivial ?_;refine Ab trivial ?_;refine An hM ?_)))
   refine aHp (by kernel_rfl) hl (by omega) ?_
   (((refine Ab trivial ?_;refine Ab trivial ?_;refine Az hM ?_;clear hM;intro _ hM)))
   refine⟨_,rfl,?_,?_⟩ <;> (unfold tk;rw[if_neg h0,if_neg h1'])
   ·rfl
   ·rw[h00]at hM
    exact hM
theorem aOm (hl:Byt s.1) (hz:s.1.length≤1000000000000) (hM:Mem H w0 (rdR g s::L) w):Calls prog 48 #[.pointer (some ⟨g,0,none⟩)] w fun en w'=>∃ v,en=.returned v∧v=ha (rdH s).1∧Mem H w0 (rdR g (rdH s).2::L) w':=by
 refine Rm ?_
 unfold Ji
 (((refine Bf hM ?_;clear hM;intro _ _ hM;refine Bf hM ?_;clear hM;intro _ _ hM)))
 rename_i g2 _ g3 _
 refine Bi (aAq 32 (by omega) hl hz (hM.at_ (rdR g s))) ?_
 rintro v w2 ⟨rfl,hM⟩
 ((((iterate 3 refine Ab trivial ?_))))
 have hM:=hM.at_ (fb g3 23 [.arr 32 (u8s hzero.1)])
 refine aZf (e:=5) (by kernel_rfl) (by kernel_rfl) hM (Vx hl).1 hzero.2.1 (by rcases aFd 32 s with e|e <;> rw[e] <;> simp) (fun w3 hM=>?_)
 rw[aYj hl]at hM
 (((refine An hM ?_;refine Az hM ?_;clear hM;intro _ hM;refine Bz hM ?_)))
 refine⟨_,rfl,rfl,?_⟩
 show Mem H w0 (rdR g (tk 32 s).2.2::L) _
 exact hM.sub
theorem aFe (most a:Int) (r:List Int):nm most (a::r,0)=if (a::r).length<szN a then (0,(a::r,2)) else if vl ((a::r).take (szN a))<bdN a then (0,((a::r).drop (szN a),3)) else if most<vl ((a::r).take (szN a)) then (0,((a::r).drop (szN a),5)) else (vl ((a::r).take (szN a)),((a::r).drop (szN a),0)):=by
 unfold nm
 rw[if_neg (by simp),if_neg (by simp)]
 rfl
theorem aRs (most:Int) (hm:0≤most∧most≤4611686018427387903) (hl:Byt s.1) (hz:s.1.length≤1000000000000) (hM:Mem H w0 (rdR g s::L) w):Calls prog 49 #[.pointer (some ⟨g,0,none⟩),.int .i64 most] w fun en w'=>∃ v,en=.returned v∧v=.int .i64 (nm most s).1∧Mem H w0 (rdR g (nm most s).2::L) w':=by
 refine Td ?_
 unfold Kk
 obtain⟨l,e⟩:=s
 simp only at hl hz
 refine⟨fun x w'=>∃ b:Bool,x=.bool b∧(b=true↔e≠0)∧hM.now w',?_,?_⟩
 ·(((refine Ab trivial ?_;refine Ae ?_;refine Ab trivial ?_;refine Ae ?_;refine Ab trivial ?_;refine Ae ?_;refine Ab trivial ?_;refine Ae ?_;refine An hM ?_;refine Ae ?_)))
  (((refine Aw trivial ?_ ?_)))
  ·intro h
   (((refine Ab trivial ?_)))
   exact⟨_,rfl,by simpa using h,hM⟩
  ·intro h
   (((refine Ab trivial ?_)))
   exact⟨_,rfl,by simpa using h,hM⟩
 rintro x u w2 ⟨b,rfl,hb,hM⟩
 cases b with
 | true=>
   (((refine Am ?_)))
   have h:=hb.1 rfl
   refine⟨_,rfl,?_,?_⟩ <;> (unfold nm;rw[if_pos h])
   exact hM
 | false=>
   have h0:¬e≠0:=fun h=>by have:=hb.2 h;cases this
   obtain rfl:e=0:=by omega
   (((refine Aj ?_;refine Ab trivial ?_;refine Ab trivial ?_;refine An hM ?_)))
   cases l with
   | nil=>
     refine Bt trivial rfl ?_
     (((refine Am ?_;refine Ab trivial ?_;refine Ab trivial ?_;refine Az hM ?_;clear hM;intro _ hM)))
     exact⟨_,rfl,rfl,hM⟩
   | cons a r=>
     refine Bm trivial (fun h=>by have:=congrArg ints h;rw[Ce _ hl]at this;cases this) ?_
     have ha:=hl a (by simp)
     (((refine Aj ?_;refine Ab trivial ?_;refine Ab trivial ?_;refine An hM ?_)))
     refine Mt (v:=a) (by kernel_rfl) hl (by simp) rfl ?_
     (((refine Ab ?_ ?_));(focus omega))
     rw[show a / 2 ^ Int.toNat 6=a / 64 from rfl]
     (((refine Ab ?_ ?_));(focus omega))
     refine Br (Lk _ _ _ _ _ _ (by omega) (by show a / 64<(64:Nat);omega)) ?_
     rw[aRq a ha]
     skip
     have hsp:=aFc a
     refine Bi (aAq (szN a) (by omega) hl hz hM) ?_
     rintro v w3 ⟨rfl,hM⟩
     by_cases h3:(a::r).length<szN a
     ·have e:tk (szN a) (a::r,0)=([],false,(a::r,2)):=by unfold tk;rw[if_neg (by simp),if_pos h3]
      rw[e]at hM ⊢
      ((((iterate 3 refine Ab trivial ?_);refine Am ?_)))
      rw[aFe,if_pos h3]
      exact⟨_,rfl,rfl,hM⟩
     ·have e:tk (szN a) (a::r,0)=((a::r).take (szN a),true,((a::r).drop (szN a),0)):=by unfold tk;rw[if_neg (by simp),if_neg h3]
      rw[e]at hM ⊢
      dsimp only at hM ⊢
      rw[aFe,if_neg h3]
      have hbl:((a::r).take (szN a)).length=szN a:=by rw[List.length_take];omega
      have hbb:Byt ((a::r).take (szN a)):=hl.take _
      ((((iterate 3 refine Ab trivial ?_);refine Aj ?_)))
      refine Mt (v:=a) (by kernel_rfl) hbb (by omega) (by
       obtain⟨k,hk⟩:∃ k,szN a=k+1:=⟨szN a - 1,by omega⟩
       rw[hk]
       rfl) ?_
      (((refine Ab trivial ?_)))
      rw[and63 a ha]
      (((refine Ab ?_ ?_));(focus omega))
      generalize hB:(a::r).take (szN a)=B at hbl hbb hM ⊢
      have hB1:vl (B.take 1)=a%64:=by
       subst hB
       obtain⟨k,hk⟩:∃ k,szN a=k+1:=⟨szN a - 1,by omega⟩
       rw[hk]
       rfl
      refine⟨fun x y w'=>∃ i:Nat,x=.int .i64 (vl (B.take i))∧y=.int .i64 i∧1≤i∧i≤szN a∧Mem H w0 (rdR g ((a::r).drop (szN a),0)::L) w',fun _ y _=>match y with | .int _ i=>szN a - i.toNat|_=>0,⟨1,by rw[hB1],rfl,by omega,by omega,hM⟩,?_⟩
      clear hM
      rintro x y u w4 ⟨i,rfl,rfl,hi1,hi2,hM⟩
      have hbd:=aRn B hbb (i - 1) (by omega)
      rw[show i - 1+1=i by omega]at hbd
      (((refine Ab trivial ?_)))
      rw[strOfNums_size]
      (((refine Aw trivial ?_ ?_)))
      ·intro hlt
       have hp:(256:Int) ^ (i - 1)≤256 ^ 6:=by
        obtain h|h|h|h|h|h|h:i - 1=0∨i - 1=1∨i - 1=2∨i - 1=3∨i - 1=4∨i - 1=5∨i - 1=6:=by omega
        all_goals rw[h];decide
       have hp6:(256:Int) ^ 6=281474976710656:=by decide
       have hv:0≤vl (B.take i)∧vl (B.take i)<18014398509481984:=by omega
       have hx:=hbb.getD i
       (((refine Am ?_)))
       refine Br (Lk _ _ _ _ _ _ (by omega) (by simp[IntKind.bits])) ?_
       have hw:IntKind.i64.wrap (vl (B.take i)*2 ^ (8:Int).toNat)=vl (B.take i)*256:=by
        show IntKind.i64.wrap (vl (B.take i)*256)=_
        simp only[IntKind.wrap,IntKind.bits,IntKind.signed]
        simp
        omega
       rw[hw]
       skip
       refine Mt (v:=B.getD i 0) (by kernel_rfl) hbb (by omega) (by rw[Int.toNat_natCast]) ?_
       (((refine Ab ?_ ?_));(focus omega);((refine Ab trivial ?_;refine Ab ?_ ?_));(focus omega))
       rw[aRo _ _ hv hx]
       skip
       exact⟨⟨i+1,by rw[aFb B i hi1 (by omega)],rfl,by omega,by omega,hM⟩,by dsimp only;omega⟩
      ·intro hge
       obtain rfl:i=szN a:=by omega
       have hT:B.take (szN a)=B:=List.take_of_length_le (by omega)
       rw[hT]
       have hvB:0≤vl B:=by
        have:=hbd.1
        rwa [hT]at this
       (((refine Aj ?_)))
       refine⟨fun w'=>(vl B<bdN a∨most<vl B)∧Mem H w0 (rdR g ((a::r).drop (szN a),if vl B<bdN a then 3 else 5)::L) w',?_,?_⟩
       ·refine⟨fun x w'=>x=.bool (decide (vl B<bdN a))∧hM.now w',?_,?_⟩
        ·obtain h|h|h|h:a / 64=0∨a / 64=1∨a / 64=2∨a / 64=3:=by omega
         ·rw[h,(szN1 (by omega)).2]
          (((refine Bm trivial ?_ ?_));(focus (first|assumption|omega|with_reducible rfl|exact fun h=>Bool.noConfusion h));(((iterate 6 refine Bv ?_);refine Ab trivial ?_)))
          exact⟨by rw[decide_eq_false (by omega)],hM⟩
         ·rw[h,(szN2 (by omega)).2]
          (((refine Bt trivial ?_ ?_));(focus (first|assumption|omega|with_reducible rfl|exact fun h=>Bool.noConfusion h));((refine Ae ?_;refine Ab trivial ?_;refine Ae ?_;refine Bl hM ?_ (fun _ hM2=>?_)));(focus (first|exact trivial|assumption|omega));((replace hM:=hM2;clear hM2;refine Ae ?_;refine Ab trivial ?_;refine Ae ?_;refine Ab ?_ ?_));(focus omega);((refine Ae ?_)))
          refine Br (v:=.int .i64 64) (fun w=>by kernel_rfl) ?_
          by_cases h4:vl B<64
          ·(((refine Ae ?_;refine Bt trivial ?_ ?_));(focus (first|assumption|omega|with_reducible rfl|exact fun h=>Bool.noConfusion h));((refine Ab trivial ?_)))
           exact⟨by rw[decide_eq_true h4],hM⟩
          ·(((refine Ae ?_;refine Bm trivial ?_ ?_));(focus (first|assumption|omega|with_reducible rfl|exact fun h=>Bool.noConfusion h));((refine Ab trivial ?_)))
           exact⟨by rw[decide_eq_false h4],hM⟩
         ·rw[h,(szN4 (by omega)).2]
          (((refine Bt trivial ?_ ?_));(focus (first|assumption|omega|with_reducible rfl|exact fun h=>Bool.noConfusion h));((refine Ae ?_;refine Ab trivial ?_;refine Ae ?_;refine Bl hM ?_ (fun _ hM2=>?_)));(focus (first|exact trivial|assumption|omega));((replace hM:=hM2;clear hM2;refine Ae ?_;refine Ab trivial ?_;refine Ae ?_;refine Ab ?_ ?_));(focus omega);((refine Ae ?_)))
          refine Br (v:=.int .i64 16384) (fun w=>by kernel_rfl) ?_
          by_cases h4:vl B<16384
          ·(((refine Ae ?_;refine Bt trivial ?_ ?_));(focus (first|assumption|omega|with_reducible rfl|exact fun h=>Bool.noConfusion h));((refine Ab trivial ?_)))
           exact⟨by rw[decide_eq_true h4],hM⟩
          ·(((refine Ae ?_;refine Bm trivial ?_ ?_));(focus (first|assumption|omega|with_reducible rfl|exact fun h=>Bool.noConfusion h));((refine Ab trivial ?_)))
           exact⟨by rw[decide_eq_false h4],hM⟩
         ·rw[h,(szN8 (by omega)).2]
          (((refine Bt trivial ?_ ?_));(focus (first|assumption|omega|with_reducible rfl|exact fun h=>Bool.noConfusion h));((refine Ae ?_;refine Ab trivial ?_;refine Ae ?_;refine Bl hM ?_ (fun _ hM2=>?_)));(focus (first|exact trivial|assumption|omega));((replace hM:=hM2;clear hM2;refine Ae ?_;refine Ab trivial ?_;refine Ae ?_;refine Ab ?_ ?_));(focus omega);((refine Ae ?_)))
          refine Br (v:=.int .i64 1073741824) (fun w=>by kernel_rfl) ?_
          by_cases h4:vl B<1073741824
          ·(((refine Ae ?_;refine Bt trivial ?_ ?_));(focus (first|assumption|omega|with_reducible rfl|exact fun h=>Bool.noConfusion h));((refine Ab trivial ?_)))
           exact⟨by rw[decide_eq_true h4],hM⟩
          ·(((refine Ae ?_;refine Bm trivial ?_ ?_));(focus (first|assumption|omega|with_reducible rfl|exact fun h=>Bool.noConfusion h));((refine Ab trivial ?_)))
           exact⟨by rw[decide_eq_false h4],hM⟩
        ·rintro x u w5 ⟨rfl,hM⟩
         by_cases h4:vl B<bdN a
         ·rw[decide_eq_true h4]
          (((refine Am ?_;refine Ab trivial ?_;refine Ab trivial ?_;refine Az hM ?_;clear hM;intro _ hM)))
          exact⟨.inl h4,by rw[if_pos h4];exact hM⟩
         ·rw[decide_eq_false h4]
          (((refine Aj ?_)))
          (((refine Aw trivial ?_ ?_)))
          ·intro h5
           (((refine Am ?_;refine Ab trivial ?_;refine Ab trivial ?_;refine Az hM ?_;clear hM;intro _ hM)))
           exact⟨.inr h5,by rw[if_neg h4];exact hM⟩
          ·intro h5
           (((refine Aj ?_)))
           first
            | (rw[if_neg h4,if_neg (by omega)];exact⟨_,rfl,rfl,hM⟩)
            | exact⟨_,rfl,by rw[if_neg h4,if_neg (by omega)],by rw[if_neg h4,if_neg (by omega)];exact hM⟩
       ·rintro u w5 ⟨h4,hM⟩
        by_cases h5:vl B<bdN a
        ·rw[if_pos h5]at hM ⊢
         exact⟨_,rfl,rfl,hM⟩
        ·rw[if_neg h5]at hM ⊢
         rw[if_pos (h4.resolve_left h5)]
         exact⟨_,rfl,rfl,hM⟩
end
end Go.Proofs.YtgbenhmdamnmcaaGreat
namespace Go.Proofs.YtgbenhmdamnmcaaGreat
open Go.Proofs.Tryz
open Go.RowKit
theorem bBk (most:Int) (s:RS) (hl:Byt s.1) (h:(nm most s).2.2=0):s.2=0∧s.1=numB (nm most s).1++(nm most s).2.1:=by
 obtain⟨l,e⟩:=s
 unfold nm at h ⊢
 by_cases h1:e≠0
 ·rw[if_pos h1]at h
  exact absurd h h1
 ·rw[if_neg h1]at h ⊢
  refine⟨by simpa using h1,?_⟩
  by_cases h2:l=[]
  ·rw[if_pos h2]at h
   cases h
  ·rw[if_neg h2]at h ⊢
   by_cases h3:l.length<szN (l.headD 0)
   ·rw[if_pos h3]at h
    cases h
   ·rw[if_neg h3]at h ⊢
    by_cases h4:vl (l.take (szN (l.headD 0)))<bdN (l.headD 0)
    ·rw[if_pos h4]at h
     cases h
    ·rw[if_neg h4]at h ⊢
     by_cases h5:most<vl (l.take (szN (l.headD 0)))
     ·rw[if_pos h5]at h
      cases h
     ·rw[if_neg h5]
      have:=aHl l hl (by omega) h2
      have h6:numB (vl (l.take (szN (l.headD 0))))=l.take (szN (l.headD 0)):=Classical.not_not.1 (fun hc=>h4 (this.1 hc))
      show l=numB (vl (l.take (szN (l.headD 0))))++l.drop (szN (l.headD 0))
      rw[h6,List.take_append_drop]
theorem aZg (most:Int) (s:RS) (hl:Byt s.1):Byt (nm most s).2.1:=by
 unfold nm
 split
 ·exact hl
 ·split
  ·exact fun x hx=>by cases hx
  ·split
   ·exact hl
   ·split
    ·exact hl.drop _
    ·split
     ·exact hl.drop _
     ·exact hl.drop _
theorem aZh (s:RS) (hl:Byt s.1) (h:(rdH s).2.2=0):s.2=0∧s.1=(rdH s).1.1++(rdH s).2.1:=by
 obtain⟨l,e⟩:=s
 unfold rdH at h ⊢
 simp only at h ⊢
 unfold tk at h ⊢
 by_cases h1:e≠0
 ·rw[if_pos h1]at h
  exact absurd h h1
 ·rw[if_neg h1]at h ⊢
  refine⟨by simpa using h1,?_⟩
  by_cases h2:l.length<32
  ·rw[if_pos h2]at h
   cases h
  ·rw[if_neg h2]
   show l=(hs (l.take 32)).1++l.drop 32
   unfold hs
   rw[dif_pos ⟨by simp;omega,hl.take 32⟩,List.take_append_drop]
theorem aVy (s:RS) (hl:Byt s.1):Byt (rdH s).2.1:=(Vx hl).2
end Go.Proofs.YtgbenhmdamnmcaaGreat
namespace Go.Proofs.YtgbenhmdamnmcaaGreat
open Go.Proofs.Tryz
open Go.RowKit
theorem aYk (n:Nat) (s:RS):(tk n s).2.2.1.length≤s.1.length:=by
 unfold tk
 split
 ·exact Nat.le_refl _
 ·split
  ·exact Nat.le_refl _
  ·simp
theorem bBl (most:Int) (s:RS):(nm most s).2.1.length≤s.1.length:=by
 unfold nm
 split
 ·exact Nat.le_refl _
 ·split
  ·simp
  ·split
   ·exact Nat.le_refl _
   ·split
    ·simp
    ·split <;> simp
def endE (s:RS):Int:=if s.2≠0 then s.2 else if s.1≠[] then 4 else 0
structure RdS where
 l:List Int
 e:Int
 ok:Byt l∧l.length≤1000000000000
def RdS.rs (s:RdS):RS:=(s.l,s.e)
def nmS (most:Int) (s:RdS):Int × RdS:=((nm most s.rs).1,⟨(nm most s.rs).2.1,(nm most s.rs).2.2,aZg most s.rs s.ok.1,Nat.le_trans (bBl most s.rs) s.ok.2⟩)
def hsS (s:RdS):H32 × RdS:=((rdH s.rs).1,⟨(rdH s.rs).2.1,(rdH s.rs).2.2,aVy s.rs s.ok.1,Nat.le_trans (aYk 32 s.rs) s.ok.2⟩)
def rwS (n:Nat) (s:RdS):List Int × RdS:=((tk n s.rs).1,⟨(tk n s.rs).2.2.1,(tk n s.rs).2.2.2,(Vx s.ok.1).2,Nat.le_trans (aYk n s.rs) s.ok.2⟩)
def endS (s:RdS):Int:=endE s.rs
theorem Jv {most:Int} {s:RdS} (h:(nmS most s).2.e=0):s.e=0∧s.l=numB (nmS most s).1++(nmS most s).2.l:=bBk most s.rs s.ok.1 h
theorem Nn {s:RdS} (h:(hsS s).2.e=0):s.e=0∧s.l=(hsS s).1.1++(hsS s).2.l:=aZh s.rs s.ok.1 h
theorem aMe {s:RdS} (h:endS s=0):s.e=0∧s.l=[]:=by
 unfold endS endE RdS.rs at h
 by_cases h1:s.e=0
 ·simp[h1]at h
  exact⟨h1,h⟩
 ·simp[h1]at h
theorem aMf {a b:List Int} (ha:Byt a) (hb:Byt b):strOfNums a=strOfNums b↔a=b:=⟨fun h=>by rw[← Ce a ha,h,Ce b hb],fun h=>by rw[h]⟩
abbrev rdC (s:RdS):List Fd:=[.one (.string (strOfNums s.l)),.one (.int .i64 s.e)]
abbrev rdO (g:Nat) (s:RdS):Res:=fb g 187 (rdC s)
abbrev rrO (g:Nat) (s:RdS):Res:=fb g 105 (rdC s)
theorem aRt (n:Int) (h:0≤n) (h2:n≤4611686018427387903):Byt (numB n):=by
 unfold numB
 split
 ·intro x hx
  rw[List.mem_singleton.1 hx]
  omega
 ·split
  ·intro x hx
   simp only[List.mem_cons,List.not_mem_nil,or_false]at hx
   rcases hx with rfl|rfl <;> omega
  ·split
   ·intro x hx
    simp only[List.mem_cons,List.not_mem_nil,or_false]at hx
    rcases hx with rfl|rfl|rfl|rfl <;> omega
   ·intro x hx
    simp only[List.mem_cons,List.not_mem_nil,or_false]at hx
    rcases hx with rfl|rfl|rfl|rfl|rfl|rfl|rfl|rfl <;> omega
theorem aVz (l:List Int) (i:Nat) (x:Int):(u8s l).set i (.int .u8 x)=u8s (l.set i x):=by simp[u8s,List.map_set]
theorem aZi (K B:List Int) (i:Nat) (h:i<B.length) (h2:i<K.length):B.take (i+1)++K.drop (i+1)=(B.take i++K.drop i).set i (B.getD i 0):=by
 have e:B.getD i 0=B[i]:=by simp[h]
 rw[e,List.set_append_right _ _ (by simp;omega),List.take_succ_eq_append_getElem h,List.length_take,Nat.min_eq_left (by omega),Nat.sub_self,List.drop_eq_getElem_cons h2,List.append_assoc]
 rfl
section
variable {H:Hp} {w0 w:World} {L R:List Res} {g:Nat} {s:RS}
theorem aRu (most:Int) (hm:0≤most∧most≤4611686018427387903) (hl:Byt s.1) (hz:s.1.length≤1000000000000) (hM:Mem H w0 (rrR g s::L) w):Calls prog 58 #[.pointer (some ⟨g,0,none⟩),.int .i64 most] w fun en w'=>∃ v,en=.returned v∧v=.int .i64 (nm most s).1∧Mem H w0 (rrR g (nm most s).2::L) w':=by
 refine Nf ?_
 unfold Gr
 obtain⟨l,e⟩:=s
 simp only at hl hz
 (((refine Ab trivial ?_;refine Ab trivial ?_;refine An hM ?_)))
 (((refine Aw trivial ?_ ?_)))
 ·intro h
  (((refine Am ?_)))
  refine⟨_,rfl,?_,?_⟩ <;> (unfold nm;rw[if_pos h])
  exact hM
 ·intro h0
  obtain rfl:e=0:=by simpa using h0
  (((refine Aj ?_;refine Ab trivial ?_;refine Ab trivial ?_;refine An hM ?_;refine Ab trivial ?_)))
  rw[strOfNums_size]
  cases l with
  | nil=>
    refine Bt trivial rfl ?_
    (((refine Am ?_;refine Ab trivial ?_;refine Ab trivial ?_;refine Az hM ?_;clear hM;intro _ hM)))
    exact⟨_,rfl,rfl,hM⟩
  | cons a r=>
    refine Bm trivial (by simp;omega) ?_
    have ha:=hl a (by simp)
    (((refine Aj ?_;refine Ab trivial ?_;refine Ab trivial ?_;refine An hM ?_)))
    refine Mt (v:=a) (by kernel_rfl) hl (by simp) rfl ?_
    (((refine Ab ?_ ?_));(focus omega))
    refine⟨fun x y w'=>((x=.int .i64 1∧y=.int .i64 0)∨(x=.int .i64 2∧y=.int .i64 1∧64≤a)∨(x=.int .i64 4∧y=.int .i64 2∧128≤a)∨(x=.int .i64 8∧y=.int .i64 3∧192≤a))∧Mem H w0 (rrR g (a::r,0)::L) w',fun _ y _=>match y with | .int _ i=>(4 - i).toNat|_=>0,⟨.inl ⟨rfl,rfl⟩,hM⟩,?_⟩
    clear hM
    rintro x y u w4 ⟨hxy,hM⟩
    by_cases hend:(x=.int .i64 (szN a)∧y=.int .i64 (a / 64))
    ·obtain⟨rfl,rfl⟩:=hend
     (((refine Ab ?_ ?_));(focus omega);((refine Bm trivial ?_ ?_));(focus (first|assumption|omega|with_reducible rfl|exact fun h=>Bool.noConfusion h));((refine Aj ?_;refine Ab trivial ?_;refine Ab trivial ?_;refine An hM ?_;refine Ab trivial ?_)))
     have hsp:=aFc a
     have hsz:=strOfNums_size (a::r)
     rw[aFe]
     by_cases h3:(a::r).length<szN a
     ·rw[if_pos h3]
      refine Bt trivial (by rw[hsz];omega) ?_
      (((refine Am ?_;refine Ab trivial ?_;refine Ab trivial ?_;refine Az hM ?_;clear hM;intro _ hM)))
      exact⟨_,rfl,rfl,hM⟩
     ·rw[if_neg h3]
      refine Bm trivial (by rw[hsz];omega) ?_
      have hbl:((a::r).take (szN a)).length=szN a:=by rw[List.length_take];omega
      have hbb:Byt ((a::r).take (szN a)):=hl.take _
      have hfo:=aHl (a::r) hl (by show szN a≤_;omega) (by simp)
      simp only[List.headD_cons]at hfo
      (((refine Aj ?_;refine Ab ?_ ?_));(focus omega))
      generalize hB:(a::r).take (szN a)=B at hbl hbb hfo ⊢
      have hB1:vl (B.take 1)=a%64:=by
       subst hB
       obtain⟨k,hk⟩:∃ k,szN a=k+1:=⟨szN a - 1,by omega⟩
       rw[hk]
       rfl
      refine⟨fun x y w'=>∃ i:Nat,x=.int .i64 (vl (B.take i))∧y=.int .i64 i∧1≤i∧i≤szN a∧Mem H w0 (rrR g (a::r,0)::L) w',fun _ y _=>match y with | .int _ i=>szN a - i.toNat|_=>0,⟨1,by rw[hB1],rfl,by omega,by omega,hM⟩,?_⟩
      clear hM
      rintro x y u w5 ⟨i,rfl,rfl,hi1,hi2,hM⟩
      have hbd:=aRn B hbb (i - 1) (by omega)
      rw[show i - 1+1=i by omega]at hbd
      by_cases hlt:i<szN a
      ·have hp:(256:Int) ^ (i - 1)≤256 ^ 6:=by
        obtain h|h|h|h|h|h|h:i - 1=0∨i - 1=1∨i - 1=2∨i - 1=3∨i - 1=4∨i - 1=5∨i - 1=6:=by omega
        all_goals rw[h];decide
       have hp6:(256:Int) ^ 6=281474976710656:=by decide
       have hv:0≤vl (B.take i)∧vl (B.take i)<18014398509481984:=by omega
       have hx:=hbb.getD i
       have hg:(a::r).getD i 0=B.getD i 0:=by
        subst hB
        rw[List.getD_eq_getElem?_getD,List.getD_eq_getElem?_getD,List.getElem?_take,if_pos hlt]
       (((refine Bt trivial ?_ ?_));(focus (first|assumption|omega|with_reducible rfl|exact fun h=>Bool.noConfusion h));((refine Am ?_;refine Ab ?_ ?_));(focus omega);((refine Ab trivial ?_;refine Ab trivial ?_;refine An hM ?_)))
       refine Mt (v:=B.getD i 0) (by kernel_rfl) hl (by show _∧_<((a::r).length:Int);omega) (by rw[Int.toNat_natCast];exact hg) ?_
       (((refine Ab ?_ ?_));(focus omega);((refine Ab ?_ ?_));(focus omega);((refine Ab ?_ ?_));(focus omega))
       exact⟨⟨i+1,by rw[aFb B i hi1 (by omega)],rfl,by omega,by omega,hM⟩,by dsimp only;omega⟩
      ·obtain rfl:i=szN a:=by omega
       have hT:B.take (szN a)=B:=List.take_of_length_le (by omega)
       rw[hT]at hbd ⊢
       have hvB:0≤vl B:=hbd.1
       have hvT:vl B≤4611686018427387903:=by
        have hp:(256:Int) ^ (szN a - 1)≤256 ^ 7:=by
         obtain h|h|h|h|h|h|h|h:szN a - 1=0∨szN a - 1=1∨szN a - 1=2∨szN a - 1=3∨szN a - 1=4∨szN a - 1=5∨szN a - 1=6∨szN a - 1=7:=by omega
         all_goals rw[h];decide
        have hp6:(256:Int) ^ 7=72057594037927936:=by decide
        omega
       (((refine Bm trivial ?_ ?_));(focus (first|assumption|omega|with_reducible rfl|exact fun h=>Bool.noConfusion h));((refine Aj ?_;refine Ab trivial ?_;refine Ab trivial ?_;refine An hM ?_;refine Ab ?_ ?_));(focus (simp only[and_true];omega));((refine Ab trivial ?_;refine Ab trivial ?_;refine An hM ?_;refine Ab ?_ ?_));(focus (simp only[and_true];omega));((refine Ab trivial ?_;refine Ab trivial ?_;refine Az hM ?_;clear hM;intro _ hM;refine Bl hM ?_ ?_));(focus (first|exact trivial|assumption|omega));((clear hM;intro _ hM)))
       have ex1:(strOfNums (a::r,(0:Int)).1).extract 0 ((szN a:Nat):Int).toNat=strOfNums B:=by rw[Int.toNat_natCast,aHm hl,hB]
       have ex2:(strOfNums (a::r,(0:Int)).1).extract ((szN a:Nat):Int).toNat (strOfNums (a::r,(0:Int)).1).size=strOfNums ((a::r).drop (szN a)):=by rw[Int.toNat_natCast,aHn hl]
       rw[ex1]
       rw[ex2]at hM
       by_cases h4:vl B<bdN a
       ·rw[if_pos h4]
        refine Bt trivial (show strOfNums (numB (vl B))≠strOfNums B from fun hc=>hfo.2 h4 ((aMf (aRt _ hvB hvT) hbb).1 hc)) ?_
        (((refine Am ?_;refine Ab trivial ?_;refine Ab trivial ?_;refine Az hM ?_;clear hM;intro _ hM)))
        exact⟨_,rfl,rfl,hM⟩
       ·rw[if_neg h4]
        refine Bm trivial (show ¬strOfNums (numB (vl B))≠strOfNums B from fun hn=>hn (by rw[Classical.not_not.1 fun hc=>h4 (hfo.1 hc)])) ?_
        (((refine Aj ?_)))
        by_cases h5:most<vl B
        ·rw[if_pos h5]
         (((refine Bt trivial ?_ ?_));(focus (first|assumption|omega|with_reducible rfl|exact fun h=>Bool.noConfusion h));((refine Am ?_;refine Ab trivial ?_;refine Ab trivial ?_;refine Az hM ?_;clear hM;intro _ hM)))
         exact⟨_,rfl,rfl,hM⟩
        ·rw[if_neg h5]
         (((refine Bm trivial ?_ ?_));(focus (first|assumption|omega|with_reducible rfl|exact fun h=>Bool.noConfusion h));((refine Aj ?_)))
         exact⟨_,rfl,rfl,hM⟩
    ·have hq:a / 64=0∨a / 64=1∨a / 64=2∨a / 64=3:=by omega
     rcases hxy with ⟨rfl,rfl⟩|⟨rfl,rfl,h64⟩|⟨rfl,rfl,h64⟩|⟨rfl,rfl,h64⟩
     ·have h1:0<a / 64:=by
       rcases hq with h|h|h|h
       ·exact absurd ⟨by rw[(szN1 (a:=a) (by omega)).1];rfl,by rw[h]⟩ hend
       all_goals omega
      (((refine Ab ?_ ?_));(focus omega);((refine Bt trivial ?_ ?_));(focus (first|assumption|omega|with_reducible rfl|exact fun h=>Bool.noConfusion h));((refine Am ?_;refine Ab ?_ ?_));(focus omega);((refine Ab ?_ ?_));(focus omega))
      exact⟨⟨.inr (.inl ⟨rfl,rfl,by omega⟩),hM⟩,by dsimp only;omega⟩
     ·have h1:1<a / 64:=by
       rcases hq with h|h|h|h
       ·omega
       ·exact absurd ⟨by rw[(szN2 (a:=a) (by omega)).1];rfl,by rw[h]⟩ hend
       all_goals omega
      (((refine Ab ?_ ?_));(focus omega);((refine Bt trivial ?_ ?_));(focus (first|assumption|omega|with_reducible rfl|exact fun h=>Bool.noConfusion h));((refine Am ?_;refine Ab ?_ ?_));(focus omega);((refine Ab ?_ ?_));(focus omega))
      exact⟨⟨.inr (.inr (.inl ⟨rfl,rfl,by omega⟩)),hM⟩,by dsimp only;omega⟩
     ·have h1:2<a / 64:=by
       rcases hq with h|h|h|h
       ·omega
       ·omega
       ·exact absurd ⟨by rw[(szN4 (a:=a) (by omega)).1];rfl,by rw[h]⟩ hend
       all_goals omega
      (((refine Ab ?_ ?_));(focus omega);((refine Bt trivial ?_ ?_));(focus (first|assumption|omega|with_reducible rfl|exact fun h=>Bool.noConfusion h));((refine Am ?_;refine Ab ?_ ?_));(focus omega);((refine Ab ?_ ?_));(focus omega))
      exact⟨⟨.inr (.inr (.inr ⟨rfl,rfl,by omega⟩)),hM⟩,by dsimp only;omega⟩
     ·exact absurd ⟨by rw[(szN8 (a:=a) (by omega)).1];rfl,by rw[show a / 64=3 by omega]⟩ hend
end
section
variable {H:Hp} {w0 w:World} {L R:List Res} {g:Nat} {s:RdS}
instance (g:Nat) (s:RdS) (most:Int):OwnC prog 49 [.pointer (some ⟨g,0,none⟩),.int .i64 most] (rdO g s) (0≤most∧most≤4611686018427387903) (rdO g (nmS most s).2) (.int .i64 (nmS most s).1):=
 ⟨fun h _ _ _ _ hM=>(aRs (s:=s.rs) most h s.ok.1 s.ok.2 hM).mono fun _ _ ⟨v,e,hv,hM⟩=>⟨by rw[e,hv];rfl,hM⟩⟩
instance (g:Nat) (s:RdS):OwnC prog 48 [.pointer (some ⟨g,0,none⟩)] (rdO g s) True (rdO g (hsS s).2) (ha (hsS s).1):=
 ⟨fun _ _ _ _ _ hM=>(aOm (s:=s.rs) s.ok.1 s.ok.2 hM).mono fun _ _ ⟨v,e,hv,hM⟩=>⟨by rw[e,hv];rfl,hM⟩⟩
instance (g:Nat) (s:RdS) (n:Int):OwnC prog 118 [.pointer (some ⟨g,0,none⟩),.int .i64 n] (rrO g s) (0≤n∧n≤65536) (rrO g (rwS n.toNat s).2) (.string (strOfNums (rwS n.toNat s).1)):=
 ⟨fun h _ _ _ _ hM=>by
  obtain⟨k,rfl⟩:=Int.eq_ofNat_of_zero_le h.1
  exact(aRr (s:=s.rs) k (by omega) s.ok.1 s.ok.2 hM).mono fun _ _ ⟨v,e,hv,hM⟩=>⟨by rw[e,hv];rfl,hM⟩⟩
theorem aWa (hM:Mem H w0 (rdO g s::L) w):Calls prog 47 #[.pointer (some ⟨g,0,none⟩)] w fun en w'=>en=.returned (.int .i64 s.e)∧Mem H w0 (rdO g s::L) w':=by
 refine Tc ?_
 unfold Kj
 (((refine Ab trivial ?_;refine Aj ?_;refine Ab trivial ?_;refine Ab trivial ?_;refine An hM ?_)))
 exact⟨rfl,hM⟩
instance (g:Nat) (s:RdS):OwnC prog 47 [.pointer (some ⟨g,0,none⟩)] (rdO g s) True (rdO g s) (.int .i64 s.e):=⟨fun _ _ _ _ _ hM=>aWa hM⟩
theorem aWb (hM:Mem H w0 (rdO g s::L) w):Calls prog 53 #[.pointer (some ⟨g,0,none⟩)] w fun en w'=>en=.returned (.int .i64 (endS s))∧Mem H w0 (rdO g s::L) w':=by
 refine Te ?_
 unfold Kl
 refine⟨fun x w'=>x=.bool (decide (s.e=0∧s.l≠[]))∧hM.now w',?_,?_⟩
 ·(((refine Bu hM ?_ (fun _ hM2=>?_)));(focus (first|exact trivial|assumption|omega));((replace hM:=hM2;clear hM2)))
  (((refine Aw trivial ?_ ?_)))
  ·intro h
   (((refine Ae ?_;refine Ab trivial ?_;refine Ae ?_;refine Ab trivial ?_;refine Ae ?_;refine Ab trivial ?_;refine Ae ?_;refine An hM ?_;refine Ae ?_)))
   by_cases h2:s.l=[]
   ·refine Bm trivial (fun hn=>hn (by rw[h2];rfl)) ?_
    (((refine Ab trivial ?_)))
    exact⟨by simp[h2],hM⟩
   ·refine Bt trivial (show strOfNums s.l≠ByteArray.mk #[] from fun h3=>h2 ((aMf (b:=[]) s.ok.1 (fun x hx=>by cases hx)).1 (by rw[h3];rfl))) ?_
    (((refine Ab trivial ?_)))
    exact⟨by simp[h,h2],hM⟩
  ·intro h
   ((((iterate 5 refine Bv ?_);refine Ab trivial ?_)))
   exact⟨by simp[h],hM⟩
 rintro x u w2 ⟨rfl,hM⟩
 by_cases h:s.e=0∧s.l≠[]
 ·rw[decide_eq_true h]
  (((refine Am ?_)))
  exact⟨by unfold endS endE RdS.rs;simp[h.1,h.2],hM⟩
 ·rw[decide_eq_false h]
  (((refine Aj ?_;refine Bu hM ?_ ?_));(focus (first|exact trivial|assumption|omega));((clear hM;intro _ hM)))
  refine⟨?_,hM⟩
  unfold endS endE RdS.rs
  by_cases h1:s.e=0
  ·have:s.l=[]:=Classical.not_not.1 fun hc=>h ⟨h1,hc⟩
   simp[h1,this]
  ·simp[h1]
instance (g:Nat) (s:RdS):OwnC prog 53 [.pointer (some ⟨g,0,none⟩)] (rdO g s) True (rdO g s) (.int .i64 (endS s)):=⟨fun _ _ _ _ _ hM=>aWb hM⟩
theorem aRv (hM:Mem H w0 (rrO g s::L) w):Calls prog 61 #[.pointer (some ⟨g,0,none⟩)] w fun en w'=>en=.returned (.int .i64 (endS s))∧Mem H w0 (rrO g s::L) w':=by
 refine Ng ?_
 unfold Gs
 (((refine Ab trivial ?_;refine Ab trivial ?_;refine An hM ?_)))
 (((refine Aw trivial ?_ ?_)))
 ·intro h
  (((refine Am ?_;refine Ab trivial ?_;refine Ab trivial ?_;refine An hM ?_)))
  exact⟨by unfold endS endE RdS.rs;simp[h],hM⟩
 ·intro h
  have h0:s.e=0:=by omega
  (((refine Aj ?_;refine Ab trivial ?_;refine Ab trivial ?_;refine An hM ?_;refine Ab trivial ?_)))
  rw[strOfNums_size]
  (((refine Aw trivial ?_ ?_)))
  ·intro h2
   (((refine Am ?_)))
   exact⟨by
    have:s.l≠[]:=by intro hc;rw[hc]at h2;simp at h2
    unfold endS endE RdS.rs;simp[h0,this],hM⟩
  ·intro h2
   (((refine Aj ?_)))
   exact⟨by
    have:s.l=[]:=List.eq_nil_of_length_eq_zero (by omega)
    unfold endS endE RdS.rs;simp[h0,this],hM⟩
instance (g:Nat) (s:RdS):OwnC prog 61 [.pointer (some ⟨g,0,none⟩)] (rrO g s) True (rrO g s) (.int .i64 (endS s)):=⟨fun _ _ _ _ _ hM=>aRv hM⟩
theorem aMg (s:RdS) (he:s.e=0) (hM:Mem H w0 L w):Calls prog 45 #[.string (strOfNums s.l)] w fun en w'=>∃ v,en=.returned v∧∃ g,v=.pointer (some ⟨g,0,none⟩)∧Mem H w0 (rdO g s::L) w':=by
 refine aGp ?_
 unfold Ws
 (((refine Ab trivial ?_;refine Bh hM ?_;clear hM;intro _ _ hM)))
 rw[← he]at hM
 exact⟨_,rfl,_,rfl,hM⟩
theorem aOn (hM:Mem H w0 (rrO g s::L) w):Calls prog 57 #[.pointer (some ⟨g,0,none⟩)] w fun en w'=>en=.returned (ha (hsS s).1)∧Mem H w0 (rrO g (hsS s).2::L) w':=by
 refine Lz ?_
 unfold Gi
 (((refine Bf hM ?_;clear hM;intro _ _ hM;refine Bf hM ?_;clear hM;intro _ _ hM;refine Bu hM ?_ ?_));(focus (first|exact trivial|assumption|omega));((clear hM;intro _ hM)))
 rename_i g2 _ g3 _ _
 have hb:Byt (rwS 32 s).1:=(Vx s.ok.1).1
 have hl:(rwS 32 s).1.length≤32:=by rcases aFd 32 s.rs with e|e <;> (show(tk 32 s.rs).1.length≤32) <;> rw[e] <;> simp
 have hd:(rwS 32 s).1++hzero.1.drop (rwS 32 s).1.length=(hsS s).1.1:=aYj s.ok.1
 have hz:(hzero.1).length=32:=hzero.2.1
 generalize hB:(rwS 32 s).1=B at hb hl hd
 have hM:Mem H w0 (fb g3 22 [.arr 32 (u8s (B.take 0++hzero.1.drop 0))]::fb g2 22 [.arr 32 (u8s hzero.1)]::rrO g (hsS s).2::L) _:=hM
 refine⟨fun x w'=>∃ i:Nat,x=.int .i64 i∧i≤B.length∧Mem H w0 (fb g3 22 [.arr 32 (u8s (B.take i++hzero.1.drop i))]::fb g2 22 [.arr 32 (u8s hzero.1)]::rrO g (hsS s).2::L) w',fun x _=>match x with | .int _ i=>B.length - i.toNat|_=>0,⟨0,rfl,by omega,hM⟩,?_⟩
 clear hM
 rintro x u w4 ⟨i,rfl,hi,hM⟩
 rw[show(rwS (Int.toNat 32) s).1=B from hB]
 (((refine Ab trivial ?_)))
 rw[strOfNums_size]
 (((refine Aw trivial ?_ ?_)))
 ·intro h
  have hx:=hb.getD i
  (((refine Am ?_)))
  refine Mt (v:=B.getD i 0) (by kernel_rfl) hb (by omega) (by rw[Int.toNat_natCast]) ?_
  (((refine Ab ?_ ?_));(focus omega);((refine aKc hM ?_ ?_));(focus omega);((clear hM;intro _ hM;refine Ab ?_ ?_));(focus omega))
  refine⟨⟨i+1,rfl,by omega,?_⟩,by dsimp only;omega⟩
  rw[aZi hzero.1 B i (by omega) (by omega),← aVz]
  rw[Int.toNat_natCast]at hM
  exact hM
 ·intro h
  obtain rfl:i=B.length:=by omega
  rw[List.take_length,hd]at hM
  (((refine Aj ?_;refine An hM ?_;refine Az hM ?_;clear hM;intro _ hM;refine Bz hM ?_)))
  exact⟨rfl,hM.sub⟩
instance (g:Nat) (s:RdS):OwnC prog 57 [.pointer (some ⟨g,0,none⟩)] (rrO g s) True (rrO g (hsS s).2) (ha (hsS s).1):=⟨fun _ _ _ _ _ hM=>aOn hM⟩
instance (g:Nat) (s:RdS) (most:Int):OwnC prog 58 [.pointer (some ⟨g,0,none⟩),.int .i64 most] (rrO g s) (0≤most∧most≤4611686018427387903) (rrO g (nmS most s).2) (.int .i64 (nmS most s).1):=
 ⟨fun h _ _ _ _ hM=>(aRu (s:=s.rs) most h s.ok.1 s.ok.2 hM).mono fun _ _ ⟨v,e,hv,hM⟩=>⟨by rw[e,hv];rfl,hM⟩⟩
end
end Go.Proofs.YtgbenhmdamnmcaaGreat
namespace Go.Proofs.YtgbenhmdamnmcaaGreat.Chg
open Go.Proofs.Tryz
open Go.RowKit
structure Prp where
 epoch:H32
 depth:Int
 author:Int
 seq:Int
 kind:Int
 name:Int
 pub:H32
 sign:H32
deriving DecidableEq
abbrev Prp.fds (p:Prp):List Fd:=[.arr 32 (u8s p.epoch.1),.one (.int .i64 p.depth),.one (.int .i64 p.author),.one (.int .i64 p.seq),.one (.int .i64 p.kind),.one (.int .i64 p.name),.arr 32 (u8s p.pub.1),.arr 32 (u8s p.sign.1)]
abbrev prv (p:Prp):Value:=.agg (fl p.fds).toArray
def Prp.right (p:Prp):Prop:=(0≤p.depth∧p.depth≤4611686018427387903)∧(1≤p.author∧p.author≤64)∧(1≤p.name∧p.name≤64)∧(1≤p.seq∧p.seq≤4611686018427387903)∧(if p.kind=2 then p.name=p.author else (p.kind=1∨p.kind=3)∧p.pub=hzero)
instance (p:Prp):Decidable p.right:=by unfold Prp.right;infer_instance
def rank (k:Int):Int:=if k=2 then 0 else if k=3 then 1 else if k=1 then 2 else 3
def Prp.lt (p q:Prp):Prop:=rank p.kind<rank q.kind∨rank p.kind=rank q.kind∧p.name<q.name
section
variable {H:Hp} {w0 w:World} {L R:List Res} {g:Nat}
theorem aAr (n:Int) (w:World):Calls prog 99 #[.int .i64 n] w fun en w'=>en=.returned (.bool (decide (1≤n∧n≤64)))∧St w [] w':=by
 have hM:=Mem.start (Fz.of w)
 refine Zy ?_
 unfold Ow
 (((refine Aw trivial ?_ ?_)))
 ·intro h
  (((refine Ae ?_;refine Ab trivial ?_;refine Ae ?_)))
  (((refine Aw trivial ?_ ?_))) <;>
  ·intro h2
   (((refine Ab trivial ?_)))
   exact⟨by simp;omega,hM.st⟩
 ·intro h
  (((refine Bv ?_;refine Bv ?_;refine Ab trivial ?_)))
  exact⟨by simp;omega,hM.st⟩
instance (n:Int):PurC prog 99 [.int .i64 n] True (.bool (decide (1≤n∧n≤64))):=⟨fun _ w=>aAr n w⟩
def Prp.rt0 (p:Prp):Prop:=(0≤p.depth∧p.depth≤4611686018427387903)∧(1≤p.author∧p.author≤64)∧(1≤p.name∧p.name≤64)∧(1≤p.seq∧p.seq≤4611686018427387903)
theorem aAs (p:Prp) (h:¬p.rt0):decide p.right=false:=decide_eq_false (fun k=>h ⟨k.1,k.2.1,k.2.2.1,k.2.2.2.1⟩)
theorem aDf (p:Prp) (h:p.rt0) (hk:p.kind=2):decide p.right=decide (p.name=p.author):=by
 rw[Bool.eq_iff_iff]
 simp only[decide_eq_true_eq]
 unfold Prp.right
 rw[if_pos hk]
 exact⟨fun k=>k.2.2.2.2,fun k=>⟨h.1,h.2.1,h.2.2.1,h.2.2.2,k⟩⟩
theorem Vy (p:Prp) (h:p.rt0) (h2:p.kind≠2) (hk:p.kind=1∨p.kind=3):decide p.right=decide (p.pub=hzero):=by
 rw[Bool.eq_iff_iff]
 simp only[decide_eq_true_eq]
 unfold Prp.right
 rw[if_neg h2]
 exact⟨fun k=>k.2.2.2.2.2,fun k=>⟨h.1,h.2.1,h.2.2.1,h.2.2.2,hk,k⟩⟩
theorem aDg (p:Prp) (h2:p.kind≠2) (hk:¬(p.kind=1∨p.kind=3)):decide p.right=false:=decide_eq_false (fun k=>by
 have:=k.2.2.2.2
 rw[if_neg h2]at this
 exact hk this.1)
theorem Ei (p:Prp) (w:World):Calls prog 31 #[prv p] w fun en w'=>en=.returned (.bool (decide p.right))∧St w [] w':=by
 have hM:=Mem.start (Fz.of w)
 refine Zo ?_
 unfold Oq
 (((refine Bh hM ?_;clear hM;intro _ _ hM;refine Ab trivial ?_;refine An hM ?_;refine Bf hM ?_;clear hM;intro _ _ hM;refine Az hM ?_;clear hM;intro _ hM)))
 rename_i g1 _ g2 _
 refine⟨fun x w'=>∃ b:Bool,x=.bool b∧(b=true→¬p.rt0)∧(b=false→p.rt0)∧hM.now w',?_,?_⟩
 ·(((refine Ab trivial ?_;refine An hM ?_)))
  (((refine Aw trivial ?_ ?_)))
  ·intro h1
   ((((iterate 3 refine Av ?_);refine Ab trivial ?_;(iterate 4 refine Av ?_);refine Ab trivial ?_;(iterate 4 refine Av ?_);refine Ab trivial ?_;(iterate 3 refine Av ?_);refine Ab trivial ?_;(iterate 3 refine Av ?_);refine Ab trivial ?_)))
   exact⟨_,rfl,fun _ k=>by unfold Prp.rt0 at k;omega,by simp,hM⟩
  ·intro h1
   (((refine Ae ?_;refine Ab trivial ?_;refine Ae ?_;refine An hM ?_;refine Ae ?_)))
   (((refine Aw trivial ?_ ?_)))
   ·intro h2
    (((refine Ab trivial ?_;(iterate 4 refine Av ?_);refine Ab trivial ?_;(iterate 4 refine Av ?_);refine Ab trivial ?_;(iterate 3 refine Av ?_);refine Ab trivial ?_;(iterate 3 refine Av ?_);refine Ab trivial ?_)))
    exact⟨_,rfl,fun _ k=>by unfold Prp.rt0 at k;omega,by simp,hM⟩
   ·intro h2
    (((refine Ab trivial ?_;refine Ae ?_;refine Ab trivial ?_;refine Ae ?_;refine An hM ?_;refine Ae ?_;refine Bl hM ?_ (fun _ hM2=>?_)));(focus (first|exact trivial|assumption|omega));((replace hM:=hM2;clear hM2;refine Ae ?_;refine Ab trivial ?_;refine Ab trivial ?_)))
    by_cases h3:1≤p.author∧p.author≤64
    ·rw[decide_eq_true h3]
     simp only[Bool.not_true]
     (((refine Ae ?_;refine Ab trivial ?_;refine Ae ?_;refine An hM ?_;refine Ae ?_;refine Bl hM ?_ ?_));(focus (first|exact trivial|assumption|omega));((clear hM;intro _ hM;refine Ae ?_;refine Ab trivial ?_;refine Ab trivial ?_)))
     by_cases h4:1≤p.name∧p.name≤64
     ·rw[decide_eq_true h4]
      simp only[Bool.not_true]
      (((refine Ae ?_;refine Ab trivial ?_;refine Ae ?_;refine An hM ?_;refine Ae ?_)))
      (((refine Aw trivial ?_ ?_)))
      ·intro h5
       (((refine Ab trivial ?_;(iterate 3 refine Av ?_);refine Ab trivial ?_)))
       exact⟨_,rfl,fun _ k=>by unfold Prp.rt0 at k;omega,by simp,hM⟩
      ·intro h5
       (((refine Ab trivial ?_;refine Ae ?_;refine Ab trivial ?_;refine Ae ?_;refine An hM ?_;refine Ae ?_)))
       (((refine Aw trivial ?_ ?_)))
       ·intro h6
        (((refine Ab trivial ?_)))
        exact⟨_,rfl,fun _ k=>by unfold Prp.rt0 at k;omega,by simp,hM⟩
       ·intro h6
        (((refine Ab trivial ?_)))
        exact⟨_,rfl,by simp,fun _=>by unfold Prp.rt0;omega,hM⟩
     ·rw[decide_eq_false h4]
      simp only[Bool.not_false]
      ((((iterate 3 refine Av ?_);refine Ab trivial ?_;(iterate 3 refine Av ?_);refine Ab trivial ?_)))
      exact⟨_,rfl,fun _ k=>by unfold Prp.rt0 at k;omega,by simp,hM⟩
    ·rw[decide_eq_false h3]
     simp only[Bool.not_false]
     ((((iterate 4 refine Av ?_);refine Ab trivial ?_;(iterate 3 refine Av ?_);refine Ab trivial ?_;(iterate 3 refine Av ?_);refine Ab trivial ?_)))
     exact⟨_,rfl,fun _ k=>by unfold Prp.rt0 at k;omega,by simp,hM⟩
 ·rintro x u w5 ⟨b,rfl,hb1,hb2,hM⟩
  cases b with
  | true=>
    (((refine Am ?_)))
    exact⟨by rw[aAs p (hb1 rfl)],hM.st⟩
  | false=>
    have h0:=hb2 rfl
    (((refine Aj ?_;refine Ab trivial ?_;refine An hM ?_)))
    (((refine Aw trivial ?_ ?_)))
    ·intro h2
     rw[aDf p h0 h2]
     (((refine Am ?_;refine Ab trivial ?_;refine An hM ?_;refine Ab trivial ?_;refine An hM ?_)))
     try first|refine Ab trivial ?_|refine Ap trivial ?_
     skip
     exact⟨rfl,hM.st⟩
    ·intro h2
     (((refine Aj ?_)))
     refine⟨fun x w'=>x=.bool (decide (p.kind=1∨p.kind=3))∧hM.now w',?_,?_⟩
     ·skip
      (((refine Aw trivial ?_ ?_)))
      ·intro h3
       (((refine Am ?_)))
       exact⟨by simp[h3];try rfl,hM⟩
      ·intro h3
       (((refine Aj ?_)))
       exact⟨by simp[h3];try rfl,hM⟩
     ·rintro x u w6 ⟨rfl,hM⟩
      by_cases h3:p.kind=1∨p.kind=3
      ·rw[decide_eq_true h3,Vy p h0 h2 h3]
       (((refine Am ?_;refine Ab trivial ?_;refine An hM ?_;refine Ab trivial ?_)))
       try first|refine Ab trivial ?_|refine Ap trivial ?_
       skip
       exact⟨rfl,hM.st⟩
      ·rw[decide_eq_false h3,aDg p h2 h3]
       (((refine Aj ?_)))
       exact⟨rfl,hM.st⟩
instance (p:Prp):PurC prog 31 [prv p] True (.bool (decide p.right)):=⟨fun _ w=>Ei p w⟩
set_option maxRecDepth 8000 in
theorem Qb (p:Prp) (w:World):Calls prog 33 #[prv p] w fun en w'=>en=.returned (.bool (decide p.right))∧St w [] w':=by
 have hM:=Mem.start (Fz.of w)
 refine Sy ?_
 unfold Ke
 (((refine Bh hM ?_;clear hM;intro _ _ hM;refine Ab trivial ?_;refine An hM ?_;refine Bf hM ?_;clear hM;intro _ _ hM;refine Az hM ?_;clear hM;intro _ hM)))
 refine⟨fun x w'=>∃ b:Bool,x=.bool b∧(b=true→¬p.rt0)∧(b=false→0≤p.depth∧p.depth≤4611686018427387903∧1≤p.seq∧p.seq≤4611686018427387903)∧hM.now w',?_,?_⟩
 ·(((refine Ab trivial ?_;refine An hM ?_)))
  (((refine Aw trivial ?_ ?_)))
  ·intro h1
   ((((iterate 3 refine Av ?_);refine Ab trivial ?_;(iterate 3 refine Av ?_);refine Ab trivial ?_;(iterate 3 refine Av ?_);refine Ab trivial ?_)))
   exact⟨_,rfl,fun _ k=>by unfold Prp.rt0 at k;omega,by simp,hM⟩
  ·intro h1
   (((refine Ae ?_;refine Ab trivial ?_;refine Ae ?_;refine An hM ?_;refine Ae ?_)))
   (((refine Aw trivial ?_ ?_)))
   ·intro h2
    (((refine Ab trivial ?_;(iterate 3 refine Av ?_);refine Ab trivial ?_;(iterate 3 refine Av ?_);refine Ab trivial ?_)))
    exact⟨_,rfl,fun _ k=>by unfold Prp.rt0 at k;omega,by simp,hM⟩
   ·intro h2
    (((refine Ab trivial ?_;refine Ae ?_;refine Ab trivial ?_;refine Ae ?_;refine An hM ?_;refine Ae ?_)))
    (((refine Aw trivial ?_ ?_)))
    ·intro h5
     (((refine Ab trivial ?_;(iterate 3 refine Av ?_);refine Ab trivial ?_)))
     exact⟨_,rfl,fun _ k=>by unfold Prp.rt0 at k;omega,by simp,hM⟩
    ·intro h5
     (((refine Ab trivial ?_;refine Ae ?_;refine Ab trivial ?_;refine Ae ?_;refine An hM ?_;refine Ae ?_)))
     (((refine Aw trivial ?_ ?_)))
     ·intro h6
      (((refine Ab trivial ?_)))
      exact⟨_,rfl,fun _ k=>by unfold Prp.rt0 at k;omega,by simp,hM⟩
     ·intro h6
      (((refine Ab trivial ?_)))
      exact⟨_,rfl,by simp,fun _=>by omega,hM⟩
 rintro x u w5 ⟨b,rfl,hb1,hb2,hM⟩
 cases b with
 | true=>
   (((refine Am ?_)))
   exact⟨by rw[aAs p (hb1 rfl)],hM.st⟩
 | false=>
   have h0:=hb2 rfl
   (((refine Aj ?_)))
   refine⟨fun x w'=>∃ b:Bool,x=.bool b∧(b=true→¬p.rt0)∧(b=false→p.rt0)∧hM.now w',?_,?_⟩
   ·(((refine Ab trivial ?_;refine An hM ?_)))
    (((refine Aw trivial ?_ ?_)))
    ·intro h1
     ((((iterate 3 refine Av ?_);refine Ab trivial ?_;(iterate 3 refine Av ?_);refine Ab trivial ?_;(iterate 3 refine Av ?_);refine Ab trivial ?_)))
     exact⟨_,rfl,fun _ k=>by unfold Prp.rt0 at k;omega,by simp,hM⟩
    ·intro h1
     (((refine Ae ?_;refine Ab trivial ?_;refine Ae ?_;refine An hM ?_;refine Ae ?_)))
     (((refine Aw trivial ?_ ?_)))
     ·intro h2
      (((refine Ab trivial ?_;(iterate 3 refine Av ?_);refine Ab trivial ?_;(iterate 3 refine Av ?_);refine Ab trivial ?_)))
      exact⟨_,rfl,fun _ k=>by unfold Prp.rt0 at k;omega,by simp,hM⟩
     ·intro h2
      (((refine Ab trivial ?_;refine Ae ?_;refine Ab trivial ?_;refine Ae ?_;refine An hM ?_;refine Ae ?_)))
      (((refine Aw trivial ?_ ?_)))
      ·intro h5
       (((refine Ab trivial ?_;(iterate 3 refine Av ?_);refine Ab trivial ?_)))
       exact⟨_,rfl,fun _ k=>by unfold Prp.rt0 at k;omega,by simp,hM⟩
      ·intro h5
       (((refine Ab trivial ?_;refine Ae ?_;refine Ab trivial ?_;refine Ae ?_;refine An hM ?_;refine Ae ?_)))
       (((refine Aw trivial ?_ ?_)))
       ·intro h6
        (((refine Ab trivial ?_)))
        exact⟨_,rfl,fun _ k=>by unfold Prp.rt0 at k;omega,by simp,hM⟩
       ·intro h6
        (((refine Ab trivial ?_)))
        exact⟨_,rfl,by simp,fun _=>by unfold Prp.rt0;omega,hM⟩
   rintro x u w6 ⟨b,rfl,hb1,hb2,hM⟩
   cases b with
   | true=>
     (((refine Am ?_)))
     exact⟨by rw[aAs p (hb1 rfl)],hM.st⟩
   | false=>
     have h0:=hb2 rfl
     (((refine Aj ?_;refine Ab trivial ?_;refine An hM ?_)))
     (((refine Aw trivial ?_ ?_)))
     ·intro h2
      rw[aDf p h0 h2]
      (((refine Am ?_;refine Ab trivial ?_;refine An hM ?_;refine Ab trivial ?_;refine An hM ?_)))
      try first|refine Ab trivial ?_|refine Ap trivial ?_
      skip
      exact⟨rfl,hM.st⟩
     ·intro h2
      (((refine Aj ?_;refine Ab trivial ?_;refine An hM ?_)))
      (((refine Aw trivial ?_ ?_)))
      ·intro h3
       rw[Vy p h0 h2 (.inl h3)]
       ((((iterate 3 refine Av ?_);refine Ab trivial ?_;refine Ae ?_;refine Ab trivial ?_;refine Ae ?_;refine An hM ?_;refine Ae ?_;refine Ab trivial ?_;refine Ae ?_)))
       try first|refine Ab trivial ?_|refine Ap trivial ?_
       (((refine Ab trivial ?_)))
       exact⟨rfl,hM.st⟩
      ·intro h3
       (((refine Ae ?_;refine Ab trivial ?_;refine Ae ?_;refine An hM ?_;refine Ae ?_)))
       (((refine Aw trivial ?_ ?_)))
       ·intro h4
        rw[Vy p h0 h2 (.inr h4)]
        (((refine Ab trivial ?_;refine Ae ?_;refine Ab trivial ?_;refine Ae ?_;refine An hM ?_;refine Ae ?_;refine Ab trivial ?_;refine Ae ?_)))
        try first|refine Ab trivial ?_|refine Ap trivial ?_
        (((refine Ab trivial ?_)))
        exact⟨rfl,hM.st⟩
       ·intro h4
        rw[aDg p h2 (by omega)]
        (((refine Ab trivial ?_;(iterate 4 refine Bv ?_);refine Ab trivial ?_)))
        exact⟨rfl,hM.st⟩
instance (p:Prp):PurC prog 33 [prv p] True (.bool (decide p.right)):=⟨fun _ w=>Qb p w⟩
end
end Go.Proofs.YtgbenhmdamnmcaaGreat.Chg
namespace Go.Proofs.YtgbenhmdamnmcaaGreat.Chg
open Go.Proofs.Tryz
open Go.RowKit
def shaH (l:List Int):H32:=⟨shaSum l,Dg l,He l⟩
def hmacH (k m:List Int):H32:=⟨hmac k m,Ij k m,Nm k m⟩
theorem Xl (a b:ByteArray):ints (a++b)=ints a++ints b:=by
 obtain⟨⟨a⟩⟩:=a
 obtain⟨⟨b⟩⟩:=b
 simp[ints]
abbrev sver:ByteArray:=ByteArray.mk #[118,101,114]
abbrev ssign:ByteArray:=ByteArray.mk #[115,105,103,110]
def verV (k:H32):H32:=shaH (ints sver++k.1)
def signV (v:H32) (t:List Int):H32:=hmacH v.1 (ints ssign++t)
theorem Iu (h:H32):ints (strOfNums h.1)=h.1:=Ce _ h.2.2
section
variable {H:Hp} {w0 w:World} {L R:List Res} {g:Nat}
theorem cat2 (a b:ByteArray):cat [a,b]=ints a++ints b:=by simp[cat]
theorem Gb {A:Option Addr} {e:Nat} (a b:ByteArray) (hs:a.size+b.size<1000000000000) (hM:Mem H w0 L w) [k:AtA L A 2 2 e 1 [[.one (.string a)],[.one (.string b)]] R]:
  Calls prog 34 #[.slice A 2 2] w fun en w'=>en=.returned (.agg (u8s (shaH (ints a++ints b)).1).toArray)∧St w [] w':=by
 have h:=Ph A [a,b] 2 w (hM.rd k) (by simp) (by rw[cat2,List.length_append,Bq,Bq];omega)
 rw[cat2]at h
 exact h
theorem aRw {A:Option Addr} {e:Nat} (key:H32) (a b:ByteArray) (hs:a.size+b.size<1000000000) (hM:Mem H w0 L w) [k:AtA L A 2 2 e 1 [[.one (.string a)],[.one (.string b)]] R]:
  Calls prog 169 #[.string (strOfNums key.1),.slice A 2 2] w fun en w'=>en=.returned (.agg (u8s (hmacH key.1 (ints a++ints b)).1).toArray)∧St w [] w':=by
 have h:=Ue (strOfNums key.1) A [a,b] 2 w (hM.rd k) (by rw[strOfNums_size,key.2.1];omega) (by simp) (by rw[cat2,List.length_append,Bq,Bq];omega)
 rw[cat2,Iu]at h
 exact h
theorem aKi (k:H32) (w:World):Calls prog 73 #[ha k] w fun en w'=>en=.returned (.agg (u8s (verV k).1).toArray)∧St w [] w':=by
 have hM:=Mem.start (Fz.of w)
 refine aBw ?_
 unfold Qp
 (((refine Bh hM ?_;clear hM;intro _ _ hM;refine Bf hM ?_;clear hM;intro _ _ hM;refine Ab trivial ?_;refine Jh hM ?_;refine Bx hM ?_ ?_ ?_));(focus rfl);(focus (constructor <;> simp));((clear hM;intro _ _ hM)))
 refine Bn hM (Gb sver (strOfNums k.1) (by rw[strOfNums_size,k.2.1];decide) hM) (fun w2 hM=>?_)
 rw[Iu]
 (((refine Az hM ?_;clear hM;intro _ hM;refine Bz hM ?_)))
 exact⟨rfl,hM.st⟩
instance (k:H32):PurC prog 73 [.agg (u8s k.1).toArray] True (.agg (u8s (verV k).1).toArray):=⟨fun _ w=>aKi k w⟩
theorem aRx (v:H32) (s:ByteArray) (hs:s.size≤1000000) (w:World):Calls prog 170 #[ha v,.string s] w fun en w'=>en=.returned (.agg (u8s (signV v (ints s)).1).toArray)∧St w [] w':=by
 have hM:=Mem.start (Fz.of w)
 refine aHc ?_
 unfold Xf
 (((refine Bh hM ?_;clear hM;intro _ _ hM;refine Bf hM ?_;clear hM;intro _ _ hM;refine Ab trivial ?_;refine Jh hM ?_;refine Bx hM ?_ ?_ ?_));(focus rfl);(focus (constructor <;> simp));((clear hM;intro _ _ hM)))
 refine Bn hM (aRw v ssign s (by have:ssign.size=4:=rfl;omega) hM) (fun w2 hM=>?_)
 (((refine Az hM ?_;clear hM;intro _ hM;refine Bz hM ?_)))
 exact⟨rfl,hM.st⟩
instance (v:H32) (s:ByteArray):PurC prog 170 [.agg (u8s v.1).toArray,.string s] (s.size≤1000000) (.agg (u8s (signV v (ints s)).1).toArray):=⟨fun h w=>aRx v s h w⟩
theorem aRy (k:H32) (s:ByteArray) (hs:s.size≤1000000) (w:World):Calls prog 96 #[ha k,.string s] w fun en w'=>en=.returned (.agg (u8s (signV (verV k) (ints s)).1).toArray)∧St w [] w':=by
 have hM:=Mem.start (Fz.of w)
 refine aGx ?_
 unfold Xa
 (((refine Bh hM ?_;clear hM;intro _ _ hM;refine Bf hM ?_;clear hM;intro _ _ hM;refine An hM ?_;refine Bl hM ?_ ?_));(focus (first|exact trivial|assumption|omega));((clear hM;intro _ hM;refine Bl hM ?_ ?_));(focus (first|exact trivial|assumption|omega));((clear hM;intro _ hM;refine Az hM ?_;clear hM;intro _ hM;refine Bz hM ?_)))
 exact⟨rfl,hM.st⟩
instance (v:H32) (s:ByteArray):PurC prog 96 [.agg (u8s v.1).toArray,.string s] (s.size≤1000000) (.agg (u8s (signV (verV v) (ints s)).1).toArray):=⟨fun h w=>aRy v s h w⟩
theorem aKj (k:H32) (w:World):Calls prog 69 #[ha k] w fun en w'=>en=.returned (.agg (u8s (verV k).1).toArray)∧St w [] w':=by
 have hM:=Mem.start (Fz.of w)
 refine Rr ?_
 unfold Jm
 (((refine Bh hM ?_;clear hM;intro _ _ hM;refine Bf hM ?_;clear hM;intro _ _ hM;refine An hM ?_;refine Bl hM ?_ ?_));(focus (first|exact trivial|assumption|omega));((clear hM;intro _ hM)))
 refine Ab (by rw[strOfNums_size,k.2.1];decide) ?_
 have h:=fun w=>Vw (sver++strOfNums k.1) w (by rw[ByteArray.size_append,strOfNums_size,k.2.1];decide)
 rw[Xl,Iu]at h
 refine Bn hM (h _) (fun w2 hM=>?_)
 have e:hv (shaSum (ints sver++k.1))=.agg (u8s (verV k).1).toArray:=rfl
 rw[e]
 (((refine Az hM ?_;clear hM;intro _ hM;refine Bz hM ?_)))
 exact⟨rfl,hM.st⟩
instance (k:H32):PurC prog 69 [.agg (u8s k.1).toArray] True (.agg (u8s (verV k).1).toArray):=⟨fun _ w=>aKj k w⟩
def textL (p:Prp):List Int:=p.epoch.1++numB p.depth++numB p.author++numB p.seq++numB p.kind++numB p.name++p.pub.1
def txt (p:Prp):ByteArray:=strOfNums (textL p)
theorem No (p:Prp):(textL p).length≤104:=by
 have h1:=Be p.depth
 have h2:=Be p.author
 have h3:=Be p.seq
 have h4:=Be p.kind
 have h5:=Be p.name
 have h6:=p.epoch.2.1
 have h7:=p.pub.2.1
 simp only[textL,List.length_append]
 omega
theorem aRz {p:Prp} (h:p.right):(0≤p.depth∧p.depth≤4611686018427387903)∧(0≤p.author∧p.author≤4611686018427387903)∧(0≤p.seq∧p.seq≤4611686018427387903)∧(0≤p.kind∧p.kind≤4611686018427387903)∧(0≤p.name∧p.name≤4611686018427387903):=by
 obtain⟨h1,h2,h3,h4,h5⟩:=h
 have hk:p.kind=2∨p.kind=1∨p.kind=3:=by
  by_cases hk:p.kind=2
  ·exact .inl hk
  ·rw[if_neg hk]at h5
   exact .inr h5.1
 refine⟨h1,?_,?_,?_,?_⟩ <;> omega
theorem aWc (p:Prp) (h:p.right) (w:World):Calls prog 172 #[prv p] w fun en w'=>en=.returned (.string (txt p))∧St w [] w':=by
 obtain⟨b1,b2,b3,b4,b5⟩:=aRz h
 have l1:=Be p.depth
 have l2:=Be p.author
 have l3:=Be p.seq
 have l4:=Be p.kind
 have l5:=Be p.name
 have l6:=p.epoch.2.1
 have hM:=Mem.start (Fz.of w)
 refine aCe ?_
 unfold Qz
 (((refine Bh hM ?_;clear hM;intro _ _ hM)))
 rename_i b _
 refine Bi (Hw hM) ?_
 rintro v w1 ⟨g,rfl,hM⟩
 (((refine Ab trivial ?_;refine An hM ?_)))
 refine Bi (Dd p.epoch (by simp) (hM.at_ (wrR g [] false))) ?_
 rintro v w2 ⟨rfl,hM⟩
 rw[List.nil_append]at hM
 (((refine Ab trivial ?_;refine An hM ?_;refine Ab trivial ?_;refine An hM ?_;refine Ab trivial ?_;refine An hM ?_;refine Ab trivial ?_;refine Ab trivial ?_;refine An hM ?_;refine Ab trivial ?_;refine Ab trivial ?_;refine An hM ?_;refine Ab trivial ?_)))
 refine⟨fun x w'=>∃ i:Nat,x=.int .i64 i∧i≤5∧(match i with
  | 0=>Mem (Hp.of w) w [wrR g p.epoch.1 false,fb b 75 p.fds] w'
  | 1=>Mem (Hp.of w) w [wrR g (p.epoch.1++numB p.depth) false,fb b 75 p.fds] w'
  | 2=>Mem (Hp.of w) w [wrR g (p.epoch.1++numB p.depth++numB p.author) false,fb b 75 p.fds] w'
  | 3=>Mem (Hp.of w) w [wrR g (p.epoch.1++numB p.depth++numB p.author++numB p.seq) false,fb b 75 p.fds] w'
  | 4=>Mem (Hp.of w) w [wrR g (p.epoch.1++numB p.depth++numB p.author++numB p.seq++numB p.kind) false,fb b 75 p.fds] w'
  | _=>Mem (Hp.of w) w [wrR g (p.epoch.1++numB p.depth++numB p.author++numB p.seq++numB p.kind++numB p.name) false,fb b 75 p.fds] w'),
  fun x _=>match x with | .int _ i=>5 - i.toNat|_=>0,⟨0,rfl,by omega,hM⟩,?_⟩
 clear hM
 rintro x u w3 ⟨i,rfl,hi,hM⟩
 (((refine Aw trivial ?_ ?_)))
 ·intro hlt
  obtain rfl|rfl|rfl|rfl|rfl:i=0∨i=1∨i=2∨i=3∨i=4:=by omega
  ·have hM:Mem (Hp.of w) w _ w3:=hM
   (((refine Am ?_)))
   refine Br (v:=.int .i64 p.depth) (fun w=>by kernel_rfl) ?_
   refine Bi (Da p.depth b1 (by first|omega|(simp only[List.length_append];omega)) hM) ?_
   rintro v w4 ⟨rfl,hM⟩
   (((refine Ab ?_ ?_));(focus omega))
   exact⟨⟨1,rfl,by omega,hM⟩,by first|decide|(dsimp only;omega)|(simp;done)⟩
  ·have hM:Mem (Hp.of w) w _ w3:=hM
   (((refine Am ?_)))
   refine Br (v:=.int .i64 p.author) (fun w=>by kernel_rfl) ?_
   refine Bi (Da p.author b2 (by first|omega|(simp only[List.length_append];omega)) hM) ?_
   rintro v w4 ⟨rfl,hM⟩
   (((refine Ab ?_ ?_));(focus omega))
   exact⟨⟨2,rfl,by omega,hM⟩,by first|decide|(dsimp only;omega)|(simp;done)⟩
  ·have hM:Mem (Hp.of w) w _ w3:=hM
   (((refine Am ?_)))
   refine Br (v:=.int .i64 p.seq) (fun w=>by kernel_rfl) ?_
   refine Bi (Da p.seq b3 (by first|omega|(simp only[List.length_append];omega)) hM) ?_
   rintro v w4 ⟨rfl,hM⟩
   (((refine Ab ?_ ?_));(focus omega))
   exact⟨⟨3,rfl,by omega,hM⟩,by first|decide|(dsimp only;omega)|(simp;done)⟩
  ·have hM:Mem (Hp.of w) w _ w3:=hM
   (((refine Am ?_)))
   refine Br (v:=.int .i64 p.kind) (fun w=>by kernel_rfl) ?_
   refine Bi (Da p.kind b4 (by first|omega|(simp only[List.length_append];omega)) hM) ?_
   rintro v w4 ⟨rfl,hM⟩
   (((refine Ab ?_ ?_));(focus omega))
   exact⟨⟨4,rfl,by omega,hM⟩,by first|decide|(dsimp only;omega)|(simp;done)⟩
  ·have hM:Mem (Hp.of w) w _ w3:=hM
   (((refine Am ?_)))
   refine Br (v:=.int .i64 p.name) (fun w=>by kernel_rfl) ?_
   refine Bi (Da p.name b5 (by first|omega|(simp only[List.length_append];omega)) hM) ?_
   rintro v w4 ⟨rfl,hM⟩
   (((refine Ab ?_ ?_));(focus omega))
   exact⟨⟨5,rfl,by omega,hM⟩,by first|decide|(dsimp only;omega)|(simp;done)⟩
 ·intro hge
  obtain rfl:i=5:=by omega
  have hM:Mem (Hp.of w) w [wrR g (p.epoch.1++numB p.depth++numB p.author++numB p.seq++numB p.kind++numB p.name) false,fb b 75 p.fds] w3:=hM
  (((refine Aj ?_;refine Ab trivial ?_;refine Ab trivial ?_;refine An hM ?_)))
  refine Bi (Dd p.pub (by first|omega|(simp only[List.length_append];omega)) hM) ?_
  rintro v w4 ⟨rfl,hM⟩
  refine Bn hM (Ia hM) (fun w5 hM=>?_)
  (((refine Ab trivial ?_;refine Ab trivial ?_)))
  exact⟨rfl,hM.st⟩
instance (p:Prp):PurC prog 172 [prv p] p.right (.string (txt p)):=⟨fun h w=>aWc p h w⟩
abbrev Prp.signed (p:Prp) (v:H32):Prp:={ p with sign:=signV v (ints (txt p)) }
def packB (p:Prp):ByteArray:=strOfNums (textL p++p.sign.1)
abbrev es0:ByteArray:=ByteArray.mk #[]
end
end Go.Proofs.YtgbenhmdamnmcaaGreat.Chg
namespace Go.Proofs.YtgbenhmdamnmcaaGreat.Chg
open Go.Proofs.Tryz
open Go.RowKit
abbrev p0:Prp:=⟨hzero,0,0,0,0,0,hzero,hzero⟩
end Go.Proofs.YtgbenhmdamnmcaaGreat.Chg
namespace Go.Proofs.YtgbenhmdamnmcaaGreat.Chg
open Go.Proofs.Tryz
open Go.RowKit
def q1 (s:RdS):=hsS s
def q2 (s:RdS):=nmS 4611686018427387903 (q1 s).2
def q3 (s:RdS):=nmS 64 (q2 s).2
def q4 (s:RdS):=nmS 4611686018427387903 (q3 s).2
def q5 (s:RdS):=nmS 3 (q4 s).2
def q6 (s:RdS):=nmS 64 (q5 s).2
def q7 (s:RdS):=hsS (q6 s).2
def q8 (s:RdS):=hsS (q7 s).2
def prpR (s:RdS):Prp:=⟨(q1 s).1,(q2 s).1,(q3 s).1,(q4 s).1,(q5 s).1,(q6 s).1,(q7 s).1,(q8 s).1⟩
def prpE (s:RdS):Int:=endS (q8 s).2
def prpU (s:RdS):Prp × Int:=if prpE s≠0 then (p0,prpE s) else if ¬(prpR s).right then (p0,3) else (prpR s,0)
section
variable {H:Hp} {w0 w:World} {L R:List Res} {g:Nat} {s:RdS}
theorem aOo (hM:Mem H w0 (rrO g s::L) w):Calls prog 119 #[.pointer (some ⟨g,0,none⟩)] w fun en w'=>en=.returned (.tuple #[prv (prpR s),.bool (decide (prpR s).right)])∧Mem H w0 (rrO g (q8 s).2::L) w':=by
 refine Vk ?_
 unfold Me
 (((refine Bf hM ?_;clear hM;intro _ _ hM;refine Ab trivial ?_;refine Bf hM ?_;clear hM;intro _ _ hM;refine Az hM ?_;clear hM;intro _ hM;refine Bu hM ?_ ?_));(focus (first|exact trivial|assumption|omega));((clear hM;intro _ hM;refine Ab trivial ?_;refine Az hM ?_;clear hM;intro _ hM;refine Bu hM ?_ ?_));(focus (first|exact trivial|assumption|omega));((clear hM;intro _ hM;refine Ab trivial ?_;refine Az hM ?_;clear hM;intro _ hM;refine Bu hM ?_ ?_));(focus (first|exact trivial|assumption|omega));((clear hM;intro _ hM;refine Ab trivial ?_;refine Az hM ?_;clear hM;intro _ hM;refine Bu hM ?_ ?_));(focus (first|exact trivial|assumption|omega));((clear hM;intro _ hM;refine Ab trivial ?_;refine Az hM ?_;clear hM;intro _ hM;refine Bu hM ?_ ?_));(focus (first|exact trivial|assumption|omega));((clear hM;intro _ hM;refine Ab trivial ?_;refine Ab trivial ?_;refine Az hM ?_;clear hM;intro _ hM;refine Bu hM ?_ ?_));(focus (first|exact trivial|assumption|omega));((clear hM;intro _ hM;refine Ab trivial ?_;refine Ab trivial ?_;refine Az hM ?_;clear hM;intro _ hM;refine Bu hM ?_ ?_));(focus (first|exact trivial|assumption|omega));((clear hM;intro _ hM;refine Ab trivial ?_;refine Ab trivial ?_;refine Az hM ?_;clear hM;intro _ hM;refine Bu hM ?_ ?_));(focus (first|exact trivial|assumption|omega));((clear hM;intro _ hM;refine Ab trivial ?_;refine Az hM ?_;clear hM;intro _ hM;refine Ba hM ?_;refine Ba hM ?_)))
 refine Cg hM (fun w _=>Qb (prpR s) w) (fun w2 _ hM=>?_)
 (((refine Ca hM ?_;clear hM;intro _ hM;refine Bc hM ?_;clear hM;intro _ hM;refine Bz hM ?_)))
 have hM:Mem H w0 (_::_::rrO g (q8 s).2::L) _:=hM
 exact⟨rfl,hM.sub⟩
instance (g:Nat) (s:RdS):OwnC prog 119 [.pointer (some ⟨g,0,none⟩)] (rrO g s) True (rrO g (q8 s).2) (.tuple #[prv (prpR s),.bool (decide (prpR s).right)]):=⟨fun _ _ _ _ _ hM=>aOo hM⟩
theorem aKk (he:s.e=0) (w:World):Calls prog 60 #[.string (strOfNums s.l)] w fun en w'=>en=.returned (.tuple #[prv (prpU s).1,.int .i64 (prpU s).2])∧St w [] w':=by
 have hM:=Mem.start (Fz.of w)
 refine Rq ?_
 unfold Jl
 (((refine Bf hM ?_;clear hM;intro _ _ hM;refine Ab trivial ?_;refine Bh hM ?_;clear hM;intro _ _ hM)))
 rename_i g2 _ g3 w3
 have hM:Mem (Hp.of w) w [rrO g3 s,fb g2 75 p0.fds] w3:=by unfold rrO rdC;rw[he];exact hM
 (((refine Bu hM ?_ ?_));(focus (first|exact trivial|assumption|omega));((clear hM;intro _ hM;refine Ab trivial ?_;refine Ab trivial ?_;refine Bf hM ?_;clear hM;intro _ _ hM;refine Az hM ?_;clear hM;intro _ hM;refine Bu hM ?_ ?_));(focus (first|exact trivial|assumption|omega));((clear hM;intro _ hM)))
 unfold prpU
 by_cases h1:prpE s=0
 ·have h1':endS (q8 s).2=0:=h1
  rw[if_neg (by simp[h1])]
  (((refine Bm trivial ?_ ?_));(focus (first|assumption|omega|with_reducible rfl|exact fun h=>Bool.noConfusion h));((refine Aj ?_;refine Ab trivial ?_)))
  by_cases h2:(prpR s).right
  ·rw[decide_eq_true h2,if_neg (by simp[h2])]
   (((refine Sb ?_;refine An hM ?_;refine Az hM ?_;clear hM;intro _ hM;refine Bz hM ?_)))
   exact⟨rfl,hM.st⟩
  ·rw[decide_eq_false h2,if_pos h2]
   (((refine Sc ?_;refine Ab trivial ?_;refine Az hM ?_;clear hM;intro _ hM;refine Bz hM ?_)))
   exact⟨rfl,hM.st⟩
 ·have h1':endS (q8 s).2≠0:=h1
  rw[if_pos h1]
  (((refine Bt trivial ?_ ?_));(focus (first|assumption|omega|with_reducible rfl|exact fun h=>Bool.noConfusion h));((refine Am ?_;refine Ab trivial ?_;refine Bu hM ?_ ?_));(focus (first|exact trivial|assumption|omega));((clear hM;intro _ hM;refine Az hM ?_;clear hM;intro _ hM;refine Bz hM ?_)))
  exact⟨rfl,hM.st⟩
theorem aHq {a b:Nat} {RR:Ending→World→Prop} (p:Prp) (e e2:Int) (hM:Mem H w0 (fb a 75 p.fds::fb b 34 [.one (.int .i64 e)]::L) w) (hR:∀ w',Mem H w0 L w'→RR (.returned (.tuple #[prv p0,.int .i64 e2])) w'):
  CallsD prog 117 #[.pointer (some ⟨a,0,none⟩),.pointer (some ⟨b,0,none⟩)] (.panicking [{ v:=.iface 193 (.agg (fl [Fd.one (.int .i64 e2)]).toArray),recovered:=false }]) w (dres prog [(75,.pointer (some ⟨a,0,none⟩)),(34,.pointer (some ⟨b,0,none⟩))] RR):=by
 refine Kp ?_
 unfold Ez
 refine Br (v:=.bool true) (fun w=>by kernel_rfl) ?_
 (((refine Am ?_)))
 refine Br (v:=.tuple #[.agg (fl [Fd.one (.int .i64 e2)]).toArray,.bool true]) (fun w=>by kernel_rfl) ?_
 (((refine Ab trivial ?_;refine Ab trivial ?_;refine Bf hM ?_;clear hM;intro _ _ hM;refine Az hM ?_;clear hM;intro _ hM)))
 rename_i g _ _
 refine⟨fun w'=>hM.now w',?_,?_⟩
 ·(((refine Ab trivial ?_;refine Aj ?_)))
  exact hM
 rintro u w2 hM
 have hne:¬g=a:=(hM.upB g).neB
 refine⟨Rl.only fun b=>b=a,?_⟩
 (((refine Ap trivial ?_;refine Ap trivial ?_)))
 refine Zi hM hne ?_
 refine aAp hM (fun w5 hM=>?_)
 (((refine Ca hM ?_;clear hM;intro _ hM;refine Bc hM ?_;clear hM;intro _ hM)))
 show retc _ _ _ _
 refine Bz (hM.at_ (fb a 75 p0.fds)) ?_
 refine Bz (hM.at_ (fb b 34 [.one (.int .i64 e2)])) ?_
 exact hR _ hM.sub
theorem aSa {a b:Nat} {RR:Ending→World→Prop} (p:Prp) (e:Int) (hM:Mem H w0 (fb a 75 p.fds::fb b 34 [.one (.int .i64 e)]::L) w) (hR:∀ w',Mem H w0 L w'→RR (.returned (.tuple #[prv p,.int .i64 e])) w'):
  CallsD prog 117 #[.pointer (some ⟨a,0,none⟩),.pointer (some ⟨b,0,none⟩)] .returning w (dres prog [(75,.pointer (some ⟨a,0,none⟩)),(34,.pointer (some ⟨b,0,none⟩))] RR):=by
 refine Kp ?_
 unfold Ez
 refine Br (v:=.bool false) (fun w=>by kernel_rfl) ?_
 (((refine Aj ?_)))
 show retc _ _ _ _
 refine Bz hM ?_
 refine Bz (hM.at_ (fb b 34 [.one (.int .i64 e)])) ?_
 exact hR _ hM.sub
theorem aOp (he:s.e=0) (w:World):Calls prog 51 #[.string (strOfNums s.l)] w fun en w'=>en=.returned (.tuple #[prv (prpU s).1,.int .i64 (prpU s).2])∧St w [] w':=by
 have hM:=Mem.start (Fz.of w)
 refine Xy ?_
 unfold Nw
 (((refine Bf hM ?_;clear hM;intro _ _ hM;refine Bf hM ?_;clear hM;intro _ _ hM)))
 rename_i g1 _ g2 _
 refine Bi (aMg s he hM) ?_
 rintro v w2 ⟨g,rfl,hM⟩
 (((refine Bu hM ?_ ?_));(focus (first|exact trivial|assumption|omega));((clear hM;intro _ hM;refine Ab trivial ?_;refine Az hM ?_;clear hM;intro _ hM;refine Bu hM ?_ ?_));(focus (first|exact trivial|assumption|omega));((clear hM;intro _ hM;refine Ab trivial ?_;refine Az hM ?_;clear hM;intro _ hM;refine Bu hM ?_ ?_));(focus (first|exact trivial|assumption|omega));((clear hM;intro _ hM;refine Ab trivial ?_;refine Az hM ?_;clear hM;intro _ hM;refine Bu hM ?_ ?_));(focus (first|exact trivial|assumption|omega));((clear hM;intro _ hM;refine Ab trivial ?_;refine Az hM ?_;clear hM;intro _ hM;refine Bu hM ?_ ?_));(focus (first|exact trivial|assumption|omega));((clear hM;intro _ hM;refine Bu hM ?_ ?_));(focus (first|exact trivial|assumption|omega));((clear hM;intro _ hM;refine Bu hM ?_ ?_));(focus (first|exact trivial|assumption|omega));((clear hM;intro _ hM;refine Ab trivial ?_;refine Ab trivial ?_;refine Az hM ?_;clear hM;intro _ hM;refine Bu hM ?_ ?_));(focus (first|exact trivial|assumption|omega));((clear hM;intro _ hM;refine Ab trivial ?_;refine Az hM ?_;clear hM;intro _ hM)))
 have hM:Mem (Hp.of w) w [rdO g (q8 s).2,fb g2 34 [.one (.int .i64 0)],fb g1 75 (prpR s).fds] _:=hM
 unfold prpU
 refine⟨fun w'=>prpE s=0∧hM.now w',?_,?_⟩
 ·(((refine Bu hM ?_ (fun _ hM2=>?_)));(focus (first|exact trivial|assumption|omega));((replace hM:=hM2;clear hM2)))
  by_cases h1:prpE s=0
  ·have h1':endS (q8 s).2=0:=h1
   (((refine Bm trivial ?_ ?_));(focus (first|assumption|omega|with_reducible rfl|exact fun h=>Bool.noConfusion h));((refine Aj ?_)))
   exact⟨h1,hM⟩
  ·have h1':endS (q8 s).2≠0:=h1
   rw[if_pos h1]
   (((refine Bt trivial ?_ ?_));(focus (first|assumption|omega|with_reducible rfl|exact fun h=>Bool.noConfusion h));((refine Am ?_;refine Ab trivial ?_)))
   refine Br (v:=.iface 193 (.agg (fl [Fd.one (.int .i64 (prpE s))]).toArray)) (fun w=>by kernel_rfl) ?_
   skip
   refine Ms ?_
   exact aHq (prpR s) 0 (prpE s) (hM.sub (L':=[fb g1 75 (prpR s).fds,fb g2 34 [.one (.int .i64 0)]])) fun w' h=>⟨rfl,h.st⟩
 rintro u w3 ⟨h1,hM⟩
 rw[if_neg (by simp[h1])]
 refine⟨fun w'=>(prpR s).right∧hM.now w',?_,?_⟩
 ·(((refine An hM ?_;refine Bl hM ?_ (fun _ hM2=>?_)));(focus (first|exact trivial|assumption|omega));((replace hM:=hM2;clear hM2;refine Ab trivial ?_)))
  by_cases h2:(prpR s).right
  ·rw[decide_eq_true h2]
   (((refine Sb ?_)))
   exact⟨h2,hM⟩
  ·rw[decide_eq_false h2,if_pos h2]
   (((refine Sc ?_;refine Ab trivial ?_)))
   refine Br (v:=.iface 193 (.agg (fl [Fd.one (.int .i64 3)]).toArray)) (fun w=>by kernel_rfl) ?_
   refine Ms ?_
   exact aHq (prpR s) 0 3 (hM.sub (L':=[fb g1 75 (prpR s).fds,fb g2 34 [.one (.int .i64 0)]])) fun w' h=>⟨rfl,h.st⟩
 rintro u w4 ⟨h2,hM⟩
 rw[if_neg (by simp[h2])]
 (((refine An hM ?_;refine Az hM ?_;clear hM;intro _ hM;refine Az hM ?_;clear hM;intro _ hM)))
 exact aSa (prpR s) 0 (hM.sub (L':=[fb g1 75 (prpR s).fds,fb g2 34 [.one (.int .i64 0)]])) fun w' h=>⟨rfl,h.st⟩
theorem aSb (p:Prp) (w:World):Calls prog 107 #[prv p] w fun en w'=>en=.returned (.string (if p.right then packB p else es0))∧St w [] w':=by
 have hM:=Mem.start (Fz.of w)
 have hl:=No p
 have l7:=p.sign.2.1
 refine aBx ?_
 unfold Qq
 (((refine Bh hM ?_;clear hM;intro _ _ hM;refine An hM ?_;refine Bl hM ?_ ?_));(focus (first|exact trivial|assumption|omega));((clear hM;intro _ hM;refine Ab trivial ?_)))
 by_cases h:p.right
 ·rw[decide_eq_true h,if_pos h]
  simp only[Bool.not_true]
  (((refine Aj ?_;refine Ba hM ?_;refine Bs hM ?_ (fun _ _ hM=>?_)));(focus (first|exact trivial|assumption|omega));((refine Ap trivial ?_;refine Ap trivial ?_)))
  refine Cw (by assumption) ?_
  unfold txt
  first|refine aMd (textL p) p.sign.1 (by omega) ?_|refine aKe (textL p) p.sign.1 (by omega) ?_
  (((refine Bc hM ?_;clear hM;intro _ hM)))
  exact⟨rfl,hM.st⟩
 ·rw[decide_eq_false h,if_neg h]
  simp only[Bool.not_false]
  (((refine Am ?_)))
  first|exact⟨rfl,hM.st⟩|exact⟨trivial,hM.st⟩
instance (p:Prp):PurC prog 107 [prv p] True (.string (if p.right then packB p else es0)):=⟨fun _ w=>aSb p w⟩
theorem aSc {s:RdS} (h:prpE s=0):s.e=0∧s.l=textL (prpR s)++(prpR s).sign.1:=by
 obtain⟨h8,l9⟩:=aMe h
 obtain⟨h7,l8⟩:=Nn (s:=(q7 s).2) h8
 obtain⟨h6,l7⟩:=Nn (s:=(q6 s).2) h7
 obtain⟨h5,l6⟩:=Jv (s:=(q5 s).2) h6
 obtain⟨h4,l5⟩:=Jv (s:=(q4 s).2) h5
 obtain⟨h3,l4⟩:=Jv (s:=(q3 s).2) h4
 obtain⟨h2,l3⟩:=Jv (s:=(q2 s).2) h3
 obtain⟨h1,l2⟩:=Jv (s:=(q1 s).2) h2
 obtain⟨h0,l1⟩:=Nn (s:=s) h1
 refine⟨h0,?_⟩
 have l1:s.l=(prpR s).epoch.1++(q1 s).2.l:=l1
 have l2:(q1 s).2.l=numB (prpR s).depth++(q2 s).2.l:=l2
 have l3:(q2 s).2.l=numB (prpR s).author++(q3 s).2.l:=l3
 have l4:(q3 s).2.l=numB (prpR s).seq++(q4 s).2.l:=l4
 have l5:(q4 s).2.l=numB (prpR s).kind++(q5 s).2.l:=l5
 have l6:(q5 s).2.l=numB (prpR s).name++(q6 s).2.l:=l6
 have l7:(q6 s).2.l=(prpR s).pub.1++(q7 s).2.l:=l7
 have l8:(q7 s).2.l=(prpR s).sign.1++(q8 s).2.l:=l8
 rw[l1,l2,l3,l4,l5,l6,l7,l8,l9]
 simp[textL]
theorem aKl (s:RdS) (h:(prpU s).2=0):(prpU s).1.right∧packB (prpU s).1=strOfNums s.l:=by
 unfold prpU at h ⊢
 by_cases h1:prpE s=0
 ·rw[if_neg (by simp[h1])]at h ⊢
  by_cases h2:(prpR s).right
  ·rw[if_neg (by simp[h2])]at h ⊢
   exact⟨h2,by unfold packB;rw[(aSc h1).2]⟩
  ·rw[if_pos h2]at h
   cases h
 ·rw[if_pos h1]at h
  exact absurd h h1
theorem _root_.Go.Proofs.YtgbenhmdamnmcaaGreat.Byt.app {a b:List Int} (h:Byt a) (k:Byt b):Byt (a++b):=fun x hx=>(List.mem_append.1 hx).elim (h x) (k x)
end
end Go.Proofs.YtgbenhmdamnmcaaGreat.Chg
namespace Go.Proofs.YtgbenhmdamnmcaaGreat
open Go.Proofs.Tryz
open Go.RowKit
def lev:Nat→Int→Int
 | 0,_=>0
 | f+1,x=>if x%2=1 then lev f (x / 2)+1 else 0
def level (x:Int):Int:=lev 8 x
def thr (n x:Int):Prop:=(1≤n∧n≤64)∧0≤x∧x≤2*n - 2
instance (n x:Int):Decidable (thr n x):=by unfold thr;infer_instance
def pw (k:Int):Int:=2 ^ k.toNat
def rtN (n:Int):Int:=if n≤1 then 1 else if n≤2 then 2 else if n≤4 then 4 else if n≤8 then 8 else if n≤16 then 16 else if n≤32 then 32 else 64
def root (n:Int):Int:=if thr n 0 then rtN n - 1 else -1
def pLeft (n x:Int):Int:=if thr n x∧level x≠0 then x - pw (level x - 1) else -1
def rg:Nat→Int→Int→Int
 | 0,_,x=>x
 | f+1,n,x=>if thr n x then x else rg f n (x - pw (level x - 1))
def okr:Nat→Int→Int→Bool
 | 0,_,_=>false
 | f+1,n,x=>decide (0≤x∧x<128)&&(decide (thr n x)||(decide (1≤level x)&&okr f n (x - pw (level x - 1))))
def pRight (n x:Int):Int:=if thr n x∧level x≠0 then rg 8 n (x+pw (level x - 1)) else -1
def up1 (x:Int):Int:=x - x / pw (level x+1)%2*pw (level x+1)+pw (level x)
def ug:Nat→Int→Int→Int
 | 0,_,x=>x
 | f+1,n,x=>if thr n (up1 x) then up1 x else ug f n (up1 x)
def oku:Nat→Int→Int→Bool
 | 0,_,_=>false
 | f+1,n,x=>decide (0≤x∧x<128)&&(decide (thr n (up1 x))||oku f n (up1 x))
def pAbove (n x:Int):Int:=if thr n x∧x≠root n then ug 8 n x else -1
def pBeside (n x:Int):Int:=if pAbove n x<0 then -1 else if x<pAbove n x then pRight n (pAbove n x) else pLeft n (pAbove n x)
def pFrom (n x:Int):Int:=if thr n x then (x+1 - pw (level x)) / 2 else 0
def pTo (n x:Int):Int:=if thr n x then min ((x+1+pw (level x)) / 2) n else 0
def halfI (n:Int):Int:=if n≤2 then 1 else if n≤4 then 2 else if n≤8 then 4 else if n≤16 then 8 else if n≤32 then 16 else 32
def rootI (a n:Int):Int:=if n=1 then 2*a else 2*(a+halfI n) - 1
def fnd:Nat→Int→Int→Int→Int→Int→Int × Int × Int × Int
 | 0,a,n,_,p,b=>(a,n,p,b)
 | f+1,a,n,x,p,b=>if rootI a n=x then (a,n,p,b) else if x<rootI a n then fnd f a (halfI n) x (rootI a n) (rootI (a+halfI n) (n - halfI n)) else fnd f (a+halfI n) (n - halfI n) x (rootI a n) (rootI a (halfI n))
def fd (n x:Int):Int × Int × Int × Int:=fnd 7 0 n x (-1) (-1)
def rRoot (n:Int):Int:=if thr n 0 then rootI 0 n else -1
def lf (n x:Int):Int:=if thr n x then (if (fd n x).2.1=1 then -1 else rootI (fd n x).1 (halfI (fd n x).2.1)) else -1
def rt (n x:Int):Int:=if thr n x then (if (fd n x).2.1=1 then -1 else rootI ((fd n x).1+halfI (fd n x).2.1) ((fd n x).2.1 - halfI (fd n x).2.1)) else -1
def ab (n x:Int):Int:=if thr n x then (fd n x).2.2.1 else -1
def bs (n x:Int):Int:=if thr n x then (fd n x).2.2.2 else -1
def fro (n x:Int):Int:=if thr n x then (fd n x).1 else 0
def til (n x:Int):Int:=if thr n x then (fd n x).1+(fd n x).2.1 else 0
def hld (n x p:Int):Prop:=fro n x≤p∧p<til n x
instance (n x p:Int):Decidable (hld n x p):=by unfold hld;infer_instance
def dirF:Nat→Int→Int→List Int
 | 0,_,_=>[]
 | f+1,n,x=>if ab n x<0 then [] else ab n x::dirF f n (ab n x)
def dirL (n l:Int):List Int:=if 0≤l∧l<n then dirF 8 n (2*l) else []
set_option maxRecDepth 100000 in
theorem aOq:∀ n:Fin 65,∀ x:Fin 127,thr (n.val:Int) (x.val:Int) →
  pLeft n.val x.val=lf n.val x.val∧pRight n.val x.val=rt n.val x.val∧pAbove n.val x.val=ab n.val x.val∧pBeside n.val x.val=bs n.val x.val∧pFrom n.val x.val=fro n.val x.val∧pTo n.val x.val=til n.val x.val ∧
  (level x.val≠0→okr 8 n.val (x.val+pw (level x.val - 1))=true)∧((x.val:Int)≠root n.val→oku 8 n.val x.val=true)∧root n.val=rRoot n.val:=by decide +kernel
end Go.Proofs.YtgbenhmdamnmcaaGreat
namespace Go.Proofs.YtgbenhmdamnmcaaGreat
open Go.Proofs.Tryz
open Go.RowKit Go.Lib
set_option maxRecDepth 100000 in
theorem aZj:∀ y:Fin 128,bits .and .i64 y.val 1=y.val%2∧bits .or .i64 (bits .andNot .i64 y.val (pw (level y.val+1))) (pw (level y.val))=up1 y.val∧level (up1 y.val)=level y.val+1∧pw (level y.val)≤y.val+1∧level y.val≤7:=by decide +kernel
set_option maxRecDepth 100000 in
theorem aZk:∀ n:Fin 65,∀ x:Fin 127,thr (n.val:Int) (x.val:Int)→0≤(fd n.val x.val).1∧1≤(fd n.val x.val).2.1∧(fd n.val x.val).1+(fd n.val x.val).2.1≤64:=by decide +kernel
theorem aHr {x:Int} (h:0≤x∧x<128):bits .and .i64 x 1=x%2∧bits .or .i64 (bits .andNot .i64 x (pw (level x+1))) (pw (level x))=up1 x∧level (up1 x)=level x+1∧pw (level x)≤x+1∧level x≤7:=by
 have:=aZj ⟨x.toNat,by omega⟩
 simpa only [Int.toNat_of_nonneg h.1] using this
theorem aYl {n x:Int} (h:thr n x):0≤(fd n x).1∧1≤(fd n x).2.1∧(fd n x).1+(fd n x).2.1≤64:=by
 obtain⟨h1,h2,h3⟩:=id h
 have:=aZk ⟨n.toNat,by omega⟩ ⟨x.toNat,by omega⟩
 simp only[Int.toNat_of_nonneg h2,Int.toNat_of_nonneg (show 0≤n by omega)]at this
 exact this h
theorem Ik {n x:Int} (h:thr n x):pLeft n x=lf n x∧pRight n x=rt n x∧pAbove n x=ab n x∧pBeside n x=bs n x∧pFrom n x=fro n x∧pTo n x=til n x ∧
  (level x≠0→okr 8 n (x+pw (level x - 1))=true)∧(x≠root n→oku 8 n x=true)∧root n=rRoot n:=by
 obtain⟨h1,h2,h3⟩:=id h
 have:=aOq ⟨n.toNat,by omega⟩ ⟨x.toNat,by omega⟩
 simp only[Int.toNat_of_nonneg h2,Int.toNat_of_nonneg (show 0≤n by omega)]at this
 exact this h
theorem Yh:∀ (f:Nat) (x:Int),0≤lev f x∧lev f x≤f
 | 0,x=>by simp[lev]
 | f+1,x=>by
   have:=Yh f (x / 2)
   unfold lev
   split <;> omega
theorem Ja (x:Int):0≤level x∧level x≤8:=Yh 8 x
theorem aFf {k:Int} (h:k≤9):1≤pw k∧pw k≤512:=by
 have h2:(2:Nat) ^ k.toNat≤2 ^ 9:=Nat.pow_le_pow_right (by decide) (by omega)
 have h3:0<(2:Nat) ^ k.toNat:=Nat.pow_pos (by decide)
 have h4:pw k=((2 ^ k.toNat:Nat):Int):=by unfold pw;push_cast;rfl
 rw[h4]
 omega
instance {P:Program} {t:TypeId} {q:Bool} {k':IntKind} (b:Int):StepC P (Af .shl t q (.int .i64 1) (.int k' b)) (0≤b∧b<62) (.int .i64 (pw b)):=⟨fun h=>by
 have:=Lk (P:=P) t q .i64 k' 1 b h.1 (by show b<64;omega)
 have h2:(2:Nat) ^ b.toNat≤2 ^ 62:=Nat.pow_le_pow_right (by decide) (by omega)
 have h4:(2:Int) ^ b.toNat=((2 ^ b.toNat:Nat):Int):=by push_cast;rfl
 have h5:-9223372036854775808≤(2:Int) ^ b.toNat∧(2:Int) ^ b.toNat<9223372036854775808:=by
  generalize (2:Nat) ^ b.toNat=m at h2 h4
  rw[h4]
  omega
 rw[Int.one_mul,Nc h5]at this
 exact this⟩
theorem aSd {P:Program} (t:TypeId) (c:Bool) (k:IntKind) (a b:Int):Pur P (Af .andNot t c (.int k a) (.int k b)) (.int k (bits .andNot k a b)):=fun w=>by
 simp[Af,sv,eqGuard,binOp,go_sem]
instance {P:Program} {t:TypeId} {q:Bool} {k:IntKind} (a b:Int):StepC P (Af .andNot t q (.int k a) (.int k b)) True (.int k (bits .andNot k a b)):=⟨fun _=>aSd t q k a b⟩
section
variable {H:Hp} {w0 w:World} {L:List Res}
theorem aSe (n x:Int) (w:World):Calls prog 166 #[.int .i64 n,.int .i64 x] w fun en w'=>en=.returned (.bool (decide (thr n x)))∧St w [] w':=by
 have hM:=Mem.start (Fz.of w)
 refine aCb ?_
 unfold Qw
 (((refine Aw trivial ?_ ?_)))
 ·intro h1
  (((refine Ae ?_;refine Ab trivial ?_;refine Ae ?_)))
  (((refine Aw trivial ?_ ?_)))
  ·intro h2
   (((refine Ab trivial ?_;refine Ae ?_;refine Ab trivial ?_;refine Ae ?_)))
   (((refine Aw trivial ?_ ?_)))
   ·intro h3
    (((refine Ab trivial ?_;refine Ae ?_;refine Ab trivial ?_;refine Ae ?_;refine Ab trivial ?_;refine Ae ?_;refine Ab ?_ ?_));(focus omega);((refine Ae ?_;refine Ab ?_ ?_));(focus omega);((refine Ae ?_)))
    (((refine Aw trivial ?_ ?_)))
    ·intro h4
     (((refine Ab trivial ?_)))
     exact⟨by rw[decide_eq_true (show thr n x from⟨⟨h1,h2⟩,h3,h4⟩)],hM.st⟩
    ·intro h4
     (((refine Ab trivial ?_)))
     exact⟨by rw[decide_eq_false (show ¬thr n x from fun h=>h4 h.2.2)],hM.st⟩
   ·intro h3
    (((refine Ab trivial ?_;(iterate 5 refine Bv ?_);refine Ab trivial ?_)))
    exact⟨by rw[decide_eq_false (show ¬thr n x from fun h=>h3 h.2.1)],hM.st⟩
  ·intro h2
   (((refine Ab trivial ?_;refine Bv ?_;refine Bv ?_;refine Ab trivial ?_;(iterate 5 refine Bv ?_);refine Ab trivial ?_)))
   exact⟨by rw[decide_eq_false (show ¬thr n x from fun h=>h2 h.1.2)],hM.st⟩
 ·intro h1
  (((refine Bv ?_;refine Bv ?_;refine Ab trivial ?_;refine Bv ?_;refine Bv ?_;refine Ab trivial ?_;(iterate 5 refine Bv ?_);refine Ab trivial ?_)))
  exact⟨by rw[decide_eq_false (show ¬thr n x from fun h=>h1 h.1.1)],hM.st⟩
instance (n x:Int):PurC prog 166 [.int .i64 n,.int .i64 x] True (.bool (decide (thr n x))):=⟨fun _ w=>aSe n x w⟩
theorem aSf (x:Int) (hx:0≤x∧x<128) (w:World):Calls prog 205 #[.int .i64 x] w fun en w'=>en=.returned (.int .i64 (level x))∧St w [] w':=by
 have hM:=Mem.start (Fz.of w)
 refine aCi ?_
 unfold Re
 refine⟨fun v u w'=>∃ (y k:Int) (f:Nat),v=.int .i64 y∧u=.int .i64 k∧f≤7∧k=7 - f∧0≤y∧y<2 ^ f∧level x=k+lev (f+1) y∧hM.now w',fun _ u _=>match u with | .int _ k=>7 - k.toNat|_=>0,⟨x,0,7,rfl,rfl,by omega,by omega,hx.1,hx.2,by unfold level;rw[Int.zero_add],hM⟩,?_⟩
 rintro v u i w2 ⟨y,k,f,rfl,rfl,hf,hk,hy,hy2,hl,hM⟩
 have h7:(2:Int) ^ f≤128:=by
  have h2:(2:Nat) ^ f≤2 ^ 7:=Nat.pow_le_pow_right (by decide) hf
  have h4:(2:Int) ^ f=((2 ^ f:Nat):Int):=by push_cast;rfl
  omega
 obtain⟨hb,_⟩:=aHr (x:=y) (by omega)
 (((refine Ab trivial ?_)))
 rw[hb]
 (((refine Aw trivial ?_ ?_)))
 ·intro ho
  cases f with
  | zero=>simp at hy2;omega
  | succ f=>
    (((refine Am ?_;refine Ab ?_ ?_));(focus omega);((refine Ab ?_ ?_));(focus omega))
    have hd:y / 2 ^ (1:Int).toNat=y / 2:=rfl
    rw[hd]
    have hp:(2:Int) ^ (f+1)=2 ^ f*2:=Int.pow_succ 2 f
    refine⟨⟨y / 2,k+1,f,rfl,rfl,by omega,by omega,by omega,by omega,?_,hM⟩,?_⟩
    ·rw[hl]
     conv=>lhs;rw[lev,if_pos ho]
     omega
    ·simp only
     omega
 ·intro ho
  (((refine Aj ?_)))
  refine⟨?_,hM.st⟩
  rw[hl,lev,if_neg ho]
  simp
instance (x:Int):PurC prog 205 [.int .i64 x] (0≤x∧x<128) (.int .i64 (level x)):=⟨fun h w=>aSf x h w⟩
theorem aSg (n:Int) (w:World):Calls prog 125 #[.int .i64 n] w fun en w'=>en=.returned (.int .i64 (root n))∧St w [] w':=by
 have hM:=Mem.start (Fz.of w)
 refine aEl ?_
 unfold To
 by_cases ht:thr n 0
 ·rw[show root n=rtN n - 1 from if_pos ht]
  have hn:=ht.1
  (((refine Bl hM ?_ ?_));(focus (first|exact trivial|assumption|omega));((clear hM;intro _ hM;refine Ab trivial ?_)))
  rw[decide_eq_true ht]
  (((refine Sb ?_)))
  refine⟨fun v w'=>∃ k:Int,v=.int .i64 k∧(k=1∨k=2∨k=4∨k=8∨k=16∨k=32∨k=64)∧(k=1∨k<2*n)∧hM.now w',fun v _=>match v with | .int _ k=>100 - k.toNat|_=>0,⟨1,rfl,.inl rfl,.inl rfl,hM⟩,?_⟩
  rintro v i w2 ⟨k,rfl,h1,h2,hM⟩
  (((refine Aw trivial ?_ ?_)))
  ·intro h
   (((refine Am ?_;refine Ab ?_ ?_));(focus omega))
   exact⟨⟨k*2,rfl,by omega,by omega,hM⟩,by simp only;omega⟩
  ·intro h
   (((refine Aj ?_;refine Ab ?_ ?_));(focus omega))
   refine⟨?_,hM.st⟩
   rw[show rtN n=k by unfold rtN;(repeat' split);all_goals omega]
 ·rw[show root n = -1 from if_neg ht]
  (((refine Bl hM ?_ ?_));(focus (first|exact trivial|assumption|omega));((clear hM;intro _ hM;refine Ab trivial ?_)))
  rw[decide_eq_false ht]
  (((refine Sc ?_)))
  exact⟨rfl,hM.st⟩
instance (n:Int):PurC prog 125 [.int .i64 n] True (.int .i64 (root n)):=⟨fun _ w=>aSg n w⟩
end
end Go.Proofs.YtgbenhmdamnmcaaGreat
namespace Go.Proofs.YtgbenhmdamnmcaaGreat
open Go.Proofs.Tryz
open Go.RowKit Go.Lib
set_option maxRecDepth 100000 in
theorem aZl:∀ n:Fin 65,∀ x:Fin 127,thr (n.val:Int) (x.val:Int)→ab n.val x.val<0∨thr n.val (ab n.val x.val):=by decide +kernel
theorem aFg {n x:Int} (h:thr n x) (ha:¬ab n x<0):thr n (ab n x):=by
 obtain⟨h1,h2,h3⟩:=id h
 have:=aZl ⟨n.toNat,by omega⟩ ⟨x.toNat,by omega⟩
 simp only[Int.toNat_of_nonneg h2,Int.toNat_of_nonneg (show 0≤n by omega)]at this
 exact(this h).resolve_left ha
instance {P:Program} (a b c d:Value):StepC P (As (.tuple #[a,b,c,d]) 0) True a:=⟨fun _=>Fj [a,b,c,d] 0 a rfl⟩
instance {P:Program} (a b c d:Value):StepC P (As (.tuple #[a,b,c,d]) 1) True b:=⟨fun _=>Fj [a,b,c,d] 1 b rfl⟩
instance {P:Program} (a b c d:Value):StepC P (As (.tuple #[a,b,c,d]) 2) True c:=⟨fun _=>Fj [a,b,c,d] 2 c rfl⟩
instance {P:Program} (a b c d:Value):StepC P (As (.tuple #[a,b,c,d]) 3) True d:=⟨fun _=>Fj [a,b,c,d] 3 d rfl⟩
theorem aZm (a n:Int):min a n=if n<a then n else a:=by split <;> omega
section
variable {H:Hp} {w0 w:World} {L:List Res}
theorem bBm {n x:Int} (h:¬thr n x):lf n x = -1:=if_neg h
theorem bBn {n x:Int} (h:¬thr n x):rt n x = -1:=if_neg h
theorem aMh {n x:Int} (h:¬thr n x):ab n x = -1:=if_neg h
theorem bBo {n x:Int} (h:¬thr n x):bs n x = -1:=if_neg h
theorem aSh {n x:Int} (h:¬thr n x):fro n x=0:=if_neg h
theorem aSi {n x:Int} (h:¬thr n x):til n x=0:=if_neg h
theorem aSj (n x:Int) (w:World):Calls prog 174 #[.int .i64 n,.int .i64 x] w fun en w'=>en=.returned (.int .i64 (lf n x))∧St w [] w':=by
 have hM:=Mem.start (Fz.of w)
 refine aEs ?_
 unfold Tx
 refine⟨fun v w'=>v=.int .i64 (if thr n x then level x else 0)∧hM.now w',?_,?_⟩
 ·by_cases ht:thr n x
  ·obtain⟨h1,h2,h3⟩:=id ht
   (((refine Bl hM ?_ (fun _ hM2=>?_)));(focus (first|exact trivial|assumption|omega));((replace hM:=hM2;clear hM2)))
   rw[decide_eq_true ht]
   (((refine Am ?_;refine Bl hM ?_ ?_));(focus (first|exact trivial|assumption|omega));((clear hM;intro _ hM)))
   exact⟨by rw[if_pos ht],hM⟩
  ·(((refine Bl hM ?_ (fun _ hM2=>?_)));(focus (first|exact trivial|assumption|omega));((replace hM:=hM2;clear hM2)))
   rw[decide_eq_false ht]
   (((refine Aj ?_)))
   exact⟨by rw[if_neg ht],hM⟩
 rintro v u w2 ⟨rfl,hM⟩
 by_cases ht:thr n x
 ·obtain⟨h1,h2,h3⟩:=id ht
  rw[if_pos ht]
  have hl:=Ja x
  rw[← (Ik ht).1]
  (((refine Aw trivial ?_ ?_)))
  ·intro h
   (((refine Am ?_)))
   exact⟨by unfold pLeft;rw[if_neg (fun h'=>h'.2 h)],hM.st⟩
  ·intro h
   have hp:=aFf (k:=level x - 1) (by omega)
   (((refine Aj ?_;refine Ab ?_ ?_));(focus omega);((refine Ab ?_ ?_));(focus omega);((refine Ab ?_ ?_));(focus omega))
   exact⟨by unfold pLeft;rw[if_pos ⟨ht,h⟩],hM.st⟩
 ·rw[if_neg ht,bBm ht]
  (((refine Bt trivial ?_ ?_));(focus (first|assumption|omega|with_reducible rfl|exact fun h=>Bool.noConfusion h));((refine Am ?_)))
  exact⟨rfl,hM.st⟩
instance (n x:Int):PurC prog 174 [.int .i64 n,.int .i64 x] True (.int .i64 (lf n x)):=⟨fun _ w=>aSj n x w⟩
theorem aOr (n x:Int) (w:World):Calls prog 175 #[.int .i64 n,.int .i64 x] w fun en w'=>en=.returned (.int .i64 (rt n x))∧St w [] w':=by
 have hM:=Mem.start (Fz.of w)
 refine aCf ?_
 unfold Ra
 refine⟨fun v w'=>v=.int .i64 (if thr n x then level x else 0)∧hM.now w',?_,?_⟩
 ·by_cases ht:thr n x
  ·obtain⟨h1,h2,h3⟩:=id ht
   (((refine Bl hM ?_ (fun _ hM2=>?_)));(focus (first|exact trivial|assumption|omega));((replace hM:=hM2;clear hM2)))
   rw[decide_eq_true ht]
   (((refine Am ?_;refine Bl hM ?_ ?_));(focus (first|exact trivial|assumption|omega));((clear hM;intro _ hM)))
   exact⟨by rw[if_pos ht],hM⟩
  ·(((refine Bl hM ?_ (fun _ hM2=>?_)));(focus (first|exact trivial|assumption|omega));((replace hM:=hM2;clear hM2)))
   rw[decide_eq_false ht]
   (((refine Aj ?_)))
   exact⟨by rw[if_neg ht],hM⟩
 rintro v u w2 ⟨rfl,hM⟩
 by_cases ht:thr n x
 ·obtain⟨h1,h2,h3⟩:=id ht
  rw[if_pos ht]
  have hl:=Ja x
  obtain⟨-,hR,-,-,-,-,hk,-,-⟩:=Ik ht
  rw[← hR]
  (((refine Aw trivial ?_ ?_)))
  ·intro h
   (((refine Am ?_)))
   exact⟨by unfold pRight;rw[if_neg (fun h'=>h'.2 h)],hM.st⟩
  ·intro h
   have hp:=aFf (k:=level x - 1) (by omega)
   have hk:=hk h
   (((refine Aj ?_;refine Ab ?_ ?_));(focus omega);((refine Ab ?_ ?_));(focus omega);((refine Ab ?_ ?_));(focus omega))
   rw[show pRight n x=rg 8 n (x+pw (level x - 1)) from if_pos ⟨ht,h⟩]
   refine⟨fun v w'=>∃ (f:Nat) (y:Int),v=.int .i64 y∧okr f n y=true∧rg 8 n (x+pw (level x - 1))=rg f n y∧hM.now w',fun v _=>match v with | .int _ k=>k.toNat|_=>0,⟨8,_,rfl,hk,rfl,hM⟩,?_⟩
   rintro v i w2 ⟨f,y,rfl,ho,he,hM⟩
   cases f with
   | zero=>simp[okr]at ho
   | succ f=>
     simp only[okr,Bool.and_eq_true,Bool.or_eq_true,decide_eq_true_eq]at ho
     obtain⟨hy,ho⟩:=ho
     by_cases hty:thr n y
     ·(((refine Bl hM ?_ ?_));(focus (first|exact trivial|assumption|omega));((clear hM;intro _ hM;refine Ab trivial ?_)))
      rw[decide_eq_true hty]
      (((refine Sb ?_)))
      exact⟨by rw[he,rg,if_pos hty],hM.st⟩
     ·obtain⟨hl1,ho⟩:=ho.resolve_left hty
      have hl:=Ja y
      have hp:=aFf (k:=level y - 1) (by omega)
      (((refine Bl hM ?_ ?_));(focus (first|exact trivial|assumption|omega));((clear hM;intro _ hM;refine Ab trivial ?_)))
      rw[decide_eq_false hty]
      (((refine Sc ?_;refine Bl hM ?_ ?_));(focus (first|exact trivial|assumption|omega));((clear hM;intro _ hM;refine Ab ?_ ?_));(focus omega);((refine Ab ?_ ?_));(focus omega);((refine Ab ?_ ?_));(focus omega))
      refine⟨⟨f,_,rfl,ho,by rw[he,rg,if_neg hty],hM⟩,?_⟩
      cases f with
      | zero=>simp[okr]at ho
      | succ f=>
        simp only[okr,Bool.and_eq_true,decide_eq_true_eq]at ho
        simp only
        omega
 ·rw[if_neg ht,bBn ht]
  (((refine Bt trivial ?_ ?_));(focus (first|assumption|omega|with_reducible rfl|exact fun h=>Bool.noConfusion h));((refine Am ?_)))
  exact⟨rfl,hM.st⟩
instance (n x:Int):PurC prog 175 [.int .i64 n,.int .i64 x] True (.int .i64 (rt n x)):=⟨fun _ w=>aOr n x w⟩
theorem Vz (n x:Int) (w:World):Calls prog 202 #[.int .i64 n,.int .i64 x] w fun en w'=>en=.returned (.int .i64 (ab n x))∧St w [] w':=by
 have hM:=Mem.start (Fz.of w)
 refine aCh ?_
 unfold Rc
 refine⟨fun v w'=>v=.bool (decide (¬thr n x∨x=root n))∧hM.now w',?_,?_⟩
 ·by_cases ht:thr n x
  ·(((refine Bl hM ?_ (fun _ hM2=>?_)));(focus (first|exact trivial|assumption|omega));((replace hM:=hM2;clear hM2;refine Ab trivial ?_)))
   rw[decide_eq_true ht,Bool.not_true]
   (((refine Ae ?_;refine Ab trivial ?_;refine Ae ?_;refine Ab trivial ?_;refine Ae ?_;refine Bl hM ?_ ?_));(focus (first|exact trivial|assumption|omega));((clear hM;intro _ hM;refine Ae ?_)))
   (((refine Aw trivial ?_ ?_)))
   ·intro h
    (((refine Ab trivial ?_)))
    exact⟨by rw[decide_eq_true (.inr h)],hM⟩
   ·intro h
    (((refine Ab trivial ?_)))
    exact⟨by rw[decide_eq_false (by simp[ht,h])],hM⟩
  ·(((refine Bl hM ?_ (fun _ hM2=>?_)));(focus (first|exact trivial|assumption|omega));((replace hM:=hM2;clear hM2;refine Ab trivial ?_)))
   rw[decide_eq_false ht,Bool.not_false]
   ((((iterate 4 refine Av ?_);refine Ab trivial ?_)))
   exact⟨by rw[decide_eq_true (.inl ht)],hM⟩
 rintro v u w2 ⟨rfl,hM⟩
 by_cases ht:thr n x
 ·obtain⟨-,-,hA,-,-,-,-,hu,-⟩:=Ik ht
  rw[← hA]
  by_cases hr:x=root n
  ·rw[decide_eq_true (.inr hr)]
   (((refine Am ?_)))
   exact⟨by unfold pAbove;rw[if_neg (fun h=>h.2 hr)],hM.st⟩
  ·rw[decide_eq_false (by simp[ht,hr])]
   have hu:=hu hr
   (((refine Aj ?_)))
   rw[show pAbove n x=ug 8 n x from if_pos ⟨ht,hr⟩]
   refine⟨fun v w'=>∃ (f:Nat) (y:Int),v=.int .i64 y∧oku f n y=true∧ug 8 n x=ug f n y∧hM.now w',fun v _=>match v with | .int _ k=>(8 - level k).toNat|_=>0,⟨8,_,rfl,hu,rfl,hM⟩,?_⟩
   rintro v i w2 ⟨f,y,rfl,ho,he,hM⟩
   cases f with
   | zero=>simp[oku]at ho
   | succ f=>
     simp only[oku,Bool.and_eq_true,Bool.or_eq_true,decide_eq_true_eq]at ho
     obtain⟨hy,ho⟩:=ho
     obtain⟨-,hb,hv,-,h7⟩:=aHr hy
     have hl:=Ja y
     (((refine Bl hM ?_ ?_));(focus (first|exact trivial|assumption|omega));((clear hM;intro _ hM;refine Ap ?_ ?_));(focus omega);((refine Ap ?_ ?_));(focus omega);((refine Ap trivial ?_;refine Ap ?_ ?_));(focus omega);((refine Ap trivial ?_;refine Bc hM ?_;clear hM;intro _ hM;refine Bl hM ?_ ?_));(focus (first|exact trivial|assumption|omega));((clear hM;intro _ hM)))
     rw[hb]
     by_cases hty:thr n (up1 y)
     ·skip
      rw[decide_eq_true hty]
      (((refine Am ?_)))
      exact⟨by rw[he,ug,if_pos hty],hM.st⟩
     ·have ho:=ho.resolve_left hty
      skip
      rw[decide_eq_false hty]
      (((refine Aj ?_)))
      refine⟨⟨f,_,rfl,ho,by rw[he,ug,if_neg hty],hM⟩,?_⟩
      simp only
      omega
 ·rw[decide_eq_true (.inl ht),aMh ht]
  (((refine Am ?_)))
  exact⟨rfl,hM.st⟩
instance (n x:Int):PurC prog 202 [.int .i64 n,.int .i64 x] True (.int .i64 (ab n x)):=⟨fun _ w=>Vz n x w⟩
theorem aKm (n x:Int) (w:World):Calls prog 188 #[.int .i64 n,.int .i64 x] w fun en w'=>en=.returned (.int .i64 (bs n x))∧St w [] w':=by
 have hM:=Mem.start (Fz.of w)
 refine aAl ?_
 unfold Pe
 by_cases ht:thr n x
 ·obtain⟨-,-,hA,hB,-⟩:=Ik ht
  rw[← hB]
  unfold pBeside
  rw[hA]
  (((refine Bl hM ?_ ?_));(focus (first|exact trivial|assumption|omega));((clear hM;intro _ hM)))
  (((refine Aw trivial ?_ ?_)))
  ·intro h
   (((refine Am ?_)))
   exact⟨by rw[if_pos h],hM.st⟩
  ·intro h
   rw[if_neg h]
   have hta:thr n (ab n x):=aFg ht h
   obtain⟨hl,hr,-⟩:=Ik hta
   rw[hl,hr]
   (((refine Aj ?_)))
   (((refine Aw trivial ?_ ?_)))
   ·intro h2
    (((refine Am ?_;refine Bl hM ?_ ?_));(focus (first|exact trivial|assumption|omega));((clear hM;intro _ hM)))
    exact⟨by rw[if_pos h2],hM.st⟩
   ·intro h2
    (((refine Aj ?_;refine Bl hM ?_ ?_));(focus (first|exact trivial|assumption|omega));((clear hM;intro _ hM)))
    exact⟨by rw[if_neg h2],hM.st⟩
 ·rw[bBo ht]
  have:=aMh ht
  (((refine Bl hM ?_ ?_));(focus (first|exact trivial|assumption|omega));((clear hM;intro _ hM;refine Bt trivial ?_ ?_));(focus (first|assumption|omega|with_reducible rfl|exact fun h=>Bool.noConfusion h));((refine Am ?_)))
  exact⟨rfl,hM.st⟩
instance (n x:Int):PurC prog 188 [.int .i64 n,.int .i64 x] True (.int .i64 (bs n x)):=⟨fun _ w=>aKm n x w⟩
theorem aKn (n x:Int) (w:World):Calls prog 203 #[.int .i64 n,.int .i64 x] w fun en w'=>en=.returned (.tuple #[.int .i64 (fro n x),.int .i64 (til n x)])∧St w [] w':=by
 have hM:=Mem.start (Fz.of w)
 refine aAm ?_
 unfold Pf
 by_cases ht:thr n x
 ·obtain⟨h1,h2,h3⟩:=id ht
  obtain⟨-,-,-,-,hF,hT,-⟩:=Ik ht
  obtain⟨-,-,-,hq,h7⟩:=aHr (x:=x) (by omega)
  have hl:=Ja x
  have hp:=aFf (k:=level x) (by omega)
  rw[← hF,← hT]
  unfold pFrom pTo
  rw[if_pos ht,if_pos ht,aZm]
  (((refine Bl hM ?_ ?_));(focus (first|exact trivial|assumption|omega));((clear hM;intro _ hM;refine Ab trivial ?_)))
  rw[decide_eq_true ht]
  (((refine Sb ?_;refine Bl hM ?_ ?_));(focus (first|exact trivial|assumption|omega));((clear hM;intro _ hM;refine Ab ?_ ?_));(focus omega);((refine Ab ?_ ?_));(focus omega);((refine Ab ?_ ?_));(focus omega);((refine Ab ?_ ?_));(focus omega);((refine Ab ?_ ?_));(focus omega);((refine Ab ?_ ?_));(focus omega);((refine Ab ?_ ?_));(focus omega))
  exact⟨rfl,hM.st⟩
 ·rw[aSh ht,aSi ht]
  (((refine Bl hM ?_ ?_));(focus (first|exact trivial|assumption|omega));((clear hM;intro _ hM;refine Ab trivial ?_)))
  rw[decide_eq_false ht]
  (((refine Sc ?_)))
  exact⟨rfl,hM.st⟩
instance (n x:Int):PurC prog 203 [.int .i64 n,.int .i64 x] True (.tuple #[.int .i64 (fro n x),.int .i64 (til n x)]):=⟨fun _ w=>aKn n x w⟩
theorem aOs (n x p:Int) (w:World):Calls prog 167 #[.int .i64 n,.int .i64 x,.int .i64 p] w fun en w'=>en=.returned (.bool (decide (hld n x p)))∧St w [] w':=by
 have hM:=Mem.start (Fz.of w)
 refine aCc ?_
 unfold Qx
 (((refine Bl hM ?_ ?_));(focus (first|exact trivial|assumption|omega));((clear hM;intro _ hM;refine Ab trivial ?_;refine Ab trivial ?_)))
 (((refine Aw trivial ?_ ?_)))
 ·intro h1
  (((refine Ae ?_;refine Ab trivial ?_;refine Ae ?_;refine Ab trivial ?_;refine Ae ?_)))
  (((refine Aw trivial ?_ ?_)))
  ·intro h2
   (((refine Ab trivial ?_)))
   exact⟨by rw[decide_eq_true (show hld n x p from⟨h1,h2⟩)],hM.st⟩
  ·intro h2
   (((refine Ab trivial ?_)))
   exact⟨by rw[decide_eq_false (show ¬hld n x p from fun h=>h2 h.2)],hM.st⟩
 ·intro h1
  ((((iterate 3 refine Bv ?_);refine Ab trivial ?_)))
  exact⟨by rw[decide_eq_false (show ¬hld n x p from fun h=>h1 h.1)],hM.st⟩
instance (n x p:Int):PurC prog 167 [.int .i64 n,.int .i64 x,.int .i64 p] True (.bool (decide (hld n x p))):=⟨fun _ w=>aOs n x p w⟩
end
end Go.Proofs.YtgbenhmdamnmcaaGreat
namespace Go.Proofs.YtgbenhmdamnmcaaGreat
open Go.Proofs.Tryz
open Go.RowKit
def cand (k l:Nat):Int:=(l / 2 ^ k*2 ^ (k+1)+2 ^ k - 1:Nat)
def cands (n l:Nat):List Int:=([1,2,3,4,5,6].map fun k=>cand k l).filter fun x=>decide (x≤2*(n:Int) - 2)
set_option maxRecDepth 100000 in
theorem aWd:∀ n:Fin 65,∀ l:Fin 64,l.val<n.val→dirL n.val l.val=cands n.val l.val:=by decide +kernel
set_option maxRecDepth 100000 in
theorem aSk:∀ i:Fin 63,∀ l:Fin 64,(1≤level (2*(i.val:Int)+1)∧level (2*(i.val:Int)+1)≤6)∧(((2*(i.val:Int)+1+1 - pw (level (2*i.val+1))) / 2≤l.val∧(l.val:Int)<(2*i.val+1+1+pw (level (2*i.val+1))) / 2)↔cand (level (2*i.val+1)).toNat l.val=2*i.val+1):=by decide +kernel
set_option maxRecDepth 100000 in
theorem aSl:∀ k:Fin 7,∀ l:Fin 64,1≤k.val→cand k.val l.val%2=1∧0≤cand k.val l.val∧cand k.val l.val<127∧level (cand k.val l.val)=k.val:=by decide +kernel
def okd:Nat→Int→Int→Bool
 | 0,n,x=>decide (ab n x<0)
 | f+1,n,x=>decide (ab n x<0)||okd f n (ab n x)
set_option maxRecDepth 100000 in
theorem aWe:∀ n:Fin 65,∀ x:Fin 127,thr (n.val:Int) (x.val:Int)→okd 8 n.val x.val=true:=by decide +kernel
set_option maxRecDepth 100000 in
theorem aWf:∀ n:Fin 65,∀ x:Fin 127,thr (n.val:Int) (x.val:Int)→ab n.val x.val<0∨level x.val<level (ab n.val x.val)∧level (ab n.val x.val)≤7:=by decide +kernel
end Go.Proofs.YtgbenhmdamnmcaaGreat
namespace Go.Proofs.YtgbenhmdamnmcaaGreat
open Go.Proofs.Tryz
open Go.RowKit Go.Lib
theorem aZn (n x:Int):okd 8 n x=true:=by
 by_cases h:thr n x
 ·obtain⟨h1,h2,h3⟩:=id h
  have:=aWe ⟨n.toNat,by omega⟩ ⟨x.toNat,by omega⟩
  simp only[Int.toNat_of_nonneg h2,Int.toNat_of_nonneg (show 0≤n by omega)]at this
  exact this h
 ·simp[okd,aMh h]
theorem aSm {f:Nat} {n x:Int} (h:ab n x<0):dirF f n x=[]:=by
 cases f with
 | zero=>rfl
 | succ f=>rw[dirF,if_pos h]
theorem aOt {f:Nat} {n x:Int} (h:¬ab n x<0) (ho:okd f n x=true):∃ g,f=g+1∧dirF f n x=ab n x::dirF g n (ab n x)∧okd g n (ab n x)=true:=by
 cases f with
 | zero=>simp[okd]at ho;omega
 | succ f=>
   simp only[okd,Bool.or_eq_true,decide_eq_true_eq]at ho
   exact⟨f,rfl,by rw[dirF,if_neg h],ho.resolve_left h⟩
theorem aHs:∀ (f:Nat) (n x:Int),(dirF f n x).length≤f
 | 0,n,x=>by simp[dirF]
 | f+1,n,x=>by
   rw[dirF]
   split
   ·simp
   ·have:=aHs f n (ab n x)
    simp only[List.length_cons]
    omega
theorem Uf (n l:Int):(dirL n l).length≤8:=by
 unfold dirL
 split
 ·exact aHs 8 n _
 ·simp
abbrev ints8 (l:List Int):List (List Fd):=l.map fun x=>[.one (.int .i64 x)]
theorem Np (l:List Int):(ints8 l).length=l.length:=by simp[ints8]
theorem aOu (l:List Int):Els 1 (ints8 l):=Els.map (f:=fun x=>[.one (.int .i64 x)]) l fun _=>⟨inferInstance,rfl⟩
theorem aAt {l:List Int} {i:Nat} (h:i<l.length):(ints8 l)[i]?=some [.one (.int .i64 l[i])]:=by simp[ints8,h]
end Go.Proofs.YtgbenhmdamnmcaaGreat
namespace Go.Proofs.YtgbenhmdamnmcaaGreat
open Go.Proofs.Tryz
open Go.RowKit
structure Lf where
 name:Int
 pub:H32
 ver:H32
 abv:H32
deriving DecidableEq
abbrev Lf.fds (l:Lf):List Fd:=[.one (.int .i64 l.name),.arr 32 (u8s l.pub.1),.arr 32 (u8s l.ver.1),.arr 32 (u8s l.abv.1)]
abbrev lv (l:Lf):Value:=.agg (fl l.fds).toArray
def Lf.zero:Lf:=⟨0,hzero,hzero,hzero⟩
structure Pn where
 set:Bool
 pub:H32
 abv:H32
 loose:List Int
deriving DecidableEq
def Pn.zero:Pn:=⟨false,hzero,hzero,[]⟩
structure Tr where
 ls:List Lf
 ps:List Pn
deriving DecidableEq
def Tr.none:Tr:=⟨[],[]⟩
def nameAt (ls:List Lf) (p:Int):Int:=match ls[p.toNat]? with
 | some l=>l.name
 | none=>0
def leavesB:List Int→List Lf→Bool
 | _,[]=>true
 | s,l::r=>if l=Lf.zero then leavesB s r else decide ((1≤l.name∧l.name≤64)∧l.name∉s)&&leavesB (l.name::s) r
def looseB (n:Int) (ls:List Lf) (x:Int):Option Int→List Int→Bool
 | _,[]=>true
 | o,p::r=>decide (hld n x p∧nameAt ls p≠0∧∀ q∈o,q<p)&&looseB n ls x (some p) r
def Pn.isZero (p:Pn):Prop:=p.set=false∧p.pub=hzero∧p.abv=hzero∧p.loose=[]
instance (p:Pn):Decidable p.isZero:=by unfold Pn.isZero;infer_instance
def parB (n:Int) (ls:List Lf):Int→List Pn→Bool
 | _,[]=>true
 | x,p::r=>(p.set||decide p.isZero)&&looseB n ls x none p.loose&&parB n ls (x+2) r
abbrev Tr.size (t:Tr):Int:=t.ls.length
def Tr.right (t:Tr):Bool:=decide (t.ls.length≤64∧t.ps.length=t.ls.length - 1)&&leavesB [] t.ls&&parB t.size t.ls 1 t.ps&&decide (t.ls=[]∨0<nameAt t.ls (t.size - 1))
abbrev Pn.row (p:Pn) (C:Option Addr) (c:Nat):List Fd:=[.one (.bool p.set),.arr 32 (u8s p.pub.1),.arr 32 (u8s p.abv.1),.one (.slice C p.loose.length c)]
def PnF (H:Hp) (q:List Fd) (p:Pn):Prop:=∃ C c,q=p.row C c∧Sl H 1 C (ints8 p.loose)∧p.loose.length≤maxLen
theorem PnF.mono {H H':Hp} {q:List Fd} {p:Pn} (h:PnF H q p) (k:H.le H'):PnF H' q p:=by
 obtain⟨C,c,h1,h2,h3⟩:=h
 exact⟨C,c,h1,h2.mono k,h3⟩
theorem All2.mono {α:Type} {r r':List Fd→α→Prop} (h:∀ q x,r q x→r' q x):∀ {ps:List (List Fd)} {xs:List α},All2 r ps xs→All2 r' ps xs
 | [],[],_=>trivial
 | _::_,_::_,k=>⟨h _ _ k.1,k.2.mono h⟩
 | [],_::_,k=>k.elim
 | _::_,[],k=>k.elim
theorem All2.at_ {α:Type} {r:List Fd→α→Prop}:∀ {ps:List (List Fd)} {xs:List α},All2 r ps xs→∀ {i:Nat} (h:i<xs.length),∃ q,ps[i]?=some q∧r q xs[i]
 | [],[],_,i,h=>by cases h
 | q::ps,x::xs,k,0,_=>⟨q,rfl,k.1⟩
 | q::ps,x::xs,k,i+1,h=>by
   obtain⟨q',h1,h2⟩:=k.2.at_ (i:=i) (by simpa using h)
   exact⟨q',by simpa using h1,by simpa using h2⟩
 | [],_::_,k,_,_=>k.elim
 | _::_,[],k,_,_=>k.elim
abbrev tfd (A:Option Addr) (n a:Nat) (B:Option Addr) (m b:Nat):List Fd:=[.one (.slice A n a),.one (.slice B m b)]
abbrev tv (A:Option Addr) (n a:Nat) (B:Option Addr) (m b:Nat):Value:=.agg (fl (tfd A n a B m b)).toArray
theorem aMi (l:Lf):l=Lf.zero↔(l.name=0∧l.pub=hzero∧l.ver=hzero∧l.abv=hzero):=by
 cases l
 simp[Lf.zero]
structure TrF (H:Hp) (v:Value) (t:Tr):Prop where
 ex:∃ A a B b qs,v=tv A t.ls.length a B t.ps.length b∧Sl H 97 A (t.ls.map Lf.fds)∧Sl H 66 B qs∧All2 (PnF H) qs t.ps
 len:t.ls.length≤maxLen∧t.ps.length≤maxLen
theorem TrF.mono {H H':Hp} {v:Value} {t:Tr} (h:TrF H v t) (k:H.le H'):TrF H' v t:=by
 obtain⟨A,a,B,b,qs,h1,h2,h3,h4⟩:=h.ex
 exact⟨⟨A,a,B,b,qs,h1,h2.mono k,h3.mono k,h4.mono fun _ _ h=>h.mono k⟩,h.len⟩
end Go.Proofs.YtgbenhmdamnmcaaGreat
namespace Go.Proofs.YtgbenhmdamnmcaaGreat.Cmt
open Go.Proofs.Tryz
open Go.RowKit Go.Proofs.YtgbenhmdamnmcaaGreat.Chg
structure Rn where
 pub:H32
 wraps:List ByteArray
structure Wl where
 name:Int
 card:Int
 wrap:ByteArray
deriving DecidableEq
abbrev sfd (s:ByteArray):List Fd:=[.one (.string s)]
abbrev Wl.fds (x:Wl):List Fd:=[.one (.int .i64 x.name),.one (.int .i64 x.card),.one (.string x.wrap)]
abbrev wv (x:Wl):Value:=.agg (fl x.fds).toArray
abbrev Rn.row (r:Rn) (C:Option Addr) (c:Nat):List Fd:=[.arr 32 (u8s r.pub.1),.one (.slice C r.wraps.length c)]
def RnF (H:Hp) (q:List Fd) (r:Rn):Prop:=∃ C c,q=r.row C c∧Sl H 1 C (r.wraps.map sfd)∧r.wraps.length≤maxLen
theorem RnF.mono {H H':Hp} {q:List Fd} {r:Rn} (h:RnF H q r) (k:H.le H'):RnF H' q r:=by
 obtain⟨C,c,h1,h2,h3⟩:=h
 exact⟨C,c,h1,h2.mono k,h3⟩
structure Cm where
 parent:H32
 depth:Int
 author:Int
 props:List Prp
 leaf:H32
 above:H32
 path:List Rn
 info:ByteArray
 wels:List Wl
 tag:H32
 sign:H32
abbrev cfd (P:Option Addr) (pc:Nat) (Q:Option Addr) (qc:Nat) (W:Option Addr) (wc:Nat) (c:Cm):List Fd:=
 [.arr 32 (u8s c.parent.1),.one (.int .i64 c.depth),.one (.int .i64 c.author),.one (.slice P c.props.length pc),.arr 32 (u8s c.leaf.1),.arr 32 (u8s c.above.1),.one (.slice Q c.path.length qc),.one (.string c.info),.one (.slice W c.wels.length wc),.arr 32 (u8s c.tag.1),.arr 32 (u8s c.sign.1)]
abbrev cv (P:Option Addr) (pc:Nat) (Q:Option Addr) (qc:Nat) (W:Option Addr) (wc:Nat) (c:Cm):Value:=.agg (fl (cfd P pc Q qc W wc c)).toArray
structure CmF (H:Hp) (P Q W:Option Addr) (qs:List (List Fd)) (c:Cm):Prop where
 props:Sl H 101 P (c.props.map Prp.fds)
 path:Sl H 33 Q qs
 path2:All2 (RnF H) qs c.path
 wels:Sl H 3 W (c.wels.map Wl.fds)
 len:c.props.length≤maxLen∧c.path.length≤maxLen∧c.wels.length≤maxLen∧c.info.size≤maxLen
theorem CmF.mono {H H':Hp} {P Q W:Option Addr} {qs:List (List Fd)} {c:Cm} (h:CmF H P Q W qs c) (k:H.le H'):CmF H' P Q W qs c:=
 ⟨h.props.mono k,h.path.mono k,h.path2.mono fun _ _ x=>RnF.mono x k,h.wels.mono k,h.len⟩
def longS (s:ByteArray):Bool:=decide (1024<s.size)
def Rn.odd (r:Rn):Bool:=decide (64<r.wraps.length)||r.wraps.any longS
def Wl.odd (x:Wl):Bool:=!decide (1≤x.name∧x.name≤64)||decide (x.card<0)||decide (4611686018427387903<x.card)||longS x.wrap
def Cm.fits (c:Cm):Prop:=(1≤c.depth∧c.depth≤4611686018427387903)∧(1≤c.author∧c.author≤64)∧c.props.length≤16∧c.path.length≤64∧c.info.size≤65536∧c.wels.length≤16
instance (c:Cm):Decidable c.fits:=by unfold Cm.fits;infer_instance
def Cm.right (c:Cm):Bool:=decide c.fits&&!c.path.any Rn.odd&&(!c.props.any (fun p=>!decide p.right)&&!c.wels.any Wl.odd)
end Go.Proofs.YtgbenhmdamnmcaaGreat.Cmt
namespace Go.Proofs.YtgbenhmdamnmcaaGreat.Cmt
open Go.Proofs.Tryz
open Go.RowKit Go.Proofs.YtgbenhmdamnmcaaGreat.Chg
structure Chn where
 kind:Int
 name:Int
 pub:H32
abbrev Chn.fds (c:Chn):List Fd:=[.one (.int .i64 c.kind),.one (.int .i64 c.name),.arr 32 (u8s c.pub.1)]
end Go.Proofs.YtgbenhmdamnmcaaGreat.Cmt
namespace Go.Proofs.YtgbenhmdamnmcaaGreat.Cmt
open Go.Proofs.Tryz
open Go.RowKit Go.Proofs.YtgbenhmdamnmcaaGreat.Chg
section
variable {H:Hp} {w0 w:World} {L R:List Res} {A:Option Addr} {a:Nat}
def ixF {α:Type} (f:α→Bool) (xs:List α):Int:=match xs.findIdx? f with|some i=>i|none => -1
theorem aKo {α:Type} {f:α→Bool} {xs:List α} {i:Nat} (h:i<xs.length) (hlo:∀ j (hj:j<xs.length),j<i→f xs[j]=false) (hi:f xs[i]=true):ixF f xs=i:=by
 unfold ixF
 have:xs.findIdx? f=some i:=by
  rw[List.findIdx?_eq_some_iff_getElem]
  exact⟨h,hi,fun j hj=>by simp[hlo j (by omega) hj]⟩
 rw[this]
theorem aAu {α:Type} {f:α→Bool} {xs:List α} (hlo:∀ j (hj:j<xs.length),f xs[j]=false):ixF f xs = -1:=by
 unfold ixF
 have:xs.findIdx? f=none:=by
  rw[List.findIdx?_eq_none_iff]
  intro x hx
  obtain⟨j,hj,rfl⟩:=List.getElem_of_mem hx
  exact hlo j hj
 rw[this]
theorem aFh {α:Type} (f:α→Bool) (xs:List α):decide (ixF f xs≥0)=xs.any f:=by
 unfold ixF
 cases h:xs.findIdx? f with
 | none=>
   rw[List.findIdx?_eq_none_iff]at h
   rw[decide_eq_false (by decide)]
   rw[eq_comm,List.any_eq_false]
   intro x hx
   simp[h x hx]
 | some i=>
   rw[List.findIdx?_eq_some_iff_getElem]at h
   obtain⟨h1,h2,_⟩:=h
   rw[decide_eq_true (by simp)]
   rw[eq_comm,List.any_eq_true]
   exact⟨_,List.getElem_mem h1,h2⟩
theorem aWg {r:Res} {cl:Value} {f:ByteArray→Bool} (xs:List ByteArray) (hl:xs.length≤maxLen) (hc:Clo prog H w0 r cl (fun s:ByteArray=>Value.string s) f) (hs:Sl H 1 A (xs.map sfd)) (hM:Mem H w0 (r::R) w):
  Calls prog 97 #[.slice A xs.length a,cl] w fun en w'=>∃ v,en=.returned v∧v=.int .i64 (ixF f xs)∧Mem H w0 (r::R) w':=by
 refine Gv ?_
 unfold Ed
 have hl':xs.length≤9223372036854775807:=hl
 (((refine Ab trivial ?_)))
 refine⟨fun v w'=>∃ i:Nat,v=.int .i64 i∧i≤xs.length∧(∀ j (hj:j<xs.length),j<i→f xs[j]=false)∧Mem H w0 (r::R) w',fun v _=>match v with | .int _ k=>xs.length - k.toNat|_=>0,⟨0,rfl,by omega,fun j _ h=>by omega,hM⟩,?_⟩
 rintro v u w3 ⟨i,rfl,hi,hlo,hM⟩
 (((refine Aw trivial ?_ ?_)))
 ·intro hlt
  have hlt':i<xs.length:=by omega
  (((refine Am ?_));(refine Ci ‹_› ?_ ?_ ?_);(focus (simp only[List.length_map];omega));(focus (simp only[List.length_map];first|done|omega));((intro _ _ hA));(cases hA);(refine Cb hM ‹_› (By ?_) ?_);(focus omega))
  refine hc _ _ _ _ _ hM (fun w hM=>?_)
  cases hfi:f xs[i]
  ·(((refine Aj ?_;refine Ab ?_ ?_));(focus omega))
   refine⟨⟨i+1,rfl,by omega,fun j hj hji=>?_,hM⟩,by simp only;omega⟩
   rcases Nat.lt_or_ge j i with h2|h2
   ·exact hlo j hj h2
   ·obtain rfl:j=i:=by omega
    exact hfi
  ·(((refine Am ?_)))
   exact⟨_,rfl,by rw[aKo hlt' hlo hfi],hM⟩
 ·intro hge
  (((refine Aj ?_)))
  exact⟨_,rfl,by rw[aAu fun j hj=>hlo j hj (by omega)],hM⟩
theorem aWh {r:Res} {cl:Value} {f:ByteArray→Bool} (xs:List ByteArray) (hl:xs.length≤maxLen) (hc:Clo prog H w0 r cl (fun s:ByteArray=>Value.string s) f) (hs:Sl H 1 A (xs.map sfd)) (hM:Mem H w0 (r::R) w):
  Calls prog 28 #[.slice A xs.length a,cl] w fun en w'=>∃ v,en=.returned v∧v=.bool (xs.any f)∧Mem H w0 (r::R) w':=by
 refine Fx ?_
 unfold Dr
 refine Bi (aWg xs hl hc hs hM) ?_
 rintro v w2 ⟨rfl,hM⟩
 refine Ab trivial ?_
 exact⟨_,rfl,by rw[← aFh],hM⟩
theorem aWi {r:Res} {cl:Value} {f:Prp→Bool} (xs:List Prp) (hl:xs.length≤maxLen) (hc:Clo prog H w0 r cl Chg.prv f) (hs:Sl H 101 A (xs.map Prp.fds)) (hM:Mem H w0 (r::R) w):
  Calls prog 98 #[.slice A xs.length a,cl] w fun en w'=>∃ v,en=.returned v∧v=.int .i64 (ixF f xs)∧Mem H w0 (r::R) w':=by
 refine Eo ?_
 unfold Cu
 have hl':xs.length≤9223372036854775807:=hl
 (((refine Ab trivial ?_)))
 refine⟨fun v w'=>∃ i:Nat,v=.int .i64 i∧i≤xs.length∧(∀ j (hj:j<xs.length),j<i→f xs[j]=false)∧Mem H w0 (r::R) w',fun v _=>match v with | .int _ k=>xs.length - k.toNat|_=>0,⟨0,rfl,by omega,fun j _ h=>by omega,hM⟩,?_⟩
 rintro v u w3 ⟨i,rfl,hi,hlo,hM⟩
 (((refine Aw trivial ?_ ?_)))
 ·intro hlt
  have hlt':i<xs.length:=by omega
  (((refine Am ?_));(refine Ci ‹_› ?_ ?_ ?_);(focus (simp only[List.length_map];omega));(focus (simp only[List.length_map];first|done|omega));((intro _ _ hA));(cases hA);(refine Cb hM ‹_› (By ?_) ?_);(focus omega))
  refine hc _ _ _ _ _ hM (fun w hM=>?_)
  cases hfi:f xs[i]
  ·(((refine Aj ?_;refine Ab ?_ ?_));(focus omega))
   refine⟨⟨i+1,rfl,by omega,fun j hj hji=>?_,hM⟩,by simp only;omega⟩
   rcases Nat.lt_or_ge j i with h2|h2
   ·exact hlo j hj h2
   ·obtain rfl:j=i:=by omega
    exact hfi
  ·(((refine Am ?_)))
   exact⟨_,rfl,by rw[aKo hlt' hlo hfi],hM⟩
 ·intro hge
  (((refine Aj ?_)))
  exact⟨_,rfl,by rw[aAu fun j hj=>hlo j hj (by omega)],hM⟩
theorem aWj {r:Res} {cl:Value} {f:Prp→Bool} (xs:List Prp) (hl:xs.length≤maxLen) (hc:Clo prog H w0 r cl Chg.prv f) (hs:Sl H 101 A (xs.map Prp.fds)) (hM:Mem H w0 (r::R) w):
  Calls prog 29 #[.slice A xs.length a,cl] w fun en w'=>∃ v,en=.returned v∧v=.bool (xs.any f)∧Mem H w0 (r::R) w':=by
 refine Ec ?_
 unfold Cp
 refine Bi (aWi xs hl hc hs hM) ?_
 rintro v w2 ⟨rfl,hM⟩
 refine Ab trivial ?_
 exact⟨_,rfl,by rw[← aFh],hM⟩
theorem aWk {r:Res} {cl:Value} {f:Wl→Bool} (xs:List Wl) (hl:xs.length≤maxLen) (hc:Clo prog H w0 r cl wv f) (hs:Sl H 3 A (xs.map Wl.fds)) (hM:Mem H w0 (r::R) w):
  Calls prog 100 #[.slice A xs.length a,cl] w fun en w'=>∃ v,en=.returned v∧v=.int .i64 (ixF f xs)∧Mem H w0 (r::R) w':=by
 refine Ev ?_
 unfold Cx
 have hl':xs.length≤9223372036854775807:=hl
 (((refine Ab trivial ?_)))
 refine⟨fun v w'=>∃ i:Nat,v=.int .i64 i∧i≤xs.length∧(∀ j (hj:j<xs.length),j<i→f xs[j]=false)∧Mem H w0 (r::R) w',fun v _=>match v with | .int _ k=>xs.length - k.toNat|_=>0,⟨0,rfl,by omega,fun j _ h=>by omega,hM⟩,?_⟩
 rintro v u w3 ⟨i,rfl,hi,hlo,hM⟩
 (((refine Aw trivial ?_ ?_)))
 ·intro hlt
  have hlt':i<xs.length:=by omega
  (((refine Am ?_));(refine Ci ‹_› ?_ ?_ ?_);(focus (simp only[List.length_map];omega));(focus (simp only[List.length_map];first|done|omega));((intro _ _ hA));(cases hA);(refine Cb hM ‹_› (By ?_) ?_);(focus omega))
  refine hc _ _ _ _ _ hM (fun w hM=>?_)
  cases hfi:f xs[i]
  ·(((refine Aj ?_;refine Ab ?_ ?_));(focus omega))
   refine⟨⟨i+1,rfl,by omega,fun j hj hji=>?_,hM⟩,by simp only;omega⟩
   rcases Nat.lt_or_ge j i with h2|h2
   ·exact hlo j hj h2
   ·obtain rfl:j=i:=by omega
    exact hfi
  ·(((refine Am ?_)))
   exact⟨_,rfl,by rw[aKo hlt' hlo hfi],hM⟩
 ·intro hge
  (((refine Aj ?_)))
  exact⟨_,rfl,by rw[aAu fun j hj=>hlo j hj (by omega)],hM⟩
theorem aWl {r:Res} {cl:Value} {f:Wl→Bool} (xs:List Wl) (hl:xs.length≤maxLen) (hc:Clo prog H w0 r cl wv f) (hs:Sl H 3 A (xs.map Wl.fds)) (hM:Mem H w0 (r::R) w):
  Calls prog 32 #[.slice A xs.length a,cl] w fun en w'=>∃ v,en=.returned v∧v=.bool (xs.any f)∧Mem H w0 (r::R) w':=by
 refine Ek ?_
 unfold Cr
 refine Bi (aWk xs hl hc hs hM) ?_
 rintro v w2 ⟨rfl,hM⟩
 refine Ab trivial ?_
 exact⟨_,rfl,by rw[← aFh],hM⟩
end
end Go.Proofs.YtgbenhmdamnmcaaGreat.Cmt
namespace Go.Proofs.YtgbenhmdamnmcaaGreat.Cmt
open Go.Proofs.Tryz
open Go.RowKit Go.Proofs.YtgbenhmdamnmcaaGreat.Chg
section
variable {H:Hp} {w0 w:World} {L R:List Res} {P Q W:Option Addr} {pc qc wc g:Nat} {qs:List (List Fd)} {c:Cm}
theorem aAr (n:Int) (w:World):Calls prog 25 #[.int .i64 n] w fun en w'=>en=.returned (.bool (decide (1≤n∧n≤64)))∧St w [] w':=by
 have hM:=Mem.start (Fz.of w)
 refine Zn ?_
 unfold Oo
 (((refine Aw trivial ?_ ?_)))
 ·intro h
  (((refine Ae ?_;refine Ab trivial ?_;refine Ae ?_)))
  (((refine Aw trivial ?_ ?_))) <;>
  ·intro h2
   (((refine Ab trivial ?_)))
   exact⟨by simp;omega,hM.st⟩
 ·intro h
  (((refine Bv ?_;refine Bv ?_;refine Ab trivial ?_)))
  exact⟨by simp;omega,hM.st⟩
instance (n:Int):PurC prog 25 [.int .i64 n] True (.bool (decide (1≤n∧n≤64))):=⟨fun _ w=>aAr n w⟩
instance (n:Nat):One (fv n):=⟨rfl⟩
instance:FunC prog 26:=⟨by kernel_rfl⟩
instance:FunC prog 30:=⟨by kernel_rfl⟩
theorem aMj (s:ByteArray) (w:World):Calls prog 26 #[.string s] w fun en w'=>en=.returned (.bool (longS s))∧St w [] w':=by
 have hM:=Mem.start (Fz.of w)
 refine Vc ?_
 unfold Lv
 (((refine Ab trivial ?_)))
 (((refine Aw trivial ?_ ?_)))
 all_goals
  intro h
  skip
  exact⟨by unfold longS;simp;omega,hM.st⟩
instance (s:ByteArray):PurC prog 26 [.string s] True (.bool (longS s)):=⟨fun _ w=>aMj s w⟩
theorem aSn (r:Res):Clo prog H w0 r (fv 26) (fun s:ByteArray=>Value.string s) longS:=fun y R w K X hM hk=>
 Bn hM (aMj y _) hk
theorem aKp (p:Prp) (w:World):Calls prog 30 #[Chg.prv p] w fun en w'=>en=.returned (.bool (!decide p.right))∧St w [] w':=by
 have hM:=Mem.start (Fz.of w)
 refine Ve ?_
 unfold Lx
 (((refine Bh hM ?_;clear hM;intro _ _ hM;refine An hM ?_;refine Bl hM ?_ ?_));(focus (first|exact trivial|assumption|omega));((clear hM;intro _ hM;refine Ab trivial ?_)))
 exact⟨rfl,hM.st⟩
theorem aWm (r:Res):Clo prog H w0 r (fv 30) Chg.prv (fun p:Prp=>!decide p.right):=fun y R w K X hM hk=>
 Bn hM (aKp y _) hk
abbrev lgR (g:Nat):Res:=fb g 40 [.one (fv 26)]
theorem aZo (x:Wl) (hM:Mem H w0 (lgR g::R) w):Calls prog 27 #[wv x,.pointer (some ⟨g,0,none⟩)] w fun en w'=>∃ v,en=.returned v∧v=.bool x.odd∧Mem H w0 (lgR g::R) w':=by
 refine Vd ?_
 unfold Lw
 (((refine Bh hM ?_;clear hM;intro _ _ hM;refine Ab trivial ?_;refine An hM ?_;refine Bl hM ?_ ?_));(focus (first|exact trivial|assumption|omega));((clear hM;intro _ hM;refine Ab trivial ?_)))
 unfold Wl.odd
 by_cases h:1≤x.name∧x.name≤64
 ·rw[decide_eq_true h]
  try simp only[Bool.not_true]
  (((refine Ae ?_;refine Ab trivial ?_;refine Ae ?_;refine An hM ?_;refine Ae ?_)))
  (((refine Aw trivial ?_ ?_)))
  ·intro h1
   (((refine Ab trivial ?_;(iterate 3 refine Av ?_);refine Ab trivial ?_;(iterate 4 refine Av ?_);refine Ab trivial ?_)))
   exact⟨_,rfl,by rw[decide_eq_true h1];rfl,hM.sub⟩
  ·intro h1
   (((refine Ab trivial ?_;refine Ae ?_;refine Ab trivial ?_;refine Ae ?_;refine An hM ?_;refine Ae ?_)))
   (((refine Aw trivial ?_ ?_)))
   ·intro h2
    (((refine Ab trivial ?_;(iterate 4 refine Av ?_);refine Ab trivial ?_)))
    exact⟨_,rfl,by rw[decide_eq_true (show 4611686018427387903<x.card by omega)];simp,hM.sub⟩
   ·intro h2
    (((refine Ab trivial ?_;refine Ae ?_;refine An hM ?_;refine Ae ?_;refine Ab trivial ?_;refine Ae ?_;refine An hM ?_;refine Ae ?_;refine Bl hM ?_ ?_));(focus (first|exact trivial|assumption|omega));((clear hM;intro _ hM;refine Ab trivial ?_)))
    exact⟨_,rfl,by rw[decide_eq_false h1,decide_eq_false (show ¬4611686018427387903<x.card by omega)];simp,hM.sub⟩
 ·rw[decide_eq_false h]
  try simp only[Bool.not_false]
  ((((iterate 3 refine Av ?_);refine Ab trivial ?_;(iterate 3 refine Av ?_);refine Ab trivial ?_;(iterate 4 refine Av ?_);refine Ab trivial ?_)))
  exact⟨_,rfl,rfl,hM.sub⟩
theorem aWn (g:Nat):Clo prog H w0 (lgR g) (.func (.func 27) #[] #[.pointer (some ⟨g,0,none⟩)]) wv Wl.odd:=fun y R w K X hM hk=>
 En (aZo y hM) (by rintro e w' ⟨v,rfl,rfl,h⟩;exact hk w' h)
theorem Ei (hc:CmF H P Q W qs c) (hf:Fz H w):Calls prog 9 #[cv P pc Q qc W wc c] w fun en w'=>en=.returned (.bool c.right)∧St w [] w':=by
 have hM:=Mem.start hf
 obtain⟨h1,h2,h3,h4,hl1,hl2,hl3,hl4⟩:=hc
 have hl1':c.props.length≤9223372036854775807:=hl1
 have hl2':c.path.length≤9223372036854775807:=hl2
 have hl3':c.wels.length≤9223372036854775807:=hl3
 have hl4':c.info.size≤9223372036854775807:=hl4
 have hq:qs.length=c.path.length:=h3.len
 refine Zl ?_
 unfold Om
 (((refine Bh hM ?_;clear hM;intro _ _ hM)))
 rename_i g1 _
 refine⟨fun v w'=>v=.bool (!decide c.fits)∧hM.now w',?_,?_⟩
 ·(((refine Ab trivial ?_;refine An hM ?_)))
  (((refine Aw trivial ?_ ?_)))
  ·intro k1
   ((((iterate 3 refine Av ?_);refine Ab trivial ?_;(iterate 4 refine Av ?_);refine Ab trivial ?_;(iterate 4 refine Av ?_);refine Ab trivial ?_;(iterate 4 refine Av ?_);refine Ab trivial ?_;(iterate 4 refine Av ?_);refine Ab trivial ?_;(iterate 4 refine Av ?_);refine Ab trivial ?_)))
   exact⟨by rw[decide_eq_false (fun h=>by unfold Cm.fits at h;omega)];rfl,hM⟩
  ·intro k1
   (((refine Ae ?_;refine Ab trivial ?_;refine Ae ?_;refine An hM ?_;refine Ae ?_)))
   (((refine Aw trivial ?_ ?_)))
   ·intro k2
    (((refine Ab trivial ?_;(iterate 4 refine Av ?_);refine Ab trivial ?_;(iterate 4 refine Av ?_);refine Ab trivial ?_;(iterate 4 refine Av ?_);refine Ab trivial ?_;(iterate 4 refine Av ?_);refine Ab trivial ?_;(iterate 4 refine Av ?_);refine Ab trivial ?_)))
    exact⟨by rw[decide_eq_false (fun h=>by unfold Cm.fits at h;omega)];rfl,hM⟩
   ·intro k2
    (((refine Ab trivial ?_;refine Ae ?_;refine Ab trivial ?_;refine Ae ?_;refine An hM ?_;refine Ae ?_;refine Bl hM ?_ (fun _ hM2=>?_)));(focus (first|exact trivial|assumption|omega));((replace hM:=hM2;clear hM2;refine Ae ?_;refine Ab trivial ?_;refine Ab trivial ?_)))
    by_cases k3:1≤c.author∧c.author≤64
    case neg=>
     rw[decide_eq_false k3]
     simp only[Bool.not_false]
     ((((iterate 4 refine Av ?_);refine Ab trivial ?_;(iterate 4 refine Av ?_);refine Ab trivial ?_;(iterate 4 refine Av ?_);refine Ab trivial ?_;(iterate 4 refine Av ?_);refine Ab trivial ?_)))
     exact⟨by rw[decide_eq_false (fun h=>by unfold Cm.fits at h;omega)];rfl,hM⟩
    rw[decide_eq_true k3]
    simp only[Bool.not_true]
    (((refine Ae ?_;refine Ab trivial ?_;refine Ae ?_;refine An hM ?_;refine Ae ?_;refine Ab trivial ?_;refine Ae ?_)))
    (((refine Aw trivial ?_ ?_)))
    ·intro k4
     (((refine Ab trivial ?_;(iterate 4 refine Av ?_);refine Ab trivial ?_;(iterate 4 refine Av ?_);refine Ab trivial ?_;(iterate 4 refine Av ?_);refine Ab trivial ?_)))
     exact⟨by rw[decide_eq_false (fun h=>by unfold Cm.fits at h;omega)];rfl,hM⟩
    ·intro k4
     (((refine Ab trivial ?_;refine Ae ?_;refine Ab trivial ?_;refine Ae ?_;refine An hM ?_;refine Ae ?_;refine Ab trivial ?_;refine Ae ?_)))
     (((refine Aw trivial ?_ ?_)))
     ·intro k5
      (((refine Ab trivial ?_;(iterate 4 refine Av ?_);refine Ab trivial ?_;(iterate 4 refine Av ?_);refine Ab trivial ?_)))
      exact⟨by rw[decide_eq_false (fun h=>by unfold Cm.fits at h;omega)];rfl,hM⟩
     ·intro k5
      (((refine Ab trivial ?_;refine Ae ?_;refine Ab trivial ?_;refine Ae ?_;refine An hM ?_;refine Ae ?_;refine Ab trivial ?_;refine Ae ?_)))
      (((refine Aw trivial ?_ ?_)))
      ·intro k6
       (((refine Ab trivial ?_;(iterate 4 refine Av ?_);refine Ab trivial ?_)))
       exact⟨by rw[decide_eq_false (fun h=>by unfold Cm.fits at h;omega)];rfl,hM⟩
      ·intro k6
       (((refine Ab trivial ?_;refine Ae ?_;refine Ab trivial ?_;refine Ae ?_;refine An hM ?_;refine Ae ?_;refine Ab trivial ?_;refine Ae ?_)))
       (((refine Aw trivial ?_ ?_)))
       ·intro k7
        (((refine Ab trivial ?_)))
        exact⟨by rw[decide_eq_false (fun h=>by unfold Cm.fits at h;omega)];rfl,hM⟩
       ·intro k7
        (((refine Ab trivial ?_)))
        exact⟨by rw[decide_eq_true (show c.fits by unfold Cm.fits;omega)];rfl,hM⟩
 rintro v u w2 ⟨rfl,hM⟩
 by_cases hfit:c.fits
 case neg=>
  rw[decide_eq_false hfit]
  try simp only[Bool.not_false]
  (((refine Am ?_)))
  exact⟨by unfold Cm.right;rw[decide_eq_false hfit];rfl,hM.st⟩
 rw[decide_eq_true hfit]
 try simp only[Bool.not_true]
 (((refine Aj ?_;refine Bf hM ?_;clear hM;intro _ _ hM;refine Az hM ?_;clear hM;intro _ hM;refine Ab trivial ?_;refine Ab trivial ?_;refine An hM ?_;refine Ab trivial ?_)))
 rename_i g2 _ _
 refine⟨fun v w'=>∃ i:Nat,v=.int .i64 i∧i≤c.path.length∧(c.path.take i).any Rn.odd=false∧Mem H w [lgR g2,fb g1 28 (cfd P pc Q qc W wc c)] w',fun v _=>match v with | .int _ k=>c.path.length - k.toNat|_=>0,⟨0,rfl,by omega,rfl,hM.sub⟩,?_⟩
 clear hM
 rintro v u6 w3 ⟨i,rfl,hi,hno,hM⟩
 (((refine Aw trivial ?_ ?_)))
 ·intro hlt
  have hlt':i<c.path.length:=by omega
  obtain⟨q,hqi,C,cc,rfl,hC,hCl⟩:=h3.at_ hlt'
  have hCl':c.path[i].wraps.length≤9223372036854775807:=hCl
  (((refine Am ?_)))
  refine Ci h2 (by omega) hq.symm (fun bb oo hB=>?_)
  cases hB
  refine Cb hM h2 hqi ?_
  (((refine Bf hM ?_;clear hM;intro _ _ hM;refine Az hM ?_;clear hM;intro _ hM)))
  rename_i g3 _ _
  refine⟨fun v w'=>v=.bool c.path[i].odd∧Mem H w [lgR g2,fb g1 28 (cfd P pc (some ⟨bb,oo,none⟩) qc W wc c)] w',?_,?_⟩
  ·(((refine Ab trivial ?_;refine An hM ?_;refine Ab trivial ?_)))
   (((refine Aw trivial ?_ ?_)))
   ·intro k
    ((((iterate 4 refine Av ?_);refine Ab trivial ?_)))
    exact⟨by unfold Rn.odd;rw[decide_eq_true (show 64<c.path[i].wraps.length by omega)];rfl,hM.sub⟩
   ·intro k
    (((refine Ae ?_;refine Ab trivial ?_;refine Ae ?_;refine An hM ?_;refine Ae ?_;refine An hM ?_;refine Ae ?_)))
    refine Bi (aWh c.path[i].wraps hCl (aSn _) hC (hM.at_ (lgR g2))) ?_
    rintro v w4 ⟨rfl,hM⟩
    (((refine Ab trivial ?_)))
    exact⟨by unfold Rn.odd;rw[decide_eq_false (show ¬64<c.path[i].wraps.length by omega)];rfl,hM.sub⟩
  clear hM
  rintro v u9 w4 ⟨rfl,hM⟩
  have htk:(c.path.take (i+1)).any Rn.odd=((c.path.take i).any Rn.odd||c.path[i].odd):=by
   rw[List.take_succ_eq_append_getElem hlt',List.any_append]
   simp
  cases ho:c.path[i].odd
  ·(((refine Aj ?_;refine Ab ?_ ?_));(focus omega))
   exact⟨⟨i+1,rfl,by omega,by rw[htk,hno,ho];rfl,hM⟩,by simp only;omega⟩
  ·(((refine Am ?_)))
   refine⟨?_,hM.st⟩
   have:c.path.any Rn.odd=true:=List.any_eq_true.2 ⟨_,List.getElem_mem hlt',ho⟩
   unfold Cm.right
   rw[decide_eq_true hfit,this]
   rfl
 ·intro hge
  obtain rfl:i=c.path.length:=by omega
  rw[List.take_length]at hno
  (((refine Aj ?_;refine Ab trivial ?_;refine An hM ?_)))
  refine Bi (aWj c.props hl1 (aWm _) h1 (hM.at_ (lgR g2))) ?_
  rintro v w4 ⟨rfl,hM⟩
  unfold Cm.right
  rw[decide_eq_true hfit,hno]
  cases hp:c.props.any (fun p=>!decide p.right)
  ·(((refine Ab trivial ?_;refine Ae ?_;refine Ab trivial ?_;refine Ae ?_;refine An hM ?_;refine Ae ?_;refine Ab trivial ?_;refine Ae ?_)))
   refine Bi (aWl c.wels hl3 (aWn _) h4 (hM.at_ (lgR g2))) ?_
   rintro v w5 ⟨rfl,hM⟩
   (((refine Ae ?_;refine Ab trivial ?_;refine Ab trivial ?_)))
   exact⟨rfl,hM.st⟩
  ·(((refine Ab trivial ?_;(iterate 5 refine Bv ?_);refine Ab trivial ?_)))
   exact⟨rfl,hM.st⟩
end
end Go.Proofs.YtgbenhmdamnmcaaGreat.Cmt
namespace Go.Proofs.YtgbenhmdamnmcaaGreat.Cmt
open Go.Proofs.Tryz
open Go.RowKit Go.Proofs.YtgbenhmdamnmcaaGreat.Chg
section
variable {H:Hp} {w0 w:World} {L R:List Res} {P Q W:Option Addr} {pc qc wc g:Nat} {qs:List (List Fd)} {c:Cm}
theorem Ug {α:Type} {f:α→Bool} {xs:List α} {i:Nat} (h:i<xs.length):(xs.take (i+1)).any f=((xs.take i).any f||f xs[i]):=by
 rw[List.take_succ_eq_append_getElem h,List.any_append]
 simp
theorem aFi {α:Type} {f:α→Bool} {xs:List α} {i:Nat} (h:i<xs.length) (hf:f xs[i]=true):xs.any f=true:=List.any_eq_true.2 ⟨_,List.getElem_mem h,hf⟩
theorem Qb (hc:CmF H P Q W qs c) (hf:Fz H w):Calls prog 10 #[cv P pc Q qc W wc c] w fun en w'=>en=.returned (.bool c.right)∧St w [] w':=by
 have hM:=Mem.start hf
 obtain⟨h1,h2,h3,h4,hl1,hl2,hl3,hl4⟩:=hc
 have hl1':c.props.length≤9223372036854775807:=hl1
 have hl2':c.path.length≤9223372036854775807:=hl2
 have hl3':c.wels.length≤9223372036854775807:=hl3
 have hl4':c.info.size≤9223372036854775807:=hl4
 have hq:qs.length=c.path.length:=h3.len
 refine Sx ?_
 unfold Kc
 (((refine Bh hM ?_;clear hM;intro _ _ hM)))
 rename_i g1 _
 refine⟨fun v w'=>v=.bool (!decide c.fits)∧hM.now w',?_,?_⟩
 ·(((refine Ab trivial ?_;refine An hM ?_)))
  (((refine Aw trivial ?_ ?_)))
  ·intro k1
   ((((iterate 3 refine Av ?_);refine Ab trivial ?_;(iterate 3 refine Av ?_);refine Ab trivial ?_;(iterate 3 refine Av ?_);refine Ab trivial ?_;(iterate 4 refine Av ?_);refine Ab trivial ?_;(iterate 4 refine Av ?_);refine Ab trivial ?_;(iterate 4 refine Av ?_);refine Ab trivial ?_;(iterate 4 refine Av ?_);refine Ab trivial ?_)))
   exact⟨by rw[decide_eq_false (fun h=>by unfold Cm.fits at h;omega)];rfl,hM⟩
  ·intro k1
   (((refine Ae ?_;refine Ab trivial ?_;refine Ae ?_;refine An hM ?_;refine Ae ?_)))
   (((refine Aw trivial ?_ ?_)))
   ·intro k2
    (((refine Ab trivial ?_;(iterate 3 refine Av ?_);refine Ab trivial ?_;(iterate 3 refine Av ?_);refine Ab trivial ?_;(iterate 4 refine Av ?_);refine Ab trivial ?_;(iterate 4 refine Av ?_);refine Ab trivial ?_;(iterate 4 refine Av ?_);refine Ab trivial ?_;(iterate 4 refine Av ?_);refine Ab trivial ?_)))
    exact⟨by rw[decide_eq_false (fun h=>by unfold Cm.fits at h;omega)];rfl,hM⟩
   ·intro k2
    (((refine Ab trivial ?_;refine Ae ?_;refine Ab trivial ?_;refine Ae ?_;refine An hM ?_;refine Ae ?_)))
    (((refine Aw trivial ?_ ?_)))
    ·intro k3
     (((refine Ab trivial ?_;(iterate 3 refine Av ?_);refine Ab trivial ?_;(iterate 4 refine Av ?_);refine Ab trivial ?_;(iterate 4 refine Av ?_);refine Ab trivial ?_;(iterate 4 refine Av ?_);refine Ab trivial ?_;(iterate 4 refine Av ?_);refine Ab trivial ?_)))
     exact⟨by rw[decide_eq_false (fun h=>by unfold Cm.fits at h;omega)];rfl,hM⟩
    ·intro k3
     (((refine Ab trivial ?_;refine Ae ?_;refine Ab trivial ?_;refine Ae ?_;refine An hM ?_;refine Ae ?_)))
     (((refine Aw trivial ?_ ?_)))
     ·intro k8
      (((refine Ab trivial ?_;(iterate 4 refine Av ?_);refine Ab trivial ?_;(iterate 4 refine Av ?_);refine Ab trivial ?_;(iterate 4 refine Av ?_);refine Ab trivial ?_;(iterate 4 refine Av ?_);refine Ab trivial ?_)))
      exact⟨by rw[decide_eq_false (fun h=>by unfold Cm.fits at h;omega)];rfl,hM⟩
     ·intro k8
      (((refine Ab trivial ?_;refine Ae ?_;refine Ab trivial ?_;refine Ae ?_;refine An hM ?_;refine Ae ?_;refine Ab trivial ?_;refine Ae ?_)))
      (((refine Aw trivial ?_ ?_)))
      ·intro k4
       (((refine Ab trivial ?_;(iterate 4 refine Av ?_);refine Ab trivial ?_;(iterate 4 refine Av ?_);refine Ab trivial ?_;(iterate 4 refine Av ?_);refine Ab trivial ?_)))
       exact⟨by rw[decide_eq_false (fun h=>by unfold Cm.fits at h;omega)];rfl,hM⟩
      ·intro k4
       (((refine Ab trivial ?_;refine Ae ?_;refine Ab trivial ?_;refine Ae ?_;refine An hM ?_;refine Ae ?_;refine Ab trivial ?_;refine Ae ?_)))
       (((refine Aw trivial ?_ ?_)))
       ·intro k5
        (((refine Ab trivial ?_;(iterate 4 refine Av ?_);refine Ab trivial ?_;(iterate 4 refine Av ?_);refine Ab trivial ?_)))
        exact⟨by rw[decide_eq_false (fun h=>by unfold Cm.fits at h;omega)];rfl,hM⟩
       ·intro k5
        (((refine Ab trivial ?_;refine Ae ?_;refine Ab trivial ?_;refine Ae ?_;refine An hM ?_;refine Ae ?_;refine Ab trivial ?_;refine Ae ?_)))
        (((refine Aw trivial ?_ ?_)))
        ·intro k6
         (((refine Ab trivial ?_;(iterate 4 refine Av ?_);refine Ab trivial ?_)))
         exact⟨by rw[decide_eq_false (fun h=>by unfold Cm.fits at h;omega)];rfl,hM⟩
        ·intro k6
         (((refine Ab trivial ?_;refine Ae ?_;refine Ab trivial ?_;refine Ae ?_;refine An hM ?_;refine Ae ?_;refine Ab trivial ?_;refine Ae ?_)))
         (((refine Aw trivial ?_ ?_)))
         ·intro k7
          (((refine Ab trivial ?_)))
          exact⟨by rw[decide_eq_false (fun h=>by unfold Cm.fits at h;omega)];rfl,hM⟩
         ·intro k7
          (((refine Ab trivial ?_)))
          exact⟨by rw[decide_eq_true (show c.fits by unfold Cm.fits;omega)];rfl,hM⟩
 rintro v u w2 ⟨rfl,hM⟩
 by_cases hfit:c.fits
 case neg=>
  rw[decide_eq_false hfit]
  try simp only[Bool.not_false]
  (((refine Am ?_)))
  exact⟨by unfold Cm.right;rw[decide_eq_false hfit];rfl,hM.st⟩
 rw[decide_eq_true hfit]
 try simp only[Bool.not_true]
 (((refine Aj ?_)))
 refine⟨fun v w'=>∃ i:Nat,v=.int .i64 i∧i≤c.props.length∧(c.props.take i).any (fun p=>!decide p.right)=false∧Mem H w [fb g1 28 (cfd P pc Q qc W wc c)] w',fun v _=>match v with | .int _ k=>c.props.length - k.toNat|_=>0,⟨0,rfl,by omega,rfl,hM.sub⟩,?_⟩
 clear hM
 rintro v u4 w3 ⟨i,rfl,hi,hno,hM⟩
 (((refine Ab trivial ?_;refine An hM ?_;refine Ab trivial ?_)))
 (((refine Aw trivial ?_ ?_)))
 ·intro hlt
  have hlt':i<c.props.length:=by omega
  (((refine Am ?_;refine Ab trivial ?_;refine An hM ?_));(refine Ci ‹_› ?_ ?_ ?_);(focus (simp only[List.length_map];omega));(focus (simp only[List.length_map];first|done|omega));((intro _ _ hA));(cases hA);(refine Cb hM ‹_› (By ?_) ?_);(focus omega);((refine Bl hM ?_ ?_));(focus (first|exact trivial|assumption|omega));((clear hM;intro _ hM;refine Ab trivial ?_)))
  by_cases hr:c.props[i].right
  ·rw[decide_eq_true hr]
   try simp only[Bool.not_true]
   (((refine Aj ?_;refine Ab ?_ ?_));(focus omega))
   exact⟨⟨i+1,rfl,by omega,by rw[Ug hlt',hno,decide_eq_true hr];rfl,hM⟩,by simp only;omega⟩
  ·rw[decide_eq_false hr]
   try simp only[Bool.not_false]
   (((refine Am ?_)))
   refine⟨?_,hM.st⟩
   unfold Cm.right
   rw[aFi (f:=fun p:Prp=>!decide p.right) hlt' (by simp[hr])]
   simp
 intro hge
 obtain rfl:i=c.props.length:=by omega
 rw[List.take_length]at hno
 (((refine Aj ?_)))
 refine⟨fun v w'=>∃ i:Nat,v=.int .i64 i∧i≤c.path.length∧(c.path.take i).any Rn.odd=false∧Mem H w [fb g1 28 (cfd P pc Q qc W wc c)] w',fun v _=>match v with | .int _ k=>c.path.length - k.toNat|_=>0,⟨0,rfl,by omega,rfl,hM.sub⟩,?_⟩
 clear hM
 rintro v u9 w4 ⟨i,rfl,hi,hno2,hM⟩
 (((refine Ab trivial ?_;refine An hM ?_;refine Ab trivial ?_)))
 (((refine Aw trivial ?_ ?_)))
 ·intro hlt
  have hlt':i<c.path.length:=by omega
  obtain⟨q,hqi,C,cc,rfl,hC,hCl⟩:=h3.at_ hlt'
  have hCl':c.path[i].wraps.length≤9223372036854775807:=hCl
  have hodd:∀ {p:Rn},p.odd=true→p=c.path[i]→c.right=false:=fun ho he=>by
   unfold Cm.right
   rw[aFi (f:=Rn.odd) hlt' (by rw[← he];exact ho)]
   simp
  obtain⟨bb,oo,rfl⟩:=h2.some_ (by omega)
  (((refine Am ?_;refine Ab trivial ?_;refine An hM ?_;refine Ab ?_ ?_));(focus omega);((refine Ab trivial ?_)))
  try refine Ip hM h2 hqi ?_
  (((refine Ab trivial ?_)))
  (((refine Aw trivial ?_ ?_)))
  ·intro k
   (((refine Am ?_)))
   exact⟨by rw[hodd (p:=c.path[i]) (by unfold Rn.odd;rw[decide_eq_true (show 64<c.path[i].wraps.length by omega)];rfl) rfl],hM.st⟩
  ·intro k
   (((refine Aj ?_)))
   refine⟨fun v w'=>∃ k:Nat,v=.int .i64 k∧k≤c.path[i].wraps.length∧(c.path[i].wraps.take k).any longS=false∧Mem H w [fb g1 28 (cfd P pc (some ⟨bb,oo,none⟩) qc W wc c)] w',fun v _=>match v with | .int _ k=>c.path[i].wraps.length - k.toNat|_=>0,⟨0,rfl,by omega,rfl,hM.sub⟩,?_⟩
   clear hM
   rintro v u14 w5 ⟨m,rfl,hm,hno3,hM⟩
   (((refine Ab trivial ?_;refine An hM ?_;refine Ab ?_ ?_));(focus omega);((refine Ab trivial ?_)))
   refine Ip hM h2 hqi ?_
   (((refine Ab trivial ?_)))
   (((refine Aw trivial ?_ ?_)))
   ·intro hlt3
    have hlt3':m<c.path[i].wraps.length:=by omega
    (((refine Am ?_;refine Ab trivial ?_;refine An hM ?_;refine Ab ?_ ?_));(focus omega);((refine Ab trivial ?_)))
    refine Ip hM h2 hqi ?_
    ((refine Ci ‹_› ?_ ?_ ?_);(focus (simp only[List.length_map];omega));(focus (simp only[List.length_map];first|done|omega));((intro _ _ hA));(cases hA);(refine Cb hM ‹_› (By ?_) ?_);(focus omega);((refine Ab trivial ?_)))
    (((refine Aw trivial ?_ ?_)))
    ·intro k9
     (((refine Am ?_)))
     have hs:longS c.path[i].wraps[m]=true:=by unfold longS;simp;omega
     exact⟨by rw[hodd (p:=c.path[i]) (by unfold Rn.odd;rw[aFi (f:=longS) hlt3' hs];simp) rfl],hM.st⟩
    ·intro k9
     (((refine Aj ?_;refine Ab ?_ ?_));(focus omega))
     have hs:longS c.path[i].wraps[m]=false:=by unfold longS;simp;omega
     exact⟨⟨m+1,rfl,by omega,by rw[Ug hlt3',hno3,hs];rfl,hM⟩,by simp only;omega⟩
   ·intro hge3
    obtain rfl:m=c.path[i].wraps.length:=by omega
    rw[List.take_length]at hno3
    (((refine Aj ?_;refine Ab ?_ ?_));(focus omega))
    have hs:c.path[i].odd=false:=by unfold Rn.odd;rw[hno3,decide_eq_false (show ¬64<c.path[i].wraps.length by omega)];rfl
    exact⟨⟨i+1,rfl,by omega,by rw[Ug hlt',hno2,hs];rfl,hM⟩,by simp only;omega⟩
 intro hge2
 obtain rfl:i=c.path.length:=by omega
 rw[List.take_length]at hno2
 (((refine Aj ?_)))
 refine⟨fun v w'=>∃ i:Nat,v=.int .i64 i∧i≤c.wels.length∧(c.wels.take i).any Wl.odd=false∧Mem H w [fb g1 28 (cfd P pc Q qc W wc c)] w',fun v _=>match v with | .int _ k=>c.wels.length - k.toNat|_=>0,⟨0,rfl,by omega,rfl,hM.sub⟩,?_⟩
 clear hM
 rintro v u19 w6 ⟨i,rfl,hi,hno3,hM⟩
 (((refine Ab trivial ?_;refine An hM ?_;refine Ab trivial ?_)))
 (((refine Aw trivial ?_ ?_)))
 ·intro hlt
  have hlt':i<c.wels.length:=by omega
  obtain⟨wb,wo,rfl⟩:=h4.some_ (by simp;omega)
  (((refine Am ?_;refine Ab trivial ?_;refine An hM ?_));(refine Ci ‹_› ?_ ?_ ?_);(focus (simp only[List.length_map];omega));(focus (simp only[List.length_map];first|done|omega));((intro _ _ hA));(cases hA);(refine Cb hM ‹_› (By ?_) ?_);(focus omega);((refine Bf hM ?_;clear hM;intro _ _ hM;refine Az hM ?_;clear hM;intro _ hM)))
  rename_i g3 _
  refine⟨fun v w'=>v=.bool c.wels[i].odd∧Mem H w [fb g1 28 (cfd P pc Q qc (some ⟨wb,wo,none⟩) wc c)] w',?_,?_⟩
  ·generalize c.wels[i]=x at hM
   unfold Wl.odd longS
   (((refine Ab trivial ?_;refine An hM ?_)))
   (((refine Aw trivial ?_ ?_)))
   ·intro k1
    ((((iterate 3 refine Av ?_);refine Ab trivial ?_;(iterate 3 refine Av ?_);refine Ab trivial ?_;(iterate 3 refine Av ?_);refine Ab trivial ?_;(iterate 4 refine Av ?_);refine Ab trivial ?_)))
    exact⟨by rw[decide_eq_false (show ¬(1≤x.name∧x.name≤64) by omega)];rfl,hM.sub⟩
   ·intro k1
    (((refine Ae ?_;refine Ab trivial ?_;refine Ae ?_;refine An hM ?_;refine Ae ?_)))
    (((refine Aw trivial ?_ ?_)))
    ·intro k2
     (((refine Ab trivial ?_;(iterate 3 refine Av ?_);refine Ab trivial ?_;(iterate 3 refine Av ?_);refine Ab trivial ?_;(iterate 4 refine Av ?_);refine Ab trivial ?_)))
     exact⟨by rw[decide_eq_false (show ¬(1≤x.name∧x.name≤64) by omega)];rfl,hM.sub⟩
    ·intro k2
     (((refine Ab trivial ?_;refine Ae ?_;refine Ab trivial ?_;refine Ae ?_;refine An hM ?_;refine Ae ?_)))
     (((refine Aw trivial ?_ ?_)))
     ·intro k3
      (((refine Ab trivial ?_;(iterate 3 refine Av ?_);refine Ab trivial ?_;(iterate 4 refine Av ?_);refine Ab trivial ?_)))
      exact⟨by rw[decide_eq_true k3];simp,hM.sub⟩
     ·intro k3
      (((refine Ab trivial ?_;refine Ae ?_;refine Ab trivial ?_;refine Ae ?_;refine An hM ?_;refine Ae ?_)))
      (((refine Aw trivial ?_ ?_)))
      ·intro k4
       (((refine Ab trivial ?_;(iterate 4 refine Av ?_);refine Ab trivial ?_)))
       exact⟨by rw[decide_eq_true (show 4611686018427387903<x.card by omega)];simp,hM.sub⟩
      ·intro k4
       (((refine Ab trivial ?_;refine Ae ?_;refine Ab trivial ?_;refine Ae ?_;refine An hM ?_;refine Ae ?_;refine Ab trivial ?_;refine Ae ?_)))
       (((refine Aw trivial ?_ ?_)))
       all_goals
        intro k5
        (((refine Ab trivial ?_)))
        exact⟨by simp;omega,hM.sub⟩
  clear hM
  rintro v u23 w7 ⟨rfl,hM⟩
  cases ho:c.wels[i].odd
  ·(((refine Aj ?_;refine Ab ?_ ?_));(focus omega))
   exact⟨⟨i+1,rfl,by omega,by rw[Ug hlt',hno3,ho];rfl,hM⟩,by simp only;omega⟩
  ·(((refine Am ?_)))
   refine⟨?_,hM.st⟩
   unfold Cm.right
   rw[aFi (f:=Wl.odd) hlt' ho]
   simp
 ·intro hge3
  obtain rfl:i=c.wels.length:=by omega
  rw[List.take_length]at hno3
  (((refine Aj ?_)))
  refine⟨?_,hM.st⟩
  unfold Cm.right
  rw[decide_eq_true hfit,hno,hno2,hno3]
  rfl
end
end Go.Proofs.YtgbenhmdamnmcaaGreat.Cmt
namespace Go.Proofs.YtgbenhmdamnmcaaGreat.Cmt
open Go.Proofs.Tryz
open Go.RowKit Go.Proofs.YtgbenhmdamnmcaaGreat.Chg
end Go.Proofs.YtgbenhmdamnmcaaGreat.Cmt
