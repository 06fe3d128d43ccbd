/- CommitIds holds for every input. (The end of the proof.) -/
import Derived.Test.YtgbenhmdamnmcaaGreatPb8
import Derived.Test.YtgbenhmdamnmcaaGreatRows
import Derived.Carry
set_option linter.unusedVariables false
namespace Go.Proofs.YtgbenhmdamnmcaaGreat.Cmt
open Go.Proofs.Tryz
open Go.RowKit Go.Proofs.YtgbenhmdamnmcaaGreat.Chg
theorem aXi {P:Program} {t:TypeId} {q:Bool} {w:World} {K:Value→World→Prop} {X:List PanicEntry→World→Prop} (a:List Int) (s:ByteArray) (h:a.length+s.size≤1000000000000) (hk:K (.string (strOfNums (a++ints s))) w):mop P (Af .add t q (.string (strOfNums a)) (.string s)) w K X:=by
 have:=Ni (P:=P) (t:=t) (q:=q) (w:=w) (K:=K) (X:=X) a (ints s) (by rw[Bm];exact h) hk
 rwa [Sn]at this
section
variable {H:Hp} {w0 w:World} {L R:List Res} {A P Q W:Option Addr} {a pc qc wc g b:Nat} {qs:List (List Fd)} {c:Cm} {out:List Int}
theorem bAq (h:H32) (w:World):Calls prog 39 #[ha h] w fun en w'=>en=.returned (.string (strOfNums h.1))∧St w [] w':=by
 have hM:=Mem.start (Fz.of w)
 refine Vl ?_
 unfold Lu
 (((refine Bb hM ?_;clear hM;intro _ _ hM;refine Ab trivial ?_;refine Hq hM ?_)))
 exact⟨rfl,hM.st⟩
instance (h:H32):PurC prog 39 [.agg (u8s h.1).toArray] True (.string (strOfNums h.1)):=⟨fun _ w=>bAq h w⟩
theorem aTn (s:ByteArray) (hs:s.size≤1000000) (w:World):Calls prog 41 #[.string s] w fun en w'=>en=.returned (.string (strOfNums (textB s)))∧St w [] w':=by
 have hM:=Mem.start (Fz.of w)
 have hn:=Az s.size
 refine Vn ?_
 unfold Lv
 (((refine Ab trivial ?_;refine Bg hM ?_ ?_));(focus (first|exact trivial|assumption|omega));((clear hM;intro _ hM)))
 refine aXi _ _ (by omega) ?_
 skip
 exact⟨rfl,hM.st⟩
instance (s:ByteArray):PurC prog 41 [.string s] (s.size≤1000000) (.string (strOfNums (textB s))):=⟨fun h w=>aTn s h w⟩
theorem aLt (hr:c.right=true) (hc:CmF H P Q W qs c) (hf:Fz H w):Calls prog 14 #[cv P pc Q qc W wc c] w fun en w'=>en=.returned (.string (strOfNums (coreL c)))∧St w [] w':=by
 have hM:=Mem.start hf
 obtain⟨⟨f1,f2,f3,f4,f5,f6⟩,hp,hro,hwo⟩:=Cm.rt hr
 obtain⟨h1,h2,h3,h4,hl1,hl2,hl3,hl4⟩:=hc
 have hq:qs.length=c.path.length:=h3.len
 have b1:=Az c.depth
 have b2:=Az c.author
 have b3:=Az c.props.length
 have b5:=Az c.path.length
 have b4:=Gi (f:=propT) (B:=200) (xs:=c.props) fun p _=>Ji
 refine Uu ?_
 unfold Lm
 (((refine Bb hM ?_;clear hM;intro _ _ hM;refine An trivial ?_;refine Aw hM ?_;refine Bd hM ?_ (fun _ _ hM=>?_)));(focus (first|exact trivial|assumption|omega));((refine An trivial ?_));(refine Aw ‹Mem _ _ _ _› ?_);((refine Bd hM ?_ (fun _ _ hM=>?_)));(focus (first|exact trivial|assumption|omega)))
 refine Dj _ _ (by simp only[List.length_append,c.parent.2.1];omega) ?_
 (((refine An trivial ?_));(refine Aw ‹Mem _ _ _ _› ?_);((refine Bd hM ?_ (fun _ _ hM=>?_)));(focus (first|exact trivial|assumption|omega)))
 refine Dj _ _ (by simp only[List.length_append,c.parent.2.1];omega) ?_
 (((refine An trivial ?_));(refine Aw ‹Mem _ _ _ _› ?_);((refine An trivial ?_;refine Bd hM ?_ (fun _ _ hM=>?_)));(focus (first|exact trivial|assumption|omega)))
 refine Dj _ _ (by simp only[List.length_append,c.parent.2.1];omega) ?_
 (((refine Ba hM ?_;clear hM;intro _ hM)))
 refine⟨fun x v w'=>∃ i:Nat,v=.int .i64 i∧i≤c.props.length∧x=.string (strOfNums (c.parent.1++numB c.depth++numB c.author++numB c.props.length++(c.props.take i).flatMap propT))∧hM.now w',fun _ v _=>match v with | .int _ k=>c.props.length - k.toNat|_=>0,⟨0,rfl,by omega,by simp,hM⟩,?_⟩
 rintro x v u w3 ⟨i,rfl,hi,rfl,hM⟩
 (((refine Ab trivial ?_;refine Ao hM ?_;refine Ab trivial ?_)))
 (((refine Av trivial ?_ ?_)))
 ·intro hlt
  have hlt':i<c.props.length:=by omega
  have hpr:=hp _ (List.getElem_mem hlt')
  have hps:=aFz c.props[i]
  obtain⟨pb,po,rfl⟩:=h1.some_ (by simp;omega)
  have hle:=Kv (f:=propT) (B:=200) (xs:=c.props) (fun p _=>Ji) i hi
  have hpl:=Ji (p:=c.props[i])
  (((refine Am ?_;refine Ab trivial ?_;refine Ao hM ?_));(refine Ca ‹_› ?_ ?_ ?_);(focus (simp only[List.length_map];omega));(focus (simp only[List.length_map];first|done|omega));((intro _ _ hA));(cases hA);(refine Bt hM ‹_› (Bs ?_) ?_);(focus omega);((refine Bg hM ?_ ?_));(focus (first|exact trivial|assumption|omega));((clear hM;intro _ hM;refine Bg hM ?_ ?_));(focus (first|exact trivial|assumption|omega));((clear hM;intro _ hM)))
  refine Ni _ _ (by simp only[List.length_append,c.parent.2.1];unfold propT at hpl;omega) ?_
  (((refine Ab ?_ ?_));(focus omega))
  refine⟨⟨i+1,rfl,by omega,by rw[Gq hlt'];simp only[List.append_assoc];rfl,hM⟩,by simp only;omega⟩
 intro hge
 obtain rfl:i=c.props.length:=by omega
 simp only[List.take_length]
 (((refine Al ?_;refine An trivial ?_;refine Aw hM ?_;refine Bd hM ?_ (fun _ _ hM=>?_)));(focus (first|exact trivial|assumption|omega)))
 refine Dj _ _ (by simp only[List.length_append,c.parent.2.1,c.leaf.2.1];omega) ?_
 (((refine An trivial ?_));(refine Aw ‹Mem _ _ _ _› ?_);((refine Bd hM ?_ (fun _ _ hM=>?_)));(focus (first|exact trivial|assumption|omega)))
 refine Dj _ _ (by simp only[List.length_append,c.parent.2.1,c.leaf.2.1,c.above.2.1];omega) ?_
 (((refine An trivial ?_));(refine Aw ‹Mem _ _ _ _› ?_);((refine An trivial ?_;refine Bd hM ?_ (fun _ _ hM=>?_)));(focus (first|exact trivial|assumption|omega)))
 refine Dj _ _ (by simp only[List.length_append,c.parent.2.1,c.leaf.2.1,c.above.2.1];omega) ?_
 (((refine Ba hM ?_;clear hM;intro _ hM)))
 have hHL:(c.parent.1++numB c.depth++numB c.author++numB c.props.length++c.props.flatMap propT++c.leaf.1++c.above.1++numB c.path.length).length≤4000:=by simp only[List.length_append,c.parent.2.1,c.leaf.2.1,c.above.2.1];omega
 have hfin:∀ l,l=c.parent.1++numB c.depth++numB c.author++numB c.props.length++c.props.flatMap propT++c.leaf.1++c.above.1++numB c.path.length++c.path.flatMap rungT→coreL c=l:=fun l h=>by rw[h];unfold coreL;simp only[List.append_assoc]
 generalize c.parent.1++numB c.depth++numB c.author++numB c.props.length++c.props.flatMap propT++c.leaf.1++c.above.1++numB c.path.length=HL at hHL hfin ⊢
 refine⟨fun x v w'=>∃ i:Nat,v=.int .i64 i∧i≤c.path.length∧x=.string (strOfNums (HL++(c.path.take i).flatMap rungT))∧hM.now w',fun _ v _=>match v with | .int _ k=>c.path.length - k.toNat|_=>0,⟨0,rfl,by omega,by simp,hM⟩,?_⟩
 rintro x v u w4 ⟨i,rfl,hi,rfl,hM⟩
 (((refine Ab trivial ?_;refine Ao hM ?_;refine Ab trivial ?_)))
 (((refine Av trivial ?_ ?_)))
 ·intro hlt
  have hlt':i<c.path.length:=by omega
  have hodd:=hro _ (List.getElem_mem hlt')
  obtain⟨hr1,hr2,hr3⟩:=Mt hodd
  obtain⟨q,hqi,C,cc,rfl,hC,hCl⟩:=h3.at_ hlt'
  have hCl':c.path[i].wraps.length≤9223372036854775807:=hCl
  have b6:=Az c.path[i].wraps.length
  have hle:=Kv (f:=rungT) (B:=80000) (xs:=c.path) (fun r hr=>(Mt (hro r hr)).1) i hi
  obtain⟨bb,oo,rfl⟩:=h2.some_ (by omega)
  have hM0:=hM
  (((refine Am ?_;refine An trivial ?_;refine Aw hM ?_;refine An ?_ ?_));(focus omega);((refine An trivial ?_)))
  refine Jl hM0 h2 hqi ?_
  (((refine Bd hM ?_ (fun _ _ hM=>?_)));(focus (first|exact trivial|assumption|omega)))
  refine Dj _ _ (by simp only[List.length_append,c.path[i].pub.2.1];omega) ?_
  (((refine An trivial ?_));(refine Aw ‹Mem _ _ _ _› ?_);((refine An ?_ ?_));(focus omega);((refine An trivial ?_)))
  try refine Jl hM0 h2 hqi ?_
  (((refine An trivial ?_;refine Bd hM ?_ (fun _ _ hM=>?_)));(focus (first|exact trivial|assumption|omega)))
  refine Dj _ _ (by simp only[List.length_append,c.path[i].pub.2.1];omega) ?_
  (((refine Ba hM ?_;clear hM;intro _ hM)))
  have hin:∀ l,l=HL++(c.path.take i).flatMap rungT++c.path[i].pub.1++numB c.path[i].wraps.length++c.path[i].wraps.flatMap textB→HL++(c.path.take (i+1)).flatMap rungT=l:=fun l h=>by rw[h,Gq hlt'];unfold rungT;simp only[List.append_assoc]
  have hIL:(HL++(c.path.take i).flatMap rungT++c.path[i].pub.1++numB c.path[i].wraps.length).length≤6000000:=by simp only[List.length_append,c.path[i].pub.2.1];omega
  generalize HL++(c.path.take i).flatMap rungT++c.path[i].pub.1++numB c.path[i].wraps.length=IL at hin hIL ⊢
  refine⟨fun x v w'=>∃ k:Nat,v=.int .i64 k∧k≤c.path[i].wraps.length∧x=.string (strOfNums (IL++(c.path[i].wraps.take k).flatMap textB))∧hM.now w',fun _ v _=>match v with | .int _ k=>c.path[i].wraps.length - k.toNat|_=>0,⟨0,rfl,by omega,by simp,hM⟩,?_⟩
  rintro x v u w5 ⟨k,rfl,hk,rfl,hM⟩
  (((refine Ab trivial ?_;refine Ao hM ?_;refine Ab ?_ ?_));(focus omega);((refine Ab trivial ?_)))
  refine Ff hM h2 hqi ?_
  (((refine Ab trivial ?_)))
  (((refine Av trivial ?_ ?_)))
  ·intro hlt3
   have hlt3':k<c.path[i].wraps.length:=by omega
   have hw:=Iu (hr3 _ (List.getElem_mem hlt3'))
   have hle3:=Kv (f:=textB) (B:=1100) (xs:=c.path[i].wraps) (fun s hs=>(Iu (hr3 s hs)).1) k hk
   (((refine Am ?_;refine Ab trivial ?_;refine Ao hM ?_;refine Ab ?_ ?_));(focus omega);((refine Ab trivial ?_)))
   refine Ff hM h2 hqi ?_
   ((refine Ca ‹_› ?_ ?_ ?_);(focus (simp only[List.length_map];omega));(focus (simp only[List.length_map];first|done|omega));((intro _ _ hA));(cases hA);(refine Bt hM ‹_› (Bs ?_) ?_);(focus omega);((refine Bg hM ?_ ?_));(focus (first|exact trivial|assumption|omega));((clear hM;intro _ hM)))
   refine Ni _ _ (by simp only[List.length_append];omega) ?_
   (((refine Ab ?_ ?_));(focus omega))
   exact⟨⟨k+1,rfl,by omega,by rw[Gq hlt3'];simp only[List.append_assoc],hM⟩,by simp only;omega⟩
  ·intro hge3
   obtain rfl:k=c.path[i].wraps.length:=by omega
   simp only[List.take_length]
   (((refine Al ?_;refine Ab ?_ ?_));(focus omega))
   exact⟨⟨i+1,rfl,by omega,by rw[hin _ rfl],hM⟩,by simp only;omega⟩
 ·intro hge
  obtain rfl:i=c.path.length:=by omega
  simp only[List.take_length]
  (((refine Al ?_)))
  exact⟨by rw[hfin _ rfl],hM.st⟩
end
end Go.Proofs.YtgbenhmdamnmcaaGreat.Cmt
namespace Go.Proofs.YtgbenhmdamnmcaaGreat.Cmt
open Go.Proofs.Tryz
open Go.RowKit Go.Proofs.YtgbenhmdamnmcaaGreat.Chg
section
variable {H:Hp} {w0 w:World} {L R:List Res} {A P Q W:Option Addr} {a pc qc wc g b:Nat} {qs:List (List Fd)} {c:Cm} {out:List Int}
theorem aOz (hr:c.right=true) (hc:CmF H P Q W qs c) (hf:Fz H w):Calls prog 54 #[cv P pc Q qc W wc c] w fun en w'=>en=.returned (.string (strOfNums (signedL c)))∧St w [] w':=by
 have hM:=Mem.start hf
 obtain⟨⟨f1,f2,f3,f4,f5,f6⟩,hp,hro,hwo⟩:=Cm.rt hr
 have h4:=hc.wels
 have hl3':c.wels.length≤9223372036854775807:=hc.len.2.2.1
 have hcl:=Mu hr
 have htl:=Id c.info
 have b3:=Az c.wels.length
 refine Rj ?_
 unfold Jp
 (((refine Bb hM ?_;clear hM;intro _ _ hM;refine Aw hM ?_)))
 have hM0:=hM
 refine Bv hM (fun w hM=>aLt hr hc hM.fz) (fun w hx hM=>?_)
 (((refine An trivial ?_));(refine Aw ‹Mem _ _ _ _› ?_);((refine Bd hM ?_ (fun _ _ hM=>?_)));(focus (first|exact trivial|assumption|omega)))
 refine Dj _ _ (by omega) ?_
 (((refine An trivial ?_));(refine Aw ‹Mem _ _ _ _› ?_);((refine An trivial ?_;refine Bd hM ?_ (fun _ _ hM=>?_)));(focus (first|exact trivial|assumption|omega)))
 refine Dj _ _ (by rw[List.length_append];omega) ?_
 (((refine Ba hM ?_;clear hM;intro _ hM)))
 have hHL:(coreL c++textB c.info++numB c.wels.length).length≤6100000:=by rw[List.length_append,List.length_append];omega
 have hfin:∀ l,l=coreL c++textB c.info++numB c.wels.length++c.wels.flatMap welT++c.tag.1→signedL c=l:=fun l h=>by rw[h];unfold signedL;simp only[List.append_assoc]
 generalize coreL c++textB c.info++numB c.wels.length=HL at hHL hfin ⊢
 refine⟨fun x v w'=>∃ i:Nat,v=.int .i64 i∧i≤c.wels.length∧x=.string (strOfNums (HL++(c.wels.take i).flatMap welT))∧hM.now w',fun _ v _=>match v with | .int _ k=>c.wels.length - k.toNat|_=>0,⟨0,rfl,by omega,by simp,hM⟩,?_⟩
 rintro x v u w4 ⟨i,rfl,hi,rfl,hM⟩
 have hle:=Kv (f:=welT) (B:=1200) (xs:=c.wels) (fun x hx=>Po (hwo x hx)) i hi
 (((refine Ab trivial ?_;refine Ao hM ?_;refine Ab trivial ?_)))
 (((refine Av trivial ?_ ?_)))
 ·intro hlt
  have hlt':i<c.wels.length:=by omega
  obtain⟨x1,x2,x3⟩:=aOu (hwo _ (List.getElem_mem hlt'))
  have hw:=Iu x3
  have b6:=Az c.wels[i].name
  have b7:=Az c.wels[i].card
  obtain⟨wb,wo,rfl⟩:=h4.some_ (by simp;omega)
  have hwi:(c.wels.map Wl.fds)[i]?=some c.wels[i].fds:=by simp[hlt']
  (((refine Am ?_;refine An trivial ?_;refine Aw hM ?_));(refine Kz ‹_› ?_ ?_ ?_);(focus (simp only[List.length_map];omega));(focus (simp only[List.length_map];first|done|omega));((intro _ _ hA));(cases hA);((refine An trivial ?_));(refine Jl hM ‹_› (Bs ?_) ?_);(focus omega);((refine Bd hM ?_ (fun _ _ hM=>?_)));(focus (first|exact trivial|assumption|omega)))
  have hM9:Mem _ _ _ _:=hM
  rename_i hM8 _ _
  refine Dj _ _ (by simp only[List.length_append];omega) ?_
  (((refine An trivial ?_));(refine Aw ‹Mem _ _ _ _› ?_);(refine Kz ‹_› ?_ ?_ ?_);(focus (simp only[List.length_map];omega));(focus (simp only[List.length_map];first|done|omega));((intro _ _ hA));(cases hA);((refine An trivial ?_)))
  refine Jl (show Mem _ _ _ _ from hM8) h4 hwi ?_
  (((refine Bd hM ?_ (fun _ _ hM=>?_)));(focus (first|exact trivial|assumption|omega)))
  refine Dj _ _ (by simp only[List.length_append];omega) ?_
  (((refine An trivial ?_));(refine Aw ‹Mem _ _ _ _› ?_);(refine Kz ‹_› ?_ ?_ ?_);(focus (simp only[List.length_map];omega));(focus (simp only[List.length_map];first|done|omega));((intro _ _ hA));(cases hA);((refine An trivial ?_)))
  refine Jl (show Mem _ _ _ _ from hM8) h4 hwi ?_
  (((refine Bd hM ?_ (fun _ _ hM=>?_)));(focus (first|exact trivial|assumption|omega)))
  refine Dj _ _ (by simp only[List.length_append];omega) ?_
  (((refine Ba hM ?_;clear hM;intro _ hM;refine Ab ?_ ?_));(focus omega))
  exact⟨⟨i+1,rfl,by omega,by rw[Gq hlt'];unfold welT;simp only[List.append_assoc],hM⟩,by simp only;omega⟩
 ·intro hge
  obtain rfl:i=c.wels.length:=by omega
  have hle:=Gi (f:=welT) (B:=1200) (xs:=c.wels) fun x hx=>Po (hwo x hx)
  simp only[List.take_length]
  (((refine Al ?_;refine Ab trivial ?_;refine Ao hM ?_;refine Bg hM ?_ ?_));(focus (first|exact trivial|assumption|omega));((clear hM;intro _ hM)))
  refine Ni _ _ (by simp only[List.length_append,c.tag.2.1];omega) ?_
  skip
  exact⟨by rw[hfin _ rfl],hM.st⟩
theorem aXj (hr:c.right=true) (hc:CmF H P Q W qs c) (hf:Fz H w):Calls prog 17 #[cv P pc Q qc W wc c] w fun en w'=>en=.returned (.string (packS c))∧St w [] w':=by
 have hM:=Mem.start hf
 have hpl:=Qd hr
 refine Uw ?_
 unfold Ln
 (((refine Bb hM ?_;clear hM;intro _ _ hM;refine Aw hM ?_)))
 refine Bv hM (fun w hM=>aOz hr hc hM.fz) (fun w hx hM=>?_)
 (((refine An trivial ?_));(refine Aw ‹Mem _ _ _ _› ?_);((refine Bd hM ?_ (fun _ _ hM=>?_)));(focus (first|exact trivial|assumption|omega)))
 refine Dj _ _ (by rw[c.sign.2.1];omega) ?_
 (((refine Ba hM ?_;clear hM;intro _ hM)))
 exact⟨rfl,hM.st⟩
theorem bDd (hr:c.right=true) (hc:CmF H P Q W qs c) (hf:Fz H w):Calls prog 12 #[cv P pc Q qc W wc c] w fun en w'=>en=.returned (ha (idC c))∧St w [] w':=by
 have hM:=Mem.start hf
 have hpl:=Qd hr
 have hsz:(packS c).size=(packL c).length:=strOfNums_size _
 refine aAk ?_
 unfold Ol
 (((refine Bb hM ?_;clear hM;intro _ _ hM;refine Bj hM ?_;clear hM;intro _ _ hM;refine Ao hM ?_)))
 refine Bn hM (aXj hr hc hM.fz) (fun w hM=>?_)
 refine Ab (by rw[hsz];show 5+_≤_;omega) ?_
 have hs2:(sepoch++packS c).size<1099511627776:=by rw[ByteArray.size_append,hsz];show 5+_<_;omega
 (((refine Bg hM ?_ ?_));(focus (first|exact trivial|assumption|omega));((clear hM;intro _ hM;refine Bi hM ?_;clear hM;intro _ hM;refine Cd hM ?_)))
 refine⟨?_,hM.st⟩
 unfold idC
 rw[← Pj]
end
end Go.Proofs.YtgbenhmdamnmcaaGreat.Cmt
namespace Go.Proofs.YtgbenhmdamnmcaaGreat.Cmt
open Go.Proofs.Tryz
open Go.RowKit Go.Lib Go.Proofs.YtgbenhmdamnmcaaGreat.Chg
def czero:Cm:=⟨hzero,0,0,[],hzero,hzero,[],ByteArray.mk #[],[],hzero,hzero⟩
section
variable {H:Hp} {w0 w:World} {L R:List Res} {P Q W:Option Addr} {qs:List (List Fd)} {c:Cm} {pc qc wc:Nat}
theorem bAr (hc:CmF H P Q W qs c) (hf:Fz H w):Calls prog 7 #[cv P pc Q qc W wc c] w (Outp H w (fun _ v=>∃ b,v=.bool b)):=
 (bDb hc hf).mono fun en w' ⟨v,he,b,hv,hM⟩=>by
  subst he
  exact hM.out (Le.refl _ _) ⟨b,hv⟩
theorem bDe (hc:CmF H P Q W qs c) (hf:Fz H w):Calls prog 4 #[cv P pc Q qc W wc c] w fun en w'=>en=.returned (.bool true)∧St w [] w':=by
 have hM:=Mem.start hf
 refine Nz ?_
 unfold Hn
 (((refine Bb hM ?_;clear hM;intro _ _ hM)))
 rename_i g1 _
 refine⟨fun x w'=>∃ (H1:Hp) (b:Bool),x=.bool b∧Le w H H1∧(b=false→c.right=true)∧Mem H1 w [fb g1 28 (cfd P pc Q qc W wc c)] w',?_,?_⟩
 ·(((refine Ao hM ?_)))
  refine If hM (bAr hc hM.fz) ?_
  clear hM
  rintro H1 v w1 l1 hM ⟨b,rfl⟩
  have hc1:=hc.mono l1.le
  cases b
  ·(((refine Ae ?_;refine Ao hM ?_;refine Ae ?_)))
   refine Bn hM (Wz hc1 hM.fz) (fun w2 hM2=>?_)
   replace hM:=hM2
   clear hM2
   (((refine Ae ?_;refine Ab trivial ?_;refine Ab trivial ?_)))
   exact⟨H1,_,rfl,l1,(fun h=>by simpa using h),hM⟩
  ·((((iterate 3 refine Ar ?_);refine Ab trivial ?_)))
   exact⟨H1,_,rfl,l1,(fun h=>by cases h),hM⟩
 clear hM
 rintro x u w1 ⟨H1,b,rfl,l1,hb,hM⟩
 have hc1:=hc.mono l1.le
 cases b
 ·have hr:=hb rfl
  (((refine Al ?_)))
  refine Bv hM (fun w hM=>aDd hM.fz) (fun w2 _ hM2=>?_)
  replace hM:=hM2
  clear hM2
  (((refine Bh ?_;refine Aw hM ?_;refine Ae ?_)))
  have hM3:=hM
  refine Bv hM (fun w hM=>aOw hc1 hM.fz) (fun w3 _ hM2=>?_)
  rw[if_pos hr]
  replace hM:=hM2
  clear hM2
  (((refine Bh ?_));(refine Aw ‹Mem _ _ _ _› ?_);((refine Ae ?_)))
  refine Bv hM (fun w hM=>bDd hr hc1 hM.fz) (fun w3 _ hM2=>?_)
  replace hM:=hM2
  clear hM2
  (((refine Bh ?_;refine Qg trivial ?_ ?_));(focus (first|assumption|omega|with_reducible rfl|exact fun h=>Bool.noConfusion h));((refine An trivial ?_;refine Bh ?_;refine Aw hM ?_;refine Ae ?_)))
  have hM4:=hM
  refine Bv hM (fun w hM=>aDb hc1 hM.fz) (fun w3 _ hM2=>?_)
  rw[if_pos hr]
  replace hM:=hM2
  clear hM2
  (((refine Bh ?_));(refine Aw ‹Mem _ _ _ _› ?_);((refine Ae ?_)))
  refine Bv hM (fun w hM=>aLt hr hc1 hM.fz) (fun w3 _ hM2=>?_)
  replace hM:=hM2
  clear hM2
  (((refine Bh ?_;refine Qg trivial ?_ ?_));(focus (first|assumption|omega|with_reducible rfl|exact fun h=>Bool.noConfusion h));((refine An trivial ?_;refine Ba hM ?_;clear hM;intro _ hM)))
  exact⟨by simp,hM.st⟩
 ·(((refine Am ?_)))
  refine Bn hM (aDd hM.fz) (fun w2 hM2=>?_)
  replace hM:=hM2
  clear hM2
  skip
  exact⟨rfl,hM.st⟩
end
end Go.Proofs.YtgbenhmdamnmcaaGreat.Cmt
namespace Go.Proofs.YtgbenhmdamnmcaaGreat
open Go.Proofs.Tryz
open Go.ChangeShapes Go.WideShapes Go.ChangeAt Go.RowKit
set_option linter.unusedVariables false
theorem bDz (n:Nat) (l:List Value):fl [.arr n l]=l:=by simp[fl,Fd.cells]
theorem own:ownKnob prog.godebug=none:=by kernel_rfl
theorem laidOut:laidOutB prog=true:=by kernel_rfl
set_option maxRecDepth 100000 in
theorem Xf (os:Os) (started:os.Started) (H:Type) (enc:TypeId × Value→H):
  ReturnsInHanded {} Tryz.checked os 4 .any (Rows.commitIdsSpec.pre6 enc prog Tryz.f4 Rows.commitIdsRow.domain false) (Rows.commitIdsSpec.post enc prog Tryz.f4 false true false false):=by
 refine returnsInHanded_of_change (C:=Tryz.checked) own started (by kernel_rfl) Tryz.func4
  (ChangeSpec.witness6 (enc:=enc) (C:=Tryz.checked) false ⟨#[],#[Cmt.cv none 0 none 0 none 0 Cmt.czero],[]⟩ 8 (by kernel_rfl) (by kernel_rfl) (by kernel_rfl) (by kernel_rfl)) ?_
 intro W base args ds gs before hval0 hW hcnd _
 have hval:∀ (j:Nat) t v,Tryz.f4.params[j]?=some t→args[j]?=some v→Value.okWide prog W .any base t v:=hval0
 have hW':=hW
 obtain⟨p,q,hA0,hV,rfl,hfz,hnd⟩:=hW
 have hA:DataW.TrodAll enc prog W 0 (fun _=>true) true Tryz.f4.params.toList args.toList ds p:=hA0
 rw[Tryz.params4]at hA hval
 obtain⟨v0,vs0,d0,ds0,p0,q0,hargs,rfl,rfl,h0,r0⟩:=trodAll_cons hA
 obtain⟨rfl,rfl,rfl⟩:=trodAll_nil r0
 obtain rfl:args=#[v0]:=by cases args;simp_all
 obtain⟨rfl,rfl⟩:=trodVars_none hV
 have k0:=h0
 have lt0:∀ x∈p0,x.block<W.heap.size:=by obtain⟨m,hm⟩:=k0;exact DataW.trod_lt m _ _ _ hm
 obtain⟨m0,hm0⟩:=h0
 obtain⟨fs0,x0,e0,ok0,-,hr0⟩:=(Cmt.bBz).read enc W 0 _ _ m0 _ _ hm0
 obtain⟨P0,pc0,Q0,qc0,W0,wc0,qs0,rfl,hc0⟩:=hr0
 obtain rfl:=aYb (t:=28) (by kernel_rfl) (hval 0 28 v0 rfl rfl) e0
 clear hA0 hval0
 have hc:=Cmt.bDe (pc:=pc0) (qc:=qc0) (wc:=wc0) hc0 (Fz.of W)
 refine hc.mono fun e W' ⟨he,hst⟩=>?_
 subst he
 have bel:Below W.heap.size W W':=hst.only.below (Nat.le_refl _) (fun _ _ h=>by obtain⟨_,hb,_⟩:=h;cases hb)
 exact⟨_,rfl,_,_,_,[],_,[],hW',trodAll_mk1 (shut_bool Tryz.underlying4 _),(trodAll_cons_mk (Below.trod laidOut (by kernel_rfl) (of_decide_eq_true (by kernel_rfl)) k0 bel lt0) trodAll_mk0),rfl,bel.frame _,fun h=>by cases h⟩
theorem commitIds_proved:Rows.CommitIdsSaid:=
 OpenClaim.holds_of_wide 4 Tryz.f4 rfl rfl rfl rfl rfl rfl rfl ⟨rfl,rfl,rfl,rfl,rfl⟩ rfl rfl rfl rfl rfl (by kernel_rfl) Tryz.func4 (by kernel_rfl)
  (of_decide_eq_true (by kernel_rfl)) (by unfold Func.isWrapper;first|(rw[if_pos (by decide +kernel)];kernel_rfl)|(rw[if_neg (by decide +kernel)];exact⟨rfl,rfl⟩))
  (fun os started H enc _=>Xf os started H enc)
#print axioms commitIds_proved
end Go.Proofs.YtgbenhmdamnmcaaGreat
