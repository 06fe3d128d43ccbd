/- CommitReads holds for every input. (The end of the proof.) -/
import Derived.Test.YtgbenhmdamnmcaaGreatPd8
import Derived.MapKept
import Derived.Test.YtgbenhmdamnmcaaGreatRows
import Derived.Carry
set_option linter.unusedVariables false
namespace Go.Proofs.YtgbenhmdamnmcaaGreat.Cmt
open Go.Proofs.Tryz
open Go.RowKit Go.Lib Go.Proofs.YtgbenhmdamnmcaaGreat.Chg
theorem aNk {most:Int} {s:RdS} (h:(nmS most s).2.e≠0):(nmS most s).1=0:=by
 obtain⟨l,e,ok⟩:=s
 unfold nmS nm RdS.rs at h ⊢
 dsimp only at h ⊢
 split at h
 ·rename_i h1
  rw[if_pos h1]
 ·rename_i h1
  rw[if_neg h1]
  split at h
  ·rename_i h2
   rw[if_pos h2]
  ·rename_i h2
   rw[if_neg h2]
   split at h
   ·rename_i h3
    rw[if_pos h3]
   ·rename_i h3
    rw[if_neg h3]
    split at h
    ·rename_i h4
     rw[if_pos h4]
    ·rename_i h4
     rw[if_neg h4]
     split at h
     ·rename_i h5
      rw[if_pos h5]
     ·exact absurd rfl h
theorem bad7 {s st:RdS} {k:Nat} (hu2:(u7 s).2=(rdL stR k (stR st).2).2) (h:(stR st).2.e≠0):cmU s=(cnil,(stR st).2.e):=by
 have e:(u7 s).2=(stR st).2:=by rw[hu2,Pm h]
 have h4:(u7 s).2.e≠0:=by rw[e];exact h
 exact Ui (by rw[stop7 h4,e]) h
theorem bad9 {s st:RdS} {k:Nat} (hu2:(u9 s).2=(rdL stL k (stL st).2).2) (h:(stL st).2.e≠0):cmU s=(cnil,(stL st).2.e):=by
 have e:(u9 s).2=(stL st).2:=by rw[hu2,Pm h]
 have h4:(u9 s).2.e≠0:=by rw[e];exact h
 exact Ui (by rw[stop9 h4,e]) h
theorem aUt {s:RdS}:(if s.e=0 then endS s else s.e)=endS s:=by
 by_cases h:s.e=0
 ·rw[if_pos h]
 ·rw[if_neg h,aMl h]
theorem _root_.Go.Proofs.YtgbenhmdamnmcaaGreat.FbF.add2 {K:Hp} {g k:Nat} {fs:List Fd} {gs:List Value} (h:FOk fs) (hn:¬g=k):FbF (hadd (hadd K g (fl fs)) k gs) g fs:=⟨h,(fl fs).toArray,by simp[hadd,hn],fun j u hu=>by simpa using hu⟩
section
variable {H:Hp} {w0 w:World} {L R:List Res} {s:RdS} {g g4:Nat}
theorem aBn {K:Value→World→Prop} {X:List PanicEntry→World→Prop} (hM:Mem H w0 (rdO g s::fb g4 93 (rpt g)::L) w) (h0:s.e=0→∀ w',Mem H w0 (rdO g s::fb g4 93 (rpt g)::L) w'→K (.tuple #[]) w') (h1:s.e≠0→∀ w',Mem H w0 (rdO g s::fb g4 93 (rpt g)::L) w'→X [{ v:=refv s.e,recovered:=false }] w'):
  mop prog (Ah (.func (.func 46) #[] #[.pointer (some ⟨g4,0,none⟩)]) []) w K X:=
 En (Q:=fun en w'=>match en with | .returned v=>K v w' | .panicked c=>X c w' | .outgrown=>False) (bAs hM h0 h1) (fun en w' h=>by cases en <;> exact h)
theorem bAt (he:s.e=0) (hf:Fz H w):Calls prog 16 #[.string (strOfNums s.l)] w (Outp H w (fun H' v=>CuF H' v s)):=by
 have hM:=Mem.start hf
 refine Wi ?_
 unfold My
 (((refine Bf hM ?_;clear hM;intro _ _ hM;refine Bf hM ?_;clear hM;intro _ _ hM)))
 rename_i gc _ ge _
 refine Bi (aMg s he hM) ?_
 rintro v w2 ⟨g,rfl,hM2⟩
 replace hM:=hM2
 clear hM2
 (((refine Bf hM ?_;clear hM;intro _ _ hM;refine Az hM ?_;clear hM;intro _ hM;refine Ab trivial ?_)))
 rename_i g4 _ _
 have hM1:Mem H w [fb g4 93 (rpt g),rdO g s,fb ge 34 [.one (.int .i64 0)],fb gc 28 (cfd none 0 none 0 none 0 cnil)] _:=hM
 have hM0:Mem H w [rdO g s,fb g4 93 (rpt g),fb gc 28 (cfd none 0 none 0 none 0 cnil),fb ge 34 [.one (.int .i64 0)]] _:=hM1.sub
 clear hM hM1
 have hM:=hM0
 clear hM0
 refine⟨Rl.fz (hadd H g4 (fl (rpt g))),?_⟩
 have hF:=hM.fzAdd hM.fz g4
 have hgf:FbF (hadd H g4 (fl (rpt g))) g4 (rpt g):=FbF.add inferInstance
 ((refine Dj ‹_› ‹_› ?_))
 refine Ic hM trivial (fun _ hM2=>⟨hM2.fzAdd hM2.fz g4,?_⟩)
 replace hM:=hM2
 clear hM2
 ((refine Dj ‹_› ‹_› ?_))
 refine Ic hM (by omega) (fun _ hM2=>⟨hM2.fzAdd hM2.fz g4,?_⟩)
 replace hM:=hM2
 clear hM2
 ((refine Dj ‹_› ‹_› ?_))
 refine aLl hM (by omega) (fun _ hM2=>?_)
 replace hM:=hM2
 clear hM2
 (((refine Ap trivial ?_;refine Ca hM ?_;clear hM;intro _ hM;refine Ap trivial ?_;refine Ca hM ?_;clear hM;intro _ hM;refine Ap trivial ?_;refine Ca hM ?_;clear hM;intro _ hM;refine Bc hM ?_;clear hM;intro _ hM;refine An hM ?_;refine Bu hM ?_ ?_));(focus (first|exact trivial|assumption|omega));((clear hM;intro _ hM)))
 have hr1:=Fo (most:=16) (s:=(u3 s).2) (by omega)
 have hz1:=aNk (most:=16) (s:=(u3 s).2)
 obtain⟨n1,hn1⟩:∃ n:Nat,(nmS 16 (u3 s).2).1=n:=Int.eq_ofNat_of_zero_le hr1.1
 rw[hn1]at hr1 hz1
 have hn1':(nmS 16 (nmS 64 (nmS 4611686018427387903 (hsS s).snd).snd).snd).1=n1:=hn1
 rw[hn1']
 clear hn1' hF hgf
 have hM0:Mem H w [rdO g (nmS 16 (u3 s).2).2,fb g4 93 (rpt g),fb gc 28 (cf0 s none 0 0 hzero hzero none 0 0 es1 none 0 0 hzero hzero),fb ge 34 [.one (.int .i64 0)]] _:=hM
 have hM9:Mem H w [rdO g (nmS 16 (u3 s).2).2,fb g4 93 (rpt g),fb gc 28 (cf0 s none 0 0 hzero hzero none 0 0 es1 none 0 0 hzero hzero),rowR 75 101 none 0 0 [],fb ge 34 [.one (.int .i64 0)]] _:=(hM0.row0 75 101).same
 clear hM hM0
 refine⟨fun v w'=>∃ (i k:Nat) (acc:List Prp) (st:RdS) (P:Option Addr) (pc:Nat),v=.int .i64 k∧acc.length=i∧i+k=n1∧(st.e≠0→k=0)∧(u4 s).2=(rdL stP k st).2∧(u4 s).1=acc++(rdL stP k st).1∧Mem H w [rdO g st,fb g4 93 (rpt g),fb gc 28 (cf0 s P i pc hzero hzero none 0 0 es1 none 0 0 hzero hzero),rowR 75 101 P i pc (acc.map Prp.fds),fb ge 34 [.one (.int .i64 0)]] w',fun v _=>match v with | .int _ i=>i.toNat|_=>0,⟨0,n1,[],_,none,0,rfl,rfl,by simp,by simpa using hz1,by unfold u4 cnt;rw[hn1];rfl,by unfold u4 cnt;rw[hn1];rfl,hM9⟩,?_⟩
 clear hM9
 rintro v u w2 ⟨i,k,acc,st,P,pc,rfl,hai,hk,hst,hu2,hu1,hM⟩
 (((refine Aw trivial ?_ ?_)))
 ·intro hlt
  obtain⟨k,rfl⟩:∃ j,k=j+1:=⟨k - 1,by omega⟩
  have hse:st.e=0:=Classical.not_not.1 fun h=>by have:=hst h;omega
  rw[Hh hse]at hu1 hu2
  dsimp only at hu1 hu2
  (((refine Am ?_;refine An hM ?_;refine Bu hM ?_ ?_));(focus (first|exact trivial|assumption|omega));((clear hM;intro _ hM)))
  refine aBn hM (fun hok w' hM2=>?_) (fun hno w' hM2=>?_)
  rotate_left
  ·have hbad:=bad4 hu2 (by rw[aNi hno];exact hno)
   rw[aNi hno]at hbad
   exact Hs (sr:=s) 0 _ (hM2.sub (L':=[fb gc 28 (cf0 s P i pc hzero hzero none 0 0 es1 none 0 0 hzero hzero),fb ge 34 [.one (.int .i64 0)]])) fun w' h=>h.out (Le.refl _ _) (CuF.bad hbad)
  replace hM:=hM2
  clear hM2
  skip
  refine Bn hM (aOp (s:=txR 1024 st txp) rfl _) (fun w4 hM2=>?_)
  replace hM:=hM2
  clear hM2
  (((refine Ab trivial ?_;refine Ab trivial ?_;refine Bf hM ?_;clear hM;intro _ _ hM;refine Az hM ?_;clear hM;intro _ hM)))
  refine⟨fun w'=>(prpU (txR 1024 st txp)).2=0∧hM.now w',?_,?_⟩
  ·by_cases h2:(prpU (txR 1024 st txp)).2=0
   ·(((refine Bm trivial ?_ ?_));(focus (first|assumption|omega|with_reducible rfl|exact fun h=>Bool.noConfusion h));((refine Aj ?_)))
    exact⟨h2,hM⟩
   ·have hbad:=bad4 hu2 (by rw[aNj hok h2];exact h2)
    rw[aNj hok h2]at hbad
    (((refine Bt trivial ?_ ?_));(focus (first|assumption|omega|with_reducible rfl|exact fun h=>Bool.noConfusion h));((refine Am ?_;refine Ab trivial ?_)))
    refine Br (v:=refv (prpU (txR 1024 st txp)).2) (fun w=>by kernel_rfl) ?_
    refine Ms ?_
    exact Hs (sr:=s) 0 _ (hM.sub (L':=[fb gc 28 (cf0 s P i pc hzero hzero none 0 0 es1 none 0 0 hzero hzero),fb ge 34 [.one (.int .i64 0)]])) fun w' h=>h.out (Le.refl _ _) (CuF.bad hbad)
  rintro ue w5 ⟨h2,hM2⟩
  replace hM:Mem H w _ w5:=hM2
  clear hM2
  rw[aYp hok h2]at hu1 hu2
  generalize (prpU (txR 1024 st txp)).1=p at *
  (((refine Ab trivial ?_;refine An hM ?_;refine An hM ?_;refine Bx hM ?_ ?_ ?_));(focus rfl);(focus (constructor <;> simp));((clear hM;intro _ _ hM;refine Co hM ?_ ?_));(focus omega);((clear hM;intro _ _ _ hM;refine Ab trivial ?_;refine Az hM ?_;clear hM;intro _ hM;refine Ab ?_ ?_));(focus omega))
  rename_i P2 pc2 _ _
  have hM:Mem H w (rowR 75 101 P2 (i+1) pc2 (acc.map Prp.fds++[p.fds])::_::rdO g (txS 1024 st).2::fb g4 93 (rpt g)::fb gc 28 (cf0 s P2 (i+1) pc2 hzero hzero none 0 0 es1 none 0 0 hzero hzero)::fb ge 34 [.one (.int .i64 0)]::[]) _:=hM
  rw[show acc.map Prp.fds++[p.fds]=(acc++[p]).map Prp.fds by rw[List.map_append];rfl]at hM
  exact⟨⟨i+1,k,acc++[p],(txS 1024 st).2,P2,pc2,by simp,by simp[hai],by omega,fun h=>absurd hok h,hu2,by rw[hu1];simp,hM.sub⟩,by dsimp only;omega⟩
 ·intro hge
  obtain rfl:k=0:=by omega
  rw[Uh]at hu1 hu2
  dsimp only at hu1 hu2
  rw[List.append_nil]at hu1
  subst hu1 hu2
  obtain⟨H1,l1,hM1,hP,-⟩:=hM.fz1 P
  clear hM
  have hM:Mem H1 w [rdO g (u4 s).2,fb g4 93 (rpt g),fb gc 28 (cf0 s P i pc hzero hzero none 0 0 es1 none 0 0 hzero hzero),fb ge 34 [.one (.int .i64 0)]] w2:=hM1
  clear hM1
  (((refine Aj ?_)))
  refine⟨Rl.fz (hadd H1 g4 (fl (rpt g))),?_⟩
  have hF:=hM.fzAdd hM.fz g4
  have hgf:FbF (hadd H1 g4 (fl (rpt g))) g4 (rpt g):=FbF.add inferInstance
  ((refine Dj ‹_› ‹_› ?_))
  refine Ic hM trivial (fun _ hM2=>⟨hM2.fzAdd hM2.fz g4,?_⟩)
  replace hM:=hM2
  clear hM2
  ((refine Dj ‹_› ‹_› ?_))
  refine aLl hM trivial (fun _ hM2=>?_)
  replace hM:=hM2
  clear hM2
  (((refine Ap trivial ?_;refine Ca hM ?_;clear hM;intro _ hM;refine Ap trivial ?_;refine Ca hM ?_;clear hM;intro _ hM;refine Bc hM ?_;clear hM;intro _ hM;refine An hM ?_;refine Bu hM ?_ ?_));(focus (first|exact trivial|assumption|omega));((clear hM;intro _ hM)))
  have hr2:=Fo (most:=64) (s:=(u6 s).2) (by omega)
  have hz2:=aNk (most:=64) (s:=(u6 s).2)
  obtain⟨n2,hn2⟩:∃ n:Nat,(nmS 64 (u6 s).2).1=n:=Int.eq_ofNat_of_zero_le hr2.1
  rw[hn2]at hr2 hz2
  have hn2':(nmS 64 (hsS (hsS (u4 s).2).2).2).1=n2:=hn2
  rw[hn2']
  clear hn2' hF hgf
  have hM0:Mem H1 w [rdO g (nmS 64 (u6 s).2).2,fb g4 93 (rpt g),fb gc 28 (cf0 s P i pc (u5 s).1 (u6 s).1 none 0 0 es1 none 0 0 hzero hzero),fb ge 34 [.one (.int .i64 0)]] _:=hM
  have hM9:Mem H1 w [rdO g (nmS 64 (u6 s).2).2,fb g4 93 (rpt g),fb gc 28 (cf0 s P i pc (u5 s).1 (u6 s).1 none 0 0 es1 none 0 0 hzero hzero),rowR 43 33 none 0 0 [],fb ge 34 [.one (.int .i64 0)]] _:=(hM0.row0 43 33).same
  clear hM hM0
  refine⟨fun v w'=>∃ (j k:Nat) (acc:List Rn) (qs:List (List Fd)) (st:RdS) (Hc:Hp) (Q:Option Addr) (qc:Nat),v=.int .i64 k∧acc.length=j∧j+k=n2∧(st.e≠0→k=0)∧(u7 s).2=(rdL stR k st).2∧(u7 s).1=acc++(rdL stR k st).1∧Le w H1 Hc∧All2 (RnF Hc) qs acc∧Mem Hc w [rdO g st,fb g4 93 (rpt g),fb gc 28 (cf0 s P i pc (u5 s).1 (u6 s).1 Q j qc es1 none 0 0 hzero hzero),rowR 43 33 Q j qc qs,fb ge 34 [.one (.int .i64 0)]] w',fun v _=>match v with | .int _ i=>i.toNat|_=>0,⟨0,n2,[],[],_,H1,none,0,rfl,rfl,by simp,by simpa using hz2,by unfold u7 cnt;rw[hn2];rfl,by unfold u7 cnt;rw[hn2];rfl,Le.refl _ _,trivial,hM9⟩,?_⟩
  clear hM9
  rintro v u w4 ⟨j,k2,acc,qs,st,Hc,Q,qc,rfl,haj,hk2,hst2,hv2,hv1,lc,hqs,hM⟩
  (((refine Aw trivial ?_ ?_)))
  ·intro hlt
   obtain⟨k2,rfl⟩:∃ j,k2=j+1:=⟨k2 - 1,by omega⟩
   have hse:st.e=0:=Classical.not_not.1 fun h=>by have:=hst2 h;omega
   rw[Hh hse]at hv1 hv2
   dsimp only at hv1 hv2
   have hr3:=Fo (most:=64) (s:=(hsS st).2) (by omega)
   have hz3:=aNk (most:=64) (s:=(hsS st).2)
   obtain⟨n3,hn3⟩:∃ n:Nat,(nmS 64 (hsS st).2).1=n:=Int.eq_ofNat_of_zero_le hr3.1
   rw[hn3]at hr3 hz3
   (((refine Am ?_;refine An hM ?_;refine Bu hM ?_ ?_));(focus (first|exact trivial|assumption|omega));((clear hM;intro _ hM;refine Ab trivial ?_;refine Bf hM ?_;clear hM;intro _ _ hM;refine Az hM ?_;clear hM;intro _ hM;refine An hM ?_;refine Bu hM ?_ ?_));(focus (first|exact trivial|assumption|omega));((clear hM;intro _ hM)))
   rw[hn3]
   rename_i g7 _ _ _
   obtain⟨cw,hcw⟩:∃ cw,cw=cnt 64 stW (hsS st).2:=⟨_,rfl⟩
   have hcr:stR st=(⟨(hsS st).1,cw.1⟩,cw.2):=by rw[hcw];rfl
   have hM9:Mem Hc w [rdO g (nmS 64 (hsS st).2).2,fb g4 93 (rpt g),fb g7 43 [.arr 32 (u8s (hsS st).1.1),.one (.slice none 0 0)],rowR 9 1 none 0 0 [],fb gc 28 (cf0 s P i pc (u5 s).1 (u6 s).1 Q j qc es1 none 0 0 hzero hzero),rowR 43 33 Q j qc qs,fb ge 34 [.one (.int .i64 0)]] _:=(hM.row0 9 1).same
   clear hM
   refine⟨fun v w'=>∃ (x k:Nat) (aw:List ByteArray) (sw:RdS) (B:Option Addr) (bc:Nat),v=.int .i64 k∧aw.length=x∧x+k=n3∧(sw.e≠0→k=0)∧cw.2=(rdL stW k sw).2∧cw.1=aw++(rdL stW k sw).1∧Mem Hc w [rdO g sw,fb g4 93 (rpt g),fb g7 43 [.arr 32 (u8s (hsS st).1.1),.one (.slice B x bc)],rowR 9 1 B x bc (aw.map sfd),fb gc 28 (cf0 s P i pc (u5 s).1 (u6 s).1 Q j qc es1 none 0 0 hzero hzero),rowR 43 33 Q j qc qs,fb ge 34 [.one (.int .i64 0)]] w',fun v _=>match v with | .int _ i=>i.toNat|_=>0,⟨0,n3,[],_,none,0,rfl,rfl,by simp,by simpa using hz3,by rw[hcw];unfold cnt;rw[hn3];rfl,by rw[hcw];unfold cnt;rw[hn3];rfl,hM9⟩,?_⟩
   clear hM9
   rintro v u w6 ⟨x,k3,aw,sw,B,bc,rfl,hax,hk3,hst3,hc2,hc1,hM⟩
   (((refine Aw trivial ?_ ?_)))
   ·intro hlt3
    obtain⟨k3,rfl⟩:∃ j,k3=j+1:=⟨k3 - 1,by omega⟩
    have hsw:sw.e=0:=Classical.not_not.1 fun h=>by have:=hst3 h;omega
    rw[Hh hsw]at hc1 hc2
    dsimp only at hc1 hc2
    (((refine Am ?_)))
    have hne:¬g4=g7:=(hM.upB g4).neB
    refine⟨Rl.fz (hadd (hadd Hc g4 (fl (rpt g))) g7 (fl [Fd.arr 32 (u8s (hsS st).1.1),.one (.slice B x bc)])),?_⟩
    have hF:=hM.fzAdd (hM.fzAdd hM.fz g4) g7
    have hgf:FbF (hadd (hadd Hc g4 (fl (rpt g))) g7 (fl [Fd.arr 32 (u8s (hsS st).1.1),.one (.slice B x bc)])) g4 (rpt g):=FbF.add2 inferInstance hne
    have hgf2:FbF (hadd (hadd Hc g4 (fl (rpt g))) g7 (fl [Fd.arr 32 (u8s (hsS st).1.1),.one (.slice B x bc)])) g7 [Fd.arr 32 (u8s (hsS st).1.1),.one (.slice B x bc)]:=FbF.add inferInstance
    (((refine Ap trivial ?_));(refine Dj ‹_› ‹_› ?_);(refine Dj ‹_› ‹_› ?_))
    refine Ic hM (by omega) (fun _ hM2=>⟨hM2.fzAdd (hM2.fzAdd hM2.fz g4) g7,?_⟩)
    replace hM:=hM2
    clear hM2
    skip
    refine dfz hM (fun _ hM2=>?_)
    refine Bx hM2 rfl (by constructor <;> simp) (fun gr _ hM3=>⟨hM3.fzAdd (hM3.fzAdd hM3.fz g4) g7,?_⟩)
    clear hM hM2
    have hM:=hM3
    clear hM3
    (((refine Px hM ?_ ?_));(focus omega);((clear hM;intro _ _ _ hM;refine Ap trivial ?_;refine Ca hM ?_;clear hM;intro _ hM;refine Bc hM ?_;clear hM;intro _ hM)))
    rename_i B2 bc2 _ _ _
    have hM:Mem Hc w (rowR 9 1 B2 (x+1) bc2 (aw.map sfd++[sfd (stW sw).1])::rdO g (stW sw).2::fb g4 93 (rpt g)::fb g7 43 [.arr 32 (u8s (hsS st).1.1),.one (.slice B2 (x+1) bc2)]::fb gc 28 (cf0 s P i pc (u5 s).1 (u6 s).1 Q j qc es1 none 0 0 hzero hzero)::rowR 43 33 Q j qc qs::fb ge 34 [.one (.int .i64 0)]::[]) _:=hM
    rw[show aw.map sfd++[sfd (stW sw).1]=(aw++[(stW sw).1]).map sfd by rw[List.map_append];rfl]at hM
    clear hF hgf hgf2
    have hM8:Mem Hc w [rdO g (stW sw).2,fb g4 93 (rpt g),rowR 9 1 B2 (x+1) bc2 ((aw++[(stW sw).1]).map sfd),fb g7 43 [.arr 32 (u8s (hsS st).1.1),.one (.slice B2 (x+1) bc2)],fb gc 28 (cf0 s P i pc (u5 s).1 (u6 s).1 Q j qc es1 none 0 0 hzero hzero),rowR 43 33 Q j qc qs,fb ge 34 [.one (.int .i64 0)]] _:=hM.sub
    clear hM
    have hM:=hM8
    clear hM8
    refine aBn hM (fun hok w' hM2=>?_) (fun hno w' hM2=>?_)
    rotate_left
    ·have hbad:=bad7 hv2 (by rw[hcr,show cw.2=(stW sw).2 by rw[hc2,Pm hno]];exact hno)
     rw[hcr,show cw.2=(stW sw).2 by rw[hc2,Pm hno]]at hbad
     exact Hs (sr:=s) 0 _ (hM2.sub (L':=[fb gc 28 (cf0 s P i pc (u5 s).1 (u6 s).1 Q j qc es1 none 0 0 hzero hzero),fb ge 34 [.one (.int .i64 0)]])) fun w' h=>h.out (l1.trans lc) (CuF.bad hbad)
    replace hM:=hM2
    clear hM2
    (((refine Ab ?_ ?_));(focus omega))
    exact⟨⟨x+1,k3,aw++[(stW sw).1],(stW sw).2,B2,bc2,by simp,by simp[hax],by omega,fun h=>absurd hok h,hc2,by rw[hc1];simp,hM.sub⟩,by dsimp only;omega⟩
   ·intro hge3
    obtain rfl:k3=0:=by omega
    rw[Uh]at hc1 hc2
    dsimp only at hc1 hc2
    rw[List.append_nil]at hc1
    rw[hc1,hc2]at hcr
    (((refine Aj ?_;refine Ab trivial ?_;refine An hM ?_;refine An hM ?_;refine Bx hM ?_ ?_ ?_));(focus rfl);(focus (constructor <;> simp));((clear hM;intro _ _ hM;refine Co hM ?_ ?_));(focus omega);((clear hM;intro _ _ _ hM;refine Ab trivial ?_;refine Az hM ?_;clear hM;intro _ hM)))
    rename_i Q2 qc2 _ _
    obtain⟨Hd,ld,hMd,hB,-⟩:=hM.fz1 B
    have hM8:Mem Hd w [rdO g sw,fb g4 93 (rpt g),fb gc 28 (cf0 s P i pc (u5 s).1 (u6 s).1 Q2 (j+1) qc2 es1 none 0 0 hzero hzero),rowR 43 33 Q2 (j+1) qc2 (qs++[[.arr 32 (u8s (hsS st).1.1),.one (.slice B x bc)]]),fb ge 34 [.one (.int .i64 0)]] _:=hMd.sub
    clear hM hMd
    have hM:=hM8
    clear hM8
    refine aBn hM (fun hok w' hM2=>?_) (fun hno w' hM2=>?_)
    rotate_left
    ·have hbad:=bad7 hv2 (by rw[hcr];exact hno)
     rw[hcr]at hbad
     exact Hs (sr:=s) 0 _ (hM2.sub (L':=[fb gc 28 (cf0 s P i pc (u5 s).1 (u6 s).1 Q2 (j+1) qc2 es1 none 0 0 hzero hzero),fb ge 34 [.one (.int .i64 0)]])) fun w' h=>h.out (l1.trans (lc.trans ld)) (CuF.bad hbad)
    replace hM:=hM2
    clear hM2
    (((refine Ab ?_ ?_));(focus omega))
    rw[hcr]at hv1 hv2
    exact⟨⟨j+1,k2,acc++[⟨(hsS st).1,aw⟩],qs++[[.arr 32 (u8s (hsS st).1.1),.one (.slice B x bc)]],sw,Hd,Q2,qc2,by simp,by simp[haj],by omega,fun h=>absurd hok h,hv2,by rw[hv1];simp,lc.trans ld,Qi (hqs.mono fun _ _ h=>RnF.mono h ld.le) ⟨B,bc,by rw[← hax],hB,by simp only[maxLen];omega⟩,hM.sub⟩,by dsimp only;omega⟩
  ·intro hge
   obtain rfl:k2=0:=by omega
   rw[Uh]at hv1 hv2
   dsimp only at hv1 hv2
   rw[List.append_nil]at hv1
   subst hv1 hv2
   obtain⟨H2,l2,hM1,hQ,-⟩:=hM.fz1 Q
   clear hM
   have hM:Mem H2 w [rdO g (u7 s).2,fb g4 93 (rpt g),fb gc 28 (cf0 s P i pc (u5 s).1 (u6 s).1 Q j qc es1 none 0 0 hzero hzero),fb ge 34 [.one (.int .i64 0)]] w4:=hM1
   clear hM1
   (((refine Aj ?_;refine An hM ?_;refine Bu hM ?_ ?_));(focus (first|exact trivial|assumption|omega));((clear hM;intro _ hM;refine Ab trivial ?_;refine Az hM ?_;clear hM;intro _ hM;refine An hM ?_;refine Bu hM ?_ ?_));(focus (first|exact trivial|assumption|omega));((clear hM;intro _ hM)))
   have hr4:=Fo (most:=16) (s:=(u8 s).2) (by omega)
   have hz4:=aNk (most:=16) (s:=(u8 s).2)
   obtain⟨n4,hn4⟩:∃ n:Nat,(nmS 16 (u8 s).2).1=n:=Int.eq_ofNat_of_zero_le hr4.1
   rw[hn4]at hr4 hz4
   have hn4':(nmS 16 (txS 65536 (u7 s).2).2).1=n4:=hn4
   rw[hn4']
   clear hn4'
   have hM0:Mem H2 w [rdO g (nmS 16 (u8 s).2).2,fb g4 93 (rpt g),fb gc 28 (cf0 s P i pc (u5 s).1 (u6 s).1 Q j qc (strOfNums (u8 s).1) none 0 0 hzero hzero),fb ge 34 [.one (.int .i64 0)]] _:=hM
   have hM9:Mem H2 w [rdO g (nmS 16 (u8 s).2).2,fb g4 93 (rpt g),fb gc 28 (cf0 s P i pc (u5 s).1 (u6 s).1 Q j qc (strOfNums (u8 s).1) none 0 0 hzero hzero),rowR 45 3 none 0 0 [],fb ge 34 [.one (.int .i64 0)]] _:=(hM0.row0 45 3).same
   clear hM hM0
   refine⟨fun v w'=>∃ (y k:Nat) (acc:List Wl) (st:RdS) (W:Option Addr) (wc:Nat),v=.int .i64 k∧acc.length=y∧y+k=n4∧(st.e≠0→k=0)∧(u9 s).2=(rdL stL k st).2∧(u9 s).1=acc++(rdL stL k st).1∧Mem H2 w [rdO g st,fb g4 93 (rpt g),fb gc 28 (cf0 s P i pc (u5 s).1 (u6 s).1 Q j qc (strOfNums (u8 s).1) W y wc hzero hzero),rowR 45 3 W y wc (acc.map Wl.fds),fb ge 34 [.one (.int .i64 0)]] w',fun v _=>match v with | .int _ i=>i.toNat|_=>0,⟨0,n4,[],_,none,0,rfl,rfl,by simp,by simpa using hz4,by unfold u9 cnt;rw[hn4];rfl,by unfold u9 cnt;rw[hn4];rfl,hM9⟩,?_⟩
   clear hM9
   rintro v u w6 ⟨y,k4,acc,st,W,wc,rfl,hay,hk4,hst4,hy2,hy1,hM⟩
   (((refine Aw trivial ?_ ?_)))
   ·intro hlt
    obtain⟨k4,rfl⟩:∃ j,k4=j+1:=⟨k4 - 1,by omega⟩
    have hse:st.e=0:=Classical.not_not.1 fun h=>by have:=hst4 h;omega
    rw[Hh hse]at hy1 hy2
    dsimp only at hy1 hy2
    (((refine Am ?_)))
    have hne:¬g4=gc:=(hM.upB g4).neB
    refine⟨Rl.fz (hadd (hadd H2 g4 (fl (rpt g))) gc (fl (cf0 s P i pc (u5 s).1 (u6 s).1 Q j qc (strOfNums (u8 s).1) W y wc hzero hzero))),?_⟩
    have hF:=hM.fzAdd (hM.fzAdd hM.fz g4) gc
    have hgf:FbF (hadd (hadd H2 g4 (fl (rpt g))) gc (fl (cf0 s P i pc (u5 s).1 (u6 s).1 Q j qc (strOfNums (u8 s).1) W y wc hzero hzero))) g4 (rpt g):=FbF.add2 inferInstance hne
    have hgf2:FbF (hadd (hadd H2 g4 (fl (rpt g))) gc (fl (cf0 s P i pc (u5 s).1 (u6 s).1 Q j qc (strOfNums (u8 s).1) W y wc hzero hzero))) gc (cf0 s P i pc (u5 s).1 (u6 s).1 Q j qc (strOfNums (u8 s).1) W y wc hzero hzero):=FbF.add inferInstance
    (((refine Ap trivial ?_));(refine Dj ‹_› ‹_› ?_);(refine Dj ‹_› ‹_› ?_))
    refine Ic hM (by omega) (fun _ hM2=>⟨hM2.fzAdd (hM2.fzAdd hM2.fz g4) gc,?_⟩)
    replace hM:=hM2
    clear hM2
    ((refine Dj ‹_› ‹_› ?_))
    refine Ic hM (by omega) (fun _ hM2=>⟨hM2.fzAdd (hM2.fzAdd hM2.fz g4) gc,?_⟩)
    replace hM:=hM2
    clear hM2
    ((refine Dj ‹_› ‹_› ?_))
    refine Ic hM (by omega) (fun _ hM2=>⟨hM2.fzAdd (hM2.fzAdd hM2.fz g4) gc,?_⟩)
    replace hM:=hM2
    clear hM2
    (((refine Ap trivial ?_)))
    refine dfz hM (fun _ hM2=>?_)
    refine Bx hM2 rfl (by constructor <;> simp) (fun gr _ hM3=>⟨hM3.fzAdd (hM3.fzAdd hM3.fz g4) gc,?_⟩)
    clear hM hM2
    have hM:=hM3
    clear hM3
    (((refine Px hM ?_ ?_));(focus omega);((clear hM;intro _ _ _ hM;refine Ap trivial ?_;refine Ca hM ?_;clear hM;intro _ hM;refine Bc hM ?_;clear hM;intro _ hM)))
    rename_i W2 wc2 _ _ _
    have hM:Mem H2 w (rowR 45 3 W2 (y+1) wc2 (acc.map Wl.fds++[(stL st).1.fds])::rdO g (stL st).2::fb g4 93 (rpt g)::fb gc 28 (cf0 s P i pc (u5 s).1 (u6 s).1 Q j qc (strOfNums (u8 s).1) W2 (y+1) wc2 hzero hzero)::fb ge 34 [.one (.int .i64 0)]::[]) _:=hM
    rw[show acc.map Wl.fds++[(stL st).1.fds]=(acc++[(stL st).1]).map Wl.fds by rw[List.map_append];rfl]at hM
    clear hF hgf hgf2
    have hM8:Mem H2 w [rdO g (stL st).2,fb g4 93 (rpt g),fb gc 28 (cf0 s P i pc (u5 s).1 (u6 s).1 Q j qc (strOfNums (u8 s).1) W2 (y+1) wc2 hzero hzero),rowR 45 3 W2 (y+1) wc2 ((acc++[(stL st).1]).map Wl.fds),fb ge 34 [.one (.int .i64 0)]] _:=hM.sub
    clear hM
    have hM:=hM8
    clear hM8
    refine aBn hM (fun hok w' hM2=>?_) (fun hno w' hM2=>?_)
    rotate_left
    ·have hbad:=bad9 hy2 hno
     skip
     exact Hs (sr:=s) 0 _ (hM2.sub (L':=[fb gc 28 (cf0 s P i pc (u5 s).1 (u6 s).1 Q j qc (strOfNums (u8 s).1) W2 (y+1) wc2 hzero hzero),fb ge 34 [.one (.int .i64 0)]])) fun w' h=>h.out (l1.trans (lc.trans l2)) (CuF.bad hbad)
    replace hM:=hM2
    clear hM2
    (((refine Ab ?_ ?_));(focus omega))
    exact⟨⟨y+1,k4,acc++[(stL st).1],(stL st).2,W2,wc2,by simp,by simp[hay],by omega,fun h=>absurd hok h,hy2,by rw[hy1];simp,hM.sub⟩,by dsimp only;omega⟩
   ·intro hge
    obtain rfl:k4=0:=by omega
    rw[Uh]at hy1 hy2
    dsimp only at hy1 hy2
    rw[List.append_nil]at hy1
    subst hy1 hy2
    obtain⟨H3,l3,hM1,hW,-⟩:=hM.fz1 W
    clear hM
    have hM:Mem H3 w [rdO g (u9 s).2,fb g4 93 (rpt g),fb gc 28 (cf0 s P i pc (u5 s).1 (u6 s).1 Q j qc (strOfNums (u8 s).1) W y wc hzero hzero),fb ge 34 [.one (.int .i64 0)]] w6:=hM1
    clear hM1
    (((refine Aj ?_)))
    refine⟨Rl.fz (hadd H3 g4 (fl (rpt g))),?_⟩
    have hF:=hM.fzAdd hM.fz g4
    have hgf:FbF (hadd H3 g4 (fl (rpt g))) g4 (rpt g):=FbF.add inferInstance
    ((refine Dj ‹_› ‹_› ?_))
    refine Ic hM trivial (fun _ hM2=>⟨hM2.fzAdd hM2.fz g4,?_⟩)
    replace hM:=hM2
    clear hM2
    ((refine Dj ‹_› ‹_› ?_))
    refine aLl hM trivial (fun _ hM2=>?_)
    replace hM:=hM2
    clear hM2
    (((refine Ap trivial ?_;refine Ca hM ?_;clear hM;intro _ hM;refine Ap trivial ?_;refine Ca hM ?_;clear hM;intro _ hM;refine Bc hM ?_;clear hM;intro _ hM)))
    have hM0:Mem H3 w [rdO g (u11 s).2,fb g4 93 (rpt g),fb gc 28 (cf0 s P i pc (u5 s).1 (u6 s).1 Q j qc (strOfNums (u8 s).1) W y wc (u10 s).1 (u11 s).1),fb ge 34 [.one (.int .i64 0)]] _:=hM
    clear hM hF hgf
    have hM:=hM0
    clear hM0
    refine⟨Rl.fz (hadd H3 g4 (fl (rpt g))),?_⟩
    have hF:=hM.fzAdd hM.fz g4
    have hgf:FbF (hadd H3 g4 (fl (rpt g))) g4 (rpt g):=FbF.add inferInstance
    ((refine Dj ‹_› ‹_› ?_);(refine Dj ‹_› ‹_› ?_))
    refine Ic hM trivial (fun _ hM2=>⟨hM2.fzAdd hM2.fz g4,?_⟩)
    replace hM:=hM2
    clear hM2
    skip
    refine aYo hM (fun _ hM2=>Bi (aUp _ hM2) ?_)
    clear hM
    rintro v w7 ⟨rfl,hM⟩
    (((refine Bc hM ?_;clear hM;intro _ hM)))
    have hfe:=aUt (s:=(u11 s).2)
    refine aBn hM (fun hok w' hM2=>?_) (fun hno w' hM2=>?_)
    rotate_left
    ·have hbad:cmU s=(cnil,cmE s):=Ui rfl (by show endS (u11 s).2≠0;rw[← hfe];exact hno)
     have hfe':(if (u11 s).2.e=0 then endS (u11 s).2 else (u11 s).2.e)=cmE s:=hfe
     rw[← hfe']at hbad
     exact Hs (sr:=s) 0 _ (hM2.sub (L':=[fb gc 28 (cf0 s P i pc (u5 s).1 (u6 s).1 Q j qc (strOfNums (u8 s).1) W y wc (u10 s).1 (u11 s).1),fb ge 34 [.one (.int .i64 0)]])) fun w' h=>h.out (l1.trans (lc.trans (l2.trans l3))) (CuF.bad hbad)
    replace hM:=hM2
    clear hM2 hF hgf
    have h1:cmE s=0:=by show endS (u11 s).2=0;rw[← hfe];exact hok
    subst hai haj hay
    have hcF:CmF H3 P Q W qs (cmR s):=⟨hP.mono (lc.trans (l2.trans l3)).le,hQ.mono l3.le,hqs.mono fun _ _ h=>RnF.mono h (l2.trans l3).le,hW,by show(u4 s).1.length≤maxLen;simp only[maxLen];omega,by show(u7 s).1.length≤maxLen;simp only[maxLen];omega,by show(u9 s).1.length≤maxLen;simp only[maxLen];omega,by
     have:=aFk (most:=65536) (s:=(u7 s).2) (by omega)
     show(strOfNums (txS 65536 (u7 s).2).1).size≤maxLen
     rw[strOfNums_size]
     simp only[maxLen]
     omega⟩
    skip
    refine⟨fun w'=>(cmR s).right=true∧hM.now w',?_,?_⟩
    ·(((refine An hM ?_)))
     refine Bn hM (Ei (c:=cmR s) hcF hM.fz) (fun w8 hM2=>?_)
     replace hM:=hM2
     clear hM2
     cases h2:(cmR s).right
     ·have hbad:cmU s=(cnil,3):=by unfold cmU;rw[if_neg (by simp[h1]),if_neg (by simp[h2])]
      (((refine Ab trivial ?_;refine Am ?_;refine Ab trivial ?_)))
      refine Br (v:=refv 3) (fun w=>by kernel_rfl) ?_
      refine Ms ?_
      exact Hs (sr:=s) 0 _ (hM.sub (L':=[fb gc 28 (cf0 s P (u4 s).1.length pc (u5 s).1 (u6 s).1 Q (u7 s).1.length qc (strOfNums (u8 s).1) W (u9 s).1.length wc (u10 s).1 (u11 s).1),fb ge 34 [.one (.int .i64 0)]])) fun w' h=>h.out (l1.trans (lc.trans (l2.trans l3))) (CuF.bad hbad)
     ·(((refine Ab trivial ?_;refine Aj ?_)))
      exact⟨rfl,hM⟩
    rintro ue w9 ⟨h2,hM2⟩
    replace hM:=hM2
    clear hM2
    have hgood:cmU s=(cmR s,0):=by unfold cmU;rw[if_neg (by simp[h1]),if_pos h2]
    (((refine An hM ?_;refine Az hM ?_;clear hM;intro _ hM;refine Az hM ?_;clear hM;intro _ hM)))
    have hM:Mem H3 w [_,_,fb gc 28 (cfd P pc Q qc W wc (cmR s)),fb ge 34 [.one (.int .i64 0)]] _:=hM
    exact aQi 0 (c:=cmR s) (hM.sub (L':=[fb gc 28 (cfd P pc Q qc W wc (cmR s)),fb ge 34 [.one (.int .i64 0)]])) fun w' h=>h.out (l1.trans (lc.trans (l2.trans l3))) ⟨P,pc,Q,qc,W,wc,qs,by rw[hgood],by rw[hgood];exact hcF⟩
end
end Go.Proofs.YtgbenhmdamnmcaaGreat.Cmt
namespace Go.Proofs.YtgbenhmdamnmcaaGreat
open Go.Proofs.Tryz
open Go.RowKit Go.Lib
section
variable {H:Hp} {w0 w:World} {L R:List Res} {A B K F:Option Addr} {a b c n m kc fc:Nat} {t:Tr} {v:Value}
theorem aXs (pl:Int) (once:H32) (about fresh:List Int) (hpl:-1000000≤pl∧pl≤1000000) (hal:about.length≤100000000) (hl:fresh.length≤maxLen) (h:TrF H v t) (hfr:Sl H 1 F (ints8 fresh)) (hf:Fz H w):
  Calls prog 77 #[.pointer none,v,.int .i64 pl,ha once,.string (strOfNums about),.slice F fresh.length fc] w (Outp H w fun H' r=>∃ gv,r=.tuple #[gv,.int .i64 (growT t pl once about fresh).2]∧GwF H' gv (growT t pl once about fresh).1):=by
 have hx:=h.ex
 obtain⟨TA,ta,TB,tb,tq,rfl,-⟩:=hx
 obtain⟨w1,hw1⟩:∃ w1,w1=w:=⟨_,rfl⟩
 rw[← hw1]
 rw[← hw1]at hf
 have hM:=Mem.start hf
 have hab:(strOfNums about).size=about.length:=strOfNums_size _
 refine aEi ?_
 unfold Th
 (((refine Bh hM ?_;clear hM;intro _ _ hM;refine Bh hM ?_;clear hM;intro _ _ hM;refine Bf hM ?_;clear hM;intro _ _ hM;refine An hM ?_)))
 rename_i gt _ go _ g12 _
 refine Bn hM (aFr h hM.fz) (fun w hM2=>?_)
 replace hM:=hM2
 clear hM2
 unfold growT
 cases hr:t.right
 ·(((refine Ab trivial ?_;refine Am ?_;refine Ab trivial ?_;refine Az hM ?_;clear hM;intro _ hM;refine Bz hM ?_)))
  exact hM.out (Le.refl _ _) ⟨_,rfl,GwF.none _⟩
 rw[if_neg (by simp)]
 have hR:=Tr.rt.1 hr
 have hlen:=hR.len
 have hts:t.size=t.ls.length:=rfl
 have hdl:=Uf t.size pl
 (((refine Ab trivial ?_;refine Aj ?_;refine An hM ?_)))
 refine Bn hM (aQe pl h hM.fz) (fun w hM2=>?_)
 replace hM:=hM2
 clear hM2
 by_cases hnb:t.nobody pl
 ·rw[decide_eq_true hnb]
  (((refine Am ?_;refine Ab trivial ?_;refine Az hM ?_;clear hM;intro _ hM;refine Bz hM ?_)))
  exact hM.out (Le.refl _ _) ⟨_,by rw[if_pos hnb],by rw[if_pos hnb];exact GwF.none _⟩
 rw[decide_eq_false hnb,if_neg hnb]
 obtain⟨b0,b1,b2⟩:=Tr.body hnb
 (((refine Aj ?_;refine Ab trivial ?_)))
 (((refine Aw trivial ?_ ?_)))
 ·intro hgt
  (((refine Am ?_;refine Ab trivial ?_;refine Az hM ?_;clear hM;intro _ hM;refine Bz hM ?_)))
  exact hM.out (Le.refl _ _) ⟨_,by rw[if_pos (by omega)],by rw[if_pos (by omega)];exact GwF.none _⟩
 intro hgt
 rw[if_neg (by omega)]
 (((refine Aj ?_;refine Ab trivial ?_;refine An hM ?_;refine Ab trivial ?_)))
 refine Gq hM (Se t.size pl (by omega) hM.fz) ?_
 clear hM
 rintro H2 r w2 l2 hM ⟨WA,wc,rfl,hW⟩
 have hgw:growG t pl once about fresh=⟨(t.pathP pl (pubK (leafS once) 0) ((pubsL (leafS once) ((dirL t.size pl).length+1)).drop 1)).1,rungsK t pl (dirL t.size pl) fresh once about (leafS once) (dirL t.size pl).length,(secL (leafS once) ((dirL t.size pl).length+1)).drop 1,sortedK (keysL (2*pl::dirL t.size pl) (leafS once) ((dirL t.size pl).length+1)),comS (leafS once) ((dirL t.size pl).length+1)⟩:=rfl
 rw[hgw]
 clear hgw
 replace hM:Mem H2 w1 (fb go 23 [.arr 32 (u8s once.1)]::[fb gt 58 (tfd TA t.ls.length ta TB t.ps.length tb),fb g12 139 (gfd none 0 0 none 0 0 none 0 0 none 0 0 none 0 0 hzero)]) _:=hM.sub
 obtain⟨H3,l3,hM3,hgo⟩:=hM.fzb
 clear hM
 have hM:=hM3
 clear hM3
 have hs3:=hW.mono l3.le
 have d1:sleafK.size≤1000000∧es0.size≤1000000:=by decide
 have hwr:∀ x∈2*pl::dirL t.size pl,0≤x∧x≤1000:=fun x hx=>by
  rcases List.mem_cons.1 hx with rfl|hx
  ·omega
  ·obtain⟨m,hm,rfl⟩:=List.getElem_of_mem hx
   have:=aXi ⟨b0,by omega⟩ hm
   omega
 skip
 refine⟨fun v1 v2 v3 w'=>∃ (K1:Option Addr) (c1:Nat) (K2:Option Addr) (c2 g17:Nat),v1=.slice K1 ((dirL t.size pl).length+1) c1∧v2=.slice K2 ((dirL t.size pl).length+1) c2∧v3=.pointer (some ⟨g17,0,none⟩)∧Mem H3 w1 [rowR 23 32 K1 ((dirL t.size pl).length+1) c1 (kfds (secL (leafS once) ((dirL t.size pl).length+1))),rowR 128 33 K2 ((dirL t.size pl).length+1) c2 ((keysL (2*pl::dirL t.size pl) (leafS once) ((dirL t.size pl).length+1)).map Ky.fds),fb g17 23 [.arr 32 (u8s (comS (leafS once) ((dirL t.size pl).length+1)).1)],fb gt 58 (tfd TA t.ls.length ta TB t.ps.length tb),fb g12 139 (gfd none 0 0 none 0 0 none 0 0 none 0 0 none 0 0 hzero)] w',?_,?_⟩
 ·refine⟨Rl.fz H3,?_⟩
  have hF:=hM.fz
  repeat' apply And.intro
  all_goals
   (((refine Ap ?_ ?_));(focus omega);(refine Dj ‹_› ‹_› ?_))
   repeat (first
    | (refine dfz hM (fun w hM=>?_)
       with_reducible show mop _ (Ak .append _ _ _ _) _ _ _
       refine aLy hM hs3 (Np _).symm ?_ ?_
       focus (constructor <;> omega)
       clear hM
       intro A' c' w' hM
       rw[Nat.add_comm 1]at hM ⊢
       refine⟨hM.fz,?_⟩
       skip)
    | (refine dfz hM (fun w hM=>?_)
       with_reducible show mop _ (Ah (fv 150) _) _ _ _
       refine Bi (bBq (2*pl::dirL t.size pl) (leafS once) (by simp only[List.length_cons];omega) hwr (hM.reads (A:=A')) hM) ?_
       clear hM
       rintro r w' ⟨K1,c1,K2,c2,rfl,hM⟩
       refine⟨hM.fz,?_⟩
       (first|((((iterate 3 refine Ap trivial ?_);refine Ca hM ?_;clear hM;intro _ hM;refine Bc hM ?_;clear hM;intro _ hM)))|((((iterate 3 refine Ap trivial ?_))))))
    | (refine dfz hM (fun w hM=>?_)
       (first|(((refine Bx hM ?_ ?_ ?_));(focus rfl);(focus (constructor <;> simp));((clear hM;intro _ _ hM)))|(((refine Bl hM ?_ ?_));(focus (first|exact trivial|assumption|omega));((clear hM;intro _ hM)))|(((refine Bf hM ?_;clear hM;intro _ _ hM))))
       refine⟨hM.fz,?_⟩
       (first|(((refine Ca hM ?_;clear hM;intro _ hM;refine Bc hM ?_;clear hM;intro _ hM)))|skip)))
   exact⟨_,_,_,_,_,rfl,rfl,rfl,hM.sub⟩
 clear hM
 rintro v1 v2 v3 u3 w3 ⟨K1,c1,K2,c2,g17,rfl,rfl,rfl,hM⟩
 have hcap1:=(Mem.rowLen hM ⟨.refl _⟩).2.1
 obtain⟨H4,l4,hM4,hK1',-⟩:=hM.fz0
 obtain⟨H5,l5,hM5,hK2,-⟩:=hM4.fz0
 have hK1:=hK1'.mono l5.le
 clear hM hM4 hK1'
 have hM:=hM5
 clear hM5
 have hkn:(keysL (2*pl::dirL t.size pl) (leafS once) ((dirL t.size pl).length+1)).length=(dirL t.size pl).length+1:=aPr _ _ _
 (((refine Bf hM ?_;clear hM;intro _ _ hM;refine Ab trivial ?_)))
 rename_i g18 _
 have hM9:Mem H5 w1 [rowR 23 32 none 0 0 (kfds (pubsL (leafS once) 0)),fb g18 139 (gfd none 0 0 none 0 0 none 0 0 none 0 0 none 0 0 hzero),fb g17 23 [.arr 32 (u8s (comS (leafS once) ((dirL t.size pl).length+1)).1)],fb gt 58 (tfd TA t.ls.length ta TB t.ps.length tb),fb g12 139 (gfd none 0 0 none 0 0 none 0 0 none 0 0 none 0 0 hzero)] _:=hM.row0 23 32
 refine⟨fun v1 v2 w'=>∃ (i:Nat) (K3:Option Addr) (c3:Nat),v1=.slice K3 i c3∧v2=.int .i64 i∧i≤(dirL t.size pl).length+1∧Mem H5 w1 [rowR 23 32 K3 i c3 (kfds (pubsL (leafS once) i)),fb g18 139 (gfd none 0 0 none 0 0 none 0 0 none 0 0 none 0 0 hzero),fb g17 23 [.arr 32 (u8s (comS (leafS once) ((dirL t.size pl).length+1)).1)],fb gt 58 (tfd TA t.ls.length ta TB t.ps.length tb),fb g12 139 (gfd none 0 0 none 0 0 none 0 0 none 0 0 none 0 0 hzero)] w',fun _ v _=>match v with | .int _ k=>(dirL t.size pl).length+1 - k.toNat|_=>0,⟨0,none,0,rfl,rfl,by omega,hM9⟩,?_⟩
 clear hM hM9
 rintro v1 v2 u4 w4 ⟨i,K3,c3,rfl,rfl,hi,hM⟩
 skip
 (((refine Aw trivial ?_ ?_)))
 ·intro hlt
  have hik:i<(keysL (2*pl::dirL t.size pl) (leafS once) ((dirL t.size pl).length+1)).length:=by omega
  have hke:(keysL (2*pl::dirL t.size pl) (leafS once) ((dirL t.size pl).length+1))[i]=keyK (2*pl::dirL t.size pl) (leafS once) i:=by simp[keysL]
  have hpv:(keysL (2*pl::dirL t.size pl) (leafS once) ((dirL t.size pl).length+1))[i].priv=drv (secK (leafS once) i) bnode es0:=by
   rw[hke]
   unfold keyK
   have hmem:(2*pl::dirL t.size pl).getD i 0∈2*pl::dirL t.size pl:=by
    rw[List.getD_eq_getElem?_getD,List.getElem?_eq_getElem (by simp only[List.length_cons];omega)]
    exact List.getElem_mem _
   rw[aMy (hwr _ hmem)]
  (((refine Am ?_));(refine Ci ‹_› ?_ ?_ ?_);(focus (simp only[List.length_map];omega));(focus (simp only[List.length_map];first|done|omega));((intro _ _ hA));(cases hA);(refine Cb hM ‹_› (By ?_) ?_);(focus omega);((refine Bf hM ?_;clear hM;intro _ _ hM;refine Az hM ?_;clear hM;intro _ hM;refine Ab trivial ?_;refine An hM ?_;refine Bl hM ?_ ?_));(focus (first|exact trivial|assumption|omega));((clear hM;intro _ hM;refine Bx hM ?_ ?_ ?_));(focus rfl);(focus (constructor <;> simp));((clear hM;intro _ _ hM;refine Co hM ?_ ?_));(focus omega);((clear hM;intro _ _ _ hM;refine Ab ?_ ?_));(focus omega))
  rename_i A3 c3' _
  rw[hpv]at hM
  have e1:kfds (pubsL (leafS once) i)++[[.arr 32 (u8s (pubH (drv (secK (leafS once) i) bnode es0)).1)]]=kfds (pubsL (leafS once) (i+1)):=by
   rw[aLi,aIo]
   rfl
  rw[e1]at hM
  exact⟨⟨i+1,A3,c3',rfl,by rw[Value.int.injEq];refine⟨rfl,?_⟩;push_cast;rfl,by omega,hM.sub⟩,by simp only;omega⟩
 intro hge
 obtain rfl:i=(dirL t.size pl).length+1:=by omega
 have hcap3:=(Mem.rowLen hM ⟨.refl _⟩).2.1
 obtain⟨H6,l6,hM6,hK3,-⟩:=hM.fz0
 clear hM
 have hM:=hM6
 clear hM6
 have h6:=h.mono (l2.trans (l3.trans (l4.trans (l5.trans l6)))).le
 have hfr6:=hfr.mono (l2.trans (l3.trans (l4.trans (l5.trans l6)))).le
 have hW6:=hs3.mono (l4.trans (l5.trans l6)).le
 replace hK1:=hK1.mono l6.le
 replace hK2:=hK2.mono l6.le
 (((refine Aj ?_;refine An hM ?_)))
 refine Gq hM (aQa pl fresh hl ⟨b0,by omega⟩ hR h6 hW6 hfr6 hM.fz) ?_
 clear hM
 rintro H7 r w7 l7 hM ⟨SA,sc,qs,rfl,hS,hSA⟩
 have hsl:qs.length=(dirL t.size pl).length:=by
  have:=hSA.len
  rw[this]
  simp[sidesK]
 replace hK1:=hK1.mono l7.le
 replace hK2:=hK2.mono l7.le
 replace hK3:=hK3.mono l7.le
 (((refine Ab trivial ?_)))
 have hgo7:=hgo.mono (l4.trans (l5.trans (l6.trans l7))).le
 have hle7:=l2.trans (l3.trans (l4.trans (l5.trans (l6.trans l7))))
 have hM9:Mem H7 w1 [fb g18 139 (gfd none 0 0 none 0 0 none 0 0 none 0 0 none 0 0 hzero),rowR 43 33 none 0 0 [],fb g17 23 [.arr 32 (u8s (comS (leafS once) ((dirL t.size pl).length+1)).1)],fb gt 58 (tfd TA t.ls.length ta TB t.ps.length tb),fb g12 139 (gfd none 0 0 none 0 0 none 0 0 none 0 0 none 0 0 hzero)] _:=(hM.row0 43 33).sub
 refine⟨fun v1 w'=>∃ (i:Nat) (H8:Hp) (RA:Option Addr) (rc:Nat) (rs:List (List Fd)),v1=.int .i64 i∧i≤(dirL t.size pl).length∧rs.length=i∧Le w1 H7 H8∧All2 (RgF H8) rs (rungsK t pl (dirL t.size pl) fresh once about (leafS once) i)∧Mem H8 w1 [fb g18 139 (gfd none 0 0 none 0 0 RA i rc none 0 0 none 0 0 hzero),rowR 43 33 RA i rc rs,fb g17 23 [.arr 32 (u8s (comS (leafS once) ((dirL t.size pl).length+1)).1)],fb gt 58 (tfd TA t.ls.length ta TB t.ps.length tb),fb g12 139 (gfd none 0 0 none 0 0 none 0 0 none 0 0 none 0 0 hzero)] w',fun v _=>match v with | .int _ k=>(dirL t.size pl).length - k.toNat|_=>0,⟨0,H7,none,0,[],rfl,by omega,rfl,Le.refl _ _,trivial,hM9⟩,?_⟩
 clear hM hM9
 rintro v1 u8 w8 ⟨i,H8,RA,rc,rs,rfl,hi,hrs,l8,hrg,hM⟩
 have hS8:=hS.mono l8.le
 have hK18:=hK1.mono l8.le
 have hK28:=hK2.mono l8.le
 have hK38:=hK3.mono l8.le
 have hgo8:=hgo7.mono l8.le
 have h8:=h.mono (hle7.trans l8).le
 skip
 (((refine Aw trivial ?_ ?_)))
 ·intro hlt
  have hit:i<(dirL t.size pl).length:=by omega
  have hpn0:(pubsL (leafS once) ((dirL t.size pl).length+1)).length=(dirL t.size pl).length+1:=by simp[pubsL]
  have hsn0:(secL (leafS once) ((dirL t.size pl).length+1)).length=(dirL t.size pl).length+1:=aBf _ _
  have hpe:(pubsL (leafS once) ((dirL t.size pl).length+1))[i+1]'(by omega)=pubK (leafS once) (i+1):=by simp[pubsL]
  have hsc:(secL (leafS once) ((dirL t.size pl).length+1))[i+1]'(by omega)=secK (leafS once) (i+1):=by simp[secL]
  have hpn:i+1<(pubsL (leafS once) ((dirL t.size pl).length+1)).length:=by simp[pubsL];omega
  have hsn:i+1<(secL (leafS once) ((dirL t.size pl).length+1)).length:=by rw[aBf];omega
  have hqp:(kfds (pubsL (leafS once) ((dirL t.size pl).length+1)))[((i:Int)+1).toNat]?=some [.arr 32 (u8s (pubK (leafS once) (i+1)).1)]:=by
   rw[show((i:Int)+1).toNat=i+1 by omega,List.getElem?_map,List.getElem?_eq_getElem hpn]
   simp[pubsL]
  have hqs:(kfds (secL (leafS once) ((dirL t.size pl).length+1)))[((i:Int)+1).toNat]?=some [.arr 32 (u8s (secK (leafS once) (i+1)).1)]:=by
   rw[show((i:Int)+1).toNat=i+1 by omega,List.getElem?_map,List.getElem?_eq_getElem hsn]
   simp[secL]
  obtain⟨q,hq1,SC,scc,rfl,hSC,hscl⟩:=hSA.at_ (i:=i) (by simp[sidesK];omega)
  have hse:(sidesK t pl (dirL t.size pl) fresh (dirL t.size pl).length)[i]'(by simp[sidesK];omega)=sideK t pl (dirL t.size pl) fresh i:=by simp[sidesK]
  rw[hse]at hq1 hSC hscl
  have hSC8:=hSC.mono l8.le
  have hthr:=aQd hR (pl:=pl) (way:=dirL t.size pl) (fresh:=fresh) (i:=i)
  have hq1':qs[((i:Int)).toNat]?=some [.one (.slice SC (sideK t pl (dirL t.size pl) fresh i).length scc)]:=hq1
  (((refine Am ?_)))
  refine Ci hS8 (by omega) hsl.symm (fun bb oo hB=>?_)
  cases hB
  refine Cb hM hS8 hq1' ?_
  (((refine Ab ?_ ?_));(focus omega);(refine Ci ‹_› ?_ ?_ ?_);(focus (simp only[List.length_map];omega));(focus (simp only[List.length_map];first|done|omega));((intro _ _ hA));(cases hA);(refine Cb hM ‹_› (By ?_) ?_);(focus omega);((refine Ab trivial ?_;refine Bf hM ?_;clear hM;intro _ _ hM;refine Az hM ?_;clear hM;intro _ hM;refine Ab trivial ?_)))
  rename_i g24 _ _
  rw[hpe]at hM
  have hM9:Mem H8 w1 [fb g24 43 [.arr 32 (u8s (pubK (leafS once) (i+1)).1),.one (.slice none 0 0)],rowR 9 1 none 0 0 [],fb g18 139 (gfd none 0 0 none 0 0 RA i rc none 0 0 none 0 0 hzero),rowR 43 33 RA i rc rs,fb g17 23 [.arr 32 (u8s (comS (leafS once) ((dirL t.size pl).length+1)).1)],fb gt 58 (tfd TA t.ls.length ta TB t.ps.length tb),fb g12 139 (gfd none 0 0 none 0 0 none 0 0 none 0 0 none 0 0 hzero)] _:=(hM.row0 9 1).sub
  refine⟨fun v1 w'=>∃ (j:Nat) (WB:Option Addr) (wb:Nat),v1=.int .i64 j∧j≤(sideK t pl (dirL t.size pl) fresh i).length∧Mem H8 w1 [fb g24 43 [.arr 32 (u8s (pubK (leafS once) (i+1)).1),.one (.slice WB j wb)],rowR 9 1 WB j wb (strs (wrapsT t once about (secK (leafS once) (i+1)) i (sideK t pl (dirL t.size pl) fresh i) j)),fb g18 139 (gfd none 0 0 none 0 0 RA i rc none 0 0 none 0 0 hzero),rowR 43 33 RA i rc rs,fb g17 23 [.arr 32 (u8s (comS (leafS once) ((dirL t.size pl).length+1)).1)],fb gt 58 (tfd TA t.ls.length ta TB t.ps.length tb),fb g12 139 (gfd none 0 0 none 0 0 none 0 0 none 0 0 none 0 0 hzero)] w',fun v _=>match v with | .int _ k=>(sideK t pl (dirL t.size pl) fresh i).length - k.toNat|_=>0,⟨0,none,0,rfl,by omega,hM9⟩,?_⟩
  clear hM hM9
  rintro v1 u9 w9 ⟨j,WB,wb,rfl,hj,hM⟩
  skip
  (((refine Aw trivial ?_ ?_)))
  ·intro hltj
   have hjt:j<(sideK t pl (dirL t.size pl) fresh i).length:=by omega
   obtain⟨x,hx⟩:∃ x,(sideK t pl (dirL t.size pl) fresh i)[j]=x:=⟨_,rfl⟩
   have hxt:=hthr x (hx ▸ List.getElem_mem hjt)
   obtain⟨x1,x2,x3⟩:=id hxt
   have hqx:(ints8 (sideK t pl (dirL t.size pl) fresh i))[((j:Int)).toNat]?=some [.one (.int .i64 x)]:=by
    rw[Int.toNat_natCast,aAt hjt,hx]
   have hgd:(sideK t pl (dirL t.size pl) fresh i).getD j 0=x:=by
    rw[List.getD_eq_getElem?_getD,List.getElem?_eq_getElem hjt,hx]
    rfl
   (((refine Am ?_)))
   refine⟨fun w'=>∃ (WB:Option Addr) (wb:Nat),Mem H8 w1 [fb g24 43 [.arr 32 (u8s (pubK (leafS once) (i+1)).1),.one (.slice WB (j+1) wb)],rowR 9 1 WB (j+1) wb (strs (wrapsT t once about (secK (leafS once) (i+1)) i (sideK t pl (dirL t.size pl) fresh i) (j+1))),fb g18 139 (gfd none 0 0 none 0 0 RA i rc none 0 0 none 0 0 hzero),rowR 43 33 RA i rc rs,fb g17 23 [.arr 32 (u8s (comS (leafS once) ((dirL t.size pl).length+1)).1)],fb gt 58 (tfd TA t.ls.length ta TB t.ps.length tb),fb g12 139 (gfd none 0 0 none 0 0 none 0 0 none 0 0 none 0 0 hzero)] w',?_,?_⟩
   ·have h8l:=Np (sideK t pl (dirL t.size pl) fresh i)
    refine Ci hSC8 (by omega) (Np _).symm (fun bb oo hB=>?_)
    cases hB
    refine Cb hM hSC8 hqx ?_
    (((refine An hM ?_)))
    refine Bn hM (aNd x ⟨x2,x3⟩ hR h8 hM.fz) (fun w hM2=>?_)
    replace hM:=hM2
    clear hM2
    (((refine Ab trivial ?_;refine Ab trivial ?_;refine Bf hM ?_;clear hM;intro _ _ hM;refine Az hM ?_;clear hM;intro _ hM;refine Ab ?_ ?_));(focus omega);(refine Ci ‹_› ?_ ?_ ?_);(focus (simp only[List.length_map];omega));(focus (simp only[List.length_map];first|done|omega));((intro _ _ hA));(cases hA);(refine Cb hM ‹_› (By ?_) ?_);(focus omega);((refine Bf hM ?_;clear hM;intro _ _ hM;refine Az hM ?_;clear hM;intro _ hM)))
    rename_i gp _ _ _ _ gs _ _
    rw[hsc]at hM
    have d9:swrap.size≤1000000∧(strOfNums (numB i++numB j)).size≤1000000:=by
     have a1:=Be i
     have a2:=Be j
     rw[strOfNums_size,List.length_append]
     exact⟨by decide,by omega⟩
    have hnr:∀ y∈[(i:Int),(j:Int)],0≤y∧y≤4611686018427387903:=by
     intro y hy
     simp only[List.mem_cons,List.not_mem_nil,or_false]at hy
     rcases hy with rfl|rfl <;> omega
    have hnf:[(i:Int),(j:Int)].flatMap numB=numB i++numB j:=by simp
    have hw1:wrapT t once about (secK (leafS once) (i+1)) i j ((sideK t pl (dirL t.size pl) fresh i).getD j 0)=wrapL rowK tagK kemH (pubAt t x).1 (drv once swrap (strOfNums (numB i++numB j))) about (secK (leafS once) (i+1)).1:=by rw[hgd];rfl
    have hstr:strs (wrapsT t once about (secK (leafS once) (i+1)) i (sideK t pl (dirL t.size pl) fresh i) j)++[[.one (.string (strOfNums (wrapL rowK tagK kemH (pubAt t x).1 (drv once swrap (strOfNums (numB i++numB j))) about (secK (leafS once) (i+1)).1)))]]=strs (wrapsT t once about (secK (leafS once) (i+1)) i (sideK t pl (dirL t.size pl) fresh i) (j+1)):=by
     rw[aIr,hw1]
     simp[strs]
    repeat' apply And.intro
    all_goals
     (first|(((refine Ap trivial ?_;refine Ba hM ?_;refine Ba hM ?_));(refine Ux hM ‹_› ?_);((refine Ap trivial ?_;refine Cw hM ?_;refine Ba hM ?_;refine Cf hM ?_ ?_ ?_));(focus rfl);(focus (constructor <;> simp));((clear hM;intro _ _ hM;refine Cf hM ?_ ?_ ?_));(focus rfl);(focus (constructor <;> simp));((clear hM;intro _ _ hM)))|(((refine Ap trivial ?_;refine Ba hM ?_;refine Ba hM ?_));(refine Ux hM ‹_› ?_);((refine Ap trivial ?_;refine Cw hM ?_;refine Ba hM ?_;refine Cf hM ?_ ?_ ?_));(focus rfl);(focus (constructor <;> simp));((clear hM;intro _ _ hM))))
     repeat (first
      | (with_reducible show df _ _ (Ah (fv 153) _) _ _
         refine Cg hM (fun w hM=>bAo [(i:Int),(j:Int)] (by simp) hnr (by exact hM.reads) (Fz.of w)) (fun w5 _ hM2=>?_)
         replace hM:=hM2
         clear hM2
         rw[hnf]
         (first|(((refine Bs hM ?_ (fun _ _ hM=>?_)));(focus (first|exact trivial|assumption|omega));((refine Cf hM ?_ ?_ ?_));(focus rfl);(focus (constructor <;> simp));((clear hM;intro _ _ hM)))|(((refine Cf hM ?_ ?_ ?_));(focus rfl);(focus (constructor <;> simp));((clear hM;intro _ _ hM;refine Bs hM ?_ (fun _ _ hM=>?_)));(focus (first|exact trivial|assumption|omega)))|(((refine Bs hM ?_ (fun _ _ hM=>?_)));(focus (first|exact trivial|assumption|omega)))))
      | (with_reducible show df _ _ (Ah (fv 93) _) _ _
         refine Cg hM (fun w hM=>aXh (pubAt t x).1 (drv once swrap (strOfNums (numB i++numB j))) about (secK (leafS once) (i+1)).1 (by omega) (secK (leafS once) (i+1)).2.2 (by rw[(secK (leafS once) (i+1)).2.1];omega) (by exact hM.reads) (by rfl) (by decide) (Fz.of w)) (fun w5 _ hM2=>?_)
         replace hM:=hM2
         clear hM2
         (((refine Cf hM ?_ ?_ ?_));(focus rfl);(focus (constructor <;> simp));((clear hM;intro _ _ hM;refine Px hM ?_ ?_));(focus omega);((clear hM;intro _ _ _ hM;refine Ap trivial ?_;refine Ca hM ?_;clear hM;intro _ hM;refine Bc hM ?_;clear hM;intro _ hM)))))
     rename_i A9 c9 _ _ _
     exact⟨A9,c9,by rw[← hstr];exact hM.sub⟩
   clear hM
   rintro u10 w10 ⟨WB2,wb2,hM⟩
   (((refine Ab ?_ ?_));(focus omega))
   exact⟨⟨j+1,WB2,wb2,by rw[Value.int.injEq];refine⟨rfl,?_⟩;push_cast;rfl,by omega,hM⟩,by simp only;omega⟩
  ·intro hgej
   obtain rfl:j=(sideK t pl (dirL t.size pl) fresh i).length:=by omega
   have hM9:Mem H8 w1 (rowR 9 1 WB (sideK t pl (dirL t.size pl) fresh i).length wb (strs (wrapsT t once about (secK (leafS once) (i+1)) i (sideK t pl (dirL t.size pl) fresh i) (sideK t pl (dirL t.size pl) fresh i).length))::fb g24 43 [.arr 32 (u8s (pubK (leafS once) (i+1)).1),.one (.slice WB (sideK t pl (dirL t.size pl) fresh i).length wb)]::[fb g18 139 (gfd none 0 0 none 0 0 RA i rc none 0 0 none 0 0 hzero),rowR 43 33 RA i rc rs,fb g17 23 [.arr 32 (u8s (comS (leafS once) ((dirL t.size pl).length+1)).1)],fb gt 58 (tfd TA t.ls.length ta TB t.ps.length tb),fb g12 139 (gfd none 0 0 none 0 0 none 0 0 none 0 0 none 0 0 hzero)]) _:=hM.sub
   clear hM
   obtain⟨H9,l9,hM,hWB,-⟩:=hM9.fz0
   clear hM9
   (((refine Aj ?_;refine Ab trivial ?_;refine An hM ?_;refine An hM ?_;refine Bx hM ?_ ?_ ?_));(focus rfl);(focus (constructor <;> simp));((clear hM;intro _ _ hM;refine Co hM ?_ ?_));(focus omega);((clear hM;intro _ _ _ hM;refine Ab trivial ?_;refine Az hM ?_;clear hM;intro _ hM;refine Ab ?_ ?_));(focus omega))
   rename_i A9 c9 _ _
   have hrk:RgF H9 ([.arr 32 (u8s (pubK (leafS once) (i+1)).1),.one (.slice WB (sideK t pl (dirL t.size pl) fresh i).length wb)]) (rungK t once about (leafS once) (sideK t pl (dirL t.size pl) fresh i) i):=by
    refine⟨WB,wb,?_,hWB,?_⟩
    ·unfold Rg.row rungK
     simp only[aBl]
    ·unfold rungK
     simp only[aBl]
     omega
   have hrg9:=(hrg.mono fun q x k=>RgF.mono k l9.le).snoc hrk
   rw[← aIs]at hrg9
   exact⟨⟨i+1,H9,A9,c9,_,by rw[Value.int.injEq];refine⟨rfl,?_⟩;push_cast;rfl,by omega,by rw[List.length_append,hrs];rfl,l8.trans l9,hrg9,hM.sub⟩,by simp only;omega⟩
 ·intro hge
  obtain rfl:i=(dirL t.size pl).length:=by omega
  have hpn0:(pubsL (leafS once) ((dirL t.size pl).length+1)).length=(dirL t.size pl).length+1:=by simp[pubsL]
  have hsn0:(secL (leafS once) ((dirL t.size pl).length+1)).length=(dirL t.size pl).length+1:=aBf _ _
  have hp0:(pubsL (leafS once) ((dirL t.size pl).length+1))[0]'(by omega)=pubK (leafS once) 0:=by simp[pubsL]
  have hle8:=hle7.trans l8
  (((refine Aj ?_;refine Ba hM ?_));(refine Hk ‹_› ?_ ?_ ?_);(focus (simp only[List.length_map];omega));(focus (simp only[List.length_map];first|done|omega));((intro _ _ hA));(cases hA);(refine Iw hM ‹_› (Ct ?_) ?_);(focus omega))
  refine aLk hK38 (by rw[List.length_map];omega) (by omega) hcap3 (fun KB hKB=>?_)
  rw[Int.toNat_one]at hKB ⊢
  simp only[Int.toNat_zero]
  rw[hp0]
  have hkd:(kfds (pubsL (leafS once) ((dirL t.size pl).length+1))).drop 1=kfds ((pubsL (leafS once) ((dirL t.size pl).length+1)).drop 1):=(List.map_drop ..).symm
  have hkl:((pubsL (leafS once) ((dirL t.size pl).length+1)).drop 1).length=(dirL t.size pl).length+1 - 1:=by rw[List.length_drop,hpn0]
  rw[hkd]at hKB
  rw[← hkl]
  refine Pu hM (fun w hM=>bAd pl (pubK (leafS once) 0) ((pubsL (leafS once) ((dirL t.size pl).length+1)).drop 1) (by omega) hKB h8 hM.fz) ?_
  clear hM
  rintro H9 r w9 - l9 hM ⟨v1,rfl,hv1⟩
  have hp9:(t.pathP pl (pubK (leafS once) 0) ((pubsL (leafS once) ((dirL t.size pl).length+1)).drop 1))=t.pathP pl (pubK (leafS once) 0) ((pubsL (leafS once) ((dirL t.size pl).length+1)).drop 1):=rfl
  generalize (t.pathP pl (pubK (leafS once) 0) ((pubsL (leafS once) ((dirL t.size pl).length+1)).drop 1))=tp at hv1 hp9 ⊢
  have hvx:=hv1.ex
  obtain⟨PA,pa,PB,pb,pq,rfl,-⟩:=hvx
  have hrg9:=hrg.mono fun q x k=>RgF.mono k l9.le
  have hK19:=hK18.mono l9.le
  have hK29:=hK28.mono l9.le
  ((((iterate 3 refine Ap trivial ?_);refine Ca hM ?_;clear hM;intro _ hM;refine Bc hM ?_;clear hM;intro _ hM)))
  replace hM:Mem H9 w1 (fb g17 23 [.arr 32 (u8s (comS (leafS once) ((dirL t.size pl).length+1)).1)]::[fb g18 139 (gfd PA tp.1.ls.length pa PB tp.1.ps.length pb RA (dirL t.size pl).length rc none 0 0 none 0 0 hzero),rowR 43 33 RA (dirL t.size pl).length rc rs,fb g12 139 (gfd none 0 0 none 0 0 none 0 0 none 0 0 none 0 0 hzero)]) _:=hM.sub
  obtain⟨Hx,lx,hMx,hg17⟩:=hM.fzb
  clear hM
  have hM:=hMx
  clear hMx
  have hK1x:=hK19.mono lx.le
  have hK2x:=hK29.mono lx.le
  have hF:=hM.fz
  refine⟨Rl.fz Hx,?_⟩
  refine aLk hK1x (by rw[List.length_map];omega) (by omega) hcap1 (fun SB hSB=>?_)
  rw[Int.toNat_one]at hSB ⊢
  ((refine Dj ‹_› ‹_› ?_))
  refine dfz hM (fun w hM=>?_)
  refine Bi (aDq _ hkn.symm (by omega) (hK2x.mono (Kw hM.fz)) hM) ?_
  clear hM
  rintro r w10 ⟨KS,ks,rfl,hM⟩
  refine⟨hM.fz,?_⟩
  (((refine Ap trivial ?_)))
  refine dfz hM (fun w hM=>?_)
  (((refine Az hM ?_;clear hM;intro _ hM)))
  refine⟨hM.fz,?_⟩
  (((refine Ap trivial ?_;refine Ca hM ?_;clear hM;intro _ hM;refine Ap trivial ?_;refine Ca hM ?_;clear hM;intro _ hM;refine Bc hM ?_;clear hM;intro _ hM;refine An hM ?_;refine Az hM ?_;clear hM;intro _ hM;refine Bz hM ?_)))
  replace hM:Mem Hx w1 (rowR 43 33 RA (dirL t.size pl).length rc rs::rowR 128 33 KS (sortedK (keysL (2*pl::dirL t.size pl) (leafS once) ((dirL t.size pl).length+1))).length ks ((sortedK (keysL (2*pl::dirL t.size pl) (leafS once) ((dirL t.size pl).length+1))).map Ky.fds)::[]) _:=hM.sub
  obtain⟨Hy,ly,hMy,hRg,-⟩:=hM.fz0
  obtain⟨Hz,lz,hMz,hKg,-⟩:=hMy.fz0
  have hks:(kfds (secL (leafS once) ((dirL t.size pl).length+1))).drop 1=kfds ((secL (leafS once) ((dirL t.size pl).length+1)).drop 1):=(List.map_drop ..).symm
  rw[hks]at hSB
  have hq:Hx.le Hz:=(ly.trans lz).le
  refine hMz.out (hle8.trans (l9.trans (lx.trans (ly.trans lz)))) ⟨_,rfl,PA,pa,PB,pb,RA,rc,SB,c1 - 1,KS,ks,rs,?_,hv1.mono (lx.le.trans hq),hRg.mono lz.le,hrg9.mono fun q x k=>RgF.mono k (lx.le.trans hq),hSB.mono hq,hKg⟩
  simp only[aLj,List.length_drop,hsn0]
end
end Go.Proofs.YtgbenhmdamnmcaaGreat
namespace Go.Proofs.YtgbenhmdamnmcaaGreat
open Go.Proofs.Tryz
open Go.RowKit Go.Lib
abbrev sleft:ByteArray:=ByteArray.mk #[108,101,102,116]
abbrev sright:ByteArray:=ByteArray.mk #[114,105,103,104,116]
abbrev skey:ByteArray:=ByteArray.mk #[107,101,121]
structure Sd where
 lev:Int
 place:Int
 h:H32
abbrev Sd.fds (s:Sd):List Fd:=[.one (.int .i64 s.lev),.one (.int .i64 s.place),.arr 32 (u8s s.h.1)]
theorem and1 (x:Int):bits .and .i64 x 1=0∨bits .and .i64 x 1=1:=by
 have e:bits .and .i64 x 1=IntKind.i64.wrap (((BitVec.ofInt 64 x &&& BitVec.ofInt 64 1:BitVec 64).toNat:Nat):Int):=rfl
 have k:(BitVec.ofInt 64 x &&& BitVec.ofInt 64 1:BitVec 64).toNat=(BitVec.ofInt 64 x).toNat%2:=by
  rw[BitVec.toNat_and]
  exact Nat.and_one_is_mod _
 rw[e,k]
 rcases Nat.mod_two_eq_zero_or_one (BitVec.ofInt 64 x).toNat with h|h <;> rw[h]
 ·exact .inl rfl
 ·exact .inr rfl
section
variable {H:Hp} {w0 w:World} {L R:List Res} {g b o n c:Nat} {A:Option Addr}
theorem bAu {P:Program} {s:Sem Next} {S:Rl} {Kt:Value→World→Prop} (h:Mem H w0 L w) (hk:∀ w1,Mem H w0 L w1→mop P s w1 Kt (fun _ _=>False)):dfS P S w s false Kt:=
 ⟨fun w1 hd=>Fc (hk w1 (h.drawn hd)) (fun _ _ h=>⟨(fun e=>by cases e),h⟩) fun _ _ h=>h⟩
theorem bAv (xs:List Sd) (hl:xs.length≤1000000) (hM:Mem H w0 (rowR 271 34 A xs.length c (xs.map Sd.fds)::L) w):Calls prog 198 #[.slice A xs.length c] w fun en w'=>∃ v,en=.returned v∧v=.tuple #[]∧∃ ys:List Sd,ys.length=xs.length∧Mem H w0 (rowR 271 34 A xs.length c (ys.map Sd.fds)::L) w':=by
 refine Gg ?_
 unfold Dv
 (((refine Ab trivial ?_;refine Ab ?_ ?_));(focus omega))
 refine⟨fun x v w'=>∃ (i:Nat) (k:Int) (ys:List Sd),x=.int .i64 i∧v=.int .i64 k ∧ -1≤k∧k<xs.length∧i≤xs.length∧ys.length=xs.length∧Mem H w0 (rowR 271 34 A xs.length c (ys.map Sd.fds)::L) w',fun x _ _=>match x with | .int _ k=>xs.length+1 - k.toNat|_=>0,⟨0,(xs.length:Int) - 1,xs,rfl,rfl,by omega,by omega,by omega,rfl,hM⟩,?_⟩
 clear hM
 rintro x v u w2 ⟨i,k,ys,rfl,rfl,hk0,hk1,hi,hys,hM⟩
 (((refine Aw trivial ?_ ?_)))
 ·intro hlt
  obtain⟨m,rfl⟩:∃ m:Nat,k=m:=⟨k.toNat,by omega⟩
  have h1:i<ys.length:=by omega
  have h2:m<ys.length:=by omega
  have q1:(ys.map Sd.fds)[i]?=some ys[i].fds:=by simp[h1]
  have q2:(ys.map Sd.fds)[m]?=some ys[m].fds:=by simp[h2]
  (((refine Am ?_;refine Cj hM ?_ ?_));(focus omega);((intro _ hA));(cases hA);((refine Cv hM (By ?_) ?_));(focus omega);((refine Cj hM ?_ ?_));(focus omega);((intro _ hA));(cases hA);((refine Cv hM (By ?_) ?_));(focus omega);((refine Cj hM ?_ ?_));(focus omega);((intro _ hA));(cases hA))
  refine Ib hM q1 (fun w' hM=>?_)
  (((refine Cj hM ?_ ?_));(focus omega);((intro _ hA));(cases hA))
  refine Ib hM (by rw[List.getElem?_set_ne (by omega)];exact q2) (fun w' hM=>?_)
  have he:((ys.map Sd.fds).set i (Sd.fds ys[m])).set m (Sd.fds ys[i])=((ys.set i ys[m]).set m ys[i]).map Sd.fds:=by simp[List.map_set]
  (((refine Bc hM ?_;clear hM;intro _ hM;refine Ab ?_ ?_));(focus omega);((refine Ab ?_ ?_));(focus omega))
  refine⟨⟨i+1,(m:Int) - 1,(ys.set i ys[m]).set m ys[i],rfl,rfl,by omega,by omega,by omega,by simp[hys],?_⟩,by dsimp only;omega⟩
  rw[← he]
  exact hM
 ·intro hge
  (((refine Aj ?_)))
  exact⟨_,rfl,rfl,ys,hys,hM⟩
theorem aNl (root:H32) (bits:Int) (hb:1≤bits∧bits≤32) (hM:Mem H w0 L w):Calls prog 132 #[ha root,.int .i64 bits] w fun en w'=>∃ v,en=.returned v∧∃ g b,v=.tuple #[.pointer (some ⟨g,0,none⟩),.int .i64 0]∧Mem H w0 (fb g 247 [.one (.int .i64 bits),.one (.slice (some ⟨b,0,none⟩) 1 1)]::rowR 271 34 (some ⟨b,0,none⟩) 1 1 [Sd.fds ⟨0,0,root⟩]::L) w':=by
 refine aOd ?_
 unfold aDa
 (((refine Bh hM ?_;clear hM;intro _ _ hM)))
 refine⟨fun v w'=>v=.bool false∧hM.now w',?_,?_⟩
 ·(((refine Bm trivial ?_ ?_));(focus (first|assumption|omega|with_reducible rfl|exact fun h=>Bool.noConfusion h));((refine Ae ?_;refine Ab trivial ?_;refine Ae ?_;refine Bm trivial ?_ ?_));(focus (first|assumption|omega|with_reducible rfl|exact fun h=>Bool.noConfusion h));((refine Ab trivial ?_)))
  exact⟨rfl,hM⟩
 rintro v u w2 ⟨rfl,hM⟩
 (((refine Aj ?_;refine An hM ?_;refine Ab trivial ?_;refine Bx hM ?_ ?_ ?_));(focus rfl);(focus (constructor <;> simp));((clear hM;intro _ _ hM;refine Ab trivial ?_;refine Bh hM ?_;clear hM;intro _ _ hM)))
 rename_i b2 _ g2 _
 exact⟨_,rfl,g2,b2,rfl,hM.sub⟩
set_option maxHeartbeats 2000000 in
theorem aXt {RR:Ending→World→Prop} (root:H32) (place:Int) (hp:0≤place∧place<4294967296) (hs:Sl H 34 (some ⟨b,o,none⟩) [Sd.fds ⟨0,0,root⟩]) (hM:Mem H w0 (fb g 247 [.one (.int .i64 32),.one (.slice (some ⟨b,o,none⟩) 1 c)]::L) w)
  (hR:∀ (key:H32) (A:Option Addr) (n a:Nat) (ys:List Sd) w',ys.length=n→1≤n→n≤32→Mem H w0 (rowR 271 34 A n a (ys.map Sd.fds)::fb g 247 [.one (.int .i64 32),.one (.slice (some ⟨b,o,none⟩) 1 c)]::L) w'→RR (.returned (.tuple #[ha key,.slice A n a])) w'):
  Calls prog 158 #[.pointer (some ⟨g,0,none⟩),.pointer none,.int .i64 0,.int .i64 place] w RR:=by
 refine aAf ?_
 unfold Pc
 (((refine Bf hM ?_;clear hM;intro _ _ hM;refine Ab trivial ?_;refine Ab trivial ?_;refine An hM ?_;refine Ab ?_ ?_));(focus omega))
 rename_i g8 _
 refine Cb (k:=Int.toNat 0) hM hs rfl ?_
 (((refine Bf hM ?_;clear hM;intro _ _ hM;refine Az hM ?_;clear hM;intro _ hM)))
 rename_i g10 _ _
 have hM9:Mem H w0 (fb g10 271 [.one (.int .i64 0),.one (.int .i64 0),.arr 32 (u8s root.1)]::rowR 271 34 none 0 0 []::rowR 271 34 none 0 0 []::fb g8 23 [.arr 32 (u8s hzero.1)]::fb g 247 [.one (.int .i64 32),.one (.slice (some ⟨b,o,none⟩) 1 c)]::L) _:=((hM.row0 271 34).row0 271 34).same
 refine⟨fun x y w'=>∃ (A:Option Addr) (n a:Nat) (B:Option Addr) (m c2:Nat) (xs ys:List Sd) (lev pl:Int) (h:H32),x=.slice A n a∧y=.slice B m c2∧xs.length=n∧ys.length=m∧0≤lev∧lev≤32∧(n:Int)+m=lev∧0≤pl∧pl<2 ^ lev.toNat∧Mem H w0 (fb g10 271 [.one (.int .i64 lev),.one (.int .i64 pl),.arr 32 (u8s h.1)]::rowR 271 34 A n a (xs.map Sd.fds)::rowR 271 34 B m c2 (ys.map Sd.fds)::fb g8 23 [.arr 32 (u8s hzero.1)]::fb g 247 [.one (.int .i64 32),.one (.slice (some ⟨b,o,none⟩) 1 c)]::L) w',fun x y _=>match x,y with | .slice _ n _,.slice _ m _=>32 - (n+m)|_,_=>0,⟨none,0,0,none,0,0,[],[],0,0,root,rfl,rfl,rfl,rfl,by omega,by omega,by omega,by omega,by decide,hM9⟩,?_⟩
 clear hM hM9
 rintro x y u w2 ⟨A,n,a,B,m,c2,xs,ys,lev,pl,h,rfl,rfl,hxs,hys,hl0,hl1,hnm,hp0,hp1,hM⟩
 (((refine Ap trivial ?_;refine Ba hM ?_;refine Ap trivial ?_;refine Ap trivial ?_;refine Ba hM ?_)))
 (((refine aRa trivial ?_ ?_)))
 ·intro hlt
  have hpw:(2:Int) ^ lev.toNat≤2 ^ 31:=by
   have h1:lev.toNat≤31:=by omega
   have:=Nat.pow_le_pow_right (n:=2) (by omega) h1
   exact_mod_cast this
  have hp31:pl<2147483648:=by have e:(2:Int) ^ 31=2147483648:=by decide
                              omega
  (((refine Bc hM ?_;clear hM;intro _ hM;refine Am ?_)))
  refine⟨fun v w'=>∃ (g13:Nat) (h1 h2:H32),v=.pointer (some ⟨g13,0,none⟩)∧Mem H w0 (fb g13 285 [.one (.int .i64 (lev+1)),.one (.int .i64 (2*pl)),.arr 32 (u8s h1.1),.one (.int .i64 (lev+1)),.one (.int .i64 (2*pl+1)),.arr 32 (u8s h2.1)]::fb g10 271 [.one (.int .i64 lev),.one (.int .i64 pl),.arr 32 (u8s h.1)]::rowR 271 34 A n a (xs.map Sd.fds)::rowR 271 34 B m c2 (ys.map Sd.fds)::fb g8 23 [.arr 32 (u8s hzero.1)]::fb g 247 [.one (.int .i64 32),.one (.slice (some ⟨b,o,none⟩) 1 c)]::L) w',?_,?_⟩
  ·repeat' apply And.intro
   all_goals
    (first|(((refine Ap trivial ?_;refine Ba hM ?_;refine Ap ?_ ?_));(focus omega);((refine Ap trivial ?_;refine Ba hM ?_;refine Ap ?_ ?_));(focus omega);((refine Ap trivial ?_;refine Ap trivial ?_;refine Cw hM ?_;refine Ap trivial ?_;refine Ba hM ?_;refine Ap ?_ ?_));(focus omega);((refine Ap trivial ?_;refine Ba hM ?_;refine Ap ?_ ?_));(focus omega);((refine Ap ?_ ?_));(focus omega);((refine Ap trivial ?_;refine Ap trivial ?_;refine Cw hM ?_;refine Cf hM ?_ ?_ ?_));(focus rfl);(focus (constructor <;> simp));((clear hM;intro _ _ hM;refine Cf hM ?_ ?_ ?_));(focus rfl);(focus (constructor <;> simp));((clear hM;intro _ _ hM;refine Cd hM ?_;clear hM;intro _ _ hM)))|(((refine Ap trivial ?_;refine Ba hM ?_;refine Ap ?_ ?_));(focus omega);((refine Ap trivial ?_;refine Ba hM ?_;refine Ap ?_ ?_));(focus omega);((refine Ap trivial ?_;refine Ap trivial ?_;refine Cw hM ?_;refine Ap trivial ?_;refine Ba hM ?_;refine Ap ?_ ?_));(focus omega);((refine Ap trivial ?_;refine Ba hM ?_;refine Ap ?_ ?_));(focus omega);((refine Ap ?_ ?_));(focus omega);((refine Ap trivial ?_;refine Ap trivial ?_;refine Cw hM ?_;refine Cf hM ?_ ?_ ?_));(focus rfl);(focus (constructor <;> simp));((clear hM;intro _ _ hM;refine Cd hM ?_;clear hM;intro _ _ hM;refine Cf hM ?_ ?_ ?_));(focus rfl);(focus (constructor <;> simp));((clear hM;intro _ _ hM)))|(((refine Ap trivial ?_;refine Ba hM ?_;refine Ap ?_ ?_));(focus omega);((refine Ap trivial ?_;refine Ba hM ?_;refine Ap ?_ ?_));(focus omega);((refine Ap trivial ?_;refine Ap trivial ?_;refine Cw hM ?_;refine Ap trivial ?_;refine Ba hM ?_;refine Ap ?_ ?_));(focus omega);((refine Ap trivial ?_;refine Ba hM ?_;refine Ap ?_ ?_));(focus omega);((refine Ap ?_ ?_));(focus omega);((refine Ap trivial ?_;refine Ap trivial ?_;refine Cw hM ?_;refine Cd hM ?_;clear hM;intro _ _ hM;refine Cf hM ?_ ?_ ?_));(focus rfl);(focus (constructor <;> simp));((clear hM;intro _ _ hM;refine Cf hM ?_ ?_ ?_));(focus rfl);(focus (constructor <;> simp));((clear hM;intro _ _ hM)))|(((refine Ap trivial ?_;refine Ba hM ?_;refine Ap ?_ ?_));(focus omega);((refine Ap trivial ?_;refine Ba hM ?_;refine Ap ?_ ?_));(focus omega);((refine Ap trivial ?_;refine Ap trivial ?_;refine Cw hM ?_;refine Ap trivial ?_;refine Ba hM ?_;refine Ap ?_ ?_));(focus omega);((refine Ap trivial ?_;refine Ba hM ?_;refine Ap ?_ ?_));(focus omega);((refine Ap ?_ ?_));(focus omega);((refine Ap trivial ?_;refine Ap trivial ?_;refine Cw hM ?_;refine Cf hM ?_ ?_ ?_));(focus rfl);(focus (constructor <;> simp));((clear hM;intro _ _ hM;refine Cf hM ?_ ?_ ?_));(focus rfl);(focus (constructor <;> simp));((clear hM;intro _ _ hM)))|(((refine Ap trivial ?_;refine Ba hM ?_;refine Ap ?_ ?_));(focus omega);((refine Ap trivial ?_;refine Ba hM ?_;refine Ap ?_ ?_));(focus omega);((refine Ap trivial ?_;refine Ap trivial ?_;refine Cw hM ?_;refine Ap trivial ?_;refine Ba hM ?_;refine Ap ?_ ?_));(focus omega);((refine Ap trivial ?_;refine Ba hM ?_;refine Ap ?_ ?_));(focus omega);((refine Ap ?_ ?_));(focus omega);((refine Ap trivial ?_;refine Ap trivial ?_;refine Cw hM ?_;refine Cf hM ?_ ?_ ?_));(focus rfl);(focus (constructor <;> simp));((clear hM;intro _ _ hM;refine Cd hM ?_;clear hM;intro _ _ hM)))|(((refine Ap trivial ?_;refine Ba hM ?_;refine Ap ?_ ?_));(focus omega);((refine Ap trivial ?_;refine Ba hM ?_;refine Ap ?_ ?_));(focus omega);((refine Ap trivial ?_;refine Ap trivial ?_;refine Cw hM ?_;refine Ap trivial ?_;refine Ba hM ?_;refine Ap ?_ ?_));(focus omega);((refine Ap trivial ?_;refine Ba hM ?_;refine Ap ?_ ?_));(focus omega);((refine Ap ?_ ?_));(focus omega);((refine Ap trivial ?_;refine Ap trivial ?_;refine Cw hM ?_;refine Cd hM ?_;clear hM;intro _ _ hM;refine Cf hM ?_ ?_ ?_));(focus rfl);(focus (constructor <;> simp));((clear hM;intro _ _ hM)))|(((refine Ap trivial ?_;refine Ba hM ?_;refine Ap ?_ ?_));(focus omega);((refine Ap trivial ?_;refine Ba hM ?_;refine Ap ?_ ?_));(focus omega);((refine Ap trivial ?_;refine Ap trivial ?_;refine Cw hM ?_;refine Ap trivial ?_;refine Ba hM ?_;refine Ap ?_ ?_));(focus omega);((refine Ap trivial ?_;refine Ba hM ?_;refine Ap ?_ ?_));(focus omega);((refine Ap ?_ ?_));(focus omega);((refine Ap trivial ?_;refine Ap trivial ?_;refine Cw hM ?_;refine Cf hM ?_ ?_ ?_));(focus rfl);(focus (constructor <;> simp));((clear hM;intro _ _ hM))))
    repeat
     (with_reducible show df _ _ (Ah (fv 34) _) _ _
      first
       | refine Cg hM (fun w hM=>Gb sleft (strOfNums h.1) (by rw[strOfNums_size,h.2.1];decide) hM) (fun w2 _ hM2=>?_)
       | refine Cg hM (fun w hM=>Gb sright (strOfNums h.1) (by rw[strOfNums_size,h.2.1];decide) hM) (fun w2 _ hM2=>?_)
      replace hM:=hM2
      clear hM2
      (first|(((refine Ap trivial ?_;refine Ap trivial ?_;refine Cd hM ?_;clear hM;intro _ _ hM;refine Ca hM ?_;clear hM;intro _ hM;refine Bc hM ?_;clear hM;intro _ hM)))|(((refine Ap trivial ?_;refine Ap trivial ?_;refine Ca hM ?_;clear hM;intro _ hM;refine Bc hM ?_;clear hM;intro _ hM)))|(((refine Ap trivial ?_;refine Cf hM ?_ ?_ ?_));(focus rfl);(focus (constructor <;> simp));((clear hM;intro _ _ hM;refine Cd hM ?_;clear hM;intro _ _ hM)))|(((refine Ap trivial ?_;refine Cd hM ?_;clear hM;intro _ _ hM;refine Cf hM ?_ ?_ ?_));(focus rfl);(focus (constructor <;> simp));((clear hM;intro _ _ hM)))|(((refine Ap trivial ?_;refine Cf hM ?_ ?_ ?_));(focus rfl);(focus (constructor <;> simp));((clear hM;intro _ _ hM)))|(((refine Ap trivial ?_;refine Cd hM ?_;clear hM;intro _ _ hM)))|(((refine Ap trivial ?_)))))
    exact⟨_,shaH (ints sleft++ints (strOfNums h.1)),shaH (ints sright++ints (strOfNums h.1)),rfl,hM.sub⟩
  clear hM
  rintro v u5 w3 ⟨g13,h1,h2,rfl,hM⟩
  (((refine Ab trivial ?_;refine An hM ?_;refine Bx hM ?_ ?_ ?_));(focus rfl);(focus (constructor <;> simp));((clear hM;intro _ _ hM;refine Ab trivial ?_;refine Ab trivial ?_;refine An hM ?_;refine Ab trivial ?_;refine Ab trivial ?_;refine An hM ?_;refine Bx hM ?_ ?_ ?_));(focus rfl);(focus (constructor <;> simp));((clear hM;intro _ _ hM;refine Ab trivial ?_;refine Bl hM ?_ ?_));(focus (first|exact trivial|assumption|omega));((clear hM;intro _ hM;refine Ap trivial ?_;refine Ap trivial ?_;refine Ba hM ?_;refine Ap trivial ?_;refine Ba hM ?_;refine Ap ?_ ?_));(focus omega);((refine Ap ?_ ?_));(focus omega);((refine Ap ?_ ?_));(focus omega);((refine Ap trivial ?_;refine Bc hM ?_;clear hM;intro _ hM)))
  have hw:=and1 (place / 2 ^ (32 - lev - 1).toNat)
  generalize bits .and .i64 (place / 2 ^ (32 - lev - 1).toNat) 1=way at hw ⊢
  have hpn:(2:Int) ^ (lev+1).toNat=2 ^ lev.toNat*2:=by
   rw[show(lev+1).toNat=lev.toNat+1 by omega,Int.pow_succ]
  rcases hw with rfl|rfl
  ·refine⟨fun x y w'=>∃ (B2:Option Addr) (b2:Nat),x=.slice A n a∧y=.slice B2 (m+1) b2∧Mem H w0 (rowR 271 34 B2 (m+1) b2 (ys.map Sd.fds++[[.one (.int .i64 (lev+1)),.one (.int .i64 (2*pl+1)),.arr 32 (u8s h2.1)]])::fb g13 285 [.one (.int .i64 (lev+1)),.one (.int .i64 (2*pl)),.arr 32 (u8s h1.1),.one (.int .i64 (lev+1)),.one (.int .i64 (2*pl+1)),.arr 32 (u8s h2.1)]::fb g10 271 [.one (.int .i64 lev),.one (.int .i64 pl),.arr 32 (u8s h.1)]::rowR 271 34 A n a (xs.map Sd.fds)::fb g8 23 [.arr 32 (u8s hzero.1)]::fb g 247 [.one (.int .i64 32),.one (.slice (some ⟨b,o,none⟩) 1 c)]::L) w',?_,?_⟩
   ·(((refine Bt trivial ?_ ?_));(focus (first|assumption|omega|with_reducible rfl|exact fun h=>Bool.noConfusion h));((refine Am ?_;refine Ab trivial ?_;refine An hM ?_;refine Bx hM ?_ ?_ ?_));(focus rfl);(focus (constructor <;> simp));((clear hM;intro _ _ hM;refine Co hM ?_ ?_));(focus omega);((clear hM;intro _ _ _ hM)))
    exact⟨_,_,rfl,rfl,hM.sub⟩
   clear hM
   rintro x y u7 w4 ⟨B2,b2,rfl,rfl,hM⟩
   (((refine Ab trivial ?_;refine An hM ?_;refine Az hM ?_;clear hM;intro _ hM)))
   refine⟨⟨A,n,a,B2,m+1,b2,xs,ys++[⟨lev+1,2*pl+1,h2⟩],lev+1,2*pl,h1,rfl,rfl,hxs,by simp[hys],by omega,by omega,by omega,by omega,by rw[hpn];omega,?_⟩,by dsimp only;omega⟩
   simp only[List.map_append,List.map_cons,List.map_nil]
   exact hM.sub
  ·refine⟨fun x y w'=>∃ (A2:Option Addr) (a2:Nat),x=.slice A2 (n+1) a2∧y=.slice B m c2∧Mem H w0 (rowR 271 34 A2 (n+1) a2 (xs.map Sd.fds++[[.one (.int .i64 (lev+1)),.one (.int .i64 (2*pl)),.arr 32 (u8s h1.1)]])::fb g13 285 [.one (.int .i64 (lev+1)),.one (.int .i64 (2*pl)),.arr 32 (u8s h1.1),.one (.int .i64 (lev+1)),.one (.int .i64 (2*pl+1)),.arr 32 (u8s h2.1)]::fb g10 271 [.one (.int .i64 lev),.one (.int .i64 pl),.arr 32 (u8s h.1)]::rowR 271 34 B m c2 (ys.map Sd.fds)::fb g8 23 [.arr 32 (u8s hzero.1)]::fb g 247 [.one (.int .i64 32),.one (.slice (some ⟨b,o,none⟩) 1 c)]::L) w',?_,?_⟩
   ·(((refine Bm trivial ?_ ?_));(focus (first|assumption|omega|with_reducible rfl|exact fun h=>Bool.noConfusion h));((refine Aj ?_;refine Ab trivial ?_;refine An hM ?_;refine Bx hM ?_ ?_ ?_));(focus rfl);(focus (constructor <;> simp));((clear hM;intro _ _ hM;refine Co hM ?_ ?_));(focus omega);((clear hM;intro _ _ _ hM)))
    exact⟨_,_,rfl,rfl,hM.sub⟩
   clear hM
   rintro x y u7 w4 ⟨A2,a2,rfl,rfl,hM⟩
   (((refine Ab trivial ?_;refine An hM ?_;refine Az hM ?_;clear hM;intro _ hM)))
   refine⟨⟨A2,n+1,a2,B,m,c2,xs++[⟨lev+1,2*pl,h1⟩],ys,lev+1,2*pl+1,h2,rfl,rfl,by simp[hxs],hys,by omega,by omega,by omega,by omega,by rw[hpn];omega,?_⟩,by dsimp only;omega⟩
   simp only[List.map_append,List.map_cons,List.map_nil]
   exact hM.sub
 ·intro hge
  have hl32:n+m=32:=by omega
  subst hys
  (((refine Bc hM ?_;clear hM;intro _ hM;refine Aj ?_;refine Ab trivial ?_;refine Ab trivial ?_;refine Jh hM ?_;refine Bx hM ?_ ?_ ?_));(focus rfl);(focus (constructor <;> simp));((clear hM;intro _ _ hM)))
  refine Bn hM (Gb skey (strOfNums h.1) (by rw[strOfNums_size,h.2.1];decide) hM) (fun w3 hM2=>?_)
  replace hM:=hM2
  clear hM2
  generalize shaH (ints skey++ints (strOfNums h.1))=key at hM ⊢
  (((refine Bf hM ?_;clear hM;intro _ _ hM;refine Az hM ?_;clear hM;intro _ hM;refine Ab trivial ?_;refine An hM ?_;refine Bx hM ?_ ?_ ?_));(focus rfl);(focus (constructor <;> simp));((clear hM;intro _ _ hM;refine An hM ?_;refine Bx hM ?_ ?_ ?_));(focus rfl);(focus (constructor <;> simp));((clear hM;intro _ _ hM;refine Ab trivial ?_;refine Bl hM ?_ ?_));(focus (first|exact trivial|assumption|omega));((clear hM;intro _ hM)))
  rename_i g15 _ _ _ _ _ _ _
  refine Bi (bAv (A:=B) ys (by omega) (hM.at_ (rowR 271 34 B ys.length c2 (ys.map Sd.fds)))) ?_
  clear hM
  rintro v w5 ⟨rfl,zs,hzs,hM⟩
  refine⟨Rl.fz (hadd H g15 (fl [.arr 32 (u8s key.1)])),?_⟩
  have hgf:FbF (hadd H g15 (fl [.arr 32 (u8s key.1)])) g15 [.arr 32 (u8s key.1)]:=FbF.add inferInstance
  have hF:=hM.fzAdd hM.fz g15
  ((refine Dj ‹_› ‹_› ?_))
  refine dfz hM (fun w hM=>?_)
  refine aVk hM (by omega) (fun A' c' w' hM=>?_)
  refine⟨hM.fzAdd hM.fz g15,?_⟩
  clear hF hgf
  refine bAu hM (fun w hM=>?_)
  (((refine Az hM ?_;clear hM;intro _ hM;refine Bc hM ?_;clear hM;intro _ hM;refine Bz hM ?_)))
  rw[← List.map_append]at hM
  exact hR key A' (n+ys.length) c' (xs++zs) _ (by simp[hxs,hzs]) (by omega) (by omega) hM.sub
theorem aQj (place:Int) (cells:Fd) (hp:0≤place∧place<4294967296) (hM:Mem H w0 (fb g 247 [.one (.int .i64 32),cells]::L) w):Calls prog 156 #[.pointer (some ⟨g,0,none⟩),.int .i64 place] w fun en w'=>∃ v,en=.returned v∧v=.bool true∧Mem H w0 (fb g 247 [.one (.int .i64 32),cells]::L) w':=by
 refine Vo ?_
 unfold Mj
 (((refine Ab trivial ?_;refine Ae ?_;refine Ab trivial ?_;refine Ae ?_;refine Bt trivial ?_ ?_));(focus (first|assumption|omega|with_reducible rfl|exact fun h=>Bool.noConfusion h));((refine Ab trivial ?_;refine Ae ?_;refine Ab trivial ?_;refine Ae ?_;refine Ab trivial ?_;refine Ae ?_;refine Ab trivial ?_;refine Ae ?_;refine Ab trivial ?_;refine Ae ?_;refine An hM ?_;refine Ae ?_;refine Ab ?_ ?_));(focus omega);((refine Ae ?_)))
 rw[show pw 32=4294967296 from rfl]
 (((refine Bt trivial ?_ ?_));(focus (first|assumption|omega|with_reducible rfl|exact fun h=>Bool.noConfusion h));((refine Ab trivial ?_)))
 exact⟨_,rfl,rfl,hM⟩
theorem aXu (root:H32) (place:Int) (hp:0≤place∧place<4294967296) (hs:Sl H 34 (some ⟨b,o,none⟩) [Sd.fds ⟨0,0,root⟩]) (hM:Mem H w0 (fb g 247 [.one (.int .i64 32),.one (.slice (some ⟨b,o,none⟩) 1 c)]::L) w):
  Calls prog 157 #[.pointer (some ⟨g,0,none⟩),.int .i64 place] w fun en w'=>∃ v,en=.returned v∧v=.tuple #[.int .i64 0,.bool true]∧Mem H w0 (fb g 247 [.one (.int .i64 32),.one (.slice (some ⟨b,o,none⟩) 1 c)]::L) w':=by
 refine aAe ?_
 unfold Pb
 (((refine Ab trivial ?_;refine Ab trivial ?_;refine An hM ?_;refine Ab trivial ?_)))
 refine⟨fun v w'=>v=.int .i64 0∧hM.now w',fun _ _=>0,⟨rfl,hM⟩,?_⟩
 rintro v u w2 ⟨rfl,hM⟩
 have hM:Mem _ _ _ _:=hM
 (((refine Bt trivial ?_ ?_));(focus (first|assumption|omega|with_reducible rfl|exact fun h=>Bool.noConfusion h));((refine Am ?_;refine Ab ?_ ?_));(focus omega))
 refine Cb (k:=Int.toNat 0) hM hs rfl ?_
 (((refine Bf hM ?_;clear hM;intro _ _ hM;refine Az hM ?_;clear hM;intro _ hM;refine Ap trivial ?_;refine Ap trivial ?_;refine Ba hM ?_;refine Ap trivial ?_;refine Ba hM ?_;refine Ap ?_ ?_));(focus (simp only[and_true];omega));((refine Ap ?_ ?_));(focus (simp only[and_true];omega));((refine Ap trivial ?_;refine Ba hM ?_)))
 refine Wo trivial ?_ ?_
 ·show place / 4294967296=0
  omega
 (((refine Bc hM ?_;clear hM;intro _ hM;refine Am ?_)))
 exact⟨_,rfl,rfl,hM.sub⟩
theorem aXv (root:H32) (place:Int) (hp:0≤place∧place<4294967296) (hs:Sl H 34 (some ⟨b,o,none⟩) [Sd.fds ⟨0,0,root⟩]) (hM:Mem H w0 (fb g 247 [.one (.int .i64 32),.one (.slice (some ⟨b,o,none⟩) 1 1)]::L) w):
  Calls prog 79 #[.pointer (some ⟨g,0,none⟩),.pointer none,.int .i64 place] w fun en w'=>∃ v,en=.returned v∧∃ key:H32,v=.tuple #[ha key,.int .i64 0]∧Mem H w0 L w':=by
 refine Zu ?_
 unfold Ou
 (((refine Bf hM ?_;clear hM;intro _ _ hM)))
 refine Bi (aQj place _ hp (hM.at_ (fb g 247 [.one (.int .i64 32),.one (.slice (some ⟨b,o,none⟩) 1 1)]))) ?_
 clear hM
 rintro v w2 ⟨rfl,hM⟩
 (((refine Ab trivial ?_;refine Aj ?_)))
 refine Bi (aXu root place hp hs hM) ?_
 clear hM
 rintro v w3 ⟨rfl,hM⟩
 ((((iterate 3 refine Ab trivial ?_);refine Aj ?_)))
 refine Ej (aXt (RR:=fun en w'=>∃ v,en=.returned v∧∃ (key:H32) (A:Option Addr) (n a:Nat) (ys:List Sd),v=.tuple #[ha key,.slice A n a]∧ys.length=n∧1≤n∧n≤32∧Mem H w0 (rowR 271 34 A n a (ys.map Sd.fds)::fb g 247 [.one (.int .i64 32),.one (.slice (some ⟨b,o,none⟩) 1 1)]::_) w') root place hp hs hM (fun key A n a ys w' h1 h2 h3 h4=>⟨_,rfl,key,A,n,a,ys,rfl,h1,h2,h3,h4⟩)) ?_
 clear hM
 rintro en w4 ⟨v,rfl,key,A,n,a,ys,rfl,hn,hn1,hn2,hM⟩
 (((refine Ab trivial ?_;refine Ab trivial ?_;refine Bf hM ?_;clear hM;intro _ _ hM;refine Az hM ?_;clear hM;intro _ hM)))
 refine⟨Rl.fz (hadd H g (fl [.one (.int .i64 32),.one (.slice (some ⟨b,o,none⟩) 1 1)])),?_⟩
 have hgf:FbF (hadd H g (fl [.one (.int .i64 32),.one (.slice (some ⟨b,o,none⟩) 1 1)])) g [.one (.int .i64 32),.one (.slice (some ⟨b,o,none⟩) 1 1)]:=FbF.add inferInstance
 have hF:=hM.fzAdd hM.fz g
 have hs0:Sl H 34 (some ⟨b,o,none⟩) []:=hs.take 0
 (((refine Ap trivial ?_;refine Ap trivial ?_));(refine Dj ‹_› ‹_› ?_);((refine Ap ?_ ?_));(focus omega))
 rw[show Int.toNat 0=0 from rfl]
 refine dfz hM (fun w hM=>?_)
 refine aXd hM hs0 rfl (by omega) (by omega) (fun A' c' w' hM=>?_)
 refine⟨hM.fzAdd hM.fz g,?_⟩
 rw[Nat.zero_add]at hM ⊢
 (((refine Ap trivial ?_;refine Ap trivial ?_));(refine Dj ‹_› ‹_› ?_);((refine Ap ?_ ?_));(focus omega))
 refine aLk hs rfl (by omega) (by omega) (fun B hB=>?_)
 skip
 refine dfz hM (fun w hM=>?_)
 refine aLy hM hB (by simp) (by omega) (fun A2 c2 w' hM=>?_)
 refine⟨hM.fzAdd hM.fz g,?_⟩
 clear hF hgf
 (((refine Ap trivial ?_;refine Ap trivial ?_;refine Ca hM ?_;clear hM;intro _ hM;refine Bc hM ?_;clear hM;intro _ hM;refine An hM ?_;refine Az hM ?_;clear hM;intro _ hM;refine Bz hM ?_)))
 exact⟨_,rfl,key,rfl,hM.sub⟩
end
end Go.Proofs.YtgbenhmdamnmcaaGreat
namespace Go.Proofs.YtgbenhmdamnmcaaGreat
open Go.Proofs.Tryz
open Go.RowKit Go.Lib
theorem and15w (a:Int) (h:0≤a∧a<256):bits .and .u8 a 15=a%16:=by
 have key:∀ m:Fin 256,bits .and .u8 (m.val:Int) 15=(m.val:Int)%16:=by decide +kernel
 have:=key ⟨a.toNat,by omega⟩
 simp only[Int.toNat_of_nonneg h.1]at this
 exact this
abbrev digw:ByteArray:=ByteArray.mk #[48,49,50,51,52,53,54,55,56,57,97,98,99,100,101,102]
theorem aUu (n:Int) (k:IntKind) (h:0≤n∧n<16):Pur prog (Cq 9 (.string digw) (.int k n)) (.int .u8 ((ints digw).getD n.toNat 0)):=
 Jd (P:=prog) 9 digw k n (by kernel_rfl) h.1 (show n<((16:Nat):Int) by omega)
def tiV (l:List Int):List Value:=l.map fun x=>.int .i64 x
abbrev T64:={ l:List Int // l.length=64∧∀ x∈l,0≤x∧x≤4611686018427387903 }
instance (t:T64):FdOk (.arr 64 (tiV t.1)):=⟨by simp[Fd.cells,Fd.size,tiV,t.2.1],fun u hu=>by
 obtain⟨x,_,rfl⟩:=List.mem_map.1 hu
 rfl⟩
structure Frm where
 id:H32
 parent:H32
 depth:Int
 said:H32
 times:T64
abbrev Frm.fds (f:Frm) (A:Option Addr) (n a:Nat) (B:Option Addr) (m b:Nat):List Fd:=[.arr 32 (u8s f.id.1),.arr 32 (u8s f.parent.1),.one (.int .i64 f.depth),.one (.slice A n a),.one (.slice B m b),.arr 32 (u8s f.said.1),.arr 64 (tiV f.times.1)]
section
variable {H:Hp} {w0 w:World} {L R:List Res} {A:Option Addr} {g n c:Nat}
theorem aXw (h:H32) (hf:Fz H w):Calls prog 135 #[ha h] w (Outp H w fun _ v=>∃ s:ByteArray,v=.string s∧s.size≤64):=by
 have hM:=Mem.start hf
 have hb:=h.2.2
 have hl:=h.2.1
 refine aOe ?_
 unfold aDb
 (((refine Bh hM ?_;clear hM;intro _ _ hM;refine An hM ?_)))
 rename_i g1 _
 have hM9:Mem H w (rowR 5 1 none 0 0 (byts [])::[fb g1 23 [.arr 32 (u8s h.1)]]) _:=hM.row0 5 1
 refine⟨fun x v w'=>∃ (k:Nat) (l:List Int) (A:Option Addr) (c:Nat),v=.int .i64 k∧k≤32∧l.length=2*k∧x=.slice A (2*k) c∧Mem H w (rowR 5 1 A (2*k) c (byts l)::[fb g1 23 [.arr 32 (u8s h.1)]]) w',fun _ v _=>match v with | .int _ k=>32 - k.toNat|_=>0,⟨0,[],none,0,rfl,by omega,rfl,rfl,hM9⟩,?_⟩
 clear hM hM9
 rintro x v u w2 ⟨k,l,A,c,rfl,hk,hlk,rfl,hM⟩
 (((refine Aw trivial ?_ ?_)))
 ·intro hlt
  have hx:=hb (h.1[k]'(by omega)) (List.getElem_mem _)
  (((refine Am ?_)))
  refine Br (Kz _ 5 32 (u8s h.1).toArray _ (k:Int) (.int .u8 (h.1[k]'(by omega))) (by kernel_rfl) (by kernel_rfl) (by omega) (by omega) (by simp[u8s])) ?_
  (((refine Ap ?_ ?_));(focus omega))
  refine Og (aUu _ _ ?_) ?_
  ·show 0≤h.1[k] / 16∧h.1[k] / 16<16
   omega
  (((refine Ap trivial ?_)))
  rw[and15w _ hx]
  refine Og (aUu _ _ (by omega)) ?_
  generalize (ints digw).getD (h.1[k]%16).toNat 0=y
  generalize (ints digw).getD _ 0=z
  (((refine Cf hM ?_ ?_ ?_));(focus rfl);(focus (constructor <;> simp));((clear hM;intro _ _ hM;refine Px hM ?_ ?_));(focus omega);((clear hM;intro _ _ _ hM;refine Bc hM ?_;clear hM;intro _ hM;refine Ab ?_ ?_));(focus omega))
  rename_i A2 c2 _ _
  refine⟨⟨k+1,l++[z,y],A2,c2,rfl,by omega,by simp[hlk];omega,rfl,?_⟩,by dsimp only;omega⟩
  have e:byts (l++[z,y])=byts l++[[.one (.int .u8 z)],[.one (.int .u8 y)]]:=by simp[byts]
  rw[e,show 2*(k+1)=2*k+2 from rfl]
  exact hM.sub
 ·intro hge
  obtain rfl:k=32:=by omega
  (((refine Aj ?_;refine Rk hM ?_ ?_));(focus (simp;omega)))
  exact hM.out (Le.refl _ _) ⟨_,rfl,by rw[strOfNums_size,List.length_take];omega⟩
instance:FunC prog 129:=⟨by kernel_rfl⟩
theorem aKp (n:Int) (h:0≤n∧n≤4611686018427387903) (w:World):Calls prog 129 #[.int .i64 n] w fun en w'=>en=.returned (.bool false)∧St w [] w':=by
 have hM:=Mem.start (Fz.of w)
 refine aEo ?_
 unfold Ts
 (((refine Bm trivial ?_ ?_));(focus (first|assumption|omega|with_reducible rfl|exact fun h=>Bool.noConfusion h));((refine Ae ?_;refine Ab trivial ?_;refine Ae ?_;refine Bm trivial ?_ ?_));(focus (first|assumption|omega|with_reducible rfl|exact fun h=>Bool.noConfusion h));((refine Ab trivial ?_)))
 exact⟨rfl,hM.st⟩
theorem aUv (f:Frm) (B:Option Addr) (a m b:Nat) (hM:Mem H w0 (fb g 62 (f.fds A n a B m b)::L) w):
  Calls prog 128 #[.slice (some ⟨g,99,none⟩) 64 64,fv 129] w fun en w'=>∃ v,en=.returned v∧v=.bool false∧Mem H w0 (fb g 62 (f.fds A n a B m b)::L) w':=by
 have hix:Calls prog 178 #[.slice (some ⟨g,99,none⟩) 64 64,fv 129] w fun en w'=>∃ v,en=.returned v∧v=.int .i64 (-1)∧Mem H w0 (fb g 62 (f.fds A n a B m b)::L) w':=by
  refine Fg ?_
  unfold Du
  (((refine Ab trivial ?_)))
  refine⟨fun v w'=>∃ i:Nat,v=.int .i64 i∧i≤64∧hM.now w',fun v _=>match v with | .int _ k=>64 - k.toNat|_=>0,⟨0,rfl,by omega,hM⟩,?_⟩
  rintro v u w2 ⟨i,rfl,hi,hM⟩
  (((refine Aw trivial ?_ ?_)))
  ·intro hlt
   have hx:=f.times.2.2 (f.times.1[i]'(by have:=f.times.2.1;omega)) (List.getElem_mem _)
   have hM:Mem _ _ _ _:=hM
   (((refine Am ?_;refine Ab ?_ ?_));(focus omega))
   refine aJj hM (v:=.int .i64 (f.times.1[i]'(by have:=f.times.2.1;omega))) (by simp[tiV]) ?_
   refine Bn hM (aKp _ hx _) (fun w3 hM=>?_)
   (((refine Aj ?_;refine Ab ?_ ?_));(focus omega))
   exact⟨⟨i+1,rfl,by omega,hM⟩,by dsimp only;omega⟩
  ·intro hge
   (((refine Aj ?_)))
   exact⟨_,rfl,rfl,hM⟩
 refine Ii ?_
 unfold Eu
 refine Bi hix ?_
 rintro v w2 ⟨rfl,hM⟩
 (((refine Bm trivial ?_ ?_));(focus (first|assumption|omega|with_reducible rfl|exact fun h=>Bool.noConfusion h)))
 exact⟨_,rfl,rfl,hM⟩
end
end Go.Proofs.YtgbenhmdamnmcaaGreat
namespace Go.Proofs.YtgbenhmdamnmcaaGreat
open Go.Proofs.Tryz
open Go.RowKit Go.Lib
section
variable {H:Hp} {w0 w:World} {L R:List Res} {A B K:Option Addr} {g n a b c kc:Nat}
theorem aQk (ps:List (List Fd)) (hn:n=ps.length) (h1:Sl H 97 A ps) (hl:n≤1000) (hM:Mem H w0 L w):
  Calls prog 131 #[tv A n a B 0 b] w fun en w'=>∃ v,en=.returned v∧∃ A' a' B' b',v=tv A' n a' B' 0 b'∧Mem H w0 (rowR 118 97 A' n a' ps::L) w':=by
 refine aEq ?_
 unfold Tu
 (((refine Bh hM ?_;clear hM;intro _ _ hM;refine Bf hM ?_;clear hM;intro _ _ hM)))
 rename_i g1 _ g2 _
 refine⟨fun v w'=>∃ g3 A' a' B' b',v=.pointer (some ⟨g3,0,none⟩)∧Mem H w0 (fb g3 58 (tfd A' n a' B' 0 b')::rowR 118 97 A' n a' ps::fb g2 58 (tfd none 0 0 none 0 0)::L) w',?_,?_⟩
 ·repeat' apply And.intro
  all_goals
   (first|(((refine Ap trivial ?_;refine Ba hM ?_;refine Ap trivial ?_;refine Ba hM ?_;refine Cd hM ?_;clear hM;intro _ _ hM)))|(((refine Ap trivial ?_;refine Ba hM ?_;refine Ap trivial ?_;refine Ba hM ?_))))
   repeat (first
    | (with_reducible show df _ _ (Ah (fv 141) _) _ _
       refine Nd hM (fun w hM=>Mv (h1.mono (Kw hM.fz)) hn (by omega) hM) ?_
       clear hM
       rintro v w5 - ⟨A',a',rfl,hM⟩
       (first|(((refine Cd hM ?_;clear hM;intro _ _ hM)))|skip))
    | (with_reducible show df _ _ (Ah (fv 142) _) _ _
       refine La hM (fun w hM=>(Mw (ps:=[]) (Sl.nil _ _ _) (by simp) (by omega) hM).mono fun en w' ⟨v,h,_,k⟩=>⟨v,h,k⟩) ?_
       clear hM
       rintro v w5 ⟨B',b',rfl,hM⟩
       (first|(((refine Ap trivial ?_;refine Cd hM ?_;clear hM;intro _ _ hM;refine Ca hM ?_;clear hM;intro _ hM;refine Bc hM ?_;clear hM;intro _ hM)))|(((refine Ap trivial ?_;refine Ca hM ?_;clear hM;intro _ hM;refine Bc hM ?_;clear hM;intro _ hM))))))
   exact⟨_,A',a',B',b',rfl,hM.sub⟩
 clear hM
 rintro v u w2 ⟨g3,A',a',B',b',rfl,hM⟩
 (((refine Ab trivial ?_;refine An hM ?_;refine Ab trivial ?_)))
 refine⟨fun v w'=>v=.int .i64 0∧hM.now w',fun _ _=>0,⟨rfl,hM⟩,?_⟩
 rintro v u w3 ⟨rfl,hM⟩
 have hM:Mem _ _ _ _:=hM
 (((refine Bm trivial ?_ ?_));(focus (first|assumption|omega|with_reducible rfl|exact fun h=>Bool.noConfusion h));((refine Aj ?_;refine An hM ?_;refine Az hM ?_;clear hM;intro _ hM;refine Bz hM ?_)))
 exact⟨_,rfl,A',a',B',b',rfl,hM.sub⟩
theorem aUw (s:ByteArray) (h:H32) (w:World):Calls prog 134 #[.pointer none,.string s,ha h] w fun en w'=>en=.returned (.tuple #[])∧St w [] w':=by
 have hM:=Mem.start (Fz.of w)
 refine Vm ?_
 unfold Mg
 (((refine Bh hM ?_;clear hM;intro _ _ hM;refine Ab trivial ?_;refine Aj ?_)))
 exact⟨rfl,hM.st⟩
theorem Gk (p v x:H32):Tr.right ⟨[⟨1,p,v,x⟩],[]⟩=true:=by kernel_rfl
theorem aDt (p v x:H32):(Tr.sound ⟨[⟨1,p,v,x⟩],[]⟩).place 1=0:=by
 unfold Tr.sound
 rw[Gk]
 rfl
abbrev eraF (f:Frm) (A:Option Addr) (n a:Nat) (B:Option Addr) (m b:Nat) (me:Int) (K:Option Addr) (kn kc:Nat) (gi:Nat) (forks:Int) (P:Option Addr) (pn pc:Nat) (exp:H32):List Fd:=
 [.arr 32 (u8s f.id.1),.arr 32 (u8s f.parent.1),.one (.int .i64 f.depth),.one (.slice A n a),.one (.slice B m b),.arr 32 (u8s f.said.1),.arr 64 (tiV f.times.1),.one (.int .i64 me),.one (.slice K kn kc),.one (.pointer (some ⟨gi,0,none⟩)),.one (.int .i64 forks),.one (.slice P pn pc),.one (.int .i64 0),.arr 32 (u8s exp.1)]
theorem aIt {RR:Ending→World→Prop} (f:Frm) (lp lw lx:H32) (sec:Sec) (ks:List Kr) (hk:ks.length≤1000) (hd:0≤f.depth∧f.depth≤4611686018427387903)
  (h1:Sl H 97 A [Lf.fds ⟨1,lp,lw,lx⟩]) (hK:Sl H 33 K (ks.map Kr.fds)) (hM:Mem H w0 L w)
  (hR:∀ H' ge gi si A' a' B' b' K' kn kc' P' pc w',Le w0 H H'→Sl H' 97 A' [Lf.fds ⟨1,lp,lw,lx⟩]→Sl H' 34 (some ⟨si,0,none⟩) [Sd.fds ⟨0,0,sec.init⟩] →
   Mem H' w0 (fb ge 67 (eraF f A' 1 a' B' 0 b' 1 K' kn kc' gi 0 P' 1 pc sec.export_)::fb gi 247 [.one (.int .i64 32),.one (.slice (some ⟨si,0,none⟩) 1 1)]::L) w'→RR (.returned (.tuple #[.pointer (some ⟨ge,0,none⟩),.int .i64 0])) w'):
  Calls prog 68 #[.pointer none,.agg (fl (f.fds A 1 a B 0 b)).toArray,.int .i64 1,.slice K ks.length kc,sec.v] w RR:=by
 obtain⟨t,ht1⟩:∃ t:Tr,t=⟨[⟨1,lp,lw,lx⟩],[]⟩:=⟨_,rfl⟩
 have hT:TrF H (tv A 1 a B 0 b) t:=by
  subst ht1
  exact⟨⟨A,a,B,b,[],rfl,h1,Sl.nil _ _ _,trivial⟩,by simp[maxLen],by simp[maxLen]⟩
 have hright:=fun(w:World) (hf:Fz H w)=>Ei (t:=⟨[⟨1,lp,lw,lx⟩],[]⟩) (qs:=[]) (A:=A) (B:=B) (a:=a) (b:=b) h1 (Sl.nil _ _ _) trivial (by simp[maxLen]) (by simp[maxLen]) hf
 have hplace:=fun(w:World) (hf:Fz H w)=>aHy (t:=⟨[⟨1,lp,lw,lx⟩],[]⟩) (qs:=[]) (A:=A) (B:=B) (a:=a) (b:=b) 1 h1 (Sl.nil _ _ _) trivial (by simp[maxLen]) (by simp[maxLen]) hf
 rw[Gk]at hright
 rw[aDt]at hplace
 refine aJm ?_
 unfold Zs
 (((refine Bh hM ?_;clear hM;intro _ _ hM;refine Bh hM ?_;clear hM;intro _ _ hM)))
 rename_i g6 _ g9 _
 refine⟨fun v w'=>v=.bool false∧Mem H w0 (fb g9 123 sec.fds::fb g6 62 (f.fds A 1 a B 0 b)::L) w',?_,?_⟩
 ·(((refine Ab trivial ?_;refine An hM ?_)))
  refine Bn hM (hright _ hM.fz) (fun w hM=>?_)
  (((refine Ab trivial ?_;refine Ae ?_;refine Ab trivial ?_;refine Ae ?_;refine An hM ?_;refine Ae ?_;refine Bm trivial ?_ ?_));(focus (first|assumption|omega|with_reducible rfl|exact fun h=>Bool.noConfusion h));((refine Ab trivial ?_;refine Ae ?_;refine Ab trivial ?_;refine Ae ?_;refine An hM ?_;refine Ae ?_;refine Bm trivial ?_ ?_));(focus (first|assumption|omega|with_reducible rfl|exact fun h=>Bool.noConfusion h));((refine Ab trivial ?_;refine Ae ?_;refine Ab trivial ?_;refine Ae ?_;refine Ab trivial ?_;refine Ae ?_)))
  refine Bi (aUv (g:=g6) f B a 0 b (hM.at_ (fb g6 62 (f.fds A 1 a B 0 b)))) ?_
  clear hM
  rintro v w3 ⟨rfl,hM⟩
  (((refine Ab trivial ?_)))
  exact⟨rfl,hM.same⟩
 clear hM
 rintro v u w2 ⟨rfl,hM⟩
 (((refine Aj ?_;refine Ab trivial ?_;refine An hM ?_)))
 refine Bn hM (hplace _ hM.fz) (fun w3 hM2=>?_)
 replace hM:=hM2
 clear hM2
 (((refine Bm trivial ?_ ?_));(focus (first|assumption|omega|with_reducible rfl|exact fun h=>Bool.noConfusion h));((refine Aj ?_;refine Ba hM ?_;refine Ap trivial ?_;refine Ba hM ?_)))
 have hM0:=hM
 refine Pu hM (fun w hM=>aXe ks hk hT hK hM.fz) ?_
 clear hM
 rintro H1 r w4 hx l1 hM ⟨K',kc',rfl,-⟩
 generalize (keepT t ks).length=kn at hM ⊢
 (((refine Ap trivial ?_));(refine Ba ‹Mem _ _ _ _› ?_);((refine Ap trivial ?_;refine aYu hM ?_;clear hM;intro _ _ hM;refine Bc hM ?_;clear hM;intro _ hM;refine Ab trivial ?_;refine An hM ?_)))
 clear hM0
 have h11:=h1.mono l1.le
 refine Bi (aQk [Lf.fds ⟨1,lp,lw,lx⟩] rfl h11 (by omega) hM) ?_
 clear hM
 rintro r w5 ⟨A',a',B',b',rfl,hM⟩
 ((((iterate 3 refine Ab trivial ?_);refine Az hM ?_;clear hM;intro _ hM;refine Ab trivial ?_;refine An hM ?_)))
 rename_i ge _ _ _
 refine Bi (aNl sec.init 32 (by omega) hM) ?_
 clear hM
 rintro r w6 ⟨gi,si,rfl,hM⟩
 ((((iterate 4 refine Ab trivial ?_);refine Az hM ?_;clear hM;intro _ hM;(iterate 4 refine Ab trivial ?_);refine An hM ?_;refine Ab trivial ?_)))
 have hM9:Mem H1 w0 (fb ge 67 (eraF f A' 1 a' B' 0 b' 1 K' kn kc' gi 0 none 0 0 sec.export_)::rowR 64 1 none 0 0 []::rowR 118 97 A' 1 a' [Lf.fds ⟨1,lp,lw,lx⟩]::fb gi 247 [.one (.int .i64 32),.one (.slice (some ⟨si,0,none⟩) 1 1)]::rowR 271 34 (some ⟨si,0,none⟩) 1 1 [Sd.fds ⟨0,0,sec.init⟩]::fb g9 123 sec.fds::fb g6 62 (f.fds A 1 a B 0 b)::L) _:=(hM.row0 64 1).same
 refine⟨fun v w'=>∃ (i:Nat) (P:Option Addr) (pc:Nat) (ps:List (List Fd)),v=.int .i64 i∧i≤1∧Mem H1 w0 (fb ge 67 (eraF f A' 1 a' B' 0 b' 1 K' kn kc' gi 0 P i pc sec.export_)::rowR 64 1 P i pc ps::rowR 118 97 A' 1 a' [Lf.fds ⟨1,lp,lw,lx⟩]::fb gi 247 [.one (.int .i64 32),.one (.slice (some ⟨si,0,none⟩) 1 1)]::rowR 271 34 (some ⟨si,0,none⟩) 1 1 [Sd.fds ⟨0,0,sec.init⟩]::fb g9 123 sec.fds::fb g6 62 (f.fds A 1 a B 0 b)::L) w',fun v _=>match v with | .int _ k=>1 - k.toNat|_=>0,⟨0,none,0,[],rfl,by omega,hM9⟩,?_⟩
 clear hM hM9
 rintro v u w7 ⟨i,P,pc,ps,rfl,hi,hM⟩
 obtain rfl|rfl:i=0∨i=1:=by omega
 ·(((refine Bt trivial ?_ ?_));(focus (first|assumption|omega|with_reducible rfl|exact fun h=>Bool.noConfusion h));((refine Am ?_;refine Zg hM ?_ ?_));(focus omega);((intro _ hA));(cases hA))
  refine Yg (k:=((0:Nat):Int).toNat) hM rfl ?_
  (((refine Bf hM ?_;clear hM;intro _ _ hM;refine Az hM ?_;clear hM;intro _ hM)))
  rename_i g14 _ _
  refine⟨fun v w'=>∃ gr,v=.pointer (some ⟨gr,0,none⟩)∧hM.now w',?_,?_⟩
  ·(((refine Ab trivial ?_;refine An hM ?_)))
   refine Bt trivial (show(1:Int)>0 by decide) ?_
   (((refine Am ?_;refine Ab trivial ?_;refine An hM ?_;refine Bl hM ?_ (fun _ hM2=>?_)));(focus (first|exact trivial|assumption|omega));((replace hM:=hM2;clear hM2)))
   refine Bi (aNl (appH sec.apps ((0:Nat):Int)) 8 (by omega) hM) ?_
   rintro r w8 ⟨gj,sj,rfl,hM2⟩
   (((refine Ab trivial ?_;refine Ab trivial ?_)))
   exact⟨gj,rfl,(hM2.sub:Mem H1 w0 _ _)⟩
  rintro v u8 w8 ⟨gr,rfl,hM⟩
  have hM:Mem _ _ _ _:=hM
  (((refine Ab trivial ?_;refine Ab trivial ?_;refine An hM ?_;refine Bx hM ?_ ?_ ?_));(focus rfl);(focus (constructor <;> simp));((clear hM;intro _ _ hM;refine Co hM ?_ ?_));(focus omega);((clear hM;intro _ _ _ hM;refine Ab trivial ?_;refine Ab trivial ?_;refine Az hM ?_;clear hM;intro _ hM;refine Ab ?_ ?_));(focus omega))
  rename_i A2 c2 _ _
  exact⟨⟨1,A2,c2,ps++[[.one (.pointer (some ⟨gr,0,none⟩))]],rfl,by omega,hM.sub⟩,by dsimp only;omega⟩
 ·have hM0:=hM
  (((refine Bm trivial ?_ ?_));(focus (first|assumption|omega|with_reducible rfl|exact fun h=>Bool.noConfusion h));((refine Aj ?_;refine Ap trivial ?_;refine Ba hM ?_)))
  refine Pu hM (fun w hM=>aXw f.id hM.fz) ?_
  clear hM
  rintro H2 r w8 hx2 l2 hM ⟨s,rfl,hs⟩
  have hsz:(ByteArray.mk #[101,112,111,99,104,32]).size=6:=rfl
  refine Ap (by omega) ?_
  (((refine Ap trivial ?_));(refine Ba ‹Mem _ _ _ _› ?_))
  refine Cg hM (fun w hM=>aUw _ _ w) (fun w9 _ hM2=>?_)
  replace hM:=hM2
  clear hM2
  (((refine Bc hM ?_;clear hM;intro _ hM)))
  obtain⟨H3,l3,hM3,hS,-⟩:=hM.fz1 (some ⟨si,0,none⟩)
  clear hM
  obtain⟨H4,l4,hM4,hL,-⟩:=hM3.fz1 A'
  exact hR H4 ge gi si A' a' B' b' K' kn kc' P pc _ (l1.trans (l2.trans (l3.trans l4))) hL (hS.mono l4.le) hM4.sub
end
end Go.Proofs.YtgbenhmdamnmcaaGreat
namespace Go.Proofs.YtgbenhmdamnmcaaGreat
open Go.Proofs.Tryz
open Go.RowKit Go.Lib
abbrev sfound:ByteArray:=ByteArray.mk #[102,111,117,110,100]
def t64:T64:=⟨(List.replicate 64 0).set 0 1,by simp,by decide⟩
theorem e64:(List.replicate 64 (Value.int .i64 0)).set ((1:Int) - 1).toNat (.int .i64 1)=tiV t64.1:=by
 simp[tiV,t64,List.map_set]
section
variable {H:Hp} {w0 w:World} {L R:List Res} {A B K:Option Addr} {g n a b c kc:Nat}
theorem aUx {RR:Ending→World→Prop} (once:H32) (ps:List (List Fd)) (hA:Sl H 33 A ps) (hps:All2 (PkF H) ps (rollN 6)) (hM:Mem H w0 L w)
  (hR:∀ H' ge gi si A' a' B' b' K' kn kc' P' pc w' (f:Frm) (x ini exp:H32),Le w0 H H'→f.depth=0→Sl H' 97 A' [Lf.fds ⟨1,pubH (leafK 1 0),Chg.verV (privK 1),x⟩]→Sl H' 34 (some ⟨si,0,none⟩) [Sd.fds ⟨0,0,ini⟩] →
   Mem H' w0 (fb ge 67 (eraF f A' 1 a' B' 0 b' 1 K' kn kc' gi 0 P' 1 pc exp)::fb gi 247 [.one (.int .i64 32),.one (.slice (some ⟨si,0,none⟩) 1 1)]::L) w'→RR (.returned (.tuple #[.pointer (some ⟨ge,0,none⟩),.int .i64 0])) w'):
  Calls prog 20 #[.pointer none,.slice A 6 a,.int .i64 1,ha once,ha (leafK 1 0)] w RR:=by
 have hpl:ps.length=6:=hps.len
 obtain⟨q,hq0,C,cc,rfl,hC⟩:=hps.at_ (i:=0) (by decide)
 have hC:Sl H 64 C (cardF 1 3):=hC
 have hq0:ps[((1:Int) - 1).toNat]?=some [.arr 32 (u8s (Chg.verV (privK 1)).1),.one (.slice C 3 cc)]:=hq0
 have hc0:(cardF 1 3)[(0:Int).toNat]?=some [.arr 32 (u8s (pubH (initK 1 0)).1),.arr 32 (u8s (pubH (leafK 1 0)).1)]:=rfl
 obtain⟨ab,ao,rfl⟩:=hA.some_ (by omega)
 obtain⟨cb,co,rfl⟩:=hC.some_ (by decide)
 refine aGo ?_
 unfold Wr
 (((refine Bh hM ?_;clear hM;intro _ _ hM;refine Bh hM ?_;clear hM;intro _ _ hM)))
 rename_i g8 _ g9 _
 refine⟨fun v w'=>v=.bool false∧hM.now w',?_,?_⟩
 ·(((refine Bm trivial ?_ ?_));(focus (first|assumption|omega|with_reducible rfl|exact fun h=>Bool.noConfusion h));((refine Ae ?_;refine Ab trivial ?_;refine Ae ?_;refine Ab trivial ?_;refine Ae ?_;refine Ab trivial ?_;refine Ae ?_)))
  refine Br (v:=.int .i64 6) (fun w=>by kernel_rfl) ?_
  (((refine Ae ?_;refine Bm trivial ?_ ?_));(focus (first|assumption|omega|with_reducible rfl|exact fun h=>Bool.noConfusion h));((refine Ab trivial ?_;refine Ae ?_;refine Ab trivial ?_;refine Ae ?_;refine Ab trivial ?_;refine Ae ?_;refine Ab ?_ ?_));(focus omega);((refine Ae ?_;refine Ab ?_ ?_));(focus omega);((refine Ae ?_;refine Ab trivial ?_;refine Ae ?_)))
  refine Ip hM hA hq0 ?_
  (((refine Ae ?_;refine Ab trivial ?_;refine Ae ?_;refine Bm trivial ?_ ?_));(focus (first|assumption|omega|with_reducible rfl|exact fun h=>Bool.noConfusion h));((refine Ab trivial ?_)))
  exact⟨rfl,hM⟩
 rintro v u w2 ⟨rfl,hM⟩
 have hM:Mem _ _ _ _:=hM
 (((refine Aj ?_;refine Ab ?_ ?_));(focus omega);((refine Ab ?_ ?_));(focus omega))
 refine Cb hM hA hq0 ?_
 (((refine Bf hM ?_;clear hM;intro _ _ hM;refine Az hM ?_;clear hM;intro _ hM;refine Ba hM ?_;refine Bs hM ?_ (fun _ _ hM=>?_)));(focus (first|exact trivial|assumption|omega));((refine Ap trivial ?_));(refine Ba ‹Mem _ _ _ _› ?_);((refine Ap ?_ ?_));(focus omega);((refine Ap trivial ?_)))
 rename_i g12 _ _ _ _ _
 refine Iq ‹_› hC hc0 ?_
 skip
 refine Wp trivial (fun h=>h rfl) ?_
 (((refine Bc hM ?_;clear hM;intro _ hM;refine Aj ?_;refine An hM ?_;refine Bl hM ?_ ?_));(focus (first|exact trivial|assumption|omega));((clear hM;intro _ hM)))
 refine⟨fun v w'=>∃ gf A' a',v=.pointer (some ⟨gf,0,none⟩)∧Mem H w0 (fb gf 62 [.arr 32 (u8s hzero.1),.arr 32 (u8s hzero.1),.one (.int .i64 0),.one (.slice A' 1 a'),.one (.slice none 0 0),.arr 32 (u8s (saidH hzero sfound).1),.arr 64 (List.replicate 64 (.int .i64 0))]::rowR 118 97 A' 1 a' [Lf.fds ⟨1,pubH (leafK 1 0),Chg.verV (privK 1),hzero⟩]::fb g9 23 [.arr 32 (u8s (leafK 1 0).1)]::fb g8 23 [.arr 32 (u8s once.1)]::L) w',?_,?_⟩
 ·repeat' apply And.intro
  all_goals
   have hM0:=hM
   have d1:sfound.size≤100000000:=by decide
   (((refine Ap trivial ?_;refine Ba hM ?_;refine Ap ?_ ?_));(focus omega);((refine Ap trivial ?_)))
   refine Iq hM0 hC hc0 ?_
   (first|(((refine Ap trivial ?_;refine Ba hM ?_;refine Ap trivial ?_;refine Ap trivial ?_;refine Cf hM ?_ ?_ ?_));(focus rfl);(focus (constructor <;> simp));((clear hM;intro _ _ hM;refine Ap trivial ?_;refine Bs hM ?_ (fun _ _ hM=>?_)));(focus (first|exact trivial|assumption|omega));((refine Ap trivial ?_;refine Cd hM ?_;clear hM;intro _ _ hM;refine Ca hM ?_;clear hM;intro _ hM;refine Bc hM ?_;clear hM;intro _ hM)))|(((refine Ap trivial ?_;refine Ba hM ?_;refine Ap trivial ?_;refine Ap trivial ?_;refine Cf hM ?_ ?_ ?_));(focus rfl);(focus (constructor <;> simp));((clear hM;intro _ _ hM;refine Ap trivial ?_;refine Cd hM ?_;clear hM;intro _ _ hM;refine Bs hM ?_ (fun _ _ hM=>?_)));(focus (first|exact trivial|assumption|omega));((refine Ap trivial ?_;refine Ca hM ?_;clear hM;intro _ hM;refine Bc hM ?_;clear hM;intro _ hM)))|(((refine Ap trivial ?_;refine Ba hM ?_;refine Ap trivial ?_;refine Ap trivial ?_;refine Bs hM ?_ (fun _ _ hM=>?_)));(focus (first|exact trivial|assumption|omega));((refine Cf hM ?_ ?_ ?_));(focus rfl);(focus (constructor <;> simp));((clear hM;intro _ _ hM;refine Ap trivial ?_;refine Ap trivial ?_;refine Cd hM ?_;clear hM;intro _ _ hM;refine Ca hM ?_;clear hM;intro _ hM;refine Bc hM ?_;clear hM;intro _ hM)))|(((refine Ap trivial ?_;refine Ba hM ?_;refine Ap trivial ?_;refine Ap trivial ?_;refine Bs hM ?_ (fun _ _ hM=>?_)));(focus (first|exact trivial|assumption|omega));((refine Cd hM ?_;clear hM;intro _ _ hM;refine Cf hM ?_ ?_ ?_));(focus rfl);(focus (constructor <;> simp));((clear hM;intro _ _ hM;refine Ap trivial ?_;refine Ap trivial ?_;refine Ca hM ?_;clear hM;intro _ hM;refine Bc hM ?_;clear hM;intro _ hM)))|(((refine Ap trivial ?_;refine Ba hM ?_;refine Ap trivial ?_;refine Ap trivial ?_;refine Cd hM ?_;clear hM;intro _ _ hM;refine Cf hM ?_ ?_ ?_));(focus rfl);(focus (constructor <;> simp));((clear hM;intro _ _ hM;refine Ap trivial ?_;refine Bs hM ?_ (fun _ _ hM=>?_)));(focus (first|exact trivial|assumption|omega));((refine Ap trivial ?_;refine Ca hM ?_;clear hM;intro _ hM;refine Bc hM ?_;clear hM;intro _ hM)))|(((refine Ap trivial ?_;refine Ba hM ?_;refine Ap trivial ?_;refine Ap trivial ?_;refine Cd hM ?_;clear hM;intro _ _ hM;refine Bs hM ?_ (fun _ _ hM=>?_)));(focus (first|exact trivial|assumption|omega));((refine Cf hM ?_ ?_ ?_));(focus rfl);(focus (constructor <;> simp));((clear hM;intro _ _ hM;refine Ap trivial ?_;refine Ap trivial ?_;refine Ca hM ?_;clear hM;intro _ hM;refine Bc hM ?_;clear hM;intro _ hM))))
   first
    | exact⟨_,_,_,rfl,hM.rm g12⟩
    | exact⟨_,_,_,rfl,(hM.rm g12).perm (.swap ..)⟩
 clear hM
 rintro v u8 w3 ⟨gf,A',a',rfl,hM⟩
 obtain⟨H1,l1,hM1,hL,-⟩:=hM.fz1 A'
 clear hM
 replace hM:=hM1
 clear hM1
 have hT:TrF H1 (tv A' 1 a' none 0 0) ⟨[⟨1,pubH (leafK 1 0),Chg.verV (privK 1),hzero⟩],[]⟩:=⟨⟨A',a',none,0,[],rfl,hL,Sl.nil _ _ _,trivial⟩,by simp[maxLen],by simp[maxLen]⟩
 have hRt:=Tr.rt.1 (Gk (pubH (leafK 1 0)) (Chg.verV (privK 1)) hzero)
 (((refine Ab ?_ ?_));(focus omega);((refine Ab trivial ?_;refine Ab ?_ ?_));(focus omega);((refine aKc hM ?_ ?_));(focus omega);((clear hM;intro _ hM;refine Ap trivial ?_;refine Ba hM ?_;refine Ap trivial ?_;refine Ba hM ?_)))
 refine Cg hM (fun w hM=>aTt hT hM.fz hRt) (fun w4 _ hM2=>?_)
 generalize hRoot ⟨[⟨1,pubH (leafK 1 0),Chg.verV (privK 1),hzero⟩],[]⟩=rt
 have hM0:=hM
 replace hM:=hM2
 clear hM2
 have hcl:(ctxL hzero 0 rt (saidH hzero sfound)).length≤200:=by
  have:=Be 0
  simp only[ctxL,List.length_append,hzero.2.1,rt.2.1,(saidH hzero sfound).2.1]
  omega
 rw[e64]at hM
 (((refine Ap trivial ?_));(refine Ba ‹Mem _ _ _ _› ?_);((refine Bs hM ?_ (fun _ _ hM=>?_)));(focus (first|exact trivial|assumption|omega));((refine Bc hM ?_;clear hM;intro _ hM;refine Bx hM ?_ ?_ ?_));(focus rfl);(focus (constructor <;> simp));((clear hM;intro _ _ hM)))
 generalize ctxL hzero 0 rt (saidH hzero sfound)=ctx at hcl hM ⊢
 refine Bn hM (Gb sfound (strOfNums ctx) (by rw[strOfNums_size];show 5+_<_;omega) hM) (fun w5 hM2=>?_)
 replace hM:=hM2
 clear hM2
 generalize shaH (ints sfound++ints (strOfNums ctx))=fid
 have d1:sfound.size≤1000000∧es0.size≤1000000:=by decide
 (((refine Ab trivial ?_;refine Az hM ?_;clear hM;intro _ hM;refine An hM ?_;refine Bl hM ?_ ?_));(focus (first|exact trivial|assumption|omega));((clear hM;intro _ hM)))
 refine Bn hM (aNg _ _ (by rw[strOfNums_size];omega) _) (fun w6 hM2=>?_)
 replace hM:=hM2
 clear hM2
 generalize secOf _ _=sec
 (((refine Bf hM ?_;clear hM;intro _ _ hM;refine Az hM ?_;clear hM;intro _ hM;refine An hM ?_;refine An hM ?_;refine Ab trivial ?_;refine Bx hM ?_ ?_ ?_));(focus rfl);(focus (constructor <;> simp));((clear hM;intro _ _ hM;refine An hM ?_)))
 obtain⟨H2,l2,hM2,hK,-⟩:=hM.fz0
 clear hM
 refine Ej (aIt (RR:=fun en w'=>∃ v,en=.returned v∧∃ H' ge gi si A' a' B' b' K' kn kc' P' pc,v=.tuple #[.pointer (some ⟨ge,0,none⟩),.int .i64 0]∧Le w0 H2 H'∧Sl H' 97 A' [Lf.fds ⟨1,pubH (leafK 1 0),Chg.verV (privK 1),hzero⟩]∧Sl H' 34 (some ⟨si,0,none⟩) [Sd.fds ⟨0,0,sec.init⟩] ∧
   Mem H' w0 (fb ge 67 (eraF ⟨fid,hzero,0,saidH hzero sfound,t64⟩ A' 1 a' B' 0 b' 1 K' kn kc' gi 0 P' 1 pc sec.export_)::fb gi 247 [.one (.int .i64 32),.one (.slice (some ⟨si,0,none⟩) 1 1)]::_) w')
  ⟨fid,hzero,0,saidH hzero sfound,t64⟩ (pubH (leafK 1 0)) (Chg.verV (privK 1)) hzero sec [⟨0,leafK 1 0⟩] (by simp) (by simp only;omega) (hL.mono l2.le) hK hM2
  (fun H' ge gi si A' a' B' b' K' kn kc' P' pc w' h1 h2 h3 h4=>⟨_,rfl,H',ge,gi,si,A',a',B',b',K',kn,kc',P',pc,rfl,h1,h2,h3,h4⟩)) ?_
 rintro en w9 ⟨v,rfl,H',ge,gi,si,A9,a9,B9,b9,K9,kn,kc9,P9,pc9,rfl,l3,hL9,hS9,hM⟩
 clear hM2
 (((refine Ab trivial ?_;refine Ab trivial ?_)))
 exact hR H' ge gi si A9 a9 B9 b9 K9 kn kc9 P9 pc9 _ ⟨fid,hzero,0,saidH hzero sfound,t64⟩ hzero sec.init sec.export_ (l1.trans (l2.trans l3)) rfl hL9 hS9 hM.sub
end
end Go.Proofs.YtgbenhmdamnmcaaGreat
namespace Go.Proofs.YtgbenhmdamnmcaaGreat
open Go.Proofs.Tryz
open Go.RowKit
def obR (g:Nat) (o:Obj):Res:=fun B=>Obj.isOther o=true∧B=[⟨g,.ob o,[],true⟩]
section
variable {P:Program} {H:Hp} {w0 w w':World} {L R:List Res} {g:Nat} {o o':Obj}
theorem St.allocOb {L:List Bk} (h:St w0 L w) (o:Obj) (ho:Obj.isOther o=true):St w0 (⟨w.heap.size,.ob o,[],true⟩::L) (w.alloc o):=by
 refine⟨fun b hb=>?_,.cons (fun b hb=>?_) h.ne,fun b hb hn=>?_,?_⟩
 ·cases hb with
  | head=>exact⟨rfl,ho,heap_alloc_new w _⟩
  | tail _ hb=>exact(h.own b hb).alloc _
 ·have:=(h.own b hb).lt
  simp only[]
  omega
 ·cases hb with
  | head=>exact h.size
  | tail _ hb=>exact h.new b hb hn
 ·exact(h.only.alloc _).mono fun i _ ⟨b,hb,hn,hg⟩=>⟨b,List.mem_cons_of_mem _ hb,hn,hg⟩
theorem Mem.allocOb (h:Mem H w0 L w) (o:Obj) (ho:Obj.isOther o=true):Mem H w0 (obR w.heap.size o::L) (w.alloc o):=by
 obtain⟨B,hl,hs,hb⟩:=h.own
 refine⟨⟨⟨w.heap.size,.ob o,[],true⟩::B,⟨[⟨w.heap.size,.ob o,[],true⟩],B,rfl,⟨ho,rfl⟩,hl⟩,hs.allocOb o ho,fun b hm=>?_⟩,h.fz.ext ((Only.refl _ w).alloc _)⟩
 rcases List.mem_cons.1 hm with rfl|hm
 ·refine⟨rfl,?_⟩
  cases hh:H w.heap.size with
  | none=>rfl
  | some c=>have:=h.fz.lt hh;omega
 ·exact hb b hm
end
end Go.Proofs.YtgbenhmdamnmcaaGreat
namespace Go.Proofs.YtgbenhmdamnmcaaGreat
open Go.Proofs.Tryz
open Go.RowKit Go.MapKept
def mpEs:List Int→Nat→List MapEntry
 | [],_=>[]
 | k::r,i=>⟨.int .i64 k,.bool true,i⟩::mpEs r (i+1)
def mpR (g:Nat) (ks:List Int):Res:=obR g (.map (mpEs ks 0).toArray ks.length)
section
variable {P:Program} {H:Hp} {w0 w w':World} {L R:List Res} {g:Nat} {t kt e:TypeId} {ks:List Int} {x:Int} {K:Value→World→Prop} {X:List PanicEntry→World→Prop} {Kq:Value→Prop}
theorem aXx (h:Mem H w0 L w) (hk:∀ g w',Mem H w0 (mpR g []::L) w'→K (.map (some g)) w'):mop P (Pr t none) w K X:=
 Cl (w':=w.alloc (.map #[] 0)) (u:=.map (some w.heap.size)) (by simp[Pr,sv,Instr.makeMap]) (hk _ _ (h.allocOb (.map #[] 0) rfl))
end
end Go.Proofs.YtgbenhmdamnmcaaGreat
namespace Go.Proofs.YtgbenhmdamnmcaaGreat
open Go.Proofs.Tryz
open Go.RowKit Go.Lib
section
variable {H:Hp} {w0 w:World} {L R:List Res} {A B P:Option Addr} {g n a b c pc:Nat}
theorem aDu (t:T64) (lp lw lx:H32) (h1:Sl H 97 A [Lf.fds ⟨1,lp,lw,lx⟩]) (hf:Fz H w):
  Calls prog 75 #[tv A 1 a B 0 b,.agg (tiV t.1).toArray,.slice P n pc,.slice none 0 0] w (Outp H w fun H' v=>∃ A' a' B' b',v=.tuple #[tv A' 1 a' B' 0 b',.agg (tiV t.1).toArray,.slice none 0 0,.int .i64 0]∧Sl H' 97 A' [Lf.fds ⟨1,lp,lw,lx⟩]):=by
 have hright:=fun(w:World) (hf:Fz H w)=>Ei (t:=⟨[⟨1,lp,lw,lx⟩],[]⟩) (qs:=[]) (A:=A) (B:=B) (a:=a) (b:=b) h1 (Sl.nil _ _ _) trivial (by simp[maxLen]) (by simp[maxLen]) hf
 rw[Gk]at hright
 obtain⟨w1,hw1⟩:∃ w1,w1=w:=⟨_,rfl⟩
 rw[← hw1]
 rw[← hw1]at hf
 have hM:=Mem.start hf
 refine Zt ?_
 unfold Ot
 (((refine Bh hM ?_;clear hM;intro _ _ hM;refine Bh hM ?_;clear hM;intro _ _ hM;refine Bf hM ?_;clear hM;intro _ _ hM;refine Bf hM ?_;clear hM;intro _ _ hM;refine An hM ?_)))
 rename_i g4 _ g5 _ g8 _ g9 _
 refine Bn hM (hright _ hM.fz) (fun w hM2=>?_)
 replace hM:=hM2
 clear hM2
 (((refine Ab trivial ?_;refine Aj ?_;refine Ap trivial ?_;refine Ba hM ?_)))
 refine Nd hM (fun w hM=>Mv (h1.mono (Kw hM.fz)) (by simp) (by omega) hM) ?_
 rintro v2 w2 hx ⟨A1,a1,rfl,hM⟩
 (((refine Ap trivial ?_));(refine Ba ‹Mem _ _ _ _› ?_))
 refine La hM (fun w hM=>(Mw (ps:=[]) (Sl.nil _ _ _) (n:=0) rfl (by omega) hM).mono fun en w' ⟨v,h,_,k⟩=>⟨v,h,k⟩) ?_
 clear hM
 rintro v2 w3 ⟨B1,b1,rfl,hM⟩
 (((refine Ap trivial ?_;refine Ca hM ?_;clear hM;intro _ hM;refine Ap trivial ?_;refine Ca hM ?_;clear hM;intro _ hM;refine Bc hM ?_;clear hM;intro _ hM;refine Ab trivial ?_;refine An hM ?_;refine Ab trivial ?_)))
 refine⟨fun v w'=>v=.int .i64 0∧hM.now w',fun _ _=>0,⟨rfl,hM⟩,?_⟩
 rintro v u w4 ⟨rfl,hM⟩
 have hM:Mem _ _ _ _:=hM
 (((refine Bm trivial ?_ ?_));(focus (first|assumption|omega|with_reducible rfl|exact fun h=>Bool.noConfusion h));((refine Aj ?_;refine Ab trivial ?_)))
 refine⟨fun x v w'=>x=.slice none 0 0∧v=.int .i64 0∧hM.now w',fun _ _ _=>0,⟨rfl,rfl,hM⟩,?_⟩
 rintro x v u w5 ⟨rfl,rfl,hM⟩
 have hM:Mem _ _ _ _:=hM
 (((refine Bm trivial ?_ ?_));(focus (first|assumption|omega|with_reducible rfl|exact fun h=>Bool.noConfusion h));((refine Aj ?_)))
 refine⟨Rl.only fun b=>b=g8,?_⟩
 have hne4:¬g4=g8:=(hM.upB g4).neB
 have hne5:¬g5=g8:=(hM.upB g5).neB
 refine Zi hM hne4 ?_
 refine Zi hM hne5 ?_
 refine aAp hM ?_
 clear hM
 intro w8 hM
 (((refine Ca hM ?_;clear hM;intro _ hM;refine Bc hM ?_;clear hM;intro _ hM;refine Bz hM ?_;refine Bz hM ?_)))
 obtain⟨H4,l4,hM4,hs4,-⟩:=hM.fz1 A1
 exact hM4.out l4 ⟨A1,a1,B1,b1,rfl,hs4⟩
theorem aXy (t:T64) (h:H32) (d by_:Int) (lp lw lx:H32) (h1:Sl H 97 A [Lf.fds ⟨1,lp,lw,lx⟩]) (hf:Fz H w):
  Calls prog 74 #[tv A 1 a B 0 b,.agg (tiV t.1).toArray,.slice P n pc,ha h,.int .i64 d,.int .i64 by_,.slice none 0 0] w (Outp H w fun _ v=>v=.int .i64 0):=by
 have hright:=fun(w:World) (hf:Fz H w)=>Ei (t:=⟨[⟨1,lp,lw,lx⟩],[]⟩) (qs:=[]) (A:=A) (B:=B) (a:=a) (b:=b) h1 (Sl.nil _ _ _) trivial (by simp[maxLen]) (by simp[maxLen]) hf
 rw[Gk]at hright
 have hM:=Mem.start hf
 refine aEg ?_
 unfold Tf
 (((refine Bh hM ?_;clear hM;intro _ _ hM;refine Bh hM ?_;clear hM;intro _ _ hM;refine Bh hM ?_;clear hM;intro _ _ hM;refine An hM ?_)))
 refine Bn hM (hright _ hM.fz) (fun w hM2=>?_)
 replace hM:=hM2
 clear hM2
 (((refine Ab trivial ?_;refine Aj ?_;refine Ab trivial ?_;refine Bm trivial ?_ ?_));(focus (first|assumption|omega|with_reducible rfl|exact fun h=>Bool.noConfusion h));((refine Aj ?_)))
 refine aXx hM (fun gm w' hM2=>?_)
 replace hM:=hM2
 clear hM2
 (((refine Ab trivial ?_)))
 refine⟨fun v w'=>v=.int .i64 0∧hM.now w',fun _ _=>0,⟨rfl,hM⟩,?_⟩
 rintro v u w4 ⟨rfl,hM⟩
 have hM:Mem _ _ _ _:=hM
 (((refine Bm trivial ?_ ?_));(focus (first|assumption|omega|with_reducible rfl|exact fun h=>Bool.noConfusion h));((refine Aj ?_;refine An hM ?_;refine An hM ?_)))
 refine Gq hM (aDu t lp lw lx h1 hM.fz) ?_
 clear hM
 rintro H1 r w5 l1 hM ⟨A',a',B',b',rfl,-⟩
 ((((iterate 4 refine Ab trivial ?_);refine Bf hM ?_;clear hM;intro _ _ hM;refine Bf hM ?_;clear hM;intro _ _ hM;refine Az hM ?_;clear hM;intro _ hM;refine Az hM ?_;clear hM;intro _ hM)))
 exact hM.out l1 rfl
end
end Go.Proofs.YtgbenhmdamnmcaaGreat
namespace Go.Proofs.YtgbenhmdamnmcaaGreat
open Go.Proofs.Tryz
open Go.RowKit Go.Lib
def packB (t:Tr):List Int:=numB t.ls.length++t.ls.flatMap leafB++t.ps.flatMap parentB
section
variable {H:Hp} {w0 w:World} {L R:List Res} {A B C:Option Addr} {a b c n:Nat} {t:Tr} {v:Value}
theorem aFu {α:Type} {f:α→List Int} {l:List α} {k:Nat} (h:∀ x∈l,(f x).length≤k):(l.flatMap f).length≤l.length*k:=by
 induction l with
 | nil=>simp
 | cons x r ih=>
   have h1:=h x (List.mem_cons_self ..)
   have h2:=ih fun y hy=>h y (List.mem_cons_of_mem _ hy)
   simp only[List.flatMap_cons,List.length_append,List.length_cons,Nat.succ_mul]
   omega
theorem aNm {α:Type} {f:α→List Int} {l:List α} {i:Nat} (h:i<l.length):(l.take (i+1)).flatMap f=(l.take i).flatMap f++f l[i]:=by
 rw[List.take_succ_eq_append_getElem h,List.flatMap_append]
 simp
theorem Tr.Rt.gd2 (h:t.Rt):(∀ l∈t.ls,0≤l.name∧l.name≤64)∧∀ p∈t.ps,p.loose.length≤64∧∀ q∈p.loose,0≤q∧q≤64:=by
 by_cases hn:t.ls=[]
 ·have hl:=h.len
  have e:t.ps=[]:=List.eq_nil_of_length_eq_zero (by rw[hl.2,hn];rfl)
  rw[hn,e]
  exact⟨fun _ h=>(by cases h),fun _ h=>(by cases h)⟩
 ·exact⟨(h.gd hn).nm,(h.gd hn).lo⟩
theorem bAw (hR:t.Rt) (h:TrF H v t) (hf:Fz H w):Calls prog 87 #[v] w fun en w'=>en=.returned (.string (strOfNums (packB t)))∧St w [] w':=by
 obtain⟨A,a,B,b,q,hv,h1,h2,h3⟩:=h.ex
 rw[hv]at h ⊢
 obtain⟨w1,hw1⟩:∃ w1,w1=w:=⟨_,rfl⟩
 rw[← hw1]
 rw[← hw1]at hf
 have hlen:=hR.len
 obtain⟨gn,gl⟩:=hR.gd2
 have hM:=Mem.start hf
 refine aGu ?_
 unfold Wx
 (((refine Bh hM ?_;clear hM;intro _ _ hM;refine An hM ?_)))
 rename_i g1 _
 refine Bn hM (aFr h hM.fz) (fun w hM=>?_)
 rw[Tr.rt.2 hR]
 (((refine Ab trivial ?_;refine Aj ?_)))
 refine Bi (Hw hM) ?_
 rintro v w2 ⟨gw,rfl,hM⟩
 (((refine Ab trivial ?_;refine An hM ?_;refine Ab trivial ?_)))
 refine Bi (Da (t.ls.length:Int) (by omega) (by simp) hM) ?_
 rintro v w3 ⟨rfl,hM⟩
 rw[List.nil_append]at hM
 have hnb:=Be (t.ls.length:Int)
 (((refine Ab trivial ?_;refine An hM ?_;refine Ab trivial ?_)))
 refine⟨fun v w'=>∃ i:Nat,v=.int .i64 i∧i≤t.ls.length∧Mem H w1 [wrR gw (numB t.ls.length++(t.ls.take i).flatMap leafB) false,fb g1 58 (tfd A t.ls.length a B t.ps.length b)] w',fun v _=>match v with | .int _ k=>t.ls.length - k.toNat|_=>0,⟨0,rfl,by omega,by simpa using hM⟩,?_⟩
 clear hM
 rintro v u w4 ⟨i,rfl,hi,hM⟩
 (((refine Aw trivial ?_ ?_)))
 ·intro hlt
  have hlt':i<t.ls.length:=by omega
  have hfl:=aFu (l:=t.ls.take i) (f:=leafB) (k:=105) fun l _=>Qg l
  rw[List.length_take]at hfl
  (((refine Am ?_));(refine Ci ‹_› ?_ ?_ ?_);(focus (simp only[List.length_map];omega));(focus (simp only[List.length_map];first|done|omega));((intro _ _ hA));(cases hA);(refine Cb hM ‹_› (By ?_) ?_);(focus omega);((refine Bf hM ?_;clear hM;intro _ _ hM;refine Az hM ?_;clear hM;intro _ hM;refine An hM ?_)))
  have hM:Mem H w1 (wrR gw (numB t.ls.length++(t.ls.take i).flatMap leafB) false::_) _:=hM.perm (List.Perm.swap _ _ _)
  refine Bi (Un t.ls[i] (gn _ (List.getElem_mem hlt')) (by rw[List.length_append];omega) hM) ?_
  rintro v w5 ⟨rfl,hM⟩
  rw[List.append_assoc,← aNm hlt']at hM
  (((refine Ab ?_ ?_));(focus omega))
  exact⟨⟨i+1,rfl,by omega,hM.sub⟩,by simp only;omega⟩
 intro hge
 obtain rfl:i=t.ls.length:=by omega
 rw[List.take_length]at hM
 have hfl:=aFu (l:=t.ls) (f:=leafB) (k:=105) fun l _=>Qg l
 (((refine Aj ?_;refine Ab trivial ?_;refine An hM ?_;refine Ab trivial ?_)))
 refine⟨fun v w'=>∃ i:Nat,v=.int .i64 i∧i≤t.ps.length∧Mem H w1 [wrR gw (numB t.ls.length++t.ls.flatMap leafB++(t.ps.take i).flatMap parentB) false,fb g1 58 (tfd A t.ls.length a B t.ps.length b)] w',fun v _=>match v with | .int _ k=>t.ps.length - k.toNat|_=>0,⟨0,rfl,by omega,by simpa using hM⟩,?_⟩
 clear hM
 rintro v u w6 ⟨i,rfl,hi,hM⟩
 (((refine Aw trivial ?_ ?_)))
 ·intro hlt
  have hlt':i<t.ps.length:=by omega
  obtain⟨q',hq1,C,c,rfl,hC,hcl⟩:=h3.at_ (i:=i) hlt'
  have hlo:=gl _ (List.getElem_mem hlt')
  have hfp:=aFu (l:=t.ps.take i) (f:=parentB) (k:=600) fun p hp=>Xn (gl p (List.mem_of_mem_take hp)).1
  rw[List.length_take]at hfp
  have hql:q.length=t.ps.length:=h3.len
  (((refine Am ?_)))
  refine Ci h2 (by omega) hql.symm (fun bb oo hB=>?_)
  cases hB
  refine Cb hM h2 hq1 ?_
  (((refine Bf hM ?_;clear hM;intro _ _ hM;refine Az hM ?_;clear hM;intro _ hM;refine An hM ?_)))
  have hM:Mem H w1 (wrR gw (numB t.ls.length++t.ls.flatMap leafB++(t.ps.take i).flatMap parentB) false::_) _:=hM.perm (List.Perm.swap _ _ _)
  refine Bi (Po t.ps[i] hC hlo (by rw[List.length_append,List.length_append];omega) hM) ?_
  rintro v w7 ⟨rfl,hM⟩
  rw[List.append_assoc,← aNm hlt']at hM
  (((refine Ab ?_ ?_));(focus omega))
  exact⟨⟨i+1,rfl,by omega,hM.sub⟩,by simp only;omega⟩
 intro hge2
 obtain rfl:i=t.ps.length:=by omega
 rw[List.take_length]at hM
 (((refine Aj ?_)))
 refine Bn hM (Ia hM) (fun w hM=>?_)
 (((refine Ab trivial ?_;refine Ab trivial ?_)))
 exact⟨rfl,hM.st⟩
end
end Go.Proofs.YtgbenhmdamnmcaaGreat
namespace Go.Proofs.YtgbenhmdamnmcaaGreat
open Go.Proofs.Tryz
open Go.RowKit Go.Lib
abbrev one1 (lp lw lx:H32):Tr:=⟨[⟨1,lp,lw,lx⟩],[]⟩
def mixV (a b:H32):H32:=hmacH a.1 (ints (strOfNums b.1))
section
variable {H:Hp} {w0 w:World} {L R:List Res} {A B P K:Option Addr} {g n a b c pc kn kc gi pn:Nat}
theorem aFv {lp lw lx:H32} (h1:Sl H 97 A [Lf.fds ⟨1,lp,lw,lx⟩]):TrF H (tv A 1 a B 0 b) (one1 lp lw lx):=⟨⟨A,a,B,b,[],rfl,h1,Sl.nil _ _ _,trivial⟩,by simp[maxLen],by simp[maxLen]⟩
theorem aUy (lp lw lx:H32):(one1 lp lw lx).Rt:=Tr.rt.1 (Gk lp lw lx)
theorem aNn {lp lw lx:H32} (h1:Sl H 97 A [Lf.fds ⟨1,lp,lw,lx⟩]) (hf:Fz H w):Calls prog 76 #[tv A 1 a B 0 b,.int .i64 1] w fun en w'=>en=.returned (.int .i64 0)∧St w [] w':=by
 have h:=aHy (t:=one1 lp lw lx) (qs:=[]) (A:=A) (B:=B) (a:=a) (b:=b) 1 h1 (Sl.nil _ _ _) trivial (by simp[maxLen]) (by simp[maxLen]) hf
 rwa [aDt]at h
theorem aXz (x y:H32) (w:World):Calls prog 159 #[ha x,ha y] w fun en w'=>en=.returned (ha (mixV x y))∧St w [] w':=by
 have hM:=Mem.start (Fz.of w)
 refine aOf ?_
 unfold aDc
 (((refine Bh hM ?_;clear hM;intro _ _ hM;refine Bh hM ?_;clear hM;intro _ _ hM;refine Bf hM ?_;clear hM;intro _ _ hM;refine Ap trivial ?_;refine Cw hM ?_;refine Ap trivial ?_;refine Cw hM ?_;refine Cf hM ?_ ?_ ?_));(focus rfl);(focus (constructor <;> simp));((clear hM;intro _ _ hM)))
 refine Cg hM (fun w hM=>aTd x (strOfNums y.1) (by rw[strOfNums_size,y.2.1];decide) hM) (fun w2 hx hM=>?_)
 (((refine Ca hM ?_;clear hM;intro _ hM;refine Bc hM ?_;clear hM;intro _ hM;refine Bz hM ?_)))
 exact⟨rfl,hM.st⟩
instance (x y:H32):PurC prog 159 [.agg (u8s x.1).toArray,.agg (u8s y.1).toArray] True (.agg (u8s (mixV x y).1).toArray):=⟨fun _ w=>aXz x y w⟩
theorem aYa (x y:H32) (w:World):Calls prog 82 #[.pointer none,ha x,ha y] w fun en w'=>en=.returned (ha (mixV x y))∧St w [] w':=by
 have hM:=Mem.start (Fz.of w)
 refine aJn ?_
 unfold Zw
 (((refine Bh hM ?_;clear hM;intro _ _ hM;refine Bh hM ?_;clear hM;intro _ _ hM;refine Bf hM ?_;clear hM;intro _ _ hM;refine An hM ?_;refine An hM ?_;refine Bl hM ?_ ?_));(focus (first|exact trivial|assumption|omega));((clear hM;intro _ hM;refine Bf hM ?_;clear hM;intro _ _ hM;refine Az hM ?_;clear hM;intro _ hM;refine An hM ?_;refine An hM ?_;refine Bx hM ?_ ?_ ?_));(focus rfl);(focus (constructor <;> simp));((clear hM;intro _ _ hM;refine An hM ?_;refine Bx hM ?_ ?_ ?_));(focus rfl);(focus (constructor <;> simp));((clear hM;intro _ _ hM;refine Ab trivial ?_;refine Bl hM ?_ ?_));(focus (first|exact trivial|assumption|omega));((clear hM;intro _ hM;refine An hM ?_;refine Az hM ?_;clear hM;intro _ hM;refine Bz hM ?_)))
 exact⟨rfl,hM.st⟩
instance (x y:H32):PurC prog 82 [.pointer none,.agg (u8s x.1).toArray,.agg (u8s y.1).toArray] True (.agg (u8s (mixV x y).1).toArray):=⟨fun _ w=>aYa x y w⟩
theorem aQl (w:World):Calls prog 78 #[.slice none 0 0] w fun en w'=>en=.returned (.slice none 0 0)∧St w [] w':=by
 have hM:=Mem.start (Fz.of w)
 refine Ex ?_
 unfold Dc
 (((refine Ab trivial ?_)))
 exact⟨.inl ⟨rfl,rfl,hM.st⟩⟩
instance:PurC prog 78 [.slice none 0 0] True (.slice none 0 0):=⟨fun _ w=>aQl w⟩
theorem aLp (w:World):Calls prog 90 #[.slice none 0 0] w fun en w'=>en=.returned (.slice none 0 0)∧St w [] w':=by
 have hM:=Mem.start (Fz.of w)
 refine Ya ?_
 unfold Nz
 (((refine Ab trivial ?_)))
 refine⟨fun x v w'=>x=.slice none 0 0∧v=.int .i64 0∧hM.now w',fun _ _ _=>0,⟨rfl,rfl,hM⟩,?_⟩
 rintro x v u w2 ⟨rfl,rfl,hM⟩
 have hM:Mem _ _ _ _:=hM
 (((refine Bm trivial ?_ ?_));(focus (first|assumption|omega|with_reducible rfl|exact fun h=>Bool.noConfusion h));((refine Aj ?_)))
 exact⟨rfl,hM.st⟩
instance:PurC prog 90 [.slice none 0 0] True (.slice none 0 0):=⟨fun _ w=>aLp w⟩
theorem aQm (f:Frm) (forks:Int) (exp:H32) {lp lw lx:H32} (h1:Sl H 97 A [Lf.fds ⟨1,lp,lw,lx⟩]) (hM:Mem H w0 (fb g 67 (eraF f A 1 a B 0 b 1 K kn kc gi forks P pn pc exp)::L) w):
  Calls prog 72 #[.pointer (some ⟨g,0,none⟩)] w fun en w'=>en=.returned (.int .i64 0)∧St w [] w':=by
 refine Xz ?_
 unfold Ny
 have hB:FbF (Hp.of w) g (eraF f A 1 a B 0 b 1 K kn kc gi forks P pn pc exp):=hM.readsB
 have h1:=h1.mono (Kw hM.fz)
 have hM:=Mem.start (Fz.of w)
 (((refine Ab trivial ?_;refine Aj ?_;(iterate 3 refine Ap trivial ?_)));(refine Ux hM ‹_› ?_);((refine Ap trivial ?_;refine Ap trivial ?_));(refine Ux hM ‹_› ?_))
 refine Cg hM (fun w hM=>aNn h1 hM.fz) (fun w4 _ hM2=>?_)
 replace hM:=hM2
 clear hM2
 (((refine Bc hM ?_;clear hM;intro _ hM)))
 exact⟨rfl,hM.st⟩
theorem aYb (f:Frm) {lp lw lx:H32} (hd:0≤f.depth∧f.depth≤4611686018427387903) (h1:Sl H 97 A [Lf.fds ⟨1,lp,lw,lx⟩]) (hf:Fz H w):
  Calls prog 83 #[.agg (fl (f.fds A 1 a B 0 b)).toArray] w fun en w'=>en=.returned (.string (strOfNums (ctxL f.parent f.depth (hRoot (one1 lp lw lx)) f.said)))∧St w [] w':=by
 have hM:=Mem.start hf
 refine Vi ?_
 unfold Mc
 (((refine Bh hM ?_;clear hM;intro _ _ hM;refine Ap trivial ?_;refine Ba hM ?_;refine Ap trivial ?_;refine Ba hM ?_;refine Ap trivial ?_;refine Ba hM ?_)))
 refine Cg hM (fun w hM=>aTt (aFv h1) hM.fz (aUy lp lw lx)) (fun w4 _ hM2=>?_)
 have hM0:=hM
 replace hM:=hM2
 clear hM2
 (((refine Ap trivial ?_));(refine Ba ‹Mem _ _ _ _› ?_);((refine Bs hM ?_ (fun _ _ hM=>?_)));(focus (first|exact trivial|assumption|omega));((refine Bc hM ?_;clear hM;intro _ hM)))
 exact⟨rfl,hM.st⟩
theorem aQn (f:Frm) (forks:Int) (exp:H32) (t:T64) (c:Cmt.Cm) {C D E A9 B9:Option Addr} {m cc dc ec a9 b9:Nat} (hr:c.right=true) (hc:Cmt.CmF H C D E [] c) (hM:Mem H w0 (fb g 67 (eraF f A9 1 a9 B9 0 b9 1 K kn kc gi forks P pn pc exp)::L) w):
  Calls prog 81 #[.pointer (some ⟨g,0,none⟩),tv A 1 n B 0 m,.agg (tiV t.1).toArray,Cmt.cv C cc D dc E ec c] w fun en w'=>en=.returned (.agg (fl (Frm.fds ⟨hzero,f.id,c.depth,saidH f.said (strOfNums (Cmt.coreL c)),t⟩ A 1 n B 0 m)).toArray)∧St w [] w':=by
 have hcl:=Cmt.Qd hr
 have hsz:(strOfNums (Cmt.coreL c)).size≤100000000:=by rw[strOfNums_size];omega
 refine Zv ?_
 unfold Ov
 have hB:FbF (Hp.of w) g (eraF f A9 1 a9 B9 0 b9 1 K kn kc gi forks P pn pc exp):=hM.readsB
 have hc:=hc.mono (Kw hM.fz)
 have hM:=Mem.start (Fz.of w)
 (((refine Bh hM ?_;clear hM;intro _ _ hM;refine Bh hM ?_;clear hM;intro _ _ hM;refine Bh hM ?_;clear hM;intro _ _ hM;refine Bf hM ?_;clear hM;intro _ _ hM;(iterate 3 refine Ap trivial ?_)));(refine Ux hM ‹_› ?_);((refine Ap trivial ?_;refine Ba hM ?_;refine Ba hM ?_;(iterate 3 refine Ap trivial ?_)));(refine Ux hM ‹_› ?_);((refine Ba hM ?_)))
 have hM0:=hM
 refine Cg hM (fun w hM=>Cmt.aHt hc hM.fz) (fun w4 _ hM2=>?_)
 rw[if_pos hr]
 replace hM:=hM2
 clear hM2
 (((refine Bs hM ?_ (fun _ _ hM=>?_)));(focus (first|exact trivial|assumption|omega));(refine Ba ‹Mem _ _ _ _› ?_);((refine Ap trivial ?_;refine Ca hM ?_;clear hM;intro _ hM;refine Bc hM ?_;clear hM;intro _ hM;refine Bz hM ?_)))
 exact⟨rfl,hM.st⟩
end
end Go.Proofs.YtgbenhmdamnmcaaGreat
namespace Go.Proofs.YtgbenhmdamnmcaaGreat
open Go.Proofs.Tryz
open Go.RowKit Go.Lib
theorem aIu (lp lw lx:H32):¬(one1 lp lw lx).nobody 0:=by
 rintro((h|h)|h)
 ·omega
 ·have:(one1 lp lw lx).size=1:=rfl
  omega
 ·have:nameAt (one1 lp lw lx).ls 0=1:=rfl
  omega
theorem grow1 (lp lw lx once:H32) (about:List Int) (ha:about.length≤65536):∃ (P X com:H32) (ks:List Ky),growT (one1 lp lw lx) 0 once about []=(⟨one1 P lw X,[],[],ks,com⟩,0)∧ks.length≤1000:=by
 have hd:dirL (one1 lp lw lx).size 0=[]:=by
  show dirL 1 0=[]
  decide +kernel
 unfold growT
 rw[if_neg (by rw[Gk];simp),if_neg (aIu lp lw lx),if_neg (by omega)]
 unfold growG
 simp only[hd]
 unfold Tr.pathP
 rw[if_neg (by rw[Gk];simp)]
 unfold Tr.pathR
 rw[if_neg (aIu lp lw lx),hd,if_neg (by simp[pubsL])]
 exact⟨pubK (leafS once) 0,sd (one1 lp lw lx) 0 [] (List.drop 1 (pubsL (leafS once) (([]:List Int).length+1))) 0,_,_,rfl,by show 1≤1000;decide⟩
end Go.Proofs.YtgbenhmdamnmcaaGreat
namespace Go.Proofs.YtgbenhmdamnmcaaGreat
open Go.Proofs.Tryz
open Go.RowKit Go.Lib
abbrev zcF:List Fd:=[.arr 32 (u8s hzero.1),.one (.int .i64 0),.one (.int .i64 0),.one (.slice none 0 0),.arr 32 (u8s hzero.1),.arr 32 (u8s hzero.1),.one (.slice none 0 0),.one (.string (ByteArray.mk #[])),.one (.slice none 0 0),.arr 32 (u8s hzero.1),.arr 32 (u8s hzero.1)]
theorem aDv (c:Cmt.Cm) (hd:1≤c.depth∧c.depth≤4611686018427387903) (ha:1≤c.author∧c.author≤64) (hp:c.props=[]) (hq:c.path=[]) (hw:c.wels=[]) (hi:c.info.size≤65536):c.right=true:=by
 obtain⟨a1,a2,a3,a4,a5,a6,a7,a8,a9,a10,a11⟩:=c
 dsimp only at *
 subst hp hq hw
 have hf:Cmt.Cm.fits ⟨a1,a2,a3,[],a5,a6,[],a8,[],a10,a11⟩:=⟨hd,ha,by simp,by simp,hi,by simp⟩
 unfold Cmt.Cm.right
 rw[decide_eq_true hf]
 rfl
theorem bAx {H:Hp} {w:World} (core:ByteArray) (hc:core.size≤100000000) (hf:Fz H w):Calls prog 80 #[.string core] w (Outp H w fun _ v=>∃ n:Int,v=.int .i64 n∧0≤n∧n<4294967296):=
 (aXl core hc w).mono fun en w' ⟨v,he,n,hv,h0,h1,hs⟩=>by
  subst he
  exact((Mem.start hf).call0 hs).out (Le.refl _ _) ⟨n,hv,h0,h1⟩
theorem aYc {H:Hp} {A B:Option Addr} {a b:Nat} {lp lw lx:H32} (h:TrF H (tv A 1 a B 0 b) (one1 lp lw lx)):Sl H 97 A [Lf.fds ⟨1,lp,lw,lx⟩]:=by
 obtain⟨A',a',B',b',q,hv,h1,-⟩:=h.ex
 simp[fl,Fd.cells]at hv
 obtain⟨⟨rfl,-⟩,-⟩:=hv
 exact h1
theorem aBo (c:Cmt.Cm) (hd:1≤c.depth∧c.depth≤4611686018427387903) (ha:1≤c.author∧c.author≤64) (hp:c.props=[]) (hq:c.path=[]) (hw:c.wels=[]) (hi:c.info.size≤2016):c.right=true:=
 aDv c hd ha hp hq hw (by omega)
theorem aLq (c:Cmt.Cm) (hp:c.props=[]) (hq:c.path=[]):(Cmt.coreL c).length≤400:=by
 have n1:=Be c.depth
 have n2:=Be c.author
 have n3:=Be (c.props.length:Int)
 have n4:=Be (c.path.length:Int)
 simp only[Cmt.coreL,List.length_append,c.parent.2.1,c.leaf.2.1,c.above.2.1]
 rw[hp]at n3 ⊢
 rw[hq]at n4 ⊢
 simp only[List.flatMap_nil,List.length_nil]at n3 n4 ⊢
 omega
theorem aFw (c:Cmt.Cm) (hp:c.props=[]) (hq:c.path=[]) (hw:c.wels=[]) (hi:c.info.size≤2016):(strOfNums (Cmt.signedL c)).size≤1000000:=by
 have n0:=aLq c hp hq
 have n1:=Cmt.Jb c.info
 have n3:=Be (c.wels.length:Int)
 rw[strOfNums_size]
 simp only[Cmt.signedL,List.length_append,c.tag.2.1]
 rw[hw]at n3 ⊢
 simp only[List.flatMap_nil,List.length_nil]at n3 ⊢
 omega
theorem aNo {H:Hp} {RA:Option Addr} {c0:Cmt.Cm} (h:Cmt.CmF H none RA none [] c0) (c:Cmt.Cm) (e1:c.props=c0.props) (e2:c.path=c0.path) (e3:c.wels=c0.wels) (hi:c.info.size≤2016):Cmt.CmF H none RA none [] c:=
 ⟨by rw[e1];exact h.props,h.path,by rw[e2];exact h.path2,by rw[e3];exact h.wels,by rw[e1,e2,e3];exact⟨h.len.1,h.len.2.1,h.len.2.2.1,by simp only[maxLen];omega⟩⟩
section
variable {H:Hp} {w0 w:World} {L R:List Res} {A B P Q K:Option Addr} {n a b c pc kn kc pn ge gi si qc:Nat}
set_option maxHeartbeats 2000000 in
theorem aQo {RR:Ending→World→Prop} (f:Frm) (hf0:f.depth=0) (ini exp once lp lx:H32) (hL:Sl H 97 A [Lf.fds ⟨1,lp,Chg.verV (privK 1),lx⟩]) (hS:Sl H 34 (some ⟨si,0,none⟩) [Sd.fds ⟨0,0,ini⟩])
  (hM:Mem H w0 (fb ge 67 (eraF f A 1 a B 0 b 1 K kn kc gi 0 P 1 pc exp)::fb gi 247 [.one (.int .i64 32),.one (.slice (some ⟨si,0,none⟩) 1 1)]::L) w)
  (hR:∀ H' gch A' a' B' b' K' kn' kc' gi' P' pc' RA ra w' (c:Cmt.Cm) (fc:Frm) (exp':H32),Le w0 H H'→c.right=true→c.props=[]→c.path=[]→c.wels=[]→fc.depth=1→fc.id=Cmt.idC c→Cmt.CmF H' none RA none [] c →
   Mem H' w0 (fb gch 67 (eraF fc A' 1 a' B' 0 b' 1 K' kn' kc' gi' 0 P' 1 pc' exp')::L) w'→RR (.returned (.tuple #[Cmt.cv none 0 RA ra none 0 c,.pointer (some ⟨gch,0,none⟩),.int .i64 0])) w'):
  Calls prog 23 #[.pointer none,.pointer (some ⟨ge,0,none⟩),.slice Q 6 qc,ha (privK 1),.slice none 0 0,ha once] w RR:=by
 obtain⟨ab,ao,rfl⟩:=hL.some_ (by simp)
 have hl0:[Lf.fds ⟨1,lp,Chg.verV (privK 1),lx⟩][(0:Int).toNat]?=some (Lf.fds ⟨1,lp,Chg.verV (privK 1),lx⟩):=rfl
 refine Zm ?_
 unfold On
 (((refine Bh hM ?_;clear hM;intro _ _ hM;refine Bh hM ?_;clear hM;intro _ _ hM;refine Bf hM ?_;clear hM;intro _ _ hM;refine Ab trivial ?_;refine Bf hM ?_;clear hM;intro _ _ hM;refine Az hM ?_;clear hM;intro _ hM;refine Ab trivial ?_;refine Aj ?_;refine Ab trivial ?_;refine Ab trivial ?_;refine An hM ?_;refine Bm trivial ?_ ?_));(focus (first|assumption|omega|with_reducible rfl|exact fun h=>Bool.noConfusion h));((refine Aj ?_;(iterate 3 refine Ab trivial ?_);refine An hM ?_;refine Bm trivial ?_ ?_));(focus (first|assumption|omega|with_reducible rfl|exact fun h=>Bool.noConfusion h));((refine Aj ?_;(iterate 4 refine Ap trivial ?_);refine Ba hM ?_)))
 rename_i g9 _ g11 _ g12 _ g15 _ _
 have hM0:=hM
 refine Cg hM (fun w hM=>aQm f 0 exp hL (hM.at_ (fb ge 67 (eraF f (some ⟨ab,ao,none⟩) 1 a B 0 b 1 K kn kc gi 0 P 1 pc exp)))) (fun w2 _ hM2=>?_)
 replace hM:=hM2
 clear hM2
 (((refine Ap ?_ ?_));(focus omega);((refine Ap trivial ?_)))
 refine Iq hM hL hl0 ?_
 ((refine Ba ‹Mem _ _ _ _› ?_);((refine Bs hM ?_ (fun _ _ hM=>?_)));(focus (first|exact trivial|assumption|omega)))
 refine Wp trivial (fun h=>h rfl) ?_
 clear hM0
 (((refine Bc hM ?_;clear hM;intro _ hM;refine Aj ?_;(iterate 3 refine Ap trivial ?_);refine Ba hM ?_;(iterate 3 refine Ap trivial ?_);refine Ba hM ?_;(iterate 3 refine Ap trivial ?_);refine Ba hM ?_;(iterate 3 refine Ap trivial ?_);refine Ba hM ?_;refine Ap trivial ?_;refine Ap trivial ?_;refine Ba hM ?_)))
 refine Pu hM (fun w hM=>aXy f.times f.id f.depth 1 lp (Chg.verV (privK 1)) lx hL hM.fz) ?_
 clear hM
 rintro H1 r w3 _ l1 hM rfl
 have hL1:=hL.mono l1.le
 (((refine Bc hM ?_;clear hM;intro _ hM;refine Bm trivial ?_ ?_));(focus (first|assumption|omega|with_reducible rfl|exact fun h=>Bool.noConfusion h));((refine Aj ?_)))
 refine⟨fun x y z w'=>∃ H2 g17 g18 A2 a2 B2 b2,x=.pointer (some ⟨g17,0,none⟩)∧y=.pointer (some ⟨g18,0,none⟩)∧z=.slice none 0 0∧Le w0 H1 H2∧Sl H2 97 A2 [Lf.fds ⟨1,lp,Chg.verV (privK 1),lx⟩]∧Mem H2 w0 (fb g17 58 (tfd A2 1 a2 B2 0 b2)::fb g18 60 [.arr 64 (tiV f.times.1)]::fb g15 28 zcF::fb g12 28 zcF::fb g11 23 [.arr 32 (u8s once.1)]::fb g9 23 [.arr 32 (u8s (privK 1).1)]::fb ge 67 (eraF f (some ⟨ab,ao,none⟩) 1 a B 0 b 1 K kn kc gi 0 P 1 pc exp)::fb gi 247 [.one (.int .i64 32),.one (.slice (some ⟨si,0,none⟩) 1 1)]::L) w',?_,?_⟩
 ·repeat' apply And.intro
  all_goals
   (first|((((iterate 3 refine Ap trivial ?_);refine Ba hM ?_;(iterate 3 refine Ap trivial ?_);refine Ba hM ?_;refine Cd hM ?_;clear hM;intro _ _ hM;refine Cd hM ?_;clear hM;intro _ _ hM)))|((((iterate 3 refine Ap trivial ?_);refine Ba hM ?_;(iterate 3 refine Ap trivial ?_);refine Ba hM ?_;refine Cd hM ?_;clear hM;intro _ _ hM)))|((((iterate 3 refine Ap trivial ?_);refine Ba hM ?_;(iterate 3 refine Ap trivial ?_);refine Ba hM ?_))))
   refine Pu hM (fun w hM=>aDu f.times lp (Chg.verV (privK 1)) lx hL1 hM.fz) ?_
   clear hM
   rintro H2 r w4 _ l2 hM ⟨A2,a2,B2,b2,rfl,hs2⟩
   (first|((((iterate 4 refine Ap trivial ?_);refine Cd hM ?_;clear hM;intro _ _ hM;refine Cd hM ?_;clear hM;intro _ _ hM;refine Ca hM ?_;clear hM;intro _ hM;refine Ca hM ?_;clear hM;intro _ hM;refine Bc hM ?_;clear hM;intro _ hM)))|((((iterate 4 refine Ap trivial ?_);refine Cd hM ?_;clear hM;intro _ _ hM;refine Ca hM ?_;clear hM;intro _ hM;refine Ca hM ?_;clear hM;intro _ hM;refine Bc hM ?_;clear hM;intro _ hM)))|((((iterate 4 refine Ap trivial ?_);refine Ca hM ?_;clear hM;intro _ hM;refine Ca hM ?_;clear hM;intro _ hM;refine Bc hM ?_;clear hM;intro _ hM))))
   exact⟨H2,_,_,A2,a2,B2,b2,rfl,rfl,rfl,l2,hs2,hM.same⟩
 clear hM
 rintro x y z u w4 ⟨H2,g17,g18,A2,a2,B2,b2,rfl,rfl,rfl,l2,hs2,hM⟩
 ((((iterate 4 refine Ab trivial ?_);refine Jh hM ?_;refine Ba hM ?_;refine Ap trivial ?_;refine Ap trivial ?_;refine Ba hM ?_)))
 refine Cg hM (fun w hM=>aNn hs2 hM.fz) (fun w5 _ hM2=>?_)
 replace hM:=hM2
 clear hM2
 (((refine Bc hM ?_;clear hM;intro _ hM;refine An hM ?_;refine An hM ?_)))
 obtain⟨Pk,X,com,ks,hg,hks⟩:=grow1 lp (Chg.verV (privK 1)) lx once f.id.1 (by rw[f.id.2.1];omega)
 refine Gq hM (aXs 0 once f.id.1 [] (by omega) (by rw[f.id.2.1];omega) (by simp[maxLen]) (aFv hs2) (Sl.nil _ _ _) hM.fz) ?_
 clear hM
 rintro H3 r w6 l3 hM ⟨gv,rfl,hG⟩
 have hg1:=congrArg Prod.fst hg
 have hg2:=congrArg Prod.snd hg
 clear hg
 dsimp only at hg1 hg2
 rw[hg1]at hG
 rw[hg2]
 clear hg1 hg2
 obtain⟨TA,ta,TB,tb,RA,ra,SA,sa,KA,ka,qs,hgv,hT,-,-,-,hKg⟩:=hG
 have hgv:gv=.agg (fl (gfd TA 1 ta TB 0 tb RA 0 ra SA 0 sa KA ks.length ka com)).toArray:=hgv
 subst hgv
 have hL3:=aYc hT
 clear hT
 obtain⟨tb0,to0,rfl⟩:=hL3.some_ (by simp)
 have hl3:[Lf.fds ⟨1,Pk,Chg.verV (privK 1),X⟩][(0:Int).toNat]?=some (Lf.fds ⟨1,Pk,Chg.verV (privK 1),X⟩):=rfl
 (((refine Ab trivial ?_;refine Ab trivial ?_;refine Bf hM ?_;clear hM;intro _ _ hM;refine Az hM ?_;clear hM;intro _ hM;refine Ab trivial ?_;refine Ab trivial ?_;refine An hM ?_;refine Ab ?_ ?_));(focus omega))
 rename_i g23 _ _
 refine Cb hM hL3 hl3 ?_
 (((refine Bf hM ?_;clear hM;intro _ _ hM;refine Az hM ?_;clear hM;intro _ hM)))
 obtain⟨c0,hc0⟩:∃ c0:Cmt.Cm,c0=⟨f.id,f.depth+1,1,[],Pk,X,[],ByteArray.mk #[],[],hzero,hzero⟩:=⟨_,rfl⟩
 refine⟨fun x w'=>∃ g26,x=.pointer (some ⟨g26,0,none⟩)∧Mem H3 w0 (fb g26 28 (Cmt.cfd none 0 RA ra none 0 ⟨f.id,f.depth+1,1,[],Pk,X,[],ByteArray.mk #[],[],hzero,hzero⟩)::fb g23 139 (gfd (some ⟨tb0,to0,none⟩) 1 ta TB 0 tb RA 0 ra SA 0 sa KA ks.length ka com)::fb g17 58 (tfd A2 1 a2 B2 0 b2)::fb g18 60 [.arr 64 (tiV f.times.1)]::fb g15 28 zcF::fb g12 28 zcF::fb g11 23 [.arr 32 (u8s once.1)]::fb g9 23 [.arr 32 (u8s (privK 1).1)]::fb ge 67 (eraF f (some ⟨ab,ao,none⟩) 1 a B 0 b 1 K kn kc gi 0 P 1 pc exp)::fb gi 247 [.one (.int .i64 32),.one (.slice (some ⟨si,0,none⟩) 1 1)]::L) w',?_,?_⟩
 ·repeat' apply And.intro
  all_goals
   (first|((((iterate 3 refine Ap trivial ?_);refine Ba hM ?_;(iterate 3 refine Ap trivial ?_);refine Ba hM ?_;refine Ap ?_ ?_));(focus omega);((refine Ap trivial ?_;refine Ap trivial ?_;refine Ba hM ?_;refine Ap trivial ?_;refine Ba hM ?_;refine Ap trivial ?_;refine Ba hM ?_;refine Ap trivial ?_;refine Ba hM ?_;refine Bs hM ?_ (fun _ _ hM=>?_)));(focus (first|exact trivial|assumption|omega));((refine Ap trivial ?_;refine Cd hM ?_;clear hM;intro _ _ hM;refine Ca hM ?_;clear hM;intro _ hM;refine Bc hM ?_;clear hM;intro _ hM)))|((((iterate 3 refine Ap trivial ?_);refine Ba hM ?_;(iterate 3 refine Ap trivial ?_);refine Ba hM ?_;refine Ap ?_ ?_));(focus omega);((refine Ap trivial ?_;refine Ap trivial ?_;refine Ba hM ?_;refine Ap trivial ?_;refine Ba hM ?_;refine Ap trivial ?_;refine Ba hM ?_;refine Ap trivial ?_;refine Ba hM ?_;refine Cd hM ?_;clear hM;intro _ _ hM;refine Bs hM ?_ (fun _ _ hM=>?_)));(focus (first|exact trivial|assumption|omega));((refine Ap trivial ?_;refine Ca hM ?_;clear hM;intro _ hM;refine Bc hM ?_;clear hM;intro _ hM))))
   exact⟨_,rfl,hM.sub⟩
 rw[← hc0]
 clear hM
 rintro x u8 w7 ⟨g26,rfl,hM⟩
 have hcr:c0.right=true:=by rw[hc0];exact aDv _ (by dsimp only;omega) (by dsimp only;omega) rfl rfl rfl (show(ByteArray.mk #[]).size≤65536 by decide)
 have hcF:Cmt.CmF H3 none RA none [] c0:=by rw[hc0];exact⟨Sl.nil _ _ _,Sl.nil _ _ _,trivial,Sl.nil _ _ _,by simp[maxLen],by simp[maxLen],by simp[maxLen],(show(ByteArray.mk #[]).size≤maxLen by decide)⟩
 have hS3:=hS.mono (l1.trans (l2.trans l3)).le
 have hcl:=Cmt.Qd hcr
 have hsz:(strOfNums (Cmt.coreL c0)).size≤100000000:=by rw[strOfNums_size];omega
 skip
 refine⟨fun x y w'=>∃ (H4:Hp) (g27:Nat) (key:H32),x=.pointer (some ⟨g27,0,none⟩)∧y=.int .i64 0∧Le w0 H3 H4∧Mem H4 w0 (fb g27 23 [.arr 32 (u8s key.1)]::fb g26 28 (Cmt.cfd none 0 RA ra none 0 c0)::fb g23 139 (gfd (some ⟨tb0,to0,none⟩) 1 ta TB 0 tb RA 0 ra SA 0 sa KA ks.length ka com)::fb g17 58 (tfd A2 1 a2 B2 0 b2)::fb g18 60 [.arr 64 (tiV f.times.1)]::fb g15 28 zcF::fb g12 28 zcF::fb g11 23 [.arr 32 (u8s once.1)]::fb g9 23 [.arr 32 (u8s (privK 1).1)]::fb ge 67 (eraF f (some ⟨ab,ao,none⟩) 1 a B 0 b 1 K kn kc gi 0 P 1 pc exp)::L) w',?_,?_⟩
 ·repeat' apply And.intro
  all_goals
   (first|(((refine Ap trivial ?_;refine Ap trivial ?_;refine Ba hM ?_;refine Ba hM ?_;refine Cd hM ?_;clear hM;intro _ _ hM)))|(((refine Ap trivial ?_;refine Ap trivial ?_;refine Ba hM ?_;refine Ba hM ?_))))
   refine Cg hM (fun w hM=>Cmt.aHt hcF hM.fz) (fun w4 _ hM2=>?_)
   rw[if_pos hcr]
   replace hM:=hM2
   clear hM2
   (first|(((refine Cd hM ?_;clear hM;intro _ _ hM)))|skip)
   refine Pu hM (fun w hM=>bAx _ hsz hM.fz) ?_
   clear hM
   rintro H4 r w8 _ l4 hM ⟨n,rfl,hn0,hn1⟩
   have hS4:=hS3.mono l4.le
   (first|(((refine Cd hM ?_;clear hM;intro _ _ hM)))|skip)
   refine La hM (fun w hM=>aXv ini n ⟨hn0,hn1⟩ hS4 (hM.at_ (fb gi 247 [.one (.int .i64 32),.one (.slice (some ⟨si,0,none⟩) 1 1)]))) ?_
   clear hM
   rintro r w9 ⟨key,rfl,hM⟩
   (first|(((refine Ap trivial ?_;refine Ap trivial ?_;refine Cd hM ?_;clear hM;intro _ _ hM;refine Ca hM ?_;clear hM;intro _ hM;refine Bc hM ?_;clear hM;intro _ hM)))|(((refine Ap trivial ?_;refine Ap trivial ?_;refine Ca hM ?_;clear hM;intro _ hM;refine Bc hM ?_;clear hM;intro _ hM))))
   exact⟨H4,_,key,rfl,rfl,l4,hM.same⟩
 clear hM
 rintro x y u9 w8 ⟨H4,g27,key,rfl,rfl,l4,hM⟩
 have hcF4:=hcF.mono l4.le
 have hL4:=hL3.mono l4.le
 (((refine Bm trivial ?_ ?_));(focus (first|assumption|omega|with_reducible rfl|exact fun h=>Bool.noConfusion h));((refine Aj ?_;refine Ab trivial ?_;(iterate 3 refine An hM ?_))))
 refine Bn hM (aQn f 0 exp f.times c0 hcr hcF4 (hM.at_ (fb ge 67 (eraF f (some ⟨ab,ao,none⟩) 1 a B 0 b 1 K kn kc gi 0 P 1 pc exp)))) (fun w9 hM2=>?_)
 replace hM:=hM2
 clear hM2
 obtain⟨fr,hfr⟩:∃ fr:Frm,fr=⟨hzero,f.id,c0.depth,saidH f.said (strOfNums (Cmt.coreL c0)),f.times⟩:=⟨_,rfl⟩
 rw[← hfr]
 have hcd:c0.depth=1:=by rw[hc0];dsimp only;omega
 have hfd:0≤fr.depth∧fr.depth≤4611686018427387903:=by rw[hfr];dsimp only;omega
 have hcx:(strOfNums (ctxL fr.parent fr.depth (hRoot (one1 Pk (Chg.verV (privK 1)) X)) fr.said)).size≤1000000:=by
  have:=Be fr.depth
  rw[strOfNums_size]
  simp only[ctxL,List.length_append,fr.parent.2.1,fr.said.2.1,(hRoot (one1 Pk (Chg.verV (privK 1)) X)).2.1]
  omega
 (((refine Bf hM ?_;clear hM;intro _ _ hM;refine Az hM ?_;clear hM;intro _ hM)))
 rename_i g29 _ _
 refine⟨fun x w'=>∃ (g30:Nat) (sec:Sec),x=.pointer (some ⟨g30,0,none⟩)∧Mem H4 w0 (fb g30 123 sec.fds::fb g29 62 (fr.fds (some ⟨tb0,to0,none⟩) 1 ta TB 0 tb)::fb g27 23 [.arr 32 (u8s key.1)]::fb g26 28 (Cmt.cfd none 0 RA ra none 0 c0)::fb g23 139 (gfd (some ⟨tb0,to0,none⟩) 1 ta TB 0 tb RA 0 ra SA 0 sa KA ks.length ka com)::fb g17 58 (tfd A2 1 a2 B2 0 b2)::fb g18 60 [.arr 64 (tiV f.times.1)]::fb g15 28 zcF::fb g12 28 zcF::fb g11 23 [.arr 32 (u8s once.1)]::fb g9 23 [.arr 32 (u8s (privK 1).1)]::fb ge 67 (eraF f (some ⟨ab,ao,none⟩) 1 a B 0 b 1 K kn kc gi 0 P 1 pc exp)::L) w',?_,?_⟩
 ·repeat' apply And.intro
  all_goals
   (first|(((refine Ba hM ?_;refine Ap trivial ?_;refine Ba hM ?_;refine Ba hM ?_;refine Bs hM ?_ (fun _ _ hM=>?_)));(focus (first|exact trivial|assumption|omega));((refine Cd hM ?_;clear hM;intro _ _ hM)))|(((refine Ba hM ?_;refine Ap trivial ?_;refine Ba hM ?_;refine Ba hM ?_;refine Cd hM ?_;clear hM;intro _ _ hM;refine Bs hM ?_ (fun _ _ hM=>?_)));(focus (first|exact trivial|assumption|omega)))|(((refine Ba hM ?_;refine Ap trivial ?_;refine Ba hM ?_;refine Ba hM ?_;refine Bs hM ?_ (fun _ _ hM=>?_)));(focus (first|exact trivial|assumption|omega))))
   refine Cg hM (fun w hM=>aYb fr hfd hL4 hM.fz) (fun w4 _ hM2=>?_)
   replace hM:=hM2
   clear hM2
   (first|(((refine Cd hM ?_;clear hM;intro _ _ hM)))|skip)
   refine Cg hM (fun w hM=>aNg _ _ hcx w) (fun w4 _ hM2=>?_)
   replace hM:=hM2
   clear hM2
   generalize secOf _ _=sec
   (first|(((refine Cd hM ?_;clear hM;intro _ _ hM;refine Ca hM ?_;clear hM;intro _ hM;refine Bc hM ?_;clear hM;intro _ hM)))|(((refine Ca hM ?_;clear hM;intro _ hM;refine Bc hM ?_;clear hM;intro _ hM))))
   exact⟨_,sec,rfl,hM.same⟩
 clear hM
 rintro x u10 w10 ⟨g30,sec,rfl,hM⟩
 skip
 refine Bi (Hw hM) ?_
 clear hM
 rintro v w11 ⟨gw,rfl,hM⟩
 (((refine Ab trivial ?_;refine An hM ?_)))
 refine Bi (Dd fr.said (by simp) (hM.at_ (wrR gw [] false))) ?_
 clear hM
 rintro v w12 ⟨rfl,hM⟩
 rw[List.nil_append]at hM
 (((refine Ab trivial ?_;refine An hM ?_)))
 refine⟨fun v w'=>∃ (i:Nat) (out:List Int),v=.int .i64 i∧i≤64∧out.length≤32+8*i∧Mem H4 w0 (wrR gw out false::fb g30 123 sec.fds::fb g29 62 (fr.fds (some ⟨tb0,to0,none⟩) 1 ta TB 0 tb)::fb g27 23 [.arr 32 (u8s key.1)]::fb g26 28 (Cmt.cfd none 0 RA ra none 0 c0)::fb g23 139 (gfd (some ⟨tb0,to0,none⟩) 1 ta TB 0 tb RA 0 ra SA 0 sa KA ks.length ka com)::fb g17 58 (tfd A2 1 a2 B2 0 b2)::fb g18 60 [.arr 64 (tiV f.times.1)]::fb g15 28 zcF::fb g12 28 zcF::fb g11 23 [.arr 32 (u8s once.1)]::fb g9 23 [.arr 32 (u8s (privK 1).1)]::fb ge 67 (eraF f (some ⟨ab,ao,none⟩) 1 a B 0 b 1 K kn kc gi 0 P 1 pc exp)::L) w',fun v _=>match v with | .int _ k=>64 - k.toNat|_=>0,⟨0,fr.said.1,rfl,by omega,by rw[fr.said.2.1];omega,hM⟩,?_⟩
 clear hM
 rintro v u11 w13 ⟨i,out,rfl,hi,ho,hM⟩
 (((refine Aw trivial ?_ ?_)))
 ·intro hlt
  have hti:=fr.times.2.1
  have hx:=fr.times.2.2 (fr.times.1[i]'(by omega)) (List.getElem_mem _)
  have hnx:=Be (fr.times.1[i]'(by omega))
  (((refine Am ?_)))
  refine Br (Kz _ 3 64 (tiV fr.times.1).toArray _ (i:Int) (.int .i64 (fr.times.1[i]'(by omega))) (by kernel_rfl) (by kernel_rfl) (by omega) (by omega) (by simp[tiV])) ?_
  refine Bi (Da _ hx (by omega) hM) ?_
  clear hM
  rintro v w14 ⟨rfl,hM⟩
  (((refine Ab ?_ ?_));(focus omega))
  exact⟨⟨i+1,_,rfl,by omega,by rw[List.length_append];omega,hM⟩,by dsimp only;omega⟩
 intro hge
 obtain rfl:i=64:=by omega
 have hpk:(packB (one1 Pk (Chg.verV (privK 1)) X)).length≤200:=by
  have h1:=Be ((one1 Pk (Chg.verV (privK 1)) X).ls.length:Int)
  have h2:=aFu (l:=(one1 Pk (Chg.verV (privK 1)) X).ls) (f:=leafB) (k:=105) fun l _=>Qg l
  have h3:(one1 Pk (Chg.verV (privK 1)) X).ls.length=1:=rfl
  have h4:(one1 Pk (Chg.verV (privK 1)) X).ps.flatMap parentB=[]:=rfl
  unfold packB
  rw[List.length_append,List.length_append,h4,List.length_nil]
  omega
 (((refine Aj ?_;refine Ab trivial ?_;refine An hM ?_)))
 refine Bn hM (bAw (aUy Pk (Chg.verV (privK 1)) X) (aFv hL4) hM.fz) (fun w14 hM2=>?_)
 replace hM:=hM2
 clear hM2
 generalize packB (one1 Pk (Chg.verV (privK 1)) X)=pk at hpk ⊢
 have htb:=Cmt.Jb (strOfNums pk)
 rw[strOfNums_size]at htb
 refine Bi (Cmt.Pl (strOfNums pk) (by rw[strOfNums_size];omega) (by omega) (hM.at_ (wrR gw out false))) ?_
 clear hM
 rintro v w15 ⟨rfl,hM⟩
 have ho2:(out++Cmt.textB (strOfNums pk)).length≤2000:=by rw[List.length_append];omega
 generalize out++Cmt.textB (strOfNums pk)=out2 at ho2 hM
 skip
 refine Bn hM (Ia hM) (fun w16 hM2=>?_)
 replace hM:=hM2
 clear hM2
 ((((iterate 3 refine Ab trivial ?_);refine An hM ?_)))
 rw[show strOfNums out2=strOfNums (ints (strOfNums out2)) from(Ln _).symm]
 have ho3:(ints (strOfNums out2)).length≤2000:=by rw[Bq,strOfNums_size];exact ho2
 have hr3:=Nb (strOfNums out2)
 generalize ints (strOfNums out2)=inf at ho3 hr3 ⊢
 refine Bn hM (aNf sec.welcome f.id.1 inf (by rw[f.id.2.1];omega) hr3 (by omega) (Sl.nil H4 32 none) rfl (by omega) hM.fz) (fun w17 hM2=>?_)
 replace hM:=hM2
 clear hM2
 have hsl:=aDs sec.welcome f.id.1 inf
 have hss:(strOfNums (sealL rowK tagK sec.welcome f.id.1 inf)).size≤2016:=by rw[strOfNums_size];omega
 generalize strOfNums (sealL rowK tagK sec.welcome f.id.1 inf)=info at hss ⊢
 (((refine Ab trivial ?_;refine Az hM ?_;clear hM;intro _ hM;refine Ab trivial ?_;refine An hM ?_;refine Ab trivial ?_)))
 refine Gq hM (Se 1 0 (by omega) hM.fz) ?_
 clear hM
 rintro H5 r w18 l5 hM ⟨WA,wc,rfl,-⟩
 have hL5:=hL4.mono l5.le
 have hK5:=hKg.mono (l4.trans l5).le
 (((refine Bl hM ?_ ?_));(focus (first|exact trivial|assumption|omega));((clear hM;intro _ hM;refine Ab trivial ?_)))
 refine⟨fun v w'=>v=.int .i64 0∧hM.now w',fun _ _=>0,⟨rfl,hM⟩,?_⟩
 rintro v u12 w19 ⟨rfl,hM⟩
 have hM:Mem _ _ _ _:=hM
 (((refine Bm trivial ?_ ?_));(focus (first|assumption|omega|with_reducible rfl|exact fun h=>Bool.noConfusion h));((refine Aj ?_;refine Ab trivial ?_;refine An hM ?_;refine Ab trivial ?_;refine An hM ?_)))
 refine Bn hM (aXk sec.confirm fr.said _) (fun w20 hM2=>?_)
 replace hM:=hM2
 clear hM2
 generalize tagH sec.confirm fr.said=tg
 have hp0:c0.props=[]:=by rw[hc0]
 have hq0:c0.path=[]:=by rw[hc0]
 have hw0:c0.wels=[]:=by rw[hc0]
 have ha0:c0.author=1:=by rw[hc0]
 have hcF5:=hcF4.mono l5.le
 obtain⟨c2,hc2⟩:∃ c2:Cmt.Cm,c2=⟨c0.parent,c0.depth,c0.author,c0.props,c0.leaf,c0.above,c0.path,info,c0.wels,tg,c0.sign⟩:=⟨_,rfl⟩
 have e1:c2.props=c0.props:=by rw[hc2]
 have e2:c2.path=c0.path:=by rw[hc2]
 have e3:c2.wels=c0.wels:=by rw[hc2]
 have e4:c2.info.size≤2016:=by rw[hc2];exact hss
 have e5:c2.depth=1:=by rw[hc2];exact hcd
 have e6:c2.author=1:=by rw[hc2];exact ha0
 have hcr2:c2.right=true:=aBo c2 (by omega) (by omega) (e1.trans hp0) (e2.trans hq0) (e3.trans hw0) e4
 have hcF2:=aNo hcF5 c2 e1 e2 e3 e4
 have hsg:=aFw c2 (e1.trans hp0) (e2.trans hq0) (e3.trans hw0) e4
 (((refine Ab trivial ?_;refine Az hM ?_;clear hM;intro _ hM;refine Ba hM ?_;refine Ba hM ?_)))
 have ec:[Fd.arr 32 (u8s c0.parent.1),.one (.int .i64 c0.depth),.one (.int .i64 c0.author),.one (.slice none c0.props.length 0),.arr 32 (u8s c0.leaf.1),.arr 32 (u8s c0.above.1),.one (.slice RA c0.path.length ra),.one (.string info),.one (.slice none c0.wels.length 0),.arr 32 (u8s tg.1),.arr 32 (u8s c0.sign.1)]=Cmt.cfd none 0 RA ra none 0 c2:=by rw[hc2]
 rw[ec]at hM ⊢
 refine Cg hM (fun w hM=>Cmt.aDi hcr2 hcF2 hM.fz) (fun w21 _ hM2=>?_)
 have hM0:=hM
 replace hM:=hM2
 clear hM2
 generalize Cmt.signedL c2=sgt at hsg ⊢
 (((refine Bs hM ?_ (fun _ _ hM=>?_)));(focus (first|exact trivial|assumption|omega));((refine Ap trivial ?_;refine Ca hM ?_;clear hM;intro _ hM;refine Bc hM ?_;clear hM;intro _ hM;refine An hM ?_)))
 generalize Chg.signV (Chg.verV (privK 1)) (ints (strOfNums sgt))=sg at hM ⊢
 obtain⟨c3,hc3⟩:∃ c3:Cmt.Cm,c3=⟨c2.parent,c2.depth,c2.author,c2.props,c2.leaf,c2.above,c2.path,c2.info,c2.wels,c2.tag,sg⟩:=⟨_,rfl⟩
 have i1:c3.props=c0.props:=by rw[hc3];exact e1
 have i2:c3.path=c0.path:=by rw[hc3];exact e2
 have i3:c3.wels=c0.wels:=by rw[hc3];exact e3
 have i4:c3.info.size≤2016:=by rw[hc3];exact e4
 have i5:c3.depth=1:=by rw[hc3];exact e5
 have i6:c3.author=1:=by rw[hc3];exact e6
 have hcr3:c3.right=true:=aBo c3 (by omega) (by omega) (i1.trans hp0) (i2.trans hq0) (i3.trans hw0) i4
 have hcF3:=aNo hcF5 c3 i1 i2 i3 i4
 have ec3:[Fd.arr 32 (u8s c2.parent.1),.one (.int .i64 c2.depth),.one (.int .i64 c2.author),.one (.slice none c2.props.length 0),.arr 32 (u8s c2.leaf.1),.arr 32 (u8s c2.above.1),.one (.slice RA c2.path.length ra),.one (.string c2.info),.one (.slice none c2.wels.length 0),.arr 32 (u8s c2.tag.1),.arr 32 (u8s sg.1)]=Cmt.cfd none 0 RA ra none 0 c3:=by rw[hc3]
 rw[ec3]at hM ⊢
 clear hM0
 refine Bn hM (Cmt.aSz hcF3 hM.fz) (fun w22 hM2=>?_)
 rw[if_pos hcr3]
 replace hM:=hM2
 clear hM2
 (((refine Ab trivial ?_;refine Az hM ?_;clear hM;intro _ hM;refine Ba hM ?_;refine Ap trivial ?_;refine Ap trivial ?_;refine Ba hM ?_;refine Ap trivial ?_;refine Ba hM ?_;refine Ba hM ?_)))
 obtain⟨fc,hfc⟩:∃ fc:Frm,fc=⟨Cmt.idC c3,fr.parent,fr.depth,fr.said,fr.times⟩:=⟨_,rfl⟩
 have hfcd:fc.depth=1:=by rw[hfc,hfr];exact hcd
 have hfci:fc.id=Cmt.idC c3:=by rw[hfc]
 have ef:[Fd.arr 32 (u8s (Cmt.idC c3).1),.arr 32 (u8s fr.parent.1),.one (.int .i64 fr.depth),.one (.slice (some ⟨tb0,to0,none⟩) 1 ta),.one (.slice TB 0 tb),.arr 32 (u8s fr.said.1),.arr 64 (tiV fr.times.1)]=fc.fds (some ⟨tb0,to0,none⟩) 1 ta TB 0 tb:=by rw[hfc]
 rw[ef]at hM ⊢
 have hKr:(List.map Ky.fds ks:List (List Fd))=(ks.map Ky.kr).map Kr.fds:=by rw[List.map_map];rfl
 have hK6:Sl H5 33 KA ((ks.map Ky.kr).map Kr.fds):=by rw[← hKr];exact hK5
 have hkl:(ks.map Ky.kr).length=ks.length:=List.length_map ..
 have hem:=fun(w:World) (hM:Mem H5 w0 (wrR gw out2 false::fb g30 123 sec.fds::fb g29 62 (fc.fds (some ⟨tb0,to0,none⟩) 1 ta TB 0 tb)::fb g27 23 [.arr 32 (u8s key.1)]::fb g26 28 (Cmt.cfd none 0 RA ra none 0 c3)::fb g23 139 (gfd (some ⟨tb0,to0,none⟩) 1 ta TB 0 tb RA 0 ra SA 0 sa KA ks.length ka com)::fb g17 58 (tfd A2 1 a2 B2 0 b2)::fb g18 60 [.arr 64 (tiV f.times.1)]::fb g15 28 zcF::fb g12 28 zcF::fb g11 23 [.arr 32 (u8s once.1)]::fb g9 23 [.arr 32 (u8s (privK 1).1)]::fb ge 67 (eraF f (some ⟨ab,ao,none⟩) 1 a B 0 b 1 K kn kc gi 0 P 1 pc exp)::L) w)=>
  aIt (kc:=ka) (a:=ta) (b:=tb) (B:=TB) (RR:=fun en w'=>∃ v,en=.returned v∧∃ H' gch gi' si' A' a' B' b' K' kn' kc' P' pc',v=.tuple #[.pointer (some ⟨gch,0,none⟩),.int .i64 0]∧Le w0 H5 H' ∧
   Mem H' w0 (fb gch 67 (eraF fc A' 1 a' B' 0 b' 1 K' kn' kc' gi' 0 P' 1 pc' sec.export_)::fb gi' 247 [.one (.int .i64 32),.one (.slice (some ⟨si',0,none⟩) 1 1)]::fb g26 28 (Cmt.cfd none 0 RA ra none 0 c3)::fb g12 28 zcF::fb ge 67 (eraF f (some ⟨ab,ao,none⟩) 1 a B 0 b 1 K kn kc gi 0 P 1 pc exp)::L) w')
  fc Pk (Chg.verV (privK 1)) X sec (ks.map Ky.kr) (by rw[hkl];exact hks) (by omega) hL5 hK6 hM
  (fun H' gch gi' si' A' a' B' b' K' kn' kc' P' pc' w' h1 _ _ h4=>⟨_,rfl,H',gch,gi',si',A',a',B',b',K',kn',kc',P',pc',rfl,h1,h4.sub⟩)
 rw[hkl]at hem
 refine La hM hem ?_
 clear hM hem
 rintro r w23 ⟨H6,gch,gi',si',A',a',B',b',K',kn',kc',P',pc',rfl,l6,hM⟩
 (((refine Ap trivial ?_;refine Ap trivial ?_;refine Bc hM ?_;clear hM;intro _ hM;refine Ab trivial ?_;refine Ab trivial ?_;refine An hM ?_;refine Ab ?_ ?_));(focus omega);((refine Ab trivial ?_;refine Ab trivial ?_;refine Az hM ?_;clear hM;intro _ hM;refine An hM ?_;refine Az hM ?_;clear hM;intro _ hM;refine Bz hM ?_)))
 exact hR H6 gch A' a' B' b' K' kn' kc' gi' P' pc' RA ra _ c3 fc sec.export_ (l1.trans (l2.trans (l3.trans (l4.trans (l5.trans l6))))) hcr3 (i1.trans hp0) (i2.trans hq0) (i3.trans hw0) hfcd hfci (hcF3.mono l6.le) hM.sub
end
end Go.Proofs.YtgbenhmdamnmcaaGreat
namespace Go.Proofs.YtgbenhmdamnmcaaGreat
open Go.Proofs.Tryz
open Go.RowKit Go.Lib
theorem aBp {H:Hp} {w:World} (hf:Fz H w):Calls prog 8 #[] w fun en w'=>en=.returned (.bool true)∧St w [] w':=by
 have hM:=Mem.start hf
 refine Sw ?_
 unfold Kb
 skip
 refine Gq hM (aNh hM.fz) ?_
 clear hM
 rintro H1 v w2 l1 hM ⟨A,c,ps,rfl,hA,hps⟩
 (((refine Ab ?_ ?_));(focus (simp only[and_true];omega));((refine Bl hM ?_ ?_));(focus (first|exact trivial|assumption|omega));((clear hM;intro _ hM)))
 refine Ej (aUx (RR:=fun en w'=>∃ v,en=.returned v∧∃ H' ge gi si A' a' B' b' K' kn kc' P' pc,∃ (f:Frm) (x ini exp:H32),v=.tuple #[.pointer (some ⟨ge,0,none⟩),.int .i64 0]∧Le w H1 H'∧f.depth=0∧Sl H' 97 A' [Lf.fds ⟨1,pubH (leafK 1 0),Chg.verV (privK 1),x⟩]∧Sl H' 34 (some ⟨si,0,none⟩) [Sd.fds ⟨0,0,ini⟩] ∧
   Mem H' w (fb ge 67 (eraF f A' 1 a' B' 0 b' 1 K' kn kc' gi 0 P' 1 pc exp)::fb gi 247 [.one (.int .i64 32),.one (.slice (some ⟨si,0,none⟩) 1 1)]::[]) w') (hset hzero 0 9) ps hA hps hM (fun H' ge gi si A' a' B' b' K' kn kc' P' pc w' f x ini exp h1 h2 h3 h4 h5=>⟨_,rfl,H',ge,gi,si,A',a',B',b',K',kn,kc',P',pc,f,x,ini,exp,rfl,h1,h2,h3,h4,h5⟩)) ?_
 clear hM
 rintro en w3 ⟨v,rfl,H2,ge,gi,si,A2,a2,B2,b2,K2,kn,kc,P2,pc,f,lx,ini,exp,rfl,l2,hf0,hL,hS,hM⟩
 (((refine Ab trivial ?_;refine Ab trivial ?_)))
 refine Gq hM (aNh hM.fz) ?_
 clear hM
 rintro H3 v w4 l3 hM ⟨A3,c3,ps3,rfl,-,-⟩
 (((refine Bl hM ?_ ?_));(focus (first|exact trivial|assumption|omega));((clear hM;intro _ hM;refine Ab ?_ ?_));(focus (simp only[and_true];omega)))
 refine Ej (aQo (H:=H3) (RR:=fun en w'=>∃ v,en=.returned v∧∃ H' gch A' a' B' b' K' kn' kc' gi' P' pc' RA ra,∃ (c:Cmt.Cm) (fc:Frm) (exp':H32),v=.tuple #[Cmt.cv none 0 RA ra none 0 c,.pointer (some ⟨gch,0,none⟩),.int .i64 0]∧Le w H3 H'∧c.right=true∧c.props=[]∧c.path=[]∧c.wels=[]∧fc.depth=1∧fc.id=Cmt.idC c∧Cmt.CmF H' none RA none [] c ∧
   Mem H' w (fb gch 67 (eraF fc A' 1 a' B' 0 b' 1 K' kn' kc' gi' 0 P' 1 pc' exp')::[]) w') f hf0 ini exp (hset hzero 0 8) (pubH (leafK 1 0)) lx (hL.mono l3.le) (hS.mono l3.le) hM
   (fun H' gch A' a' B' b' K' kn' kc' gi' P' pc' RA ra w' c fc exp' h1 h2 h3 h4 h5 h6 h7 h8 h9=>⟨_,rfl,H',gch,A',a',B',b',K',kn',kc',gi',P',pc',RA,ra,c,fc,exp',rfl,h1,h2,h3,h4,h5,h6,h7,h8,h9⟩)) ?_
 clear hM
 rintro en w5 ⟨v,rfl,H4,gch,A4,a4,B4,b4,K4,kn4,kc4,gi4,P4,pc4,RA,ra,c,fc,exp4,rfl,l4,hcr,hp0,hq0,hw0,hcd,hci,hcF,hM⟩
 ((((iterate 3 refine Ab trivial ?_);refine Bf hM ?_;clear hM;intro _ _ hM;refine Az hM ?_;clear hM;intro _ hM;refine Wo trivial ?_ ?_));(focus (first|assumption|omega|with_reducible rfl|exact fun h=>Bool.noConfusion h));((refine Bg ?_;refine Ba hM ?_;refine Ae ?_)))
 rename_i g3 _ _
 refine Cg hM (fun w hM=>Cmt.Ei hcF hM.fz) (fun w6 _ hM2=>?_)
 rw[hcr]
 have hM0:=hM
 replace hM:=hM2
 clear hM2
 (((refine Ap trivial ?_;refine Bg ?_;refine Ap trivial ?_;refine Bg ?_;refine Ba hM ?_;refine Bg ?_;refine Ap trivial ?_;refine Bg ?_;refine Ap trivial ?_;refine Bg ?_;refine Ba hM ?_;refine Bg ?_;refine Ap trivial ?_;refine Bg ?_)))
 rw[hq0,hw0]
 simp only[List.length_nil]
 (((refine Ap ?_ ?_));(focus omega);((refine Bg ?_;refine Ap trivial ?_;refine Bg ?_;refine Ba hM ?_;refine Bg ?_;refine Ap trivial ?_;refine Bg ?_)))
 rw[hp0]
 simp only[List.length_nil]
 (((refine Ap ?_ ?_));(focus omega);((refine Bg ?_;refine Wo trivial ?_ ?_));(focus (first|assumption|omega|with_reducible rfl|exact fun h=>Bool.noConfusion h));((refine Ap trivial ?_;refine Bg ?_;refine Ap trivial ?_;refine Bg ?_;refine Ap trivial ?_;refine Ap trivial ?_;refine Bg ?_;refine Ap trivial ?_;refine Bg ?_;refine Ap trivial ?_;refine Bg ?_;refine Ap trivial ?_;refine Bg ?_;refine Ap trivial ?_;refine Bg ?_;refine Ba hM ?_;refine Bg ?_;refine Wo trivial ?_ ?_));(focus (first|assumption|omega|with_reducible rfl|exact fun h=>Bool.noConfusion h));((refine Ap trivial ?_;refine Bg ?_;refine Ap trivial ?_;refine Bg ?_;refine Ap trivial ?_;refine Bg ?_;refine Ap trivial ?_;refine Bg ?_;refine Ap trivial ?_;refine Bg ?_;refine Ba hM ?_;refine Bg ?_;refine Ba hM ?_;refine Ae ?_)))
 refine Cg hM (fun w hM=>Cmt.aSz hcF hM.fz) (fun w7 _ hM2=>?_)
 rw[if_pos hcr,hci]
 replace hM:=hM2
 clear hM2
 (((refine Bg ?_;refine Wo trivial ?_ ?_));(focus (first|assumption|omega|with_reducible rfl|exact fun h=>Bool.noConfusion h));((refine Ap trivial ?_;refine Bc hM ?_;clear hM;intro _ hM)))
 simp only[decide_true,decide_eq_true_eq,true_and]
 exact hM.st
end Go.Proofs.YtgbenhmdamnmcaaGreat
namespace Go.Proofs.YtgbenhmdamnmcaaGreat.Cmt
open Go.Proofs.Tryz
open Go.RowKit Go.Proofs.YtgbenhmdamnmcaaGreat.Chg
end Go.Proofs.YtgbenhmdamnmcaaGreat.Cmt
namespace Go.Proofs.YtgbenhmdamnmcaaGreat.Cmt
open Go.Proofs.Tryz
open Go.RowKit Go.Proofs.YtgbenhmdamnmcaaGreat.Chg
end Go.Proofs.YtgbenhmdamnmcaaGreat.Cmt
namespace Go.Proofs.YtgbenhmdamnmcaaGreat.Cmt
open Go.Proofs.Tryz
open Go.RowKit Go.Lib Go.Proofs.YtgbenhmdamnmcaaGreat.Chg
end Go.Proofs.YtgbenhmdamnmcaaGreat.Cmt
namespace Go.Proofs.YtgbenhmdamnmcaaGreat.Cmt
open Go.Proofs.Tryz
open Go.RowKit Go.Lib Go.Proofs.YtgbenhmdamnmcaaGreat.Chg
section
variable {H:Hp} {w0 w:World} {L R:List Res} {P Q W:Option Addr} {qs:List (List Fd)} {c:Cm} {pc qc wc:Nat}
theorem aUz (x:ByteArray) (hx:x.size≤maxLen) (hf:Fz H w):Calls prog 6 #[.string x] w fun en w'=>en=.returned (.bool true)∧St w [] w':=by
 have hM:=Mem.start hf
 simp only[maxLen]at hx
 refine Lq ?_
 unfold Gh
 (((refine Ab trivial ?_)))
 (((refine Aw trivial ?_ ?_)))
 ·intro hgt
  (((refine Am ?_)))
  refine Bn hM (aBp hM.fz) (fun w2 hM2=>?_)
  replace hM:=hM2
  clear hM2
  skip
  exact⟨rfl,hM.st⟩
 intro hle
 obtain⟨s,hs⟩:∃ s:RdS,s=⟨ints x,0,Nb x,by rw[Bq];omega⟩:=⟨_,rfl⟩
 have hse:s.e=0:=by rw[hs]
 have hsl:strOfNums s.l=x:=by rw[hs];exact Ln x
 clear hs hx
 have hur:=fun h=>aOz (s:=s) h
 (((refine Aj ?_)))
 rw[← hsl]
 refine Gq hM (bAt hse hM.fz) ?_
 clear hM
 rintro H1 v w2 l1 hM ⟨P1,p1,Q1,q1,W1,v1,qs1,rfl,hc1⟩
 (((refine Ab trivial ?_;refine Ab trivial ?_;refine Bf hM ?_;clear hM;intro _ _ hM;refine Az hM ?_;clear hM;intro _ hM)))
 refine Gq hM (aXq hse hM.fz) ?_
 clear hM
 rintro H2 v w3 l2 hM ⟨P2,p2,Q2,q2,W2,v2,qs2,rfl,hc2⟩
 (((refine Ab trivial ?_;refine Ab trivial ?_;refine Bf hM ?_;clear hM;intro _ _ hM;refine Az hM ?_;clear hM;intro _ hM)))
 refine Bn hM (aBp hM.fz) (fun w4 hM2=>?_)
 replace hM:=hM2
 clear hM2
 (((refine Ae ?_;refine Ab trivial ?_;refine Ae ?_;refine Ab trivial ?_;refine Ae ?_;refine Bt trivial ?_ ?_));(focus (first|assumption|omega|with_reducible rfl|exact fun h=>Bool.noConfusion h));((refine Ab trivial ?_;refine Ae ?_;refine An hM ?_;refine Ae ?_;refine An hM ?_;refine Ae ?_)))
 refine Bn hM (aXr (hc1.mono l2.le) hc2 hM.fz) (fun w5 hM2=>?_)
 replace hM:=hM2
 clear hM2
 generalize cmU s=uu at *
 generalize strOfNums s.l=y at *
 obtain⟨c,e⟩:=uu
 dsimp only at *
 by_cases h0:e=0
 ·obtain⟨hr,hp⟩:=hur h0
  (((refine Ab trivial ?_;refine Ae ?_;refine Ab trivial ?_;refine Ae ?_;refine Bm trivial ?_ ?_));(focus (first|assumption|omega|with_reducible rfl|exact fun h=>Bool.noConfusion h));((refine Ae ?_;refine Ab trivial ?_;refine Ae ?_;refine An hM ?_;refine Ae ?_)))
  refine Bn hM (aHv (hc1.mono l2.le) hM.fz) (fun w6 hM2=>?_)
  rw[if_pos hr,hp]
  replace hM:=hM2
  clear hM2
  (((refine Ae ?_;refine Ab trivial ?_;refine Ae ?_;refine Bt trivial ?_ ?_));(focus (first|assumption|omega|with_reducible rfl|exact fun h=>Bool.noConfusion h));((refine Ae ?_;refine Ab trivial ?_;refine Ab trivial ?_)))
  exact⟨by simp,hM.st⟩
 ·(((refine Ab trivial ?_;refine Ae ?_;refine Ab trivial ?_;refine Ae ?_;refine Bt trivial ?_ ?_));(focus (first|assumption|omega|with_reducible rfl|exact fun h=>Bool.noConfusion h));((refine Ae ?_;refine Ab trivial ?_;(iterate 4 refine Av ?_);refine Ae ?_;refine Ab trivial ?_;refine Ab trivial ?_)))
  exact⟨rfl,hM.st⟩
end
end Go.Proofs.YtgbenhmdamnmcaaGreat.Cmt
namespace Go.Proofs.YtgbenhmdamnmcaaGreat
open Go.Proofs.Tryz
open Go.ChangeShapes Go.WideShapes Go.ChangeAt Go.RowKit
set_option linter.unusedVariables false
theorem bBs (n:Nat) (l:List Value):fl [.arr n l]=l:=by simp[fl,Fd.cells]
theorem own:ownKnob prog.godebug=none:=by kernel_rfl
theorem laidOut:laidOutB prog=true:=by kernel_rfl
set_option maxRecDepth 100000 in
theorem Sg (os:Os) (started:os.Started) (H:Type) (enc:TypeId × Value→H):
  ReturnsInHanded {} Tryz.checked os 6 .any (Rows.commitReadsSpec.pre6 enc prog Tryz.f6 Rows.commitReadsRow.domain false) (Rows.commitReadsSpec.post enc prog Tryz.f6 false true false false):=by
 refine returnsInHanded_of_change (C:=Tryz.checked) own started (by kernel_rfl) Tryz.func6
  (ChangeSpec.witness6 (enc:=enc) (C:=Tryz.checked) false ⟨#[],#[.string (ByteArray.mk #[])],[]⟩ 8 (by kernel_rfl) (by kernel_rfl) (by kernel_rfl) (by kernel_rfl)) ?_
 intro W base args ds gs before hval0 hW hcnd _
 have hval:∀ (j:Nat) t v,Tryz.f6.params[j]?=some t→args[j]?=some v→Value.okWide prog W .any base t v:=hval0
 have hW':=hW
 obtain⟨p,q,hA0,hV,rfl,hfz,hnd⟩:=hW
 have hA:DataW.TrodAll enc prog W 0 (fun _=>true) true Tryz.f6.params.toList args.toList ds p:=hA0
 rw[Tryz.params6]at hA hval
 obtain⟨v0,vs0,d0,ds0,p0,q0,hargs,rfl,rfl,h0,r0⟩:=trodAll_cons hA
 obtain⟨rfl,rfl,rfl⟩:=trodAll_nil r0
 obtain rfl:args=#[v0]:=by cases args;simp_all
 obtain⟨rfl,rfl⟩:=trodVars_none hV
 have k0:=h0
 have lt0:∀ x∈p0,x.block<W.heap.size:=by obtain⟨m,hm⟩:=k0;exact DataW.trod_lt m _ _ _ hm
 obtain⟨m0,hm0⟩:=h0
 obtain⟨fs0,x0,e0,ok0,-,hr0⟩:=(aVn Tryz.underlying9 (by kernel_rfl)).read enc W 0 _ _ m0 _ _ hm0
 obtain⟨rfl,hl0⟩:=hr0
 obtain rfl:=aVo (t:=9) (by kernel_rfl) (hval 0 9 v0 rfl rfl) e0
 clear hA0 hval0
 have hc:=Cmt.aUz x0 hl0 (Fz.of W)
 refine hc.mono fun e W' ⟨he,hst⟩=>?_
 subst he
 have bel:Below W.heap.size W W':=hst.only.below (Nat.le_refl _) (fun _ _ h=>by obtain⟨_,hb,_⟩:=h;cases hb)
 exact⟨_,rfl,_,_,_,[],_,[],hW',trodAll_mk1 (shut_bool Tryz.underlying4 _),(trodAll_cons_mk (Below.trod laidOut (by kernel_rfl) (of_decide_eq_true (by kernel_rfl)) k0 bel lt0) trodAll_mk0),rfl,bel.frame _,fun h=>by cases h⟩
theorem commitReads_proved:Rows.CommitReadsSaid:=
 OpenClaim.holds_of_wide 6 Tryz.f6 rfl rfl rfl rfl rfl rfl rfl ⟨rfl,rfl,rfl,rfl,rfl⟩ rfl rfl rfl rfl rfl (by kernel_rfl) Tryz.func6 (by kernel_rfl)
  (of_decide_eq_true (by kernel_rfl)) (by unfold Func.isWrapper;first|(rw[if_pos (by decide +kernel)];kernel_rfl)|(rw[if_neg (by decide +kernel)];exact⟨rfl,rfl⟩))
  (fun os started H enc _=>Sg os started H enc)
#print axioms commitReads_proved
end Go.Proofs.YtgbenhmdamnmcaaGreat
