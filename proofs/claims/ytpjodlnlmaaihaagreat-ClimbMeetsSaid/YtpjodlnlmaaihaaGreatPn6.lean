/- Part 6 of the proof. -/
import Derived.Test.YtpjodlnlmaaihaaGreatPn5
set_option linter.unusedVariables false
namespace Go.Proofs.YtpjodlnlmaaihaaGreat
open Go.RowKit Go.Lib
theorem trF_none (H:Hp):TrF H (tv none 0 0 none 0 0) Tr.none:=⟨⟨none,0,none,0,[],rfl,Sl.nil _ _ _,Sl.nil _ _ _,trivial⟩,by simp[Tr.none,maxLen]⟩
def gapL (t:Tr):List Lf:=if t.gap=t.ls.length then t.ls++[Lf.zero] else t.ls
theorem gapL_set (t:Tr) (l:Lf):(gapL t).set t.gap l=addL t l:=by
 unfold gapL addL
 by_cases h:t.gap=t.ls.length
 ·rw[if_pos h,if_pos h,h]
  simp
 ·rw[if_neg h,if_neg h]
theorem gapL_len (t:Tr) (l:Lf):(gapL t).length=(addL t l).length:=by
 rw[← gapL_set t l,List.length_set]
theorem onDir_get {f:Pn→Pn} {D:List Int} {ps:List Pn} {k:Nat} (hn:D.Nodup) (hD:∀ x∈D,x=2*(x / 2)+1∧0≤x / 2) (hk:2*(k:Int)+1∉D):(onDir f D ps)[k]?=ps[k]?:=by
 rw[onDir_eq hn hD,List.getElem?_mapIdx]
 simp only[if_neg hk]
 cases ps[k]? <;> rfl
theorem Tr.Rt.addPs_loose {t:Tr} (h:t.Rt):∀ p∈addPs t,p.loose.length≤64∧p.loose.Pairwise (·<·):=by
 intro p hp
 unfold addPs at hp
 split at hp
 ·rcases List.mem_append.1 hp with hp|hp
  ·exact h.loose p hp
  ·rw[List.mem_singleton.1 hp]
   exact⟨by simp[Pn.zero],.nil⟩
 ·exact h.loose p hp
theorem ins_len (l:List Int) (x:Int):(ins l x).length=l.length+1:=by
 have:bs' l x≤l.length:=List.findIdx_le_length
 unfold ins
 simp
 omega
section
variable {H:Hp} {w0 w:World} {L R:List Res} {A B C:Option Addr} {a b c n:Nat} {t:Tr} {qs ps:List (List Fd)}
theorem add_q {Q:Hp→Value→Prop} (l:Lf) (hq:∀ H' v1 r,t.addP l=r→TrF H' v1 r.1→Q H' (.tuple #[v1,.int .i64 r.2.1,.int .i64 r.2.2])) (h1:Sl H 97 A (t.ls.map Lf.fds)) (h2:Sl H 66 B qs) (h3:All2 (PnF H) qs t.ps) (hl:t.ls.length≤maxLen) (hp:t.ps.length≤maxLen) (hf:Fz H w):
  Calls Tryz.prog 10 #[tv A t.ls.length a B t.ps.length b,lv l] w (Outp H w Q):=by
 obtain⟨w1,hw1⟩:∃ w1,w1=w:=⟨_,rfl⟩
 rw[← hw1]
 rw[← hw1]at hf
 have hM:=Mem.start hf
 refine C_tree_Add ?_
 unfold F_tree_Add
 (((refine mm_box hM ?_;clear hM;intro _ _ hM;refine mm_box hM ?_;clear hM;intro _ _ hM;refine mm_new hM ?_;clear hM;intro _ _ hM)))
 rename_i g1 _ g2 _ g3 _
 refine⟨fun v w'=>v=.bool (decide (¬t.right=true∨l.name<1∨64<l.name))∧hM.now w',?_,?_⟩
 ·(((refine mm_ld hM ?_)))
  refine mm_pure hM (right_ok h1 h2 h3 hl hp hM.fz) (fun w hM=>?_)
  (((refine mop_c trivial ?_)))
  cases hr:t.right
  ·rw[Bool.not_false]
   ((((iterate 3 refine mguard_n1 ?_);refine mop_c trivial ?_;(iterate 3 refine mguard_n1 ?_);refine mop_c trivial ?_)))
   exact⟨by simp,hM.sub⟩
  ·rw[Bool.not_true]
   (((refine mguard_yes ?_;refine mop_c trivial ?_;refine mguard_yes ?_;refine mm_ld hM ?_;refine mguard_yes ?_)))
   (((refine mop_cS trivial ?_ ?_)))
   ·intro h
    (((refine mop_c trivial ?_;(iterate 3 refine mguard_n1 ?_);refine mop_c trivial ?_)))
    exact⟨by rw[decide_eq_true (.inr (.inl h))],hM.sub⟩
   ·intro h
    (((refine mop_c trivial ?_;refine mguard_yes ?_;refine mop_c trivial ?_;refine mguard_yes ?_;refine mm_ld hM ?_;refine mguard_yes ?_)))
    (((refine mop_cS trivial ?_ ?_)))
    ·intro h4
     (((refine mop_c trivial ?_)))
     exact⟨by rw[decide_eq_true (.inr (.inr h4))],hM.sub⟩
    ·intro h4
     (((refine mop_c trivial ?_)))
     exact⟨by rw[decide_eq_false (fun hh=>hh.elim (fun k=>k rfl) (fun k=>k.elim h h4))],hM.sub⟩
 rintro v u2 w2 ⟨rfl,hM⟩
 unfold Tr.addP at hq
 by_cases hc:¬t.right=true∨l.name<1∨64<l.name
 ·rw[if_pos hc]at hq
  rw[decide_eq_true hc]
  (((refine mif_true ?_;refine mop_c trivial ?_;refine mm_st hM ?_;clear hM;intro _ hM;refine rm_ld hM ?_)))
  exact hM.out (Le.refl _ _) (hq _ _ _ rfl (trF_none H))
 rw[if_neg hc]at hq
 rw[decide_eq_false hc]
 have hr:t.right=true:=Decidable.byContradiction fun h=>hc (.inl h)
 have hR:=Tr.rt.1 hr
 have hlen:=hR.len
 have hs:t.sound=t:=if_pos hr
 (((refine mif_false ?_;refine mm_ld hM ?_;refine mop_c trivial ?_;refine mm_ld hM ?_)))
 refine mm_pure hM (place_ok l.name h1 h2 h3 hl hp hM.fz) (fun w hM=>?_)
 rw[hs]
 skip
 (((refine mop_cS trivial ?_ ?_)))
 ·intro h
  have h':0≤t.place l.name:=by omega
  rw[if_pos h']at hq
  (((refine mif_true ?_;refine mop_c trivial ?_;refine mm_st hM ?_;clear hM;intro _ hM;refine rm_ld hM ?_)))
  exact hM.out (Le.refl _ _) (hq _ _ _ rfl (trF_none H))
 intro h
 rw[if_neg (show ¬0≤t.place l.name by omega)]at hq
 (((refine mif_false ?_;refine mm_ld hM ?_)))
 refine mm_own (clone_ok h1 h2 h3 (by omega) (by omega) (fun p hp=>by have:=(hR.loose p hp).1;omega) hM) ?_
 rintro v w' ⟨A',a',B',b',X,rfl,hX,hM⟩
 have hXl:X.length=t.ps.length:=by rw[← hX,List.length_map]
 (((refine mm_st hM ?_;clear hM;intro _ hM;refine mop_c trivial ?_;refine mm_ld hM ?_;refine mop_c trivial ?_)))
 refine mm_pure hM (index_ok (H:=Hp.of _) t.ls (by omega) (hM.reads (A:=A')) (Fz.of _)) (fun w hM=>?_)
 have hgl:=t.gap_le
 have hfx:fix (fun l=>decide (l=Lf.zero)) t.ls=if t.gap<t.ls.length then (t.gap:Int) else -1:=by
  unfold fix
  rw[hR.gap_eq]
 rw[hfx]
 have hM:=hM.at_ (fb g1 25 (tfd A' t.ls.length a' B' t.ps.length b'))
 refine⟨fun v w'=>¬(t.gap=t.ls.length∧t.gap=64)∧v=.int .i64 t.gap∧∃ A2 a2 B2 b2 m Y,Y.map (·.1)=addPs t∧Y.length=m∧Mem H w1 [fb g1 25 (tfd A2 (gapL t).length a2 B2 m b2),fb g2 40 l.fds,fb g3 25 (tfd none 0 0 none 0 0),rowR 40 97 A2 (gapL t).length a2 ((gapL t).map Lf.fds),rowR 69 66 B2 m b2 (Y.map xrow),allR Y] w',?_,?_⟩
 ·by_cases hgap:t.gap<t.ls.length
  ·rw[if_pos hgap]
   (((refine mop_cF trivial ?_ ?_));(focus (first|assumption|omega|with_reducible rfl|exact fun h=>Bool.noConfusion h));((refine mif_false ?_)))
   have e1:gapL t=t.ls:=if_neg (by omega)
   have e2:addPs t=t.ps:=if_neg (by omega)
   rw[e1,e2]
   exact⟨by omega,rfl,A',a',B',b',t.ps.length,X,hX,hXl,hM.sub⟩
  ·rw[if_neg hgap]
   have hge:t.gap=t.ls.length:=by omega
   have e1:gapL t=t.ls++[Lf.zero]:=if_pos hge
   (((refine mop_cT trivial ?_ ?_));(focus (first|assumption|omega|with_reducible rfl|exact fun h=>Bool.noConfusion h));((refine mif_true ?_;refine mop_c trivial ?_;refine mm_ld hM ?_;refine mop_c trivial ?_)))
   (((refine mop_cS trivial ?_ ?_)))
   ·intro hf
    rw[if_pos (by omega)]at hq
    (((refine mif_true ?_;refine mop_c trivial ?_;refine mm_st hM ?_;clear hM;intro _ hM;refine rm_ld hM ?_)))
    exact hM.out (Le.refl _ _) (hq _ _ _ rfl (trF_none H))
   ·intro hnf
    have hnf2:¬(t.gap=t.ls.length∧t.gap=64):=by omega
    (((refine mif_false ?_)))
    refine⟨fun w'=>∃ B2 b2 m Y,Y.map (·.1)=addPs t∧Y.length=m∧Mem H w1 [fb g1 25 (tfd A' t.ls.length a' B2 m b2),fb g2 40 l.fds,fb g3 25 (tfd none 0 0 none 0 0),rowR 40 97 A' t.ls.length a' (t.ls.map Lf.fds),rowR 69 66 B2 m b2 (Y.map xrow),allR Y] w',?_,?_⟩
    ·skip
     (((refine mop_cS trivial ?_ ?_)))
     ·intro hpos
      (((refine mif_true ?_;refine mop_c trivial ?_;refine mm_ld hM ?_;refine mop_c trivial ?_;refine mm_bsl hM ?_ ?_ ?_));(focus rfl);(focus (constructor <;> simp));((clear hM;intro _ _ hM;refine mm_appo hM ?_ ?_));(focus omega);((clear hM;intro _ _ _ hM;refine mop_c trivial ?_;refine mm_st hM ?_;clear hM;intro _ hM)))
      rename_i A3 c3 _ _
      have e2:addPs t=t.ps++[Pn.zero]:=if_pos ⟨hge,by omega⟩
      rw[← xrow0,show X.map xrow++[xrow x0]=(X++[x0]).map xrow by simp]at hM
      have h0:Mem H w1 (xres x0::_) _:=hM.row0 3 1
      have hM:Mem H w1 [allR X,xres x0,rowR 69 66 A3 (t.ps.length+1) c3 ((X++[x0]).map xrow),fb g1 25 (tfd A' t.ls.length a' A3 (t.ps.length+1) c3),rowR 40 97 A' t.ls.length a' (t.ls.map Lf.fds),fb g3 25 (tfd none 0 0 none 0 0),fb g2 40 l.fds] _:=h0.same
      exact⟨A3,c3,t.ps.length+1,X++[x0],by rw[e2,List.map_append,hX];rfl,by simp[hXl],hM.addk.same⟩
     ·intro hz
      (((refine mif_false ?_)))
      have e2:addPs t=t.ps:=if_neg (by omega)
      rw[e2]
      exact⟨B',b',t.ps.length,X,hX,hXl,hM.sub⟩
    ·clear hM
     rintro u3 w3 ⟨B2,b2,m,Y,hY,hYl,hM⟩
     (((refine mop_c trivial ?_;refine mm_ld hM ?_;refine mop_c trivial ?_;refine mm_bsl hM ?_ ?_ ?_));(focus rfl);(focus (constructor <;> simp));((clear hM;intro _ _ hM;refine mm_appo hM ?_ ?_));(focus omega);((clear hM;intro _ _ _ hM;refine mop_c trivial ?_;refine mm_st hM ?_;clear hM;intro _ hM)))
     rename_i A3 c3 _ _
     have e4:t.ls.length+1=(gapL t).length:=by rw[e1];simp
     have e5:t.ls.map Lf.fds++[[Fd.one (.int .i64 0),.arr 32 (u8s hzero.1),.arr 32 (u8s hzero.1),.arr 32 (u8s hzero.1)]]=(gapL t).map Lf.fds:=by
      rw[e1,List.map_append]
      rfl
     rw[e5,e4]at hM
     exact⟨hnf2,by rw[hge],A3,c3,B2,b2,m,Y,hY,hYl,hM.sub⟩
 clear hM
 rintro v u4 w4 ⟨hnf,rfl,A2,a2,B2,b2,m,Y,hY,hYl,hM⟩
 rw[if_neg hnf]at hq
 have hgn:=gapL_len t l
 have hgs:=gapL_set t l
 have hap:=addPs_len hR l
 have hln:(addL t l).length≤64∧t.gap<(addL t l).length:=by
  rw[addL_len]
  split <;> omega
 rw[← hY,List.length_map,hYl]at hap
 obtain⟨g4,rfl⟩:=(hM.up A2).rowAt ⟨.refl _⟩ (by omega)
 (((refine mop_c trivial ?_;refine mm_ld hM ?_;refine mm_ld hM ?_;refine mm_ixr hM ?_ ?_));(focus omega);((intro _ hA));(cases hA);((refine mm_str hM ?_ ?_));(focus omega);((clear hM;intro _ hM;refine mop_c trivial ?_;refine mm_ld hM ?_;refine mop_c trivial ?_)))
 rw[Int.toNat_natCast,← List.map_set,hgs,hgn]at hM
 rw[hgn]
 refine mm_call hM (bdirect_ok (addL t l).length t.gap (by omega) hM.fz) ?_
 rintro H1 v w5 l1 hM ⟨D,c,rfl,hD⟩
 have hdl:=dirL_len (addL t l).length t.gap
 have hdm:=fun x hx=>dir_mem (n:=(addL t l).length) (l:=t.gap) (x:=x) (by omega) hx
 have hnd:=dir_nodup (n:=(addL t l).length) (l:=t.gap) (by omega)
 generalize hDL:dirL (addL t l).length t.gap=DL at *
 (((refine mop_c trivial ?_)))
 refine⟨fun v w'=>∃ (i:Nat) (Z:List Xp) (H2:Hp),v=.int .i64 i∧i≤DL.length∧Z.map (·.1)=onDir (updA t.gap) (DL.take i) (Y.map (·.1))∧Z.length=m∧Le w1 H1 H2∧Mem H2 w1 [fb g1 25 (tfd (some ⟨g4,0,none⟩) (addL t l).length a2 B2 m b2),fb g2 40 l.fds,fb g3 25 (tfd none 0 0 none 0 0),rowR 40 97 (some ⟨g4,0,none⟩) (addL t l).length a2 ((addL t l).map Lf.fds),rowR 69 66 B2 m b2 (Z.map xrow),allR Z] w',fun v _=>match v with | .int _ k=>DL.length - k.toNat|_=>0,⟨0,Y,H1,rfl,by omega,rfl,hYl,Le.refl _ _,hM.same⟩,?_⟩
 clear hM
 rintro v u6 w6 ⟨i,Z,H2,rfl,hi,hZ,hZl,l2,hM⟩
 have hD:=hD.mono l2.le
 (((refine mop_cS trivial ?_ ?_)))
 ·intro hlt
  have hlt':i<DL.length:=by omega
  have hxm:=hdm DL[i] (List.getElem_mem _)
  have hk:(DL[i] / 2).toNat<Z.length:=by omega
  have hk2:(DL[i] / 2).toNat<(addPs t).length:=by rw[← hY,List.length_map];omega
  have hZk:Z[(DL[i] / 2).toNat].1=(addPs t)[(DL[i] / 2).toNat]:=by
   have e1:(Z.map (·.1))[(DL[i] / 2).toNat]?=(addPs t)[(DL[i] / 2).toNat]?:=by
    rw[hZ,hY]
    refine onDir_get (hnd.sublist (List.take_sublist _ _)) (fun y hy=>by have:=hdm y (List.mem_of_mem_take hy);omega) fun hm=>?_
    rw[show 2*(((DL[i] / 2).toNat:Nat):Int)+1=DL[i] by omega]at hm
    obtain⟨j,hj,e⟩:=List.getElem_of_mem hm
    rw[List.getElem_take]at e
    have:=(List.getElem_inj hnd).1 e
    simp at hj
    omega
   rw[List.getElem?_map,List.getElem?_eq_getElem hk,List.getElem?_eq_getElem hk2]at e1
   exact Option.some.inj e1
  obtain⟨hs1,hs2⟩:=hR.addPs_loose _ (List.getElem_mem hk2)
  rw[← hZk]at hs1 hs2
  (((refine mif_true ?_)))
  refine⟨fun w'=>∃ (Z':List Xp) (H3:Hp),Z'.map (·.1)=onDir (updA t.gap) (DL.take (i+1)) (Y.map (·.1))∧Z'.length=m∧Le w1 H1 H3∧Mem H3 w1 [fb g1 25 (tfd (some ⟨g4,0,none⟩) (addL t l).length a2 B2 m b2),fb g2 40 l.fds,fb g3 25 (tfd none 0 0 none 0 0),rowR 40 97 (some ⟨g4,0,none⟩) (addL t l).length a2 ((addL t l).map Lf.fds),rowR 69 66 B2 m b2 (Z'.map xrow),allR Z'] w',?_,?_⟩
  ·((refine mm_ixs ‹_› ?_ ?_ ?_);(focus (simp only[List.length_map];omega));(focus (simp only[List.length_map];first|done|omega));((intro _ _ hA));(cases hA);(refine mm_lds0 hM ‹_› (map_atI ?_) ?_);(focus omega);((refine mop_c trivial ?_;refine mm_ld hM ?_;refine mop_c ?_ ?_));(focus omega);((refine mm_ixr hM ?_ ?_));(focus omega);((intro _ hA));(cases hA);((refine mop_c trivial ?_;refine mop_c trivial ?_;refine mm_ldr hM (map_at ?_) ?_));(focus omega))
   cases hset:Z[(DL[i] / 2).toNat].1.set
   ·(((refine mif_false ?_)))
    refine⟨Z,H2,?_,hZl,l2,hM⟩
    rw[onDir_succ hlt',← hZ]
    refine List.ext_getElem (by simp) fun j h1 h2=>?_
    simp only[List.getElem_modify,List.getElem_map]
    split
    ·rename_i e
     subst e
     unfold updA
     rw[if_neg (by rw[hset];simp)]
    ·rfl
   ·have hM:=(hM.at_ (allR Z)).outk hk
    (((refine mif_true ?_;refine mop_c trivial ?_;refine mop_c trivial ?_;refine mm_ldr hM (map_at ?_) ?_));(focus omega))
    refine mm_own (Q:=fun v w'=>∃ bb,v=.tuple #[.int .i64 (bs' Z[(DL[i] / 2).toNat].1.loose t.gap),.bool bb]∧hM.now w') ((bsearch_ok (H:=Hp.of _) Z[(DL[i] / 2).toNat].1.loose t.gap hs2 (by omega) (hM.reads (A:=Z[(DL[i] / 2).toNat].2.1)) (Fz.of _)).mono ?_) ?_
    ·rintro e w' ⟨⟨bb,rfl⟩,hst⟩
     exact⟨_,rfl,bb,rfl,hM.call0 hst⟩
    rintro v w' ⟨bb,rfl,hM⟩
    ((((iterate 4 refine mop_c trivial ?_);refine mm_ldr hM (map_at ?_) ?_));(focus omega);((refine mm_bsl hM ?_ ?_ ?_));(focus rfl);(focus (constructor <;> simp));((clear hM;intro _ _ hM)))
    refine mm_own (insert_ok Z[(DL[i] / 2).toNat].1.loose (bs' Z[(DL[i] / 2).toNat].1.loose t.gap) t.gap List.findIdx_le_length (by omega) (hM.up Z[(DL[i] / 2).toNat].2.1)) ?_
    rintro v w' ⟨A5,c5,rfl,hM⟩
    (((refine mop_c trivial ?_;refine mop_c trivial ?_)))
    refine mm_stf hM (map_at hk) (fun w' hM=>?_)
    have hy:updA t.gap Z[(DL[i] / 2).toNat].1={ Z[(DL[i] / 2).toNat].1 with loose:=ins Z[(DL[i] / 2).toNat].1.loose t.gap }:=if_pos hset
    have hil:=ins_len Z[(DL[i] / 2).toNat].1.loose t.gap
    have hrow:xrow (updA t.gap Z[(DL[i] / 2).toNat].1,A5,c5)=[.one (.bool Z[(DL[i] / 2).toNat].1.set),.arr 32 (u8s Z[(DL[i] / 2).toNat].1.pub.1),.arr 32 (u8s Z[(DL[i] / 2).toNat].1.abv.1),.one (.slice A5 (Z[(DL[i] / 2).toNat].1.loose.length+1) c5)]:=by
     rw[hy]
     show [Fd.one (.bool Z[(DL[i] / 2).toNat].1.set),_,_,Fd.one (.slice A5 (ins Z[(DL[i] / 2).toNat].1.loose t.gap).length c5)]=_
     rw[hil]
    have hres:rowR 3 1 A5 (Z[(DL[i] / 2).toNat].1.loose.length+1) c5 (ints8 (Z[(DL[i] / 2).toNat].1.loose.take (bs' Z[(DL[i] / 2).toNat].1.loose t.gap)++(t.gap:Int)::Z[(DL[i] / 2).toNat].1.loose.drop (bs' Z[(DL[i] / 2).toNat].1.loose t.gap)))=xres (updA t.gap Z[(DL[i] / 2).toNat].1,A5,c5):=by
     rw[hy,← hil]
     rfl
    rw[← hrow,← List.map_set,hres]at hM
    have hM:=((hM.at_ (restR Z (DL[i] / 2).toNat)).at_ (xres (updA t.gap Z[(DL[i] / 2).toNat].1,A5,c5))).ink hk
    skip
    refine⟨Z.set (DL[i] / 2).toNat (updA t.gap Z[(DL[i] / 2).toNat].1,A5,c5),H2,?_,by simpa using hZl,l2,hM.same⟩
    rw[onDir_succ hlt',← hZ]
    refine List.ext_getElem (by simp) fun j h1 h2=>?_
    simp only[List.getElem_modify,List.getElem_map,List.getElem_set]
    split
    ·rename_i e
     subst e
     rfl
    ·rfl
  ·clear hM
   rintro u7 w7 ⟨Z',H3,hZ',hZl',l3,hM⟩
   (((refine mop_c ?_ ?_));(focus omega))
   exact⟨⟨i+1,Z',H3,rfl,by omega,hZ',hZl',l3,hM⟩,by simp only;omega⟩
 ·intro hge
  (((refine mif_false ?_;refine mm_ld hM ?_;refine mm_st hM ?_;clear hM;intro _ hM;refine rm_ld hM ?_)))
  rw[List.take_of_length_le (by omega),hY]at hZ
  rw[← hZl]at hM ⊢
  have hM:Mem H2 w1 [rowR 40 97 (some ⟨g4,0,none⟩) (addL t l).length a2 ((addL t l).map Lf.fds),rowR 69 66 B2 Z.length b2 (Z.map xrow),allR Z] _:=hM.sub
  obtain⟨H4,l4,hM,hT⟩:=hM.frzT (fun x hx=>by
   have hm:x.1∈onDir (updA t.gap) DL (addPs t):=hZ ▸ List.mem_map_of_mem hx
   rw[onDir_eq hnd fun y hy=>by have:=hdm y hy;omega]at hm
   obtain⟨k,hk,e⟩:=List.getElem_of_mem hm
   rw[List.getElem_mapIdx]at e
   have hk':k<(addPs t).length:=by simpa using hk
   have:=(hR.addPs_loose _ (List.getElem_mem hk')).1
   have h64:x.1.loose.length≤65:=by
    rw[← e]
    split
    ·unfold updA
     split
     ·rw[ins_len]
      omega
     ·omega
    ·omega
   simp only[maxLen]
   omega)
  refine hM.out ((l1.trans l2).trans l4) (hq _ _ _ rfl ?_)
  rw[hZ]at hT
  exact hT
end
end Go.Proofs.YtpjodlnlmaaihaaGreat
namespace Go.Proofs.YtpjodlnlmaaihaaGreat
open Go.RowKit Go.Lib
theorem onDir_mem {f:Pn→Pn} {P:Pn→Prop} (hf:∀ p,P p→P (f p)):∀ {D:List Int} {ps:List Pn},(∀ p∈ps,P p)→∀ p∈onDir f D ps,P p
 | [],_,h=>h
 | x::D,ps,h=>by
  refine onDir_mem hf (D:=D) (ps:=ps.modify (x / 2).toNat f) fun p hp=>?_
  obtain⟨i,hi,rfl⟩:=List.getElem_of_mem hp
  rw[List.getElem_modify]
  have hi':i<ps.length:=by simpa using hi
  split
  ·exact hf _ (h _ (List.getElem_mem hi'))
  ·exact h _ (List.getElem_mem hi')
theorem Tr.Rt.blank_loose {t:Tr} (h:t.Rt) {p:Int}:∀ q∈blankP t.size p t.ps,q.loose.length≤64:=
 onDir_mem (P:=fun q=>q.loose.length≤64) (fun _ _=>by simp[Pn.zero]) fun q hq=>(h.loose q hq).1
theorem Tr.body {t:Tr} {p:Int} (h:¬t.nobody p):0≤p∧p.toNat<t.ls.length∧p<t.ls.length:=by
 unfold Tr.nobody Tr.size at h
 omega
section
variable {H:Hp} {w0 w:World} {L R:List Res} {A B C:Option Addr} {a b c n:Nat} {t:Tr} {qs ps:List (List Fd)}
theorem remove_q {Q:Hp→Value→Prop} (p:Int) (hq:∀ H' v1 r,t.remP p=r→TrF H' v1 r.1→Q H' (.tuple #[v1,.int .i64 r.2])) (h1:Sl H 97 A (t.ls.map Lf.fds)) (h2:Sl H 66 B qs) (h3:All2 (PnF H) qs t.ps) (hl:t.ls.length≤maxLen) (hp:t.ps.length≤maxLen) (hf:Fz H w):
  Calls Tryz.prog 14 #[tv A t.ls.length a B t.ps.length b,.int .i64 p] w (Outp H w Q):=by
 obtain⟨w1,hw1⟩:∃ w1,w1=w:=⟨_,rfl⟩
 rw[← hw1]
 rw[← hw1]at hf
 have hM:=Mem.start hf
 refine C_tree_Remove ?_
 unfold F_tree_Remove
 unfold Tr.remP at hq
 (((refine mm_box hM ?_;clear hM;intro _ _ hM;refine mm_new hM ?_;clear hM;intro _ _ hM;refine mm_ld hM ?_)))
 rename_i g1 _ g2 _
 refine mm_pure hM (right_ok h1 h2 h3 hl hp hM.fz) (fun w hM=>?_)
 (((refine mop_c trivial ?_)))
 cases hr:t.right
 ·rw[if_pos (by rw[hr];simp)]at hq
  rw[Bool.not_false]
  (((refine mif_true ?_;refine mop_c trivial ?_;refine mm_st hM ?_;clear hM;intro _ hM;refine rm_ld hM ?_)))
  exact hM.out (Le.refl _ _) (hq _ _ _ rfl (trF_none H))
 rw[if_neg (by rw[hr];simp)]at hq
 have hR:=Tr.rt.1 hr
 have hlen:=hR.len
 rw[Bool.not_true]
 (((refine mif_false ?_;refine mm_ld hM ?_)))
 refine mm_pure hM (none_ok p h1 hl hM.fz) (fun w hM=>?_)
 by_cases hn:t.nobody p
 ·rw[if_pos hn]at hq
  rw[decide_eq_true hn]
  (((refine mif_true ?_;refine mop_c trivial ?_;refine mm_st hM ?_;clear hM;intro _ hM;refine rm_ld hM ?_)))
  exact hM.out (Le.refl _ _) (hq _ _ _ rfl (trF_none H))
 rw[if_neg hn]at hq
 rw[decide_eq_false hn]
 obtain⟨hb0,hb1,hb2⟩:=Tr.body hn
 (((refine mif_false ?_;refine mm_ld hM ?_)))
 refine mm_own (clone_ok h1 h2 h3 (by omega) (by omega) (fun p hp=>by have:=(hR.loose p hp).1;omega) hM) ?_
 rintro v w' ⟨A',a',B',b',X,rfl,hX,hM⟩
 have hXl:X.length=t.ps.length:=by rw[← hX,List.length_map]
 obtain⟨g4,rfl⟩:=hM.rowAt ⟨.refl _⟩ (by omega)
 (((refine mm_st hM ?_;clear hM;intro _ hM;refine mop_c trivial ?_;refine mm_ld hM ?_;refine mop_c trivial ?_;refine mm_ixr hM ?_ ?_));(focus omega);((intro _ hA));(cases hA);((refine mm_str hM ?_ ?_));(focus omega);((clear hM;intro _ hM;refine mm_ld hM ?_)))
 have hz:[Fd.one (.int .i64 0),.arr 32 (u8s hzero.1),.arr 32 (u8s hzero.1),.arr 32 (u8s hzero.1)]=Lf.zero.fds:=rfl
 rw[hz,← List.map_set]at hM
 have hsl:(t.ls.set p.toNat Lf.zero).length=t.ls.length:=List.length_set
 obtain⟨ls2,hls⟩:∃ ls2,t.ls.set p.toNat Lf.zero=ls2:=⟨_,rfl⟩
 rw[hls]at hM hsl hq
 rw[← hsl,← hXl]at hM
 have hM:Mem H w1 [rowR 40 97 (some ⟨g4,0,none⟩) ls2.length a' (ls2.map Lf.fds),rowR 69 66 B' X.length b' (X.map xrow),allR X,fb g1 25 (tfd (some ⟨g4,0,none⟩) ls2.length a' B' X.length b'),fb g2 25 (tfd none 0 0 none 0 0)] _:=hM.sub
 rw[← hsl,← hXl]
 refine mm_own (blank_ok (ls:=ls2) (X:=X) (p:=p) (by omega) (by omega) hM) ?_
 clear hM
 rintro v w5 ⟨H1,Y,rfl,hY,hYl,l1,hM⟩
 rw[hX]at hY
 (((refine mop_c trivial ?_;refine mm_ld hM ?_;refine mop_c trivial ?_)))
 refine⟨fun v w'=>∃ i:Nat,v=.int .i64 i∧i≤ls2.length∧keepN ls2 ls2.length=keepN ls2 i∧hM.now w',fun v _=>match v with | .int _ k=>k.toNat|_=>0,⟨ls2.length,rfl,by omega,rfl,hM⟩,?_⟩
 rintro v u6 w6 ⟨i,rfl,hi,hk,hM⟩
 obtain⟨-,ca1,-,-⟩:=(hM.up (some ⟨g4,0,none⟩)).rowLen ⟨.refl _⟩
 obtain⟨-,cb1,-,-⟩:=(hM.up B').rowLen ⟨.refl _⟩
 refine⟨fun w'=>0<i∧keepN ls2 i=keepN ls2 (i - 1)∧hM.now w',?_,?_⟩
 ·skip
  have hfin:keepN ls2 i=i→∀ w',Mem H1 w1 [rowR 40 97 (some ⟨g4,0,none⟩) ls2.length a' (ls2.map Lf.fds),rowR 69 66 B' X.length b' (Y.map xrow),allR Y] w'→Outp H w1 Q (.returned (.tuple #[.agg (fl (tfd (some ⟨g4,0,none⟩) (i:Int).toNat a' B' (if (i:Int) - 1<0 then 0 else (i:Int) - 1).toNat b')).toArray,.int .i64 0])) w':=fun hi2 w' hM=>by
   rw[hi2]at hk
   have hM:=hM.short (k:=i) (by omega)
   have hM:=(hM.up B').short (k:=i - 1) (by omega)
   have hM:=(hM.at_ (allR Y)).dropk (i - 1)
   have e1:(ls2.take i).length=i:=by rw[List.length_take];omega
   have e2:(Y.take (i - 1)).length=i - 1:=by rw[List.length_take];omega
   rw[← List.map_take,← List.map_take]at hM
   have hM:Mem H1 w1 [rowR 40 97 (some ⟨g4,0,none⟩) i a' ((ls2.take i).map Lf.fds),rowR 69 66 B' (i - 1) b' ((Y.take (i - 1)).map xrow),allR (Y.take (i - 1))] w':=hM.same
   have hM:Mem H1 w1 [rowR 40 97 (some ⟨g4,0,none⟩) (ls2.take i).length a' ((ls2.take i).map Lf.fds),rowR 69 66 B' (Y.take (i - 1)).length b' ((Y.take (i - 1)).map xrow),allR (Y.take (i - 1))] w':=by
    rw[e1,e2]
    exact hM
   obtain⟨H4,l4,hM,hT⟩:=hM.frzT (fun x hx=>by
    have hm:x.1∈blankP t.size p t.ps:=by
     have:x.1∈Y.map (·.1):=List.mem_map_of_mem (List.mem_of_mem_take hx)
     rw[hY,hsl]at this
     exact this
    have:=hR.blank_loose _ hm
    simp only[maxLen]
    omega)
   rw[e1,e2]at hT
   rw[Int.toNat_natCast,show(if (i:Int) - 1<0 then 0 else (i:Int) - 1).toNat=i - 1 by split <;> omega]
   refine hM.out (l1.trans l4) (hq _ _ _ rfl ?_)
   show TrF H4 _ (cut ls2 (blankP t.size p t.ps))
   unfold cut
   rw[hk]
   rw[List.map_take,hY,hsl]at hT
   exact hT
  (((refine mop_cS trivial ?_ ?_)))
  ·intro hpos
   have hix:((i:Int) - 1).toNat<ls2.length:=by omega
   have hna:=nameAt_at (ls:=ls2) (p:=(i:Int) - 1) (by omega) hix
   (((refine mguard_yes ?_;refine mop_c trivial ?_;refine mguard_yes ?_;refine mm_ld hM ?_;refine mguard_yes ?_;refine mop_c trivial ?_;refine mguard_yes ?_;refine mop_c ?_ ?_));(focus omega);((refine mguard_yes ?_;refine mm_ixr hM ?_ ?_));(focus omega);((intro _ hA));(cases hA);((refine mguard_yes ?_;refine mop_c trivial ?_;refine mguard_yes ?_;refine mm_ldr hM (map_at ?_) ?_));(focus omega);((refine mguard_yes ?_)))
   rw[← hna]
   have hkn:keepN ls2 i=if nameAt ls2 ((i:Int) - 1)=0 then keepN ls2 (i - 1) else i:=by
    cases i with
    | zero=>omega
    | succ i=>
     rw[keepN]
     simp
   (((refine mop_cS trivial ?_ ?_)))
   ·intro h0
    (((refine mop_c trivial ?_;refine mif_true ?_)))
    exact⟨by omega,by rw[hkn,if_pos h0],hM⟩
   ·intro h0
    rw[if_neg h0]at hkn
    (((refine mop_c trivial ?_;refine mif_false ?_;refine dp_c trivial ?_;refine dm_ld hM ?_;refine dp_c ?_ ?_));(focus omega);((refine dp_c trivial ?_;refine dm_ld hM ?_;refine dp_c ?_ ?_));(focus omega);((refine dp_c trivial ?_;refine dp_c ?_ ?_));(focus omega);((refine dp_c trivial ?_;refine dS_st hM ?_;clear hM;intro _ hM;refine dp_c trivial ?_;refine dS_st hM ?_;clear hM;intro _ hM;refine mm_end hM ?_;clear hM;intro _ hM;refine mm_ld hM ?_;refine mm_st hM ?_;clear hM;intro _ hM;refine rm_ld hM ?_)))
    exact hfin hkn _ hM.sub
  ·intro hz
   ((((iterate 8 refine mguard_n2 ?_);refine mop_c trivial ?_;refine mif_false ?_;refine dp_c trivial ?_;refine dm_ld hM ?_;refine dp_c ?_ ?_));(focus omega);((refine dp_c trivial ?_;refine dm_ld hM ?_;refine dp_c ?_ ?_));(focus omega);((refine dp_c trivial ?_;refine dp_c ?_ ?_));(focus omega);((refine dp_c trivial ?_;refine dS_st hM ?_;clear hM;intro _ hM;refine dp_c trivial ?_;refine dS_st hM ?_;clear hM;intro _ hM;refine mm_end hM ?_;clear hM;intro _ hM;refine mm_ld hM ?_;refine mm_st hM ?_;clear hM;intro _ hM;refine rm_ld hM ?_)))
   obtain rfl:i=0:=by omega
   exact hfin rfl _ hM.sub
 ·rintro u7 w7 ⟨hpos,hk2,hM⟩
  (((refine mop_c ?_ ?_));(focus omega))
  exact⟨⟨i - 1,by congr 1;omega,by omega,by rw[hk,hk2],hM⟩,by simp only;omega⟩
theorem renew_q {Q:Hp→Value→Prop} (p:Int) (pub:H32) (hq:∀ H' v1 r,t.renP p pub=r→TrF H' v1 r.1→Q H' (.tuple #[v1,.int .i64 r.2])) (h1:Sl H 97 A (t.ls.map Lf.fds)) (h2:Sl H 66 B qs) (h3:All2 (PnF H) qs t.ps) (hl:t.ls.length≤maxLen) (hp:t.ps.length≤maxLen) (hf:Fz H w):
  Calls Tryz.prog 15 #[tv A t.ls.length a B t.ps.length b,.int .i64 p,ha pub] w (Outp H w Q):=by
 obtain⟨w1,hw1⟩:∃ w1,w1=w:=⟨_,rfl⟩
 rw[← hw1]
 rw[← hw1]at hf
 have hM:=Mem.start hf
 refine C_tree_Renew ?_
 unfold F_tree_Renew
 unfold Tr.renP at hq
 (((refine mm_box hM ?_;clear hM;intro _ _ hM;refine mm_box hM ?_;clear hM;intro _ _ hM;refine mm_new hM ?_;clear hM;intro _ _ hM;refine mm_ld hM ?_)))
 rename_i g1 _ g5 _ g2 _
 refine mm_pure hM (right_ok h1 h2 h3 hl hp hM.fz) (fun w hM=>?_)
 (((refine mop_c trivial ?_)))
 cases hr:t.right
 ·rw[if_pos (by rw[hr];simp)]at hq
  rw[Bool.not_false]
  (((refine mif_true ?_;refine mop_c trivial ?_;refine mm_st hM ?_;clear hM;intro _ hM;refine rm_ld hM ?_)))
  exact hM.out (Le.refl _ _) (hq _ _ _ rfl (trF_none H))
 rw[if_neg (by rw[hr];simp)]at hq
 have hR:=Tr.rt.1 hr
 have hlen:=hR.len
 rw[Bool.not_true]
 (((refine mif_false ?_;refine mm_ld hM ?_)))
 refine mm_pure hM (none_ok p h1 hl hM.fz) (fun w hM=>?_)
 by_cases hn:t.nobody p
 ·rw[if_pos hn]at hq
  rw[decide_eq_true hn]
  (((refine mif_true ?_;refine mop_c trivial ?_;refine mm_st hM ?_;clear hM;intro _ hM;refine rm_ld hM ?_)))
  exact hM.out (Le.refl _ _) (hq _ _ _ rfl (trF_none H))
 rw[if_neg hn]at hq
 rw[decide_eq_false hn]
 obtain⟨hb0,hb1,hb2⟩:=Tr.body hn
 (((refine mif_false ?_;refine mm_ld hM ?_)))
 refine mm_own (clone_ok h1 h2 h3 (by omega) (by omega) (fun p hp=>by have:=(hR.loose p hp).1;omega) hM) ?_
 rintro v w' ⟨A',a',B',b',X,rfl,hX,hM⟩
 have hXl:X.length=t.ps.length:=by rw[← hX,List.length_map]
 obtain⟨g4,rfl⟩:=hM.rowAt ⟨.refl _⟩ (by omega)
 obtain⟨l0,hl0⟩:∃ l0,t.ls[p.toNat]=l0:=⟨_,rfl⟩
 have hk0:(t.ls.map Lf.fds)[p.toNat]?=some l0.fds:=by rw[← hl0];exact map_at hb1
 (((refine mm_st hM ?_;clear hM;intro _ hM;refine mop_c trivial ?_;refine mm_ld hM ?_;refine mm_ld hM ?_;refine mm_ixr hM ?_ ?_));(focus omega);((intro _ hA));(cases hA);((refine mop_c trivial ?_)))
 refine mm_stf hM hk0 (fun w' hM=>?_)
 have hz:[Fd.one (.int .i64 l0.name),.arr 32 (u8s pub.1),.arr 32 (u8s l0.ver.1),.arr 32 (u8s l0.abv.1)]=(l0.key pub l0.abv).fds:=rfl
 rw[hz]at hM
 have hk1:((t.ls.map Lf.fds).set p.toNat (l0.key pub l0.abv).fds)[p.toNat]?=some (l0.key pub l0.abv).fds:=by
  rw[List.getElem?_set_self (by simpa using hb1)]
 (((refine mop_c trivial ?_;refine mm_ld hM ?_;refine mop_c trivial ?_;refine mm_ixr hM ?_ ?_));(focus omega);((intro _ hA));(cases hA);((refine mop_c trivial ?_)))
 refine mm_stf hM hk1 (fun w' hM=>?_)
 have hz2:[Fd.one (.int .i64 l0.name),.arr 32 (u8s pub.1),.arr 32 (u8s l0.ver.1),.arr 32 (u8s hzero.1)]=(l0.key pub hzero).fds:=rfl
 have hz3:[Fd.one (.int .i64 (l0.key pub l0.abv).name),.arr 32 (u8s (l0.key pub l0.abv).pub.1),.arr 32 (u8s (l0.key pub l0.abv).ver.1),.arr 32 (u8s hzero.1)]=(l0.key pub hzero).fds:=rfl
 rw[hz3,List.set_set,← List.map_set]at hM
 have hmod:t.ls.set p.toNat (l0.key pub hzero)=t.ls.modify p.toNat (·.key pub hzero):=by
  refine List.ext_getElem (by simp) fun i k1 k2=>?_
  simp only[List.getElem_modify,List.getElem_set]
  split
  ·rename_i e
   subst e
   rw[hl0]
  ·rfl
 rw[hmod]at hM
 have hsl:(t.ls.modify p.toNat (·.key pub hzero)).length=t.ls.length:=List.length_modify ..
 obtain⟨ls2,hls⟩:∃ ls2,t.ls.modify p.toNat (·.key pub hzero)=ls2:=⟨_,rfl⟩
 rw[hls]at hM hsl hq
 rw[← hsl,← hXl]at hM
 (((refine mm_ld hM ?_)))
 have hM:Mem H w1 [rowR 40 97 (some ⟨g4,0,none⟩) ls2.length a' (ls2.map Lf.fds),rowR 69 66 B' X.length b' (X.map xrow),allR X,fb g1 25 (tfd (some ⟨g4,0,none⟩) ls2.length a' B' X.length b'),fb g2 25 (tfd none 0 0 none 0 0)] _:=hM.sub
 refine mm_own (blank_ok (ls:=ls2) (X:=X) (p:=p) (by omega) (by omega) hM) ?_
 clear hM
 rintro v w5 ⟨H1,Y,rfl,hY,hYl,l1,hM⟩
 rw[hX]at hY
 (((refine mm_ld hM ?_;refine mm_st hM ?_;clear hM;intro _ hM;refine rm_ld hM ?_)))
 rw[← hYl]at hM
 have hM:Mem H1 w1 [rowR 40 97 (some ⟨g4,0,none⟩) ls2.length a' (ls2.map Lf.fds),rowR 69 66 B' Y.length b' (Y.map xrow),allR Y] _:=hM.sub
 obtain⟨H4,l4,hM,hT⟩:=hM.frzT (fun x hx=>by
  have hm:x.1∈blankP t.size p t.ps:=by
   have:x.1∈Y.map (·.1):=List.mem_map_of_mem hx
   rw[hY,hsl]at this
   exact this
  have:=hR.blank_loose _ hm
  simp only[maxLen]
  omega)
 rw[hYl]at hT
 refine hM.out (l1.trans l4) (hq _ _ _ rfl ?_)
 rw[hY,hsl]at hT
 rw[hsl]
 exact hT
end
end Go.Proofs.YtpjodlnlmaaihaaGreat
namespace Go.Proofs.YtpjodlnlmaaihaaGreat
open Go.RowKit Go.Lib
end Go.Proofs.YtpjodlnlmaaihaaGreat
namespace Go.Proofs.YtpjodlnlmaaihaaGreat
open Go.RowKit Go.Lib
theorem Mem.join {H H':Hp} {w0 w w':World} {L L':List Res} (h:Mem H w0 L w) (hc:Mem H' w L' w') (hn:∀ b,b<w.heap.size→H b=none→H' b=none):Mem H' w0 (L'++L) w':=by
 obtain⟨B,hl,hs,hb⟩:=h.own
 obtain⟨B1,hl1,hs1,hb1⟩:=hc.own
 refine⟨⟨B1++B,Hl.app.2 ⟨B1,B,rfl,hl1,hl⟩,?_,fun b hm=>?_⟩,hc.fz⟩
 ·exact St.call (A:=[]) (B':=B1) hs hs1 rfl rfl rfl (fun b hm=>.inl (hb1 b hm).1) (fun b hm hn=>.inr ⟨b,hm,hn,rfl⟩) (fun _ hm=>by cases hm)
 ·rcases List.mem_append.1 hm with hm|hm
  ·exact hb1 b hm
  ·exact⟨(hb b hm).1,hn _ (hs.own b hm).lt (hb b hm).2⟩
theorem putL_nil (x:Int):putL [] x=[x]:=rfl
theorem putL_cons (y:Int) (r:List Int) (x:Int):putL (y::r) x=if y≤x then y::putL r x else x::y::r:=by
 unfold putL
 rw[List.takeWhile_cons,List.dropWhile_cons]
 by_cases h:y≤x
 ·rw[decide_eq_true h,if_pos h]
  rfl
 ·rw[decide_eq_false h,if_neg h]
  rfl
end Go.Proofs.YtpjodlnlmaaihaaGreat
namespace Go.Proofs.YtpjodlnlmaaihaaGreat
open Go.RowKit Go.Lib
theorem Mem.weak {H H':Hp} {w0 w:World} {L:List Res} (h:Mem H' w0 L w) (hl:H.le H'):Mem H w0 L w:=by
 obtain⟨B,h1,h2,h3⟩:=h.own
 refine⟨⟨B,h1,h2,fun b hm=>⟨(h3 b hm).1,?_⟩⟩,h.fz.mono hl⟩
 cases hh:H b.g with
 | none=>rfl
 | some c=>
  have:=hl _ _ hh
  rw[(h3 b hm).2]at this
  cases this
end Go.Proofs.YtpjodlnlmaaihaaGreat
namespace Go.Proofs.YtpjodlnlmaaihaaGreat
open Go.RowKit Go.Lib
theorem lf_eq (l m:Lf):l=m↔(l.name=m.name∧l.pub=m.pub∧l.ver=m.ver∧l.abv=m.abv):=by
 cases l
 cases m
 simp
def addF (n x:Int) (i:Nat) (p:Pn):Pn:=if p.set=true∧hld n (2*i+1) x then { p with loose:=putL p.loose x } else p
def gapM (t:Tr) (l:Lf):List Lf:=if t.gap=t.ls.length then t.ls++[l] else t.ls
theorem gapM_set (t:Tr) (l:Lf):(gapM t l).set t.gap l=addL t l:=rfl
theorem gapM_len (t:Tr) (l:Lf):(gapM t l).length=(addL t l).length:=by
 rw[← gapM_set t l,List.length_set]
section
variable {H:Hp} {w0 w:World} {L R:List Res} {A B C:Option Addr} {a b c n:Nat} {t:Tr} {qs ps:List (List Fd)}
theorem tsame_ok {v1 v2:Value} {t1 t2:Tr} (h1:TrF H v1 t1) (h2:TrF H v2 t2) (hf:Fz H w):
  Calls Tryz.prog 21 #[v1,v2] w fun en w'=>en=.returned (.bool (decide (t1=t2)))∧St w [] w':=by
 obtain⟨A1,a1,B1,b1,q1,rfl,hA1,hB1,hP1⟩:=h1.ex
 obtain⟨A2,a2,B2,b2,q2,rfl,hA2,hB2,hP2⟩:=h2.ex
 obtain⟨m1,m2⟩:=h1.len
 obtain⟨m3,m4⟩:=h2.len
 simp only[maxLen]at m1 m2 m3 m4
 have hM:=Mem.start hf
 refine C_bevyref08_Same ?_
 unfold F_bevyref08_Same
 (((refine mm_box hM ?_;clear hM;intro _ _ hM;refine mm_box hM ?_;clear hM;intro _ _ hM)))
 rename_i g1 _ g2 _
 refine⟨fun v w'=>v=.bool (!decide (t1.ls.length=t2.ls.length∧t1.ps.length=t2.ps.length))∧hM.now w',?_,?_⟩
 ·(((refine mop_c trivial ?_;refine mm_ld hM ?_;refine mop_c trivial ?_;refine mop_c trivial ?_;refine mm_ld hM ?_;refine mop_c trivial ?_)))
  (((refine mop_cS trivial ?_ ?_)))
  ·intro h
   ((((iterate 7 refine mguard_n1 ?_);refine mop_c trivial ?_)))
   exact⟨by rw[decide_eq_false (by omega)];rfl,hM⟩
  ·intro h
   (((refine mguard_yes ?_;refine mop_c trivial ?_;refine mguard_yes ?_;refine mm_ld hM ?_;refine mguard_yes ?_;refine mop_c trivial ?_;refine mguard_yes ?_;refine mop_c trivial ?_;refine mguard_yes ?_;refine mm_ld hM ?_;refine mguard_yes ?_;refine mop_c trivial ?_;refine mguard_yes ?_)))
   (((refine mop_cS trivial ?_ ?_)))
   ·intro h4
    (((refine mop_c trivial ?_)))
    exact⟨by rw[decide_eq_false (by omega)];rfl,hM⟩
   ·intro h4
    (((refine mop_c trivial ?_)))
    exact⟨by rw[decide_eq_true (by omega)];rfl,hM⟩
 rintro v u w2 ⟨rfl,hM⟩
 by_cases hc:t1.ls.length=t2.ls.length∧t1.ps.length=t2.ps.length
 case neg=>
  rw[decide_eq_false hc]
  (((refine mif_nf ?_)))
  exact⟨by rw[decide_eq_false (show ¬t1=t2 from fun e=>hc (by rw[e];exact⟨rfl,rfl⟩))],hM.st⟩
 rw[decide_eq_true hc]
 obtain⟨hc1,hc2⟩:=hc
 have hq1:=hP1.len
 have hq2:=hP2.len
 (((refine mif_nt ?_)))
 refine⟨fun v w'=>∃ i:Nat,v=.int .i64 i∧i≤t1.ls.length∧t1.ls.take i=t2.ls.take i∧hM.now w',fun v _=>match v with | .int _ k=>t1.ls.length - k.toNat|_=>0,⟨0,rfl,by omega,by simp,hM⟩,?_⟩
 rintro v u w3 ⟨i,rfl,hi,he,hM⟩
 (((refine mop_c trivial ?_;refine mm_ld hM ?_;refine mop_c trivial ?_)))
 (((refine mop_cS trivial ?_ ?_)))
 ·intro hlt
  have k1:i<t1.ls.length:=by omega
  have k2:i<t2.ls.length:=by omega
  (((refine mif_true ?_;refine dp_c trivial ?_;refine dm_ld hM ?_));(refine dp_ixs ‹_› ?_ ?_ ?_);(focus (simp only[List.length_map];omega));(focus (simp only[List.length_map];first|done|omega));((intro _ _ hA));(cases hA);(refine dm_lds0 hM ‹_› (map_atI ?_) ?_);(focus omega);((refine dp_c trivial ?_;refine dm_ld hM ?_));(refine dp_ixs ‹_› ?_ ?_ ?_);(focus (simp only[List.length_map];omega));(focus (simp only[List.length_map];first|done|omega));((intro _ _ hA));(cases hA);(refine dm_lds0 hM ‹_› (map_atI ?_) ?_);(focus omega))
  (((refine dp_cS trivial ?_ ?_)))
  ·intro hne
   (((refine mm_end hM ?_;clear hM;intro _ hM;refine mif_true ?_)))
   refine⟨?_,hM.st⟩
   rw[decide_eq_false]
   rintro rfl
   exact hne ⟨rfl,rfl,rfl,rfl⟩
  ·intro heq
   (((refine mm_end hM ?_;clear hM;intro _ hM;refine mif_false ?_;refine mop_c ?_ ?_));(focus omega))
   refine⟨⟨i+1,rfl,by omega,?_,hM⟩,by simp only;omega⟩
   rw[List.take_succ_eq_append_getElem k1,List.take_succ_eq_append_getElem k2,he,(lf_eq t1.ls[i] t2.ls[i]).2 (Decidable.not_not.1 heq)]
 ·intro hge
  obtain rfl:i=t1.ls.length:=by omega
  have hls:t1.ls=t2.ls:=by
   rw[List.take_length,hc1,List.take_length]at he
   exact he
  (((refine mif_false ?_)))
  refine⟨fun v w'=>∃ j:Nat,v=.int .i64 j∧j≤t1.ps.length∧t1.ps.take j=t2.ps.take j∧Mem H w [fb g2 25 (tfd A2 t2.ls.length a2 B2 t2.ps.length b2),fb g1 25 (tfd A1 t1.ls.length a1 B1 t1.ps.length b1)] w',fun v _=>match v with | .int _ k=>t1.ps.length - k.toNat|_=>0,⟨0,rfl,by omega,by simp,hM⟩,?_⟩
  clear hM
  rintro v u w4 ⟨j,rfl,hj,hej,hM⟩
  (((refine mop_c trivial ?_;refine mm_ld hM ?_;refine mop_c trivial ?_)))
  (((refine mop_cS trivial ?_ ?_)))
  ·intro hlt
   have k1:j<t1.ps.length:=by omega
   have k2:j<t2.ps.length:=by omega
   obtain⟨x,hx1,C,c,rfl,hC,hcl⟩:=hP1.at_ (i:=j) k1
   obtain⟨y,hy1,D,d,rfl,hD,hdl⟩:=hP2.at_ (i:=j) k2
   obtain⟨p,hp⟩:∃ p,t1.ps[j]=p:=⟨_,rfl⟩
   obtain⟨q,hq⟩:∃ q,t2.ps[j]=q:=⟨_,rfl⟩
   rw[hp]at hx1 hC hcl
   rw[hq]at hy1 hD hdl
   have hstep:p=q→t1.ps.take (j+1)=t2.ps.take (j+1):=fun e=>by
    rw[List.take_succ_eq_append_getElem k1,List.take_succ_eq_append_getElem k2,hej,hp,hq,e]
   have hdiff:p≠q→¬t1=t2:=fun e h=>by
    subst h
    exact e (hp.symm.trans hq)
   (((refine mif_true ?_;refine mop_c trivial ?_;refine mm_ld hM ?_)))
   refine mm_ixs hB1 (by omega) hq1.symm (fun bb oo hB=>?_)
   cases hB
   refine mm_lds0 hM hB1 hx1 ?_
   (((refine mm_new hM ?_;clear hM;intro _ _ hM;refine mm_st hM ?_;clear hM;intro _ hM;refine mop_c trivial ?_;refine mm_ld hM ?_)))
   refine mm_ixs hB2 (by omega) hq2.symm (fun bb2 oo2 hB=>?_)
   cases hB
   refine mm_lds0 hM hB2 hy1 ?_
   (((refine mm_new hM ?_;clear hM;intro _ _ hM;refine mm_st hM ?_;clear hM;intro _ hM)))
   refine⟨fun v w'=>v=.bool (!decide (p=q))∧hM.now w',?_,?_⟩
   ·(((refine mop_c trivial ?_;refine mm_ld hM ?_;refine mop_c trivial ?_;refine mm_ld hM ?_)))
    (((refine mop_cS trivial ?_ ?_)))
    ·intro h
     ((((iterate 5 refine mguard_n1 ?_);refine mop_c trivial ?_;(iterate 5 refine mguard_n1 ?_);refine mop_c trivial ?_;(iterate 6 refine mguard_n1 ?_);refine mop_c trivial ?_)))
     exact⟨by rw[decide_eq_false (fun e=>h (by rw[e]))];rfl,hM⟩
    ·intro h
     (((refine mguard_yes ?_;refine mop_c trivial ?_;refine mguard_yes ?_;refine mm_ld hM ?_;refine mguard_yes ?_;refine mop_c trivial ?_;refine mguard_yes ?_;refine mm_ld hM ?_;refine mguard_yes ?_)))
     (((refine mop_cS trivial ?_ ?_)))
     ·intro h2
      (((refine mop_c trivial ?_;(iterate 5 refine mguard_n1 ?_);refine mop_c trivial ?_;(iterate 6 refine mguard_n1 ?_);refine mop_c trivial ?_)))
      exact⟨by rw[decide_eq_false (fun e=>h2 (by rw[e]))];rfl,hM⟩
     ·intro h2
      (((refine mop_c trivial ?_;refine mguard_yes ?_;refine mop_c trivial ?_;refine mguard_yes ?_;refine mm_ld hM ?_;refine mguard_yes ?_;refine mop_c trivial ?_;refine mguard_yes ?_;refine mm_ld hM ?_;refine mguard_yes ?_)))
      (((refine mop_cS trivial ?_ ?_)))
      ·intro h3
       (((refine mop_c trivial ?_;(iterate 6 refine mguard_n1 ?_);refine mop_c trivial ?_)))
       exact⟨by rw[decide_eq_false (fun e=>h3 (by rw[e]))];rfl,hM⟩
      ·intro h3
       (((refine mop_c trivial ?_;refine mguard_yes ?_;refine mop_c trivial ?_;refine mguard_yes ?_;refine mm_ld hM ?_;refine mguard_yes ?_;refine mop_c trivial ?_;refine mguard_yes ?_;refine mm_ld hM ?_;refine mguard_yes ?_)))
       refine mm_own (Q:=fun v w'=>v=.bool (decide (p.loose=q.loose))∧hM.now w') ((rsame_ok p.loose q.loose hcl hC hD hM).mono fun e w' ⟨h1,h2⟩=>⟨_,h1,rfl,h2⟩) ?_
       rintro v w' ⟨rfl,hM⟩
       by_cases h4:p.loose=q.loose
       ·rw[decide_eq_true h4]
        (((refine mguard_yes ?_;refine mop_c trivial ?_;refine mop_c trivial ?_)))
        refine⟨?_,hM⟩
        rw[decide_eq_true]
        ·rfl
        ·have e1:=Decidable.not_not.1 h
         have e2:=Decidable.not_not.1 h2
         have e3:=Decidable.not_not.1 h3
         cases p
         cases q
         simp only at e1 e2 e3 h4
         rw[e1,e2,e3,h4]
       ·rw[decide_eq_false h4]
        (((refine mguard_yes ?_;refine mop_c trivial ?_;refine mop_c trivial ?_)))
        exact⟨by rw[decide_eq_false (fun e=>h4 (by rw[e]))];rfl,hM⟩
   rintro v u5 w5 ⟨rfl,hM⟩
   by_cases hpq:p=q
   ·rw[decide_eq_true hpq]
    (((refine mif_nt ?_;refine mop_c ?_ ?_));(focus omega))
    exact⟨⟨j+1,rfl,by omega,hstep hpq,hM.sub⟩,by simp only;omega⟩
   ·rw[decide_eq_false hpq]
    (((refine mif_nf ?_)))
    exact⟨by rw[decide_eq_false (hdiff hpq)],hM.st⟩
  ·intro hge
   obtain rfl:j=t1.ps.length:=by omega
   (((refine mif_false ?_)))
   refine⟨?_,hM.st⟩
   rw[List.take_length,hc2,List.take_length]at hej
   rw[decide_eq_true]
   cases t1
   cases t2
   simp only at hls hej
   rw[hls,hej]
end
end Go.Proofs.YtpjodlnlmaaihaaGreat
namespace Go.Proofs.YtpjodlnlmaaihaaGreat
open Go.RowKit Go.Lib
section
variable {H:Hp} {w0 w:World} {L R:List Res} {v:Value} {t:Tr}
theorem right_c (h:TrF H v t) (hf:Fz H w):Calls Tryz.prog 24 #[v] w fun en w'=>en=.returned (.bool t.right)∧St w [] w':=by
 obtain⟨A,a,B,b,q,rfl,h1,h2,h3⟩:=h.ex
 exact right_ok h1 h2 h3 h.len.1 h.len.2 hf
theorem add_c (l:Lf) (h:TrF H v t) (hf:Fz H w):Calls Tryz.prog 10 #[v,lv l] w (Outp H w fun H' r=>∃ v1,r=.tuple #[v1,.int .i64 (t.addP l).2.1,.int .i64 (t.addP l).2.2]∧TrF H' v1 (t.addP l).1):=by
 obtain⟨A,a,B,b,q,rfl,h1,h2,h3⟩:=h.ex
 exact add_q l (fun H' v1 r e k=>by rw[e];exact⟨v1,rfl,k⟩) h1 h2 h3 h.len.1 h.len.2 hf
theorem remove_c (p:Int) (h:TrF H v t) (hf:Fz H w):Calls Tryz.prog 14 #[v,.int .i64 p] w (Outp H w fun H' r=>∃ v1,r=.tuple #[v1,.int .i64 (t.remP p).2]∧TrF H' v1 (t.remP p).1):=by
 obtain⟨A,a,B,b,q,rfl,h1,h2,h3⟩:=h.ex
 exact remove_q p (fun H' v1 r e k=>by rw[e];exact⟨v1,rfl,k⟩) h1 h2 h3 h.len.1 h.len.2 hf
theorem renew_c (p:Int) (pub:H32) (h:TrF H v t) (hf:Fz H w):Calls Tryz.prog 15 #[v,.int .i64 p,ha pub] w (Outp H w fun H' r=>∃ v1,r=.tuple #[v1,.int .i64 (t.renP p pub).2]∧TrF H' v1 (t.renP p pub).1):=by
 obtain⟨A,a,B,b,q,rfl,h1,h2,h3⟩:=h.ex
 exact renew_q p pub (fun H' v1 r e k=>by rw[e];exact⟨v1,rfl,k⟩) h1 h2 h3 h.len.1 h.len.2 hf
end
end Go.Proofs.YtpjodlnlmaaihaaGreat
namespace Go.Proofs.YtpjodlnlmaaihaaGreat
open Go.RowKit Go.Lib
end Go.Proofs.YtpjodlnlmaaihaaGreat
namespace Go.Proofs.YtpjodlnlmaaihaaGreat
open Go.RowKit
set_option maxRecDepth 100000 in
theorem lr_fin:∀ n:Fin 65,∀ x:Fin 127,thr (n.val:Int) (x.val:Int)→x.val%2=1 →
  (thr (n.val:Int) (lf n.val x.val)∧thr (n.val:Int) (rt n.val x.val))∧(level (lf n.val x.val)<level x.val∧level (rt n.val x.val)<level x.val)∧(fro n.val (lf n.val x.val)=fro n.val x.val∧til n.val (lf n.val x.val)=fro n.val (rt n.val x.val)∧til n.val (rt n.val x.val)=til n.val x.val) ∧
  (bs n.val (lf n.val x.val)=rt n.val x.val∧bs n.val (rt n.val x.val)=lf n.val x.val):=by decide +kernel
set_option maxRecDepth 100000 in
theorem up_lr_fin:∀ n:Fin 65,∀ x:Fin 127,thr (n.val:Int) (x.val:Int)→0≤ab n.val x.val→ab n.val x.val%2=1∧((x.val:Int)=lf n.val (ab n.val x.val)∨(x.val:Int)=rt n.val (ab n.val x.val)):=by decide +kernel
set_option maxRecDepth 100000 in
theorem even_fin:∀ n:Fin 65,∀ x:Fin 127,thr (n.val:Int) (x.val:Int)→x.val%2=0→level x.val=0∧fro n.val x.val=x.val / 2∧til n.val x.val=x.val / 2+1:=by decide +kernel
theorem lr_eq {n x:Int} (h:thr n x) (ho:x%2=1):(thr n (lf n x)∧thr n (rt n x))∧(level (lf n x)<level x∧level (rt n x)<level x)∧(fro n (lf n x)=fro n x∧til n (lf n x)=fro n (rt n x)∧til n (rt n x)=til n x)∧(bs n (lf n x)=rt n x∧bs n (rt n x)=lf n x):=by
 obtain⟨h1,h2,h3⟩:=id h
 have:=lr_fin ⟨n.toNat,by omega⟩ ⟨x.toNat,by omega⟩
 simp only[Int.toNat_of_nonneg h2,Int.toNat_of_nonneg (show 0≤n by omega)]at this
 exact this h (by omega)
theorem up_lr {n x:Int} (h:thr n x) (ha:0≤ab n x):ab n x%2=1∧(x=lf n (ab n x)∨x=rt n (ab n x)):=by
 obtain⟨h1,h2,h3⟩:=id h
 have:=up_lr_fin ⟨n.toNat,by omega⟩ ⟨x.toNat,by omega⟩
 simp only[Int.toNat_of_nonneg h2,Int.toNat_of_nonneg (show 0≤n by omega)]at this
 exact this h ha
theorem even_eq {n x:Int} (h:thr n x) (he:x%2=0):level x=0∧fro n x=x / 2∧til n x=x / 2+1:=by
 obtain⟨h1,h2,h3⟩:=id h
 have:=even_fin ⟨n.toNat,by omega⟩ ⟨x.toNat,by omega⟩
 simp only[Int.toNat_of_nonneg h2,Int.toNat_of_nonneg (show 0≤n by omega)]at this
 exact this h (by omega)
end Go.Proofs.YtpjodlnlmaaihaaGreat
namespace Go.Proofs.YtpjodlnlmaaihaaGreat
open Go.RowKit Go.Lib
def shaH (l:List Int):H32:=⟨shaSum l,shaSum_length l,shaSum_range l⟩
theorem ints_h (h:H32):ints (strOfNums h.1)=h.1:=ints_str _ h.2.2
theorem cat2 (a b:ByteArray):cat [a,b]=ints a++ints b:=by simp[cat]
abbrev sleaf:List Int:=[108,101,97,102]
abbrev snode:List Int:=[110,111,100,101]
def leafB (l:Lf):List Int:=if 0<l.name then [1]++numB l.name++l.pub.1++l.ver.1++l.abv.1 else [0]
def parentB (p:Pn):List Int:=if p.set=true then [1]++p.pub.1++p.abv.1++numB p.loose.length++p.loose.flatMap numB else [0]
def leafAt (t:Tr) (i:Int):Lf:=t.ls.getD i.toNat Lf.zero
def parAt (t:Tr) (i:Int):Pn:=t.ps.getD i.toNat Pn.zero
def hAt:Nat→Tr→Int→H32
 | 0,t,x=>shaH (sleaf++leafB (leafAt t (x / 2)))
 | f+1,t,x=>if x%2=0 then shaH (sleaf++leafB (leafAt t (x / 2))) else shaH (snode++(parentB (parAt t (x / 2))++(hAt f t (lf t.size x)).1++(hAt f t (rt t.size x)).1))
theorem hAt_leaf {f:Nat} {t:Tr} {x:Int} (h:x%2=0):hAt f t x=shaH (sleaf++leafB (leafAt t (x / 2))):=by
 cases f with
 | zero=>rfl
 | succ f=>rw[hAt,if_pos h]
structure Tr.Gd (t:Tr):Prop where
 len:1≤t.ls.length∧t.ls.length≤64∧t.ps.length+1=t.ls.length
 nm:∀ l∈t.ls,0≤l.name∧l.name≤64
 lo:∀ p∈t.ps,p.loose.length≤64∧∀ q∈p.loose,0≤q∧q≤64
theorem Tr.Rt.gd {t:Tr} (h:t.Rt) (hn:t.ls≠[]):t.Gd:=by
 have hl:=h.len
 have h0:0<t.ls.length:=List.length_pos_iff.2 hn
 refine⟨by omega,fun l hm=>?_,fun p hp=>⟨(h.loose p hp).1,fun q hq=>?_⟩⟩
 ·rcases leavesB_spec h.leaves l hm with rfl|h
  ·simp[Lf.zero]
  ·omega
 ·obtain⟨i,hi,rfl⟩:=List.getElem_of_mem hp
  have:=hld_rng ((looseB_spec (parB_spec h.par i hi).2).1 q hq).1
  unfold Tr.size at this
  omega
theorem byt_len {f:Int→List Int} {l:List Int} {k:Nat} (h:∀ x∈l,(f x).length≤k):(l.flatMap f).length≤l.length*k:=by
 induction l with
 | nil=>simp
 | cons x r ih=>
  have h1:=h x (List.mem_cons_self ..)
  have h2:=ih fun y hy=>h y (List.mem_cons_of_mem _ hy)
  simp only[List.flatMap_cons,List.length_append,List.length_cons,Nat.succ_mul]
  omega
theorem leafB_len (l:Lf):(leafB l).length≤105:=by
 have:=numB_length l.name
 unfold leafB
 split
 ·simp[l.pub.2.1,l.ver.2.1,l.abv.2.1]
  omega
 ·simp
theorem parentB_len {p:Pn} (h:p.loose.length≤64):(parentB p).length≤600:=by
 have:=numB_length p.loose.length
 have h2:=byt_len (f:=numB) (l:=p.loose) (k:=8) fun x _=>(numB_length x).1
 unfold parentB
 split
 ·simp only[List.length_append,p.pub.2.1,p.abv.2.1,List.length_singleton]
  omega
 ·simp
end Go.Proofs.YtpjodlnlmaaihaaGreat
namespace Go.Proofs.YtpjodlnlmaaihaaGreat
open Go.RowKit Go.Lib
abbrev bleaf:ByteArray:=ByteArray.mk #[108,101,97,102]
abbrev bnode:ByteArray:=ByteArray.mk #[110,111,100,101]
section
variable {H:Hp} {w0 w:World} {L R:List Res} {g:Nat} {out:List Int} {bad:Bool} {A B:Option Addr} {a b:Nat} {t:Tr} {qs:List (List Fd)}
theorem sum2_ok {A:Option Addr} {e:Nat} (a b:ByteArray) (hs:a.size+b.size<1000000000000) (hM:Mem H w0 L w) [k:AtA L A 2 2 e 1 [[.one (.string a)],[.one (.string b)]] R]:
  Calls Tryz.prog 80 #[.slice A 2 2] w fun en w'=>en=.returned (.agg (u8s (shaH (ints a++ints b)).1).toArray)∧St w [] w':=by
 have h:=sum_ok A [a,b] 2 w (hM.rd k) (by simp) (by rw[cat2,List.length_append,ints_length,ints_length];omega)
 rw[cat2]at h
 exact h
theorem wflag_ok (b:Bool) (hb:out.length<1000000000) (hM:Mem H w0 (wrR g out bad::L) w):Calls Tryz.prog 153 #[.pointer (some ⟨g,0,none⟩),.bool b] w fun en w'=>∃ v,en=.returned v∧v=.tuple #[]∧Mem H w0 (wrR g (out++[if b=true then 1 else 0]) bad::L) w':=by
 refine C_wire_Writer_Flag ?_
 unfold F_wire_Writer_Flag
 obtain⟨A,c,hM⟩:=hM.wr
 cases b
 ·(((refine mop_c trivial ?_;refine mif_false ?_;refine mif_false ?_;refine mop_c trivial ?_;refine mop_c trivial ?_;refine mm_ld hM ?_;refine mm_bsl hM ?_ ?_ ?_));(focus rfl);(focus (constructor <;> simp));((clear hM;intro _ _ hM;refine mm_appo hM ?_ ?_));(focus omega);((clear hM;intro _ _ _ hM;refine mop_c trivial ?_;refine mop_c trivial ?_;refine mm_st hM ?_;clear hM;intro _ hM)))
  rename_i A' c' _ _
  have e:byts out++[[.one (.int .u8 0)]]=byts (out++[0]):=by rw[byts_app];rfl
  rw[e]at hM
  have hM:Mem H w0 (fb g 188 [.one (.slice A' (out.length+1) c'),.one (.bool bad)]::rowR 5 1 A' (out.length+1) c' (byts (out++[0]))::L) _:=hM.sub
  exact⟨_,rfl,rfl,Mem.unwr hM (by simp)⟩
 ·(((refine mop_c trivial ?_;refine mif_false ?_;refine mif_true ?_;refine mop_c trivial ?_;refine mop_c trivial ?_;refine mm_ld hM ?_;refine mm_bsl hM ?_ ?_ ?_));(focus rfl);(focus (constructor <;> simp));((clear hM;intro _ _ hM;refine mm_appo hM ?_ ?_));(focus omega);((clear hM;intro _ _ _ hM;refine mop_c trivial ?_;refine mop_c trivial ?_;refine mm_st hM ?_;clear hM;intro _ hM)))
  rename_i A' c' _ _
  have e:byts out++[[.one (.int .u8 1)]]=byts (out++[1]):=by rw[byts_app];rfl
  rw[e]at hM
  have hM:Mem H w0 (fb g 188 [.one (.slice A' (out.length+1) c'),.one (.bool bad)]::rowR 5 1 A' (out.length+1) c' (byts (out++[1]))::L) _:=hM.sub
  exact⟨_,rfl,rfl,Mem.unwr hM (by simp)⟩
theorem leafBytes_ok (l:Lf) (hn:0≤l.name∧l.name≤64) (hb:out.length<1000000) (hM:Mem H w0 (wrR g out false::L) w):Calls Tryz.prog 147 #[.pointer (some ⟨g,0,none⟩),lv l] w fun en w'=>∃ v,en=.returned v∧v=.tuple #[]∧Mem H w0 (wrR g (out++leafB l) false::L) w':=by
 refine C_tree_leafBytes ?_
 unfold F_tree_leafBytes
 have hnl:=numB_length l.name
 (((refine mm_box hM ?_;clear hM;intro _ _ hM;refine mop_c trivial ?_;refine mm_ld hM ?_)))
 (((refine mop_cS trivial ?_ ?_)))
 ·intro h
  skip
  refine mm_own (wflag_ok true (by omega) (hM.at_ (wrR g out false))) ?_
  rintro v w2 ⟨rfl,hM⟩
  (((refine mop_c trivial ?_;refine mm_ld hM ?_;refine mop_cT trivial ?_ ?_));(focus (first|assumption|omega|with_reducible rfl|exact fun h=>Bool.noConfusion h));((refine mif_true ?_;refine mop_c trivial ?_;refine mm_ld hM ?_)))
  refine mm_own (wnum_ok l.name (by omega) (by simp;omega) hM) ?_
  rintro v w2 ⟨rfl,hM⟩
  (((refine mop_c trivial ?_;refine mm_ld hM ?_)))
  refine mm_own (whash_ok l.pub (by simp;omega) hM) ?_
  rintro v w2 ⟨rfl,hM⟩
  (((refine mop_c trivial ?_;refine mm_ld hM ?_)))
  refine mm_own (whash_ok l.ver (by simp[l.pub.2.1];omega) hM) ?_
  rintro v w2 ⟨rfl,hM⟩
  (((refine mop_c trivial ?_;refine mm_ld hM ?_)))
  refine mm_own (whash_ok l.abv (by simp[l.pub.2.1,l.ver.2.1];omega) hM) ?_
  rintro v w2 ⟨rfl,hM⟩
  skip
  have e:out++[if true=true then 1 else 0]++numB l.name++l.pub.1++l.ver.1++l.abv.1=out++leafB l:=by
   unfold leafB
   rw[if_pos (show 0<l.name by omega)]
   simp
  rw[e]at hM
  exact⟨_,rfl,rfl,hM.sub⟩
 ·intro h
  skip
  refine mm_own (wflag_ok false (by omega) (hM.at_ (wrR g out false))) ?_
  rintro v w2 ⟨rfl,hM⟩
  (((refine mop_c trivial ?_;refine mm_ld hM ?_;refine mop_cF trivial ?_ ?_));(focus (first|assumption|omega|with_reducible rfl|exact fun h=>Bool.noConfusion h));((refine mif_false ?_)))
  have e:out++[if false=true then 1 else 0]=out++leafB l:=by
   unfold leafB
   rw[if_neg (show ¬0<l.name by omega)]
   rfl
  rw[e]at hM
  exact⟨_,rfl,rfl,hM.sub⟩
theorem parentBytes_ok (p:Pn) {C:Option Addr} {c:Nat} (hs:Sl H 1 C (ints8 p.loose)) (hp:p.loose.length≤64∧∀ q∈p.loose,0≤q∧q≤64) (hb:out.length<1000000) (hM:Mem H w0 (wrR g out false::L) w):Calls Tryz.prog 148 #[.pointer (some ⟨g,0,none⟩),.agg (fl (p.row C c)).toArray] w fun en w'=>∃ v,en=.returned v∧v=.tuple #[]∧Mem H w0 (wrR g (out++parentB p) false::L) w':=by
 refine C_tree_parentBytes ?_
 unfold F_tree_parentBytes
 (((refine mm_box hM ?_;clear hM;intro _ _ hM;refine mop_c trivial ?_;refine mm_ld hM ?_)))
 rename_i g1 _
 refine mm_own (wflag_ok p.set (by omega) (hM.at_ (wrR g out false))) ?_
 rintro v w2 ⟨rfl,hM⟩
 (((refine mop_c trivial ?_;refine mm_ld hM ?_)))
 rcases Bool.eq_false_or_eq_true p.set with hset|hset
 ·have e:parentB p=[1]++p.pub.1++p.abv.1++numB p.loose.length++p.loose.flatMap numB:=if_pos hset
  rw[hset]at hM ⊢
  (((refine mif_true ?_;refine mop_c trivial ?_;refine mm_ld hM ?_)))
  refine mm_own (whash_ok p.pub (by simp;omega) (hM.at_ (wrR g (out++[if true=true then 1 else 0]) false))) ?_
  rintro v w2 ⟨rfl,hM⟩
  (((refine mop_c trivial ?_;refine mm_ld hM ?_)))
  refine mm_own (whash_ok p.abv (by simp[p.pub.2.1];omega) hM) ?_
  rintro v w2 ⟨rfl,hM⟩
  (((refine mop_c trivial ?_;refine mm_ld hM ?_;refine mop_c trivial ?_)))
  refine mm_own (wnum_ok p.loose.length (by omega) (by simp[p.pub.2.1,p.abv.2.1];omega) hM) ?_
  rintro v w2 ⟨rfl,hM⟩
  have hnl:=numB_length p.loose.length
  generalize hbase:out++[if true=true then 1 else 0]++p.pub.1++p.abv.1++numB p.loose.length=base at hM
  have hbl:base.length≤out.length+73:=by rw[← hbase];simp[p.pub.2.1,p.abv.2.1];omega
  (((refine mop_c trivial ?_;refine mm_ld hM ?_;refine mop_c trivial ?_)))
  refine⟨fun v w'=>∃ k:Nat,v=.int .i64 k∧k≤p.loose.length∧Mem H w0 (wrR g (base++(p.loose.take k).flatMap numB) false::fb g1 69 (p.row C c)::L) w',fun v _=>match v with | .int _ k=>p.loose.length - k.toNat|_=>0,⟨0,rfl,by omega,by simpa using hM⟩,?_⟩
  clear hM
  rintro v u w3 ⟨k,rfl,hk,hM⟩
  (((refine mop_cS trivial ?_ ?_)))
  ·intro hlt
   have hlt':k<p.loose.length:=by omega
   have e1:=ints8_at (l:=p.loose) (i:=k) hlt'
   have hq:=hp.2 _ (List.getElem_mem hlt')
   have hfl:=byt_len (f:=numB) (l:=p.loose.take k) (k:=8) fun x _=>(numB_length x).1
   rw[List.length_take]at hfl
   (((refine mif_true ?_));(refine mm_ixs ‹_› ?_ ?_ ?_);(focus (simp only[List.length_map];omega));(focus (simp only[List.length_map];first|done|omega));((intro _ _ hA));(cases hA);(refine mm_lds0 hM ‹_› (map_atI ?_) ?_);(focus omega))
   refine mm_own (wnum_ok (out:=base++(p.loose.take k).flatMap numB) p.loose[k] (by omega) (by rw[List.length_append];omega) hM) ?_
   rintro v w4 ⟨rfl,hM⟩
   (((refine mop_c ?_ ?_));(focus omega))
   refine⟨⟨k+1,rfl,by omega,?_⟩,by simp only;omega⟩
   rw[List.take_succ_eq_append_getElem hlt',List.flatMap_append,← List.append_assoc]
   simpa using hM
  ·intro hge
   obtain rfl:k=p.loose.length:=by omega
   rw[List.take_length]at hM
   (((refine mif_false ?_)))
   have e2:base++p.loose.flatMap numB=out++parentB p:=by
    rw[e,← hbase]
    simp
   rw[e2]at hM
   exact⟨_,rfl,rfl,hM.sub⟩
 ·have e:parentB p=[0]:=if_neg (by rw[hset];simp)
  rw[hset]at hM ⊢
  (((refine mif_false ?_)))
  have e2:out++[if false=true then 1 else 0]=out++parentB p:=by
   rw[e]
   rfl
  rw[e2]at hM
  exact⟨_,rfl,rfl,hM.sub⟩
theorem level_odd (x:Int):x%2=1→1≤level x:=fun h=>by
 have:=lev_rng 7 (x / 2)
 unfold level
 rw[lev,if_pos h]
 omega
theorem leafB_byt (l:Lf) (hn:0≤l.name∧l.name≤64):∀ x∈leafB l,0≤x∧x<256:=fun x hx=>by
 unfold leafB at hx
 split at hx
 ·simp only[List.mem_append,List.mem_singleton]at hx
  rcases hx with (((rfl|hx)|hx)|hx)|hx
  ·omega
  ·exact numB_range l.name (by omega) x hx
  ·exact l.pub.2.2 x hx
  ·exact l.ver.2.2 x hx
  ·exact l.abv.2.2 x hx
 ·rw[List.mem_singleton.1 hx]
  omega
theorem parentB_byt (p:Pn) (hp:p.loose.length≤64∧∀ q∈p.loose,0≤q∧q≤64):∀ x∈parentB p,0≤x∧x<256:=fun x hx=>by
 unfold parentB at hx
 split at hx
 ·simp only[List.mem_append,List.mem_singleton]at hx
  rcases hx with (((rfl|hx)|hx)|hx)|hx
  ·omega
  ·exact p.pub.2.2 x hx
  ·exact p.abv.2.2 x hx
  ·exact numB_range p.loose.length (by omega) x hx
  ·obtain⟨q,hq,hx⟩:=List.mem_flatMap.1 hx
   exact numB_range q (by have:=hp.2 q hq;omega) x hx
 ·rw[List.mem_singleton.1 hx]
  omega
theorem hashLeaf_ok {f:Nat} {x:Int} (hG:t.Gd) (h1:Sl H 97 A (t.ls.map Lf.fds)) (he:x%2=0) (ht:thr t.size x) (hf:Fz H w):
  Calls Tryz.prog 131 #[tv A t.ls.length a B t.ps.length b,.int .i64 x] w fun en w'=>en=.returned (ha (hAt f t x))∧St w [] w':=by
 have hM:=Mem.start hf
 have hlen:=hG.len
 have hts:t.size=t.ls.length:=rfl
 obtain⟨k1,k2,k3⟩:=id ht
 refine C_tree_hashAt ?_
 unfold F_tree_hashAt
 (((refine mm_box hM ?_;clear hM;intro _ _ hM;refine mm_new hM ?_;clear hM;intro _ _ hM)))
 refine mm_own (wnew_ok hM) ?_
 rintro v w2 ⟨g,rfl,hM⟩
 have hix:(x / 2).toNat<t.ls.length:=by omega
 have hla:leafAt t (x / 2)=t.ls[(x / 2).toNat]:=by
  unfold leafAt
  rw[List.getD_eq_getElem?_getD,List.getElem?_eq_getElem hix]
  rfl
 have hlb:=leafB_len t.ls[(x / 2).toNat]
 (((refine mop_c ?_ ?_));(focus omega);((refine mop_cT trivial ?_ ?_));(focus (first|assumption|omega|with_reducible rfl|exact fun h=>Bool.noConfusion h));((refine mif_true ?_;refine mop_c trivial ?_;refine mm_ld hM ?_;refine mop_c ?_ ?_));(focus omega);(refine mm_ixs ‹_› ?_ ?_ ?_);(focus (simp only[List.length_map];omega));(focus (simp only[List.length_map];first|done|omega));((intro _ _ hA));(cases hA);(refine mm_lds0 hM ‹_› (map_at ?_) ?_);(focus omega))
 refine mm_own (leafBytes_ok t.ls[(x / 2).toNat] (hG.nm _ (List.getElem_mem _)) (by simp) (hM.at_ (wrR g [] false))) ?_
 rintro v w3 ⟨rfl,hM⟩
 refine mm_pure hM (wend_ok hM) (fun w hM=>?_)
 (((refine mop_c trivial ?_;refine mop_c trivial ?_;refine mm_bsl hM ?_ ?_ ?_));(focus rfl);(focus (constructor <;> simp));((clear hM;intro _ _ hM)))
 refine mm_pure hM (sum2_ok bleaf (strOfNums ([]++leafB t.ls[(x / 2).toNat])) (by rw[strOfNums_size];simp;have:bleaf.size=4:=rfl;omega) hM) (fun w hM=>?_)
 (((refine mm_st hM ?_;clear hM;intro _ hM;refine rm_ld hM ?_)))
 refine⟨?_,hM.st⟩
 rw[List.nil_append,ints_str _ (leafB_byt _ (hG.nm _ (List.getElem_mem _))),hAt_leaf he,hla]
 rfl
theorem hashAt_ok (hG:t.Gd) (h1:Sl H 97 A (t.ls.map Lf.fds)) (h2:Sl H 66 B qs) (h3:All2 (PnF H) qs t.ps):∀ (f:Nat) (x:Int),level x≤f→thr t.size x→∀ w,Fz H w →
  Calls Tryz.prog 131 #[tv A t.ls.length a B t.ps.length b,.int .i64 x] w fun en w'=>en=.returned (ha (hAt f t x))∧St w [] w':=by
 have hlen:=hG.len
 have hts:t.size=t.ls.length:=rfl
 have hq:qs.length=t.ps.length:=h3.len
 intro f
 induction f with
 | zero=>
  intro x hx ht w hf
  have he:x%2=0:=by
   have:=level_odd x
   omega
  exact hashLeaf_ok hG h1 he ht hf
 | succ f ih=>
  intro x hx ht w hf
  by_cases he:x%2=0
  ·exact hashLeaf_ok hG h1 he ht hf
  have ho:x%2=1:=by omega
  obtain⟨k1,k2,k3⟩:=id ht
  obtain⟨⟨t1,t2⟩,⟨l1,l2⟩,-⟩:=lr_eq ht ho
  have hM:=Mem.start hf
  refine C_tree_hashAt ?_
  unfold F_tree_hashAt
  (((refine mm_box hM ?_;clear hM;intro _ _ hM;refine mm_new hM ?_;clear hM;intro _ _ hM)))
  refine mm_own (wnew_ok hM) ?_
  rintro v w2 ⟨g,rfl,hM⟩
  have hix:(x / 2).toNat<t.ps.length:=by omega
  obtain⟨q,hq1,C,c,rfl,hC,hcl⟩:=h3.at_ (i:=(x / 2).toNat) hix
  obtain⟨p,hpe⟩:∃ p,t.ps[(x / 2).toNat]=p:=⟨_,rfl⟩
  have hpa:parAt t (x / 2)=p:=by
   unfold parAt
   rw[List.getD_eq_getElem?_getD,List.getElem?_eq_getElem hix,hpe]
   rfl
  have hlo:=hG.lo p (hpe ▸ List.getElem_mem _)
  have hpl:=parentB_len hlo.1
  rw[hpe]at hq1 hC hcl
  (((refine mop_c ?_ ?_));(focus omega);((refine mop_cF trivial ?_ ?_));(focus (first|assumption|omega|with_reducible rfl|exact fun h=>Bool.noConfusion h));((refine mif_false ?_;refine mop_c trivial ?_;refine mm_ld hM ?_;refine mop_c trivial ?_;refine mop_c trivial ?_;refine mm_ld hM ?_;refine mop_c ?_ ?_));(focus omega))
  refine mm_ixs h2 (by omega) hq.symm (fun bb oo hB=>?_)
  cases hB
  refine mm_lds0 hM h2 hq1 ?_
  refine mm_own (parentBytes_ok p hC hlo (by simp) (hM.at_ (wrR g [] false))) ?_
  rintro v w3 ⟨rfl,hM⟩
  (((refine dm_ld hM ?_;refine dm_purC hM ?_ (fun _ _ hM=>?_)));(focus (first|exact trivial|assumption|omega)))
  have hbl:∀ y∈snode++(parentB p++(hAt f t (lf t.size x)).1++(hAt f t (rt t.size x)).1),0≤y∧y<256:=fun y hy=>by
   simp only[List.mem_append]at hy
   rcases hy with hy|(hy|hy)|hy
   ·simp at hy
    omega
   ·exact parentB_byt p hlo y hy
   ·exact(hAt f t (lf t.size x)).2.2 y hy
   ·exact(hAt f t (rt t.size x)).2.2 y hy
  refine dm_pure hM (fun w hM=>ih (lf t.size x) (by omega) t1 w hM.fz) (fun w' hx hM=>?_)
  refine dm_own hM (fun w hM=>whash_ok (hAt f t (lf t.size x)) (by simp;omega) (hM.at_ (wrR g ([]++parentB p) false))) ?_
  rintro v w4 ⟨rfl,hM⟩
  (((refine mm_end hM ?_;clear hM;intro _ hM;refine dm_ld hM ?_;refine dm_purC hM ?_ (fun _ _ hM=>?_)));(focus (first|exact trivial|assumption|omega)))
  refine dm_pure hM (fun w hM=>ih (rt t.size x) (by omega) t2 w hM.fz) (fun w' hx hM=>?_)
  refine dm_own hM (fun w hM=>whash_ok (hAt f t (rt t.size x)) (by simp[(hAt f t (lf t.size x)).2.1];omega) (hM.at_ (wrR g ([]++parentB p++(hAt f t (lf t.size x)).1) false))) ?_
  rintro v w5 ⟨rfl,hM⟩
  (((refine mm_end hM ?_;clear hM;intro _ hM)))
  refine mm_pure hM (wend_ok hM) (fun w hM=>?_)
  (((refine mop_c trivial ?_;refine mop_c trivial ?_;refine mm_bsl hM ?_ ?_ ?_));(focus rfl);(focus (constructor <;> simp));((clear hM;intro _ _ hM)))
  refine mm_pure hM (sum2_ok bnode (strOfNums ([]++parentB p++(hAt f t (lf t.size x)).1++(hAt f t (rt t.size x)).1)) (by rw[strOfNums_size];simp[(hAt f t (lf t.size x)).2.1,(hAt f t (rt t.size x)).2.1];have:bnode.size=4:=rfl;omega) hM) (fun w hM=>?_)
  (((refine mm_st hM ?_;clear hM;intro _ hM;refine rm_ld hM ?_)))
  refine⟨?_,hM.st⟩
  rw[List.nil_append,ints_str _ (fun y hy=>hbl y (List.mem_append.2 (.inr hy))),hAt,if_neg he,hpa]
  rfl
end
end Go.Proofs.YtpjodlnlmaaihaaGreat
namespace Go.Proofs.YtpjodlnlmaaihaaGreat
open Go.RowKit Go.Lib
end Go.Proofs.YtpjodlnlmaaihaaGreat
namespace Go.Proofs.YtpjodlnlmaaihaaGreat
open Go.RowKit Go.Lib
abbrev sabove:List Int:=[97,98,111,118,101]
def wNode (pl:Int) (way:List Int):Nat→Int
 | 0=>2*pl
 | m+1=>way.getD m 0
def sdR (t:Tr) (pl:Int) (way:List Int) (keys:List H32):Nat→Nat→H32
 | 0,_=>hzero
 | f+1,m=>shaH (sabove++((keys.getD m hzero).1++(sdR t pl way keys f (m+1)).1++(hAt 8 t (bs t.size (wNode pl way m))).1))
def sd (t:Tr) (pl:Int) (way:List Int) (keys:List H32) (m:Nat):H32:=sdR t pl way keys (way.length - m) m
theorem sd_end {t:Tr} {pl:Int} {way:List Int} {keys:List H32}:sd t pl way keys way.length=hzero:=by
 unfold sd
 rw[Nat.sub_self]
 rfl
theorem sd_step {t:Tr} {pl:Int} {way:List Int} {keys:List H32} {m:Nat} (h:m<way.length):sd t pl way keys m=shaH (sabove++((keys.getD m hzero).1++(sd t pl way keys (m+1)).1++(hAt 8 t (bs t.size (wNode pl way m))).1)):=by
 unfold sd
 obtain⟨f,hf⟩:∃ f,way.length - m=f+1:=⟨way.length - m - 1,by omega⟩
 have hf2:way.length - (m+1)=f:=by omega
 rw[hf,hf2]
 rfl
def newP (t:Tr) (pl:Int) (way:List Int) (keys:List H32) (i:Nat):Pn:=⟨true,keys.getD i hzero,sd t pl way keys (i+1),[]⟩
def wIdx (way:List Int) (k:Nat):Nat:=way.findIdx fun x=>decide (x=2*(k:Int)+1)
def pthPs (way:List Int) (nw:Nat→Pn) (D:Nat→Bool) (ps:List Pn):List Pn:=ps.mapIdx fun k p=>if wIdx way k<way.length∧D (wIdx way k)=true then nw (wIdx way k) else p
theorem wIdx_at {way:List Int} (hn:way.Nodup) {i:Nat} (hi:i<way.length) {k:Nat} (hk:way[i]=2*(k:Int)+1):wIdx way k=i:=
 findIdx_at hi (fun j hj hji=>decide_eq_false fun e=>by
  have:=(List.getElem_inj hn).1 (e.trans hk.symm)
  omega) (decide_eq_true hk)
theorem wIdx_get {way:List Int} {k:Nat} (h:wIdx way k<way.length):way[wIdx way k]=2*(k:Int)+1:=by
 have:=List.findIdx_getElem (p:=fun x=>decide (x=2*(k:Int)+1)) (xs:=way) (w:=h)
 simp only[decide_eq_true_eq]at this
 exact this
theorem pthPs_set {way:List Int} {nw:Nat→Pn} {D D':Nat→Bool} {ps:List Pn} (hn:way.Nodup) {i:Nat} (hi:i<way.length) (hw:way[i]=2*(way[i] / 2)+1∧0≤way[i] / 2) (hD:∀ j,j<way.length→(D' j=true↔D j=true∨j=i)):
  (pthPs way nw D ps).set (way[i] / 2).toNat (nw i)=pthPs way nw D' ps:=by
 unfold pthPs
 refine List.ext_getElem (by simp) fun k h1 h2=>?_
 simp only[List.getElem_set,List.getElem_mapIdx]
 by_cases e:(way[i] / 2).toNat=k
 ·have hk:way[i]=2*(k:Int)+1:=by omega
  have hx:=wIdx_at hn hi hk
  rw[if_pos e,hx,if_pos ⟨hi,(hD i hi).2 (.inr rfl)⟩]
 ·rw[if_neg e]
  by_cases h:wIdx way k<way.length
  ·have hne:wIdx way k≠i:=fun h3=>by
    have:=wIdx_get h
    simp only[h3]at this
    omega
   have:=hD _ h
   by_cases h4:D (wIdx way k)=true
   ·rw[if_pos ⟨h,h4⟩,if_pos ⟨h,this.2 (.inl h4)⟩]
   ·rw[if_neg fun h5=>h4 h5.2,if_neg fun h5=>(this.1 h5.2).elim h4 hne]
  ·rw[if_neg fun h3=>h h3.1,if_neg fun h3=>h h3.1]
theorem pthPs_none {way:List Int} {nw:Nat→Pn} {D:Nat→Bool} {ps:List Pn} (hD:∀ j,j<way.length→D j=false):pthPs way nw D ps=ps:=by
 unfold pthPs
 refine List.ext_getElem (by simp) fun k h1 h2=>?_
 simp only[List.getElem_mapIdx]
 rw[if_neg]
 intro h
 rw[hD _ h.1]at h
 cases h.2
def Tr.pathR (t:Tr) (pl:Int) (pub:H32) (keys:List H32):Tr × Int:=
 if t.nobody pl then (Tr.none,7) else if (dirL t.size pl).length≠keys.length then (Tr.none,16) else
 (⟨t.ls.modify pl.toNat (·.key pub (sd t pl (dirL t.size pl) keys 0)),pthPs (dirL t.size pl) (newP t pl (dirL t.size pl) keys) (fun _=>true) t.ps⟩,0)
def Tr.pathP (t:Tr) (pl:Int) (pub:H32) (keys:List H32):Tr × Int:=if ¬t.right=true then (Tr.none,1) else t.pathR pl pub keys
end Go.Proofs.YtpjodlnlmaaihaaGreat
namespace Go.Proofs.YtpjodlnlmaaihaaGreat
open Go.RowKit Go.Lib
theorem fro_til {n x:Int} (h:thr n x):fro n x<til n x:=by
 have:=fd_eq h
 have h1:fro n x=(fd n x).1:=if_pos h
 have h2:til n x=(fd n x).1+(fd n x).2.1:=if_pos h
 omega
theorem hld_kids {n x p:Int} (h:thr n x) (ho:x%2=1):hld n x p↔hld n (lf n x) p∨hld n (rt n x) p:=by
 obtain⟨⟨t1,t2⟩,-,⟨e1,e2,e3⟩,-⟩:=lr_eq h ho
 have:=fro_til t1
 have:=fro_til t2
 unfold hld
 omega
theorem hAt_same {t t':Tr} {p:Int} (hl:t'.ls=t.ls) (hp:∀ i:Nat,¬hld t.size (2*i+1) p→t'.ps[i]?=t.ps[i]?):∀ (f:Nat) (x:Int),thr t.size x→¬hld t.size x p→hAt f t' x=hAt f t x:=by
 have hsz:t'.size=t.size:=by unfold Tr.size;rw[hl]
 have hla:∀ i,leafAt t' i=leafAt t i:=fun i=>by unfold leafAt;rw[hl]
 intro f
 induction f with
 | zero=>
  intro x _ _
  rw[hAt,hAt,hla]
 | succ f ih=>
  intro x ht hx
  rw[hAt,hAt,hla,hsz]
  by_cases he:x%2=0
  ·rw[if_pos he,if_pos he]
  ·rw[if_neg he,if_neg he]
   have ho:x%2=1:=by omega
   obtain⟨⟨t1,t2⟩,-⟩:=lr_eq ht ho
   have hk:=mt (hld_kids (p:=p) ht ho).2 hx
   rw[not_or]at hk
   have hpa:parAt t' (x / 2)=parAt t (x / 2):=by
    have hx0:=ht.2.1
    have e:2*(((x / 2).toNat:Nat):Int)+1=x:=by omega
    have:=hp (x / 2).toNat (by rw[e];exact hx)
    unfold parAt
    rw[List.getD_eq_getElem?_getD,List.getD_eq_getElem?_getD,this]
   rw[hpa,ih _ t1 hk.1,ih _ t2 hk.2]
theorem side_ok {n z p:Int} (h:thr n z) (hh:hld n z p) (ha:0≤ab n z):thr n (bs n z)∧¬hld n (bs n z) p:=by
 obtain⟨ho,hz⟩:=up_lr h ha
 have hta:thr n (ab n z):=ab_thr h (by omega)
 obtain⟨⟨t1,t2⟩,-,⟨e1,e2,e3⟩,b1,b2⟩:=lr_eq hta ho
 have:=fro_til t1
 have:=fro_til t2
 rcases hz with hz|hz
 ·have hb:bs n z=rt n (ab n z):=by
   conv=>lhs;rw[hz]
   exact b1
  rw[hb]
  refine⟨t2,fun hr=>?_⟩
  rw[hz]at hh
  unfold hld at hh hr
  omega
 ·have hb:bs n z=lf n (ab n z):=by
   conv=>lhs;rw[hz]
   exact b2
  rw[hb]
  refine⟨t1,fun hr=>?_⟩
  rw[hz]at hh
  unfold hld at hh hr
  omega
theorem dirF_nth {n:Int}:∀ (f:Nat) (x:Int) (m:Nat) (h:m<(dirF f n x).length),(dirF f n x)[m]=ab n ((x::dirF f n x)[m]'(by simp;omega))∧0≤(dirF f n x)[m]
 | 0,x,m,h=>by simp[dirF]at h
 | f+1,x,m,h=>by
  by_cases ha:ab n x<0
  ·simp[dirF,ha]at h
  ·have e:dirF (f+1) n x=ab n x::dirF f n (ab n x):=by rw[dirF,if_neg ha]
   cases m with
   | zero=>
    simp only[e,List.getElem_cons_zero]
    exact⟨trivial,by omega⟩
   | succ m=>
    have h':m<(dirF f n (ab n x)).length:=by rw[e]at h;simpa using h
    obtain⟨h1,h2⟩:=dirF_nth f (ab n x) m h'
    simp only[e,List.getElem_cons_succ]
    exact⟨h1,h2⟩
theorem wNode_eq {pl:Int} {way:List Int} {m:Nat} (h:m≤way.length):wNode pl way m=(2*pl::way)[m]'(by simp;omega):=by
 cases m with
 | zero=>rfl
 | succ m=>
  rw[wNode,List.getElem_cons_succ,List.getD_eq_getElem?_getD,List.getElem?_eq_getElem (by omega)]
  rfl
theorem way_ok {n pl:Int} (h:0≤pl∧pl<n∧n≤64) {m:Nat} (hm:m<(dirL n pl).length):thr n (wNode pl (dirL n pl) m)∧hld n (wNode pl (dirL n pl) m) pl∧thr n (bs n (wNode pl (dirL n pl) m))∧¬hld n (bs n (wNode pl (dirL n pl) m)) pl:=by
 have hd:dirL n pl=dirF 8 n (2*pl):=if_pos ⟨h.1,h.2.1⟩
 have ht0:thr n (2*pl):=⟨by omega,by omega,by omega⟩
 have hA:thr n (wNode pl (dirL n pl) m)∧hld n (wNode pl (dirL n pl) m) pl:=by
  cases m with
  | zero=>
   obtain⟨-,e1,e2⟩:=even_eq ht0 (by omega)
   refine⟨ht0,?_⟩
   show hld n (2*pl) pl
   unfold hld
   omega
  | succ m=>
   have hw:wNode pl (dirL n pl) (m+1)=(dirL n pl)[m]:=by
    rw[wNode_eq (by omega),List.getElem_cons_succ]
   have hmem:(dirL n pl)[m]∈dirL n pl:=List.getElem_mem _
   obtain⟨-,h2,h3,h4⟩:=dir_mem h.2.2 hmem
   rw[hw]
   refine⟨⟨by omega,by omega,by omega⟩,?_⟩
   have e:(dirL n pl)[m]=2*((((dirL n pl)[m] / 2).toNat:Nat):Int)+1:=by omega
   rw[e]at hmem ⊢
   exact(mem_dir h (by omega)).1 hmem
 have hab:0≤ab n (wNode pl (dirL n pl) m):=by
  have hm':m<(dirF 8 n (2*pl)).length:=by rw[← hd];exact hm
  obtain⟨h1,h2⟩:=dirF_nth 8 (2*pl) m hm'
  rw[wNode_eq (by omega)]
  simp only[hd]
  rw[← h1]
  exact h2
 exact⟨hA.1,hA.2,side_ok hA.1 hA.2 hab⟩
theorem parB_of {n:Int} {ls:List Lf}:∀ {x:Int} {ps:List Pn},(∀ i (hi:i<ps.length),(ps[i].set=true∨ps[i].isZero)∧looseB n ls (x+2*i) none ps[i].loose=true)→parB n ls x ps=true
 | _,[],_=>rfl
 | x,p::r,h=>by
  have h0:=h 0 (by simp)
  have ih:=parB_of (n:=n) (ls:=ls) (x:=x+2) (ps:=r) fun i hi=>by
   have:=h (i+1) (by simpa using hi)
   have e:x+2*((i+1:Nat):Int)=x+2+2*(i:Int):=by omega
   rw[e]at this
   simpa using this
  simp only[parB,Bool.and_eq_true,Bool.or_eq_true,decide_eq_true_eq]
  exact⟨by simpa using h0,ih⟩
theorem Tr.Rt.par_new {t:Tr} (h:t.Rt) {ps:List Pn} (hl:ps.length=t.ps.length) (hp:∀ i (hi:i<ps.length),ps[i]=t.ps[i]'(by omega)∨(ps[i].set=true∧ps[i].loose=[])):Tr.Rt ⟨t.ls,ps⟩:=by
 refine⟨⟨h.len.1,by rw[hl];exact h.len.2⟩,h.leaves,parB_of fun i hi=>?_,h.last⟩
 have hi2:i<ps.length:=hi
 rcases hp i hi with e|⟨e1,e2⟩
 ·rw[e]
  exact parB_spec h.par i (by rw[← hl];exact hi2)
 ·rw[e2]
  exact⟨.inl e1,rfl⟩
theorem pthPs_get {way:List Int} {nw:Nat→Pn} {D:Nat→Bool} {ps:List Pn} {i:Nat} (hi:i<(pthPs way nw D ps).length):(pthPs way nw D ps)[i]=ps[i]'(by simpa [pthPs] using hi)∨∃ j,j<way.length∧way[j]?=some (2*(i:Int)+1)∧(pthPs way nw D ps)[i]=nw j:=by
 have e:(pthPs way nw D ps)[i]'hi=(if wIdx way i<way.length∧D (wIdx way i)=true then nw (wIdx way i) else ps[i]'(by simpa [pthPs] using hi)):=List.getElem_mapIdx ..
 rw[e]
 split
 ·rename_i hc
  exact .inr ⟨wIdx way i,hc.1,by rw[List.getElem?_eq_getElem hc.1,wIdx_get hc.1],rfl⟩
 ·exact .inl rfl
theorem pthPs_len {way:List Int} {nw:Nat→Pn} {D:Nat→Bool} {ps:List Pn}:(pthPs way nw D ps).length=ps.length:=by simp[pthPs]
theorem Tr.Rt.pth {t:Tr} (h:t.Rt) {way:List Int} {nw:Nat→Pn} {D:Nat→Bool} (hn:∀ j,(nw j).set=true∧(nw j).loose=[]):Tr.Rt ⟨t.ls,pthPs way nw D t.ps⟩:=
 h.par_new pthPs_len fun i hi=>(pthPs_get hi).imp id fun⟨j,_,_,e⟩=>by rw[e];exact hn j
theorem Tr.Rt.side_hash {t:Tr} (h:t.Rt) {pl:Int} (hb:0≤pl∧pl<t.size) {nw:Nat→Pn} {D:Nat→Bool} {m:Nat} (hm:m<(dirL t.size pl).length):
  hAt 8 ⟨t.ls,pthPs (dirL t.size pl) nw D t.ps⟩ (bs t.size (wNode pl (dirL t.size pl) m))=hAt 8 t (bs t.size (wNode pl (dirL t.size pl) m)):=by
 have hlen:=h.len
 have hts:t.size=t.ls.length:=rfl
 obtain⟨-,-,h3,h4⟩:=way_ok (n:=t.size) ⟨hb.1,hb.2,by omega⟩ hm
 refine hAt_same (t:=t) (t':=⟨t.ls,pthPs (dirL t.size pl) nw D t.ps⟩) rfl (fun i hi=>?_) 8 _ h3 h4
 show(pthPs (dirL t.size pl) nw D t.ps)[i]?=t.ps[i]?
 by_cases hi2:i<t.ps.length
 ·rw[List.getElem?_eq_getElem hi2,List.getElem?_eq_getElem (by rw[pthPs_len];exact hi2)]
  rcases pthPs_get (way:=dirL t.size pl) (nw:=nw) (D:=D) (ps:=t.ps) (i:=i) (by rw[pthPs_len];exact hi2) with e|⟨j,hj,hw,-⟩
  ·rw[e]
  ·exfalso
   have hmem:2*(i:Int)+1∈dirL t.size pl:=List.mem_of_getElem? hw
   exact hi ((mem_dir ⟨hb.1,hb.2,by omega⟩ (by omega)).1 hmem)
 ·rw[List.getElem?_eq_none (l:=t.ps) (by omega),List.getElem?_eq_none (l:=pthPs (dirL t.size pl) nw D t.ps) (by rw[pthPs_len];omega)]
end Go.Proofs.YtpjodlnlmaaihaaGreat
namespace Go.Proofs.YtpjodlnlmaaihaaGreat
open Go.RowKit Go.Lib
abbrev babove:ByteArray:=ByteArray.mk #[97,98,111,118,101]
theorem cat4 (a b c d:ByteArray):cat [a,b,c,d]=ints a++(ints b++ints c++ints d):=by simp[cat]
section
variable {P:Program} {H:Hp} {w0 w:World} {L R:List Res} {n cap e sz:Nat} {A B:Option Addr} {a b:Nat} {t:Tr} {qs ps:List (List Fd)} {X:List Xp}
theorem dS_stf {ext:Bool} {S:Nat→Prop} {R1:List Res} {g k off m:Nat} {tt:TypeId} {q:Bool} {v:Value} {fs gs fs':List Fd} {K:Value→World→Prop} (hg0:S g) (h:Mem H w0 L w) [c:ShpC P tt q m] [a:AtA L (some ⟨g,0,none⟩) n cap e sz ps R1] (hk:ps[k]?=some fs) [f:Vf v m gs] [p:Put fs off gs fs']
  (hK:∀ w',Mem H w0 (rowR e sz (some ⟨g,0,none⟩) n cap (ps.set k fs')::R1) w'→K undef w'):dfS P (Rl.only S) w (o_store tt (.pointer (some ⟨g,0+k*sz+off,none⟩)) v) ext K:=⟨fun w1 hd=>by
 have h:=h.drawn hd
 obtain⟨w',h1,h2⟩:=run_msf (P:=P) h c a hk f p
 obtain⟨sp,h5,h6,h7,hE,hl,hraw⟩:=h.raw (g:=g)
 have hb:=hraw.bkBlf (g:=g)
 obtain⟨ev,hn,hg⟩:=f.ok
 obtain⟨hk',hke⟩:=List.getElem?_eq_some_iff.1 hk
 obtain⟨hxo,hxs⟩:=hE.ok fs (hke ▸ List.getElem_mem _)
 obtain⟨_,_,k3⟩:=p.cells hxo hg
 have e2:v.cells.size=m:=by rw[← Array.length_toList,ev,hg.len,hn]
 have hle:k*sz+sz≤cap*sz:=by
  rw[← Nat.succ_mul]
  exact Nat.mul_le_mul_right _ (by omega)
 obtain⟨w2,h3,h4⟩:=run_storeN (P:=P) (i:=0+k*sz+off) (v:=v) c.ok (St.oneF hb) e2 (by rw[ev];exact hg.one) (by rw[hg.len,hn,hxo.len,hxs]at k3;omega)
 rw[h1]at h3
 cases h3
 exact mop_skip h1 ⟨fun _=>(hd.onlyS _).trans1 (h4.only.mono fun j _ ⟨b,hm,_,hj⟩=>by
  rw[List.mem_singleton]at hm
  subst hm
  have hj:g=j:=hj
  exact hj ▸ hg0),hK w' h2⟩⟩
theorem dm_cvs {s d:TypeId} {b o k c m:Nat} {l:List Int} {Kq:Value→Prop} (hM:Mem H w0 L w) [st:StrC P s d] (a:Sl H sz (some ⟨b,o,none⟩) ps) (hk:ps[k]?=some [.arr m (u8s l)]) (hl:l.length=m) (hK:Kq (.string (strOfNums l))):dq P w (o_conv s d (.slice (some ⟨b,o+k*sz,none⟩) m c)) Kq:=
 dq_pur (fun w' hx=>pw_str st hl fun j u hu=>by
  have h1:=a.els.at_ hk j u (by simpa [fl,Fd.cells] using hu)
  have h2:=a.cell (hM.fz.ext hx) h1
  rw[Nat.add_assoc]
  exact h2) hK
theorem Mem.readsX:∀ {X:List Xp} {L:List Res},Mem H w0 (allR X::L) w→∀ x∈X,Sl (Hp.of w) 1 x.2.1 (ints8 x.1.loose)
 | [],_,_,_,h=>by cases h
 | y::X,L,hM,x,h=>by
  have h1:=hM.unk
  rcases List.mem_cons.1 h with rfl|h
  ·exact h1.reads (A:=x.2.1)
  ·have h2:Mem H w0 (allR X::xres y::L) w:=h1.perm (.swap ..)
   exact Mem.readsX h2 x h
theorem Mem.readsT {ls:List Lf} (h:Mem H w0 (rowR 40 97 A ls.length a (ls.map Lf.fds)::rowR 69 66 B X.length b (X.map xrow)::allR X::L) w) (hb:∀ x∈X,x.1.loose.length≤maxLen):TrF (Hp.of w) (tv A ls.length a B X.length b) ⟨ls,X.map (·.1)⟩:=by
 obtain⟨-,k1,k2,-⟩:=h.rowLen ⟨.refl _⟩
 have h2:Mem H w0 (rowR 69 66 B X.length b (X.map xrow)::rowR 40 97 A ls.length a (ls.map Lf.fds)::allR X::L) w:=h.perm (.swap ..)
 obtain⟨-,k3,k4,-⟩:=h2.rowLen ⟨.refl _⟩
 have h3:Mem H w0 (allR X::L) w:=h.drop.drop
 exact⟨⟨A,a,B,b,X.map xrow,by simp,h.reads (A:=A) (k:=⟨.refl _⟩),h2.reads (A:=B) (k:=⟨.refl _⟩),all2_rows fun x hx=>⟨h3.readsX x hx,hb x hx⟩⟩,by simp only;omega,by simp only[List.length_map];omega⟩
theorem sum4_ok {A:Option Addr} {e:Nat} (a b c d:ByteArray) (hs:a.size+b.size+c.size+d.size<1000000000000) (hM:Mem H w0 L w) [k:AtA L A 4 4 e 1 [[.one (.string a)],[.one (.string b)],[.one (.string c)],[.one (.string d)]] R]:
  Calls Tryz.prog 80 #[.slice A 4 4] w fun en w'=>en=.returned (.agg (u8s (shaH (ints a++(ints b++ints c++ints d))).1).toArray)∧St w [] w':=by
 have h:=sum_ok A [a,b,c,d] 4 w (hM.rd k) (by simp) (by rw[cat4];simp only[List.length_append,ints_length];omega)
 rw[cat4]at h
 exact h
theorem hashAtT_ok (x:Int) {v:Value} (h:TrF H v t) (hf:Fz H w):Calls Tryz.prog 96 #[v,.int .i64 x] w fun en w'=>en=.returned (ha (if t.right=true∧0≤x∧x≤2*t.size - 2 then hAt 8 t x else hzero))∧St w [] w':=by
 obtain⟨A,a,B,b,qs,rfl,h1,h2,h3⟩:=h.ex
 have hM:=Mem.start hf
 refine C_tree_HashAt ?_
 unfold F_tree_HashAt
 (((refine mm_box hM ?_;clear hM;intro _ _ hM;refine mm_new hM ?_;clear hM;intro _ _ hM;refine mm_ld hM ?_)))
 refine mm_pure hM (sound_ok h1 h2 h3 h.len.1 h.len.2 hM.fz) (fun w hM=>?_)
 cases hr:t.right
 ·rw[if_neg (by simp),if_neg (by simp)]
  (((refine mm_st hM ?_;clear hM;intro _ hM)))
  refine⟨fun v w'=>v=.bool true∧hM.now w',?_,?_⟩
  ·(((refine mop_cS trivial ?_ ?_)))
   ·intro hx
    ((((iterate 7 refine mguard_n1 ?_);refine mop_c trivial ?_)))
    exact⟨rfl,hM⟩
   ·intro hx
    (((refine mguard_yes ?_;refine mop_c trivial ?_;refine mguard_yes ?_;refine mop_c trivial ?_;refine mguard_yes ?_;refine mm_ld hM ?_;refine mguard_yes ?_;refine mop_c trivial ?_;refine mguard_yes ?_;refine mop_c ?_ ?_));(focus omega);((refine mguard_yes ?_;refine mop_c ?_ ?_));(focus omega);((refine mguard_yes ?_;refine mop_cT trivial ?_ ?_));(focus (first|assumption|omega|with_reducible rfl|exact fun h=>Bool.noConfusion h));((refine mop_c trivial ?_)))
    exact⟨rfl,hM⟩
  rintro v u w3 ⟨rfl,hM⟩
  (((refine mif_true ?_;refine mop_c trivial ?_;refine mm_st hM ?_;clear hM;intro _ hM;refine rm_ld hM ?_)))
  exact⟨rfl,hM.st⟩
 ·have hR:=Tr.rt.1 hr
  have hlen:=hR.len
  have hts:t.size=t.ls.length:=rfl
  rw[if_pos rfl]
  (((refine mm_st hM ?_;clear hM;intro _ hM)))
  refine⟨fun v w'=>v=.bool (decide (¬(0≤x∧x≤2*t.size - 2)))∧hM.now w',?_,?_⟩
  ·(((refine mop_cS trivial ?_ ?_)))
   ·intro hx
    ((((iterate 7 refine mguard_n1 ?_);refine mop_c trivial ?_)))
    exact⟨by rw[decide_eq_true (by omega)],hM⟩
   ·intro hx
    (((refine mguard_yes ?_;refine mop_c trivial ?_;refine mguard_yes ?_;refine mop_c trivial ?_;refine mguard_yes ?_;refine mm_ld hM ?_;refine mguard_yes ?_;refine mop_c trivial ?_;refine mguard_yes ?_;refine mop_c ?_ ?_));(focus omega);((refine mguard_yes ?_;refine mop_c ?_ ?_));(focus omega);((refine mguard_yes ?_)))
    (((refine mop_cS trivial ?_ ?_)))
    ·intro hx2
     (((refine mop_c trivial ?_)))
     exact⟨by rw[decide_eq_true (by omega)],hM⟩
    ·intro hx2
     (((refine mop_c trivial ?_)))
     exact⟨by rw[decide_eq_false (by omega)],hM⟩
  rintro v u w3 ⟨rfl,hM⟩
  by_cases hc:0≤x∧x≤2*t.size - 2
  ·rw[decide_eq_false (by simpa using hc),if_pos ⟨rfl,hc⟩]
   (((refine mif_false ?_;refine mm_ld hM ?_)))
   have hne:t.ls≠[]:=fun e=>by rw[hts,e]at hc;simp at hc;omega
   refine mm_pure hM (hashAt_ok (hR.gd hne) h1 h2 h3 8 x (by have:=(up_eq (x:=x) (by omega)).2.2.2.2;omega) ⟨by omega,hc.1,hc.2⟩ _ hM.fz) (fun w hM=>?_)
   (((refine mm_st hM ?_;clear hM;intro _ hM;refine rm_ld hM ?_)))
   exact⟨rfl,hM.st⟩
  ·rw[decide_eq_true hc,if_neg (fun h=>hc h.2)]
   (((refine mif_true ?_;refine mop_c trivial ?_;refine mm_st hM ?_;clear hM;intro _ hM;refine rm_ld hM ?_)))
   exact⟨rfl,hM.st⟩
abbrev kfds (keys:List H32):List (List Fd):=keys.map fun h=>[Fd.arr 32 (u8s h.1)]
theorem pathT_rt (hR:t.Rt) {way:List Int} {pl:Int} {keys:List H32} {D:Nat→Bool}:Tr.Rt ⟨t.ls,pthPs way (newP t pl way keys) D t.ps⟩:=hR.pth fun _=>⟨rfl,rfl⟩
theorem path_q {Q:Hp→Value→Prop} (pl:Int) (pub:H32) (keys:List H32) {K:Option Addr} {kc:Nat} (hq:∀ H' v1 r,t.pathP pl pub keys=r→TrF H' v1 r.1→Q H' (.tuple #[v1,.int .i64 r.2])) (hkl:keys.length≤1000000) (hK:Sl H 32 K (kfds keys))
  (h1:Sl H 97 A (t.ls.map Lf.fds)) (h2:Sl H 66 B qs) (h3:All2 (PnF H) qs t.ps) (hl:t.ls.length≤maxLen) (hp:t.ps.length≤maxLen) (hf:Fz H w):
  Calls Tryz.prog 50 #[tv A t.ls.length a B t.ps.length b,.int .i64 pl,ha pub,.slice K keys.length kc] w (Outp H w Q):=by
 obtain⟨w1,hw1⟩:∃ w1,w1=w:=⟨_,rfl⟩
 rw[← hw1]
 rw[← hw1]at hf
 have hM:=Mem.start hf
 refine C_tree_Path ?_
 unfold F_tree_Path
 unfold Tr.pathP Tr.pathR at hq
 (((refine mm_box hM ?_;clear hM;intro _ _ hM;refine mm_box hM ?_;clear hM;intro _ _ hM;refine mm_new hM ?_;clear hM;intro _ _ hM;refine mm_ld hM ?_)))
 rename_i g1 _ g5 _ g2 _
 refine mm_pure hM (right_ok h1 h2 h3 hl hp hM.fz) (fun w hM=>?_)
 (((refine mop_c trivial ?_)))
 cases hr:t.right
 ·rw[if_pos (by rw[hr];simp)]at hq
  rw[Bool.not_false]
  (((refine mif_true ?_;refine mop_c trivial ?_;refine mm_st hM ?_;clear hM;intro _ hM;refine rm_ld hM ?_)))
  exact hM.out (Le.refl _ _) (hq _ _ _ rfl (trF_none H))
 rw[if_neg (by rw[hr];simp)]at hq
 have hR:=Tr.rt.1 hr
 have hlen:=hR.len
 have hts:t.size=t.ls.length:=rfl
 rw[Bool.not_true]
 (((refine mif_false ?_;refine mm_ld hM ?_)))
 refine mm_pure hM (none_ok pl h1 hl hM.fz) (fun w hM=>?_)
 by_cases hn:t.nobody pl
 ·rw[if_pos hn]at hq
  rw[decide_eq_true hn]
  (((refine mif_true ?_;refine mop_c trivial ?_;refine mm_st hM ?_;clear hM;intro _ hM;refine rm_ld hM ?_)))
  exact hM.out (Le.refl _ _) (hq _ _ _ rfl (trF_none H))
 rw[if_neg hn]at hq
 rw[decide_eq_false hn]
 obtain⟨hb0,hb1,hb2⟩:=Tr.body hn
 (((refine mif_false ?_;refine mop_c trivial ?_;refine mm_ld hM ?_;refine mop_c trivial ?_)))
 refine mm_call hM (bdirect_ok t.ls.length pl (by omega) hM.fz) ?_
 rintro H1 v w5 l1 hM ⟨D,c,rfl,hD⟩
 have hdl:=dirL_len t.size pl
 have hnd:=dir_nodup (n:=t.size) (l:=pl) (by omega)
 have hdm:=fun x hx=>dir_mem (n:=t.size) (l:=pl) (x:=x) (by omega) hx
 have hside:=fun(D:Nat→Bool) (m:Nat) (hm:m<(dirL t.size pl).length)=>hR.side_hash (pl:=pl) ⟨hb0,hb2⟩ (nw:=newP t pl (dirL t.size pl) keys) (D:=D) hm
 have hwok:=fun(m:Nat) (hm:m<(dirL t.size pl).length)=>way_ok (n:=t.size) (pl:=pl) ⟨hb0,hb2,by omega⟩ hm
 rw[← hts]at hD ⊢
 generalize hDL:dirL t.size pl=DL at *
 (((refine mop_c trivial ?_;refine mop_c trivial ?_)))
 (((refine mop_cS trivial ?_ ?_)))
 ·intro hne
  rw[if_pos (by omega)]at hq
  (((refine mif_true ?_;refine mop_c trivial ?_;refine mm_st hM ?_;clear hM;intro _ hM;refine rm_ld hM ?_)))
  exact hM.out l1 (hq _ _ _ rfl (trF_none H1))
 intro hne
 have hkd:DL.length=keys.length:=by omega
 rw[if_neg (by omega)]at hq
 have hK:=hK.mono l1.le
 (((refine mif_false ?_;refine mm_ld hM ?_)))
 refine mm_own (clone_ok (h1.mono l1.le) (h2.mono l1.le) (h3.mono fun _ _ h=>h.mono l1.le) (by omega) (by omega) (fun p hp=>by have:=(hR.loose p hp).1;omega) hM) ?_
 rintro v w' ⟨A',a',B',b',X,rfl,hX,hM⟩
 have hXl:X.length=t.ps.length:=by rw[← hX,List.length_map]
 obtain⟨g4,rfl⟩:=hM.rowAt ⟨.refl _⟩ (by omega)
 (((refine mm_st hM ?_;clear hM;intro _ hM;refine mop_c trivial ?_;refine mm_new hM ?_;clear hM;intro _ _ hM;refine mm_st hM ?_;clear hM;intro _ hM;refine mop_c trivial ?_;refine mop_c ?_ ?_));(focus omega))
 rename_i g12 _ _
 have hdone:∀ m,m=DL.length→pthPs DL (newP t pl DL keys) (fun j=>decide (m≤j)) t.ps=t.ps:=fun m hm=>pthPs_none fun j hj=>decide_eq_false (by omega)
 refine⟨fun v w'=>∃ (m:Nat) (Y:List Xp),v=.int .i64 ((m:Int) - 1)∧m≤DL.length∧Y.map (·.1)=pthPs DL (newP t pl DL keys) (fun j=>decide (m≤j)) t.ps∧Y.length=t.ps.length∧Mem H1 w1 [fb g12 34 [.arr 32 (u8s (sd t pl DL keys m).1)],fb g1 25 (tfd (some ⟨g4,0,none⟩) t.ls.length a' B' t.ps.length b'),fb g5 34 [.arr 32 (u8s pub.1)],fb g2 25 (tfd none 0 0 none 0 0),rowR 40 97 (some ⟨g4,0,none⟩) t.ls.length a' (t.ls.map Lf.fds),rowR 69 66 B' t.ps.length b' (Y.map xrow),allR Y] w',fun v _=>match v with | .int _ k=>(k+1).toNat|_=>0,⟨DL.length,X,rfl,by omega,by rw[hX,hdone _ rfl],hXl,?_⟩,?_⟩
 ·rw[sd_end]
  exact hM.same
 clear hM
 rintro v u w6 ⟨m,Y,rfl,hm,hY,hYl,hM⟩
 cases m with
 | zero=>
  have hY:Y.map (·.1)=pthPs DL (newP t pl DL keys) (fun _=>true) t.ps:=hY.trans (by
   unfold pthPs
   refine List.ext_getElem (by simp) fun k e1 e2=>?_
   simp)
  have hRt:Tr.Rt ⟨t.ls,Y.map (·.1)⟩:=by
   rw[hY]
   exact pathT_rt hR
  obtain⟨l0,hl0⟩:∃ l0,t.ls[pl.toNat]=l0:=⟨_,rfl⟩
  have hk0:(t.ls.map Lf.fds)[pl.toNat]?=some l0.fds:=by rw[← hl0];exact map_at hb1
  (((refine mop_cF trivial ?_ ?_));(focus (first|assumption|omega|with_reducible rfl|exact fun h=>Bool.noConfusion h));((refine mif_false ?_)))
  refine⟨Rl.only fun k=>(some ⟨g4,0,none⟩:Option Addr)=some ⟨k,0,none⟩,?_⟩
  (((refine dp_c trivial ?_;refine dS_ld hM hM.neA ?_;refine dp_c trivial ?_;(iterate 3 refine dS_ld hM hM.neA ?_);refine dp_ixr hM ?_ ?_));(focus omega);((intro _ hA));(cases hA);((refine dp_c trivial ?_)))
  refine dS_stf rfl hM hk0 (fun w' hM=>?_)
  have hz:[Fd.one (.int .i64 l0.name),.arr 32 (u8s pub.1),.arr 32 (u8s l0.ver.1),.arr 32 (u8s l0.abv.1)]=(l0.key pub l0.abv).fds:=rfl
  rw[hz]at hM
  have hk1:((t.ls.map Lf.fds).set pl.toNat (l0.key pub l0.abv).fds)[pl.toNat]?=some (l0.key pub l0.abv).fds:=by
   rw[List.getElem?_set_self (by simpa using hb1)]
  (((refine dp_ixr hM ?_ ?_));(focus omega);((intro _ hA));(cases hA);((refine dp_c trivial ?_)))
  refine dS_stf rfl hM hk1 (fun w' hM=>?_)
  have hz3:[Fd.one (.int .i64 (l0.key pub l0.abv).name),.arr 32 (u8s (l0.key pub l0.abv).pub.1),.arr 32 (u8s (l0.key pub l0.abv).ver.1),.arr 32 (u8s (sd t pl DL keys 0).1)]=(l0.key pub (sd t pl DL keys 0)).fds:=rfl
  rw[hz3,List.set_set,← List.map_set]at hM
  have hmod:t.ls.set pl.toNat (l0.key pub (sd t pl DL keys 0))=t.ls.modify pl.toNat (·.key pub (sd t pl DL keys 0)):=by
   refine List.ext_getElem (by simp) fun i k1 k2=>?_
   simp only[List.getElem_modify,List.getElem_set]
   split
   ·rename_i e
    subst e
    rw[hl0]
   ·rfl
  rw[hmod]at hM
  have hsl:(t.ls.modify pl.toNat (·.key pub (sd t pl DL keys 0))).length=t.ls.length:=List.length_modify ..
  obtain⟨ls2,hls⟩:∃ ls2,t.ls.modify pl.toNat (·.key pub (sd t pl DL keys 0))=ls2:=⟨_,rfl⟩
  rw[hls]at hM hsl hq
  rw[← hsl,← hYl]at hM
  (((refine mm_end hM ?_;clear hM;intro _ hM;refine mm_ld hM ?_;refine mm_st hM ?_;clear hM;intro _ hM;refine rm_ld hM ?_)))
  have hM:Mem H1 w1 [rowR 40 97 (some ⟨g4,0,none⟩) ls2.length a' (ls2.map Lf.fds),rowR 69 66 B' Y.length b' (Y.map xrow),allR Y] _:=hM.sub
  obtain⟨H4,l4,hM,hT⟩:=hM.frzT (fun x hx=>by have:=(hRt.loose x.1 (List.mem_map_of_mem hx)).1;simp only[maxLen];omega)
  refine hM.out (l1.trans l4) (hq _ _ _ rfl ?_)
  rw[hY]at hT
  exact hT
 | succ i=>
  rw[show(((i+1:Nat):Int) - 1)=(i:Int) by omega]
  have hi:i<DL.length:=by omega
  have hik:i<keys.length:=by omega
  have hxm:=hdm DL[i] (List.getElem_mem _)
  have hkx:(DL[i] / 2).toNat<Y.length:=by omega
  obtain⟨gB,rfl⟩:=(hM.up B').rowAt ⟨.refl _⟩ (by omega)
  obtain⟨kb,ko,rfl⟩:=hK.some_ (by simp[kfds];omega)
  obtain⟨db,dd,rfl⟩:=hD.some_ (by simp[ints8];omega)
  have hnew:newP t pl DL keys i=⟨true,keys[i],sd t pl DL keys (i+1),[]⟩:=by
   unfold newP
   rw[List.getD_eq_getElem?_getD,List.getElem?_eq_getElem hik]
   rfl
  have hrow:xrow (newP t pl DL keys i,none,0)=[Fd.one (.bool true),.arr 32 (u8s keys[i].1),.arr 32 (u8s (sd t pl DL keys (i+1)).1),.one (.slice none 0 0)]:=by
   rw[hnew]
   rfl
  (((refine mop_cT trivial ?_ ?_));(focus (first|assumption|omega|with_reducible rfl|exact fun h=>Bool.noConfusion h));((refine mif_true ?_;refine dp_c trivial ?_;refine dm_ld hM ?_));(refine dp_ixs ‹_› ?_ ?_ ?_);(focus (simp only[List.length_map];omega));(focus (simp only[List.length_map];first|done|omega));((intro _ _ hA));(cases hA);(refine dm_lds0 hM ‹_› (map_atI ?_) ?_);(focus omega);((refine dp_c ?_ ?_));(focus omega);(refine dp_ixs ‹_› ?_ ?_ ?_);(focus (simp only[List.length_map];omega));(focus (simp only[List.length_map];first|done|omega));((intro _ _ hA));(cases hA);(refine dm_lds0 hM ‹_› (map_atI ?_) ?_);(focus omega);((refine dm_ld hM ?_;refine dp_c trivial ?_;refine dp_ixr hM ?_ ?_));(focus omega);((intro _ hA));(cases hA))
  refine df_no hM (fun w' hM=>?_)
  refine mm_str hM (by omega) (fun w' hM=>?_)
  rw[← hrow,← List.map_set]at hM
  have hM:=((hM.at_ (allR Y)).outk hkx).drop
  have h0:Mem H1 w1 (xres (newP t pl DL keys i,none,0)::restR Y (DL[i] / 2).toNat::_) _:=hM.row0 3 1
  have hM:=h0.ink hkx
  have hY2:(Y.set (DL[i] / 2).toNat (newP t pl DL keys i,none,0)).map (·.1)=pthPs DL (newP t pl DL keys) (fun j=>decide (i≤j)) t.ps:=by
   rw[List.map_set,hY]
   exact pthPs_set hnd hi ⟨hxm.2.1,hxm.2.2.1⟩ fun j hj=>by simp only[decide_eq_true_eq];omega
  have hYl2:(Y.set (DL[i] / 2).toNat (newP t pl DL keys i,none,0)).length=t.ps.length:=by rw[List.length_set];exact hYl
  clear hY hYl hrow h0
  generalize Y.set (DL[i] / 2).toNat (newP t pl DL keys i,none,0)=Z at *
  have hM:Mem H1 w1 [fb g12 34 [.arr 32 (u8s (sd t pl DL keys (i+1)).1)],fb g1 25 (tfd (some ⟨g4,0,none⟩) t.ls.length a' (some ⟨gB,0,none⟩) t.ps.length b'),fb g5 34 [.arr 32 (u8s pub.1)],fb g2 25 (tfd none 0 0 none 0 0),rowR 40 97 (some ⟨g4,0,none⟩) t.ls.length a' (t.ls.map Lf.fds),rowR 69 66 (some ⟨gB,0,none⟩) t.ps.length b' (Z.map xrow),allR Z] _:=hM.same
  have hRt:Tr.Rt ⟨t.ls,Z.map (·.1)⟩:=by
   rw[hY2]
   exact pathT_rt hR
  obtain⟨k1,k2,k3,k4⟩:=hwok i hi
  have hHash:∀ w,Mem H1 w1 [rowR 40 97 (some ⟨g4,0,none⟩) t.ls.length a' (t.ls.map Lf.fds),rowR 69 66 (some ⟨gB,0,none⟩) t.ps.length b' (Z.map xrow),allR Z] w→Calls Tryz.prog 96 #[tv (some ⟨g4,0,none⟩) t.ls.length a' (some ⟨gB,0,none⟩) t.ps.length b',.int .i64 (bs t.size (wNode pl DL i))] w fun en w'=>en=.returned (ha (hAt 8 t (bs t.size (wNode pl DL i))))∧St w [] w':=fun w hM=>by
   rw[← hYl2]at hM ⊢
   have h:=hashAtT_ok (t:=⟨t.ls,Z.map (·.1)⟩) (bs t.size (wNode pl DL i)) (hM.readsT fun x hx=>by have:=(hRt.loose x.1 (List.mem_map_of_mem hx)).1;simp only[maxLen];omega) (Fz.of w)
   rw[if_pos ⟨Tr.rt.2 hRt,k3.2.1,k3.2.2⟩,hY2,hside _ i hi]at h
   exact h
  (((refine mm_end hM ?_;clear hM;intro _ hM;refine mop_c ?_ ?_));(focus omega))
  refine⟨fun v w'=>v=.int .i64 (wNode pl DL i)∧hM.now w',?_,?_⟩
  ·(((refine mop_cS trivial ?_ ?_)))
   ·intro hpos
    (((refine mif_true ?_;refine mop_c ?_ ?_));(focus omega);(refine mm_ixs ‹_› ?_ ?_ ?_);(focus (simp only[List.length_map];omega));(focus (simp only[List.length_map];first|done|omega));((intro _ _ hA));(cases hA);(refine mm_lds0 hM ‹_› (map_at ?_) ?_);(focus omega))
    refine⟨?_,hM⟩
    congr 1
    rw[wNode_eq (by omega)]
    cases i with
    | zero=>omega
    | succ i=>
     rw[List.getElem_cons_succ]
     congr 1
     omega
   ·intro hz
    obtain rfl:i=0:=by omega
    (((refine mif_false ?_)))
    exact⟨rfl,hM⟩
  rintro v u7 w7 ⟨rfl,hM⟩
  refine⟨fun v w'=>∃ g15,v=.pointer (some ⟨g15,0,none⟩)∧Mem H1 w1 [fb g15 34 [.arr 32 (u8s (hAt 8 t (bs t.size (wNode pl DL i))).1)],fb g12 34 [.arr 32 (u8s (sd t pl DL keys (i+1)).1)],fb g1 25 (tfd (some ⟨g4,0,none⟩) t.ls.length a' (some ⟨gB,0,none⟩) t.ps.length b'),fb g5 34 [.arr 32 (u8s pub.1)],fb g2 25 (tfd none 0 0 none 0 0),rowR 40 97 (some ⟨g4,0,none⟩) t.ls.length a' (t.ls.map Lf.fds),rowR 69 66 (some ⟨gB,0,none⟩) t.ps.length b' (Z.map xrow),allR Z] w',⟨?_,?_,?_⟩,?_⟩
  ·(((refine dm_ld hM ?_;refine dm_purC hM ?_ (fun _ _ hM=>?_)));(focus (first|exact trivial|assumption|omega)))
   refine dm_pure hM (fun w hM=>hHash w hM.sub) (fun w' hx hM=>?_)
   (((refine dm_new hM ?_;clear hM;intro _ _ hM;refine dS_st hM ?_;clear hM;intro _ hM;refine mm_end hM ?_;clear hM;intro _ hM)))
   exact⟨_,rfl,hM.same⟩
  ·(((refine dm_ld hM ?_;refine dm_purC hM ?_ (fun _ _ hM=>?_)));(focus (first|exact trivial|assumption|omega));((refine dm_new hM ?_;clear hM;intro _ _ hM)))
   refine dm_pure hM (fun w hM=>hHash w hM.sub) (fun w' hx hM=>?_)
   (((refine dS_st hM ?_;clear hM;intro _ hM;refine mm_end hM ?_;clear hM;intro _ hM)))
   exact⟨_,rfl,hM.same⟩
  ·(((refine dm_ld hM ?_;refine dm_new hM ?_;clear hM;intro _ _ hM;refine dm_purC hM ?_ (fun _ _ hM=>?_)));(focus (first|exact trivial|assumption|omega)))
   refine dm_pure hM (fun w hM=>hHash w hM.sub) (fun w' hx hM=>?_)
   (((refine dS_st hM ?_;clear hM;intro _ hM;refine mm_end hM ?_;clear hM;intro _ hM)))
   exact⟨_,rfl,hM.same⟩
  clear hM
  rintro v u8 w8 ⟨g15,rfl,hM⟩
  ((refine dp_ixs ‹_› ?_ ?_ ?_);(focus (simp only[List.length_map];omega));(focus (simp only[List.length_map];first|done|omega));((intro _ _ hA));(cases hA);((refine dp_c trivial ?_)))
  rw[Int.toNat_natCast]
  refine dm_cvs hM hK (map_at hik) keys[i].2.1 ?_
  (((refine dp_c trivial ?_;refine dm_cvb hM ?_;refine dp_c trivial ?_;refine dm_cvb hM ?_;refine dS_bsl hM ?_ ?_ ?_));(focus rfl);(focus (constructor <;> simp));((clear hM;intro _ _ hM)))
  refine dm_pure hM (fun w hM=>sum4_ok babove (strOfNums keys[i].1) (strOfNums (sd t pl DL keys (i+1)).1) (strOfNums (hAt 8 t (bs t.size (wNode pl DL i))).1) (by rw[strOfNums_size,strOfNums_size,strOfNums_size,keys[i].2.1,(sd t pl DL keys (i+1)).2.1,(hAt 8 t (bs t.size (wNode pl DL i))).2.1];decide) hM) (fun w' hx hM=>?_)
  rw[ints_h,ints_h,ints_h]
  have hsd:shaH (ints babove++(keys[i].1++(sd t pl DL keys (i+1)).1++(hAt 8 t (bs t.size (wNode pl DL i))).1))=sd t pl DL keys i:=by
   rw[sd_step hi,List.getD_eq_getElem?_getD,List.getElem?_eq_getElem hik]
   rfl
  rw[hsd]
  (((refine dS_st hM ?_;clear hM;intro _ hM;refine mm_end hM ?_;clear hM;intro _ hM;refine mop_c ?_ ?_));(focus omega))
  exact⟨⟨i,Z,rfl,by omega,hY2,hYl2,hM.sub⟩,by simp only;omega⟩
end
end Go.Proofs.YtpjodlnlmaaihaaGreat
namespace Go.Proofs.YtpjodlnlmaaihaaGreat
open Go.RowKit
theorem xor_bv (a b:Int):bits .xor .u8 a b=((BitVec.ofInt 8 a ^^^ BitVec.ofInt 8 b).toNat:Int):=by
 have h:=(BitVec.ofInt 8 a ^^^ BitVec.ofInt 8 b).isLt
 have e:bits .xor .u8 a b=IntKind.u8.wrap ((BitVec.ofInt 8 a ^^^ BitVec.ofInt 8 b).toNat:Int):=rfl
 rw[e]
 generalize (BitVec.ofInt 8 a ^^^ BitVec.ofInt 8 b).toNat=n at h
 show(n:Int)%256=n
 omega
theorem xor_xor {a b:Int} (ha:0≤a∧a<256):bits .xor .u8 (bits .xor .u8 a b) b=a:=by
 rw[xor_bv,xor_bv]
 have e:BitVec.ofInt 8 ((BitVec.ofInt 8 a ^^^ BitVec.ofInt 8 b).toNat:Int)=BitVec.ofInt 8 a ^^^ BitVec.ofInt 8 b:=by rw[BitVec.ofInt_natCast,BitVec.ofNat_toNat,BitVec.setWidth_eq]
 rw[e,BitVec.xor_assoc,BitVec.xor_self,BitVec.xor_zero,BitVec.toNat_ofInt]
 omega
theorem xor_rng (a b:Int):0≤bits .xor .u8 a b∧bits .xor .u8 a b<256:=by
 have h:=(BitVec.ofInt 8 a ^^^ BitVec.ofInt 8 b).isLt
 rw[xor_bv]
 omega
def crossL:List Int→List Int→List Int
 | r::rs,t::ts=>bits .xor .u8 t r::crossL rs ts
 | _,_=>[]
theorem crossL_len:∀ {r t:List Int},t.length≤r.length→(crossL r t).length=t.length
 | _,[],_=>by simp[crossL]
 | [],_::_,h=>by simp at h
 | r::rs,t::ts,h=>by
  simp only[crossL,List.length_cons]
  rw[crossL_len (by simpa using h)]
theorem crossL_rng:∀ {r t:List Int},∀ x∈crossL r t,0≤x∧x<256
 | [],_,x,h=>by simp[crossL]at h
 | _::_,[],x,h=>by simp[crossL]at h
 | r::rs,t::ts,x,h=>by
  simp only[crossL,List.mem_cons]at h
  rcases h with rfl|h
  ·exact xor_rng _ _
  ·exact crossL_rng x h
theorem cross_cross:∀ {r t:List Int},t.length≤r.length→(∀ x∈t,0≤x∧x<256)→crossL r (crossL r t)=t
 | _,[],_,_=>by simp[crossL]
 | [],_::_,h,_=>by simp at h
 | r::rs,t::ts,h,ht=>by
  simp only[crossL]
  rw[xor_xor (ht t (List.mem_cons_self ..)),cross_cross (by simpa using h) (fun x hx=>ht x (List.mem_cons_of_mem _ hx))]
end Go.Proofs.YtpjodlnlmaaihaaGreat
namespace Go.Proofs.YtpjodlnlmaaihaaGreat
open Go.RowKit
section
variable (row:H32→Nat→List Int) (tag:H32→List Int→List Int→List Int)
def sealL (key:H32) (about t:List Int):List Int:=crossL (row key t.length) t++tag key about (crossL (row key t.length) t)
def openL (key:H32) (about s:List Int):Option (List Int):=
 if s.length<16 then none else if tag key about (s.take (s.length - 16))=s.drop (s.length - 16) then some (crossL (row key (s.length - 16)) (s.take (s.length - 16))) else none
variable {row tag}
theorem open_seal (hr:∀ k n,(row k n).length=n) (ht:∀ k a b,(tag k a b).length=16) {key:H32} {about t:List Int} (h:∀ x∈t,0≤x∧x<256):openL row tag key about (sealL row tag key about t)=some t:=by
 have hl:(crossL (row key t.length) t).length=t.length:=crossL_len (by rw[hr];omega)
 have hs:(sealL row tag key about t).length=t.length+16:=by
  unfold sealL
  rw[List.length_append,hl,ht]
 have h1:(sealL row tag key about t).take t.length=crossL (row key t.length) t:=by
  unfold sealL
  exact List.take_left' hl
 have h2:(sealL row tag key about t).drop t.length=tag key about (crossL (row key t.length) t):=by
  unfold sealL
  exact List.drop_left' hl
 unfold openL
 rw[hs,if_neg (by omega),Nat.add_sub_cancel,h1,h2,if_pos rfl,cross_cross (by rw[hr];omega) h]
variable (kem:H32→List Int→H32) (row tag)
def wrapL (pub once:H32) (about t:List Int):List Int:=once.1++sealL row tag (kem pub once.1) about t
variable {row tag kem}
end
end Go.Proofs.YtpjodlnlmaaihaaGreat
namespace Go.Proofs.YtpjodlnlmaaihaaGreat
open Go.RowKit Go.Lib
abbrev spub:ByteArray:=ByteArray.mk #[112,117,98]
abbrev smark:ByteArray:=ByteArray.mk #[109,97,114,107]
abbrev skem:ByteArray:=ByteArray.mk #[107,101,109]
abbrev sstream:ByteArray:=ByteArray.mk #[115,116,114,101,97,109]
abbrev stag:ByteArray:=ByteArray.mk #[116,97,103]
abbrev es0:ByteArray:=ByteArray.mk #[]
def pubH (k:H32):H32:=shaH (ints spub++k.1)
def markH (k:H32):H32:=shaH (ints smark++k.1)
def kemH (pub:H32) (once:List Int):H32:=shaH (ints skem++(pub.1++once))
def drv (k:H32) (l c:ByteArray):H32:=derivedH k.1 l c
theorem cat3 (a b c:ByteArray):cat [a,b,c]=ints a++(ints b++ints c):=by simp[cat]
section
variable {H:Hp} {w0 w:World} {L R:List Res} {A B:Option Addr} {a b n m:Nat}
theorem sum3_ok {A:Option Addr} {e:Nat} (a b c:ByteArray) (hs:a.size+b.size+c.size<1000000000000) (hM:Mem H w0 L w) [k:AtA L A 3 3 e 1 [[.one (.string a)],[.one (.string b)],[.one (.string c)]] R]:
  Calls Tryz.prog 80 #[.slice A 3 3] w fun en w'=>en=.returned (.agg (u8s (shaH (ints a++(ints b++ints c))).1).toArray)∧St w [] w':=by
 have h:=sum_ok A [a,b,c] 3 w (hM.rd k) (by simp) (by rw[cat3];simp only[List.length_append,ints_length];omega)
 rw[cat3]at h
 exact h
theorem note_nil (hm:m≠0) (w:World):Calls Tryz.prog 36 #[.pointer none,tv A n a B m b] w fun en w'=>en=.returned (.int .i64 0)∧St w [] w':=by
 have hM:=Mem.start (Fz.of w)
 refine C_book_Book_Note ?_
 unfold F_book_Book_Note
 (((refine mm_box hM ?_;clear hM;intro _ _ hM;refine mop_c trivial ?_;refine mm_ld hM ?_;refine mop_c trivial ?_;refine mop_cF trivial ?_ ?_));(focus (first|assumption|omega|with_reducible rfl|exact fun h=>Bool.noConfusion h));((refine mif_false ?_;refine mop_c trivial ?_;refine mif_true ?_)))
 exact⟨rfl,hM.st⟩
instance:PurC Tryz.prog 36 [.pointer none,tv A n a B m b] (m≠0) (.int .i64 0):=⟨fun h w=>note_nil h w⟩
theorem public_ok (k:H32) (w:World):Calls Tryz.prog 35 #[ha k] w fun en w'=>en=.returned (ha (pubH k))∧St w [] w':=by
 have hM:=Mem.start (Fz.of w)
 refine C_prim_public ?_
 unfold F_prim_public
 (((refine mm_box hM ?_;clear hM;intro _ _ hM;refine mm_new hM ?_;clear hM;intro _ _ hM;refine mop_c trivial ?_;refine mm_cvb hM ?_;refine mm_bsl hM ?_ ?_ ?_));(focus rfl);(focus (constructor <;> simp));((clear hM;intro _ _ hM)))
 refine mm_pure hM (sum2_ok spub (strOfNums k.1) (by rw[strOfNums_size,k.2.1];decide) hM) (fun w2 hM=>?_)
 rw[ints_h]
 (((refine mm_st hM ?_;clear hM;intro _ hM;refine rm_ld hM ?_)))
 exact⟨rfl,hM.st⟩
instance (k:H32):PurC Tryz.prog 35 [.agg (u8s k.1).toArray] True (.agg (u8s (pubH k).1).toArray):=⟨fun _ w=>public_ok k w⟩
theorem mark_ok (k:H32) (w:World):Calls Tryz.prog 37 #[ha k] w fun en w'=>en=.returned (ha (markH k))∧St w [] w':=by
 have hM:=Mem.start (Fz.of w)
 refine C_prim_Mark ?_
 unfold F_prim_Mark
 (((refine mm_box hM ?_;clear hM;intro _ _ hM;refine mm_new hM ?_;clear hM;intro _ _ hM;refine mop_c trivial ?_;refine mm_cvb hM ?_;refine mm_bsl hM ?_ ?_ ?_));(focus rfl);(focus (constructor <;> simp));((clear hM;intro _ _ hM)))
 refine mm_pure hM (sum2_ok smark (strOfNums k.1) (by rw[strOfNums_size,k.2.1];decide) hM) (fun w2 hM=>?_)
 rw[ints_h]
 (((refine mm_st hM ?_;clear hM;intro _ hM;refine rm_ld hM ?_)))
 exact⟨rfl,hM.st⟩
instance (k:H32):PurC Tryz.prog 37 [.agg (u8s k.1).toArray] True (.agg (u8s (markH k).1).toArray):=⟨fun _ w=>mark_ok k w⟩
theorem ppub_ok (k:H32) (w:World):Calls Tryz.prog 11 #[.pointer none,ha k] w fun en w'=>en=.returned (ha (pubH k))∧St w [] w':=by
 have hM:=Mem.start (Fz.of w)
 refine C_prim_Pub ?_
 unfold F_prim_Pub
 (((refine mm_box hM ?_;clear hM;intro _ _ hM;refine mm_new hM ?_;clear hM;intro _ _ hM;refine mm_ld hM ?_;refine mm_purC hM ?_ ?_));(focus (first|exact trivial|assumption|omega));((clear hM;intro _ hM;refine mm_new hM ?_;clear hM;intro _ _ hM;refine mm_st hM ?_;clear hM;intro _ hM)))
 refine⟨fun w'=>hM.now w',?_,?_⟩
 ·repeat' apply And.intro
  all_goals
   (first|(((refine dm_ld hM ?_;refine dm_ld hM ?_;refine dS_bsl hM ?_ ?_ (fun _ _ hM2=>?_)));(focus rfl);(focus (constructor <;> simp));((replace hM:=hM2;clear hM2;refine dm_purC hM ?_ (fun _ _ hM=>?_)));(focus (first|exact trivial|assumption|omega));((refine dS_bsl hM ?_ ?_ ?_));(focus rfl);(focus (constructor <;> simp));((clear hM;intro _ _ hM;refine dp_c trivial ?_;refine dm_purC hM ?_ (fun _ _ hM=>?_)));(focus (first|exact trivial|assumption|omega));((refine mm_end hM ?_;clear hM;intro _ hM)))|(((refine dm_ld hM ?_;refine dm_ld hM ?_;refine dm_purC hM ?_ (fun _ _ hM=>?_)));(focus (first|exact trivial|assumption|omega));((refine dS_bsl hM ?_ ?_ ?_));(focus rfl);(focus (constructor <;> simp));((clear hM;intro _ _ hM;refine dS_bsl hM ?_ ?_ ?_));(focus rfl);(focus (constructor <;> simp));((clear hM;intro _ _ hM;refine dp_c trivial ?_;refine dm_purC hM ?_ (fun _ _ hM=>?_)));(focus (first|exact trivial|assumption|omega));((refine mm_end hM ?_;clear hM;intro _ hM))))
   exact hM.sub
 rintro u w2 hM
 (((refine mm_ld hM ?_;refine mm_st hM ?_;clear hM;intro _ hM;refine rm_ld hM ?_)))
 exact⟨rfl,hM.st⟩
instance (k:H32):PurC Tryz.prog 11 [.pointer none,.agg (u8s k.1).toArray] True (.agg (u8s (pubH k).1).toArray):=⟨fun _ w=>ppub_ok k w⟩
instance (k:H32) (l c:ByteArray):PurC Tryz.prog 85 [.agg (u8s k.1).toArray,.string l,.string c] (l.size≤1000000∧c.size≤1000000) (.agg (u8s (drv k l c).1).toArray):=⟨fun h w=>deriveH_ok k l c w h.1 h.2⟩
theorem pderive_ok (k:H32) (l c:ByteArray) (h:l.size≤1000000∧c.size≤1000000) (w:World):Calls Tryz.prog 46 #[.pointer none,ha k,.string l,.string c] w fun en w'=>en=.returned (ha (drv k l c))∧St w [] w':=by
 have hM:=Mem.start (Fz.of w)
 refine C_prim_Derive ?_
 unfold F_prim_Derive
 (((refine mm_box hM ?_;clear hM;intro _ _ hM;refine mm_new hM ?_;clear hM;intro _ _ hM;refine mm_ld hM ?_;refine mm_purC hM ?_ ?_));(focus (first|exact trivial|assumption|omega));((clear hM;intro _ hM;refine mm_new hM ?_;clear hM;intro _ _ hM;refine mm_st hM ?_;clear hM;intro _ hM;refine mm_ld hM ?_;refine mm_bsl hM ?_ ?_ ?_));(focus rfl);(focus (constructor <;> simp));((clear hM;intro _ _ hM;refine mm_ld hM ?_;refine mm_bsl hM ?_ ?_ ?_));(focus rfl);(focus (constructor <;> simp));((clear hM;intro _ _ hM;refine mop_c trivial ?_;refine mm_purC hM ?_ ?_));(focus (first|exact trivial|assumption|omega));((clear hM;intro _ hM;refine mm_ld hM ?_;refine mm_st hM ?_;clear hM;intro _ hM;refine rm_ld hM ?_)))
 exact⟨rfl,hM.st⟩
instance (k:H32) (l c:ByteArray):PurC Tryz.prog 46 [.pointer none,.agg (u8s k.1).toArray,.string l,.string c] (l.size≤1000000∧c.size≤1000000) (.agg (u8s (drv k l c).1).toArray):=⟨fun h w=>pderive_ok k l c h w⟩
theorem shared_ok (p:H32) (o:List Int) (ho:∀ x∈o,0≤x∧x<256) (hn:o.length≤1000000) (w:World):Calls Tryz.prog 91 #[ha p,.string (strOfNums o)] w fun en w'=>en=.returned (ha (kemH p o))∧St w [] w':=by
 have hM:=Mem.start (Fz.of w)
 refine C_prim_shared ?_
 unfold F_prim_shared
 (((refine mm_box hM ?_;clear hM;intro _ _ hM;refine mm_new hM ?_;clear hM;intro _ _ hM;refine mop_c trivial ?_;refine mm_cvb hM ?_;refine mm_bsl hM ?_ ?_ ?_));(focus rfl);(focus (constructor <;> simp));((clear hM;intro _ _ hM)))
 refine mm_pure hM (sum3_ok skem (strOfNums p.1) (strOfNums o) (by rw[strOfNums_size,strOfNums_size,p.2.1];show 3+32+_<_;omega) hM) (fun w2 hM=>?_)
 rw[ints_h,ints_str _ ho]
 (((refine mm_st hM ?_;clear hM;intro _ hM;refine rm_ld hM ?_)))
 exact⟨rfl,hM.st⟩
end
end Go.Proofs.YtpjodlnlmaaihaaGreat
namespace Go.Proofs.YtpjodlnlmaaihaaGreat
open Go.RowKit Go.Lib
def lvsOk (s:List Int) (ls:List Lf):Prop:=(∀ l∈ls,l=Lf.zero∨(1≤l.name∧l.name≤64))∧(∀ l∈ls,l.name≠0→l.name∉s)∧∀ i j (hi:i<ls.length) (hj:j<ls.length),i<j→ls[i].name≠0→ls[i].name≠ls[j].name
theorem lvsOk_cons {s:List Int} {l:Lf} {r:List Lf}:lvsOk s (l::r)↔(l=Lf.zero∧lvsOk s r)∨((1≤l.name∧l.name≤64)∧l.name∉s∧lvsOk (l.name::s) r):=by
 constructor
 ·rintro⟨h1,h2,h3⟩
  have hr1:∀ x∈r,x=Lf.zero∨(1≤x.name∧x.name≤64):=fun x hx=>h1 x (List.mem_cons_of_mem _ hx)
  have hr3:∀ i j (hi:i<r.length) (hj:j<r.length),i<j→r[i].name≠0→r[i].name≠r[j].name:=fun i j hi hj hij hn=>by
   have:=h3 (i+1) (j+1) (by simpa using hi) (by simpa using hj) (by omega)
   simpa using this hn
  rcases h1 l (List.mem_cons_self ..) with hz|hz
  ·exact .inl ⟨hz,hr1,fun x hx=>h2 x (List.mem_cons_of_mem _ hx),hr3⟩
  ·refine .inr ⟨hz,h2 l (List.mem_cons_self ..) (by omega),hr1,fun x hx hn hm=>?_,hr3⟩
   rcases List.mem_cons.1 hm with e|hm
   ·obtain⟨j,hj,rfl⟩:=List.getElem_of_mem hx
    have:=h3 0 (j+1) (by simp) (by simpa using hj) (by omega)
    simp only[List.getElem_cons_zero,List.getElem_cons_succ]at this
    exact this (by omega) e.symm
   ·exact h2 x (List.mem_cons_of_mem _ hx) hn hm
 ·rintro(⟨hz,h1,h2,h3⟩|⟨hz,hs,h1,h2,h3⟩)
  ·refine⟨fun x hx=>?_,fun x hx hn=>?_,fun i j hi hj hij hn=>?_⟩
   ·rcases List.mem_cons.1 hx with rfl|hx
    ·exact .inl hz
    ·exact h1 x hx
   ·rcases List.mem_cons.1 hx with rfl|hx
    ·rw[hz]at hn
     exact absurd rfl hn
    ·exact h2 x hx hn
   ·cases i with
    | zero=>
     rw[List.getElem_cons_zero,hz]at hn
     exact absurd rfl hn
    | succ i=>
     obtain⟨j,rfl⟩:∃ k,j=k+1:=⟨j - 1,by omega⟩
     simp only[List.getElem_cons_succ]at hn ⊢
     exact h3 i j (by simpa using hi) (by simpa using hj) (by omega) hn
  ·refine⟨fun x hx=>?_,fun x hx hn=>?_,fun i j hi hj hij hn=>?_⟩
   ·rcases List.mem_cons.1 hx with rfl|hx
    ·exact .inr hz
    ·exact h1 x hx
   ·rcases List.mem_cons.1 hx with rfl|hx
    ·exact hs
    ·exact fun hm=>h2 x hx hn (List.mem_cons_of_mem _ hm)
   ·obtain⟨j,rfl⟩:∃ k,j=k+1:=⟨j - 1,by omega⟩
    have hj':j<r.length:=by simpa using hj
    cases i with
    | zero=>
     simp only[List.getElem_cons_zero,List.getElem_cons_succ]at hn ⊢
     intro e
     exact h2 r[j] (List.getElem_mem hj') (by omega) (by rw[← e];exact List.mem_cons_self ..)
    | succ i=>
     simp only[List.getElem_cons_succ]at hn ⊢
     exact h3 i j (by simpa using hi) hj' (by omega) hn
theorem leavesB_iff:∀ {s:List Int} {ls:List Lf},leavesB s ls=true↔lvsOk s ls
 | s,[]=>⟨fun _=>⟨fun _ h=>(by cases h),fun _ h=>(by cases h),fun i j hi=>(by cases hi)⟩,fun _=>rfl⟩
 | s,l::r=>by
  rw[lvsOk_cons]
  unfold leavesB
  by_cases hz:l=Lf.zero
  ·rw[if_pos hz,leavesB_iff]
   constructor
   ·exact fun h=>.inl ⟨hz,h⟩
   ·rintro(⟨-,h⟩|⟨h,-⟩)
    ·exact h
    ·rw[hz]at h
     simp[Lf.zero]at h
  ·rw[if_neg hz,Bool.and_eq_true,decide_eq_true_eq,leavesB_iff]
   constructor
   ·exact fun⟨⟨h1,h2⟩,h3⟩=>.inr ⟨h1,h2,h3⟩
   ·rintro(⟨h,-⟩|⟨h1,h2,h3⟩)
    ·exact absurd h hz
    ·exact⟨⟨h1,h2⟩,h3⟩
theorem looseB_of {n:Int} {ls:List Lf} {x:Int}:∀ {o:Option Int} {l:List Int},(∀ p∈l,hld n x p∧nameAt ls p≠0∧∀ q∈o,q<p)→l.Pairwise (·<·)→looseB n ls x o l=true
 | _,[],_,_=>rfl
 | o,p::r,h,hp=>by
  obtain⟨h1,h2⟩:=List.pairwise_cons.1 hp
  simp only[looseB,Bool.and_eq_true,decide_eq_true_eq]
  refine⟨h p (List.mem_cons_self ..),looseB_of (fun y hy=>?_) h2⟩
  obtain⟨a,b,-⟩:=h y (List.mem_cons_of_mem _ hy)
  exact⟨a,b,fun q hq=>by cases hq;exact h1 y hy⟩
theorem parB_mk {n:Int} {ls:List Lf}:∀ {x:Int} {ps:List Pn},(∀ i (hi:i<ps.length),(ps[i].set=true∨ps[i].isZero)∧looseB n ls (x+2*i) none ps[i].loose=true)→parB n ls x ps=true
 | _,[],_=>rfl
 | x,p::r,h=>by
  have h0:=h 0 (by simp)
  have ih:=parB_mk (n:=n) (ls:=ls) (x:=x+2) (ps:=r) fun i hi=>by
   have:=h (i+1) (by simpa using hi)
   have e:x+2*((i+1:Nat):Int)=x+2+2*(i:Int):=by omega
   rw[e]at this
   simpa using this
  simp only[parB,Bool.and_eq_true,Bool.or_eq_true,decide_eq_true_eq]
  exact⟨by simpa using h0,ih⟩
theorem Tr.Rt.mk' {t:Tr} (h1:t.ls.length≤64∧t.ps.length=t.ls.length - 1) (h2:lvsOk [] t.ls) (h3:∀ i (hi:i<t.ps.length),(t.ps[i].set=true∨t.ps[i].isZero)∧(∀ p∈t.ps[i].loose,hld t.size (2*i+1) p∧nameAt t.ls p≠0)∧t.ps[i].loose.Pairwise (·<·)) (h4:t.ls=[]∨0<nameAt t.ls (t.size - 1)):t.Rt:=
 ⟨h1,leavesB_iff.2 h2,parB_mk fun i hi=>⟨(h3 i hi).1,looseB_of (fun p hp=>by
  have:=(h3 i hi).2.1 p hp
  rw[show(1:Int)+2*i=2*i+1 by omega]
  exact⟨this.1,this.2,fun _ h=>by cases h⟩) (h3 i hi).2.2⟩,h4⟩
theorem Tr.Rt.parts {t:Tr} (h:t.Rt):lvsOk [] t.ls∧∀ i (hi:i<t.ps.length),(t.ps[i].set=true∨t.ps[i].isZero)∧(∀ p∈t.ps[i].loose,hld t.size (2*i+1) p∧nameAt t.ls p≠0)∧t.ps[i].loose.Pairwise (·<·):=
 ⟨leavesB_iff.1 h.leaves,fun i hi=>by
  obtain⟨a,b⟩:=parB_spec h.par i hi
  obtain⟨c,d⟩:=looseB_spec b
  rw[show(1:Int)+2*i=2*i+1 by omega]at c
  exact⟨a,fun p hp=>⟨(c p hp).1,(c p hp).2.1⟩,d⟩⟩
end Go.Proofs.YtpjodlnlmaaihaaGreat
namespace Go.Proofs.YtpjodlnlmaaihaaGreat
open Go.RowKit Go.Lib
theorem nameAt_eq {ls ls':List Lf} (hl:ls'.length=ls.length) (hn:∀ i (h:i<ls'.length),ls'[i].name=(ls[i]'(by omega)).name) (p:Int):nameAt ls' p=nameAt ls p:=by
 unfold nameAt
 by_cases h:p.toNat<ls'.length
 ·rw[List.getElem?_eq_getElem h,List.getElem?_eq_getElem (by omega)]
  exact hn _ h
 ·rw[List.getElem?_eq_none (l:=ls') (by omega),List.getElem?_eq_none (l:=ls) (by omega)]
theorem lvsOk_same {ls ls':List Lf} (h:lvsOk [] ls) (hl:ls'.length=ls.length) (hn:∀ i (h:i<ls'.length),ls'[i].name=(ls[i]'(by omega)).name) (hz:∀ l∈ls',l=Lf.zero∨(1≤l.name∧l.name≤64)):lvsOk [] ls':=
 ⟨hz,fun _ _ _ h=>(by cases h),fun i j hi hj hij hne=>by
  rw[hn i hi]at hne ⊢
  rw[hn j hj]
  exact h.2.2 i j (by omega) (by omega) hij hne⟩
theorem Tr.Rt.turned {t:Tr} (h:t.Rt) {ls:List Lf} {ps:List Pn} (hl:ls.length=t.ls.length) (hn:∀ i (h:i<ls.length),ls[i].name=(t.ls[i]'(by omega)).name) (hz:∀ l∈ls,l=Lf.zero∨(1≤l.name∧l.name≤64))
  (hp:ps.length=t.ps.length) (hq:∀ i (h:i<ps.length),ps[i]=t.ps[i]'(by omega)∨ps[i]=Pn.zero∨(ps[i].set=true∧ps[i].loose=[])):Tr.Rt ⟨ls,ps⟩:=by
 obtain⟨a,b⟩:=h.parts
 have hna:=nameAt_eq hl hn
 have hsz:(⟨ls,ps⟩:Tr).size=t.size:=by unfold Tr.size;simp only;omega
 refine Tr.Rt.mk' ⟨by simp only;have:=h.len.1;omega,by simp only;have:=h.len.2;omega⟩ (lvsOk_same a hl hn hz) (fun i hi=>?_) ?_
 ·have hi2:i<ps.length:=hi
  rw[hsz]
  rcases hq i hi2 with e|e|⟨e1,e2⟩
  ·show(ps[i].set=true∨ps[i].isZero)∧(∀ p∈ps[i].loose,hld t.size (2*i+1) p∧nameAt ls p≠0)∧ps[i].loose.Pairwise (·<·)
   rw[e]
   obtain⟨c,d,f⟩:=b i (by omega)
   exact⟨c,fun p hp=>⟨(d p hp).1,by rw[hna];exact(d p hp).2⟩,f⟩
  ·show(ps[i].set=true∨ps[i].isZero)∧(∀ p∈ps[i].loose,hld t.size (2*i+1) p∧nameAt ls p≠0)∧ps[i].loose.Pairwise (·<·)
   rw[e]
   exact⟨.inr ⟨rfl,rfl,rfl,rfl⟩,fun _ h=>(by cases h),.nil⟩
  ·show(ps[i].set=true∨ps[i].isZero)∧(∀ p∈ps[i].loose,hld t.size (2*i+1) p∧nameAt ls p≠0)∧ps[i].loose.Pairwise (·<·)
   rw[e2]
   exact⟨.inl e1,fun _ h=>(by cases h),.nil⟩
 ·rw[hsz]
  show ls=[]∨0<nameAt ls (t.size - 1)
  rw[hna]
  exact h.last.imp (fun e=>List.eq_nil_of_length_eq_zero (by rw[hl,e];rfl)) id
theorem key_leaves {t:Tr} (h:t.Rt) {p:Int} (hp:¬t.nobody p) (pub abv:H32):∀ l∈t.ls.modify p.toNat (·.key pub abv),l=Lf.zero∨(1≤l.name∧l.name≤64):=fun l hl=>by
 obtain⟨i,hi,rfl⟩:=List.getElem_of_mem hl
 have hi':i<t.ls.length:=by simpa using hi
 have h0:=leavesB_spec h.leaves _ (List.getElem_mem hi')
 rw[List.getElem_modify]
 split
 ·rename_i e
  subst e
  obtain⟨b0,b1,b2⟩:=Tr.body hp
  have hne:nameAt t.ls p≠0:=fun e=>hp (.inr e)
  rw[nameAt_at b0 b1]at hne
  refine .inr ?_
  rcases h0 with h0|h0
  ·rw[h0]at hne
   exact absurd rfl hne
  ·exact h0
 ·exact h0
theorem key_names {ls:List Lf} {k:Nat} {pub abv:H32}:∀ i (h:i<(ls.modify k (·.key pub abv)).length),(ls.modify k (·.key pub abv))[i].name=(ls[i]'(by simpa using h)).name:=fun i h=>by
 rw[List.getElem_modify]
 split <;> rfl
theorem ren_rt {t:Tr} (h:t.Rt) (p:Int) (pub:H32) (h0:(t.renR p pub).2=0):(t.renR p pub).1.Rt:=by
 unfold Tr.renR at h0 ⊢
 by_cases hp:t.nobody p
 ·rw[if_pos hp]at h0
  cases h0
 ·rw[if_neg hp]
  refine h.turned (List.length_modify ..) key_names (key_leaves h hp _ _) (by unfold blankR;simp) fun i hi=>?_
  have e:(blankR t.size p t.ps)[i]'hi=(if hld t.size (2*i+1) p then Pn.zero else t.ps[i]'(by simpa [blankR] using hi)):=List.getElem_mapIdx ..
  rw[e]
  split
  ·exact .inr (.inl rfl)
  ·exact .inl rfl
theorem hld_other {n n' x p:Int} (h:hld n x p) (ht:thr n' x) (hp:p<n'):hld n' x p:=by
 obtain⟨-,-,ht1⟩:=hld_rng h
 obtain⟨-,-,-,-,hF,hT,-⟩:=bough_eq ht1
 obtain⟨-,-,-,-,hF2,hT2,-⟩:=bough_eq ht
 unfold hld at h ⊢
 rw[← hF,← hT]at h
 rw[← hF2,← hT2]
 unfold pFrom pTo at *
 rw[if_pos ht1,if_pos ht1]at h
 rw[if_pos ht,if_pos ht]
 omega
theorem keepN_spec (ls:List Lf):∀ n:Nat,(∀ j,j<n→nameAt ls j≠0→j<keepN ls n)∧(keepN ls n=0∨nameAt ls ((keepN ls n:Int) - 1)≠0)
 | 0=>⟨fun j h=>by omega,.inl rfl⟩
 | n+1=>by
  obtain⟨a,b⟩:=keepN_spec ls n
  unfold keepN
  by_cases h:nameAt ls n=0
  ·rw[if_pos h]
   refine⟨fun j hj hn=>?_,b⟩
   rcases Nat.lt_or_ge j n with h1|h1
   ·exact a j h1 hn
   ·obtain rfl:j=n:=by omega
    exact absurd h hn
  ·rw[if_neg h]
   refine⟨fun j hj _=>hj,.inr ?_⟩
   rw[show(((n+1:Nat):Int) - 1)=(n:Int) by omega]
   exact h
theorem nameAt_set {ls:List Lf} {k:Nat} {l:Lf} {p:Int} (h0:0≤p) (hk:k<ls.length):nameAt (ls.set k l) p=if p=k then l.name else nameAt ls p:=by
 unfold nameAt
 by_cases e:p=k
 ·rw[if_pos e]
  have:p.toNat=k:=by omega
  rw[this,List.getElem?_set_self hk]
 ·rw[if_neg e,List.getElem?_set_ne (by omega)]
theorem nameAt_take {ls:List Lf} {k:Nat} {p:Int} (h:p.toNat<k):nameAt (ls.take k) p=nameAt ls p:=by
 unfold nameAt
 rw[List.getElem?_take,if_pos h]
theorem name_nonneg {ls:List Lf} (h:∀ l∈ls,l=Lf.zero∨(1≤l.name∧l.name≤64)) (p:Int):0≤nameAt ls p:=by
 unfold nameAt
 by_cases hp:p.toNat<ls.length
 ·rw[List.getElem?_eq_getElem hp]
  rcases h _ (List.getElem_mem hp) with e|e
  ·simp only
   rw[e]
   exact Int.le_refl 0
  ·simp only
   omega
 ·rw[List.getElem?_eq_none (by omega)]
  exact Int.le_refl 0
theorem rem_rt {t:Tr} (h:t.Rt) (p:Int) (h0:(t.remR p).2=0):(t.remR p).1.Rt:=by
 unfold Tr.remR at h0 ⊢
 by_cases hp:t.nobody p
 ·rw[if_pos hp]at h0
  cases h0
 rw[if_neg hp]
 obtain⟨b0,b1,b2⟩:=Tr.body hp
 obtain⟨a,b⟩:=h.parts
 have hlen:=h.len
 have hts:t.size=t.ls.length:=rfl
 show(cut (t.ls.set p.toNat Lf.zero) (blankR t.size p t.ps)).Rt
 have hz:∀ l∈t.ls.set p.toNat Lf.zero,l=Lf.zero∨(1≤l.name∧l.name≤64):=fun l hl=>by
  rcases List.mem_or_eq_of_mem_set hl with hl|rfl
  ·exact a.1 l hl
  ·exact .inl rfl
 have hna:∀ x,0≤x→nameAt (t.ls.set p.toNat Lf.zero) x=if x=p then 0 else nameAt t.ls x:=fun x hx=>by
  rw[nameAt_set hx b1,Int.toNat_of_nonneg b0]
  rfl
 have hlv:lvsOk [] (t.ls.set p.toNat Lf.zero):=⟨hz,fun _ _ _ h=>(by cases h),fun i j hi hj hij hne=>by
  have hi':i<t.ls.length:=by simpa using hi
  have hj':j<t.ls.length:=by simpa using hj
  simp only[List.getElem_set]at hne ⊢
  by_cases e1:p.toNat=i
  ·rw[if_pos e1]at hne
   exact absurd rfl hne
  ·rw[if_neg e1]at hne ⊢
   by_cases e2:p.toNat=j
   ·rw[if_pos e2]
    exact hne
   ·rw[if_neg e2]
    exact a.2.2 i j hi' hj' hij hne⟩
 have hll:(t.ls.set p.toNat Lf.zero).length=t.ls.length:=List.length_set
 generalize hls:t.ls.set p.toNat Lf.zero=ls at *
 obtain⟨ks,kl⟩:=keepN_spec ls ls.length
 have kle:=keepN_le ls ls.length
 unfold cut
 generalize hn':keepN ls ls.length=n' at *
 have e1:(ls.take n').length=n':=by rw[List.length_take];omega
 have e2:((blankR t.size p t.ps).take (n' - 1)).length=n' - 1:=by rw[List.length_take];unfold blankR;rw[List.length_mapIdx];omega
 have hsz:(⟨ls.take n',(blankR t.size p t.ps).take (n' - 1)⟩:Tr).size=n':=by unfold Tr.size;simp only;omega
 refine Tr.Rt.mk' ⟨by simp only;omega,by simp only;omega⟩ ⟨fun l hl=>hlv.1 l (List.mem_of_mem_take hl),fun _ _ _ h=>(by cases h),fun i j hi hj hij hne=>?_⟩ (fun i hi=>?_) ?_
 ·simp only[List.getElem_take]at hne ⊢
  exact hlv.2.2 i j (by simp only[List.length_take]at hi;omega) (by simp only[List.length_take]at hj;omega) hij hne
 ·rw[hsz]
  have hi2:i<n' - 1:=by simp only[e2]at hi;exact hi
  have hi3:i<t.ps.length:=by omega
  have hg:((blankR t.size p t.ps).take (n' - 1))[i]'hi=(if hld t.size (2*i+1) p then Pn.zero else t.ps[i]):=by
   simp only[List.getElem_take]
   unfold blankR
   rw[List.getElem_mapIdx]
  show(((blankR t.size p t.ps).take (n' - 1))[i].set=true∨((blankR t.size p t.ps).take (n' - 1))[i].isZero)∧(∀ q∈((blankR t.size p t.ps).take (n' - 1))[i].loose,hld n' (2*i+1) q∧nameAt (ls.take n') q≠0)∧((blankR t.size p t.ps).take (n' - 1))[i].loose.Pairwise (·<·)
  rw[hg]
  by_cases hh:hld t.size (2*i+1) p
  ·rw[if_pos hh]
   exact⟨.inr ⟨rfl,rfl,rfl,rfl⟩,fun _ h=>(by cases h),.nil⟩
  ·rw[if_neg hh]
   obtain⟨c,d,f⟩:=b i hi3
   refine⟨c,fun q hq=>?_,f⟩
   obtain⟨d1,d2⟩:=d q hq
   obtain⟨q0,q1,-⟩:=hld_rng d1
   have hqp:q≠p:=fun e=>hh (e ▸ d1)
   have hqn:nameAt ls q≠0:=by
    rw[hna q q0,if_neg hqp]
    exact d2
   have hqk:q.toNat<n':=ks q.toNat (by omega) (by rw[Int.toNat_of_nonneg q0];exact hqn)
   refine⟨hld_other d1 ⟨by omega,by omega,by omega⟩ (by omega),?_⟩
   rw[nameAt_take hqk]
   exact hqn
 ·rw[hsz]
  show ls.take n'=[]∨0<nameAt (ls.take n') (n' - 1)
  rcases kl with kl|kl
  ·refine .inl ?_
   rw[kl]
   rfl
  ·by_cases hz0:n'=0
   ·refine .inl ?_
    rw[hz0]
    rfl
   ·refine .inr ?_
    rw[nameAt_take (by omega)]
    have:=name_nonneg hz ((n':Int) - 1)
    omega
end Go.Proofs.YtpjodlnlmaaihaaGreat
namespace Go.Proofs.YtpjodlnlmaaihaaGreat
open Go.RowKit Go.Lib
theorem place_none {t:Tr} {x:Int} (h1:1≤x) (h:¬0≤t.place x):∀ l∈t.ls,l.name≠x:=fun l hl e=>by
 unfold Tr.place fix at h
 rw[if_neg (by omega)]at h
 by_cases hf:t.ls.findIdx (fun l=>decide (l.name=x))<t.ls.length
 ·rw[if_pos hf]at h
  omega
 ·have:=List.findIdx_eq_length.1 (show t.ls.findIdx (fun l=>decide (l.name=x))=t.ls.length by have:=List.findIdx_le_length (p:=fun l:Lf=>decide (l.name=x)) (xs:=t.ls);omega) l hl
  simp only[decide_eq_false_iff_not]at this
  exact this e
theorem putL_mem {l:List Int} {x y:Int}:y∈putL l x↔y=x∨y∈l:=by
 induction l with
 | nil=>simp[putL_nil]
 | cons z r ih=>
  rw[putL_cons]
  split
  ·simp only[List.mem_cons,ih]
   constructor
   ·rintro(h|h|h)
    ·exact .inr (.inl h)
    ·exact .inl h
    ·exact .inr (.inr h)
   ·rintro(h|h|h)
    ·exact .inr (.inl h)
    ·exact .inl h
    ·exact .inr (.inr h)
  ·simp only[List.mem_cons]
theorem putL_sorted {l:List Int} {x:Int} (h:l.Pairwise (·<·)) (hx:x∉l):(putL l x).Pairwise (·<·):=by
 induction l with
 | nil=>simp[putL_nil]
 | cons z r ih=>
  obtain⟨h1,h2⟩:=List.pairwise_cons.1 h
  simp only[List.mem_cons,not_or]at hx
  rw[putL_cons]
  by_cases hz:z≤x
  ·rw[if_pos hz]
   refine List.pairwise_cons.2 ⟨fun y hy=>?_,ih h2 hx.2⟩
   rcases putL_mem.1 hy with rfl|hy
   ·omega
   ·exact h1 y hy
  ·rw[if_neg hz]
   refine List.pairwise_cons.2 ⟨fun y hy=>?_,h⟩
   rcases List.mem_cons.1 hy with rfl|hy
   ·omega
   ·have:=h1 y hy
    omega
theorem gap_blank (t:Tr):nameAt t.ls t.gap=0:=by
 unfold nameAt
 rw[Int.toNat_natCast]
 by_cases h:t.gap<t.ls.length
 ·rw[List.getElem?_eq_getElem h]
  have:=List.findIdx_getElem (p:=fun l:Lf=>decide (l.name=0)) (xs:=t.ls) (w:=h)
  simp only[decide_eq_true_eq]at this
  exact this
 ·rw[List.getElem?_eq_none (by omega)]
theorem addL_get {t:Tr} {l:Lf} {i:Nat} (hi:i<(addL t l).length):(addL t l)[i]=l∧i=t.gap∨∃ h:i<t.ls.length,(addL t l)[i]=t.ls[i]∧i≠t.gap:=by
 have hs:=gapM_set t l
 have hg:=gapM_len t l
 have hgl:=t.gap_le
 have e:(addL t l)[i]'hi=((gapM t l).set t.gap l)[i]'(by rw[hs];exact hi):=rfl
 rw[e,List.getElem_set]
 by_cases h:t.gap=i
 ·rw[if_pos h]
  exact .inl ⟨rfl,h.symm⟩
 ·rw[if_neg h]
  have hl:i<t.ls.length:=by
   rw[addL_len]at hi
   split at hi <;> omega
  refine .inr ⟨hl,?_,fun e=>h e.symm⟩
  unfold gapM
  split
  ·rw[List.getElem_append_left hl]
  ·rfl
theorem addL_name {t:Tr} {l:Lf} {x:Int} (h0:0≤x):nameAt (addL t l) x=if x=t.gap then l.name else nameAt t.ls x:=by
 have hgl:=t.gap_le
 have hll:=addL_len t l
 by_cases hx:x.toNat<(addL t l).length
 ·rw[nameAt_at h0 hx]
  rcases addL_get hx with ⟨e,e2⟩|⟨h,e,e2⟩
  ·rw[e,if_pos (by omega)]
  ·rw[e,if_neg (by omega),nameAt_at h0 h]
 ·have hx2:¬x.toNat<t.ls.length:=by split at hll <;> omega
  rw[if_neg (by split at hll <;> omega)]
  unfold nameAt
  rw[List.getElem?_eq_none (l:=addL t l) (by omega),List.getElem?_eq_none (l:=t.ls) (by omega)]
theorem add_rt {t:Tr} (h:t.Rt) (l:Lf) (h0:(t.addR l).2.2=0):(t.addR l).1.Rt:=by
 unfold Tr.addR at h0 ⊢
 by_cases h1:l.name<1∨64<l.name
 ·rw[if_pos h1]at h0
  cases h0
 rw[if_neg h1]at h0 ⊢
 by_cases h2:0≤t.place l.name
 ·rw[if_pos h2]at h0
  cases h0
 rw[if_neg h2]at h0 ⊢
 by_cases h3:t.gap=64
 ·rw[if_pos h3]at h0
  cases h0
 rw[if_neg h3]
 obtain⟨a,b⟩:=h.parts
 have hlen:=h.len
 have hgl:=t.gap_le
 have hpn:=place_none (by omega) h2
 have hal:=addPs_len h l
 have hll:=addL_len t l
 have hgb:=gap_blank t
 have hts:t.size=t.ls.length:=rfl
 show Tr.Rt ⟨addL t l,(addPs t).mapIdx (addF (addL t l).length t.gap)⟩
 have hml:((addPs t).mapIdx (addF (addL t l).length t.gap)).length=(addPs t).length:=by simp
 have hsz:(⟨addL t l,(addPs t).mapIdx (addF (addL t l).length t.gap)⟩:Tr).size=(addL t l).length:=rfl
 have hz:∀ x∈addL t l,x=Lf.zero∨(1≤x.name∧x.name≤64):=fun x hx=>by
  obtain⟨i,hi,rfl⟩:=List.getElem_of_mem hx
  rcases addL_get hi with ⟨e,-⟩|⟨hi2,e,-⟩
  ·rw[e]
   exact .inr (by omega)
  ·rw[e]
   exact a.1 _ (List.getElem_mem hi2)
 refine Tr.Rt.mk' ⟨by simp only;split at hll <;> omega,by simp only;omega⟩ ⟨hz,fun _ _ _ h=>(by cases h),fun i j hi hj hij hne=>?_⟩ (fun i hi=>?_) ?_
 ·have hi':i<(addL t l).length:=hi
  have hj':j<(addL t l).length:=hj
  show(addL t l)[i].name≠(addL t l)[j].name
  have hne:(addL t l)[i].name≠0:=hne
  rcases addL_get hi' with ⟨e,ei⟩|⟨hi2,e,ei⟩
  ·rcases addL_get hj' with ⟨f,fj⟩|⟨hj2,f,fj⟩
   ·omega
   ·rw[e,f]
    exact fun k=>hpn _ (List.getElem_mem hj2) k.symm
  ·rcases addL_get hj' with ⟨f,fj⟩|⟨hj2,f,fj⟩
   ·rw[e,f]
    exact hpn _ (List.getElem_mem hi2)
   ·rw[e]at hne ⊢
    rw[f]
    exact a.2.2 i j hi2 hj2 hij hne
 ·rw[hsz]
  have hi2:i<(addPs t).length:=by rw[← hml];exact hi
  have hg:((addPs t).mapIdx (addF (addL t l).length t.gap))[i]'hi=addF (addL t l).length t.gap i (addPs t)[i]:=List.getElem_mapIdx ..
  show(((addPs t).mapIdx (addF (addL t l).length t.gap))[i].set=true∨((addPs t).mapIdx (addF (addL t l).length t.gap))[i].isZero)∧(∀ q∈((addPs t).mapIdx (addF (addL t l).length t.gap))[i].loose,hld (addL t l).length (2*i+1) q∧nameAt (addL t l) q≠0)∧((addPs t).mapIdx (addF (addL t l).length t.gap))[i].loose.Pairwise (·<·)
  rw[hg]
  have hn64:(addL t l).length≤64:=by split at hll <;> omega
  have hthr:thr (addL t l).length (2*i+1):=⟨⟨by omega,by omega⟩,by omega,by omega⟩
  have hp0:((addPs t)[i].set=true∨(addPs t)[i].isZero)∧(∀ q∈(addPs t)[i].loose,hld (addL t l).length (2*i+1) q∧nameAt (addL t l) q≠0∧q≠t.gap)∧(addPs t)[i].loose.Pairwise (·<·):=by
   have hcase:(∃ h:i<t.ps.length,(addPs t)[i]=t.ps[i])∨(addPs t)[i]=Pn.zero:=by
    unfold addPs at hi2 ⊢
    by_cases hc:t.gap=t.ls.length∧0<t.gap
    ·simp only[if_pos hc]at hi2 ⊢
     by_cases hi3:i<t.ps.length
     ·exact .inl ⟨hi3,List.getElem_append_left hi3⟩
     ·refine .inr ?_
      rw[List.getElem_append_right (by omega)]
      simp
    ·simp only[if_neg hc]at hi2 ⊢
     exact .inl ⟨hi2,trivial⟩
   rcases hcase with ⟨hi3,e⟩|e
   ·rw[e]
    obtain⟨c,d,f⟩:=b i hi3
    refine⟨c,fun q hq=>?_,f⟩
    obtain⟨d1,d2⟩:=d q hq
    obtain⟨q0,q1,-⟩:=hld_rng d1
    have hqg:q≠t.gap:=fun e=>by
     rw[e]at d2
     exact d2 hgb
    refine⟨hld_other d1 hthr (by split at hll <;> omega),?_,hqg⟩
    rw[addL_name q0,if_neg hqg]
    exact d2
   ·rw[e]
    exact⟨.inr ⟨rfl,rfl,rfl,rfl⟩,fun _ h=>(by cases h),.nil⟩
  obtain⟨c,d,f⟩:=hp0
  unfold addF
  by_cases hc:(addPs t)[i].set=true∧hld (addL t l).length (2*i+1) t.gap
  ·rw[if_pos hc]
   refine⟨.inl hc.1,fun q hq=>?_,putL_sorted f fun hm=>(d _ hm).2.2 rfl⟩
   rcases putL_mem.1 hq with rfl|hq
   ·refine⟨hc.2,?_⟩
    rw[addL_name (by omega),if_pos rfl]
    omega
   ·exact⟨(d q hq).1,(d q hq).2.1⟩
  ·rw[if_neg hc]
   exact⟨c,fun q hq=>⟨(d q hq).1,(d q hq).2.1⟩,f⟩
 ·rw[hsz]
  show addL t l=[]∨0<nameAt (addL t l) ((addL t l).length - 1)
  refine .inr ?_
  by_cases hg:t.gap=t.ls.length
  ·rw[if_pos hg]at hll
   rw[addL_name (by omega),if_pos (by omega)]
   omega
  ·rw[if_neg hg]at hll
   have hne:t.ls≠[]:=fun e=>by rw[e]at hgl hg;simp at hgl hg;omega
   have hl:=h.last.resolve_left hne
   have hgne:((addL t l).length:Int) - 1≠t.gap:=fun e=>by
    rw[hts,show(t.ls.length:Int) - 1=t.gap by omega,hgb]at hl
    omega
   rw[addL_name (by omega),if_neg hgne,show((addL t l).length:Int) - 1=t.size - 1 by rw[hll,hts]]
   exact hl
end Go.Proofs.YtpjodlnlmaaihaaGreat
namespace Go.Proofs.YtpjodlnlmaaihaaGreat
open Go.RowKit
theorem rdr_u8:Rdr Tryz.prog 5 1 (fun _ fs (x:Int)=>fs=[.one (.int .u8 x)]∧(Lit.int .u8 x).wf=true):=rdr_int Tryz.underlying5 (by kernel_rfl)
end Go.Proofs.YtpjodlnlmaaihaaGreat
namespace Go.Proofs.YtpjodlnlmaaihaaGreat
open Go.RowKit Go.Lib
structure Ac where
 op:Int
 name:Int
 at_:Int
 key:Int
abbrev Ac.fds (x:Ac):List Fd:=[.one (.int .u8 x.op),.one (.int .i64 x.name),.one (.int .i64 x.at_),.one (.int .u8 x.key)]
def Ac.good (x:Ac):Prop:=(0≤x.op∧x.op<256)∧0≤x.key∧x.key<256
abbrev Ac.leaf (x:Ac):Lf:=⟨x.name,hset (hset hzero 0 x.key) 1 1,hset (hset hzero 0 x.key) 1 2,hset hzero 0 (x.key%3)⟩
theorem none_rt:Tr.none.Rt:=Tr.rt.1 (by decide)
end Go.Proofs.YtpjodlnlmaaihaaGreat
namespace Go.Proofs.YtpjodlnlmaaihaaGreat
open Go.RowKit Go.Lib
end Go.Proofs.YtpjodlnlmaaihaaGreat
namespace Go.Proofs.YtpjodlnlmaaihaaGreat
open Go.RowKit Go.Lib
section
variable {H:Hp} {w0 w:World} {L R:List Res} {A B:Option Addr} {a b:Nat} {t:Tr} {v:Value}
theorem path_c (pl:Int) (pub:H32) (keys:List H32) {K:Option Addr} {kc:Nat} (hkl:keys.length≤1000000) (hK:Sl H 32 K (kfds keys)) (h:TrF H v t) (hf:Fz H w):Calls Tryz.prog 50 #[v,.int .i64 pl,ha pub,.slice K keys.length kc] w (Outp H w fun H' r=>∃ v1,r=.tuple #[v1,.int .i64 (t.pathP pl pub keys).2]∧TrF H' v1 (t.pathP pl pub keys).1):=by
 obtain⟨A,a,B,b,q,rfl,h1,h2,h3⟩:=h.ex
 exact path_q pl pub keys (fun H' v1 r e k=>by rw[e];exact⟨v1,rfl,k⟩) hkl hK h1 h2 h3 h.len.1 h.len.2 hf
end
end Go.Proofs.YtpjodlnlmaaihaaGreat
namespace Go.Proofs.YtpjodlnlmaaihaaGreat
open Go.RowKit Go.Lib
theorem path_rt {t:Tr} (h:t.Rt) (p:Int) (pub:H32) (keys:List H32) (h0:(t.pathR p pub keys).2=0):(t.pathR p pub keys).1.Rt:=by
 unfold Tr.pathR at h0 ⊢
 by_cases hp:t.nobody p
 ·rw[if_pos hp]at h0
  cases h0
 ·rw[if_neg hp]at h0 ⊢
  by_cases hk:(dirL t.size p).length≠keys.length
  ·rw[if_pos hk]at h0
   cases h0
  ·rw[if_neg hk]
   refine h.turned (List.length_modify ..) key_names (key_leaves h hp _ _) pthPs_len fun i hi=>?_
   rcases pthPs_get hi with e|⟨j,-,-,e⟩
   ·exact .inl e
   ·refine .inr (.inr ?_)
    rw[e]
    exact⟨rfl,rfl⟩
end Go.Proofs.YtpjodlnlmaaihaaGreat
namespace Go.Proofs.YtpjodlnlmaaihaaGreat
open Go.RowKit Go.Lib
def resL:Nat→Tr→Int→List Int
 | 0,t,x=>if 0<(leafAt t (x / 2)).name then [x] else []
 | f+1,t,x=>if x%2=0 then (if 0<(leafAt t (x / 2)).name then [x] else []) else if (parAt t (x / 2)).set=true then x::(parAt t (x / 2)).loose.map (2*·) else resL f t (lf t.size x)++resL f t (rt t.size x)
theorem resL_leaf {f:Nat} {t:Tr} {x:Int} (h:x%2=0):resL f t x=if 0<(leafAt t (x / 2)).name then [x] else []:=by
 cases f with
 | zero=>rfl
 | succ f=>rw[resL,if_pos h]
theorem parAt_mem {t:Tr} {x:Int} (h:(x / 2).toNat<t.ps.length):parAt t (x / 2)=t.ps[(x / 2).toNat]:=by
 unfold parAt
 rw[List.getD_eq_getElem?_getD,List.getElem?_eq_getElem h]
 rfl
theorem leafAt_name {t:Tr} {i:Int} (h0:0≤i):(leafAt t i).name=nameAt t.ls i:=by
 unfold leafAt nameAt
 rw[List.getD_eq_getElem?_getD]
 cases t.ls[i.toNat]? <;> rfl
theorem resL_len {t:Tr} (h:t.Rt):∀ (f:Nat) (x:Int),thr t.size x→(resL f t x).length≤65*2 ^ f
 | 0,x,_=>by
  unfold resL
  split <;> simp
 | f+1,x,ht=>by
  have hp:0<2 ^ f:=Nat.pow_pos (by decide)
  have h2:(2:Nat) ^ (f+1)=2 ^ f*2:=Nat.pow_succ 2 f
  unfold resL
  by_cases he:x%2=0
  ·rw[if_pos he]
   split <;> simp <;> omega
  ·rw[if_neg he]
   have hlen:=h.len
   obtain⟨k1,k2,k3⟩:=id ht
   have hts:t.size=t.ls.length:=rfl
   have hix:(x / 2).toNat<t.ps.length:=by omega
   by_cases hs:(parAt t (x / 2)).set=true
   ·rw[if_pos hs,parAt_mem hix]
    have:=(h.loose _ (List.getElem_mem hix)).1
    simp only[List.length_cons,List.length_map]
    omega
   ·rw[if_neg hs]
    obtain⟨⟨t1,t2⟩,-⟩:=lr_eq ht (by omega)
    have:=resL_len h f _ t1
    have:=resL_len h f _ t2
    rw[List.length_append]
    omega
def ovr (n k:Int) (l:List Int):Nat:=l.countP fun y=>decide (y≠2*k∧hld n y k)
def slf (k:Int) (l:List Int):Nat:=l.countP fun y=>decide (y=2*k)
theorem hld_leaf {n p k:Int} (h:thr n (2*p)):hld n (2*p) k↔p=k:=by
 obtain⟨-,e1,e2⟩:=even_eq h (by omega)
 unfold hld
 omega
theorem loose_cnt {n k:Int} {l:List Int} (hp:l.Pairwise (·<·)) (ht:∀ p∈l,thr n (2*p)):ovr n k (l.map (2*·))=0∧slf k (l.map (2*·))≤1∧(k∉l→slf k (l.map (2*·))=0):=by
 induction l with
 | nil=>simp[ovr,slf]
 | cons p r ih=>
  obtain⟨h1,h2⟩:=List.pairwise_cons.1 hp
  obtain⟨i1,i2,i3⟩:=ih h2 fun q hq=>ht q (List.mem_cons_of_mem _ hq)
  have hp:=hld_leaf (k:=k) (ht p (List.mem_cons_self ..))
  unfold ovr slf at *
  simp only[List.map_cons,List.countP_cons,List.mem_cons,not_or]
  by_cases e:p=k
  ·subst e
   have hnm:p∉r:=fun hm=>by have:=h1 p hm;omega
   have:=i3 hnm
   refine⟨?_,?_,fun h=>absurd rfl h.1⟩
   ·rw[i1]
    simp
   ·rw[this]
    simp
  ·have e2:¬2*p=2*k:=by omega
   refine⟨?_,?_,fun h=>?_⟩
   ·rw[i1,decide_eq_false (fun h=>e (hp.1 h.2))]
    simp
   ·rw[decide_eq_false e2,if_neg (by simp),Nat.add_zero]
    exact i2
   ·rw[decide_eq_false e2,i3 h.2]
    simp
theorem ovr_app (n k:Int) (a b:List Int):ovr n k (a++b)=ovr n k a+ovr n k b:=List.countP_append
theorem slf_app (k:Int) (a b:List Int):slf k (a++b)=slf k a+slf k b:=List.countP_append
theorem cover {t:Tr} (h:t.Rt) (k:Int):∀ (f:Nat) (x:Int),level x≤f→thr t.size x →
  (¬hld t.size x k→ovr t.size k (resL f t x)=0∧slf k (resL f t x)=0) ∧
  (hld t.size x k→(nameAt t.ls k=0→slf k (resL f t x)=0)∧(nameAt t.ls k≠0→ovr t.size k (resL f t x)≤1∧slf k (resL f t x)≤1∧1≤ovr t.size k (resL f t x)+slf k (resL f t x))):=by
 have hlen:=h.len
 obtain⟨ha,hb⟩:=h.parts
 have hts:t.size=t.ls.length:=rfl
 have hleaf:∀ (f:Nat) (x:Int),x%2=0→thr t.size x→(¬hld t.size x k→ovr t.size k (resL f t x)=0∧slf k (resL f t x)=0) ∧
  (hld t.size x k→(nameAt t.ls k=0→slf k (resL f t x)=0)∧(nameAt t.ls k≠0→ovr t.size k (resL f t x)≤1∧slf k (resL f t x)≤1∧1≤ovr t.size k (resL f t x)+slf k (resL f t x))):=fun f x he ht=>by
  obtain⟨p,rfl⟩:∃ p,x=2*p:=⟨x / 2,by omega⟩
  have hp0:0≤p:=by have:=ht.2.1;omega
  rw[resL_leaf (by omega),leafAt_name (by omega),show 2*p / 2=p by omega,hld_leaf ht]
  have hnn:=name_nonneg ha.1 p
  refine⟨fun hk=>?_,fun hk=>?_⟩
  ·have e2:¬2*p=2*k:=by omega
   have e3:¬(2*p≠2*k∧hld t.size (2*p) k):=fun h=>hk ((hld_leaf ht).1 h.2)
   unfold ovr slf
   split
   ·simp only[List.countP_cons,List.countP_nil,decide_eq_false e2,decide_eq_false e3]
    simp
   ·simp
  ·subst hk
   refine⟨fun h0=>?_,fun h0=>?_⟩
   ·rw[if_neg (by omega)]
    rfl
   ·rw[if_pos (by omega)]
    unfold ovr slf
    simp
 intro f
 induction f with
 | zero=>
  intro x hx ht
  exact hleaf 0 x (by have:=level_odd x;omega) ht
 | succ f ih=>
  intro x hx ht
  by_cases he:x%2=0
  ·exact hleaf (f+1) x he ht
  have ho:x%2=1:=by omega
  obtain⟨k1,k2,k3⟩:=id ht
  have hix:(x / 2).toNat<t.ps.length:=by omega
  rw[resL,if_neg he]
  by_cases hs:(parAt t (x / 2)).set=true
  ·rw[if_pos hs,parAt_mem hix]
   obtain⟨-,d,e⟩:=hb (x / 2).toNat hix
   have hxe:2*(((x / 2).toNat:Nat):Int)+1=x:=by omega
   rw[hxe]at d
   generalize t.ps[(x / 2).toNat].loose=lo at d e ⊢
   obtain⟨c1,c2,c3⟩:=loose_cnt (n:=t.size) (k:=k) e fun p hp=>by
    obtain⟨q0,q1,-⟩:=hld_rng (d p hp).1
    exact⟨k1,by omega,by omega⟩
   have hx2:¬x=2*k:=by omega
   have eo:ovr t.size k (x::lo.map (2*·))=(if hld t.size x k then 1 else 0):=by
    unfold ovr at *
    rw[List.countP_cons,c1]
    by_cases hh:hld t.size x k
    ·rw[if_pos hh,decide_eq_true ⟨hx2,hh⟩]
     rfl
    ·rw[if_neg hh,decide_eq_false (fun h=>hh h.2)]
     rfl
   have es:slf k (x::lo.map (2*·))=slf k (lo.map (2*·)):=by
    unfold slf
    rw[List.countP_cons,decide_eq_false hx2]
    rfl
   rw[eo,es]
   refine⟨fun hh=>?_,fun hh=>?_⟩
   ·rw[if_neg hh]
    exact⟨rfl,c3 fun hm=>hh (d k hm).1⟩
   ·rw[if_pos hh]
    refine⟨fun h0=>c3 fun hm=>(d k hm).2 h0,fun _=>⟨by omega,c2,by omega⟩⟩
  ·rw[if_neg hs,ovr_app,slf_app]
   obtain⟨⟨t1,t2⟩,⟨l1,l2⟩,⟨f1,f2,f3⟩,-⟩:=lr_eq ht ho
   obtain⟨a1,a2⟩:=ih _ (by omega) t1
   obtain⟨b1,b2⟩:=ih _ (by omega) t2
   have hk:=hld_kids (p:=k) ht ho
   refine⟨fun hh=>?_,fun hh=>?_⟩
   ·have hn:=mt hk.2 hh
    rw[not_or]at hn
    obtain⟨u1,u2⟩:=a1 hn.1
    obtain⟨v1,v2⟩:=b1 hn.2
    rw[u1,u2,v1,v2]
    exact⟨rfl,rfl⟩
   ·rcases hk.1 hh with hl|hr
    ·have hnr:¬hld t.size (rt t.size x) k:=fun hr=>by unfold hld at hl hr;omega
     obtain⟨v1,v2⟩:=b1 hnr
     rw[v1,v2]
     simpa using a2 hl
    ·have hnl:¬hld t.size (lf t.size x) k:=fun hl=>by unfold hld at hl hr;omega
     obtain⟨v1,v2⟩:=a1 hnl
     rw[v1,v2]
     simpa using b2 hr
theorem root_all_fin:∀ n:Fin 65,1≤n.val→fro (n.val:Int) (root n.val)=0∧til (n.val:Int) (root n.val)=n.val:=by decide +kernel
theorem root_all {n k:Int} (h:1≤n∧n≤64) (hk:0≤k∧k<n):hld n (root n) k:=by
 have:=root_all_fin ⟨n.toNat,by omega⟩ (by simp only;omega)
 simp only[Int.toNat_of_nonneg (show 0≤n by omega)]at this
 unfold hld
 omega
end Go.Proofs.YtpjodlnlmaaihaaGreat
namespace Go.Proofs.YtpjodlnlmaaihaaGreat
open Go.RowKit Go.Lib
theorem ints8_snoc (l:List Int) (x:Int):ints8 (l++[x])=ints8 l++[[.one (.int .i64 x)]]:=by simp[ints8]
section
variable {H:Hp} {w0 w:World} {L R:List Res} {A B K:Option Addr} {a b kc gt go gw gn:Nat} {t:Tr} {qs:List (List Fd)}
theorem resLeaf_ok {f:Nat} {x:Int} (hR:t.Rt) (h1:Sl H 97 A (t.ls.map Lf.fds)) (he:x%2=0) (ht:thr t.size x) (out:List Int) (ho:out.length≤100000) (hM:Mem H w0 (fb gt 25 (tfd A t.ls.length a B t.ps.length b)::fb go 47 [.one (.slice K out.length kc)]::fb gw 148 [.one (.func (.func 125) #[] #[.pointer (some ⟨gt,0,none⟩),.pointer (some ⟨go,0,none⟩),.pointer (some ⟨gw,0,none⟩),.pointer (some ⟨gn,0,none⟩)])]::fb gn 3 [.one (.int .i64 t.ls.length)]::rowR 3 1 K out.length kc (ints8 (out))::L) w):
  Calls Tryz.prog 125 #[.int .i64 x,.pointer (some ⟨gt,0,none⟩),.pointer (some ⟨go,0,none⟩),.pointer (some ⟨gw,0,none⟩),.pointer (some ⟨gn,0,none⟩)] w fun en w'=>∃ v,en=.returned v∧v=.tuple #[]∧∃ K' kc',Mem H w0 (fb gt 25 (tfd A t.ls.length a B t.ps.length b)::fb go 47 [.one (.slice K' (out++resL f t x).length kc')]::fb gw 148 [.one (.func (.func 125) #[] #[.pointer (some ⟨gt,0,none⟩),.pointer (some ⟨go,0,none⟩),.pointer (some ⟨gw,0,none⟩),.pointer (some ⟨gn,0,none⟩)])]::fb gn 3 [.one (.int .i64 t.ls.length)]::rowR 3 1 K' (out++resL f t x).length kc' (ints8 (out++resL f t x))::L) w':=by
 have hlen:=hR.len
 have hts:t.size=t.ls.length:=rfl
 obtain⟨k1,k2,k3⟩:=id ht
 have hix:(x / 2).toNat<t.ls.length:=by omega
 have hla:leafAt t (x / 2)=t.ls[(x / 2).toNat]:=by
  unfold leafAt
  rw[List.getD_eq_getElem?_getD,List.getElem?_eq_getElem hix]
  rfl
 rw[resL_leaf he,hla]
 refine C_tree_Resolve_1 ?_
 unfold F_tree_Resolve_1
 (((refine mop_c ?_ ?_));(focus omega);((refine mop_cT trivial ?_ ?_));(focus (first|assumption|omega|with_reducible rfl|exact fun h=>Bool.noConfusion h));((refine mif_true ?_;refine mop_c trivial ?_;refine mm_ld hM ?_;refine mop_c ?_ ?_));(focus omega);(refine mm_ixs ‹_› ?_ ?_ ?_);(focus (simp only[List.length_map];omega));(focus (simp only[List.length_map];first|done|omega));((intro _ _ hA));(cases hA);((refine mop_c trivial ?_));(refine mm_lds hM ‹_› (map_at ?_) ?_);(focus omega))
 (((refine mop_cS trivial ?_ ?_)))
 ·intro hn
  rw[if_pos hn,List.length_append,List.length_singleton,ints8_snoc]
  (((refine mif_true ?_;refine mm_ld hM ?_;refine mm_bsl hM ?_ ?_ ?_));(focus rfl);(focus (constructor <;> simp));((clear hM;intro _ _ hM;refine mm_appo hM ?_ ?_));(focus omega);((clear hM;intro _ _ _ hM;refine mm_st hM ?_;clear hM;intro _ hM)))
  rename_i A2 c2 _ _
  exact⟨_,rfl,rfl,A2,c2,hM.sub⟩
 ·intro hn
  rw[if_neg hn,List.append_nil]
  (((refine mif_false ?_)))
  exact⟨_,rfl,rfl,K,kc,hM⟩
theorem resolve1_ok (hR:t.Rt) (h1:Sl H 97 A (t.ls.map Lf.fds)) (h2:Sl H 66 B qs) (h3:All2 (PnF H) qs t.ps):∀ (f:Nat) (x:Int),level x≤f→f≤8→thr t.size x→∀ (out:List Int) (K:Option Addr) (kc:Nat) (w:World),out.length+65*2 ^ f≤50000→Mem H w0 (fb gt 25 (tfd A t.ls.length a B t.ps.length b)::fb go 47 [.one (.slice K out.length kc)]::fb gw 148 [.one (.func (.func 125) #[] #[.pointer (some ⟨gt,0,none⟩),.pointer (some ⟨go,0,none⟩),.pointer (some ⟨gw,0,none⟩),.pointer (some ⟨gn,0,none⟩)])]::fb gn 3 [.one (.int .i64 t.ls.length)]::rowR 3 1 K out.length kc (ints8 (out))::L) w →
  Calls Tryz.prog 125 #[.int .i64 x,.pointer (some ⟨gt,0,none⟩),.pointer (some ⟨go,0,none⟩),.pointer (some ⟨gw,0,none⟩),.pointer (some ⟨gn,0,none⟩)] w fun en w'=>∃ v,en=.returned v∧v=.tuple #[]∧∃ K' kc',Mem H w0 (fb gt 25 (tfd A t.ls.length a B t.ps.length b)::fb go 47 [.one (.slice K' (out++resL f t x).length kc')]::fb gw 148 [.one (.func (.func 125) #[] #[.pointer (some ⟨gt,0,none⟩),.pointer (some ⟨go,0,none⟩),.pointer (some ⟨gw,0,none⟩),.pointer (some ⟨gn,0,none⟩)])]::fb gn 3 [.one (.int .i64 t.ls.length)]::rowR 3 1 K' (out++resL f t x).length kc' (ints8 (out++resL f t x))::L) w':=by
 have hlen:=hR.len
 have hts:t.size=t.ls.length:=rfl
 have hq:qs.length=t.ps.length:=h3.len
 intro f
 induction f with
 | zero=>
  intro x hx _ ht out K kc w ho hM
  have he:x%2=0:=by
   have:=level_odd x
   omega
  exact resLeaf_ok hR h1 he ht out (by omega) hM
 | succ f ih=>
  intro x hx hf8 ht out K kc w ho hM
  have hp2:0<2 ^ f:=Nat.pow_pos (by decide)
  have h22:(2:Nat) ^ (f+1)=2 ^ f*2:=Nat.pow_succ 2 f
  generalize (2:Nat) ^ (f+1)=q2 at *
  by_cases he:x%2=0
  ·exact resLeaf_ok hR h1 he ht out (by omega) hM
  have hodd:x%2=1:=by omega
  obtain⟨k1,k2,k3⟩:=id ht
  obtain⟨⟨t1,t2⟩,⟨l1,l2⟩,-⟩:=lr_eq ht hodd
  have hix:(x / 2).toNat<t.ps.length:=by omega
  obtain⟨q,hq1,C,c,rfl,hC,hcl⟩:=h3.at_ (i:=(x / 2).toNat) hix
  obtain⟨p,hpe⟩:∃ p,t.ps[(x / 2).toNat]=p:=⟨_,rfl⟩
  have hpa:parAt t (x / 2)=p:=by
   unfold parAt
   rw[List.getD_eq_getElem?_getD,List.getElem?_eq_getElem hix,hpe]
   rfl
  have hlo:=hR.loose p (hpe ▸ List.getElem_mem _)
  obtain⟨-,hd,-⟩:=hR.parts.2 _ hix
  rw[hpe]at hq1 hC hcl hd
  have hres:resL (f+1) t x=if p.set=true then x::p.loose.map (2*·) else resL f t (lf t.size x)++resL f t (rt t.size x):=by
   rw[resL,if_neg he,hpa]
  rw[hres]
  refine C_tree_Resolve_1 ?_
  unfold F_tree_Resolve_1
  (((refine mop_c ?_ ?_));(focus omega);((refine mop_cF trivial ?_ ?_));(focus (first|assumption|omega|with_reducible rfl|exact fun h=>Bool.noConfusion h));((refine mif_false ?_;refine mop_c trivial ?_;refine mm_ld hM ?_;refine mop_c ?_ ?_));(focus omega))
  refine mm_ixs h2 (by omega) hq.symm (fun bb oo hB=>?_)
  cases hB
  (((refine mop_c trivial ?_)))
  refine mm_lds0 hM h2 hq1 ?_
  rcases Bool.eq_false_or_eq_true p.set with hset|hset
  ·rw[hset,if_pos rfl]
   (((refine mif_true ?_;refine mm_ld hM ?_;refine mm_bsl hM ?_ ?_ ?_));(focus rfl);(focus (constructor <;> simp));((clear hM;intro _ _ hM;refine mm_appo hM ?_ ?_));(focus omega);((clear hM;intro _ _ _ hM;refine mm_st hM ?_;clear hM;intro _ hM;refine mop_c trivial ?_;refine mm_ld hM ?_;refine mop_c ?_ ?_));(focus omega);((refine mop_c ?_ ?_));(focus omega);((refine mop_c trivial ?_)))
   rename_i A2 c2 _ _
   refine mm_lds hM h2 hq1 ?_
   (((refine mop_c trivial ?_)))
   refine⟨fun v w'=>∃ (k:Nat) (K':Option Addr) (kc':Nat),v=.int .i64 k∧k≤p.loose.length∧Mem H w0 (fb gt 25 (tfd A t.ls.length a (some ⟨bb,oo,none⟩) t.ps.length b)::fb go 47 [.one (.slice K' (out++x::(p.loose.take k).map (2*·)).length kc')]::fb gw 148 [.one (.func (.func 125) #[] #[.pointer (some ⟨gt,0,none⟩),.pointer (some ⟨go,0,none⟩),.pointer (some ⟨gw,0,none⟩),.pointer (some ⟨gn,0,none⟩)])]::fb gn 3 [.one (.int .i64 t.ls.length)]::rowR 3 1 K' (out++x::(p.loose.take k).map (2*·)).length kc' (ints8 (out++x::(p.loose.take k).map (2*·)))::L) w',fun v _=>match v with | .int _ k=>p.loose.length - k.toNat|_=>0,⟨0,A2,c2,rfl,by omega,?_⟩,?_⟩
   ·rw[List.take_zero,List.map_nil,List.length_append,List.length_singleton,ints8_snoc]
    exact hM.sub
   clear hM
   rintro v u w3 ⟨k,K',kc',rfl,hk,hM⟩
   have hol:(out++x::(p.loose.take k).map (2*·)).length=out.length+(k+1):=by
    simp
    omega
   (((refine mop_cS trivial ?_ ?_)))
   ·intro hlt
    have hlt':k<p.loose.length:=by omega
    have e1:=ints8_at (l:=p.loose) (i:=k) hlt'
    have hq:=hld_rng (hd _ (List.getElem_mem hlt')).1
    (((refine mif_true ?_));(refine mm_ixs ‹_› ?_ ?_ ?_);(focus (simp only[List.length_map];omega));(focus (simp only[List.length_map];first|done|omega));((intro _ _ hA));(cases hA);(refine mm_lds0 hM ‹_› (map_atI ?_) ?_);(focus omega);((refine mm_ld hM ?_;refine mop_c ?_ ?_));(focus omega);((refine mm_bsl hM ?_ ?_ ?_));(focus rfl);(focus (constructor <;> simp));((clear hM;intro _ _ hM;refine mm_appo hM ?_ ?_));(focus omega);((clear hM;intro _ _ _ hM;refine mm_st hM ?_;clear hM;intro _ hM;refine mop_c ?_ ?_));(focus omega))
    rename_i A3 c3 _ _
    refine⟨⟨k+1,A3,c3,rfl,by omega,?_⟩,by simp only;omega⟩
    have e:out++x::(p.loose.take (k+1)).map (2*·)=(out++x::(p.loose.take k).map (2*·))++[2*p.loose[k]]:=by
     rw[List.take_succ_eq_append_getElem hlt',List.map_append,List.append_assoc]
     rfl
    rw[e,List.length_append,List.length_singleton,ints8_snoc]
    exact hM.sub
   ·intro hge
    obtain rfl:k=p.loose.length:=by omega
    rw[List.take_length]at hM
    (((refine mif_false ?_)))
    exact⟨_,rfl,rfl,_,_,hM⟩
  ·rw[hset,if_neg (by simp)]
   have z1:=resL_len hR f _ t1
   (((refine mif_false ?_;refine dm_ld hM ?_;refine dm_ld hM ?_;refine dm_purC hM ?_ (fun _ _ hM=>?_)));(focus (first|exact trivial|assumption|omega)))
   refine df_no hM (fun w hM=>?_)
   refine mop_callv (ih (lf t.size x) (by omega) (by omega) t1 out K kc w (by omega) hM) ?_
   rintro e w' ⟨v,rfl,rfl,K1,kc1,hM⟩
   dsimp only
   (((refine mm_end hM ?_;clear hM;intro _ hM;refine dm_ld hM ?_;refine dm_ld hM ?_;refine dm_purC hM ?_ (fun _ _ hM=>?_)));(focus (first|exact trivial|assumption|omega)))
   refine df_no hM (fun w hM=>?_)
   refine mop_callv (ih (rt t.size x) (by omega) (by omega) t2 (out++resL f t (lf t.size x)) K1 kc1 w (by rw[List.length_append];omega) hM) ?_
   rintro e w' ⟨v,rfl,rfl,K2,kc2,hM⟩
   dsimp only
   (((refine mm_end hM ?_;clear hM;intro _ hM)))
   rw[← List.append_assoc]
   exact⟨_,rfl,rfl,_,_,hM⟩
def resT (t:Tr) (x:Int):List Int:=if thr t.size x then resL 8 t x else []
theorem resolve_own (x:Int) (hx:x≤1000) (hR:t.Rt) {v:Value} (h:TrF H v t) (hf:Fz H w):Calls Tryz.prog 86 #[v,.int .i64 x] w fun en w'=>∃ r,en=.returned r∧∃ K kc,r=.slice K (resT t x).length kc∧Mem H w [rowR 3 1 K (resT t x).length kc (ints8 (resT t x))] w':=by
 obtain⟨A,a,B,b,q,rfl,h1,h2,h3⟩:=h.ex
 obtain⟨w1,hw1⟩:∃ w1,w1=w:=⟨_,rfl⟩
 rw[← hw1]
 rw[← hw1]at hf
 have hlen:=hR.len
 have hts:t.size=t.ls.length:=rfl
 have hM:=Mem.start hf
 refine C_tree_Resolve ?_
 unfold F_tree_Resolve
 (((refine mm_box hM ?_;clear hM;intro _ _ hM;refine mm_ld hM ?_)))
 rename_i g1 _
 refine mm_pure hM (sound_ok h1 h2 h3 h.len.1 h.len.2 hM.fz) (fun w hM=>?_)
 rw[if_pos (Tr.rt.2 hR)]
 (((refine mm_st hM ?_;clear hM;intro _ hM;refine mop_c trivial ?_;refine mm_ld hM ?_;refine mop_c trivial ?_;refine mm_new hM ?_;clear hM;intro _ _ hM;refine mm_st hM ?_;clear hM;intro _ hM;refine mm_new hM ?_;clear hM;intro _ _ hM;refine mm_new hM ?_;clear hM;intro _ _ hM;refine mop_c trivial ?_;refine mm_st hM ?_;clear hM;intro _ hM)))
 rename_i _ g2 _ _ g3 _ g4 _ _
 refine⟨fun w'=>∃ K kc,Mem H w1 [fb g3 47 [.one (.slice K (resT t x).length kc)],rowR 3 1 K (resT t x).length kc (ints8 (resT t x))] w',?_,?_⟩
 ·refine⟨fun v w'=>v=.bool (decide (thr t.size x))∧hM.now w',?_,?_⟩
  ·(((refine mop_cS trivial ?_ ?_)))
   ·intro c1
    (((refine mguard_yes ?_;refine mop_c trivial ?_;refine mguard_yes ?_;refine mm_ld hM ?_;refine mguard_yes ?_;refine mop_c ?_ ?_));(focus omega);((refine mguard_yes ?_;refine mop_c ?_ ?_));(focus omega);((refine mguard_yes ?_)))
    refine⟨?_,hM⟩
    rw[if_pos rfl,Value.bool.injEq,decide_eq_decide]
    unfold thr
    omega
   ·intro c1
    ((((iterate 5 refine mguard_n2 ?_);refine mop_c trivial ?_)))
    exact⟨by rw[decide_eq_false (by unfold thr;omega)],hM⟩
  rintro v u w2 ⟨rfl,hM⟩
  by_cases c:thr t.size x
  ·rw[decide_eq_true c]
   have hr:resT t x=resL 8 t x:=if_pos c
   rw[hr]
   have h0:Mem H w1 (rowR 3 1 none 0 0 (ints8 [])::_) _:=hM.row0 3 1
   have hM:Mem H w1 (fb g1 25 (tfd A t.ls.length a B t.ps.length b)::fb g3 47 [.one (.slice none 0 0)]::fb g4 148 [.one (.func (.func 125) #[] #[.pointer (some ⟨g1,0,none⟩),.pointer (some ⟨g3,0,none⟩),.pointer (some ⟨g4,0,none⟩),.pointer (some ⟨g2,0,none⟩)])]::fb g2 3 [.one (.int .i64 t.ls.length)]::rowR 3 1 none 0 0 (ints8 [])::[]) _:=h0.sub
   (((refine mif_true ?_;refine mm_ld hM ?_)))
   refine mop_callv (resolve1_ok (t:=t) hR h1 h2 h3 8 x (by have:=lev_rng 8 x;unfold level;omega) (by omega) c [] none 0 _ (by simp) hM) ?_
   rintro e w' ⟨v,rfl,rfl,K1,kc1,hM⟩
   dsimp only
   rw[List.nil_append]at hM
   skip
   exact⟨K1,kc1,hM.sub⟩
  ·rw[decide_eq_false c]
   have hr:resT t x=[]:=if_neg c
   rw[hr]
   (((refine mif_false ?_)))
   have h0:Mem H w1 (rowR 3 1 none 0 0 (ints8 [])::_) _:=hM.row0 3 1
   exact⟨none,0,h0.sub⟩
 clear hM
 rintro u w2 ⟨K,kc,hM⟩
 (((refine mm_ld hM ?_)))
 have hM:Mem H w1 [rowR 3 1 K (resT t x).length kc (ints8 (resT t x))] _:=hM.sub
 exact⟨_,rfl,K,kc,rfl,hM⟩
end
end Go.Proofs.YtpjodlnlmaaihaaGreat
namespace Go.Proofs.YtpjodlnlmaaihaaGreat
open Go.RowKit
section
variable {P:Program} {H K:Hp} {w0 w w':World} {L R:List Res} {t:TypeId} {fs:List Fd} {Kt:Value→World→Prop} {X:List PanicEntry→World→Prop}
theorem dK_st {tt:TypeId} {q e:Bool} {n i k:Nat} {v:Value} {gs fs':List Fd} {put:Res→List Res} (h:Mem H w0 L w) [c:ShpC P t q n] [a:AtB L k tt fs put] [f:Vf v n gs] [p:Put fs i gs fs'] (hF:Fz K w) (hn:K k=none) (hk:∀ w',Mem H w0 (put (fb k tt fs')) w'→Fz K w'→Kt undef w'):
  dfS P (Rl.fz K) w (o_store t (.pointer (some ⟨k,i,none⟩)) v) e Kt:=⟨fun w1 hd=>by
 refine mop_mono ((dS_stX (K:=fun u w2=>u=undef∧Mem H w0 (put (fb k tt fs')) w2) h fun w2 h2=>⟨rfl,h2⟩).out w1 hd) ?_ (fun _ _ h=>h)
 rintro u w2 ⟨h1,rfl,h2⟩
 have ho:=h1 rfl
 have hz:Fz K w2:=hF.same fun b c hb=>ho.block _ (hF.lt hb) (by
  rintro rfl
  rw[hn]at hb
  cases hb)
 exact⟨fun _ _=>hz,hk w2 h2 hz⟩⟩
end
end Go.Proofs.YtpjodlnlmaaihaaGreat
namespace Go.Proofs.YtpjodlnlmaaihaaGreat
open Go.RowKit
structure SW {α:Type} (lt:α→α→Bool):Prop where
 irr:∀ x,lt x x=false
 tra:∀ x y z,lt x y=true→lt y z=true→lt x z=true
 neg:∀ x y z,lt x y=false→lt y z=false→lt x z=false
section
variable {α:Type} {lt:α→α→Bool}
theorem SW.asy (h:SW lt) {x y:α} (k:lt x y=true):lt y x=false:=by
 cases hc:lt y x
 ·rfl
 ·have:=h.tra x y x k hc
  rw[h.irr]at this
  cases this
def tl (lt:α→α→Bool) (p q:α × Nat):Prop:=lt p.1 q.1=true∨(lt q.1 p.1=false∧p.2<q.2)
theorem SW.tlt (h:SW lt) {p q r:α × Nat} (a:tl lt p q) (b:tl lt q r):tl lt p r:=by
 rcases a with a|⟨a,a2⟩ <;> rcases b with b|⟨b,b2⟩
 ·exact .inl (h.tra _ _ _ a b)
 ·refine .inl ?_
  cases hc:lt p.1 r.1
  ·rw[h.neg _ _ _ hc b]at a
   cases a
  ·rfl
 ·refine .inl ?_
  cases hc:lt p.1 r.1
  ·rw[h.neg _ _ _ a hc]at b
   cases b
  ·rfl
 ·exact .inr ⟨h.neg _ _ _ b a,by omega⟩
theorem SW.tla (h:SW lt) {p q:α × Nat} (a:tl lt p q) (b:tl lt q p):False:=by
 rcases a with a|⟨a,a2⟩ <;> rcases b with b|⟨b,b2⟩
 ·have:=h.asy a
  rw[this]at b
  cases b
 ·rw[b]at a
  cases a
 ·rw[a]at b
  cases b
 ·omega
theorem tl_of (p q:α × Nat) (h:lt q.1 p.1=false) (ht:p.2<q.2):tl lt p q:=.inr ⟨h,ht⟩
def insB (lt:α→α→Bool) (x:α):List α→List α
 | []=>[x]
 | y::r=>if lt x y then x::y::r else y::insB lt x r
def srtB (lt:α→α→Bool) (l:List α):List α:=l.foldl (fun acc x=>insB lt x acc) []
abbrev ltT (lt:α→α→Bool):α × Nat→α × Nat→Bool:=fun p q=>lt p.1 q.1
theorem insT_fst (x:α × Nat):∀ T:List (α × Nat),(insB (ltT lt) x T).map (·.1)=insB lt x.1 (T.map (·.1))
 | []=>rfl
 | y::r=>by
  simp only[insB,List.map_cons]
  split <;> simp[insT_fst x r]
theorem insB_perm (x:α):∀ T:List α,(insB lt x T).Perm (x::T)
 | []=>.refl _
 | y::r=>by
  simp only[insB]
  split
  ·exact .refl _
  ·exact((insB_perm x r).cons y).trans (.swap ..)
theorem insT_pw (h:SW lt) {x:α × Nat}:∀ {T:List (α × Nat)},T.Pairwise (tl lt)→(∀ y∈T,y.2<x.2)→(insB (ltT lt) x T).Pairwise (tl lt)
 | [],_,_=>by simp[insB]
 | y::r,hp,ht=>by
  obtain⟨h1,h2⟩:=List.pairwise_cons.1 hp
  simp only[insB]
  split
  ·rename_i hc
   refine List.pairwise_cons.2 ⟨fun z hz=>?_,hp⟩
   rcases List.mem_cons.1 hz with rfl|hz
   ·exact .inl hc
   ·exact h.tlt (.inl hc) (h1 z hz)
  ·rename_i hc
   refine List.pairwise_cons.2 ⟨fun z hz=>?_,insT_pw h h2 fun z hz=>ht z (List.mem_cons_of_mem _ hz)⟩
   rcases List.mem_cons.1 ((insB_perm x r).mem_iff.1 hz) with rfl|hz
   ·exact tl_of _ _ (by simpa using hc) (ht y (List.mem_cons_self ..))
   ·exact h1 z hz
theorem foldT (h:SW lt):∀ (P acc:List (α × Nat)),acc.Pairwise (tl lt)→P.Pairwise (fun p q=>p.2<q.2)→(∀ y∈acc,∀ p∈P,y.2<p.2) →
  (P.foldl (fun a x=>insB (ltT lt) x a) acc).Pairwise (tl lt)∧(P.foldl (fun a x=>insB (ltT lt) x a) acc).Perm (acc++P)∧(P.foldl (fun a x=>insB (ltT lt) x a) acc).map (·.1)=(P.map (·.1)).foldl (fun a x=>insB lt x a) (acc.map (·.1))
 | [],acc,ha,_,_=>⟨ha,by simp,rfl⟩
 | p::r,acc,ha,hp,ht=>by
  obtain⟨h1,h2⟩:=List.pairwise_cons.1 hp
  have hperm:=insB_perm (lt:=ltT lt) p acc
  obtain⟨k1,k2,k3⟩:=foldT h r (insB (ltT lt) p acc) (insT_pw h ha fun y hy=>ht y hy p (List.mem_cons_self ..)) h2 (fun y hy q hq=>by
   rcases List.mem_cons.1 (hperm.mem_iff.1 hy) with rfl|hy
   ·exact h1 q hq
   ·exact ht y hy q (List.mem_cons_of_mem _ hq))
  refine⟨k1,?_,?_⟩
  ·exact k2.trans ((hperm.append_right r).trans (List.perm_middle.symm))
  ·rw[List.foldl_cons,k3,List.map_cons,List.foldl_cons,insT_fst]
theorem srt_eq (h:SW lt) {l:List α} {T:List (α × Nat)} (hp:T.Perm l.zipIdx) (hs:T.Pairwise (tl lt)):T.map (·.1)=srtB lt l:=by
 have ht:(l.zipIdx).Pairwise (fun p q=>p.2<q.2):=by
  have h2:(l.zipIdx.map (·.2)).Pairwise (·<·):=by
   rw[List.zipIdx_map_snd]
   exact List.pairwise_lt_range'
  exact List.pairwise_map.1 h2
 obtain⟨k1,k2,k3⟩:=foldT h l.zipIdx [] .nil ht (fun _ hy=>by cases hy)
 have e:T=(l.zipIdx).foldl (fun a x=>insB (ltT lt) x a) []:=by
  refine List.Perm.eq_of_pairwise (fun a b _ _ hab hba=>(h.tla hab hba).elim) hs k1 (hp.trans ?_)
  simpa using k2.symm
 rw[e,k3,List.zipIdx_map_fst]
 rfl
def okR (lt:α→α→Bool) (U0 U:List (α × Nat)):Prop:=U.Perm U0∧U.Pairwise (tl lt)
inductive Runs (lt:α→α→Bool) (bs:Nat):List (α × Nat)→List (α × Nat)→Prop
 | last {U0 U:List (α × Nat)} (h:okR lt U0 U) (hl:U.length≤bs):Runs lt bs U0 U
 | cons {U0 U R0 R:List (α × Nat)} (h:okR lt U0 U) (hl:U.length=bs) (hr:Runs lt bs R0 R):Runs lt bs (U0++R0) (U++R)
inductive RunsF (lt:α→α→Bool) (bs:Nat):List (α × Nat)→List (α × Nat)→Prop
 | nil:RunsF lt bs [] []
 | snoc {A0 A U0 U:List (α × Nat)} (ha:RunsF lt bs A0 A) (h:okR lt U0 U) (hl:U.length=bs):RunsF lt bs (A0++U0) (A++U)
theorem RunsF.app {bs:Nat} {A0 A:List (α × Nat)} (h:RunsF lt bs A0 A):∀ {R0 R:List (α × Nat)},Runs lt bs R0 R→Runs lt bs (A0++R0) (A++R):=by
 induction h with
 | nil=>exact fun h=>h
 | snoc ha h hl ih=>
  intro R0 R hr
  rw[List.append_assoc,List.append_assoc]
  exact ih (.cons h hl hr)
theorem Runs.len {bs:Nat} {R0 R:List (α × Nat)} (h:Runs lt bs R0 R):R0.length=R.length:=by
 induction h with
 | last h hl=>exact h.1.length_eq.symm
 | cons h hl hr ih=>rw[List.length_append,List.length_append,ih,h.1.length_eq]
theorem RunsF.len {bs:Nat} {R0 R:List (α × Nat)} (h:RunsF lt bs R0 R):R0.length=R.length:=by
 induction h with
 | nil=>rfl
 | snoc ha h hl ih=>rw[List.length_append,List.length_append,ih,h.1.length_eq]
theorem Runs.short {bs:Nat} {R0 R:List (α × Nat)} (h:Runs lt bs R0 R) (hl:R.length≤bs):okR lt R0 R:=by
 cases h with
 | last h _=>exact h
 | cons h hu hr=>
  rename_i U0 U R0 R
  have hz:R=[]:=List.eq_nil_of_length_eq_zero (by rw[List.length_append]at hl;omega)
  have hz0:R0=[]:=List.eq_nil_of_length_eq_zero (by rw[hr.len,hz];rfl)
  rw[hz,hz0,List.append_nil,List.append_nil]
  exact h
theorem okR.nil:okR lt ([]:List (α × Nat)) []:=⟨.refl _,.nil⟩
theorem Runs.first {bs:Nat} {R0 R:List (α × Nat)} (h:Runs lt bs R0 R) (hl:bs≤R.length):∃ U0 U S0 S,R0=U0++S0∧R=U++S∧okR lt U0 U∧U.length=bs∧Runs lt bs S0 S:=by
 cases h with
 | last h hu=>exact⟨R0,R,[],[],by simp,by simp,h,by omega,.last .nil (by simp)⟩
 | cons h hu hr=>exact⟨_,_,_,_,rfl,rfl,h,hu,hr⟩
theorem pw_ins (h:SW lt) {X Y:List (α × Nat)} {x:α × Nat} (hp:(X++Y).Pairwise (tl lt)) (hy:∀ y∈Y,tl lt x y) (hx:X=[]∨∃ X' y,X=X'++[y]∧tl lt y x):(X++x::Y).Pairwise (tl lt):=by
 obtain⟨h1,h2,h3⟩:=List.pairwise_append.1 hp
 refine List.pairwise_append.2 ⟨h1,List.pairwise_cons.2 ⟨hy,h2⟩,fun u hu v hv=>?_⟩
 rcases List.mem_cons.1 hv with rfl|hv
 ·rcases hx with rfl|⟨X',y,rfl,hxy⟩
  ·cases hu
  ·rcases List.mem_append.1 hu with hu|hu
   ·exact h.tlt ((List.pairwise_append.1 h1).2.2 u hu y (by simp)) hxy
   ·rw[List.mem_singleton.1 hu]
    exact hxy
 ·exact h3 u hu v hv
theorem pw_join (h:SW lt) {X Y:List (α × Nat)} (h1:X.Pairwise (tl lt)) (h2:Y.Pairwise (tl lt)) (hx:X=[]∨Y=[]∨∃ X' x y Y',X=X'++[x]∧Y=y::Y'∧tl lt x y):(X++Y).Pairwise (tl lt):=by
 refine List.pairwise_append.2 ⟨h1,h2,fun u hu v hv=>?_⟩
 rcases hx with rfl|rfl|⟨X',x,y,Y',rfl,rfl,hxy⟩
 ·cases hu
 ·cases hv
 ·have a:u=x∨tl lt u x:=by
   rcases List.mem_append.1 hu with hu|hu
   ·exact .inr ((List.pairwise_append.1 h1).2.2 u hu x (by simp))
   ·exact .inl (List.mem_singleton.1 hu)
  have b:v=y∨tl lt y v:=by
   rcases List.mem_cons.1 hv with hv|hv
   ·exact .inl hv
   ·exact .inr ((List.pairwise_cons.1 h2).1 v hv)
  rcases a with rfl|a <;> rcases b with rfl|b
  ·exact hxy
  ·exact h.tlt hxy b
  ·exact h.tlt a hxy
  ·exact h.tlt a (h.tlt hxy b)
theorem pw_cross {X Y:List (α × Nat)} (h:(X++Y).Pairwise (tl lt)):∀ u∈X,∀ v∈Y,tl lt u v:=(List.pairwise_append.1 h).2.2
theorem pw_four (h:SW lt) {U1 U2 V1 V2 M1 M2:List (α × Nat)} (hu:(U1++U2).Pairwise (tl lt)) (hv:(V1++V2).Pairwise (tl lt)) (p1:M1.Perm (U1++V1)) (p2:M2.Perm (U2++V2)) (s1:M1.Pairwise (tl lt)) (s2:M2.Pairwise (tl lt))
  (c1:U1=[]∨V2=[]∨∃ X' x y Y',U1=X'++[x]∧V2=y::Y'∧tl lt x y) (c2:V1=[]∨U2=[]∨∃ X' x y Y',V1=X'++[x]∧U2=y::Y'∧tl lt x y):(M1++M2).Pairwise (tl lt):=by
 have a1:=pw_cross (pw_join h (List.pairwise_append.1 hu).1 (List.pairwise_append.1 hv).2.1 c1)
 have a2:=pw_cross (pw_join h (List.pairwise_append.1 hv).1 (List.pairwise_append.1 hu).2.1 c2)
 have a3:=pw_cross hu
 have a4:=pw_cross hv
 refine List.pairwise_append.2 ⟨s1,s2,fun x hx y hy=>?_⟩
 rcases List.mem_append.1 (p1.mem_iff.1 hx) with hx|hx <;> rcases List.mem_append.1 (p2.mem_iff.1 hy) with hy|hy
 ·exact a3 x hx y hy
 ·exact a1 x hx y hy
 ·exact a2 x hx y hy
 ·exact a4 x hx y hy
theorem swp_set {β:Type} (P Q S:List β) (x y:β) {i j:Nat} (hi:i=P.length) (hj:j=P.length+1+Q.length):((P++x::(Q++y::S)).set i y).set j x=P++y::(Q++x::S):=by
 subst hi
 subst hj
 rw[List.set_append_right _ _ (Nat.le_refl _),Nat.sub_self,List.set_cons_zero,List.set_append_right _ _ (by omega),show P.length+1+Q.length - P.length=Q.length+1 by omega,List.set_cons_succ,List.set_append_right _ _ (Nat.le_refl _),Nat.sub_self,List.set_cons_zero]
theorem swp_set' {β:Type} (P Q S:List β) (x y:β) {i j:Nat} (hi:i=P.length) (hj:j=P.length+1+Q.length):((P++x::(Q++y::S)).set j x).set i y=P++y::(Q++x::S):=by
 rw[List.set_comm _ _ (by omega)]
 exact swp_set P Q S x y hi hj
theorem swp_l {β:Type} (P Q S:List β) (x y:β) {i:Nat} (hi:i=P.length) (h:i<(P++x::(Q++y::S)).length):(P++x::(Q++y::S))[i]=x:=by
 subst hi
 simp
theorem swp_r {β:Type} (P Q S:List β) (x y:β) {j:Nat} (hj:j=P.length+1+Q.length) (h:j<(P++x::(Q++y::S)).length):(P++x::(Q++y::S))[j]=y:=by
 subst hj
 rw[List.getElem_append_right (by omega)]
 simp only[show P.length+1+Q.length - P.length=Q.length+1 by omega,List.getElem_cons_succ]
 rw[List.getElem_append_right (by omega)]
 simp
end
end Go.Proofs.YtpjodlnlmaaihaaGreat
namespace Go.Proofs.YtpjodlnlmaaihaaGreat
open Go.RowKit
section
variable {α:Type} {key:α→Int}
abbrev ltU (key:α→Int):α→α→Bool:=fun x y=>decide (key x<key y)
theorem ltU_sw (key:α→Int):SW (ltU key):=⟨fun x=>by simp,fun x y z h1 h2=>by simp only[decide_eq_true_eq]at *;omega,fun x y z h1 h2=>by simp only[decide_eq_false_iff_not]at *;omega⟩
def cpt (key:α→Int):α→List α→List α
 | x,[]=>[x]
 | x,y::r=>if key x=key y then cpt key x r else x::cpt key y r
def cptL (key:α→Int):List α→List α
 | []=>[]
 | x::r=>cpt key x r
def insU (key:α→Int) (x:α):List α→List α
 | []=>[x]
 | y::r=>if key y<key x then y::insU key x r else if key y=key x then y::r else x::y::r
theorem cpt_head (y:α):∀ S:List α,∃ r,cpt key y S=y::r
 | []=>⟨[],rfl⟩
 | z::R=>by
  unfold cpt
  split
  ·exact cpt_head y R
  ·exact⟨_,rfl⟩
theorem insU_low {x y:α} {S:List α} (h:key x<key y):insU key x (cpt key y S)=x::cpt key y S:=by
 obtain⟨r,e⟩:=cpt_head (key:=key) y S
 rw[e]
 simp only[insU]
 rw[if_neg (by omega),if_neg (by omega)]
theorem cpt_ins (x:α):∀ (S:List α) (y:α),(y::S).Pairwise (fun a b=>key a≤key b)→key y≤key x→cpt key y (insB (ltU key) x S)=insU key x (cpt key y S)
 | [],y,_,h=>by
  simp only[insB,cpt,insU]
  by_cases e:key y=key x
  ·rw[if_pos e,if_neg (by omega),if_pos e]
  ·rw[if_neg e,if_pos (by omega)]
 | z::R,y,hp,h=>by
  obtain⟨h1,h2⟩:=List.pairwise_cons.1 hp
  have hyz:=h1 z (List.mem_cons_self ..)
  simp only[insB]
  by_cases hxz:key x<key z
  ·rw[if_pos (decide_eq_true hxz)]
   have e1:cpt key y (z::R)=y::cpt key z R:=if_neg (by omega)
   have e2:cpt key x (z::R)=x::cpt key z R:=if_neg (by omega)
   by_cases e:key y=key x
   ·rw[show cpt key y (x::z::R)=cpt key y (z::R) from if_pos e,e1]
    simp only[insU]
    rw[if_neg (by omega),if_pos e]
   ·rw[show cpt key y (x::z::R)=y::cpt key x (z::R) from if_neg e,e2,e1]
    simp only[insU]
    rw[if_pos (by omega),insU_low hxz]
  ·rw[if_neg (by simpa using hxz)]
   by_cases e:key y=key z
   ·rw[show cpt key y (z::insB (ltU key) x R)=cpt key y (insB (ltU key) x R) from if_pos e,show cpt key y (z::R)=cpt key y R from if_pos e]
    exact cpt_ins x R y (List.pairwise_cons.2 ⟨fun a ha=>h1 a (List.mem_cons_of_mem _ ha),(List.pairwise_cons.1 h2).2⟩) h
   ·rw[show cpt key y (z::insB (ltU key) x R)=y::cpt key z (insB (ltU key) x R) from if_neg e,show cpt key y (z::R)=y::cpt key z R from if_neg e,cpt_ins x R z h2 (by omega)]
    simp only[insU]
    rw[if_pos (by omega)]
theorem cptL_ins (x:α) {S:List α} (hp:S.Pairwise (fun a b=>key a≤key b)):cptL key (insB (ltU key) x S)=insU key x (cptL key S):=by
 cases S with
 | nil=>rfl
 | cons y S=>
  simp only[insB,cptL]
  by_cases h:key x<key y
  ·rw[if_pos (decide_eq_true h),insU_low h]
   exact if_neg (by omega)
  ·rw[if_neg (by simpa using h)]
   exact cpt_ins x S y hp (by omega)
theorem insB_le (x:α):∀ {S:List α},S.Pairwise (fun a b=>key a≤key b)→(insB (ltU key) x S).Pairwise (fun a b=>key a≤key b)
 | [],_=>by simp[insB]
 | y::r,hp=>by
  obtain⟨h1,h2⟩:=List.pairwise_cons.1 hp
  simp only[insB]
  by_cases h:key x<key y
  ·rw[if_pos (decide_eq_true h)]
   refine List.pairwise_cons.2 ⟨fun z hz=>?_,hp⟩
   rcases List.mem_cons.1 hz with rfl|hz
   ·omega
   ·have:=h1 z hz
    omega
  ·rw[if_neg (by simpa using h)]
   refine List.pairwise_cons.2 ⟨fun z hz=>?_,insB_le x h2⟩
   rcases List.mem_cons.1 ((insB_perm x r).mem_iff.1 hz) with rfl|hz
   ·omega
   ·exact h1 z hz
theorem fold_cpt:∀ (l S:List α),S.Pairwise (fun a b=>key a≤key b)→cptL key (l.foldl (fun acc x=>insB (ltU key) x acc) S)=l.foldl (fun acc x=>insU key x acc) (cptL key S)
 | [],_,_=>rfl
 | x::r,S,hp=>by rw[List.foldl_cons,fold_cpt r _ (insB_le x hp),cptL_ins x hp,List.foldl_cons]
theorem sorted_eq (l:List α):cptL key (srtB (ltU key) l)=l.foldl (fun acc x=>insU key x acc) []:=fold_cpt l [] .nil
end
end Go.Proofs.YtpjodlnlmaaihaaGreat
namespace Go.Proofs.YtpjodlnlmaaihaaGreat
open Go.RowKit
structure Ky where
 node:Int
 priv:H32
 ok:0≤node∧node≤1000
abbrev Ky.fds (k:Ky):List Fd:=[.one (.int .i64 k.node),.arr 32 (u8s k.priv.1)]
def cvK (a b:Ky):Int:=a.node - b.node
theorem cvK_lt:(fun a b:Ky=>decide (cvK a b<0))=ltU Ky.node:=by
 funext a b
 unfold cvK
 exact decide_eq_decide.2 (by omega)
theorem cvK_sw:SW (fun a b:Ky=>decide (cvK a b<0)):=by
 rw[cvK_lt]
 exact ltU_sw _
def sortedK (l:List Ky):List Ky:=l.foldl (fun acc x=>insU Ky.node x acc) []
theorem sortedK_eq (l:List Ky):cptL Ky.node (srtB (fun a b:Ky=>decide (cvK a b<0)) l)=sortedK l:=by
 rw[cvK_lt]
 exact sorted_eq l
end Go.Proofs.YtpjodlnlmaaihaaGreat
namespace Go.Proofs.YtpjodlnlmaaihaaGreat
open Go.RowKit Go.Lib
abbrev spath:ByteArray:=ByteArray.mk #[112,97,116,104]
abbrev scommit:ByteArray:=ByteArray.mk #[99,111,109,109,105,116]
abbrev swrap:ByteArray:=ByteArray.mk #[119,114,97,112]
def secK (s:H32):Nat→H32
 | 0=>s
 | k+1=>drv (secK s k) spath es0
def secL (s:H32) (n:Nat):List H32:=(List.range n).map (secK s)
def comS (s:H32) (n:Nat):H32:=drv (secK s (n - 1)) scommit es0
theorem secL_len (s:H32) (n:Nat):(secL s n).length=n:=by simp[secL]
theorem secL_succ (s:H32) (n:Nat):secL s (n+1)=secL s n++[secK s n]:=by simp[secL,List.range_succ]
def mkKy (x:Int) (p:H32):Ky:=if h:0≤x∧x≤1000 then ⟨x,p,h⟩ else ⟨0,p,by omega⟩
theorem mkKy_eq {x:Int} {p:H32} (h:0≤x∧x≤1000):mkKy x p=⟨x,p,h⟩:=dif_pos h
theorem mkKy_fds {x:Int} {p:H32} (h:0≤x∧x≤1000):(mkKy x p).fds=[.one (.int .i64 x),.arr 32 (u8s p.1)]:=by rw[mkKy_eq h]
def keyK (way:List Int) (s:H32) (j:Nat):Ky:=mkKy (way.getD j 0) (drv (secK s j) bnode es0)
def keysL (way:List Int) (s:H32) (n:Nat):List Ky:=(List.range n).map (keyK way s)
theorem keysL_len (way:List Int) (s:H32) (n:Nat):(keysL way s n).length=n:=by simp[keysL]
theorem keysL_succ (way:List Int) (s:H32) (n:Nat):keysL way s (n+1)=keysL way s n++[keyK way s n]:=by simp[keysL,List.range_succ]
def pubAt (t:Tr) (x:Int):H32 × Bool:=if x%2=0 then ((leafAt t (x / 2)).pub,decide (0<(leafAt t (x / 2)).name)) else ((parAt t (x / 2)).pub,(parAt t (x / 2)).set)
structure Kr where
 node:Int
 priv:H32
abbrev Kr.fds (k:Kr):List Fd:=[.one (.int .i64 k.node),.arr 32 (u8s k.priv.1)]
def Ky.kr (k:Ky):Kr:=⟨k.node,k.priv⟩
def keep1 (t:Tr) (k:Kr):Option Ky:=if h:(0≤k.node∧k.node≤1000)∧k.node≤2*t.size - 2∧pubAt t k.node=(pubH k.priv,true) then some ⟨k.node,k.priv,h.1⟩ else none
def keepL (t:Tr) (l:List Kr):List Ky:=l.filterMap (keep1 t)
theorem keep1_yes {t:Tr} {k:Kr} (h1:0≤k.node∧k.node≤1000) (h2:k.node≤2*t.size - 2) (h3:pubAt t k.node=(pubH k.priv,true)):keep1 t k=some ⟨k.node,k.priv,h1⟩:=dif_pos ⟨h1,h2,h3⟩
theorem keep1_no {t:Tr} {k:Kr} (h:¬((0≤k.node∧k.node≤1000)∧k.node≤2*t.size - 2∧pubAt t k.node=(pubH k.priv,true))):keep1 t k=none:=dif_neg h
theorem keepL_succ {t:Tr} {l:List Kr} {i:Nat} (h:i<l.length):keepL t (l.take (i+1))=keepL t (l.take i)++(keep1 t l[i]).toList:=by
 unfold keepL
 rw[List.take_succ_eq_append_getElem h,List.filterMap_append]
 cases e:keep1 t l[i] <;> simp[e]
def keepT (t:Tr) (l:List Kr):List Ky:=if t.right=true then sortedK (keepL t l) else []
end Go.Proofs.YtpjodlnlmaaihaaGreat
namespace Go.Proofs.YtpjodlnlmaaihaaGreat
open Go.RowKit
theorem dm_str0 {P:Program} {H:Hp} {w0 w:World} {L R1:List Res} {g k m n cap e sz:Nat} {tt:TypeId} {q:Bool} {v:Value} {fs gs fs':List Fd} {ps:List (List Fd)} {K:Value→World→Prop} (h:Mem H w0 L w) [c:ShpC P tt q m] [a:AtA L (some ⟨g,0,none⟩) n cap e sz ps R1] (hk:ps[k]?=some fs) [f:Vf v m gs] [p:Put fs 0 gs fs'] (hK:∀ w',Mem H w0 (rowR e sz (some ⟨g,0,none⟩) n cap (ps.set k fs')::R1) w'→K undef w'):df P w (o_store tt (.pointer (some ⟨g,0+k*sz,none⟩)) v) false K:=dm_stf (off:=0) h hk hK
abbrev ltK (cv:Ky→Ky→Int):Ky→Ky→Bool:=fun x y=>decide (cv x y<0)
abbrev fTK (T:List (Ky × Nat)):List (List Fd):=T.map fun p=>Ky.fds p.1
theorem fTK_set (T:List (Ky × Nat)) (k:Nat) (x:Ky × Nat):(fTK T).set k (Ky.fds x.1)=fTK (T.set k x):=(List.map_set (f:=fun p:Ky × Nat=>Ky.fds p.1)).symm
theorem swpK (P Q S:List (Ky × Nat)) (x y:Ky × Nat) {i j:Nat} (hi:i=P.length) (hj:j=P.length+1+Q.length):((fTK (P++x::(Q++y::S))).set i (Ky.fds y.1)).set j (Ky.fds x.1)=fTK (P++y::(Q++x::S)):=by
 rw[fTK_set,fTK_set,swp_set P Q S x y hi hj]
theorem swpK' (P Q S:List (Ky × Nat)) (x y:Ky × Nat) {i j:Nat} (hi:i=P.length) (hj:j=P.length+1+Q.length):((fTK (P++x::(Q++y::S))).set j (Ky.fds x.1)).set i (Ky.fds y.1)=fTK (P++y::(Q++x::S)):=by
 rw[fTK_set,fTK_set,swp_set' P Q S x y hi hj]
section
variable {H:Hp} {w0 w:World} {L R:List Res} {A:Option Addr} {n c:Nat} {cv:Ky→Ky→Int} {fc:Nat}
theorem swapRK_ok (P U Q V S:List (Ky × Nat)) (hn:(P++(U++(Q++(V++S)))).length=n) (hl:n≤1000000) (hU:U.length=V.length) (x4:Value) (hM:Mem H w0 (rowR 43 33 A n c (fTK (P++(U++(Q++(V++S)))))::R) w):
  Calls Tryz.prog 154 #[.slice A n c,.int .i64 P.length,.int .i64 ((P.length:Int)+U.length+Q.length),.int .i64 U.length,x4] w fun en w'=>∃ v,en=.returned v∧v=.tuple #[]∧Mem H w0 (rowR 43 33 A n c (fTK (P++(V++(Q++(U++S)))))::R) w':=by
 simp only[List.length_append]at hn
 refine C_slices_swapRangeCmpFunc_api_Key ?_
 unfold F_slices_swapRangeCmpFunc_api_Key
 refine⟨fun v w'=>∃ i:Nat,v=.int .i64 i∧i≤U.length∧Mem H w0 (rowR 43 33 A n c (fTK (P++((V.take i++U.drop i)++(Q++((U.take i++V.drop i)++S)))))::R) w',fun v _=>match v with | .int _ k=>U.length - k.toNat|_=>0,⟨0,rfl,by omega,by simpa using hM⟩,?_⟩
 clear hM
 rintro v u w1 ⟨i,rfl,hi,hM⟩
 (((refine mop_cS trivial ?_ ?_)))
 ·intro hlt
  have hiu:i<U.length:=by omega
  have hiv:i<V.length:=by omega
  obtain⟨T,hT⟩:∃ T,P++((V.take i++U.drop i)++(Q++((U.take i++V.drop i)++S)))=T:=⟨_,rfl⟩
  have e1:T=(P++V.take i)++U[i]::((U.drop (i+1)++Q++U.take i)++V[i]::(V.drop (i+1)++S)):=by
   rw[← hT,List.drop_eq_getElem_cons hiu,List.drop_eq_getElem_cons hiv]
   simp only[List.append_assoc,List.cons_append]
  have e2:P++((V.take (i+1)++U.drop (i+1))++(Q++((U.take (i+1)++V.drop (i+1))++S)))=(P++V.take i)++V[i]::((U.drop (i+1)++Q++U.take i)++U[i]::(V.drop (i+1)++S)):=by
   rw[List.take_succ_eq_append_getElem hiu,List.take_succ_eq_append_getElem hiv]
   simp only[List.append_assoc,List.cons_append,List.nil_append]
  have p1:P.length+i=(P++V.take i).length:=by rw[List.length_append,List.length_take];omega
  have p2:P.length+U.length+Q.length+i=(P++V.take i).length+1+(U.drop (i+1)++Q++U.take i).length:=by
   simp only[List.length_append,List.length_take,List.length_drop]
   omega
  have hTl:T.length=n:=by
   rw[← hT]
   simp only[List.length_append,List.length_take,List.length_drop]
   omega
  rw[hT]at hM
  have g1:∀ (k:Nat) (hk:k<T.length),k=P.length+i→T[k]=U[i]:=fun k hk e=>by
   subst e
   simp only[e1]
   exact swp_l _ _ _ _ _ p1 _
  have g2:∀ (k:Nat) (hk:k<T.length),k=P.length+U.length+Q.length+i→T[k]=V[i]:=fun k hk e=>by
   subst e
   simp only[e1]
   exact swp_r _ _ _ _ _ p2 _
  have i1:((P.length:Int)+i).toNat=P.length+i:=by omega
  have i2:((P.length:Int)+U.length+Q.length+i).toNat=P.length+U.length+Q.length+i:=by omega
  (((refine mif_true ?_;refine dp_c ?_ ?_));(focus omega);((refine dp_c ?_ ?_));(focus omega);((refine dp_c ?_ ?_));(focus omega);((refine dp_ixr hM ?_ ?_));(focus omega);((intro _ hA));(cases hA);((refine dm_ldr0 hM (map_atI ?_) ?_));(focus omega);((refine dp_c ?_ ?_));(focus omega);((refine dp_ixr hM ?_ ?_));(focus omega);((intro _ hA));(cases hA);((refine dm_ldr0 hM (map_atI ?_) ?_));(focus omega);((refine dp_ixr hM ?_ ?_));(focus omega);((intro _ hA));(cases hA))
  refine dm_str0 hM (map_at (by omega)) (fun w' hM=>?_)
  (((refine dp_ixr hM ?_ ?_));(focus omega);((intro _ hA));(cases hA))
  refine dm_str0 hM (by rw[List.getElem?_set_ne (by omega)];exact map_at (by omega)) (fun w' hM=>?_)
  rw[g1 _ _ rfl,g2 _ _ rfl,i1,i2]at hM
  have hs:((fTK T).set (P.length+i) (Ky.fds V[i].1)).set (P.length+U.length+Q.length+i) (Ky.fds U[i].1)=fTK (P++((V.take (i+1)++U.drop (i+1))++(Q++((U.take (i+1)++V.drop (i+1))++S)))):=by
   rw[e2,e1]
   exact swpK _ _ _ _ _ p1 p2
  have hM2:Mem H w0 (rowR 43 33 _ n c (((fTK T).set (P.length+i) (Ky.fds V[i].1)).set (P.length+U.length+Q.length+i) (Ky.fds U[i].1))::R) _:=hM
  rw[hs]at hM2
  have hM:=hM2
  clear hM2
  (((refine mm_end hM ?_;clear hM;intro _ hM;refine mop_c ?_ ?_));(focus omega))
  exact⟨⟨i+1,rfl,by omega,hM⟩,by simp only;omega⟩
 ·intro hge
  obtain rfl:i=U.length:=by omega
  (((refine mif_false ?_)))
  refine⟨_,rfl,rfl,?_⟩
  have e:P++((V.take U.length++U.drop U.length)++(Q++((U.take U.length++V.drop U.length)++S)))=P++(V++(Q++(U++S))):=by
   rw[hU,List.take_length,List.drop_length,← hU,List.take_length,List.drop_length]
   simp
  rw[← e]
  exact hM
end
end Go.Proofs.YtpjodlnlmaaihaaGreat
namespace Go.Proofs.YtpjodlnlmaaihaaGreat
open Go.RowKit
section
variable {H:Hp} {w0 w:World} {L R:List Res} {A:Option Addr} {n c:Nat} {cv:Ky→Ky→Int} {fc:Nat}
theorem swapRK_to {T T':List (Ky × Nat)} (P U Q V S:List (Ky × Nat)) {a b k:Int} (ha:a=P.length) (hb:b=(P.length:Int)+U.length+Q.length) (hk:k=U.length) (hT:T=P++(U++(Q++(V++S)))) (hT':T'=P++(V++(Q++(U++S)))) (hn:T.length=n) (hl:n≤1000000) (hU:U.length=V.length) (x4:Value) (hM:Mem H w0 (rowR 43 33 A n c (fTK T)::R) w):
  Calls Tryz.prog 154 #[.slice A n c,.int .i64 a,.int .i64 b,.int .i64 k,x4] w fun en w'=>∃ v,en=.returned v∧v=.tuple #[]∧Mem H w0 (rowR 43 33 A n c (fTK T')::R) w':=by
 subst ha hb hk hT hT'
 exact swapRK_ok P U Q V S hn hl hU x4 hM
theorem rotRK_ok {T T':List (Ky × Nat)} (P X Y S:List (Ky × Nat)) {a m b:Int} (ha:a=P.length) (hm:m=(P.length:Int)+X.length) (hb:b=(P.length:Int)+X.length+Y.length) (hT:T=P++(X++(Y++S))) (hT':T'=P++(Y++(X++S))) (hX:0<X.length) (hY:0<Y.length) (hn:T.length=n) (hl:n≤1000000) (x4:Value) (hM:Mem H w0 (rowR 43 33 A n c (fTK T)::R) w):
  Calls Tryz.prog 150 #[.slice A n c,.int .i64 a,.int .i64 m,.int .i64 b,x4] w fun en w'=>∃ v,en=.returned v∧v=.tuple #[]∧Mem H w0 (rowR 43 33 A n c (fTK T')::R) w':=by
 have hn2:P.length+X.length+Y.length+S.length=n:=by
  rw[hT]at hn
  simp only[List.length_append]at hn
  omega
 refine C_slices_rotateCmpFunc_api_Key ?_
 unfold F_slices_rotateCmpFunc_api_Key
 (((refine mop_c ?_ ?_));(focus omega);((refine mop_c ?_ ?_));(focus omega))
 refine⟨fun v u w'=>∃ (E U V F':List (Ky × Nat)),v=.int .i64 U.length∧u=.int .i64 V.length∧0<U.length∧0<V.length∧E.length+U.length=X.length∧E.length+U.length+V.length+F'.length=X.length+Y.length∧E++(V++(U++F'))=Y++X∧Mem H w0 (rowR 43 33 A n c (fTK (P++(E++(U++(V++(F'++S))))))::R) w',fun v u _=>match v,u with | .int _ i,.int _ j=>i.toNat+j.toNat|_,_=>0,⟨[],X,Y,[],by rw[Value.int.injEq];refine⟨rfl,?_⟩;omega,by rw[Value.int.injEq];refine⟨rfl,?_⟩;omega,hX,hY,by simp,by simp,by simp,by rw[hT]at hM;simpa using hM⟩,?_⟩
 clear hM
 rintro v u w1 w2 ⟨E,U,V,F',rfl,rfl,hU,hV,hE,hEl,hEq,hM⟩
 have hTl:(P++(E++(U++(V++(F'++S))))).length=n:=by
  simp only[List.length_append]
  omega
 by_cases hij:U.length=V.length
 ·(((refine mop_cF trivial ?_ ?_));(focus (first|assumption|omega|with_reducible rfl|exact fun h=>Bool.noConfusion h));((refine mif_false ?_;refine mop_c ?_ ?_));(focus omega))
  refine mm_own (swapRK_to (P++E) U [] V (F'++S) (by rw[List.length_append];push_cast;omega) (by rw[List.length_append];simp only[List.length_nil];push_cast;omega) (by omega) (by simp only[List.append_assoc,List.nil_append]) rfl hTl hl hij x4 hM) ?_
  rintro v w3 ⟨rfl,hM⟩
  skip
  refine⟨_,rfl,rfl,?_⟩
  have e:(P++E)++(V++([]++(U++(F'++S))))=T':=by
   rw[hT',← List.append_assoc Y X S,← hEq]
   simp only[List.append_assoc,List.nil_append]
  rw[← e]
  exact hM
 by_cases hgt:V.length<U.length
 ·have e1:U=U.take V.length++U.drop V.length:=(List.take_append_drop _ _).symm
  have l1:(U.take V.length).length=V.length:=by rw[List.length_take];omega
  have l2:(U.drop V.length).length=U.length - V.length:=List.length_drop
  generalize U.take V.length=U1 at e1 l1
  generalize U.drop V.length=U2 at e1 l2
  (((refine mop_cT trivial ?_ ?_));(focus (first|assumption|omega|with_reducible rfl|exact fun h=>Bool.noConfusion h));((refine mif_true ?_;refine mop_cT trivial ?_ ?_));(focus (first|assumption|omega|with_reducible rfl|exact fun h=>Bool.noConfusion h));((refine mif_true ?_;refine mop_c ?_ ?_));(focus omega))
  refine mm_own (swapRK_to (P++E) U1 U2 V (F'++S) (by rw[List.length_append];push_cast;omega) (by rw[List.length_append];push_cast;omega) (by omega) (by rw[e1];simp only[List.append_assoc]) rfl hTl hl l1 x4 hM) ?_
  rintro v w3 ⟨rfl,hM⟩
  (((refine mop_c ?_ ?_));(focus omega))
  refine⟨⟨E++V,U2,U1,F',by rw[Value.int.injEq];refine⟨rfl,?_⟩;omega,by rw[Value.int.injEq];refine⟨rfl,?_⟩;omega,by omega,by omega,by rw[List.length_append];omega,by rw[List.length_append];omega,by rw[← hEq,e1];simp only[List.append_assoc],by simpa only [List.append_assoc] using hM⟩,by simp only;omega⟩
 ·have e1:V=V.take (V.length - U.length)++V.drop (V.length - U.length):=(List.take_append_drop _ _).symm
  have l1:(V.take (V.length - U.length)).length=V.length - U.length:=by rw[List.length_take];omega
  have l2:(V.drop (V.length - U.length)).length=U.length:=by rw[List.length_drop];omega
  generalize V.take (V.length - U.length)=V1 at e1 l1
  generalize V.drop (V.length - U.length)=V2 at e1 l2
  (((refine mop_cT trivial ?_ ?_));(focus (first|assumption|omega|with_reducible rfl|exact fun h=>Bool.noConfusion h));((refine mif_true ?_;refine mop_cF trivial ?_ ?_));(focus (first|assumption|omega|with_reducible rfl|exact fun h=>Bool.noConfusion h));((refine mif_false ?_;refine mop_c ?_ ?_));(focus omega);((refine mop_c ?_ ?_));(focus omega);((refine mop_c ?_ ?_));(focus omega))
  refine mm_own (swapRK_to (P++E) U V1 V2 (F'++S) (by rw[List.length_append];push_cast;omega) (by rw[List.length_append];push_cast;omega) (by omega) (by rw[e1];simp only[List.append_assoc]) rfl hTl hl l2.symm x4 hM) ?_
  rintro v w3 ⟨rfl,hM⟩
  (((refine mop_c ?_ ?_));(focus omega))
  refine⟨⟨E,V2,V1,U++F',by rw[Value.int.injEq];refine⟨rfl,?_⟩;omega,by rw[Value.int.injEq];refine⟨rfl,?_⟩;omega,by omega,by omega,by omega,by rw[List.length_append];omega,by rw[← hEq,e1];simp only[List.append_assoc],by simpa only [List.append_assoc] using hM⟩,by simp only;omega⟩
end
section
variable {H:Hp} {w0 w:World} {L R:List Res} {A:Option Addr} {n c:Nat} {cv:Ky→Ky→Int} {fc:Nat}
theorem insRK_ok [FunC Tryz.prog fc] [hc:∀ x y:Ky,PurC Tryz.prog fc [.agg (fl (Ky.fds x)).toArray,.agg (fl (Ky.fds y)).toArray] True (.int .i64 (cv x y))] (hW:SW (ltK cv)) {T:List (Ky × Nat)} (P M S:List (Ky × Nat)) {a b:Int} (ha:a=P.length) (hb:b=(P.length:Int)+M.length) (hT:T=P++(M++S)) (ht:M.Pairwise (fun p q=>p.2<q.2)) (hn:T.length=n) (hl:n≤1000000) (hM:Mem H w0 (rowR 43 33 A n c (fTK T)::R) w):
  Calls Tryz.prog 136 #[.slice A n c,.int .i64 a,.int .i64 b,fv fc] w fun en w'=>∃ v,en=.returned v∧v=.tuple #[]∧∃ M',okR (ltK cv) M M'∧Mem H w0 (rowR 43 33 A n c (fTK (P++(M'++S)))::R) w':=by
 have hn2:P.length+M.length+S.length=n:=by
  rw[hT]at hn
  simp only[List.length_append]at hn
  omega
 refine C_slices_insertionSortCmpFunc_api_Key ?_
 unfold F_slices_insertionSortCmpFunc_api_Key
 (((refine mop_c ?_ ?_));(focus omega))
 refine⟨fun v w'=>∃ (k:Nat) (M1:List (Ky × Nat)),v=.int .i64 ((P.length:Int)+k)∧1≤k∧(k≤M.length∨k=1)∧okR (ltK cv) (M.take k) M1∧Mem H w0 (rowR 43 33 A n c (fTK (P++(M1++(M.drop k++S))))::R) w',fun v _=>match v with | .int _ k=>n+2 - k.toNat|_=>0,⟨1,M.take 1,by rw[Value.int.injEq];refine⟨rfl,?_⟩;omega,by omega,.inr rfl,⟨.refl _,?_⟩,?_⟩,?_⟩
 ·cases M with
  | nil=>exact .nil
  | cons x r=>simp
 ·rw[← List.append_assoc (M.take 1),List.take_append_drop,← hT]
  exact hM
 clear hM
 rintro v u w1 ⟨k,M1,rfl,hk1,hk2,hok,hM⟩
 (((refine mop_cS trivial ?_ ?_)))
 ·intro hlt
  have hkl:k<M.length:=by omega
  have hl1:M1.length=k:=by
   rw[hok.1.length_eq,List.length_take]
   omega
  have hdr:M.drop k=M[k]::M.drop (k+1):=List.drop_eq_getElem_cons hkl
  have htag:∀ y∈M1,y.2<M[k].2:=fun y hy=>by
   have hy:=hok.1.mem_iff.1 hy
   obtain⟨j,hj,rfl⟩:=List.mem_take_iff_getElem.1 hy
   exact List.pairwise_iff_getElem.1 ht j k (by omega) hkl (by omega)
  obtain⟨x,hx⟩:∃ x,M[k]=x:=⟨_,rfl⟩
  rw[hx]at hdr htag
  (((refine mif_true ?_)))
  refine⟨fun v w'=>∃ (X Y:List (Ky × Nat)),v=.int .i64 ((P.length:Int)+X.length)∧X++Y=M1∧(∀ y∈Y,tl (ltK cv) x y)∧Mem H w0 (rowR 43 33 A n c (fTK (P++(X++x::(Y++(M.drop (k+1)++S)))))::R) w',fun v _=>match v with | .int _ k=>k.toNat|_=>0,⟨M1,[],by rw[hl1],by simp,by simp,by rw[hdr]at hM;simpa using hM⟩,?_⟩
  clear hM
  rintro v u2 w2 ⟨X,Y,rfl,hXY,hY,hM⟩
  have hXl:X.length≤k:=by
   rw[← hl1,← hXY,List.length_append]
   omega
  have hTl:(P++(X++x::(Y++(M.drop (k+1)++S)))).length=n:=by
   have:=congrArg List.length hXY
   simp only[List.length_append,List.length_cons,List.length_drop]at this ⊢
   omega
  have hexit:(X=[]∨∃ X' y,X=X'++[y]∧tl (ltK cv) y x)→okR (ltK cv) (M.take (k+1)) (X++x::Y):=fun he=>by
   refine⟨?_,pw_ins hW (by rw[hXY];exact hok.2) hY he⟩
   rw[List.take_succ_eq_append_getElem hkl,hx]
   refine List.perm_middle.trans ?_
   rw[hXY]
   exact((hok.1.cons x)).trans (List.perm_append_singleton x _).symm
  refine⟨fun w'=>∃ (X':List (Ky × Nat)) (y:Ky × Nat),X=X'++[y]∧tl (ltK cv) x y∧Mem H w0 (rowR 43 33 A n c (fTK (P++(X++x::(Y++(M.drop (k+1)++S)))))::R) w',?_,?_⟩
  ·rcases List.eq_nil_or_concat X with rfl|⟨X',y,hxx⟩
   ·have h0:([]:List (Ky × Nat)).length=0:=rfl
    (((refine dp_cF trivial ?_ ?_));(focus (first|assumption|omega|with_reducible rfl|exact fun h=>Bool.noConfusion h));(((iterate 10 refine qguard_n2 ?_);refine mguard_n2 ?_;refine qguard_n2 ?_;refine dp_c trivial ?_;refine mm_end hM ?_;clear hM;intro _ hM;refine mif_false ?_;refine mop_c ?_ ?_));(focus omega))
    refine⟨⟨k+1,[]++x::Y,by rw[Value.int.injEq];refine⟨rfl,?_⟩;push_cast;omega,by omega,.inl (by omega),hexit (.inl rfl),by simpa using hM⟩,by simp only;omega⟩
   ·rw[List.concat_eq_append]at hxx
    subst hxx
    have hT2:P++((X'++[y])++x::(Y++(M.drop (k+1)++S)))=(P++X')++y::([]++x::(Y++(M.drop (k+1)++S))):=by simp only[List.append_assoc,List.cons_append,List.nil_append]
    obtain⟨T2,hT3⟩:∃ T2,P++((X'++[y])++x::(Y++(M.drop (k+1)++S)))=T2:=⟨_,rfl⟩
    rw[hT3]at hM hTl hT2
    rw[List.length_append,List.length_singleton]at hXl ⊢
    have g1:∀ (q:Nat) (hq:q<T2.length),q=P.length+(X'.length+1)→T2[q]=x:=fun q hq e=>by
     subst e
     simp only[hT2]
     exact swp_r _ _ _ _ _ (by rw[List.length_append];simp only[List.length_nil];omega) _
    have g2:∀ (q:Nat) (hq:q<T2.length),q=P.length+X'.length→T2[q]=y:=fun q hq e=>by
     subst e
     simp only[hT2]
     exact swp_l _ _ _ _ _ (by rw[List.length_append]) _
    (((refine dp_cT trivial ?_ ?_));(focus (first|assumption|omega|with_reducible rfl|exact fun h=>Bool.noConfusion h));((refine qguard_yes ?_;refine dp_c trivial ?_;refine qguard_yes ?_;refine dp_c trivial ?_;refine qguard_yes ?_;refine dp_c trivial ?_;refine qguard_yes ?_;refine dp_ixr hM ?_ ?_));(focus omega);((intro _ hA));(cases hA);((refine qguard_yes ?_;refine dm_ldr0 hM (map_atI ?_) ?_));(focus omega);((refine qguard_yes ?_;refine dp_c trivial ?_;refine qguard_yes ?_;refine dp_c trivial ?_;refine qguard_yes ?_;refine dp_c ?_ ?_));(focus omega);((refine qguard_yes ?_;refine dp_ixr hM ?_ ?_));(focus omega);((intro _ hA));(cases hA);((refine qguard_yes ?_;refine dm_ldr0 hM (map_at ?_) ?_));(focus omega);((refine mguard_yes ?_;refine dm_purC hM ?_ (fun _ _ hM=>?_)));(focus (first|exact trivial|assumption|omega));((refine qguard_yes ?_)))
    (((refine dp_cS trivial ?_ ?_)))
    ·intro hc
     rw[g1 _ _ (by omega),g2 _ _ (by omega)]at hc
     (((refine dp_c trivial ?_;refine mm_end hM ?_;clear hM;intro _ hM;refine mif_true ?_)))
     exact⟨X',y,rfl,.inl (decide_eq_true hc),by rw[hT3];exact hM⟩
    ·intro hc
     rw[g1 _ _ (by omega),g2 _ _ (by omega)]at hc
     (((refine dp_c trivial ?_;refine mm_end hM ?_;clear hM;intro _ hM;refine mif_false ?_;refine mop_c ?_ ?_));(focus omega))
     refine⟨⟨k+1,(X'++[y])++x::Y,by rw[Value.int.injEq];refine⟨rfl,?_⟩;push_cast;omega,by omega,.inl (by omega),hexit (.inr ⟨X',y,rfl,tl_of _ _ (decide_eq_false hc) (htag y (by rw[← hXY];simp))⟩),?_⟩,by simp only;omega⟩
     rw[← hT3]at hM
     simpa only [List.append_assoc,List.cons_append] using hM
  clear hM
  rintro u3 w3 ⟨X',y,rfl,hxy,hM⟩
  have hT2:P++((X'++[y])++x::(Y++(M.drop (k+1)++S)))=(P++X')++y::([]++x::(Y++(M.drop (k+1)++S))):=by simp only[List.append_assoc,List.cons_append,List.nil_append]
  rw[hT2]at hM hTl
  rw[List.length_append,List.length_singleton]at hXl ⊢
  obtain⟨T2,hT3⟩:∃ T2,(P++X')++y::([]++x::(Y++(M.drop (k+1)++S)))=T2:=⟨_,rfl⟩
  rw[hT3]at hM hTl
  have p1:P.length+X'.length=(P++X').length:=by rw[List.length_append]
  have p2:P.length+(X'.length+1)=(P++X').length+1+([]:List (Ky × Nat)).length:=by rw[List.length_append];simp only[List.length_nil];omega
  have g1:∀ (q:Nat) (hq:q<T2.length),q=P.length+(X'.length+1)→T2[q]=x:=fun q hq e=>by
   subst e
   simp only[← hT3]
   exact swp_r _ _ _ _ _ p2 _
  have g2:∀ (q:Nat) (hq:q<T2.length),q=P.length+X'.length→T2[q]=y:=fun q hq e=>by
   subst e
   simp only[← hT3]
   exact swp_l _ _ _ _ _ p1 _
  (((refine dp_c ?_ ?_));(focus omega);((refine dp_c ?_ ?_));(focus omega);((refine dp_ixr hM ?_ ?_));(focus omega);((intro _ hA));(cases hA);((refine dm_ldr0 hM (map_at ?_) ?_));(focus omega);((refine dp_ixr hM ?_ ?_));(focus omega);((intro _ hA));(cases hA);((refine dm_ldr0 hM (map_atI ?_) ?_));(focus omega);((refine dp_ixr hM ?_ ?_));(focus omega);((intro _ hA));(cases hA))
  refine dm_str0 hM (map_at (by omega)) (fun w' hM=>?_)
  (((refine dp_ixr hM ?_ ?_));(focus omega);((intro _ hA));(cases hA))
  refine dm_str0 hM (by rw[List.getElem?_set_ne (by omega)];exact map_at (by omega)) (fun w' hM=>?_)
  first|rw[g1 _ _ (by omega),g2 _ _ (by omega)]at hM|rw[g2 _ _ (by omega),g1 _ _ (by omega)]at hM
  have i1:((P.length:Int)+((X'.length+1:Nat):Int)).toNat=P.length+(X'.length+1):=by omega
  have i2:((P.length:Int)+((X'.length+1:Nat):Int) - 1).toNat=P.length+X'.length:=by omega
  rw[i1,i2]at hM
  have hs:((fTK T2).set (P.length+(X'.length+1)) (Ky.fds y.1)).set (P.length+X'.length) (Ky.fds x.1)=fTK ((P++X')++x::([]++y::(Y++(M.drop (k+1)++S)))):=by
   rw[← hT3]
   exact swpK' _ _ _ _ _ p1 p2
  have hM2:Mem H w0 (rowR 43 33 _ n c (((fTK T2).set (P.length+(X'.length+1)) (Ky.fds y.1)).set (P.length+X'.length) (Ky.fds x.1))::R) _:=hM
  rw[hs]at hM2
  have hM:=hM2
  clear hM2
  (((refine mm_end hM ?_;clear hM;intro _ hM;refine mop_c ?_ ?_));(focus omega))
  refine⟨⟨X',y::Y,by rw[Value.int.injEq];refine⟨rfl,?_⟩;omega,by rw[← hXY];simp,fun z hz=>?_,by simpa only [List.append_assoc,List.cons_append,List.nil_append] using hM⟩,by simp only;omega⟩
  rcases List.mem_cons.1 hz with rfl|hz
  ·exact hxy
  ·exact hY z hz
 ·intro hge
  (((refine mif_false ?_)))
  have hk3:M.take k=M:=List.take_of_length_le (by omega)
  have hk4:M.drop k=[]:=List.drop_eq_nil_of_le (by omega)
  rw[hk3]at hok
  rw[hk4,List.nil_append]at hM
  exact⟨_,rfl,rfl,M1,hok,hM⟩
end
end Go.Proofs.YtpjodlnlmaaihaaGreat
namespace Go.Proofs.YtpjodlnlmaaihaaGreat
open Go.RowKit
section
variable {α:Type} {lt:α→α→Bool}
theorem pw_mid {X Y:List (α × Nat)} {x:α × Nat} (hp:(X++Y).Pairwise (tl lt)) (h1:∀ y∈X,tl lt y x) (h2:∀ y∈Y,tl lt x y):(X++x::Y).Pairwise (tl lt):=by
 obtain⟨a1,a2,a3⟩:=List.pairwise_append.1 hp
 refine List.pairwise_append.2 ⟨a1,List.pairwise_cons.2 ⟨h2,a2⟩,fun u hu v hv=>?_⟩
 rcases List.mem_cons.1 hv with rfl|hv
 ·exact h1 u hu
 ·exact a3 u hu v hv
theorem up_take (h:SW lt) {V:List (α × Nat)} (hp:V.Pairwise (tl lt)) {i:Nat} (hi:i<V.length) {x:α × Nat} (hx:tl lt V[i] x):∀ y∈V.take (i+1),tl lt y x:=fun y hy=>by
 obtain⟨j,hj,rfl⟩:=List.mem_take_iff_getElem.1 hy
 by_cases hc:j=i
 ·subst hc
  exact hx
 ·exact h.tlt (List.pairwise_iff_getElem.1 hp j i (by omega) hi (by omega)) hx
theorem dn_drop (h:SW lt) {V:List (α × Nat)} (hp:V.Pairwise (tl lt)) {i:Nat} (hi:i<V.length) {x:α × Nat} (hx:tl lt x V[i]):∀ y∈V.drop i,tl lt x y:=fun y hy=>by
 obtain⟨j,hj,rfl⟩:=List.mem_drop_iff_getElem.1 hy
 by_cases hc:j=0
 ·subst hc
  exact hx
 ·exact h.tlt hx (List.pairwise_iff_getElem.1 hp i (i+j) hi (by omega) (by omega))
theorem ends {U V:List (α × Nat)} {k j:Nat} (h:k=0∨j=V.length∨∃ (hk:k - 1<U.length) (hj:j<V.length),tl lt U[k - 1] V[j]):U.take k=[]∨V.drop j=[]∨∃ X' x y Y',U.take k=X'++[x]∧V.drop j=y::Y'∧tl lt x y:=by
 rcases h with rfl|rfl|⟨hk,hj,h⟩
 ·exact .inl rfl
 ·exact .inr (.inl (List.drop_length))
 ·by_cases h0:k=0
  ·exact .inl (by rw[h0];rfl)
  ·refine .inr (.inr ⟨U.take (k - 1),U[k - 1],V[j],V.drop (j+1),?_,List.drop_eq_getElem_cons hj,h⟩)
   rw[← List.take_succ_eq_append_getElem hk]
   congr 1
   omega
end
end Go.Proofs.YtpjodlnlmaaihaaGreat
namespace Go.Proofs.YtpjodlnlmaaihaaGreat
open Go.RowKit
section
variable {H:Hp} {w0 w:World} {L R:List Res} {A:Option Addr} {n c:Nat} {cv:Ky→Ky→Int} {fc:Nat}
theorem symAK_ok [FunC Tryz.prog fc] [hc:∀ x y:Ky,PurC Tryz.prog fc [.agg (fl (Ky.fds x)).toArray,.agg (fl (Ky.fds y)).toArray] True (.int .i64 (cv x y))] (hW:SW (ltK cv)) {T:List (Ky × Nat)} (P V S:List (Ky × Nat)) (x:Ky × Nat) {a m b:Int} (ha:a=P.length) (hm:m=(P.length:Int)+1) (hb:b=(P.length:Int)+1+V.length) (hT:T=P++(x::(V++S))) (hV:V.Pairwise (tl (ltK cv))) (ht:∀ v∈V,x.2<v.2) (hn:T.length=n) (hl:n≤1000000) (hM:Mem H w0 (rowR 43 33 A n c (fTK T)::R) w):
  Calls Tryz.prog 137 #[.slice A n c,.int .i64 a,.int .i64 m,.int .i64 b,fv fc] w fun en w'=>∃ v,en=.returned v∧v=.tuple #[]∧∃ M',M'.Perm (x::V)∧M'.Pairwise (tl (ltK cv))∧Mem H w0 (rowR 43 33 A n c (fTK (P++(M'++S)))::R) w':=by
 have hn2:P.length+1+V.length+S.length=n:=by
  rw[hT]at hn
  simp only[List.length_append,List.length_cons]at hn
  omega
 have g1:∀ (q:Nat) (hq:q<T.length),q=P.length→T[q]=x:=fun q hq e=>by
  subst e
  simp[hT]
 have g2:∀ (q:Nat) (hq:q<T.length) (i:Nat) (hi:i<V.length),q=P.length+1+i→T[q]=V[i]:=fun q hq i hi e=>by
  subst e
  simp only[hT]
  rw[List.getElem_append_right (by omega)]
  simp only[show P.length+1+i - P.length=i+1 by omega,List.getElem_cons_succ]
  rw[List.getElem_append_left hi]
 refine C_slices_symMergeCmpFunc_api_Key ?_
 unfold F_slices_symMergeCmpFunc_api_Key
 (((refine mop_c ?_ ?_));(focus omega);((refine mop_cT trivial ?_ ?_));(focus (first|assumption|omega|with_reducible rfl|exact fun h=>Bool.noConfusion h));((refine mif_true ?_)))
 refine⟨fun v u w'=>∃ (I J:Nat),v=.int .i64 ((P.length:Int)+1+I)∧u=.int .i64 ((P.length:Int)+1+J)∧I≤J∧J≤V.length∧(∀ y∈V.take I,tl (ltK cv) y x)∧(∀ y∈V.drop J,tl (ltK cv) x y)∧hM.now w',fun v u _=>match v,u with | .int _ i,.int _ j=>j.toNat - i.toNat|_,_=>0,⟨0,V.length,by rw[Value.int.injEq];refine⟨rfl,?_⟩;omega,by rw[Value.int.injEq];refine⟨rfl,?_⟩;omega,by omega,by omega,by simp,by simp,hM⟩,?_⟩
 rintro v u u2 w2 ⟨I,J,rfl,rfl,hIJ,hJ,hI1,hJ1,hM⟩
 (((refine mop_cS trivial ?_ ?_)))
 ·intro hlt
  have hlt':I<J:=by omega
  (((refine mif_true ?_;refine mop_c ?_ ?_));(focus omega);((refine mop_c trivial ?_;refine mop_c ?_ ?_));(focus omega))
  have e2:((P.length:Int)+1+I+(P.length+1+J))%18446744073709551616 / 2 ^ Int.toNat 1=(P.length:Int)+1+((I+J) / 2:Nat):=by
   rw[show(2:Int) ^ Int.toNat 1=2 from rfl]
   omega
  rw[e2]
  have hd:I≤(I+J) / 2∧(I+J) / 2<J:=by omega
  generalize (I+J) / 2=d at hd
  have hdl:d<V.length:=by omega
  (((refine mop_c ?_ ?_));(focus omega);((refine dp_ixr hM ?_ ?_));(focus omega);((intro _ hA));(cases hA);((refine dm_ldr0 hM (map_at ?_) ?_));(focus omega);((refine dp_ixr hM ?_ ?_));(focus omega);((intro _ hA));(cases hA);((refine dm_ldr0 hM (map_at ?_) ?_));(focus omega);((refine dm_purC hM ?_ (fun _ _ hM=>?_)));(focus (first|exact trivial|assumption|omega)))
  (((refine dp_cS trivial ?_ ?_)))
  ·intro hcm
   rw[g2 _ _ d hdl (by omega),g1 _ _ (by omega)]at hcm
   (((refine mm_end hM ?_;clear hM;intro _ hM;refine mif_true ?_;refine mop_c ?_ ?_));(focus omega))
   exact⟨⟨d+1,J,by rw[Value.int.injEq];refine⟨rfl,?_⟩;push_cast;omega,rfl,by omega,hJ,up_take hW hV hdl (.inl (decide_eq_true hcm)),hJ1,hM⟩,by simp only;omega⟩
  ·intro hcm
   rw[g2 _ _ d hdl (by omega),g1 _ _ (by omega)]at hcm
   (((refine mm_end hM ?_;clear hM;intro _ hM;refine mif_false ?_)))
   exact⟨⟨I,d,rfl,rfl,by omega,by omega,hI1,dn_drop hW hV hdl (tl_of _ _ (decide_eq_false hcm) (ht _ (List.getElem_mem hdl))),hM⟩,by simp only;omega⟩
 ·intro hge
  obtain rfl:I=J:=by omega
  (((refine mif_false ?_)))
  have hM:Mem H w0 (rowR 43 33 A n c (fTK T)::R) _:=hM
  rw[hT]at hM
  clear g1 g2
  refine⟨fun v w'=>∃ q:Nat,v=.int .i64 ((P.length:Int)+q)∧q≤I∧Mem H w0 (rowR 43 33 A n c (fTK (P++(V.take q++x::(V.drop q++S))))::R) w',fun v _=>match v with | .int _ k=>n - k.toNat|_=>0,⟨0,by rw[Value.int.injEq];refine⟨rfl,?_⟩;omega,by omega,hM⟩,?_⟩
  clear hM
  rintro v u3 w3 ⟨q,rfl,hq,hM⟩
  (((refine mop_c ?_ ?_));(focus omega))
  (((refine mop_cS trivial ?_ ?_)))
  ·intro hlt
   have hqv:q<V.length:=by omega
   have hTl:(P++(V.take q++x::(V.drop q++S))).length=n:=by
    simp only[List.length_append,List.length_cons,List.length_take,List.length_drop]
    omega
   have e1:P++(V.take q++x::(V.drop q++S))=(P++V.take q)++x::([]++V[q]::(V.drop (q+1)++S)):=by
    rw[List.drop_eq_getElem_cons hqv]
    simp only[List.append_assoc,List.cons_append,List.nil_append]
   have e2:P++(V.take (q+1)++x::(V.drop (q+1)++S))=(P++V.take q)++V[q]::([]++x::(V.drop (q+1)++S)):=by
    rw[List.take_succ_eq_append_getElem hqv]
    simp only[List.append_assoc,List.cons_append,List.nil_append]
   obtain⟨y,hy⟩:∃ y,V[q]=y:=⟨_,rfl⟩
   rw[hy]at e1 e2
   obtain⟨T2,hT2⟩:∃ T2,P++(V.take q++x::(V.drop q++S))=T2:=⟨_,rfl⟩
   rw[hT2]at hM hTl e1
   have p1:P.length+q=(P++V.take q).length:=by
    rw[List.length_append,List.length_take]
    omega
   have p2:P.length+q+1=(P++V.take q).length+1+([]:List (Ky × Nat)).length:=by
    rw[← p1]
    rfl
   have g1:∀ (k:Nat) (hk:k<T2.length),k=P.length+q→T2[k]=x:=fun k hk e=>by
    subst e
    simp only[e1]
    exact swp_l _ _ _ _ _ p1 _
   have g2:∀ (k:Nat) (hk:k<T2.length),k=P.length+q+1→T2[k]=y:=fun k hk e=>by
    subst e
    simp only[e1]
    exact swp_r _ _ _ _ _ p2 _
   (((refine mif_true ?_;refine dp_c ?_ ?_));(focus omega);((refine dp_c ?_ ?_));(focus omega);((refine dp_ixr hM ?_ ?_));(focus omega);((intro _ hA));(cases hA);((refine dm_ldr0 hM (map_at ?_) ?_));(focus omega);((refine dp_ixr hM ?_ ?_));(focus omega);((intro _ hA));(cases hA);((refine dm_ldr0 hM (map_atI ?_) ?_));(focus omega);((refine dp_ixr hM ?_ ?_));(focus omega);((intro _ hA));(cases hA))
   refine dm_str0 hM (map_at (by omega)) (fun w' hM=>?_)
   (((refine dp_ixr hM ?_ ?_));(focus omega);((intro _ hA));(cases hA))
   refine dm_str0 hM (by rw[List.getElem?_set_ne (by omega)];exact map_at (by omega)) (fun w' hM=>?_)
   first|rw[g1 _ _ (by omega),g2 _ _ (by omega)]at hM|rw[g2 _ _ (by omega),g1 _ _ (by omega)]at hM
   have i1:((P.length:Int)+q).toNat=P.length+q:=by omega
   have i2:((P.length:Int)+q+1).toNat=P.length+q+1:=by omega
   rw[i1,i2]at hM
   have hs:((fTK T2).set (P.length+q) (Ky.fds y.1)).set (P.length+q+1) (Ky.fds x.1)=fTK (P++(V.take (q+1)++x::(V.drop (q+1)++S))):=by
    rw[e1,e2]
    exact swpK _ _ _ _ _ p1 p2
   have hM2:Mem H w0 (rowR 43 33 _ n c (((fTK T2).set (P.length+q) (Ky.fds y.1)).set (P.length+q+1) (Ky.fds x.1))::R) _:=hM
   rw[hs]at hM2
   have hM:=hM2
   clear hM2
   (((refine mm_end hM ?_;clear hM;intro _ hM;refine mop_c ?_ ?_));(focus omega))
   exact⟨⟨q+1,by rw[Value.int.injEq];refine⟨rfl,?_⟩;push_cast;omega,by omega,hM⟩,by simp only;omega⟩
  ·intro hge2
   obtain rfl:q=I:=by omega
   (((refine mif_false ?_)))
   refine⟨_,rfl,rfl,V.take q++x::V.drop q,?_,pw_mid (by rw[List.take_append_drop];exact hV) hI1 hJ1,by simpa only [List.append_assoc,List.cons_append] using hM⟩
   refine List.perm_middle.trans ?_
   rw[List.take_append_drop]
theorem symBK_ok [FunC Tryz.prog fc] [hc:∀ x y:Ky,PurC Tryz.prog fc [.agg (fl (Ky.fds x)).toArray,.agg (fl (Ky.fds y)).toArray] True (.int .i64 (cv x y))] (hW:SW (ltK cv)) {T:List (Ky × Nat)} (P V S:List (Ky × Nat)) (x:Ky × Nat) (hv1:V.length≠1) {a m b:Int} (ha:a=P.length) (hm:m=(P.length:Int)+V.length) (hb:b=(P.length:Int)+V.length+1) (hT:T=P++(V++x::S)) (hV:V.Pairwise (tl (ltK cv))) (ht:∀ v∈V,v.2<x.2) (hn:T.length=n) (hl:n≤1000000) (hM:Mem H w0 (rowR 43 33 A n c (fTK T)::R) w):
  Calls Tryz.prog 137 #[.slice A n c,.int .i64 a,.int .i64 m,.int .i64 b,fv fc] w fun en w'=>∃ v,en=.returned v∧v=.tuple #[]∧∃ M',M'.Perm (V++[x])∧M'.Pairwise (tl (ltK cv))∧Mem H w0 (rowR 43 33 A n c (fTK (P++(M'++S)))::R) w':=by
 have hn2:P.length+1+V.length+S.length=n:=by
  rw[hT]at hn
  simp only[List.length_append,List.length_cons]at hn
  omega
 have g1:∀ (q:Nat) (hq:q<T.length),q=P.length+V.length→T[q]=x:=fun q hq e=>by
  subst e
  simp[hT]
 have g2:∀ (q:Nat) (hq:q<T.length) (i:Nat) (hi:i<V.length),q=P.length+i→T[q]=V[i]:=fun q hq i hi e=>by
  subst e
  simp only[hT]
  rw[List.getElem_append_right (by omega)]
  simp only[show P.length+i - P.length=i by omega]
  rw[List.getElem_append_left hi]
 refine C_slices_symMergeCmpFunc_api_Key ?_
 unfold F_slices_symMergeCmpFunc_api_Key
 (((refine mop_c ?_ ?_));(focus omega);((refine mop_cF trivial ?_ ?_));(focus (first|assumption|omega|with_reducible rfl|exact fun h=>Bool.noConfusion h));((refine mif_false ?_;refine mop_c ?_ ?_));(focus omega);((refine mop_cT trivial ?_ ?_));(focus (first|assumption|omega|with_reducible rfl|exact fun h=>Bool.noConfusion h));((refine mif_true ?_)))
 refine⟨fun v u w'=>∃ (I J:Nat),v=.int .i64 ((P.length:Int)+I)∧u=.int .i64 ((P.length:Int)+J)∧I≤J∧J≤V.length∧(∀ y∈V.take I,tl (ltK cv) y x)∧(∀ y∈V.drop J,tl (ltK cv) x y)∧hM.now w',fun v u _=>match v,u with | .int _ i,.int _ j=>j.toNat - i.toNat|_,_=>0,⟨0,V.length,by rw[Value.int.injEq];refine⟨rfl,?_⟩;omega,by rw[Value.int.injEq];refine⟨rfl,?_⟩;omega,by omega,by omega,by simp,by simp,hM⟩,?_⟩
 rintro v u u2 w2 ⟨I,J,rfl,rfl,hIJ,hJ,hI1,hJ1,hM⟩
 (((refine mop_cS trivial ?_ ?_)))
 ·intro hlt
  have hlt':I<J:=by omega
  (((refine mif_true ?_;refine mop_c ?_ ?_));(focus omega);((refine mop_c trivial ?_;refine mop_c ?_ ?_));(focus omega))
  have e2:((P.length:Int)+I+(P.length+J))%18446744073709551616 / 2 ^ Int.toNat 1=(P.length:Int)+((I+J) / 2:Nat):=by
   rw[show(2:Int) ^ Int.toNat 1=2 from rfl]
   omega
  rw[e2]
  have hd:I≤(I+J) / 2∧(I+J) / 2<J:=by omega
  generalize (I+J) / 2=d at hd
  have hdl:d<V.length:=by omega
  (((refine mop_c ?_ ?_));(focus omega);((refine dp_ixr hM ?_ ?_));(focus omega);((intro _ hA));(cases hA);((refine dm_ldr0 hM (map_at ?_) ?_));(focus omega);((refine dp_ixr hM ?_ ?_));(focus omega);((intro _ hA));(cases hA);((refine dm_ldr0 hM (map_atI ?_) ?_));(focus omega);((refine dm_purC hM ?_ (fun _ _ hM=>?_)));(focus (first|exact trivial|assumption|omega)))
  rw[g1 _ _ (by omega),g2 _ _ d hdl (by omega)]
  by_cases hcm:cv x.1 V[d].1<0
  ·(((refine dp_cT trivial ?_ ?_));(focus (first|assumption|omega|with_reducible rfl|exact fun h=>Bool.noConfusion h));((refine dp_c trivial ?_;refine mm_end hM ?_;clear hM;intro _ hM;refine mif_false ?_)))
   exact⟨⟨I,d,rfl,rfl,by omega,by omega,hI1,dn_drop hW hV hdl (.inl (decide_eq_true hcm)),hM⟩,by simp only;omega⟩
  ·(((refine dp_cF trivial ?_ ?_));(focus (first|assumption|omega|with_reducible rfl|exact fun h=>Bool.noConfusion h));((refine dp_c trivial ?_;refine mm_end hM ?_;clear hM;intro _ hM;refine mif_true ?_;refine mop_c ?_ ?_));(focus omega))
   exact⟨⟨d+1,J,by rw[Value.int.injEq];refine⟨rfl,?_⟩;push_cast;omega,rfl,by omega,hJ,up_take hW hV hdl (tl_of _ _ (decide_eq_false hcm) (ht _ (List.getElem_mem hdl))),hJ1,hM⟩,by simp only;omega⟩
 ·intro hge
  obtain rfl:I=J:=by omega
  (((refine mif_false ?_)))
  have hM:Mem H w0 (rowR 43 33 A n c (fTK T)::R) _:=hM
  rw[hT]at hM
  clear g1 g2
  refine⟨fun v w'=>∃ q:Nat,v=.int .i64 ((P.length:Int)+q)∧I≤q∧q≤V.length∧Mem H w0 (rowR 43 33 A n c (fTK (P++(V.take q++x::(V.drop q++S))))::R) w',fun v _=>match v with | .int _ k=>k.toNat|_=>0,⟨V.length,by rw[Value.int.injEq];refine⟨rfl,?_⟩;omega,by omega,by omega,by simpa using hM⟩,?_⟩
  clear hM
  rintro v u3 w3 ⟨q,rfl,hq,hq2,hM⟩
  (((refine mop_cS trivial ?_ ?_)))
  ·intro hlt
   obtain⟨q,rfl⟩:∃ q',q=q'+1:=⟨q - 1,by omega⟩
   have hqv:q<V.length:=by omega
   have hTl:(P++(V.take (q+1)++x::(V.drop (q+1)++S))).length=n:=by
    simp only[List.length_append,List.length_cons,List.length_take,List.length_drop]
    omega
   have e1:P++(V.take (q+1)++x::(V.drop (q+1)++S))=(P++V.take q)++V[q]::([]++x::(V.drop (q+1)++S)):=by
    rw[List.take_succ_eq_append_getElem hqv]
    simp only[List.append_assoc,List.cons_append,List.nil_append]
   have e2:P++(V.take q++x::(V.drop q++S))=(P++V.take q)++x::([]++V[q]::(V.drop (q+1)++S)):=by
    rw[List.drop_eq_getElem_cons hqv]
    simp only[List.append_assoc,List.cons_append,List.nil_append]
   obtain⟨y,hy⟩:∃ y,V[q]=y:=⟨_,rfl⟩
   rw[hy]at e1 e2
   obtain⟨T2,hT2⟩:∃ T2,P++(V.take (q+1)++x::(V.drop (q+1)++S))=T2:=⟨_,rfl⟩
   rw[hT2]at hM hTl e1
   have p1:P.length+q=(P++V.take q).length:=by
    rw[List.length_append,List.length_take]
    omega
   have p2:P.length+(q+1)=(P++V.take q).length+1+([]:List (Ky × Nat)).length:=by
    rw[← p1]
    rfl
   have g1:∀ (k:Nat) (hk:k<T2.length),k=P.length+(q+1)→T2[k]=x:=fun k hk e=>by
    subst e
    simp only[e1]
    exact swp_r _ _ _ _ _ p2 _
   have g2:∀ (k:Nat) (hk:k<T2.length),k=P.length+q→T2[k]=y:=fun k hk e=>by
    subst e
    simp only[e1]
    exact swp_l _ _ _ _ _ p1 _
   (((refine mif_true ?_;refine dp_c ?_ ?_));(focus omega);((refine dp_c ?_ ?_));(focus omega);((refine dp_ixr hM ?_ ?_));(focus omega);((intro _ hA));(cases hA);((refine dm_ldr0 hM (map_at ?_) ?_));(focus omega);((refine dp_ixr hM ?_ ?_));(focus omega);((intro _ hA));(cases hA);((refine dm_ldr0 hM (map_atI ?_) ?_));(focus omega);((refine dp_ixr hM ?_ ?_));(focus omega);((intro _ hA));(cases hA))
   refine dm_str0 hM (map_at (by omega)) (fun w' hM=>?_)
   (((refine dp_ixr hM ?_ ?_));(focus omega);((intro _ hA));(cases hA))
   refine dm_str0 hM (by rw[List.getElem?_set_ne (by omega)];exact map_at (by omega)) (fun w' hM=>?_)
   first|rw[g1 _ _ (by omega),g2 _ _ (by omega)]at hM|rw[g2 _ _ (by omega),g1 _ _ (by omega)]at hM
   have i1:((P.length:Int)+((q+1:Nat):Int)).toNat=P.length+(q+1):=by omega
   have i2:((P.length:Int)+((q+1:Nat):Int) - 1).toNat=P.length+q:=by omega
   rw[i1,i2]at hM
   have hs:((fTK T2).set (P.length+(q+1)) (Ky.fds y.1)).set (P.length+q) (Ky.fds x.1)=fTK (P++(V.take q++x::(V.drop q++S))):=by
    rw[e1,e2]
    exact swpK' _ _ _ _ _ p1 p2
   have hM2:Mem H w0 (rowR 43 33 _ n c (((fTK T2).set (P.length+(q+1)) (Ky.fds y.1)).set (P.length+q) (Ky.fds x.1))::R) _:=hM
   rw[hs]at hM2
   have hM:=hM2
   clear hM2
   (((refine mm_end hM ?_;clear hM;intro _ hM;refine mop_c ?_ ?_));(focus omega))
   exact⟨⟨q,by rw[Value.int.injEq];refine⟨rfl,?_⟩;push_cast;omega,by omega,by omega,hM⟩,by simp only;omega⟩
  ·intro hge2
   obtain rfl:q=I:=by omega
   (((refine mif_false ?_)))
   refine⟨_,rfl,rfl,V.take q++x::V.drop q,?_,pw_mid (by rw[List.take_append_drop];exact hV) hI1 hJ1,by simpa only [List.append_assoc,List.cons_append] using hM⟩
   refine List.perm_middle.trans ?_
   rw[List.take_append_drop]
   exact(List.perm_append_singleton x V).symm
end
end Go.Proofs.YtpjodlnlmaaihaaGreat
namespace Go.Proofs.YtpjodlnlmaaihaaGreat
open Go.RowKit
section
variable {H:Hp} {w0 w:World} {L R:List Res} {A:Option Addr} {n c:Nat} {cv:Ky→Ky→Int} {fc:Nat}
def symSK (H:Hp) (w0:World) (R:List Res) (A:Option Addr) (n c:Nat) (cv:Ky→Ky→Int) (fc N:Nat):Prop:=
 ∀ (T P U V S:List (Ky × Nat)) (a m b:Int) (w:World),a=P.length→m=(P.length:Int)+U.length→b=(P.length:Int)+U.length+V.length→T=P++(U++(V++S))→0<U.length→0<V.length→U.length+V.length<N→U.Pairwise (tl (ltK cv))→V.Pairwise (tl (ltK cv))→(∀ u∈U,∀ v∈V,u.2<v.2)→T.length=n→Mem H w0 (rowR 43 33 A n c (fTK T)::R) w →
  Calls Tryz.prog 137 #[.slice A n c,.int .i64 a,.int .i64 m,.int .i64 b,fv fc] w fun en w'=>∃ v,en=.returned v∧v=.tuple #[]∧∃ M',M'.Perm (U++V)∧M'.Pairwise (tl (ltK cv))∧Mem H w0 (rowR 43 33 A n c (fTK (P++(M'++S)))::R) w'
theorem symCK_ok [FunC Tryz.prog fc] [hc:∀ x y:Ky,PurC Tryz.prog fc [.agg (fl (Ky.fds x)).toArray,.agg (fl (Ky.fds y)).toArray] True (.int .i64 (cv x y))] (hW:SW (ltK cv)) (hl:n≤1000000) {N:Nat} (ih:symSK H w0 R A n c cv fc N) {T:List (Ky × Nat)} (P U V S:List (Ky × Nat)) {a m b:Int} (ha:a=P.length) (hm:m=(P.length:Int)+U.length) (hb:b=(P.length:Int)+U.length+V.length) (hT:T=P++(U++(V++S))) (hu1:1<U.length) (hv1:1<V.length) (hN:U.length+V.length<N+1) (hU:U.Pairwise (tl (ltK cv))) (hV:V.Pairwise (tl (ltK cv))) (ht:∀ u∈U,∀ v∈V,u.2<v.2) (hn:T.length=n) (hM:Mem H w0 (rowR 43 33 A n c (fTK T)::R) w):
  Calls Tryz.prog 137 #[.slice A n c,.int .i64 a,.int .i64 m,.int .i64 b,fv fc] w fun en w'=>∃ v,en=.returned v∧v=.tuple #[]∧∃ M',M'.Perm (U++V)∧M'.Pairwise (tl (ltK cv))∧Mem H w0 (rowR 43 33 A n c (fTK (P++(M'++S)))::R) w':=by
 subst ha hm hb
 have hn2:P.length+U.length+V.length+S.length=n:=by
  rw[hT]at hn
  simp only[List.length_append]at hn
  omega
 have g1:∀ (q:Nat) (hq:q<T.length) (i:Nat) (hi:i<U.length),q=P.length+i→T[q]=U[i]:=fun q hq i hi e=>by
  subst e
  simp only[hT]
  rw[List.getElem_append_right (by omega)]
  simp only[show P.length+i - P.length=i by omega]
  rw[List.getElem_append_left hi]
 have g2:∀ (q:Nat) (hq:q<T.length) (i:Nat) (hi:i<V.length),q=P.length+U.length+i→T[q]=V[i]:=fun q hq i hi e=>by
  subst e
  simp only[hT]
  rw[List.getElem_append_right (by omega)]
  simp only[show P.length+U.length+i - P.length=U.length+i by omega]
  rw[List.getElem_append_right (by omega)]
  simp only[show U.length+i - U.length=i by omega]
  rw[List.getElem_append_left hi]
 refine C_slices_symMergeCmpFunc_api_Key ?_
 unfold F_slices_symMergeCmpFunc_api_Key
 (((refine mop_c ?_ ?_));(focus omega);((refine mop_cF trivial ?_ ?_));(focus (first|assumption|omega|with_reducible rfl|exact fun h=>Bool.noConfusion h));((refine mif_false ?_;refine mop_c ?_ ?_));(focus omega);((refine mop_cF trivial ?_ ?_));(focus (first|assumption|omega|with_reducible rfl|exact fun h=>Bool.noConfusion h));((refine mif_false ?_;refine mop_c ?_ ?_));(focus omega);((refine mop_c trivial ?_;refine mop_c ?_ ?_));(focus omega))
 have e0:((P.length:Int)+(P.length+U.length+V.length))%18446744073709551616 / 2 ^ Int.toNat 1=(P.length:Int)+((U.length+V.length) / 2:Nat):=by
  rw[show(2:Int) ^ Int.toNat 1=2 from rfl]
  omega
 rw[e0]
 have hmu:2*((U.length+V.length) / 2)≤U.length+V.length∧U.length+V.length≤2*((U.length+V.length) / 2)+1:=by omega
 generalize (U.length+V.length) / 2=mu at hmu
 obtain⟨lo,hi,z1,z2,z3,z4,z5,z6,zd⟩:∃ lo hi:Nat,lo≤hi∧hi≤U.length∧hi≤mu∧mu≤lo+V.length∧(lo=0∨mu=lo+V.length)∧(hi=U.length∨hi=mu)∧((mu<U.length∧lo=mu - V.length∧hi=mu∧V.length≤mu)∨(¬mu<U.length∧lo=0∧hi=U.length)):=by
  by_cases hc:mu<U.length
  ·exact⟨mu - V.length,mu,by omega,by omega,by omega,by omega,by omega,by omega,by omega⟩
  ·exact⟨0,U.length,by omega,by omega,by omega,by omega,by omega,by omega,by omega⟩
 (((refine mop_c ?_ ?_));(focus omega);((refine mop_c ?_ ?_));(focus omega))
 refine⟨fun v u w'=>v=.int .i64 ((P.length:Int)+lo)∧u=.int .i64 ((P.length:Int)+hi)∧hM.now w',?_,?_⟩
 ·skip
  (((refine mop_cS trivial ?_ ?_)))
  ·intro hc
   (((refine mif_true ?_;refine mop_c ?_ ?_));(focus omega))
   exact⟨by rw[Value.int.injEq];refine⟨rfl,?_⟩;omega,by rw[Value.int.injEq];refine⟨rfl,?_⟩;omega,hM⟩
  ·intro hc
   (((refine mif_false ?_)))
   exact⟨by rw[Value.int.injEq];refine⟨rfl,?_⟩;omega,by rw[Value.int.injEq];refine⟨rfl,?_⟩;omega,hM⟩
 clear zd
 rintro v u u2 w2 ⟨rfl,rfl,hM⟩
 (((refine mop_c ?_ ?_));(focus omega))
 refine⟨fun v u w'=>∃ (I J:Nat),v=.int .i64 ((P.length:Int)+I)∧u=.int .i64 ((P.length:Int)+J)∧lo≤I∧I≤J∧J≤hi∧(I=lo∨∃ (i j:Nat) (hi:i<U.length) (hj:j<V.length),i+1=I∧j+I=mu∧tl (ltK cv) U[i] V[j])∧(J=hi∨∃ (i j:Nat) (hi:i<U.length) (hj:j<V.length),i=J∧j+1+J=mu∧tl (ltK cv) V[j] U[i])∧hM.now w',fun v u _=>match v,u with | .int _ i,.int _ j=>j.toNat - i.toNat|_,_=>0,⟨lo,hi,rfl,rfl,by omega,by omega,by omega,.inl rfl,.inl rfl,hM⟩,?_⟩
 rintro v u u2 w2 ⟨I,J,rfl,rfl,hI0,hIJ,hJ0,hI1,hJ1,hM⟩
 (((refine mop_cS trivial ?_ ?_)))
 ·intro hlt
  have hlt':I<J:=by omega
  (((refine mif_true ?_;refine mop_c ?_ ?_));(focus omega);((refine mop_c trivial ?_;refine mop_c ?_ ?_));(focus omega))
  have e2:((P.length:Int)+I+(P.length+J))%18446744073709551616 / 2 ^ Int.toNat 1=(P.length:Int)+((I+J) / 2:Nat):=by
   rw[show(2:Int) ^ Int.toNat 1=2 from rfl]
   omega
  rw[e2]
  have hd:I≤(I+J) / 2∧(I+J) / 2<J:=by omega
  generalize (I+J) / 2=d at hd
  have hdu:d<U.length:=by omega
  have hdv:mu - 1 - d<V.length:=by omega
  (((refine mop_c ?_ ?_));(focus omega);((refine dp_c ?_ ?_));(focus omega);((refine dp_ixr hM ?_ ?_));(focus omega);((intro _ hA));(cases hA);((refine dm_ldr0 hM (map_at ?_) ?_));(focus omega);((refine dp_ixr hM ?_ ?_));(focus omega);((intro _ hA));(cases hA);((refine dm_ldr0 hM (map_atI ?_) ?_));(focus omega);((refine dm_purC hM ?_ (fun _ _ hM=>?_)));(focus (first|exact trivial|assumption|omega)))
  rw[g2 _ _ (mu - 1 - d) hdv (by omega),g1 _ _ d hdu (by omega)]
  by_cases hcm:cv V[mu - 1 - d].1 U[d].1<0
  ·(((refine dp_cT trivial ?_ ?_));(focus (first|assumption|omega|with_reducible rfl|exact fun h=>Bool.noConfusion h));((refine dp_c trivial ?_;refine mm_end hM ?_;clear hM;intro _ hM;refine mif_false ?_)))
   exact⟨⟨I,d,rfl,rfl,by omega,by omega,by omega,hI1,.inr ⟨d,mu - 1 - d,hdu,hdv,rfl,by omega,.inl (decide_eq_true hcm)⟩,hM⟩,by simp only;omega⟩
  ·(((refine dp_cF trivial ?_ ?_));(focus (first|assumption|omega|with_reducible rfl|exact fun h=>Bool.noConfusion h));((refine dp_c trivial ?_;refine mm_end hM ?_;clear hM;intro _ hM;refine mif_true ?_;refine mop_c ?_ ?_));(focus omega))
   exact⟨⟨d+1,J,by rw[Value.int.injEq];refine⟨rfl,?_⟩;push_cast;omega,rfl,by omega,by omega,by omega,.inr ⟨d,mu - 1 - d,hdu,hdv,rfl,by omega,tl_of _ _ (decide_eq_false hcm) (ht _ (List.getElem_mem hdu) _ (List.getElem_mem hdv))⟩,hJ1,hM⟩,by simp only;omega⟩
 intro hge
 obtain rfl:I=J:=by omega
 obtain⟨j,hj⟩:∃ j,I+j=mu:=⟨mu - I,by omega⟩
 have c1:U.take I=[]∨V.drop j=[]∨∃ X' x y Y',U.take I=X'++[x]∧V.drop j=y::Y'∧tl (ltK cv) x y:=by
  refine ends ?_
  rcases hI1 with h|⟨i',j',h1,h2,h3,h4,h5⟩
  ·omega
  ·obtain rfl:j'=j:=by omega
   obtain rfl:i'=I - 1:=by omega
   exact .inr (.inr ⟨h1,h2,h5⟩)
 have c2:V.take j=[]∨U.drop I=[]∨∃ X' x y Y',V.take j=X'++[x]∧U.drop I=y::Y'∧tl (ltK cv) x y:=by
  refine ends ?_
  rcases hJ1 with h|⟨i',j',h1,h2,h3,h4,h5⟩
  ·omega
  ·obtain rfl:j'=j - 1:=by omega
   obtain rfl:i'=I:=by omega
   exact .inr (.inr ⟨h2,h1,h5⟩)
 have eU:U=U.take I++U.drop I:=(List.take_append_drop _ _).symm
 have eV:V=V.take j++V.drop j:=(List.take_append_drop _ _).symm
 have lU:(U.take I).length=I:=by rw[List.length_take];omega
 have lV:(V.take j).length=j:=by rw[List.length_take];omega
 have lU2:(U.drop I).length+I=U.length:=by rw[List.length_drop];omega
 have lV2:(V.drop j).length+j=V.length:=by rw[List.length_drop];omega
 clear hI1 hJ1 g1 g2
 generalize U.take I=U1 at *
 generalize U.drop I=U2 at *
 generalize V.take j=V1 at *
 generalize V.drop j=V2 at *
 have hT2:T=(P++U1)++(U2++(V1++(V2++S))):=by
  rw[hT,eU,eV]
  simp only[List.append_assoc]
 rw[eU]at hU
 rw[eV]at hV
 have t1:∀ u∈U1,∀ v∈V1,u.2<v.2:=fun u hu v hv=>ht u (by rw[eU];exact List.mem_append_left _ hu) v (by rw[eV];exact List.mem_append_left _ hv)
 have t2:∀ u∈U2,∀ v∈V2,u.2<v.2:=fun u hu v hv=>ht u (by rw[eU];exact List.mem_append_right _ hu) v (by rw[eV];exact List.mem_append_right _ hv)
 obtain⟨sU1,sU2,-⟩:=List.pairwise_append.1 hU
 obtain⟨sV1,sV2,-⟩:=List.pairwise_append.1 hV
 (((refine mif_false ?_;refine mop_c ?_ ?_));(focus omega))
 have hM:Mem H w0 (rowR 43 33 A n c (fTK T)::R) _:=hM
 refine⟨fun w'=>Mem H w0 (rowR 43 33 A n c (fTK ((P++U1)++(V1++(U2++(V2++S)))))::R) w',?_,?_⟩
 ·refine⟨fun v w'=>v=.bool (decide (0<U2.length∧0<V1.length))∧hM.now w',?_,?_⟩
  ·skip
   (((refine mop_cS trivial ?_ ?_)))
   ·intro k1
    (((refine mguard_yes ?_;refine mop_c trivial ?_;refine mguard_yes ?_;refine mop_c trivial ?_;refine mguard_yes ?_)))
    (((refine mop_cS trivial ?_ ?_)))
    ·intro k2
     (((refine mop_c trivial ?_)))
     exact⟨by rw[decide_eq_true (by omega)],hM⟩
    ·intro k2
     (((refine mop_c trivial ?_)))
     exact⟨by rw[decide_eq_false (by omega)],hM⟩
   ·intro k1
    ((((iterate 3 refine mguard_n2 ?_);refine mop_c trivial ?_)))
    exact⟨by rw[decide_eq_false (by omega)],hM⟩
  rintro v u3 w3 ⟨rfl,hM⟩
  by_cases hc:0<U2.length∧0<V1.length
  ·rw[decide_eq_true hc]
   (((refine mif_true ?_)))
   refine mm_own (rotRK_ok (P++U1) U2 V1 (V2++S) (by rw[List.length_append];push_cast;omega) (by rw[List.length_append];push_cast;omega) (by rw[List.length_append];push_cast;omega) hT2 rfl hc.1 hc.2 hn hl _ hM) ?_
   rintro v w4 ⟨rfl,hM⟩
   skip
   exact hM
  ·rw[decide_eq_false hc]
   (((refine mif_false ?_)))
   have hM:Mem H w0 (rowR 43 33 A n c (fTK T)::R) _:=hM
   rw[hT2]at hM
   rcases Decidable.not_and_iff_or_not.1 hc with h|h
   ·obtain rfl:U2=[]:=List.eq_nil_of_length_eq_zero (by omega)
    exact hM
   ·obtain rfl:V1=[]:=List.eq_nil_of_length_eq_zero (by omega)
    exact hM
 clear hM
 rintro u3 w3 hM
 rw[show(P++U1)++(V1++(U2++(V2++S)))=P++(U1++(V1++(U2++(V2++S)))) by simp only[List.append_assoc]]at hM
 refine⟨fun w'=>∃ M1:List (Ky × Nat),M1.Perm (U1++V1)∧M1.Pairwise (tl (ltK cv))∧Mem H w0 (rowR 43 33 A n c (fTK (P++(M1++(U2++(V2++S)))))::R) w',?_,?_⟩
 ·refine⟨fun v w'=>v=.bool (decide (0<U1.length∧0<V1.length))∧hM.now w',?_,?_⟩
  ·skip
   (((refine mop_cS trivial ?_ ?_)))
   ·intro k1
    (((refine mguard_yes ?_;refine mop_c trivial ?_;refine mguard_yes ?_;refine mop_c trivial ?_;refine mguard_yes ?_)))
    (((refine mop_cS trivial ?_ ?_)))
    ·intro k2
     (((refine mop_c trivial ?_)))
     exact⟨by rw[decide_eq_true (by omega)],hM⟩
    ·intro k2
     (((refine mop_c trivial ?_)))
     exact⟨by rw[decide_eq_false (by omega)],hM⟩
   ·intro k1
    ((((iterate 3 refine mguard_n2 ?_);refine mop_c trivial ?_)))
    exact⟨by rw[decide_eq_false (by omega)],hM⟩
  rintro v u4 w4 ⟨rfl,hM⟩
  by_cases hc:0<U1.length∧0<V1.length
  ·rw[decide_eq_true hc]
   (((refine mif_true ?_)))
   refine mm_own (ih _ P U1 V1 (U2++(V2++S)) _ _ _ _ (by omega) (by omega) (by omega) rfl hc.1 hc.2 (by omega) sU1 sV1 t1 (by simp only[List.length_append];omega) hM) ?_
   rintro v w5 ⟨rfl,M1,p1,s1,hM⟩
   skip
   exact⟨M1,p1,s1,hM⟩
  ·rw[decide_eq_false hc]
   (((refine mif_false ?_)))
   have hM:Mem H w0 (rowR 43 33 A n c (fTK (P++(U1++(V1++(U2++(V2++S))))))::R) _:=hM
   rw[← List.append_assoc U1]at hM
   refine⟨U1++V1,.refl _,?_,hM⟩
   rcases Decidable.not_and_iff_or_not.1 hc with h|h
   ·obtain rfl:U1=[]:=List.eq_nil_of_length_eq_zero (by omega)
    exact sV1
   ·obtain rfl:V1=[]:=List.eq_nil_of_length_eq_zero (by omega)
    rw[List.append_nil]
    exact sU1
 clear hM
 rintro u5 w5 ⟨M1,p1,s1,hM⟩
 have l1:=p1.length_eq
 rw[List.length_append]at l1
 have hfin:∀ M2:List (Ky × Nat),M2.Perm (U2++V2)→M2.Pairwise (tl (ltK cv))→(M1++M2).Perm (U++V)∧(M1++M2).Pairwise (tl (ltK cv)):=fun M2 p2 s2=>by
  refine⟨?_,pw_four hW hU hV p1 p2 s1 s2 c1 c2⟩
  rw[eU,eV]
  refine(p1.append p2).trans ?_
  simp only[List.append_assoc]
  refine List.Perm.append_left _ ?_
  rw[← List.append_assoc,← List.append_assoc U2]
  exact List.Perm.append_right _ List.perm_append_comm
 refine⟨fun v w'=>v=.bool (decide (0<U2.length∧0<V2.length))∧hM.now w',?_,?_⟩
 ·skip
  (((refine mop_cS trivial ?_ ?_)))
  ·intro k1
   (((refine mguard_yes ?_;refine mop_c trivial ?_;refine mguard_yes ?_;refine mop_c trivial ?_;refine mguard_yes ?_)))
   (((refine mop_cS trivial ?_ ?_)))
   ·intro k2
    (((refine mop_c trivial ?_)))
    exact⟨by rw[decide_eq_true (by omega)],hM⟩
   ·intro k2
    (((refine mop_c trivial ?_)))
    exact⟨by rw[decide_eq_false (by omega)],hM⟩
  ·intro k1
   ((((iterate 3 refine mguard_n2 ?_);refine mop_c trivial ?_)))
   exact⟨by rw[decide_eq_false (by omega)],hM⟩
 rintro v u6 w6 ⟨rfl,hM⟩
 have hM:Mem H w0 (rowR 43 33 A n c (fTK (P++(M1++(U2++(V2++S)))))::R) _:=hM
 rw[← List.append_assoc P]at hM
 by_cases hc:0<U2.length∧0<V2.length
 ·rw[decide_eq_true hc]
  (((refine mif_true ?_)))
  refine mm_own (ih _ (P++M1) U2 V2 S _ _ _ _ (by rw[List.length_append];push_cast;omega) (by rw[List.length_append];push_cast;omega) (by rw[List.length_append];push_cast;omega) rfl hc.1 hc.2 (by omega) sU2 sV2 t2 (by simp only[List.length_append];omega) hM) ?_
  rintro v w7 ⟨rfl,M2,p2,s2,hM⟩
  skip
  exact⟨_,rfl,rfl,M1++M2,(hfin M2 p2 s2).1,(hfin M2 p2 s2).2,by simpa only [List.append_assoc] using hM⟩
 ·rw[decide_eq_false hc]
  (((refine mif_false ?_)))
  have h2:=hfin (U2++V2) (.refl _) (by
   rcases Decidable.not_and_iff_or_not.1 hc with h|h
   ·obtain rfl:U2=[]:=List.eq_nil_of_length_eq_zero (by omega)
    exact sV2
   ·obtain rfl:V2=[]:=List.eq_nil_of_length_eq_zero (by omega)
    rw[List.append_nil]
    exact sU2)
  exact⟨_,rfl,rfl,M1++(U2++V2),h2.1,h2.2,by simpa only [List.append_assoc] using hM⟩
theorem symRK_ok [FunC Tryz.prog fc] [hc:∀ x y:Ky,PurC Tryz.prog fc [.agg (fl (Ky.fds x)).toArray,.agg (fl (Ky.fds y)).toArray] True (.int .i64 (cv x y))] (hW:SW (ltK cv)) (hl:n≤1000000):∀ N,symSK H w0 R A n c cv fc N:=by
 intro N
 induction N with
 | zero=>intro T P U V S a m b w ha hm hb hT hu hv hN;omega
 | succ N ih=>
  intro T P U V S a m b w ha hm hb hT hu hv hN hU hV ht hn hM
  by_cases h1:U.length=1
  ·obtain⟨x,rfl⟩:=List.length_eq_one_iff.1 h1
   exact symAK_ok hW P V S x ha (by simpa using hm) (by simpa using hb) (by simpa using hT) hV (fun v hv=>ht x (by simp) v hv) hn hl hM
  by_cases h2:V.length=1
  ·obtain⟨x,rfl⟩:=List.length_eq_one_iff.1 h2
   exact symBK_ok hW P U S x h1 ha (by simpa using hm) (by simpa using hb) (by simpa using hT) hU (fun u hu=>ht u hu x (by simp)) hn hl hM
  exact symCK_ok hW hl ih P U V S ha hm hb hT (by omega) (by omega) hN hU hV ht hn hM
end
end Go.Proofs.YtpjodlnlmaaihaaGreat
namespace Go.Proofs.YtpjodlnlmaaihaaGreat
open Go.RowKit
section
variable {H:Hp} {w0 w:World} {L R:List Res} {A:Option Addr} {n c:Nat} {cv:Ky→Ky→Int} {fc:Nat}
theorem stabRK_ok [FunC Tryz.prog fc] [hc:∀ x y:Ky,PurC Tryz.prog fc [.agg (fl (Ky.fds x)).toArray,.agg (fl (Ky.fds y)).toArray] True (.int .i64 (cv x y))] (hW:SW (ltK cv)) (hl:n≤1000000) (T0:List (Ky × Nat)) (ht:T0.Pairwise (fun p q=>p.2<q.2)) (hn:T0.length=n) (hM:Mem H w0 (rowR 43 33 A n c (fTK T0)::R) w):
  Calls Tryz.prog 106 #[.slice A n c,.int .i64 n,fv fc] w fun en w'=>∃ v,en=.returned v∧v=.tuple #[]∧∃ T,okR (ltK cv) T0 T∧Mem H w0 (rowR 43 33 A n c (fTK T)::R) w':=by
 have hsub:∀ {X Y Z:List (Ky × Nat)},T0=X++(Y++Z)→Y.Pairwise (fun p q=>p.2<q.2):=fun {X Y Z} e=>by
  rw[e]at ht
  exact(List.pairwise_append.1 (List.pairwise_append.1 ht).2.1).1
 have hcr:∀ {X Y Z W:List (Ky × Nat)},T0=X++(Y++(Z++W))→∀ {U V:List (Ky × Nat)},U.Perm Y→V.Perm Z→∀ u∈U,∀ v∈V,u.2<v.2:=fun {X Y Z W} e {U V} p1 p2 u hu v hv=>by
  rw[e]at ht
  exact(List.pairwise_append.1 (List.pairwise_append.1 ht).2.1).2.2 u (p1.mem_iff.1 hu) v (List.mem_append_left _ (p2.mem_iff.1 hv))
 refine C_slices_stableCmpFunc_api_Key ?_
 unfold F_slices_stableCmpFunc_api_Key
 refine⟨fun v u w'=>∃ (A0 A1 Z:List (Ky × Nat)),v=.int .i64 A1.length∧u=.int .i64 ((A1.length:Int)+20)∧T0=A0++Z∧RunsF (ltK cv) 20 A0 A1∧Mem H w0 (rowR 43 33 A n c (fTK (A1++Z))::R) w',fun v _ _=>match v with | .int _ k=>n+1 - k.toNat|_=>0,⟨[],[],T0,rfl,rfl,rfl,.nil,hM⟩,?_⟩
 clear hM
 rintro v u u2 w2 ⟨A0,A1,Z,rfl,rfl,hT,hA,hM⟩
 have hal:=hA.len
 have hlen:A1.length+Z.length=n:=by
  rw[hT,List.length_append]at hn
  omega
 (((refine mop_cS trivial ?_ ?_)))
 ·intro hle
  (((refine mif_true ?_)))
  have eZ:Z=Z.take 20++Z.drop 20:=(List.take_append_drop _ _).symm
  have lZ:(Z.take 20).length=20:=by rw[List.length_take];omega
  generalize Z.take 20=Z1 at eZ lZ
  generalize Z.drop 20=Z2 at eZ
  subst eZ
  refine mm_own (insRK_ok (cv:=cv) hW A1 Z1 Z2 rfl (by omega) rfl (hsub hT) (by rw[List.length_append];exact hlen) hl hM) ?_
  rintro v w3 ⟨rfl,M',hok,hM⟩
  have hml:=hok.1.length_eq
  (((refine mop_c ?_ ?_));(focus omega))
  exact⟨⟨A0++Z1,A1++M',Z2,by rw[Value.int.injEq];refine⟨rfl,?_⟩;rw[List.length_append];push_cast;omega,by rw[Value.int.injEq];refine⟨rfl,?_⟩;rw[List.length_append];push_cast;omega,by rw[hT,List.append_assoc],.snoc hA hok (by omega),by rw[List.append_assoc];exact hM⟩,by simp only;omega⟩
 intro hgt
 (((refine mif_false ?_)))
 refine mm_own (insRK_ok (cv:=cv) hW A1 Z [] rfl (by omega) (by rw[List.append_nil]) (hsub (X:=A0) (Z:=[]) (by rw[List.append_nil];exact hT)) (by rw[List.length_append];exact hlen) hl hM) ?_
 clear hM
 rintro v w3 ⟨rfl,M',hok,hM⟩
 rw[List.append_nil]at hM
 have hml:=hok.1.length_eq
 have hr0:Runs (ltK cv) 20 T0 (A1++M'):=by
  rw[hT]
  exact hA.app (.last hok (by omega))
 generalize A1++M'=T1 at hr0 hM
 clear hT hA hal hlen hok hml hgt
 refine⟨fun v w'=>∃ (bs:Nat) (T:List (Ky × Nat)),v=.int .i64 bs∧20≤bs∧bs≤2000000∧Runs (ltK cv) bs T0 T∧Mem H w0 (rowR 43 33 A n c (fTK T)::R) w',fun v _=>match v with | .int _ k=>n+1 - k.toNat|_=>0,⟨20,T1,rfl,by omega,by omega,hr0,hM⟩,?_⟩
 clear hM hr0
 rintro v u3 w4 ⟨bs,T,rfl,hb1,hb2,hr,hM⟩
 have htl:=hr.len
 (((refine mop_cS trivial ?_ ?_)))
 ·intro hlt
  (((refine mif_true ?_;refine mop_c ?_ ?_));(focus omega))
  refine⟨fun v u w'=>∃ (A0 A1 R0 R1:List (Ky × Nat)),v=.int .i64 A1.length∧u=.int .i64 ((A1.length:Int)+2*bs)∧T0=A0++R0∧RunsF (ltK cv) (2*bs) A0 A1∧Runs (ltK cv) bs R0 R1∧Mem H w0 (rowR 43 33 A n c (fTK (A1++R1))::R) w',fun v _ _=>match v with | .int _ k=>n+1 - k.toNat|_=>0,⟨[],[],T0,T,rfl,by rw[Value.int.injEq];refine⟨rfl,?_⟩;simp,rfl,.nil,hr,hM⟩,?_⟩
  clear hM hr htl
  rintro v u u4 w5 ⟨A0,A1,R0,R1,rfl,rfl,hT,hA,hr,hM⟩
  have hal:=hA.len
  have hrl:=hr.len
  have hlen:A1.length+R1.length=n:=by
   rw[hT,List.length_append]at hn
   omega
  (((refine mop_cS trivial ?_ ?_)))
  ·intro hle
   (((refine mif_true ?_;refine mop_c ?_ ?_));(focus omega))
   obtain⟨U0,U,S0,S,rfl,rfl,okU,hUl,hr⟩:=hr.first (by omega)
   rw[List.length_append]at hlen hrl
   obtain⟨V0,V,S0,S,rfl,rfl,okV,hVl,hr⟩:=hr.first (by omega)
   rw[List.length_append]at hlen
   refine mm_own (symRK_ok (cv:=cv) hW hl (U.length+V.length+1) _ A1 U V S _ _ _ _ rfl (by omega) (by omega) rfl (by omega) (by omega) (by omega) okU.2 okV.2 (hcr hT okU.1 okV.1) (by simp only[List.length_append];omega) hM) ?_
   clear hM
   rintro v w6 ⟨rfl,M',p,s,hM⟩
   have hml:=p.length_eq
   rw[List.length_append]at hml
   (((refine mop_c ?_ ?_));(focus omega);((refine mop_c ?_ ?_));(focus omega))
   exact⟨⟨A0++(U0++V0),A1++M',S0,S,by rw[Value.int.injEq];refine⟨rfl,?_⟩;rw[List.length_append];push_cast;omega,by rw[Value.int.injEq];refine⟨rfl,?_⟩;rw[List.length_append];push_cast;omega,by rw[hT];simp only[List.append_assoc],.snoc hA ⟨p.trans (okU.1.append okV.1),s⟩ (by omega),hr,by rw[List.append_assoc];exact hM⟩,by simp only;omega⟩
  intro hgt
  (((refine mif_false ?_)))
  refine⟨fun w'=>∃ T,Runs (ltK cv) (2*bs) T0 T∧Mem H w0 (rowR 43 33 A n c (fTK T)::R) w',?_,?_⟩
  ·(((refine mop_c ?_ ?_));(focus omega))
   (((refine mop_cS trivial ?_ ?_)))
   ·intro hc2
    (((refine mif_true ?_)))
    obtain⟨U0,U,S0,S,rfl,rfl,okU,hUl,hr⟩:=hr.first (by omega)
    rw[List.length_append]at hlen hrl
    have okS:=hr.short (by omega)
    refine mm_own (symRK_ok (cv:=cv) hW hl (U.length+S.length+1) _ A1 U S [] _ _ _ _ rfl (by omega) (by omega) (by rw[List.append_nil]) (by omega) (by omega) (by omega) okU.2 okS.2 (hcr (W:=[]) (by rw[List.append_nil];exact hT) okU.1 okS.1) (by simp only[List.length_append];omega) hM) ?_
    clear hM
    rintro v w6 ⟨rfl,M',p,s,hM⟩
    have hml:=p.length_eq
    rw[List.length_append]at hml
    rw[List.append_nil]at hM
    skip
    refine⟨A1++M',?_,hM⟩
    rw[hT]
    exact hA.app (.last ⟨p.trans (okU.1.append okS.1),s⟩ (by omega))
   ·intro hc2
    (((refine mif_false ?_)))
    refine⟨A1++R1,?_,hM⟩
    rw[hT]
    exact hA.app (.last (hr.short (by omega)) (by omega))
  clear hM
  rintro u5 w6 ⟨T2,hr2,hM⟩
  (((refine mop_c ?_ ?_));(focus omega))
  exact⟨⟨2*bs,T2,by rw[Value.int.injEq];refine⟨rfl,?_⟩;push_cast;omega,by omega,by omega,hr2,hM⟩,by simp only;omega⟩
 ·intro hge
  (((refine mif_false ?_)))
  exact⟨_,rfl,rfl,T,hr.short (by omega),hM⟩
theorem sortSK_ok [FunC Tryz.prog fc] [hc:∀ x y:Ky,PurC Tryz.prog fc [.agg (fl (Ky.fds x)).toArray,.agg (fl (Ky.fds y)).toArray] True (.int .i64 (cv x y))] (hW:SW (ltK cv)) (l:List Ky) (hl:l.length≤1000000) (hM:Mem H w0 (rowR 43 33 A l.length c (l.map Ky.fds)::R) w):
  Calls Tryz.prog 68 #[.slice A l.length c,fv fc] w fun en w'=>∃ v,en=.returned v∧v=.tuple #[]∧Mem H w0 (rowR 43 33 A l.length c ((srtB (ltK cv) l).map Ky.fds)::R) w':=by
 have e:fTK l.zipIdx=l.map Ky.fds:=by
  have:fTK l.zipIdx=(l.zipIdx.map (·.1)).map Ky.fds:=by rw[List.map_map];rfl
  rw[this,List.zipIdx_map_fst]
 have ht:(l.zipIdx).Pairwise (fun p q=>p.2<q.2):=by
  have h2:(l.zipIdx.map (·.2)).Pairwise (·<·):=by
   rw[List.zipIdx_map_snd]
   exact List.pairwise_lt_range'
  exact List.pairwise_map.1 h2
 rw[← e]at hM
 refine C_slices_SortStableFunc_api_Key_api_Key ?_
 unfold F_slices_SortStableFunc_api_Key_api_Key
 (((refine mop_c trivial ?_)))
 refine mm_own (stabRK_ok (cv:=cv) hW hl l.zipIdx ht List.length_zipIdx hM) ?_
 rintro v w2 ⟨rfl,T,hok,hM⟩
 skip
 refine⟨_,rfl,rfl,?_⟩
 rw[← srt_eq hW hok.1 hok.2,List.map_map]
 exact hM
end
end Go.Proofs.YtpjodlnlmaaihaaGreat
namespace Go.Proofs.YtpjodlnlmaaihaaGreat
open Go.RowKit
section
variable {α:Type} {key:α→Int}
def lk (key:α→Int):α→List α→Int
 | x,[]=>key x
 | _,y::r=>lk key y r
theorem lk_same {x y:α} (h:key x=key y):∀ R:List α,lk key x R=lk key y R
 | []=>h
 | _::_=>rfl
theorem cpt_snoc (z:α):∀ (R:List α) (x:α),cpt key x (R++[z])=cpt key x R++(if lk key x R=key z then [] else [z])
 | [],x=>by
  by_cases h:key x=key z
  ·rw[if_pos (show lk key x []=key z from h),List.append_nil]
   exact if_pos h
  ·rw[if_neg (show ¬lk key x []=key z from h)]
   exact if_neg h
 | y::R,x=>by
  by_cases h:key x=key y
  ·rw[List.cons_append,show cpt key x (y::(R++[z]))=cpt key x (R++[z]) from if_pos h,show cpt key x (y::R)=cpt key x R from if_pos h,cpt_snoc z R x,lk_same h]
   rfl
  ·rw[List.cons_append,show cpt key x (y::(R++[z]))=x::cpt key y (R++[z]) from if_neg h,show cpt key x (y::R)=x::cpt key y R from if_neg h,cpt_snoc z R y]
   rfl
theorem lk_take:∀ (R:List α) (x:α) {i:Nat} (h:i<(x::R).length),lk key x (R.take i)=key ((x::R)[i])
 | _,_,0,_=>rfl
 | [],_,_+1,h=>by simp at h
 | y::R,x,i+1,h=>by
  rw[List.take_succ_cons]
  exact lk_take R y (by simpa using h)
theorem cptL_take {S:List α} {i:Nat} (h1:0<i) (hi:i<S.length):cptL key (S.take (i+1))=cptL key (S.take i)++(if key (S[i - 1]'(by omega))=key S[i] then [] else [S[i]]):=by
 cases S with
 | nil=>simp at hi
 | cons x R=>
  obtain⟨i,rfl⟩:∃ j,i=j+1:=⟨i - 1,by omega⟩
  have hi':i<R.length:=by simpa using hi
  rw[List.take_succ_cons,List.take_succ_cons,List.take_succ_eq_append_getElem hi']
  simp only[cptL,Nat.add_sub_cancel,List.getElem_cons_succ]
  rw[cpt_snoc,lk_take R x (by simp only[List.length_cons];omega)]
theorem cptL_all {S:List α}:∀ {i:Nat},i≤S.length→(∀ (j:Nat) (hj:j<S.length),0<j→j<i→key (S[j - 1]'(by omega))≠key S[j])→cptL key (S.take i)=S.take i
 | 0,_,_=>by simp[cptL]
 | 1,h,_=>by
  cases S with
  | nil=>simp at h
  | cons x R=>simp[cptL,cpt]
 | i+2,h,hn=>by
  rw[cptL_take (by omega) (by omega),cptL_all (i:=i+1) (by omega) fun j hj h0 h1=>hn j hj h0 (by omega),if_neg (hn (i+1) (by omega) (by omega) (by omega)),← List.take_succ_eq_append_getElem (by omega)]
end
end Go.Proofs.YtpjodlnlmaaihaaGreat
namespace Go.Proofs.YtpjodlnlmaaihaaGreat
open Go.RowKit Go.Lib
end Go.Proofs.YtpjodlnlmaaihaaGreat
namespace Go.Proofs.YtpjodlnlmaaihaaGreat
open Go.RowKit Go.Lib
section
variable {P:Program} {H:Hp} {w:World} {n cap sz t:Nat} {A:Option Addr} {ps:List (List Fd)} {K:Value→World→Prop} {X:List PanicEntry→World→Prop}
theorem Sl.take (h:Sl H sz A ps) (k:Nat):Sl H sz A (ps.take k):=⟨h.els.take k,by
 rcases h.at_ with rfl|⟨b,o,c,hA,hH,hc⟩
 ·exact .inl (by simp)
 ·refine .inr ⟨b,o,c,hA,hH,fun j u hu=>hc j u ?_⟩
  rw[← List.take_append_drop k ps,fls_app,List.getElem?_append_left (List.getElem?_eq_some_iff.1 hu).1]
  exact hu⟩
theorem Sl.drop_ {b o:Nat} (h:Sl H sz (some ⟨b,o,none⟩) ps) {k:Nat} (hk:k≤ps.length):Sl H sz (some ⟨b,o+k*sz,none⟩) (ps.drop k):=⟨⟨fun q hq=>h.els.ok q (List.mem_of_mem_drop hq)⟩,by
 rcases h.at_ with rfl|⟨b,o,c,hA,hH,hc⟩
 ·exact .inl (by simp)
 ·cases hA
  refine .inr ⟨_,_,c,rfl,hH,fun j u hu=>?_⟩
  rw[Nat.add_assoc]
  refine hc _ u ?_
  have ht:(fls (ps.take k)).length=k*sz:=by rw[(h.els.take k).len,List.length_take,Nat.min_eq_left hk]
  rw[← List.take_append_drop k ps,fls_app,List.getElem?_append_right (by omega),ht,Nat.add_sub_cancel_left]
  exact hu⟩
theorem mm_sld {kk:IntKind} {ll:Int} (a:Sl H sz A ps) [c:SliS P t sz] (hn:n=ps.length) (hl:0≤ll∧ll≤n) (hcap:n≤cap) (hk:∀ B,Sl H sz B (ps.drop ll.toNat)→K (.slice B (n - ll.toNat) (cap - ll.toNat)) w):mop P (o_slice t (.slice A n cap) (some (.int kk ll)) none none) w K X:=by
 have h5:=run_slice_l (P:=P) w t A n cap c.ok.1 kk ll hl.1 hl.2
 have h6:(sizeOf (P.elem t)).run P w=.ok sz w:=run_size c.ok.2 w
 cases A with
 | none=>
  have hp:ps=[]:=by
   rcases a.at_ with h|⟨b,o,c,h,_⟩
   ·exact h
   ·cases h
  subst hp
  refine mop_run (w':=w) (u:=.slice none (n - ll.toNat) (cap - ll.toNat)) ?_ (hk none (by rw[List.drop_nil];exact Sl.nil _ _ _))
  simp only[o_slice,sv,Sem.run_bind,run_sliceAt_slice w t _ _ _ _ c.ok.1,h5,h6,Result.andThen_ok,sliced]
  simp
 | some a0=>
  by_cases hc:cap=ll.toNat
  ·refine mop_run (w':=w) (u:=.slice (some a0) (n - ll.toNat) (cap - ll.toNat)) ?_ (hk _ (by rw[List.drop_eq_nil_of_le (by omega)];exact Sl.nil _ _ _))
   simp only[o_slice,sv,Sem.run_bind,run_sliceAt_slice w t _ _ _ _ c.ok.1,h5,h6,Result.andThen_ok,sliced,if_pos hc]
   simp
  ·by_cases hp:ps=[]
   ·subst hp
    refine mop_run (w':=w) (u:=.slice (some (a0.add (ll.toNat*sz))) (n - ll.toNat) (cap - ll.toNat)) ?_ (hk _ (by rw[List.drop_nil];exact Sl.nil _ _ _))
    simp only[o_slice,sv,Sem.run_bind,run_sliceAt_slice w t _ _ _ _ c.ok.1,h5,h6,Result.andThen_ok,sliced,if_neg hc,Option.map_some]
    simp
   ·obtain⟨b,o,hA⟩:=a.some_ (List.length_pos_iff.2 hp)
    cases hA
    refine mop_run (w':=w) (u:=.slice (some ⟨b,o+ll.toNat*sz,none⟩) (n - ll.toNat) (cap - ll.toNat)) ?_ (hk _ (a.drop_ (by omega)))
    simp only[o_slice,sv,Sem.run_bind,run_sliceAt_slice w t _ _ _ _ c.ok.1,h5,h6,Result.andThen_ok,sliced,if_neg hc,Option.map_some,Addr.add_lit]
    simp
end
end Go.Proofs.YtpjodlnlmaaihaaGreat
