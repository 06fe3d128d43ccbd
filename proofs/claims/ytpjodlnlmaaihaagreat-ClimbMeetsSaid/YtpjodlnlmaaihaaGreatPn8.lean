/- ClimbMeets holds for every input. (The end of the proof.) -/
import Derived.Test.YtpjodlnlmaaihaaGreatPn7
import Derived.Test.YtpjodlnlmaaihaaGreatProg
import Derived.Test.YtpjodlnlmaaihaaGreatRows
import Derived.Carry
set_option linter.unusedVariables false
namespace Go.Proofs.YtpjodlnlmaaihaaGreat
open Go.RowKit Go.Shelf Go.Lib
attribute [local go_sem] Oper.semAt_some
theorem own_heap {β:Type} {B b:Nat} {o:β→Obj} (ho:∀ s,(o s).isCells=true):OwnFrom B (fun(s:β) W=>W.heap[b]?=some (o s)):=fun s W W' row hs hg hr=>by
 have hlt:b<W.heap.size:=(Array.getElem?_eq_some_iff.1 hs).1
 refine(hg.block b hlt (fun e=>?_)).trans hs
 ·obtain⟨-,o',h1,h2⟩:=hr b e.symm
  rw[hs]at h1
  cases h1
  rw[ho s]at h2
  cases h2
theorem results_c1 {P:Program} {fn:Func} {a t:Nat} {w:World} {K:Value→Prop} (h:fn.results=#[.cell a t]) (tmps:Array Value) (hr:rcell P t (tmps.getD a undef) w K):∃ v,(results fn tmps).run P w=.ok v w∧K v:=by
 obtain⟨v,hv,hk⟩:=hr.out
 refine⟨v,?_,hk⟩
 simp only[Sem.run_bind]at hv
 unfold results
 rw[h]
 rw[Array.getD_eq_getD_getElem?]at hv
 simp[hv]
set_option maxRecDepth 100000 in
set_option maxHeartbeats 2000000 in
theorem com_in (n a b:Int) (ha:0≤a∧a<n) (hb:0≤b∧b<n) (hn:n≤64) (hne:a≠b) (hmeet:∃ y∈dirF 8 n (2*a),hld n y b) (w:World):
  Calls Tryz.prog 55 #[.int .i64 n,.int .i64 a,.int .i64 b] w fun e W'=>(∃ y ys,e=.returned (.int .i64 y)∧(ys++[y] <+: dirF 8 n (2*a))∧hld n y b∧∀ z∈ys,¬hld n z b)∧Below w.heap.size w W':=by
 have hw:IntKind.i64.wrap (2*a)=2*a:=wrap_in (by omega)
 have f1:Fence.wide.fn 75:=trivial
 have f2:Fence.wide.fn 99:=trivial
 have f3:Fence.wide.fn 60:=trivial
 have c1:¬a<0:=by omega
 have c2:¬b<0:=by omega
 have c3:¬n≤a:=by omega
 have c4:¬n≤b:=by omega
 have ht:thr n 0:=⟨by omega,by omega,by omega⟩
 refine(callsIn_wide (n:=8)).1 ?_
 refine callsIn_of_wp_marks Tryz.func55 rfl trivial ?_ rfl
 simp only[Tryz.ntmps55,List.size_toArray,List.length_cons,List.length_nil,Nat.reduceAdd,Nat.reduceSub,Array.replicate_succ,Array.replicate_zero,List.push_toArray,List.append_toArray,List.nil_append,List.cons_append]
 gi_wp2_with (gi_at_call 99;refine(callsIn_wide.2 (there_ok n 0 _)).mono ?_;rintro e w1 ⟨rfl,hst⟩;have hgr:=Only.grown0 hst.only;have B3:Boxed w1 w.heap.size 3 (.int .i64 n):=(((Boxed.new w _ _).alloc _).alloc _).kept hgr (by simp);have B5:Boxed w1 (w.heap.size+1) 3 (.int .i64 b):=(by simpa [World.size_alloc] using ((Boxed.new (w.alloc (Obj.cells #[Value.int IntKind.i64 n] 3)) 3 (.int .i64 b)).alloc (Obj.cells #[Value.int IntKind.i64 0] 3)):Boxed _ (w.heap.size+1) 3 (.int .i64 b)).kept hgr (by simp);have B6:Boxed w1 (w.heap.size+1+1) 3 (.int .i64 0):=(by simpa [World.size_alloc] using (Boxed.new ((w.alloc (Obj.cells #[Value.int IntKind.i64 n] 3)).alloc (Obj.cells #[Value.int IntKind.i64 b] 3)) 3 (.int .i64 0)):Boxed _ (w.heap.size+1+1) 3 (.int .i64 0)).kept hgr (by simp);have k3:=B3.cell;have k5:=B5.cell;have k6:=B6.cell)
 gi_wp2_with (gi_at_call 75;refine(callsIn_wide.2 (bup_ok n (2*a) _)).mono ?_;rintro e w2 ⟨b1,b2,rfl,hM⟩)
 have hgr2:=Only.grown0 hM.st.only
 have D3:=B3.kept hgr2 (by simp)
 have D5:=B5.kept hgr2 (by simp)
 have D6:=B6.kept hgr2 (by simp)
 have hB0:Below w.heap.size w w1:=((((Below.refl _ w).alloc (Nat.le_refl _) _).alloc (by simp) _).alloc (by simp;omega) _).trans (hst.only.below (by simp;omega) (fun i _ h=>by obtain⟨_,hm,_⟩:=h;cases hm))
 have hB2:Below w.heap.size w w2:=hB0.trans (hM.st.only.below hB0.size (fun i _ h=>by obtain⟨_,hm,_⟩:=h;cases hm))
 obtain⟨k1,_⟩:=Mem.blf (g:=b1) (hM.upB b1) inferInstance
 obtain⟨k2,_⟩:=Mem.blf (g:=b2) (hM.upB b2) inferInstance
 have l3:=D3.lt
 have l5:=D5.lt
 have l6:=D6.lt
 refine wpIn_rangeFunc_ownG rfl (by omega) (gf:=107) (lb:=#[.pointer (some ⟨b1,0,none⟩),.pointer (some ⟨b2,0,none⟩)]) rfl trivial (enters_of Tryz.func107 (by kernel_rfl) rfl)
  (up_stops _ (by omega) b1 b2 n (2*a) w2 k1.lt k2.lt (by rw[k1.cell];rfl) (by rw[k2.cell];rfl)) (fun h k=>Eq.trans k h) (fun W j o o' hj _ _ _=>?kb) (Below.refl _ _) (fun _=>rfl)
  (fun pre W=>(Boxed W w.heap.size 3 (.int .i64 n)∧Boxed W (w.heap.size+1) 3 (.int .i64 b)∧Boxed W (w.heap.size+1+1) 3 (.int .i64 0)∧(∀ z∈pre,¬hld n z b))∧Below w.heap.size w W∧w2.heap.size≤W.heap.size)
  (fun c pre W=>c=.ret∧(∃ y ys,pre=ys++[y]∧hld n y b∧(∀ z∈ys,¬hld n z b)∧Boxed W (w.heap.size+1+1) 3 (.int .i64 y))∧Below w.heap.size w W)
  ?own ?ownx
  ⟨⟨D3,D5,D6,fun z hz=>by cases hz⟩,hB2,Nat.le_refl _⟩
  (fun x=>{ tmps:=#[.int .i64 n,.int .i64 a,.int .i64 b,.pointer (some ⟨w.heap.size,0,none⟩),undef,.pointer (some ⟨w.heap.size+1,0,none⟩),.pointer (some ⟨w.heap.size+1+1,0,none⟩),.int .i64 x,.int .i64 a,.bool false,.bool false,.int .i64 b,.bool false,.bool false,.bool false,.int .i64 a,.int .i64 n,.bool false,.bool false,.bool false,.int .i64 b,.int .i64 n,.bool false,.bool false,.bool false,.int .i64 n,.bool true,.bool false,.bool false,.int .i64 a,.int .i64 b,.bool false,undef,undef,.int .i64 n,.int .i64 a,.int .i64 (2*a),.func (.func 107) #[] #[.pointer (some ⟨b1,0,none⟩),.pointer (some ⟨b2,0,none⟩)],.int .i64 x,undef,undef,undef,undef,undef],defers:=[] }) ?assign ?body ?done ?stop
 case kb=>exact(grownBy_putObj' W j o').block b1 (by have:=k1.lt;have:=(Array.getElem?_eq_some_iff.1 ‹W.heap[j]?=some o›).1;omega) (by have:=k1.lt;simp;omega)
 case own=>
  refine OwnFrom.and (OwnFrom.and (own_heap (o:=fun _=>.cells #[.int .i64 n] 3 (0,0)) (fun _=>rfl)) (OwnFrom.and (own_heap (o:=fun _=>.cells #[.int .i64 b] 3 (0,0)) (fun _=>rfl)) (OwnFrom.and (own_heap (o:=fun _=>.cells #[.int .i64 0] 3 (0,0)) (fun _=>rfl)) (fun _ _ _ _ hs _ _=>hs)))) (OwnFrom.and (ownFrom_below (Nat.le_refl _) (by omega)) (fun s A B row hs hg hr=>Nat.le_trans hs hg.size))
 case ownx=>
  rintro c s W W' row ⟨h0,⟨y,ys,h1,h2,h3,h4⟩,h5⟩ hg hr
  refine⟨h0,⟨y,ys,h1,h2,h3,?_⟩,?_⟩
  ·exact own_heap (B:=w2.heap.size) (o:=fun _:Unit=>.cells #[.int .i64 y] 3 (0,0)) (fun _=>rfl) () W W' row h4 hg hr
  ·exact ownFrom_below (β:=Unit) (Nat.le_refl _) (by omega) () W W' row h5 hg hr
 case assign=>
  intro l x W K hK
  gi_wp2
  exact hK
 case body=>
  rintro l pre x W ⟨⟨E3,E5,E6,hpre⟩,hB,hsw⟩ hlt
  have q3:=E3.cell
  have q5:=E5.cell
  have q6:=E6.cell
  by_cases hh:hld n x b
  ·have hd:decide (hld n x b)=true:=decide_eq_true hh
   gi_wp2_with (gi_at_call 60;refine(callsIn_wide.2 (bholds_ok n x b _)).mono ?_;rintro e w3 ⟨rfl,hst3⟩;have hg3:=Only.grown0 hst3.only;have G3:=E3.kept hg3 (by simp);have G5:=E5.kept hg3 (by simp);have G6:=E6.kept hg3 (by simp);have r3:=G3.cell;have r5:=G5.cell;have r6:=G6.cell;have r7:=G6.frozen)
   refine⟨((KeepsOthers.of_grownBy hg3 fun j o ej hj=>by cases ej).trans (KeepsOthers.setCell _ _ _)).from _,rfl,⟨x,pre,rfl,hh,hpre,G6.set _⟩,?_⟩
   exact(hB.trans (hst3.only.below hB.size (fun i _ h=>by obtain⟨_,hm,_⟩:=h;cases hm))).setCell (p:=⟨w.heap.size+1+1,0,none⟩) (by simp;omega) _
  ·have hd:decide (hld n x b)=false:=decide_eq_false hh
   gi_wp2_with (gi_at_call 60;refine(callsIn_wide.2 (bholds_ok n x b _)).mono ?_;rintro e w3 ⟨rfl,hst3⟩;have hg3:=Only.grown0 hst3.only;have G3:=E3.kept hg3 (by simp);have G5:=E5.kept hg3 (by simp);have G6:=E6.kept hg3 (by simp);have r3:=G3.cell;have r5:=G5.cell;have r6:=G6.cell;have r7:=G6.frozen)
   refine⟨(KeepsOthers.of_grownBy hg3 fun j o ej hj=>by cases ej).from _,hg3.block b1 (Nat.lt_of_lt_of_le k1.lt hsw) (by simp),⟨G3,G5,G6,fun z hz=>?_⟩,hB.trans (hst3.only.below hB.size (fun i _ h=>by obtain⟨_,hm,_⟩:=h;cases hm)),Nat.le_trans hsw hg3.size⟩
   rcases List.mem_append.1 hz with hz|hz
   ·exact hpre z hz
   ·rw[List.mem_singleton.1 hz]
    exact hh
 case done=>
  rintro D ys W hD rfl ⟨⟨E3,E5,E6,hpre⟩,hB,hsw⟩ hK
  obtain⟨y,hy,hyh⟩:=hmeet
  exact absurd hyh (hpre y hy)
 case stop=>
  rintro D c pre W hD hpre ⟨rfl,⟨y,ys,rfl,h2,h3,h4⟩,h5⟩ hK
  gi_wp2
  refine⟨by simp,.inl ⟨_,_,rfl,run_takeDeferred hK,?_⟩⟩
  have h6:Boxed (W.putObj D (.deferred none)) (w.heap.size+1+1) 3 (.int .i64 y):=h4.kept (grownBy_putObj' W D _) (by simp;omega)
  obtain⟨v,hv,hvy⟩:=results_c1 (P:=Tryz.prog) (fn:=Tryz.f55) (K:=fun v=>v=.int .i64 y) rfl #[.int .i64 n,.int .i64 a,.int .i64 b,.pointer (some ⟨w.heap.size,0,none⟩),undef,.pointer (some ⟨w.heap.size+1,0,none⟩),.pointer (some ⟨w.heap.size+1+1,0,none⟩),undef,.int .i64 a,.bool false,.bool false,.int .i64 b,.bool false,.bool false,.bool false,.int .i64 a,.int .i64 n,.bool false,.bool false,.bool false,.int .i64 b,.int .i64 n,.bool false,.bool false,.bool false,.int .i64 n,.bool true,.bool false,.bool false,.int .i64 a,.int .i64 b,.bool false,undef,undef,.int .i64 n,.int .i64 a,.int .i64 (2*a),.func (.func 107) #[] #[.pointer (some ⟨b1,0,none⟩),.pointer (some ⟨b2,0,none⟩)],undef,undef,undef,undef,undef,undef] (rcell_ld (K:=fun v=>v=Value.int .i64 y) (w:=W.putObj D (.deferred none)) h6.cell rfl)
  exact⟨v,hv,⟨y,ys,by rw[hvy],hpre,h2,h3⟩,h5.trans (belowK_b (w:=w) (Nat.le_refl _) W D _ _ (by omega) hK rfl rfl)⟩
theorem common_ok (n a b:Int) (ha:0≤a∧a<n) (hb:0≤b∧b<n) (hn:n≤64) (hne:a≠b) (hmeet:∃ y∈dirL n a,hld n y b) (w:World):
  Calls Tryz.prog 55 #[.int .i64 n,.int .i64 a,.int .i64 b] w fun e w'=>e=.returned (.int .i64 ((dirL n a).getD ((dirL n a).findIdx fun x=>decide (hld n x b)) 0))∧St w [] w':=by
 have hd:dirL n a=dirF 8 n (2*a):=if_pos ha
 refine(com_in n a b ha hb hn hne (hd ▸ hmeet) w).mono ?_
 rintro e w' ⟨⟨y,ys,rfl,⟨zs,hz⟩,hy,hys⟩,hB⟩
 refine⟨?_,⟨(fun _ h=>by cases h),.nil,(fun _ h=>by cases h),Only.of_below hB fun i hi hge=>by omega⟩⟩
 have hidx:(dirL n a).findIdx (fun x=>decide (hld n x b))=ys.length:=by
  rw[hd,← hz,List.append_assoc,List.findIdx_append]
  have h0:List.findIdx (fun x=>decide (hld n x b)) ys=ys.length:=List.findIdx_eq_length.2 fun z hz=>by simpa using hys z hz
  rw[h0,if_neg (Nat.lt_irrefl _)]
  simp[List.findIdx_cons,hy]
 rw[hidx,hd,← hz,List.getD_eq_getElem?_getD,List.append_assoc,List.getElem?_append_right (Nat.le_refl _)]
 simp
end Go.Proofs.YtpjodlnlmaaihaaGreat
namespace Go.Proofs.YtpjodlnlmaaihaaGreat
open Go.RowKit Go.Lib
section
variable {H:Hp} {w0 w:World} {L R:List Res} {A B C:Option Addr} {a b c n:Nat} {t:Tr} {qs ps:List (List Fd)}
theorem cloned_ok {SA KA:Option Addr} {sn sa kn ka:Nat} {com:H32} (h1:Sl H 97 A (t.ls.map Lf.fds)) (h2:Sl H 66 B qs) (h3:All2 (PnF H) qs t.ps) (hl:t.ls.length≤1000) (hp:t.ps.length≤1000) (hlo:∀ p∈t.ps,p.loose.length≤1000) (hM:Mem H w0 L w):
  Calls Tryz.prog 57 #[.agg (fl (gfd A t.ls.length a B t.ps.length b none 0 0 SA sn sa KA kn ka com)).toArray] w fun en w'=>∃ v,en=.returned v∧∃ A' a' B' b' X,v=.agg (fl (gfd A' t.ls.length a' B' t.ps.length b' none 0 0 SA sn sa KA kn ka com)).toArray∧X.map (·.1)=t.ps ∧
   Mem H w0 (rowR 40 97 A' t.ls.length a' (t.ls.map Lf.fds)::rowR 69 66 B' t.ps.length b' (X.map xrow)::allR X::L) w':=by
 have hq:qs.length=t.ps.length:=h3.len
 refine C_climb_cloned ?_
 unfold F_climb_cloned
 (((refine mm_box hM ?_;clear hM;intro _ _ hM;refine mm_new hM ?_;clear hM;intro _ _ hM)))
 rename_i g1 _ g2 _
 refine⟨fun v w'=>∃ g3 A' a' B' b',v=.pointer (some ⟨g3,0,none⟩)∧Mem H w0 (fb g3 25 (tfd A' t.ls.length a' B' t.ps.length b')::fb g1 56 (gfd A t.ls.length a B t.ps.length b none 0 0 SA sn sa KA kn ka com)::fb g2 56 (gfd none 0 0 none 0 0 none 0 0 none 0 0 none 0 0 hzero)::rowR 40 97 A' t.ls.length a' (t.ls.map Lf.fds)::rowR 69 66 B' t.ps.length b' qs::L) w',⟨?_,?_,?_⟩,?_⟩
 ·(((refine dp_c trivial ?_;refine dp_c trivial ?_;refine dm_ld hM ?_;refine dp_c trivial ?_;refine dp_c trivial ?_;refine dm_ld hM ?_)))
  refine dm_ownE hM (fun w hM=>cloneL_ok (h1.mono (le_of hM.fz)) (by simp) (by omega) hM) ?_
  rintro v w' hx ⟨A',a',rfl,hM⟩
  skip
  refine dm_own hM (fun w hM=>(cloneP_ok (h2.mono (le_of hM.fz)) hq.symm (by omega) hM).mono fun en w' ⟨v,h,_,k⟩=>⟨v,h,k⟩) ?_
  rintro v w' ⟨B',b',rfl,hM⟩
  (((refine dp_c trivial ?_;refine dm_new hM ?_;clear hM;intro _ _ hM;refine dS_st hM ?_;clear hM;intro _ hM;refine mm_end hM ?_;clear hM;intro _ hM)))
  exact⟨_,A',a',B',b',rfl,hM.sub⟩
 ·(((refine dp_c trivial ?_;refine dp_c trivial ?_;refine dm_ld hM ?_;refine dp_c trivial ?_;refine dp_c trivial ?_;refine dm_ld hM ?_)))
  refine dm_ownE hM (fun w hM=>cloneL_ok (h1.mono (le_of hM.fz)) (by simp) (by omega) hM) ?_
  rintro v w' hx ⟨A',a',rfl,hM⟩
  (((refine dm_new hM ?_;clear hM;intro _ _ hM)))
  refine dm_own hM (fun w hM=>(cloneP_ok (h2.mono (le_of hM.fz)) hq.symm (by omega) hM).mono fun en w' ⟨v,h,_,k⟩=>⟨v,h,k⟩) ?_
  rintro v w' ⟨B',b',rfl,hM⟩
  (((refine dp_c trivial ?_;refine dS_st hM ?_;clear hM;intro _ hM;refine mm_end hM ?_;clear hM;intro _ hM)))
  exact⟨_,A',a',B',b',rfl,hM.sub⟩
 ·(((refine dp_c trivial ?_;refine dp_c trivial ?_;refine dm_ld hM ?_;refine dp_c trivial ?_;refine dp_c trivial ?_;refine dm_ld hM ?_;refine dm_new hM ?_;clear hM;intro _ _ hM)))
  refine dm_ownE hM (fun w hM=>cloneL_ok (h1.mono (le_of hM.fz)) (by simp) (by omega) hM) ?_
  rintro v w' hx ⟨A',a',rfl,hM⟩
  skip
  refine dm_own hM (fun w hM=>(cloneP_ok (h2.mono (le_of hM.fz)) hq.symm (by omega) hM).mono fun en w' ⟨v,h,_,k⟩=>⟨v,h,k⟩) ?_
  rintro v w' ⟨B',b',rfl,hM⟩
  (((refine dp_c trivial ?_;refine dS_st hM ?_;clear hM;intro _ hM;refine mm_end hM ?_;clear hM;intro _ hM)))
  exact⟨_,A',a',B',b',rfl,hM.sub⟩
 clear hM
 rintro v u2 w2 ⟨g3,A',a',B',b',rfl,hM⟩
 (((refine mop_c trivial ?_;refine mm_ld hM ?_;refine mop_c trivial ?_)))
 have hM0:Mem H w0 (fb g3 25 (tfd A' t.ls.length a' B' t.ps.length b')::fb g1 56 (gfd A t.ls.length a B t.ps.length b none 0 0 SA sn sa KA kn ka com)::fb g2 56 (gfd none 0 0 none 0 0 none 0 0 none 0 0 none 0 0 hzero)::rowR 40 97 A' t.ls.length a' (t.ls.map Lf.fds)::rowR 69 66 B' t.ps.length b' qs::allR []::L) _:=hM.all0.same
 refine⟨fun v w'=>∃ (i:Nat) (X:List Xp),v=.int .i64 i∧i≤t.ps.length∧X.map (·.1)=t.ps.take i∧Mem H w0 (fb g3 25 (tfd A' t.ls.length a' B' t.ps.length b')::fb g1 56 (gfd A t.ls.length a B t.ps.length b none 0 0 SA sn sa KA kn ka com)::fb g2 56 (gfd none 0 0 none 0 0 none 0 0 none 0 0 none 0 0 hzero)::rowR 40 97 A' t.ls.length a' (t.ls.map Lf.fds)::rowR 69 66 B' t.ps.length b' (X.map xrow++qs.drop i)::allR X::L) w',fun v _=>match v with | .int _ k=>t.ps.length - k.toNat|_=>0,⟨0,[],rfl,by omega,rfl,hM0⟩,?_⟩
 clear hM hM0
 rintro v u3 w3 ⟨i,X,rfl,hi,hX,hM⟩
 have hXl:X.length=i:=by
  have:=congrArg List.length hX
  simp at this
  omega
 (((refine mop_cS trivial ?_ ?_)))
 ·intro hlt
  have hlt':i<t.ps.length:=by omega
  obtain⟨q,hq1,C,c,rfl,hC,hcl⟩:=h3.at_ (i:=i) hlt'
  obtain⟨p,hpe⟩:∃ p,t.ps[i]=p:=⟨_,rfl⟩
  have hpl:=hlo p (hpe ▸ List.getElem_mem _)
  rw[hpe]at hq1 hC
  have hrow:(X.map xrow++qs.drop i)[(i:Int).toNat]?=some (p.row C c):=by
   rw[Int.toNat_natCast,List.getElem?_append_right (by simp;omega)]
   simp[hXl,hq1]
  (((refine mif_true ?_;refine dp_c trivial ?_;refine dm_ld hM ?_;refine dp_c trivial ?_;refine dm_ld hM ?_;refine dp_ixr hM ?_ ?_));(focus omega);((intro _ hA));(cases hA);((refine dp_c trivial ?_)))
  refine dm_ldr hM hrow ?_
  refine dm_ownE hM (fun w hM=>cloneI_ok (hC.mono (le_of hM.fz)) (by simp) (by omega) hM) ?_
  rintro v w' hx ⟨C',c',rfl,hM⟩
  (((refine dp_ixr hM ?_ ?_));(focus omega);((intro _ hA));(cases hA);((refine dp_c trivial ?_)))
  refine dm_stf hM hrow (fun w' hM=>?_)
  (((refine mm_end hM ?_;clear hM;intro _ hM;refine mop_c ?_ ?_));(focus omega))
  rename_i g5 _ _ _ _
  have hset:(X.map xrow++qs.drop i).set (i:Int).toNat (p.row C' c')=(X++[(p,C',c')]).map xrow++qs.drop (i+1):=by
   rw[Int.toNat_natCast,List.set_append_right _ _ (by simp;omega)]
   simp only[List.length_map,hXl,Nat.sub_self,List.map_append,List.append_assoc]
   rw[List.drop_eq_getElem_cons (by omega)]
   rfl
  have hM2:Mem H w0 (rowR 69 66 (some ⟨g5,0,none⟩) t.ps.length b' ((X++[(p,C',c')]).map xrow++qs.drop (i+1))::_) _:=hset ▸ hM
  have hM:Mem H w0 (allR X::xres (p,C',c')::fb g3 25 (tfd A' t.ls.length a' (some ⟨g5,0,none⟩) t.ps.length b')::fb g1 56 (gfd A t.ls.length a B t.ps.length b none 0 0 SA sn sa KA kn ka com)::fb g2 56 (gfd none 0 0 none 0 0 none 0 0 none 0 0 none 0 0 hzero)::rowR 40 97 A' t.ls.length a' (t.ls.map Lf.fds)::rowR 69 66 (some ⟨g5,0,none⟩) t.ps.length b' ((X++[(p,C',c')]).map xrow++qs.drop (i+1))::L) _:=hM2.sub
  refine⟨⟨i+1,X++[(p,C',c')],rfl,by omega,?_,hM.addk.same⟩,by simp only;omega⟩
  rw[List.map_append,hX,List.take_succ_eq_append_getElem hlt',hpe]
  rfl
 ·intro hge
  obtain rfl:i=t.ps.length:=by omega
  rw[List.take_length]at hX
  rw[List.drop_eq_nil_of_le (by omega),List.append_nil]at hM
  (((refine mif_false ?_;refine mm_ld hM ?_;refine mop_c trivial ?_;refine mm_st hM ?_;clear hM;intro _ hM;refine mm_ld hM ?_;refine mm_st hM ?_;clear hM;intro _ hM;refine rm_ld hM ?_)))
  exact⟨_,rfl,_,_,_,_,_,rfl,hX,hM.sub⟩
end
end Go.Proofs.YtpjodlnlmaaihaaGreat
namespace Go.Proofs.YtpjodlnlmaaihaaGreat
open Go.RowKit Go.Lib
def enterT (t:Tr) (pl mine:Int) (secret priv:H32):Gw × Int:=
 if ¬t.right=true then (Gw.none,1)
 else if t.nobody pl∨t.nobody mine then (Gw.none,7)
 else if mine=pl then (Gw.none,1)
 else
  let way:=(dirL t.size pl).drop ((dirL t.size pl).findIdx fun x=>decide (hld t.size x mine))
  if ¬∀ x∈way,(pubAt t x).2=true then (Gw.none,16)
  else if pubsL secret way.length≠way.map (fun x=>(pubAt t x).1) then (Gw.none,16)
  else (⟨t,[],secL secret way.length,keepT t ((keysL way secret way.length).map Ky.kr++[⟨2*mine,priv⟩]),comS secret way.length⟩,0)
section
variable {H:Hp} {w0 w:World} {L R:List Res} {A B K F:Option Addr} {a b c n m kc fc ra:Nat} {t:Tr} {v:Value}
theorem enter_ok (pl mine:Int) (secret priv:H32) (hpl:-1000000≤pl∧pl≤1000000) (hmi:-1000000≤mine∧mine≤1000000) (h:TrF H v t) (hf:Fz H w):
  Calls Tryz.prog 19 #[.pointer none,v,.int .i64 pl,.int .i64 mine,ha secret,ha priv] w (Outp H w fun H' r=>∃ gv,r=.tuple #[gv,.int .i64 (enterT t pl mine secret priv).2]∧GwF H' gv (enterT t pl mine secret priv).1):=by
 have hx:=h.ex
 obtain⟨TA,ta,TB,tb,tq,rfl,hT1,hT2,hT3⟩:=hx
 obtain⟨w1,hw1⟩:∃ w1,w1=w:=⟨_,rfl⟩
 rw[← hw1]
 rw[← hw1]at hf
 have hM:=Mem.start hf
 refine C_climb_Enter ?_
 unfold F_climb_Enter
 (((refine mm_box hM ?_;clear hM;intro _ _ hM;refine mm_box hM ?_;clear hM;intro _ _ hM;refine mm_box hM ?_;clear hM;intro _ _ hM;refine mm_new hM ?_;clear hM;intro _ _ hM;refine mm_ld hM ?_)))
 rename_i gt _ gs _ gp _ g12 _
 refine mm_pure hM (right_c h hM.fz) (fun w hM2=>?_)
 replace hM:=hM2
 clear hM2
 unfold enterT
 cases hr:t.right
 ·(((refine mop_c trivial ?_;refine mif_true ?_;refine mop_c trivial ?_;refine mm_st hM ?_;clear hM;intro _ hM;refine rm_ld hM ?_)))
  exact hM.out (Le.refl _ _) ⟨_,rfl,GwF.none _⟩
 rw[if_neg (by simp)]
 have hR:=Tr.rt.1 hr
 have hlen:=hR.len
 have hts:t.size=t.ls.length:=rfl
 have hdl:=dirL_len t.size pl
 (((refine mop_c trivial ?_;refine mif_false ?_)))
 refine⟨fun v w'=>v=.bool (decide (t.nobody pl∨t.nobody mine))∧hM.now w',?_,?_⟩
 ·(((refine mm_ld hM ?_)))
  refine mm_pure hM (cblank_ok pl h hM.fz) (fun w hM=>?_)
  by_cases hnb:t.nobody pl
  ·rw[decide_eq_true hnb]
   ((((iterate 3 refine mguard_n1 ?_);refine mop_c trivial ?_)))
   exact⟨by rw[decide_eq_true (Or.inl hnb)],hM⟩
  ·rw[decide_eq_false hnb]
   (((refine mguard_yes ?_;refine mm_ld hM ?_;refine mguard_yes ?_;refine mop_c trivial ?_;refine mguard_yes ?_)))
   refine mm_pure hM (cblank_ok mine h hM.fz) (fun w hM=>?_)
   (((refine mop_c trivial ?_)))
   refine⟨?_,hM⟩
   rw[Value.bool.injEq,decide_eq_decide]
   exact⟨fun h=>.inr h,fun h=>h.resolve_left hnb⟩
 rintro v u w2 ⟨rfl,hM2⟩
 replace hM:Mem H w1 [fb g12 56 (gfd none 0 0 none 0 0 none 0 0 none 0 0 none 0 0 hzero),fb gp 34 [.arr 32 (u8s priv.1)],fb gs 34 [.arr 32 (u8s secret.1)],fb gt 25 (tfd TA t.ls.length ta TB t.ps.length tb)] _:=hM2
 clear hM2
 by_cases hnb:t.nobody pl∨t.nobody mine
 ·rw[decide_eq_true hnb,if_pos hnb]
  (((refine mif_true ?_;refine mop_c trivial ?_;refine mm_st hM ?_;clear hM;intro _ hM;refine rm_ld hM ?_)))
  exact hM.out (Le.refl _ _) ⟨_,rfl,GwF.none _⟩
 rw[decide_eq_false hnb,if_neg hnb]
 obtain⟨b0,b1,b2⟩:=Tr.body (fun k=>hnb (.inl k))
 obtain⟨c0,c1,c2⟩:=Tr.body (fun k=>hnb (.inr k))
 (((refine mif_false ?_)))
 (((refine mop_cS trivial ?_ ?_)))
 ·intro he
  rw[if_pos he]
  (((refine mif_true ?_;refine mop_c trivial ?_;refine mm_st hM ?_;clear hM;intro _ hM;refine rm_ld hM ?_)))
  exact hM.out (Le.refl _ _) ⟨_,rfl,GwF.none _⟩
 intro he
 rw[if_neg he]
 (((refine mif_false ?_;refine mop_c trivial ?_;refine mm_ld hM ?_;refine mop_c trivial ?_)))
 refine mm_call hM (bdirectC_ok t.size pl (by omega) hM.fz) ?_
 clear hM
 rintro H2 r w2 l2 hM ⟨WA,wc,rfl,hwc,hW⟩
 have hmeet:=dir_meets (n:=t.size) (p:=pl) (q:=mine) ⟨b0,by omega⟩ ⟨c0,by omega⟩ (by omega) he
 have hmt:∃ y∈dirL t.size pl,hld t.size y mine:=by
  obtain⟨y,hy,hh⟩:=List.findIdx_lt_length.1 hmeet
  exact⟨y,hy,by simpa using hh⟩
 have hcom:=fun w=>common_ok t.size pl mine ⟨b0,by omega⟩ ⟨c0,by omega⟩ (by omega) (fun e=>he e.symm) hmt w
 obtain⟨q,hq⟩:∃ q,(dirL t.size pl).findIdx (fun x=>decide (hld t.size x mine))=q:=⟨_,rfl⟩
 rw[hq]at hmeet hcom
 simp only[hq]
 have hgd:(dirL t.size pl).getD q 0=(dirL t.size pl)[q]:=by
  rw[List.getD_eq_getElem?_getD,List.getElem?_eq_getElem hmeet]
  rfl
 rw[hgd]at hcom
 have hnd:=dir_nodup (n:=t.size) (l:=pl) (by omega)
 have hidx:idxI (fun y=>decide ((dirL t.size pl)[q]=y)) (dirL t.size pl)=q:=idxI_at hmeet (fun j hj=>decide_eq_false (fun e=>by
  have:=(List.getElem_inj hnd).1 e
  omega)) (decide_eq_true rfl)
 have hwr2:∀ x∈(dirL t.size pl).drop q,0≤x∧x≤1000:=fun x hx=>by
  obtain⟨m,hm,rfl⟩:=List.getElem_of_mem (List.mem_of_mem_drop hx)
  have:=way_mem (n:=t.size) (pl:=pl) ⟨b0,by omega,by omega⟩ hm
  omega
 have hdq:((dirL t.size pl).drop q).length=(dirL t.size pl).length - q:=by rw[List.length_drop]
 have hdi:(ints8 (dirL t.size pl)).drop q=ints8 ((dirL t.size pl).drop q):=(List.map_drop ..).symm
 have h8l:=ints8_length (dirL t.size pl)
 have hwt:∀ x∈(dirL t.size pl).drop q,0≤x∧x≤2*t.size - 2:=fun x hx=>by
  have:=dir_mem (n:=t.size) (l:=pl) (x:=x) (by omega) (List.mem_of_mem_drop hx)
  omega
 refine mm_pure hM (hcom _) (fun w hM2=>?_)
 replace hM:=hM2
 clear hM2
 refine mm_pure hM (iindex_ok (dirL t.size pl) (dirL t.size pl)[q] (by show _≤maxLen;unfold maxLen;omega) hW hM.fz) (fun w hM2=>?_)
 replace hM:=hM2
 clear hM2
 rw[hidx]
 refine mm_sld hW (by omega) (by omega) hwc (fun WB hWB=>?_)
 rw[Int.toNat_natCast,hdi]at hWB
 rw[Int.toNat_natCast,← hdq]
 generalize (dirL t.size pl).drop q=way at *
 have h2:=h.mono l2.le
 (((refine mop_c trivial ?_)))
 replace hM:Mem H2 w1 [rowR 34 32 none 0 0 (kfds ((way.map fun x=>(pubAt t x).1).take 0)),fb g12 56 (gfd none 0 0 none 0 0 none 0 0 none 0 0 none 0 0 hzero),fb gp 34 [.arr 32 (u8s priv.1)],fb gs 34 [.arr 32 (u8s secret.1)],fb gt 25 (tfd TA t.ls.length ta TB t.ps.length tb)] _:=hM.row0 34 32
 refine⟨fun v1 v2 w'=>∃ (i:Nat) (KB:Option Addr) (kb:Nat),v1=.slice KB i kb∧v2=.int .i64 i∧i≤way.length∧(∀ j (hj:j<way.length),j<i→(pubAt t way[j]).2=true)∧Mem H2 w1 [rowR 34 32 KB i kb (kfds ((way.map fun x=>(pubAt t x).1).take i)),fb g12 56 (gfd none 0 0 none 0 0 none 0 0 none 0 0 none 0 0 hzero),fb gp 34 [.arr 32 (u8s priv.1)],fb gs 34 [.arr 32 (u8s secret.1)],fb gt 25 (tfd TA t.ls.length ta TB t.ps.length tb)] w',fun _ v _=>match v with | .int _ k=>way.length - k.toNat|_=>0,⟨0,none,0,rfl,rfl,by omega,fun j _ hj=>by omega,hM⟩,?_⟩
 clear hM
 rintro v1 v2 u w11 ⟨i,KB,kb,rfl,rfl,hi,hlow,hM⟩
 skip
 (((refine mop_cS trivial ?_ ?_)))
 ·intro hlt
  have hit:i<way.length:=by omega
  have hw8:=ints8_length way
  (((refine mif_true ?_));(refine mm_ixs ‹_› ?_ ?_ ?_);(focus (simp only[List.length_map];omega));(focus (simp only[List.length_map];first|done|omega));((intro _ _ hA));(cases hA);(refine mm_lds0 hM ‹_› (map_atI ?_) ?_);(focus omega);((refine mm_ld hM ?_)))
  refine mm_pure hM (cpub_ok way[i] (hwt _ (List.getElem_mem hit)) hR h2 hM.fz) (fun w hM2=>?_)
  replace hM:=hM2
  clear hM2
  obtain⟨pb,hpb⟩:∃ pb,pubAt t way[i]=pb:=⟨_,rfl⟩
  obtain⟨pp,ps⟩:=pb
  rw[hpb]
  cases ps
  ·(((refine mop_c trivial ?_;refine mop_c trivial ?_;refine mm_new hM ?_;clear hM;intro _ _ hM;refine mm_st hM ?_;clear hM;intro _ hM;refine mop_c trivial ?_;refine mif_true ?_;refine mop_c trivial ?_;refine mm_st hM ?_;clear hM;intro _ hM;refine rm_ld hM ?_)))
   rw[if_pos (fun k=>by have:=k _ (List.getElem_mem hit);rw[hpb]at this;cases this)]
   exact hM.out l2 ⟨_,rfl,GwF.none _⟩
  ·(((refine mop_c trivial ?_;refine mop_c trivial ?_;refine mm_new hM ?_;clear hM;intro _ _ hM;refine mm_st hM ?_;clear hM;intro _ hM;refine mop_c trivial ?_;refine mif_false ?_;refine mm_ld hM ?_;refine mm_bsl hM ?_ ?_ ?_));(focus rfl);(focus (constructor <;> simp));((clear hM;intro _ _ hM;refine mm_appo hM ?_ ?_));(focus omega);((clear hM;intro _ _ _ hM;refine mop_c ?_ ?_));(focus omega))
   rename_i KB2 kb2 _
   have e1:kfds ((way.map fun x=>(pubAt t x).1).take i)++[[.arr 32 (u8s pp.1)]]=kfds ((way.map fun x=>(pubAt t x).1).take (i+1)):=by
    rw[List.take_succ_eq_append_getElem (by simpa using hit),kfds_app]
    simp[kfds,hpb]
   dsimp only at hM ⊢
   rw[e1]at hM
   exact⟨⟨i+1,KB2,kb2,rfl,by rw[Value.int.injEq];refine⟨rfl,?_⟩;push_cast;rfl,by omega,fun j hj hji=>by
    rcases Nat.lt_or_ge j i with h|h
    ·exact hlow j hj h
    ·obtain rfl:j=i:=by omega
     rw[hpb],hM.sub⟩,by omega⟩
 intro hge
 obtain rfl:i=way.length:=by omega
 rw[if_neg (fun k=>k (fun x hx=>by
  obtain⟨j,hj,rfl⟩:=List.getElem_of_mem hx
  exact hlow j hj hj))]
 have hml:(way.map fun x=>(pubAt t x).1).length=way.length:=by rw[List.length_map]
 rw[List.take_of_length_le (by omega)]at hM
 obtain⟨H3,l3,hM3,hKB,-⟩:=hM.fz0
 clear hM
 have hM:=hM3
 clear hM3
 have h3:=h2.mono l3.le
 have hWB3:=hWB.mono l3.le
 have hle3:=l2.trans l3
 obtain⟨pubs,hpubs⟩:∃ pubs,(way.map fun x=>(pubAt t x).1)=pubs:=⟨_,rfl⟩
 rw[hpubs]at hKB hml ⊢
 (((refine mif_false ?_;refine mm_ld hM ?_)))
 by_cases hok:pubsL secret way.length=pubs
 ·have hro:=risen_q (Q:=fun v w'=>∃ SA sc KA kc,v=.tuple #[.agg (fl (gfd none 0 0 none 0 0 none 0 0 SA way.length sc KA way.length kc (comS secret way.length))).toArray,.bool true]∧Mem H3 w1 (rowR 34 32 SA way.length sc (kfds (secL secret way.length))::rowR 43 33 KA way.length kc ((keysL way secret way.length).map Ky.fds)::[fb g12 56 (gfd none 0 0 none 0 0 none 0 0 none 0 0 none 0 0 hzero),fb gp 34 [.arr 32 (u8s priv.1)],fb gs 34 [.arr 32 (u8s secret.1)],fb gt 25 (tfd TA t.ls.length ta TB t.ps.length tb)]) w') way secret pubs hml (by omega) hwr2 hWB3 hKB (hM.sub:Mem H3 w1 [fb g12 56 (gfd none 0 0 none 0 0 none 0 0 none 0 0 none 0 0 hzero),fb gp 34 [.arr 32 (u8s priv.1)],fb gs 34 [.arr 32 (u8s secret.1)],fb gt 25 (tfd TA t.ls.length ta TB t.ps.length tb)] _) (fun _ SA sc KA kc w' hM=>⟨SA,sc,KA,kc,rfl,hM⟩) (fun k=>absurd hok k) (a:=wc - q) (b:=kb)
  rw[if_neg (fun k=>k hok)]
  rw[hml]at hro
  refine mm_own hro ?_
  clear hM hro
  rintro r w5 ⟨SA2,sc2,KA2,kc2,rfl,hM⟩
  (((refine mop_c trivial ?_;refine mop_c trivial ?_;refine mm_new hM ?_;clear hM;intro _ _ hM;refine mm_st hM ?_;clear hM;intro _ hM;refine mop_c trivial ?_;refine mif_false ?_;refine mm_ld hM ?_;refine mop_c trivial ?_;refine mm_st hM ?_;clear hM;intro _ hM)))
  rename_i g31 _ _ _
  replace hM:Mem H3 w1 (fb gt 25 (tfd TA t.ls.length ta TB t.ps.length tb)::fb gp 34 [.arr 32 (u8s priv.1)]::[fb g31 56 (gfd TA t.ls.length ta TB t.ps.length tb none 0 0 SA2 way.length sc2 KA2 way.length kc2 (comS secret way.length)),rowR 34 32 SA2 way.length sc2 (kfds (secL secret way.length)),rowR 43 33 KA2 way.length kc2 ((keysL way secret way.length).map Ky.fds),fb g12 56 (gfd none 0 0 none 0 0 none 0 0 none 0 0 none 0 0 hzero)]) _:=hM.sub
  obtain⟨H4,l4,hM4,hgt⟩:=hM.fzb
  obtain⟨H5,l5,hM5,hgp⟩:=hM4.fzb
  clear hM hM4
  have hM:=hM5
  clear hM5
  have h5:=h3.mono (l4.trans l5).le
  have hle5:=hle3.trans (l4.trans l5)
  have hfree:=hM.free (g:=g31)
  have hF:=hM.fzAdd hM.fz g31
  have hgf:FbF (hadd H5 g31 (fl (gfd TA t.ls.length ta TB t.ps.length tb none 0 0 SA2 way.length sc2 KA2 way.length kc2 (comS secret way.length)))) g31 (gfd TA t.ls.length ta TB t.ps.length tb none 0 0 SA2 way.length sc2 KA2 way.length kc2 (comS secret way.length)):=FbF.add inferInstance
  have hgt2:=(hgt.mono l5.le).mono (hadd_le (cs:=fl (gfd TA t.ls.length ta TB t.ps.length tb none 0 0 SA2 way.length sc2 KA2 way.length kc2 (comS secret way.length))) hfree)
  have hgp2:=hgp.mono (hadd_le (cs:=fl (gfd TA t.ls.length ta TB t.ps.length tb none 0 0 SA2 way.length sc2 KA2 way.length kc2 (comS secret way.length))) hfree)
  have hkn:=keysL_len way secret way.length
  have hkk:(keysL way secret way.length).map Ky.fds++[[.one (.int .i64 (2*mine)),.arr 32 (u8s priv.1)]]=((keysL way secret way.length).map Ky.kr++[(⟨2*mine,priv⟩:Kr)]).map Kr.fds:=by
   rw[List.map_append,List.map_map]
   rfl
  have hkkl:way.length+1=((keysL way secret way.length).map Ky.kr++[(⟨2*mine,priv⟩:Kr)]).length:=by rw[List.length_append,List.length_map,hkn];rfl
  refine⟨Rl.fz (hadd H5 g31 (fl (gfd TA t.ls.length ta TB t.ps.length tb none 0 0 SA2 way.length sc2 KA2 way.length kc2 (comS secret way.length)))),?_⟩
  ((refine dK_ldf ‹_› ‹_› ?_);((refine dp_c trivial ?_));(refine dK_ldf ‹_› ‹_› ?_);((refine dp_c ?_ ?_));(focus omega);(refine dK_ldf ‹_› ‹_› ?_);((refine dp_c trivial ?_)))
  refine dfz hM (fun w hM=>?_)
  (((refine mm_bsl hM ?_ ?_ ?_));(focus rfl);(focus (constructor <;> simp));((clear hM;intro _ _ hM)))
  refine⟨hM.fzAdd hM.fz g31,?_⟩
  refine dfz hM (fun w hM=>?_)
  (((refine mm_appo hM ?_ ?_));(focus omega);((clear hM;intro _ _ _ hM)))
  refine⟨hM.fzAdd hM.fz g31,?_⟩
  clear hF hgf hgt2 hgp2
  rw[hkk,hkkl]at hM
  rw[hkkl]
  refine dS_no hM (fun w hM=>?_)
  obtain⟨H8,l8,hM8,hKs,-⟩:=hM.fz0
  clear hM
  have h88:=h5.mono l8.le
  refine mm_call hM8 (keep_ok ((keysL way secret way.length).map Ky.kr++[(⟨2*mine,priv⟩:Kr)]) (by omega) h88 hKs hM8.fz) ?_
  rintro H9 r w14 l9 hM ⟨KC,kcc,rfl,hKC⟩
  clear hM8
  have hv9:=h88.mono l9.le
  have hle9:=hle5.trans (l8.trans l9)
  generalize keepT t ((keysL way secret way.length).map Ky.kr++[(⟨2*mine,priv⟩:Kr)])=kt at hKC ⊢
  (((refine dp_c trivial ?_;refine dS_st hM ?_;clear hM;intro _ hM;refine mm_end hM ?_;clear hM;intro _ hM;refine mm_ld hM ?_)))
  obtain⟨A3,a3,B3,b3,q3,he3,hS1,hS2,hS3⟩:=hv9.ex
  cases he3
  have hlo3:=hR.loose
  refine mm_own (cloned_ok hS1 hS2 hS3 (by omega) (by omega) (fun p hp=>by have:=(hlo3 p hp).1;omega) hM) ?_
  clear hM
  rintro r w15 ⟨A',a',B',b',X,rfl,hX,hM⟩
  (((refine mm_st hM ?_;clear hM;intro _ hM;refine rm_ld hM ?_)))
  have hXl:X.length=t.ps.length:=by rw[← hX,List.length_map]
  replace hM:Mem H9 w1 (rowR 40 97 A' t.ls.length a' (t.ls.map Lf.fds)::rowR 69 66 B' t.ps.length b' (X.map xrow)::allR X::[rowR 34 32 SA2 way.length sc2 (kfds (secL secret way.length))]) _:=hM.sub
  rw[← hXl]at hM
  obtain⟨Hy,ly,hMy,hTy⟩:=hM.frzT (fun x hx=>by
   have:=(hlo3 x.1 (by rw[← hX];exact List.mem_map_of_mem hx)).1
   unfold maxLen
   omega)
  rw[hX,hXl]at hTy
  obtain⟨Hz,lz,hMz,hSg,-⟩:=hMy.fz0
  refine hMz.out (hle9.trans (ly.trans lz)) ⟨_,rfl,A',a',B',b',none,0,SA2,sc2,KC,kcc,[],?_,hTy.mono lz.le,Sl.nil _ _ _,trivial,hSg,hKC.mono (ly.trans lz).le⟩
  simp only[secL_len]
  rfl
 ·have hro:=risen_q (Q:=fun v w'=>v=.tuple #[.agg (fl (gfd none 0 0 none 0 0 none 0 0 none 0 0 none 0 0 hzero)).toArray,.bool false]∧Mem H3 w1 [fb g12 56 (gfd none 0 0 none 0 0 none 0 0 none 0 0 none 0 0 hzero),fb gp 34 [.arr 32 (u8s priv.1)],fb gs 34 [.arr 32 (u8s secret.1)],fb gt 25 (tfd TA t.ls.length ta TB t.ps.length tb)] w') way secret pubs hml (by omega) hwr2 hWB3 hKB (hM.sub:Mem H3 w1 [fb g12 56 (gfd none 0 0 none 0 0 none 0 0 none 0 0 none 0 0 hzero),fb gp 34 [.arr 32 (u8s priv.1)],fb gs 34 [.arr 32 (u8s secret.1)],fb gt 25 (tfd TA t.ls.length ta TB t.ps.length tb)] _) (fun k=>absurd k hok) (fun _ w' hM=>⟨rfl,hM⟩) (a:=wc - q) (b:=kb)
  rw[if_pos hok]
  rw[hml]at hro
  refine mm_own hro ?_
  clear hM hro
  rintro r w5 ⟨rfl,hM⟩
  (((refine mop_c trivial ?_;refine mop_c trivial ?_;refine mm_new hM ?_;clear hM;intro _ _ hM;refine mm_st hM ?_;clear hM;intro _ hM;refine mop_c trivial ?_;refine mif_true ?_;refine mop_c trivial ?_;refine mm_st hM ?_;clear hM;intro _ hM;refine rm_ld hM ?_)))
  exact hM.out hle3 ⟨_,rfl,GwF.none _⟩
end
end Go.Proofs.YtpjodlnlmaaihaaGreat
namespace Go.Proofs.YtpjodlnlmaaihaaGreat
open Go.RowKit Go.Lib
theorem grT_name {u:Tr} {pl:Int} (hp:0≤pl∧pl<u.size) (once:H32) {p:Int} (h0:0≤p):nameAt (grT u pl once).ls p=nameAt u.ls p:=by
 rw[← leafAt_name h0,← leafAt_name h0]
 by_cases e:p=pl
 ·subst e
  exact(pathG_self hp).2
 ·exact congrArg Lf.name (pathG_leaf hp.1 h0 e)
theorem grT_nobody {u:Tr} {pl:Int} (hp:0≤pl∧pl<u.size) (once:H32) {p:Int} (h:¬u.nobody p):¬(grT u pl once).nobody p:=by
 have hsz:(grT u pl once).size=u.size:=pathG_size ..
 obtain⟨b0,b1,b2⟩:=Tr.body h
 rintro((c|c)|c)
 ·omega
 ·have:u.size=u.ls.length:=rfl
  omega
 ·rw[grT_name hp once b0]at c
  exact h (.inr c)
theorem enter_meets {u:Tr} (hR:u.Rt) {pl m:Int} (hp:¬u.nobody pl) (hm:¬u.nobody m) (hne:m≠pl) (once priv:H32) {q:Nat} (hq:(dirL u.size pl).findIdx (fun x=>decide (hld u.size x m))=q):
  enterT (grT u pl once) pl m (secK (leafS once) (q+1)) priv=(⟨grT u pl once,[],secL (secK (leafS once) (q+1)) ((dirL u.size pl).length - q),keepT (grT u pl once) ((keysL ((dirL u.size pl).drop q) (secK (leafS once) (q+1)) ((dirL u.size pl).length - q)).map Ky.kr++[⟨2*m,priv⟩]),comS (leafS once) ((dirL u.size pl).length+1)⟩,0):=by
 have hlen:=hR.len
 have hts:u.size=u.ls.length:=rfl
 obtain⟨b0,b1,b2⟩:=Tr.body hp
 obtain⟨c0,c1,c2⟩:=Tr.body hm
 obtain⟨hq1,-,-⟩:=meet_at (n:=u.size) (pl:=pl) (m:=m) ⟨b0,by omega,by omega⟩ ⟨c0,by omega⟩ hne hq
 have hsz:(grT u pl once).size=u.size:=pathG_size ..
 have hrt:=(growG_tree hR hp once [] []).2
 have hdm:=fun x hx=>dir_mem (n:=u.size) (l:=pl) (x:=x) (by omega) hx
 have hpar:=fun i (hi:i<(dirL u.size pl).length)=>(grT_par hR ⟨b0,by omega⟩ once (x:=(dirL u.size pl)[i]) (by have:=hdm _ (List.getElem_mem hi);omega) (by have:=hdm _ (List.getElem_mem hi);omega)).2 i hi rfl
 have hpe:pubsL (secK (leafS once) (q+1)) ((dirL u.size pl).length - q)=((dirL u.size pl).drop q).map fun x=>(pubAt (grT u pl once) x).1:=by
  refine List.ext_getElem (by simp[pubsL]) fun i h1 h2=>?_
  have hi2:q+i<(dirL u.size pl).length:=by simp at h2;omega
  have hd:=hdm _ (List.getElem_mem hi2)
  simp only[pubsL,List.getElem_map,List.getElem_range,List.getElem_drop]
  rw[pubAt_odd (by omega),(hpar _ hi2).2.2]
  unfold pubK
  rw[secK_add]
  congr 3
  omega
 unfold enterT
 rw[if_neg (by rw[Tr.rt.2 hrt];simp),if_neg (fun h=>h.elim (grT_nobody ⟨b0,by omega⟩ once hp) (grT_nobody ⟨b0,by omega⟩ once hm)),if_neg hne]
 simp only[hsz,hq]
 have hdl:((dirL u.size pl).drop q).length=(dirL u.size pl).length - q:=List.length_drop ..
 rw[if_neg (fun k=>k (fun x hx=>by
  obtain⟨i,hi,rfl⟩:=List.getElem_of_mem hx
  have hi2:q+i<(dirL u.size pl).length:=by omega
  have hd:=hdm _ (List.getElem_mem hi2)
  rw[List.getElem_drop,pubAt_odd (by omega)]
  exact(hpar _ hi2).1)),hdl,if_neg (fun k=>k hpe),com_eq hq1]
def wantN (t:Tr) (m:Int) (n:Nat):Nat:=((List.range n).filter fun x=>decide (wanted t m (x:Nat))).length
theorem wantN_succ (t:Tr) (m:Int) (n:Nat):wantN t m (n+1)=wantN t m n+if wanted t m (n:Nat) then 1 else 0:=by
 unfold wantN
 rw[List.range_succ,List.filter_append,List.length_append]
 by_cases h:wanted t m (n:Nat) <;> simp[h]
theorem keyed_len {t:Tr} (hR:t.Rt) {m:Int} (hm:0≤m∧m<t.size) {K:List Ky} (h:Keyed t m K):(K.length:Int)=wantN t m (2*t.size - 1).toNat:=by
 have hnd:(K.map fun k=>k.node.toNat).Nodup:=by
  rw[List.nodup_iff_pairwise_ne,List.pairwise_map]
  refine h.nd.imp_of_mem fun {a b} ha hb hab=>?_
  have:=a.ok
  have:=b.ok
  omega
 have hnd2:((List.range (2*t.size - 1).toNat).filter fun x=>decide (wanted t m (x:Nat))).Nodup:=List.nodup_range.filter _
 have hp:(K.map fun k=>k.node.toNat).Perm ((List.range (2*t.size - 1).toNat).filter fun x=>decide (wanted t m (x:Nat))):=(List.perm_ext_iff_of_nodup hnd hnd2).2 fun x=>by
  rw[List.mem_map,List.mem_filter,List.mem_range]
  constructor
  ·rintro⟨k,hk,rfl⟩
   have hw:=(h.all k hk).1
   have hr:=k.ok
   have hle:k.node≤2*t.size - 2:=by
    rcases hw with e|⟨x1,x2,x3,x4⟩
    ·omega
    ·exact(hld_rng x2).2.2.2.2
   refine⟨by omega,decide_eq_true ?_⟩
   rw[show((k.node.toNat:Nat):Int)=k.node by omega]
   exact hw
  ·rintro⟨h1,h2⟩
   obtain⟨k,hk,e⟩:=h.full x (of_decide_eq_true h2)
   exact⟨k,hk,by omega⟩
 have:=hp.length_eq
 rw[List.length_map]at this
 unfold wantN
 omega
end Go.Proofs.YtpjodlnlmaaihaaGreat
namespace Go.Proofs.YtpjodlnlmaaihaaGreat
open Go.RowKit Go.Lib
theorem wrapL_len (pub once:H32) (ab t:List Int):(wrapL rowK tagK kemH pub once ab t).length=t.length+48:=by
 unfold wrapL
 rw[List.length_append,once.2.1,sealK_len]
 omega
theorem sealL_rng (k:H32) (ab t:List Int):∀ x∈sealL rowK tagK k ab t,0≤x∧x<256:=fun x hx=>by
 unfold sealL at hx
 rcases List.mem_append.1 hx with hx|hx
 ·exact crossL_rng x hx
 ·exact tagK_rng _ _ _ x hx
theorem wrapL_rng (pub once:H32) (ab t:List Int):∀ x∈wrapL rowK tagK kemH pub once ab t,0≤x∧x<256:=fun x hx=>by
 unfold wrapL at hx
 rcases List.mem_append.1 hx with hx|hx
 ·exact once.2.2 x hx
 ·exact sealL_rng _ _ _ x hx
theorem grow_wraps (t:Tr) (pl:Int) (once:H32) (about fresh:List Int):∀ r∈(growG t pl once about fresh).rungs,∀ x∈r.wraps,x.length≤1000000∧∀ y∈x,0≤y∧y<256:=fun r hr x hx=>by
 have hr:r∈rungsK t pl (dirL t.size pl) fresh once about (leafS once) (dirL t.size pl).length:=hr
 unfold rungsK at hr
 obtain⟨i,hi,rfl⟩:=List.mem_map.1 hr
 unfold rungK wrapsT at hx
 obtain⟨j,hj,rfl⟩:=List.mem_map.1 hx
 unfold wrapT
 exact⟨by rw[wrapL_len,(secK _ _).2.1];omega,wrapL_rng _ _ _ _⟩
def k7:H32:=hset hzero 0 7
def k9:H32:=hset hzero 0 9
def aw9:Tr:=⟨[⟨1,hzero,hzero,hzero⟩,⟨2,pubH k7,hzero,hzero⟩],[Pn.zero]⟩
theorem aw9_right (P:H32):Tr.right ⟨[⟨1,hzero,hzero,hzero⟩,⟨2,P,hzero,hzero⟩],[Pn.zero]⟩=true:=by kernel_rfl
theorem aw9_dir:dirL aw9.size 0=[1]:=by
 show dirL 2 0=[1]
 decide +kernel
theorem aw9_bs:bs aw9.size 0=2:=by
 show bs 2 0=2
 decide +kernel
theorem aw9_body:¬aw9.nobody 0∧¬aw9.nobody 1:=by
 constructor
 ·rintro((h|h)|h)
  ·omega
  ·have:aw9.size=2:=rfl
   omega
  ·have:nameAt aw9.ls 0=1:=rfl
   omega
 ·rintro((h|h)|h)
  ·omega
  ·have:aw9.size=2:=rfl
   omega
  ·have:nameAt aw9.ls 1=2:=rfl
   omega
theorem aw9_par (x:Int):(parAt aw9 x).set=false:=by
 unfold parAt
 rw[List.getD_eq_getElem?_getD]
 cases h:aw9.ps[x.toNat]? with
 | none=>rfl
 | some p=>
  have:=List.mem_of_getElem? h
  rw[List.mem_singleton.1 this]
  rfl
theorem aw9_ku:KU aw9 1 [⟨2,k7⟩]:=by
 refine⟨fun x hx=>?_,fun k hk=>?_⟩
 ·rcases hx with rfl|⟨-,-,h,-⟩
  ·exact⟨⟨2,k7⟩,rfl,rfl⟩
  ·rw[aw9_par]at h
   cases h
 ·rw[List.mem_singleton.1 hk]
  exact .inl rfl
theorem aw9_side:sideK aw9 0 (dirL aw9.size 0) [] 0=[2]:=by
 unfold sideK
 show(resT aw9 (bs aw9.size (2*0))).filter _=_
 rw[show(2*0:Int)=0 from rfl,aw9_bs]
 unfold resT
 rw[if_pos (by show thr 2 2;decide +kernel),resL_leaf (by rfl)]
 rw[if_pos (by show(0:Int)<2;omega)]
 decide +kernel
theorem grow9:growT aw9 0 k9 [] []=(growG aw9 0 k9 [] [],0)∧(growG aw9 0 k9 [] []).rungs.length=1∧(growG aw9 0 k9 [] []).tree=grT aw9 0 k9:=by
 refine⟨?_,?_,(growG_tree (Tr.rt.1 (aw9_right _)) aw9_body.1 ..).1⟩
 ·unfold growT
  rw[if_neg (by rw[show aw9.right=true from aw9_right _];simp),if_neg aw9_body.1,if_neg (by simp)]
 ·show(rungsK ..).length=1
  rw[rungsK_len,aw9_dir]
  rfl
theorem grow9_wraps:∀ r∈(growG aw9 0 k9 [] []).rungs,r.wraps.length=1:=fun r hr=>by
 have hr:r∈rungsK aw9 0 (dirL aw9.size 0) [] k9 [] (leafS k9) (dirL aw9.size 0).length:=hr
 unfold rungsK at hr
 obtain⟨i,hi,rfl⟩:=List.mem_map.1 hr
 have hi0:i=0:=by
  rw[aw9_dir]at hi
  simpa using hi
 subst hi0
 unfold rungK
 rw[wrapsT_len,aw9_side]
 rfl
section
variable {H:Hp} {w0 w:World} {L R:List Res} {A B K F:Option Addr} {a b c n m kc fc:Nat} {t:Tr} {v:Value}
theorem awake9_ok (w:World):Calls Tryz.prog 5 #[] w fun en w'=>en=.returned (.bool true)∧St w [] w':=by
 obtain⟨w1,hw1⟩:∃ w1,w1=w:=⟨_,rfl⟩
 rw[← hw1]
 have hM:=Mem.start (Fz.of w1)
 refine C_bevylaw09_awake ?_
 unfold F_bevylaw09_awake
 (((refine mop_c ?_ ?_));(focus (simp only[and_true];omega));((refine mm_new hM ?_;clear hM;intro _ _ hM;refine mm_st hM ?_;clear hM;intro _ hM;refine mop_c trivial ?_;refine mm_ld hM ?_;refine mm_purC hM ?_ ?_));(focus (first|exact trivial|assumption|omega));((clear hM;intro _ hM;refine mop_c trivial ?_;refine mm_bsl hM ?_ ?_ ?_));(focus rfl);(focus (constructor <;> simp));((clear hM;intro _ _ hM;refine mop_c trivial ?_;refine mm_bsl hM ?_ ?_ ?_));(focus rfl);(focus (constructor <;> simp));((clear hM;intro _ _ hM;refine mop_c trivial ?_;refine mm_new hM ?_;clear hM;intro _ _ hM;refine mm_st hM ?_;clear hM;intro _ hM;refine mm_ld hM ?_;refine mop_c ?_ ?_));(focus (simp only[and_true];omega)))
 rename_i g1 _ _ _ gL _ gP _ g2 _ _
 replace hM:Mem (Hp.of w1) w1 (rowR 40 97 (some ⟨gL,0,none⟩) 2 2 (aw9.ls.map Lf.fds)::rowR 69 66 (some ⟨gP,0,none⟩) 1 1 [[.one (.bool false),.arr 32 (u8s hzero.1),.arr 32 (u8s hzero.1),.one (.slice none 0 0)]]::[fb g2 25 (tfd (some ⟨gL,0,none⟩) 2 2 (some ⟨gP,0,none⟩) 1 1),fb g1 34 [.arr 32 (u8s k7.1)]]) _:=hM.perm (by
  refine(List.Perm.cons _ (List.Perm.swap ..)).trans ?_
  refine(List.Perm.swap ..).trans ?_
  exact List.Perm.cons _ (List.Perm.swap ..))
 obtain⟨H1,l1,hM1,hsL,-⟩:=hM.fz0
 obtain⟨H2,l2,hM2,hsP,-⟩:=hM1.fz0
 clear hM hM1
 have hT:TrF H2 (tv (some ⟨gL,0,none⟩) 2 2 (some ⟨gP,0,none⟩) 1 1) aw9:=⟨⟨_,_,_,_,_,rfl,hsL.mono l2.le,hsP,⟨none,0,rfl,Sl.nil _ _ _,by decide⟩,trivial⟩,by decide,by decide⟩
 refine mm_call hM2 (grow_ok (H:=H2) (F:=none) (fc:=0) 0 k9 [] [] (by omega) (by simp) (by simp) hT (Sl.nil _ _ _) hM2.fz) ?_
 clear hM2
 obtain⟨e1,e2,e3⟩:=grow9
 rw[e1]
 rintro H3 r w3 l3 hM ⟨gv,rfl,hG⟩
 have hfm:∃ f:Gw,followT aw9 0 (pubK (leafS k9) 0) (growG aw9 0 k9 [] []).rungs [] [] 1 [⟨2,k7⟩]=(f,0)∧f.tree=(growG aw9 0 k9 [] []).tree∧f.com=(growG aw9 0 k9 [] []).com:=⟨_,follow_meets (u:=aw9) (Tr.rt.1 (aw9_right _)) aw9_body.1 aw9_body.2 (by omega) aw9_ku k9 [] [] (by simp),e3.symm,rfl⟩
 have e4:=grow9_wraps
 have hwl:∀ r∈(growG aw9 0 k9 [] []).rungs,∀ x∈r.wraps,x.length≤1000000∧∀ y∈x,0≤y∧y<256:=grow_wraps aw9 0 k9 [] []
 have hlf:(leafAt (grT aw9 0 k9) 0).pub=pubK (leafS k9) 0:=(pathG_self (u:=aw9) (pl:=0) ⟨by omega,by show(0:Int)<2;omega⟩).1
 have hls:(grT aw9 0 k9).ls.length=2:=by
  have:=pathG_size aw9 0 (pubK (leafS k9) 0) ((pubsL (leafS k9) ((dirL aw9.size 0).length+1)).drop 1)
  have h2:((grT aw9 0 k9).ls.length:Int)=2:=this
  omega
 rw[← e3]at hlf hls
 dsimp only at hG
 generalize growG aw9 0 k9 [] []=g at *
 obtain⟨f,hf1,hf2,hf3⟩:=hfm
 obtain⟨A,a,B,b,R,ra,S,sa,K,ka,qs,rfl,hGt,hGr,hGr2,hGs,hGk⟩:=hG
 have hT3:=hT.mono l3.le
 have hgx:=hGt.ex
 obtain⟨A',a',B',b',pq,hv,hgl,hgp,hgq⟩:=hgx
 cases hv
 have hr0:0<g.rungs.length:=by omega
 have hqs:qs.length=1:=by rw[hGr2.len,e2]
 obtain⟨q0,hq0,RC,rcc,rfl,hRC,hrcl⟩:=hGr2.at_ (i:=0) hr0
 have e6:=e4 _ (List.getElem_mem hr0)
 have hl0:(leafAt g.tree 0)=g.tree.ls[0]'(by omega):=by
  unfold leafAt
  rw[List.getD_eq_getElem?_getD]
  simp[show 0<g.tree.ls.length by omega]
 rw[hl0]at hlf
 have hq0':qs[(0:Int).toNat]?=some (g.rungs[0].row RC rcc):=hq0
 have hl0':(g.tree.ls.map Lf.fds)[(0:Int).toNat]?=some (g.tree.ls[0]'(by omega)).fds:=map_at (by omega)
 (((refine mop_c trivial ?_;refine mop_c trivial ?_;refine mm_new hM ?_;clear hM;intro _ _ hM;refine mm_st hM ?_;clear hM;intro _ hM)))
 dsimp only
 rename_i g3 _ _
 refine⟨fun v w'=>v=.bool false∧hM.now w',?_,?_⟩
 ·(((refine mop_cF trivial ?_ ?_));(focus (first|assumption|omega|with_reducible rfl|exact fun h=>Bool.noConfusion h));((refine mguard_yes ?_;refine mop_c trivial ?_;refine mguard_yes ?_;refine mm_ld hM ?_;refine mguard_yes ?_;refine mop_c trivial ?_;refine mguard_yes ?_;refine mop_cF trivial ?_ ?_));(focus (first|assumption|omega|with_reducible rfl|exact fun h=>Bool.noConfusion h));((refine mop_c trivial ?_;refine mguard_yes ?_;refine mop_c trivial ?_;refine mguard_yes ?_;refine mm_ld hM ?_;refine mguard_yes ?_)))
  refine mm_ixs hGr (by omega) (by omega) (fun bb oo hB=>?_)
  cases hB
  (((refine mguard_yes ?_;refine mop_c trivial ?_;refine mguard_yes ?_)))
  refine mm_lds hM hGr hq0' ?_
  (((refine mguard_yes ?_;refine mop_c trivial ?_;refine mguard_yes ?_;refine mop_cF trivial ?_ ?_));(focus (first|assumption|omega|with_reducible rfl|exact fun h=>Bool.noConfusion h));((refine mop_c trivial ?_)))
  exact⟨rfl,hM⟩
 rintro v u w4 ⟨rfl,hM2⟩
 replace hM:Mem H3 w1 [fb g3 56 (gfd A g.tree.ls.length a B g.tree.ps.length b R g.rungs.length ra S g.secs.length sa K g.keys.length ka g.com),fb g2 25 (tfd (some ⟨gL,0,none⟩) 2 2 (some ⟨gP,0,none⟩) 1 1),fb g1 34 [.arr 32 (u8s k7.1)]] _:=hM2
 clear hM2
 (((refine mif_false ?_)))
 refine⟨fun v1 v2 w'=>∃ (H4:Hp) (g5:Nat) (fs:List Fd) (C:Option Addr) (cc:Nat) (D:Option Addr) (dc:Nat),v1=.int .i64 0∧v2=.pointer (some ⟨g5,0,none⟩)∧H3.le H4∧TrF H4 (tv C f.tree.ls.length cc D f.tree.ps.length dc) f.tree∧∃ X xn xc Y yn yc Z zn zc,fs=gfd C f.tree.ls.length cc D f.tree.ps.length dc X xn xc Y yn yc Z zn zc f.com∧Mem H4 w1 [fb g5 56 fs,fb g3 56 (gfd A g.tree.ls.length a B g.tree.ps.length b R g.rungs.length ra S g.secs.length sa K g.keys.length ka g.com)] w',?_,?_⟩
 ·have hM0:=hM
  repeat' apply And.intro
  ·(((refine dm_ld hM ?_;refine dp_c trivial ?_;refine dp_c trivial ?_;refine dm_ld hM ?_));(refine dp_ixs ‹_› ?_ ?_ ?_);(focus (simp only[List.length_map];omega));(focus (simp only[List.length_map];first|done|omega));((intro _ _ hA));(cases hA);((refine dp_c trivial ?_));(refine dm_lds hM ‹_› (map_at ?_) ?_);(focus omega);((refine dp_c trivial ?_;refine dm_ld hM ?_;refine dm_ld hM ?_;refine dp_c trivial ?_;refine dS_bsl hM ?_ ?_ ?_));(focus rfl);(focus (constructor <;> simp));((clear hM;intro _ _ hM)))
   rename_i bb oo _ gk _
   replace hM:Mem H3 w1 (rowR 43 33 (some ⟨gk,0,none⟩) 1 1 [[.one (.int .i64 2),.arr 32 (u8s k7.1)]]::[fb g3 56 (gfd (some ⟨bb,oo,none⟩) g.tree.ls.length a B g.tree.ps.length b R g.rungs.length ra S g.secs.length sa K g.keys.length ka g.com)]) _:=hM.sub
   obtain⟨H4,l4,hM4,hKk,-⟩:=hM.fz0
   clear hM hM0
   have hM:=hM4
   clear hM4
   refine df_no hM (fun w hM=>?_)
   refine mm_call hM (follow_ok (F:=none) (fc:=0) 0 (g.tree.ls[0]'(by omega)).pub g.rungs [] [] 1 [⟨2,k7⟩] (by omega) (by omega) (by simp) (by simp) (by omega) (by simp) hwl (hT3.mono l4.le) (Sl.nil _ _ _) (hGr.mono l4.le) (hGr2.mono fun q x k=>RgF.mono k l4.le) hKk hM.fz) ?_
   clear hM
   rw[hlf,hf1]
   rintro H5 r w5 l5 hM ⟨gv,rfl,hG⟩
   dsimp only at hG
   obtain⟨C,cc,D,dc,X,xc,Y,yc,Z,zc,qq,rfl,hFt,-⟩:=hG
   (((refine dp_c trivial ?_;refine dp_c trivial ?_;refine dm_new hM ?_;clear hM;intro _ _ hM;refine dS_st hM ?_;clear hM;intro _ hM;refine mm_end hM ?_;clear hM;intro _ hM)))
   rename_i g5 _ _ _
   exact⟨H5,g5,_,C,cc,D,dc,rfl,rfl,(l4.trans l5).le,hFt,X,f.rungs.length,xc,Y,f.secs.length,yc,Z,f.keys.length,zc,rfl,hM.sub⟩
  ·(((refine dm_ld hM ?_;refine dp_c trivial ?_;refine dp_c trivial ?_;refine dm_ld hM ?_));(refine dp_ixs ‹_› ?_ ?_ ?_);(focus (simp only[List.length_map];omega));(focus (simp only[List.length_map];first|done|omega));((intro _ _ hA));(cases hA);((refine dp_c trivial ?_));(refine dm_lds hM ‹_› (map_at ?_) ?_);(focus omega);((refine dp_c trivial ?_;refine dm_ld hM ?_;refine dm_ld hM ?_;refine dp_c trivial ?_;refine dS_bsl hM ?_ ?_ ?_));(focus rfl);(focus (constructor <;> simp));((clear hM;intro _ _ hM;refine dm_new hM ?_;clear hM;intro _ _ hM)))
   rename_i bb oo _ gk _ g5 _
   replace hM:Mem H3 w1 (rowR 43 33 (some ⟨gk,0,none⟩) 1 1 [[.one (.int .i64 2),.arr 32 (u8s k7.1)]]::[fb g5 56 (gfd none 0 0 none 0 0 none 0 0 none 0 0 none 0 0 hzero),fb g3 56 (gfd (some ⟨bb,oo,none⟩) g.tree.ls.length a B g.tree.ps.length b R g.rungs.length ra S g.secs.length sa K g.keys.length ka g.com)]) _:=hM.sub
   obtain⟨H4,l4,hM4,hKk,-⟩:=hM.fz0
   clear hM hM0
   have hM:=hM4
   clear hM4
   refine df_no hM (fun w hM=>?_)
   refine mm_call hM (follow_ok (F:=none) (fc:=0) 0 (g.tree.ls[0]'(by omega)).pub g.rungs [] [] 1 [⟨2,k7⟩] (by omega) (by omega) (by simp) (by simp) (by omega) (by simp) hwl (hT3.mono l4.le) (Sl.nil _ _ _) (hGr.mono l4.le) (hGr2.mono fun q x k=>RgF.mono k l4.le) hKk hM.fz) ?_
   clear hM
   rw[hlf,hf1]
   rintro H5 r w5 l5 hM ⟨gv,rfl,hG⟩
   dsimp only at hG
   obtain⟨C,cc,D,dc,X,xc,Y,yc,Z,zc,qq,rfl,hFt,-⟩:=hG
   (((refine dp_c trivial ?_;refine dp_c trivial ?_;refine dS_st hM ?_;clear hM;intro _ hM;refine mm_end hM ?_;clear hM;intro _ hM)))
   exact⟨H5,g5,_,C,cc,D,dc,rfl,rfl,(l4.trans l5).le,hFt,X,f.rungs.length,xc,Y,f.secs.length,yc,Z,f.keys.length,zc,rfl,hM.sub⟩
  ·(((refine dm_ld hM ?_;refine dp_c trivial ?_;refine dp_c trivial ?_;refine dm_ld hM ?_));(refine dp_ixs ‹_› ?_ ?_ ?_);(focus (simp only[List.length_map];omega));(focus (simp only[List.length_map];first|done|omega));((intro _ _ hA));(cases hA);((refine dp_c trivial ?_));(refine dm_lds hM ‹_› (map_at ?_) ?_);(focus omega);((refine dp_c trivial ?_;refine dm_ld hM ?_;refine dm_ld hM ?_;refine dp_c trivial ?_;refine dm_new hM ?_;clear hM;intro _ _ hM;refine dS_bsl hM ?_ ?_ ?_));(focus rfl);(focus (constructor <;> simp));((clear hM;intro _ _ hM)))
   rename_i bb oo _ g5 _ gk _
   replace hM:Mem H3 w1 (rowR 43 33 (some ⟨gk,0,none⟩) 1 1 [[.one (.int .i64 2),.arr 32 (u8s k7.1)]]::[fb g5 56 (gfd none 0 0 none 0 0 none 0 0 none 0 0 none 0 0 hzero),fb g3 56 (gfd (some ⟨bb,oo,none⟩) g.tree.ls.length a B g.tree.ps.length b R g.rungs.length ra S g.secs.length sa K g.keys.length ka g.com)]) _:=hM.sub
   obtain⟨H4,l4,hM4,hKk,-⟩:=hM.fz0
   clear hM hM0
   have hM:=hM4
   clear hM4
   refine df_no hM (fun w hM=>?_)
   refine mm_call hM (follow_ok (F:=none) (fc:=0) 0 (g.tree.ls[0]'(by omega)).pub g.rungs [] [] 1 [⟨2,k7⟩] (by omega) (by omega) (by simp) (by simp) (by omega) (by simp) hwl (hT3.mono l4.le) (Sl.nil _ _ _) (hGr.mono l4.le) (hGr2.mono fun q x k=>RgF.mono k l4.le) hKk hM.fz) ?_
   clear hM
   rw[hlf,hf1]
   rintro H5 r w5 l5 hM ⟨gv,rfl,hG⟩
   dsimp only at hG
   obtain⟨C,cc,D,dc,X,xc,Y,yc,Z,zc,qq,rfl,hFt,-⟩:=hG
   (((refine dp_c trivial ?_;refine dp_c trivial ?_;refine dS_st hM ?_;clear hM;intro _ hM;refine mm_end hM ?_;clear hM;intro _ hM)))
   exact⟨H5,g5,_,C,cc,D,dc,rfl,rfl,(l4.trans l5).le,hFt,X,f.rungs.length,xc,Y,f.secs.length,yc,Z,f.keys.length,zc,rfl,hM.sub⟩
 clear hM
 rintro v1 v2 u w6 ⟨H4,g5,fs,C,cc,D,dc,rfl,rfl,l34,hFt,X,xn,xc,Y,yn,yc,Z,zn,zc,rfl,hM⟩
 (((refine mop_cT trivial ?_ ?_));(focus (first|assumption|omega|with_reducible rfl|exact fun h=>Bool.noConfusion h));((refine mguard_yes ?_;refine mop_c trivial ?_;refine mguard_yes ?_;refine mm_ld hM ?_;refine mguard_yes ?_;refine mop_c trivial ?_;refine mguard_yes ?_;refine mm_ld hM ?_;refine mguard_yes ?_;refine mop_cT trivial ?_ ?_));(focus (first|assumption|omega|with_reducible rfl|exact fun h=>Bool.noConfusion h));((refine mop_c trivial ?_;refine mguard_yes ?_;refine mop_c trivial ?_;refine mguard_yes ?_;refine mm_ld hM ?_;refine mguard_yes ?_;refine mop_c trivial ?_;refine mguard_yes ?_;refine mm_ld hM ?_;refine mguard_yes ?_)))
 refine mm_pure hM (tsame_ok hFt (hGt.mono l34) hM.fz) (fun w hM=>?_)
 rw[decide_eq_true hf2]
 (((refine mop_c trivial ?_)))
 exact⟨rfl,hM.st⟩
end
end Go.Proofs.YtpjodlnlmaaihaaGreat
namespace Go.Proofs.YtpjodlnlmaaihaaGreat
open Go.RowKit Go.Lib
instance:PurC Tryz.prog 5 [] True (.bool true):=⟨fun _ w=>awake9_ok w⟩
end Go.Proofs.YtpjodlnlmaaihaaGreat
namespace Go.Proofs.YtpjodlnlmaaihaaGreat
open Go.RowKit Go.Lib
theorem wantN_le (t:Tr) (m:Int) (n:Nat):wantN t m n≤n:=by
 unfold wantN
 exact Nat.le_trans (List.length_filter_le ..) (by simp)
section
variable {H:Hp} {w0 w:World} {L R:List Res} {A B K F:Option Addr} {a b c n kc fc:Nat} {t:Tr} {v:Value} {qs:List (List Fd)}
theorem has_ok (m:Int) (l:List Ky) (hR:t.Rt) (hm:0≤m∧m<t.size) (hk:Keyed t m l) (h:TrF H v t) (hK:Sl H 33 K (l.map Ky.fds)) (hf:Fz H w):Calls Tryz.prog 22 #[v,.int .i64 m,.slice K l.length kc] w fun en w'=>en=.returned (.bool true)∧St w [] w':=by
 have hx:=h.ex
 obtain⟨TA,ta,TB,tb,tq,rfl,hT1,hT2,hT3⟩:=hx
 obtain⟨w1,hw1⟩:∃ w1,w1=w:=⟨_,rfl⟩
 rw[← hw1]
 rw[← hw1]at hf
 have hlen:=hR.len
 have hts:t.size=t.ls.length:=rfl
 have htq:tq.length=t.ps.length:=hT3.len
 have hkl:=keyed_len hR hm hk
 have hw9:=wantN_le t m (2*t.size - 1).toNat
 have hM:=Mem.start hf
 refine C_bevylaw09_has ?_
 unfold F_bevylaw09_has
 (((refine mm_box hM ?_;clear hM;intro _ _ hM;refine mop_c trivial ?_;refine mm_ld hM ?_;refine mop_c trivial ?_)))
 rename_i gt _
 refine⟨fun v1 v2 w'=>∃ x:Nat,v1=.int .i64 (wantN t m x)∧v2=.int .i64 x∧(x:Int)≤2*t.size - 1∧hM.now w',fun _ v _=>match v with | .int _ k=>2*t.ls.length - k.toNat|_=>0,⟨0,rfl,rfl,by omega,hM⟩,?_⟩
 rintro v1 v2 u w2 ⟨x,rfl,rfl,hx1,hM⟩
 have hwl:=wantN_le t m x
 (((refine mop_c ?_ ?_));(focus omega);((refine mop_c ?_ ?_));(focus omega))
 (((refine mop_cS trivial ?_ ?_)))
 ·intro hle
  (((refine mif_true ?_)))
  refine⟨fun v w'=>v=.int .i64 (wantN t m (x+1))∧hM.now w',?_,?_⟩
  ·refine⟨fun w'=>((x:Int)=2*m∨((x:Int)%2=1∧hld t.size x m∧(parAt t ((x:Int) / 2)).set=true))∧hM.now w',?_,?_⟩
   ·(((refine mop_c ?_ ?_));(focus omega))
    (((refine mop_cS trivial ?_ ?_)))
    ·intro hne
     (((refine mguard_yes ?_;refine mop_c trivial ?_;refine mguard_yes ?_;refine mop_c ?_ ?_));(focus omega);((refine mguard_yes ?_)))
     (((refine mop_cS trivial ?_ ?_)))
     ·intro hev
      (((refine mguard_yes ?_;refine mop_c trivial ?_;(iterate 5 refine mguard_n1 ?_);refine mguard_yes ?_;refine mop_c trivial ?_;refine mguard_yes ?_;refine mop_c trivial ?_;(iterate 8 refine mguard_n1 ?_);refine mguard_yes ?_;refine mop_c trivial ?_;refine mop_c trivial ?_;refine mif_true ?_)))
      refine⟨?_,hM⟩
      rw[wantN_succ,if_neg (fun hw=>by rcases hw with e|⟨e,-⟩ <;> omega)]
      simp
     ·intro hod
      (((refine mguard_yes ?_;refine mop_c trivial ?_;refine mguard_yes ?_;refine mop_c trivial ?_;refine mguard_yes ?_;refine mop_c trivial ?_;refine mguard_yes ?_;refine mop_c trivial ?_;refine mguard_yes ?_;refine mm_purC hM ?_ (fun _ hM2=>?_)));(focus (first|exact trivial|assumption|omega));((replace hM:=hM2;clear hM2;refine mguard_yes ?_;refine mop_c trivial ?_;refine mguard_yes ?_;refine mop_c trivial ?_;refine mguard_yes ?_;refine mop_c trivial ?_)))
      rw[← hts]
      skip
      by_cases hh:hld t.size x m
      ·rw[decide_eq_true hh,Bool.not_true]
       have hth:=(hld_rng hh).2.2
       obtain⟨t1,t2,t3⟩:=hth
       have hix:((x:Int) / 2).toNat<t.ps.length:=by omega
       obtain⟨q,hq1,C,c,rfl,hC,hcl⟩:=hT3.at_ (i:=((x:Int) / 2).toNat) hix
       have hpe:=parAt_mem hix
       (((refine mguard_yes ?_;refine mop_c trivial ?_;refine mguard_yes ?_;refine mm_ld hM ?_;refine mguard_yes ?_;refine mop_c trivial ?_;refine mguard_yes ?_;refine mop_c ?_ ?_));(focus omega);((refine mguard_yes ?_)))
       refine mm_ixs hT2 (by omega) htq.symm (fun bb oo hB=>?_)
       subst hB
       (((refine mguard_yes ?_;refine mop_c trivial ?_;refine mguard_yes ?_)))
       refine mm_lds hM hT2 hq1 ?_
       cases hs:(t.ps[((x:Int) / 2).toNat]).set
       ·(((refine mguard_yes ?_;refine mop_c trivial ?_;refine mguard_yes ?_;refine mop_c trivial ?_;refine mop_c trivial ?_;refine mif_true ?_)))
        refine⟨?_,hM⟩
        rw[wantN_succ,if_neg (fun hw=>by
         rcases hw with e|⟨e,-,e2,-⟩
         ·omega
         ·rw[hpe,hs]at e2;cases e2)]
        simp
       ·(((refine mguard_yes ?_;refine mop_c trivial ?_;refine mguard_yes ?_;refine mop_c trivial ?_;refine mop_c trivial ?_;refine mif_false ?_)))
        exact⟨.inr ⟨by omega,hh,by rw[hpe];exact hs⟩,hM⟩
      ·rw[decide_eq_false hh,Bool.not_false]
       ((((iterate 8 refine mguard_n1 ?_);refine mguard_yes ?_;refine mop_c trivial ?_;refine mop_c trivial ?_;refine mif_true ?_)))
       refine⟨?_,hM⟩
       rw[wantN_succ,if_neg (fun hw=>by rcases hw with e|⟨e,e2,-⟩;omega;exact hh e2)]
       simp
    ·intro he
     ((((iterate 4 refine mguard_n2 ?_);(iterate 5 refine mguard_un ?_);refine mguard_n2 ?_;refine mguard_n2 ?_;(iterate 8 refine mguard_un ?_);refine mguard_n2 ?_;refine mop_c trivial ?_;refine mif_false ?_)))
     exact⟨.inl (by omega),hM⟩
   rintro u2 w3 ⟨hin,hM2⟩
   replace hM:Mem H w1 [fb gt 25 (tfd TA t.ls.length ta TB t.ps.length tb)] _:=hM2
   clear hM2
   obtain⟨lo,hlo⟩:∃ lo:List Int,lo=if (x:Int)%2=1 then (parAt t ((x:Int) / 2)).loose else []:=⟨_,rfl⟩
   refine⟨fun v1 v2 w'=>∃ i:Nat,v1=.bool (decide (m∈lo.take i))∧v2=.int .i64 i∧i≤lo.length∧Mem H w1 [fb gt 25 (tfd TA t.ls.length ta TB t.ps.length tb)] w',fun _ v _=>match v with | .int _ k=>lo.length - k.toNat|_=>0,⟨0,by simp,rfl,by omega,hM⟩,?_⟩
   clear hM
   rintro v1 v2 u3 w4 ⟨i,rfl,rfl,hi,hM⟩
   refine⟨fun w'=>((x:Int)%2=1∧i<lo.length)∧Mem H w1 [fb gt 25 (tfd TA t.ls.length ta TB t.ps.length tb)] w',?_,?_⟩
   ·by_cases hod:(x:Int)%2=1
    case' pos=>
     have hle2:lo=(parAt t ((x:Int) / 2)).loose:=by rw[hlo,if_pos hod]
     have hin2:=hin.resolve_left (by omega)
     obtain⟨-,hh,hset⟩:=hin2
     have hth:=(hld_rng hh).2.2
     obtain⟨t1,t2,t3⟩:=hth
     have hix:((x:Int) / 2).toNat<t.ps.length:=by omega
     have hpe:=parAt_mem hix
     have hle3:=hle2
     rw[hpe]at hle3
     obtain⟨q,hq1,C,c,rfl,hC,hcl⟩:=hT3.at_ (i:=((x:Int) / 2).toNat) hix
     (((refine mop_c ?_ ?_));(focus omega);((refine mop_cT trivial ?_ ?_));(focus (first|assumption|omega|with_reducible rfl|exact fun h=>Bool.noConfusion h));((refine mguard_yes ?_;refine mop_c trivial ?_;refine mguard_yes ?_;refine mop_c trivial ?_;refine mguard_yes ?_;refine mm_ld hM ?_;refine mguard_yes ?_;refine mop_c trivial ?_;refine mguard_yes ?_;refine mop_c ?_ ?_));(focus omega);((refine mguard_yes ?_)))
     refine mm_ixs hT2 (by omega) htq.symm (fun bb oo hB=>?_)
     subst hB
     (((refine mguard_yes ?_;refine mop_c trivial ?_;refine mguard_yes ?_)))
     refine mm_lds hM hT2 hq1 ?_
     rw[← hle3]
     (((refine mguard_yes ?_;refine mop_c trivial ?_;refine mguard_yes ?_)))
     (((refine mop_cS trivial ?_ ?_)))
     ·intro hlt
      (((refine mop_c trivial ?_;refine mif_true ?_)))
      exact⟨⟨hod,by omega⟩,hM⟩
     intro hge
     (((refine mop_c trivial ?_;refine mif_false ?_)))
     obtain rfl:i=lo.length:=by omega
     rw[List.take_length]
     by_cases hml:m∈lo
     ·rw[decide_eq_true hml]
      (((refine mif_true ?_)))
      refine⟨?_,hM⟩
      rw[wantN_succ,if_neg (fun hw=>by
       rcases hw with e|⟨-,-,-,e2⟩
       ·omega
       ·rw[← hle2]at e2;exact e2 hml)]
      simp
     rw[decide_eq_false hml]
     have hw:wanted t m (x:Nat):=.inr ⟨hod,hh,hset,by rw[← hle2];exact hml⟩
    case' neg=>
     have hle2:lo=[]:=by rw[hlo,if_neg hod]
     rw[show decide (m∈lo.take i)=false by rw[hle2];simp]
     have hw:wanted t m (x:Nat):=by
      rcases hin with e|⟨e,-⟩
      ·exact .inl e
      ·exact absurd e hod
     (((refine mop_c ?_ ?_));(focus omega);((refine mop_cF trivial ?_ ?_));(focus (first|assumption|omega|with_reducible rfl|exact fun h=>Bool.noConfusion h));(((iterate 10 refine mguard_n2 ?_);refine mop_c trivial ?_;refine mif_false ?_;refine mif_false ?_;refine mop_c ?_ ?_));(focus omega))
    all_goals
     (first|(((refine mif_false ?_;refine mop_c ?_ ?_));(focus omega))|skip)
     refine⟨fun v1 v2 w'=>∃ k:Nat,v1=.bool ((l.take k).any fun z=>decide (z.node=(x:Nat)))∧v2=.int .i64 k∧k≤l.length∧hM.now w',fun _ v _=>match v with | .int _ k=>l.length - k.toNat|_=>0,⟨0,by simp,rfl,by omega,hM⟩,?_⟩
     rintro v1 v2 u4 w5 ⟨k,rfl,rfl,hk1,hM⟩
     have hlf:(l.map Ky.fds).length=l.length:=List.length_map ..
     (((refine mop_c trivial ?_)))
     (((refine mop_cS trivial ?_ ?_)))
     ·intro hlt
      have hkl2:k<l.length:=by omega
      have hx9:(x:Int)≤2*t.size - 2:=by omega
      (((refine mif_true ?_)))
      refine⟨fun v w'=>v=.bool ((l.take (k+1)).any fun z=>decide (z.node=(x:Nat)))∧hM.now w',?_,?_⟩
      ·(((refine mm_ld hM ?_)))
       refine mm_pure hM (rpub_ok (x:Nat) ⟨by omega,hx9⟩ hR h hM.fz) (fun w hM=>?_)
       have htk:l.take (k+1)=l.take k++[l[k]]:=List.take_succ_eq_append_getElem hkl2
       rw[htk,List.any_append,List.any_cons,List.any_nil,Bool.or_false]
       cases hb:(l.take k).any fun z=>decide (z.node=(x:Nat))
       ·rw[Bool.false_or]
        (((refine mop_c trivial ?_;refine mop_c trivial ?_;refine mm_new hM ?_;clear hM;intro _ _ hM;refine mm_st hM ?_;clear hM;intro _ hM;refine qguard_yes ?_;refine dp_c trivial ?_;refine qguard_yes ?_;refine dp_c trivial ?_;refine qguard_yes ?_));(refine dp_ixs ‹_› ?_ ?_ ?_);(focus (simp only[List.length_map];omega));(focus (simp only[List.length_map];first|done|omega));((intro _ _ hA));(cases hA);((refine qguard_yes ?_;refine dp_c trivial ?_;refine qguard_yes ?_));(refine dm_lds hM ‹_› (map_atI ?_) ?_);(focus omega);((refine qguard_yes ?_;refine dp_c trivial ?_;refine qguard_yes ?_)))
        (((refine dp_cS trivial ?_ ?_)))
        ·intro he
         have hpb:=(hk.all _ (List.getElem_mem hkl2)).2
         rw[he]at hpb
         (((refine qguard_yes ?_;refine dp_c trivial ?_;refine qguard_yes ?_;refine dp_c trivial ?_;refine qguard_yes ?_;refine dp_c trivial ?_;refine qguard_yes ?_));(refine dp_ixs ‹_› ?_ ?_ ?_);(focus (simp only[List.length_map];omega));(focus (simp only[List.length_map];first|done|omega));((intro _ _ hA));(cases hA);((refine qguard_yes ?_;refine dp_c trivial ?_;refine qguard_yes ?_));(refine dm_lds hM ‹_› (map_atI ?_) ?_);(focus omega);((refine mguard_yes ?_;refine dm_purC hM ?_ (fun _ _ hM=>?_)));(focus (first|exact trivial|assumption|omega));((refine qguard_yes ?_));(refine dm_ld ‹Mem _ _ _ _› ?_);((refine qguard_yes ?_)))
         rw[hpb]
         refine dp_c trivial ?_
         (((refine qguard_yes ?_;refine dp_c trivial ?_;refine dp_c trivial ?_;refine mm_end hM ?_;clear hM;intro _ hM)))
         exact⟨by rw[decide_eq_true rfl,decide_eq_true he],hM.sub⟩
        ·intro he
         rw[decide_eq_false he]
         (((refine qguard_yes ?_;refine dp_c trivial ?_;(iterate 5 refine qguard_n2 ?_);refine mguard_n2 ?_;refine qguard_n2 ?_;refine qguard_n2 ?_;refine qguard_yes ?_;refine dp_c trivial ?_;refine dp_c trivial ?_;refine mm_end hM ?_;clear hM;intro _ hM)))
         exact⟨rfl,hM.sub⟩
       ·rw[Bool.true_or]
        (((refine mop_c trivial ?_;refine mop_c trivial ?_;refine mm_new hM ?_;clear hM;intro _ _ hM;refine mm_st hM ?_;clear hM;intro _ hM;(iterate 8 refine qguard_n1 ?_);(iterate 5 refine qguard_un ?_);refine mguard_un ?_;refine qguard_un ?_;refine qguard_un ?_;refine qguard_n1 ?_;refine dp_c trivial ?_;refine mm_end hM ?_;clear hM;intro _ hM)))
        exact⟨rfl,hM.sub⟩
      ·rintro v u5 w6 ⟨rfl,hM⟩
       (((refine mop_c ?_ ?_));(focus omega))
       exact⟨⟨k+1,rfl,by rw[Value.int.injEq];refine⟨rfl,?_⟩;push_cast;rfl,by omega,hM⟩,by simp only;omega⟩
     ·intro hge
      (((refine mif_false ?_;refine mop_c trivial ?_)))
      obtain rfl:k=l.length:=by omega
      rw[List.take_length,show(l.any fun z=>decide (z.node=(x:Nat)))=true from List.any_eq_true.2 (by
       obtain⟨z,h1,h2⟩:=hk.full _ hw
       exact⟨z,h1,decide_eq_true h2⟩)]
      (((refine mif_nt ?_)))
      refine⟨?_,hM⟩
      rw[wantN_succ,if_pos hw]
      simp
   ·rintro u6 w7 ⟨⟨hod,hil⟩,hM⟩
    have hle2:lo=(parAt t ((x:Int) / 2)).loose:=by rw[hlo,if_pos hod]
    have hin2:=hin.resolve_left (by omega)
    obtain⟨-,hh,hset⟩:=hin2
    have hth:=(hld_rng hh).2.2
    obtain⟨t1,t2,t3⟩:=hth
    have hix:((x:Int) / 2).toNat<t.ps.length:=by omega
    have hpe:=parAt_mem hix
    have hle3:=hle2
    rw[hpe]at hle3
    obtain⟨q,hq1,C,c,rfl,hC,hcl⟩:=hT3.at_ (i:=((x:Int) / 2).toNat) hix
    rw[← hle3]at hC hcl
    have hln:=ints8_length lo
    simp only[maxLen]at hcl
    refine⟨fun v w'=>v=.bool (decide (m∈lo.take (i+1)))∧Mem H w1 [fb gt 25 (tfd TA t.ls.length ta TB t.ps.length tb)] w',?_,?_⟩
    ·by_cases hb:m∈lo.take i
     ·rw[decide_eq_true hb]
      ((((iterate 12 refine mguard_n1 ?_);refine mop_c trivial ?_)))
      refine⟨?_,hM⟩
      rw[decide_eq_true]
      rw[List.take_succ_eq_append_getElem hil]
      exact List.mem_append.2 (.inl hb)
     ·rw[decide_eq_false hb]
      (((refine mguard_yes ?_;refine mop_c trivial ?_;refine mguard_yes ?_;refine mm_ld hM ?_;refine mguard_yes ?_;refine mop_c trivial ?_;refine mguard_yes ?_;refine mop_c ?_ ?_));(focus omega);((refine mguard_yes ?_)))
      refine mm_ixs hT2 (by omega) htq.symm (fun bb oo hB=>?_)
      subst hB
      (((refine mguard_yes ?_;refine mop_c trivial ?_;refine mguard_yes ?_)))
      refine mm_lds hM hT2 hq1 ?_
      rw[← hle3]
      (((refine mguard_yes ?_;refine mop_c trivial ?_;refine mguard_yes ?_));(refine mm_ixs ‹_› ?_ ?_ ?_);(focus (simp only[List.length_map];omega));(focus (simp only[List.length_map];first|done|omega));((intro _ _ hA));(cases hA);((refine mguard_yes ?_));(refine mm_lds0 hM ‹_› (map_atI ?_) ?_);(focus omega);((refine mguard_yes ?_;refine mop_c trivial ?_;refine mguard_yes ?_)))
      have htk:lo.take (i+1)=lo.take i++[lo[i]]:=List.take_succ_eq_append_getElem hil
      (((refine mop_cS trivial ?_ ?_)))
      ·intro he
       (((refine mop_c trivial ?_)))
       refine⟨?_,hM⟩
       rw[decide_eq_true]
       rw[htk,he]
       simp
      ·intro he
       (((refine mop_c trivial ?_)))
       refine⟨?_,hM⟩
       rw[decide_eq_false]
       rw[htk,List.mem_append,List.mem_singleton]
       exact fun k=>k.elim hb (fun e=>he e.symm)
    ·rintro v u7 w8 ⟨rfl,hM⟩
     (((refine mop_c ?_ ?_));(focus omega))
     exact⟨⟨i+1,rfl,by rw[Value.int.injEq];refine⟨rfl,?_⟩;push_cast;rfl,by omega,hM⟩,by simp only;omega⟩
  ·rintro v u4 w5 ⟨rfl,hM2⟩
   replace hM:Mem H w1 [fb gt 25 (tfd TA t.ls.length ta TB t.ps.length tb)] _:=hM2
   clear hM2
   (((refine mop_c ?_ ?_));(focus omega))
   refine⟨⟨x+1,rfl,by rw[Value.int.injEq];refine⟨rfl,?_⟩;push_cast;rfl,by omega,hM⟩,by simp only;omega⟩
 ·intro hgt
  have hxe:(2*t.size - 1).toNat=x:=by omega
  rw[hxe]at hkl
  (((refine mif_false ?_;refine mop_c trivial ?_;refine mop_cT trivial ?_ ?_));(focus (first|assumption|omega|with_reducible rfl|exact fun h=>Bool.noConfusion h)))
  exact⟨rfl,hM.st⟩
end
end Go.Proofs.YtpjodlnlmaaihaaGreat
namespace Go.Proofs.YtpjodlnlmaaihaaGreat
open Go.RowKit Go.Lib
theorem wNode_at {n a:Int} {k:Nat} (hk:k<(2*a::dirL n a).length):(2*a::dirL n a)[k]=wNode a (dirL n a) k:=by
 cases k with
 | zero=>rfl
 | succ j=>
  show _=(dirL n a).getD j 0
  rw[List.getD_eq_getElem?_getD,List.getElem?_eq_getElem (by simpa using hk)]
  rfl
theorem way_idx {n a:Int} (h:0≤a∧a<n∧n≤64) {k:Nat} (hk:k<(2*a::dirL n a).length):(2*a::dirL n a).findIdx (fun y=>decide (y=wNode a (dirL n a) k))=k:=by
 have hnd:(2*a::dirL n a).Nodup:=List.nodup_cons.2 ⟨fun hm=>by
  have:=dir_mem (n:=n) (l:=a) (x:=2*a) (by omega) hm
  omega,dir_nodup (n:=n) (l:=a) (by omega)⟩
 refine(List.findIdx_eq hk).2 ⟨by simpa using wNode_at hk,fun j hj=>?_⟩
 rw[← wNode_at hk]
 refine decide_eq_false fun e=>?_
 have:=(List.getElem_inj hnd).1 e
 omega
section
variable {H:Hp} {w0 w:World}
theorem rcommon_ok (n a b:Int) (ha:0≤a∧a<n) (hb:0≤b∧b<n) (hn:n≤64) (hne:b≠a) {q:Nat} (hq:(dirL n a).findIdx (fun x=>decide (hld n x b))=q) (hlt:q<(dirL n a).length):
  Calls Tryz.prog 18 #[.int .i64 n,.int .i64 a,.int .i64 b] w fun e w'=>e=.returned (.int .i64 (dirL n a)[q])∧St w [] w':=by
 have hM:Mem (fun _=>none) w [] w:=Mem.start (fun _ _ h=>by cases h)
 obtain⟨-,-,hq3⟩:=meet_at (n:=n) (pl:=a) (m:=b) ⟨ha.1,ha.2,hn⟩ hb hne hq
 have ht:thr n 0:=⟨by omega,by omega,by omega⟩
 have hdl:=dirL_len n a
 refine C_bevyref07_Common ?_
 unfold F_bevyref07_Common
 refine⟨fun v w'=>v=.bool false∧hM.now w',?_,?_⟩
 ·(((refine mop_cF trivial ?_ ?_));(focus (first|assumption|omega|with_reducible rfl|exact fun h=>Bool.noConfusion h));((refine mguard_yes ?_;refine mop_c trivial ?_;refine mguard_yes ?_;refine mop_cF trivial ?_ ?_));(focus (first|assumption|omega|with_reducible rfl|exact fun h=>Bool.noConfusion h));((refine mop_c trivial ?_;refine mguard_yes ?_;refine mop_c trivial ?_;refine mguard_yes ?_;refine mop_c trivial ?_;refine mguard_yes ?_;refine mop_cF trivial ?_ ?_));(focus (first|assumption|omega|with_reducible rfl|exact fun h=>Bool.noConfusion h));((refine mop_c trivial ?_;refine mguard_yes ?_;refine mop_c trivial ?_;refine mguard_yes ?_;refine mop_c trivial ?_;refine mguard_yes ?_;refine mop_cF trivial ?_ ?_));(focus (first|assumption|omega|with_reducible rfl|exact fun h=>Bool.noConfusion h));((refine mop_c trivial ?_;refine mguard_yes ?_;refine mop_c trivial ?_;refine mguard_yes ?_;refine mm_purC hM ?_ (fun _ hM2=>?_)));(focus (first|exact trivial|assumption|omega));((replace hM:=hM2;clear hM2;refine mguard_yes ?_;refine mop_c trivial ?_;refine mop_c trivial ?_)))
  rw[decide_eq_true ht,Bool.not_true]
  exact⟨rfl,hM⟩
 rintro v u w2 ⟨rfl,hM2⟩
 have hM3:Mem _ w [] w2:=hM2
 clear hM2 hM
 have hM:=hM3
 clear hM3
 (((refine mif_false ?_;refine mop_c ?_ ?_));(focus omega))
 refine⟨fun v w'=>∃ k:Nat,k≤q+1∧v=.int .i64 (wNode a (dirL n a) k)∧hM.now w',fun v _=>match v with | .int _ x=>10 - (2*a::dirL n a).findIdx (fun y=>decide (y=x))|_=>0,⟨0,by omega,rfl,hM⟩,?_⟩
 rintro v u w3 ⟨k,hk,rfl,hM⟩
 have hlc:(2*a::dirL n a).length=(dirL n a).length+1:=List.length_cons ..
 have hix:=way_idx (n:=n) (a:=a) ⟨ha.1,ha.2,hn⟩ (k:=k) (by omega)
 obtain⟨x,hx⟩:∃ x,wNode a (dirL n a) k=x:=⟨_,rfl⟩
 have hh:hld n x b↔k=q+1:=by
  rw[← hx]
  cases k with
  | zero=>
   constructor
   ·intro h
    have:=(hld_leaf (n:=n) (p:=a) (k:=b) ⟨by omega,by omega,by omega⟩).1 h
    omega
   ·intro h
    omega
  | succ j=>
   have hj:j<(dirL n a).length:=by omega
   have e:wNode a (dirL n a) (j+1)=(dirL n a)[j]:=by
    show(dirL n a).getD j 0=_
    rw[List.getD_eq_getElem?_getD,List.getElem?_eq_getElem hj]
    rfl
   rw[e,hq3 j hj]
   omega
 rw[hx]
 by_cases hkq:k=q+1
 ·(((refine mm_purC hM ?_ ?_));(focus (first|exact trivial|assumption|omega));((clear hM;intro _ hM;refine mop_c trivial ?_)))
  rw[decide_eq_true (hh.2 hkq),Bool.not_true]
  (((refine mif_false ?_)))
  refine⟨?_,hM.st⟩
  rw[← hx,hkq,← wNode_at (by omega)]
  rfl
 ·(((refine mm_purC hM ?_ ?_));(focus (first|exact trivial|assumption|omega));((clear hM;intro _ hM;refine mop_c trivial ?_)))
  rw[decide_eq_false (fun h=>hkq (hh.1 h)),Bool.not_false]
  (((refine mif_true ?_;refine mm_purC hM ?_ ?_));(focus (first|exact trivial|assumption|omega));((clear hM;intro _ hM)))
  have hk2:k<(dirL n a).length:=by omega
  have hst:=(way_step (n:=n) (pl:=a) ⟨ha.1,ha.2⟩ hk2).1
  rw[hx]at hst
  have e:ab n x=wNode a (dirL n a) (k+1):=by
   rw[← hst,← wNode_at (by omega)]
   rfl
  refine⟨⟨k+1,by omega,by rw[e],hM⟩,?_⟩
  have hix2:=way_idx (n:=n) (a:=a) ⟨ha.1,ha.2,hn⟩ (k:=k+1) (by omega)
  rw[← e]at hix2
  rw[hx]at hix
  simp only[hix,hix2]
  omega
end
end Go.Proofs.YtpjodlnlmaaihaaGreat
namespace Go.Proofs.YtpjodlnlmaaihaaGreat
open Go.Shelf
def lays189_ren:Go.Shelf.Ren:=⟨fun|189=>39|125=>84|257=>83|128=>121|129=>122|294=>113|295=>114|296=>115|297=>116|298=>117|299=>118|216=>76|300=>119|301=>120|328=>141|329=>142|330=>143|331=>144|332=>145|215=>109|343=>152|n=>n,fun|28=>47|3=>3|46=>59|0=>0|51=>159|53=>161|4=>4|183=>176|182=>175|131=>79|5=>5|9=>9|218=>194|222=>198|228=>205|229=>154|n=>n,fun|n=>n⟩
theorem lays189:Go.Proofs.Lays.n189 Tryz.prog lays189_ren:={
 mixed:=by kernel_rfl
 f125:=Tryz.func84.trans (congrArg some (by kernel_rfl))
 f128:=Tryz.func121.trans (congrArg some (by kernel_rfl))
 f129:=Tryz.func122.trans (congrArg some (by kernel_rfl))
 f189:=Tryz.func39.trans (congrArg some (by kernel_rfl))
 f215:=Tryz.func109.trans (congrArg some (by kernel_rfl))
 f216:=Tryz.func76.trans (congrArg some (by kernel_rfl))
 f257:=Tryz.func83.trans (congrArg some (by kernel_rfl))
 f294:=Tryz.func113.trans (congrArg some (by kernel_rfl))
 f295:=Tryz.func114.trans (congrArg some (by kernel_rfl))
 f296:=Tryz.func115.trans (congrArg some (by kernel_rfl))
 f297:=Tryz.func116.trans (congrArg some (by kernel_rfl))
 f298:=Tryz.func117.trans (congrArg some (by kernel_rfl))
 f299:=Tryz.func118.trans (congrArg some (by kernel_rfl))
 f300:=Tryz.func119.trans (congrArg some (by kernel_rfl))
 f301:=Tryz.func120.trans (congrArg some (by kernel_rfl))
 f328:=Tryz.func141.trans (congrArg some (by kernel_rfl))
 f329:=Tryz.func142.trans (congrArg some (by kernel_rfl))
 f330:=Tryz.func143.trans (congrArg some (by kernel_rfl))
 f331:=Tryz.func144.trans (congrArg some (by kernel_rfl))
 f332:=Tryz.func145.trans (congrArg some (by kernel_rfl))
 f343:=Tryz.func152.trans (congrArg some (by kernel_rfl))
 t0:=Tryz.underlying0
 a0:=Tryz.isAgg0
 z0:=Tryz.sizeOf0
 v0:=Tryz.zeroValue0
 t3:=Tryz.underlying3
 a3:=Tryz.isAgg3
 z3:=Tryz.sizeOf3
 v3:=Tryz.zeroValue3
 t4:=Tryz.underlying4
 a4:=Tryz.isAgg4
 z4:=Tryz.sizeOf4
 v4:=Tryz.zeroValue4
 t5:=Tryz.underlying5
 a5:=Tryz.isAgg5
 z5:=Tryz.sizeOf5
 v5:=Tryz.zeroValue5
 t9:=Tryz.underlying9
 a9:=Tryz.isAgg9
 z9:=Tryz.sizeOf9
 v9:=Tryz.zeroValue9
 t28:=Tryz.underlying47
 a28:=Tryz.isAgg47
 z28:=Tryz.sizeOf47
 v28:=Tryz.zeroValue47
 t46:=Tryz.underlying59
 a46:=Tryz.isAgg59
 z46:=Tryz.sizeOf59
 v46:=Tryz.zeroValue59
 t51:=Tryz.underlying159
 a51:=Tryz.isAgg159
 z51:=Tryz.sizeOf159
 v51:=Tryz.zeroValue159
 t53:=Tryz.underlying161
 a53:=Tryz.isAgg161
 z53:=Tryz.sizeOf161
 v53:=Tryz.zeroValue161
 t131:=Tryz.underlying79
 a131:=Tryz.isAgg79
 z131:=Tryz.sizeOf79
 v131:=Tryz.zeroValue79
 t182:=Tryz.underlying175
 a182:=Tryz.isAgg175
 z182:=Tryz.sizeOf175
 v182:=Tryz.zeroValue175
 t183:=Tryz.underlying176
 a183:=Tryz.isAgg176
 z183:=Tryz.sizeOf176
 v183:=Tryz.zeroValue176
 t218:=Tryz.underlying194
 a218:=Tryz.isAgg194
 z218:=Tryz.sizeOf194
 v218:=Tryz.zeroValue194
 t222:=Tryz.underlying198
 a222:=Tryz.isAgg198
 z222:=Tryz.sizeOf198
 v222:=Tryz.zeroValue198
 t228:=Tryz.underlying205
 a228:=Tryz.isAgg205
 z228:=Tryz.sizeOf205
 v228:=Tryz.zeroValue205
 t229:=Tryz.underlying154
 a229:=Tryz.isAgg154
 z229:=Tryz.sizeOf154
 v229:=Tryz.zeroValue154 }
end Go.Proofs.YtpjodlnlmaaihaaGreat
namespace Go.Proofs.YtpjodlnlmaaihaaGreat
open Go.RowKit Go.Lib
section
variable {H:Hp} {w0 w:World} {L R:List Res} {A K:Option Addr} {a kc cap:Nat} {t:Tr} {v:Value}
theorem ssort_ok (l:List Int) (hl:l.length≤1000000) (hM:Mem H w0 (rowR 3 1 A l.length cap (ints8 l)::L) w):
  Calls Tryz.prog 39 #[.slice A l.length cap] w fun en w'=>∃ v,en=.returned v∧v=.tuple #[]∧Mem H w0 (rowR 3 1 A l.length cap (ints8 (sortI l))::L) w':=sort_own lays189 l hl hM
theorem ints8_one (l:List Int) (x:Int):ints8 (l++[x])=ints8 l++[[.one (.int .i64 x)]]:=by simp[ints8]
theorem names_ok (hR:t.Rt) (h:TrF H v t) (hf:Fz H w):Calls Tryz.prog 12 #[v] w (Outp H w fun H' r=>∃ K kc,r=.slice K (rnmL t 64).length kc∧Sl H' 1 K (ints8 (rnmL t 64))):=by
 obtain⟨A,a,B,b,q,rfl,h1,h2,h3⟩:=h.ex
 obtain⟨w1,hw1⟩:∃ w1,w1=w:=⟨_,rfl⟩
 rw[← hw1]
 rw[← hw1]at hf
 have hlen:=hR.len
 have hM:=Mem.start hf
 refine C_tree_Names ?_
 unfold F_tree_Names
 (((refine mm_box hM ?_;clear hM;intro _ _ hM;refine mm_ld hM ?_)))
 rename_i g1 _
 refine mm_pure hM (sound_ok h1 h2 h3 h.len.1 h.len.2 hM.fz) (fun w hM=>?_)
 rw[if_pos (Tr.rt.2 hR)]
 (((refine mop_c trivial ?_;refine mop_c trivial ?_)))
 have h0:Mem H w1 (rowR 3 1 none 0 0 (ints8 [])::_) _:=hM.row0 3 1
 refine⟨fun v u w'=>∃ (i:Nat) (K:Option Addr) (kc:Nat),v=.slice K (nmL (t.ls.take i)).length kc∧u=.int .i64 i∧i≤t.ls.length∧Mem H w1 [rowR 3 1 K (nmL (t.ls.take i)).length kc (ints8 (nmL (t.ls.take i))),fb g1 25 (tfd A t.ls.length a B t.ps.length b)] w',fun _ u _=>match u with | .int _ k=>t.ls.length - k.toNat|_=>0,⟨0,none,0,rfl,rfl,by omega,h0⟩,?_⟩
 clear hM h0
 rintro v u u2 w3 ⟨i,K,kc,rfl,rfl,hi,hM⟩
 have hnl:=nmL_len (t.ls.take i)
 rw[List.length_take]at hnl
 (((refine mop_cS trivial ?_ ?_)))
 ·intro hlt
  have hlt':i<t.ls.length:=by omega
  have e:=nmL_take hlt'
  (((refine mif_true ?_)))
  refine⟨fun v w'=>∃ (K:Option Addr) (kc:Nat),v=.slice K (nmL (t.ls.take (i+1))).length kc∧Mem H w1 [rowR 3 1 K (nmL (t.ls.take (i+1))).length kc (ints8 (nmL (t.ls.take (i+1)))),fb g1 25 (tfd A t.ls.length a B t.ps.length b)] w',?_,?_⟩
  ·((refine mm_ixs ‹_› ?_ ?_ ?_);(focus (simp only[List.length_map];omega));(focus (simp only[List.length_map];first|done|omega));((intro _ _ hA));(cases hA);(refine mm_lds0 hM ‹_› (map_atI ?_) ?_);(focus omega);((refine mm_new hM ?_;clear hM;intro _ _ hM;refine mm_st hM ?_;clear hM;intro _ hM;refine mop_c trivial ?_;refine mm_ld hM ?_)))
   (((refine mop_cS trivial ?_ ?_)))
   ·intro c
    rw[if_pos c]at e
    rw[e,List.length_append,List.length_singleton,ints8_one]
    (((refine mif_true ?_;refine mop_c trivial ?_;refine mm_ld hM ?_;refine mm_bsl hM ?_ ?_ ?_));(focus rfl);(focus (constructor <;> simp));((clear hM;intro _ _ hM;refine mm_appo hM ?_ ?_));(focus omega);((clear hM;intro _ _ _ hM)))
    rename_i A2 c2 _
    exact⟨A2,c2,rfl,hM.sub⟩
   ·intro c
    rw[if_neg c,List.append_nil]at e
    rw[e]
    (((refine mif_false ?_)))
    exact⟨K,kc,rfl,hM.sub⟩
  clear hM
  rintro v u5 w5 ⟨K,kc,rfl,hM⟩
  (((refine mop_c ?_ ?_));(focus omega))
  exact⟨⟨i+1,K,kc,rfl,rfl,by omega,hM⟩,by simp only;omega⟩
 ·intro hge
  obtain rfl:i=t.ls.length:=by omega
  rw[List.take_length]at hM hnl ⊢
  (((refine mif_false ?_)))
  refine mm_own (ssort_ok (nmL t.ls) (by omega) hM) ?_
  rintro v w6 ⟨rfl,hM⟩
  skip
  have el:(nmL t.ls).length=(rnmL t 64).length:=by rw[← names_eq hR,sortI_len]
  rw[names_eq hR,el]at hM
  rw[el]
  obtain⟨H4,l4,hM,hs,-⟩:=hM.fz0
  exact hM.out l4 ⟨K,kc,rfl,hs⟩
end
end Go.Proofs.YtpjodlnlmaaihaaGreat
namespace Go.Proofs.YtpjodlnlmaaihaaGreat
open Go.RowKit Go.Lib
theorem mem_rnm {t:Tr} {x:Int}:x∈rnmL t 64↔(1≤x∧x≤64)∧0≤t.place x:=by
 unfold rnmL
 rw[List.mem_filter,List.mem_map]
 constructor
 ·rintro⟨⟨i,hi,rfl⟩,h2⟩
  have:=List.mem_range.1 hi
  exact⟨by omega,of_decide_eq_true h2⟩
 ·rintro⟨h1,h2⟩
  exact⟨⟨(x - 1).toNat,List.mem_range.2 (by omega),by omega⟩,decide_eq_true h2⟩
theorem rnm_nodup (t:Tr):(rnmL t 64).Nodup:=by
 unfold rnmL
 refine List.Pairwise.filter _ ?_
 rw[List.pairwise_map]
 exact(List.nodup_range (n:=64)).imp fun h e=>h (by omega)
theorem gap_room {t:Tr} (hR:t.Rt) (h:∀ x,0≤t.place x→x≤8):¬t.gap=64:=fun hg=>by
 have hlen:=hR.len
 have hgl:=t.gap_le
 have h1:(nmL t.ls).length=64:=by
  unfold nmL
  rw[List.filter_eq_self.2,List.length_map]
  ·omega
  ·intro x hx
   obtain⟨l,hl,rfl⟩:=List.mem_map.1 hx
   obtain⟨i,hi,rfl⟩:=List.getElem_of_mem hl
   have hn:=List.not_of_lt_findIdx (p:=fun l:Lf=>decide (l.name=0)) (xs:=t.ls) (i:=i) (by unfold Tr.gap at hg;omega)
   have h2:=name_nonneg hR.parts.1.1 i
   rw[nameAt_at (by omega) (by simpa using hi)]at h2
   have h3:t.ls[i].name≠0:=by simpa using hn
   have h4:0≤t.ls[i].name:=h2
   exact decide_eq_true (by omega)
 have h2:=congrArg List.length (names_eq hR)
 rw[show(sortI (nmL t.ls)).length=(nmL t.ls).length from(List.mergeSort_perm ..).length_eq,h1]at h2
 unfold rnmL at h2
 have h3:=List.length_filter_eq_length_iff.1 (h2.symm.trans (by simp))
 have:=of_decide_eq_true (h3 9 (List.mem_map.2 ⟨8,by simp,rfl⟩))
 have:=h 9 this
 omega
def OldK (H:Hp) (u:Tr) (fl:List Int) (ks:List Value) (x:Int):Prop:=∃ (K:List Kr) (A:Option Addr) (c:Nat),ks[x.toNat]?=some (.slice A K.length c)∧Sl H 33 A (K.map Kr.fds)∧KU u (u.place x) K∧u.place x∉fl∧K.length≤900
def NewK (H:Hp) (t:Tr) (ks:List Value) (x:Int):Prop:=∃ (K:List Ky) (A:Option Addr) (c:Nat),ks[x.toNat]?=some (.slice A K.length c)∧Sl H 33 A (K.map Ky.fds)∧Keyed t (t.place x) K
theorem OldK.mono {H H':Hp} {u:Tr} {fl:List Int} {ks:List Value} {x:Int} (h:OldK H u fl ks x) (k:H.le H'):OldK H' u fl ks x:=by
 obtain⟨K,A,c,h1,h2,h3⟩:=h
 exact⟨K,A,c,h1,h2.mono k,h3⟩
theorem NewK.mono {H H':Hp} {t:Tr} {ks:List Value} {x:Int} (h:NewK H t ks x) (k:H.le H'):NewK H' t ks x:=by
 obtain⟨K,A,c,h1,h2,h3⟩:=h
 exact⟨K,A,c,h1,h2.mono k,h3⟩
theorem OldK.set {H:Hp} {u:Tr} {fl:List Int} {ks:List Value} {x y:Int} {v:Value} (h:OldK H u fl ks x) (h0:1≤x) (hy:1≤y) (hne:y≠x):OldK H u fl (ks.set y.toNat v) x:=by
 obtain⟨K,A,c,h1,h2⟩:=h
 exact⟨K,A,c,by rw[List.getElem?_set_ne (by omega)];exact h1,h2⟩
theorem NewK.set {H:Hp} {t:Tr} {ks:List Value} {x y:Int} {v:Value} (h:NewK H t ks x) (h0:1≤x) (hy:1≤y) (hne:y≠x):NewK H t (ks.set y.toNat v) x:=by
 obtain⟨K,A,c,h1,h2⟩:=h
 exact⟨K,A,c,by rw[List.getElem?_set_ne (by omega)];exact h1,h2⟩
structure Mn (H:Hp) (t:Tr) (ks:List Value):Prop where
 rt:t.Rt
 some_:∃ x,0≤t.place x
 few:∀ x,0≤t.place x→x≤8
 has:∀ x,0≤t.place x→NewK H t ks x
 len:ks.length=16
structure Sw (H:Hp) (u:Tr) (by_ come:Int) (priv:H32) (fl:List Int) (ks:List Value):Prop where
 rt:u.Rt
 by0:0≤u.place by_
 byc:by_≠come
 few:∀ x,0≤u.place x→x≤8
 new_:0≤u.place come→KU u (u.place come) [⟨2*u.place come,priv⟩]
 has:∀ x,0≤u.place x→x≠by_→x≠come→OldK H u fl ks x
 len:ks.length=16
theorem Mn.mono {H H':Hp} {t:Tr} {ks:List Value} (h:Mn H t ks) (k:H.le H'):Mn H' t ks:=⟨h.rt,h.some_,h.few,fun x hx=>(h.has x hx).mono k,h.len⟩
theorem Sw.mono {H H':Hp} {u:Tr} {by_ come:Int} {priv:H32} {fl:List Int} {ks:List Value} (h:Sw H u by_ come priv fl ks) (k:H.le H'):Sw H' u by_ come priv fl ks:=⟨h.rt,h.by0,h.byc,h.few,h.new_,fun x a b c=>(h.has x a b c).mono k,h.len⟩
theorem keyed_few {t:Tr} (hR:t.Rt) {m:Int} (hm:0≤m∧m<t.size) {K:List Ky} (h:Keyed t m K):K.length≤200:=by
 have h1:=keyed_len hR hm h
 have h2:=wantN_le t m (2*t.size - 1).toNat
 have hlen:=hR.len
 have hts:t.size=t.ls.length:=rfl
 omega
theorem mem_size {t:Tr} {x p:Int} (h:t.mem x p):0≤p∧p<t.size:=by
 obtain⟨a,b,c⟩:=Tr.body (mem_body h)
 exact⟨a,by have:t.size=t.ls.length:=rfl;omega⟩
theorem old_of {H:Hp} {t u:Tr} {ks:List Value} {fl:List Int} {x:Int} (hR:t.Rt) (hn:NewK H t ks x) (hx:0≤t.place x) (hp:u.place x=t.place x) (hf:t.place x∉fl) (hk:∀ K:List Ky,Keyed t (t.place x) K→KU u (t.place x) (K.map Ky.kr)):OldK H u fl ks x:=by
 obtain⟨K,A,c,h1,h2,h3⟩:=hn
 have h4:=keyed_few hR (mem_size (mem_of_place hx)) h3
 refine⟨K.map Ky.kr,A,c,by rw[List.length_map];exact h1,by rw[List.map_map];exact h2,by rw[hp];exact hk K h3,by rw[hp];exact hf,by rw[List.length_map];omega⟩
theorem sw_none {H:Hp} {t:Tr} {ks:List Value} (h:Mn H t ks) {by_:Int} (hb:0≤t.place by_) (priv:H32):Sw H t by_ 0 priv [] ks:=
 ⟨h.rt,hb,fun e=>by have:=(plc_some hb).1;omega,h.few,fun h0=>by have:=(plc_some h0).1;omega,fun x hx _ _=>old_of h.rt (h.has x hx) hx rfl (by simp) fun K hK=>by
  have hs:=mem_size (mem_of_place hx)
  exact ku_after h.rt hs hs hK (fun _ _ _=>⟨‹_›,rfl,Iff.rfl⟩) h.rt rfl,h.len⟩
theorem sw_add {H:Hp} {t:Tr} {ks:List Value} (h:Mn H t ks) {by_ come:Int} {l:Lf} {priv:H32} (hb:0≤t.place by_) (hl:l.name=come) (hc:come≤8) (h0:(t.addR l).2.2=0) (hp:l.pub=pubH priv):Sw H (t.addR l).1 by_ come priv [(t.gap:Int)] ks:=by
 subst hl
 have hRu:=add_rt h.rt l h0
 have hnp:=(add_parts h0).2.1
 have hold:∀ x,0≤(t.addR l).1.place x→x≠l.name→0≤t.place x∧(t.addR l).1.place x=t.place x:=fun x hx hne=>by
  have hm:=mem_of_place hx
  obtain⟨m1,m2,m3⟩:=hm
  rw[(add_parts h0).2.2,addL_name m1]at m2
  split at m2
  ·exact absurd m2.symm hne
  ·have hm2:t.mem x ((t.addR l).1.place x):=⟨m1,m2,m3⟩
   have e:=place_of_mem h.rt hm2
   exact⟨by omega,e.symm⟩
 refine⟨hRu,?_,fun e=>hnp (e ▸ hb),fun x hx=>?_,fun _=>?_,fun x hx _ hne=>?_,h.len⟩
 ·have:=place_of_mem hRu (add_mem h0 (mem_of_place hb)).1
  omega
 ·by_cases e:x=l.name
  ·omega
  ·exact h.few x (hold x hx e).1
 ·rw[place_of_mem hRu (add_mem_new h0)]
  exact add_new h.rt h0 hp
 ·obtain⟨a,b⟩:=hold x hx hne
  have hm:=mem_of_place a
  exact old_of h.rt (h.has x a) a b (by simpa using (add_mem h0 hm).2) fun K hK=>add_keyed h.rt h0 hm hK
theorem sw_rem {H:Hp} {t:Tr} {ks:List Value} (h:Mn H t ks) {by_ who:Int} {v:Value} (priv:H32) (hb:0≤t.place by_) (hw:0≤t.place who) (hne:who≠by_) (h0:(t.remR (t.place who)).2=0):Sw H (t.remR (t.place who)).1 by_ 0 priv [] (ks.set who.toNat v):=by
 have hRu:=rem_rt h.rt _ h0
 have hold:∀ x,0≤(t.remR (t.place who)).1.place x→x≠who∧0≤t.place x∧(t.remR (t.place who)).1.place x=t.place x:=fun x hx=>by
  have hm:=mem_of_place hx
  obtain⟨m1,m2,m3⟩:=hm
  obtain⟨q,hq⟩:∃ q,(t.remR (t.place who)).1.place x=q:=⟨_,rfl⟩
  rw[hq]at m1 m2 ⊢
  rw[(rem_parts h0).2]at m2
  unfold nameAt at m2
  rw[List.getElem?_take]at m2
  split at m2
  ·rename_i l hl
   split at hl
   ·rw[List.getElem?_set]at hl
    split at hl
    ·split at hl
     ·rw[Option.some.injEq]at hl
      subst hl
      have:Lf.zero.name=0:=rfl
      omega
     ·cases hl
    ·rename_i hqp
     have hm2:t.mem x q:=⟨m1,by unfold nameAt;rw[hl];exact m2,m3⟩
     have e:=place_of_mem h.rt hm2
     refine⟨fun e2=>?_,by omega,e.symm⟩
     subst e2
     omega
   ·cases hl
  ·omega
 have hpw:=(plc_some hw).1
 refine⟨hRu,?_,fun e=>by have:=(plc_some hb).1;omega,fun x hx=>h.few x (hold x hx).2.1,fun h0=>by have:=(plc_some h0).1;omega,fun x hx _ _=>?_,by rw[List.length_set];exact h.len⟩
 ·have hpb:t.place by_≠t.place who:=fun e=>hne (by rw[← plc_name hb,← plc_name hw,e])
  have:=place_of_mem hRu (rem_memb h0 (mem_of_place hb) hpb)
  omega
 ·obtain⟨a,b,c⟩:=hold x hx
  have hpx:t.place x≠t.place who:=fun e=>a (by rw[← plc_name b,← plc_name hw,e])
  exact OldK.set (old_of h.rt (h.has x b) b c (by simp) fun K hK=>rem_keyed h.rt h0 (mem_of_place b) hpx hK) (plc_some b).1 hpw (fun e=>a e.symm)
theorem sw_ren {H:Hp} {t:Tr} {ks:List Value} (h:Mn H t ks) {by_ who:Int} {priv:H32} (hb:0≤t.place by_) (hw:0≤t.place who) (h0:(t.renR (t.place who) (pubH priv)).2=0) {K:List Ky} {A:Option Addr} {c:Nat} (hK:Keyed t (t.place who) K) (hs:Sl H 33 A (((⟨2*t.place who,priv⟩:Kr)::K.map Ky.kr).map Kr.fds)):Sw H (t.renR (t.place who) (pubH priv)).1 by_ 0 priv [] (ks.set who.toNat (.slice A (1+K.length) c)):=by
 have hRu:=ren_rt h.rt _ _ h0
 have hold:∀ x,0≤(t.renR (t.place who) (pubH priv)).1.place x→0≤t.place x∧(t.renR (t.place who) (pubH priv)).1.place x=t.place x:=fun x hx=>by
  obtain⟨m1,m2,m3⟩:=mem_of_place hx
  rw[(ren_parts h0).2,nameAt_eq (ls':=t.ls.modify (t.place who).toNat (·.key (pubH priv) hzero)) (List.length_modify ..) key_names]at m2
  rw[(ren_parts h0).2]
  have hm2:t.mem x ((t.renR (t.place who) (pubH priv)).1.place x):=⟨m1,by rw[(ren_parts h0).2];exact m2,m3⟩
  have e:=place_of_mem h.rt hm2
  rw[(ren_parts h0).2]at e m1
  exact⟨by omega,e.symm⟩
 have hpw:=(plc_some hw).1
 have hw8:=h.few who hw
 refine⟨hRu,?_,fun e=>by have:=(plc_some hb).1;omega,fun x hx=>h.few x (hold x hx).1,fun h0=>by have:=(plc_some h0).1;omega,fun x hx _ _=>?_,by rw[List.length_set];exact h.len⟩
 ·have:=place_of_mem hRu (ren_mem h0 (mem_of_place hb))
  omega
 ·obtain⟨b,d⟩:=hold x hx
  by_cases e:x=who
  ·subst e
   have hfw:=keyed_few h.rt (mem_size (mem_of_place hw)) hK
   refine⟨_,A,c,?_,hs,by rw[d];exact ren_own h.rt h0 hK,by simp,by rw[List.length_cons,List.length_map];omega⟩
   rw[List.getElem?_set_self (by have:=h.len;omega),List.length_cons,List.length_map,Nat.add_comm]
  ·have hpx:t.place x≠t.place who:=fun e2=>e (by rw[← plc_name b,← plc_name hw,e2])
   exact OldK.set (old_of h.rt (h.has x b) b d (by simp) fun K hK=>ren_keyed h.rt h0 (mem_of_place b) hpx hK) (plc_some b).1 hpw (fun e2=>e e2.symm)
theorem grT_place {u:Tr} (hR:u.Rt) {pl:Int} (hp:¬u.nobody pl) (once:H32) (x:Int):(0≤u.place x→(grT u pl once).place x=u.place x)∧(0≤(grT u pl once).place x→0≤u.place x):=by
 obtain⟨b0,b1,b2⟩:=Tr.body hp
 have hts:u.size=u.ls.length:=rfl
 have hrt:=(growG_tree hR hp once [] []).2
 have hnm:=fun p h=>grT_name (u:=u) (pl:=pl) ⟨b0,by omega⟩ once (p:=p) h
 refine⟨fun h=>?_,fun h=>?_⟩
 ·obtain⟨m1,m2,m3⟩:=mem_of_place h
  exact place_of_mem hrt ⟨m1,by rw[hnm _ m1];exact m2,m3⟩
 ·obtain⟨m1,m2,m3⟩:=mem_of_place h
  rw[hnm _ m1]at m2
  have:=place_of_mem hR ⟨m1,m2,m3⟩
  omega
end Go.Proofs.YtpjodlnlmaaihaaGreat
namespace Go.Proofs.YtpjodlnlmaaihaaGreat
open Go.RowKit Go.Lib
structure Am where
 op:Int
 bz:Int
 who:Int
 key:Int
abbrev Am.fds (x:Am):List Fd:=[.one (.int .u8 x.op),.one (.int .u8 x.bz),.one (.int .u8 x.who),.one (.int .u16 x.key)]
def Am.good (x:Am):Prop:=(0≤x.op∧x.op<256)∧(0≤x.bz∧x.bz<256)∧(0≤x.who∧x.who<256)∧0≤x.key∧x.key<65536
abbrev oneL (k:H32):Lf:=⟨1,pubH k,hzero,hzero⟩
theorem one_add (k:H32):Tr.none.addR (oneL k)=(⟨[oneL k],[]⟩,0,0):=by
 rfl
theorem one_rt (k:H32):(⟨[oneL k],[]⟩:Tr).Rt:=by
 have:=add_rt none_rt (oneL k) (by rw[one_add])
 rw[one_add]at this
 exact this
theorem one_place (k:H32) (x:Int):(0≤(⟨[oneL k],[]⟩:Tr).place x→x=1)∧(⟨[oneL k],[]⟩:Tr).place 1=0:=by
 refine⟨fun h=>?_,?_⟩
 ·obtain⟨-,i,-,hi,e⟩:=plc_some h
  have hi1:i<1:=hi
  obtain rfl:i=0:=by omega
  exact e.symm
 ·exact place_of_mem (one_rt k) ⟨by omega,rfl,by omega⟩
theorem mn_start {H:Hp} {A:Option Addr} {c:Nat} (k:H32) (hs:Sl H 33 A [[.one (.int .i64 0),.arr 32 (u8s k.1)]]):Mn H ⟨[oneL k],[]⟩ ((List.replicate 16 (.slice none 0 0)).set 1 (.slice A 1 c)):=by
 refine⟨one_rt k,⟨1,by rw[(one_place k 1).2];omega⟩,fun x hx=>?_,fun x hx=>?_,by simp⟩
 ·have:=(one_place k x).1 hx
  omega
 ·obtain rfl:=(one_place k x).1 hx
  refine⟨[⟨0,k,by omega⟩],A,c,rfl,hs,?_⟩
  rw[(one_place k 1).2]
  refine⟨List.pairwise_singleton ..,fun z hz=>?_,fun x hx=>?_⟩
  ·obtain rfl:=List.mem_singleton.1 hz
   refine⟨.inl rfl,rfl⟩
  ·rcases hx with e|⟨-,-,h,-⟩
   ·exact⟨_,List.mem_singleton.2 rfl,e.symm⟩
   ·exfalso
    unfold parAt at h
    simp at h
    cases h
instance {P:Program} {t:TypeId} {q:Bool} {k':IntKind} {a b:Int}:StepC P (o_bin .shr t q (.int .u16 a) (.int k' b)) (0≤b∧b<16) (.int .u16 (a / 2 ^ b.toNat)):=⟨fun h=>p_shr t q .u16 k' a b h.1 h.2⟩
theorem aboutE:ByteArray.mk #[97,98,111,117,116]=strOfNums [97,98,111,117,116]:=by rfl
instance:ZerF Tryz.prog 41 [.arr 16 (List.replicate 16 (.slice none 0 0))]:=⟨by kernel_rfl,inferInstance⟩
theorem add_zero {t:Tr} (hR:t.Rt) (h:∀ x,0≤t.place x→x≤8) {l:Lf} (h1:1≤l.name∧l.name≤64) (h2:¬0≤t.place l.name):(t.addR l).2.2=0:=by
 unfold Tr.addR
 rw[if_neg (by omega),if_neg h2,if_neg (gap_room hR h)]
theorem rem_zero {t:Tr} {p:Int} (h:¬t.nobody p):(t.remR p).2=0:=by
 unfold Tr.remR
 rw[if_neg h]
theorem ren_zero {t:Tr} {p:Int} {k:H32} (h:¬t.nobody p):(t.renR p k).2=0:=by
 unfold Tr.renR
 rw[if_neg h]
theorem growT_eq {u:Tr} (hR:u.Rt) {pl:Int} (hp:¬u.nobody pl) (once:H32) (about fresh:List Int) (ha:about.length≤65536):growT u pl once about fresh=(growG u pl once about fresh,0):=by
 unfold growT
 rw[if_neg (by rw[Tr.rt.2 hR];simp),if_neg hp,if_neg (by omega)]
section
variable {H:Hp} {w0 w:World} {L R:List Res} {A B K F:Option Addr} {a b c n kc fc:Nat} {v:Value}
theorem place_c9 {t:Tr} (x:Int) (hR:t.Rt) (h:TrF H v t) (hf:Fz H w):Calls Tryz.prog 13 #[v,.int .i64 x] w fun en w'=>en=.returned (.int .i64 (t.place x))∧St w [] w':=by
 obtain⟨A,a,B,b,q,rfl,h1,h2,h3⟩:=h.ex
 have:=place_ok (a:=a) (b:=b) x h1 h2 h3 h.len.1 h.len.2 hf
 rwa [show t.sound=t from if_pos (Tr.rt.2 hR)]at this
theorem climbMeets_ok (xs:List Am) (hl:xs.length≤maxLen) (hs:Sl H 4 K (xs.map Am.fds)) (hg:∀ x∈xs,x.good) (hf:Fz H w):
  Calls Tryz.prog 4 #[.slice K xs.length kc] w fun en w'=>en=.returned (.bool true)∧St w [] w':=by
 obtain⟨wb,hwb⟩:∃ wb,wb=w:=⟨_,rfl⟩
 rw[← hwb]
 rw[← hwb]at hf
 have hM:=Mem.start hf
 have hl':xs.length≤9223372036854775807:=hl
 refine C_bevylaw09_ClimbMeets ?_
 unfold F_bevylaw09_ClimbMeets
 refine⟨fun v w'=>v=.bool (decide (40<xs.length))∧hM.now w',?_,?_⟩
 ·(((refine mm_purC hM ?_ (fun _ hM2=>?_)));(focus (first|exact trivial|assumption|omega));((replace hM:=hM2;clear hM2;refine mop_c trivial ?_;refine mguard_yes ?_;refine mop_c trivial ?_;refine mguard_yes ?_;refine mop_c trivial ?_;refine mguard_yes ?_)))
  (((refine mop_cS trivial ?_ ?_)))
  ·intro h
   (((refine mop_c trivial ?_)))
   exact⟨by rw[decide_eq_true (by omega)],hM⟩
  ·intro h
   (((refine mop_c trivial ?_)))
   exact⟨by rw[decide_eq_false (by omega)],hM⟩
 rintro v u w2 ⟨rfl,hM⟩
 by_cases hc:40<xs.length
 ·rw[decide_eq_true hc]
  (((refine mif_true ?_;refine mm_purC hM ?_ ?_));(focus (first|exact trivial|assumption|omega));((clear hM;intro _ hM)))
  exact⟨rfl,hM.st⟩
 rw[decide_eq_false hc]
 (((refine mif_false ?_;refine mop_c ?_ ?_));(focus (simp only[and_true];omega));((refine mm_new hM ?_;clear hM;intro _ _ hM;refine mm_st hM ?_;clear hM;intro _ hM;refine mop_c trivial ?_;refine mm_ld hM ?_;refine mm_purC hM ?_ ?_));(focus (first|exact trivial|assumption|omega));((clear hM;intro _ hM;refine mop_c trivial ?_)))
 refine mm_call hM (add_c (oneL (hset hzero 0 1)) (trF_none _) hM.fz) ?_
 rw[add_same none_rt,one_add]
 clear hM
 rintro H2 r w3 l2 hM ⟨v1,rfl,hT⟩
 have hTx:=hT.ex
 obtain⟨A,a,B,b,q,rfl,-⟩:=hTx
 ((((iterate 3 refine mop_c trivial ?_);refine mm_new hM ?_;clear hM;intro _ _ hM;refine mm_st hM ?_;clear hM;intro _ hM;refine mm_new hM ?_;clear hM;intro _ _ hM;refine mm_ld hM ?_;refine mop_c trivial ?_;refine mm_bsl hM ?_ ?_ ?_));(focus rfl);(focus (constructor <;> simp));((clear hM;intro _ _ hM;refine mop_c ?_ ?_));(focus omega);((refine mm_sta hM ?_ ?_));(focus omega);((clear hM;intro _ hM)))
 rename_i g4 _ _ gk _ gr _ _
 obtain⟨H3,l3,hM3,hKs,-⟩:=hM.fz0
 clear hM
 have hmn:=mn_start (c:=1) (hset hzero 0 1) hKs
 have hT3:=hT.mono l3.le
 have hM2:Mem H3 wb (fb gk 41 [.arr 16 ((List.replicate 16 (.slice none 0 0)).set 1 (.slice (some ⟨gr,0,none⟩) 1 1))]::fb g4 25 (tfd A 1 a B 0 b)::[_]) _:=hM3
 have hM:Mem H3 wb [fb gk 41 [.arr 16 ((List.replicate 16 (.slice none 0 0)).set 1 (.slice (some ⟨gr,0,none⟩) 1 1))],fb g4 25 (tfd A 1 a B 0 b)] _:=hM2.sub
 clear hM2 hM3 hKs
 generalize hks0:(List.replicate 16 (Value.slice none 0 0)).set 1 (.slice (some ⟨gr,0,none⟩) 1 1)=ks0 at hmn hM
 refine⟨fun v w'=>∃ (i:Nat) (H1:Hp) (t:Tr) (ks:List Value) (A:Option Addr) (a:Nat) (B:Option Addr) (b:Nat),v=.int .i64 i∧i≤xs.length∧Le wb H H1∧Mn H1 t ks∧TrF H1 (tv A t.ls.length a B t.ps.length b) t∧Mem H1 wb [fb gk 41 [.arr 16 ks],fb g4 25 (tfd A t.ls.length a B t.ps.length b)] w',fun v _=>match v with | .int _ k=>xs.length - k.toNat|_=>0,⟨0,H3,⟨[oneL (hset hzero 0 1)],[]⟩,ks0,A,a,B,b,rfl,by omega,l2.trans l3,hmn,hT3,hM⟩,?_⟩
 clear hM hT hT3 hmn hks0
 rintro v u w4 ⟨i,H1,t,ks,TA,ta,TB,tb,rfl,hi,l1,hmn,hT,hM⟩
 have hs1:=hs.mono l1.le
 have hR:=hmn.rt
 have hlen:=hR.len
 (((refine mop_c trivial ?_)))
 (((refine mop_cS trivial ?_ ?_)))
 ·intro hlt
  have hlt':i<xs.length:=by omega
  obtain⟨hx1,hx2,hx3,hx4⟩:=hg _ (List.getElem_mem hlt')
  (((refine mif_true ?_)))
  refine⟨fun w'=>∃ (H1:Hp) (t:Tr) (ks:List Value) (A:Option Addr) (a:Nat) (B:Option Addr) (b:Nat),Le wb H H1∧Mn H1 t ks∧TrF H1 (tv A t.ls.length a B t.ps.length b) t∧Mem H1 wb [fb gk 41 [.arr 16 ks],fb g4 25 (tfd A t.ls.length a B t.ps.length b)] w',?_,?_⟩
  ·((refine mm_ixs ‹_› ?_ ?_ ?_);(focus (simp only[List.length_map];omega));(focus (simp only[List.length_map];first|done|omega));((intro _ _ hA));(cases hA);(refine mm_lds0 hM ‹_› (map_atI ?_) ?_);(focus omega);((refine mm_new hM ?_;clear hM;intro _ _ hM;refine mm_st hM ?_;clear hM;intro _ hM;refine mm_ld hM ?_)))
   rename_i g9 _ _
   refine mm_call hM (names_ok hR hT hM.fz) ?_
   clear hM
   rintro H4 r w5 l4 hM ⟨NA,nc,rfl,hN⟩
   have hN64:=rnmL_len t 64
   have hNpos:0<(rnmL t 64).length:=by
    obtain⟨x,hx⟩:=hmn.some_
    have h8:=hmn.few x hx
    have h1:=(plc_some hx).1
    exact List.length_pos_of_mem (mem_rnm.2 ⟨⟨h1,by omega⟩,hx⟩)
   have hmem:=fun x (h:x∈rnmL t 64)=>(mem_rnm.1 h).2
   generalize rnmL t 64=nm at hN hN64 hNpos hmem ⊢
   have hT4:=hT.mono l4.le
   have hmn4:=hmn.mono l4.le
   have l14:=l1.trans l4
   clear hmn hT
   have hb1:=Int.emod_nonneg xs[i].bz (b:=(nm.length:Int)) (by omega)
   have hb2:=Int.emod_lt_of_pos xs[i].bz (b:=(nm.length:Int)) (by omega)
   have hc1:=Int.emod_nonneg xs[i].who (b:=(nm.length:Int)) (by omega)
   have hc2:=Int.emod_lt_of_pos xs[i].who (b:=(nm.length:Int)) (by omega)
   have hjb:(xs[i].bz%(nm.length:Int)).toNat<nm.length:=by omega
   have hjw:(xs[i].who%(nm.length:Int)).toNat<nm.length:=by omega
   have hn8:=ints8_length nm
   (((refine mop_c trivial ?_;refine mm_ld hM ?_;refine mop_c ?_ ?_));(focus omega);((refine mop_c trivial ?_;refine mop_c ?_ ?_));(focus omega);(refine mm_ixs ‹_› ?_ ?_ ?_);(focus (simp only[List.length_map];omega));(focus (simp only[List.length_map];first|done|omega));((intro _ _ hA));(cases hA);(refine mm_lds0 hM ‹_› (map_at ?_) ?_);(focus omega);((refine mop_c trivial ?_;refine mm_ld hM ?_;refine mop_c ?_ ?_));(focus omega);((refine mop_c trivial ?_;refine mop_c ?_ ?_));(focus omega);(refine mm_ixs ‹_› ?_ ?_ ?_);(focus (simp only[List.length_map];omega));(focus (simp only[List.length_map];first|done|omega));((intro _ _ hA));(cases hA);(refine mm_lds0 hM ‹_› (map_at ?_) ?_);(focus omega);((refine mm_ld hM ?_;refine mm_new hM ?_;clear hM;intro _ _ hM;refine mm_st hM ?_;clear hM;intro _ hM;refine mop_c trivial ?_;refine mop_c trivial ?_;refine mm_ld hM ?_;refine mop_c trivial ?_;refine mop_c ?_ ?_));(focus (simp only[and_true];omega));((refine mm_new hM ?_;clear hM;intro _ _ hM;refine mm_st hM ?_;clear hM;intro _ hM)))
   rename_i g13 _ _ g15 _ _
   have hbm:=hmem _ (List.getElem_mem hjb)
   have hwm:=hmem _ (List.getElem_mem hjw)
   generalize nm[(xs[i].bz%(nm.length:Int)).toNat]=by_ at hbm ⊢
   generalize nm[(xs[i].who%(nm.length:Int)).toNat]=who at hwm ⊢
   generalize hset (hset (hset hzero 0 ((i:Int)%256)) 1 2) 2 (xs[i].key%256)=priv at hM ⊢
   have hb8:=hmn4.few _ hbm
   have hw8:=hmn4.few _ hwm
   have hb1':=(plc_some hbm).1
   have hw1':=(plc_some hwm).1
   clear hN hNpos hmem hb1 hb2 hc1 hc2 hjb hjw hn8 hN64
   refine⟨fun v1 v2 w'=>∃ (H5:Hp) (u:Tr) (ks5:List Value) (fl:List Int) (come:Int) (F:Option Addr) (fc:Nat) (A:Option Addr) (a:Nat) (B:Option Addr) (b:Nat),v1=.slice F fl.length fc∧v2=.int .i64 come∧Le wb H H5∧Sw H5 u by_ come priv fl ks5∧fl.length≤1∧Sl H5 1 F (ints8 fl)∧TrF H5 (tv A u.ls.length a B u.ps.length b) u∧Mem H5 wb [fb g15 34 [.arr 32 (u8s priv.1)],fb g13 25 (tfd A u.ls.length a B u.ps.length b),fb g9 46 xs[i].fds,fb gk 41 [.arr 16 ks5],fb g4 25 (tfd TA t.ls.length ta TB t.ps.length tb)] w',?_,?_⟩
   ·(((refine mop_c trivial ?_;refine mm_ld hM ?_;refine mop_c ?_ ?_));(focus omega))
    (((refine mop_cS trivial ?_ ?_)))
    ·intro ho
     (((refine mif_true ?_)))
     refine⟨fun v w'=>∃ c:Nat,v=.int .i64 c∧1≤c∧c≤9∧hM.now w',fun v _=>match v with | .int _ k=>10 - k.toNat|_=>0,⟨1,rfl,by omega,by omega,hM⟩,?_⟩
     rintro v u7 w7 ⟨c,rfl,hc1,hc9,hM⟩
     refine⟨fun w'=>c<9∧hM.now w',?_,?_⟩
     ·skip
      (((refine mop_cS trivial ?_ ?_)))
      ·intro hc8
       (((refine mguard_yes ?_;refine mm_ld hM ?_;refine mguard_yes ?_;refine mop_c trivial ?_;refine mguard_yes ?_)))
       refine mm_pure hM (place_c9 (c:Int) hR hT4 hM.fz) (fun w hM=>?_)
       (((refine mguard_yes ?_)))
       (((refine mop_cS trivial ?_ ?_)))
       ·intro hge
        (((refine mop_c trivial ?_;refine mif_true ?_)))
        exact⟨by omega,hM⟩
       ·intro hnp
        (((refine mop_c trivial ?_;refine mif_false ?_;refine mop_cF trivial ?_ ?_));(focus (first|assumption|omega|with_reducible rfl|exact fun h=>Bool.noConfusion h));((refine mif_false ?_)))
        have h0:=add_zero (l:=⟨c,pubH priv,hzero,hzero⟩) hR hmn4.few ⟨by show(1:Int)≤c;omega,by show(c:Int)≤64;omega⟩ (by show ¬0≤t.place c;omega)
        obtain⟨u0,hu0⟩:∃ u0,(t.addR ⟨c,pubH priv,hzero,hzero⟩).1=u0:=⟨_,rfl⟩
        have hg0:=(add_gap h0).1
        have hswu:=fun(H5:Hp) (le5:H4.le H5)=>sw_add (come:=(c:Int)) (hmn4.mono le5) hbm (l:=⟨c,pubH priv,hzero,hzero⟩) rfl (by omega) h0 rfl
        rw[hu0]at hswu
        refine⟨fun v1 v2 v3 w'=>∃ (g20:Nat) (H5:Hp) (A:Option Addr) (a:Nat) (B:Option Addr) (b:Nat),v1=.pointer (some ⟨g20,0,none⟩)∧v2=.int .i64 t.gap∧v3=.int .i64 0∧Le wb H4 H5∧TrF H5 (tv A u0.ls.length a B u0.ps.length b) u0∧Mem H5 wb [fb g20 25 (tfd A u0.ls.length a B u0.ps.length b),fb g15 34 [.arr 32 (u8s priv.1)],fb g13 25 (tfd TA t.ls.length ta TB t.ps.length tb),fb g9 46 xs[i].fds,fb gk 41 [.arr 16 ks],fb g4 25 (tfd TA t.ls.length ta TB t.ps.length tb)] w',?_,?_⟩
        ·repeat' apply And.intro
         all_goals
          (first|(((refine dm_ld hM ?_;refine dm_ld hM ?_;refine dm_purC hM ?_ (fun _ _ hM=>?_)));(focus (first|exact trivial|assumption|omega));((refine dp_c trivial ?_;refine dm_new hM ?_;clear hM;intro _ _ hM)))|(((refine dm_ld hM ?_;refine dm_ld hM ?_;refine dm_new hM ?_;clear hM;intro _ _ hM;refine dm_purC hM ?_ (fun _ _ hM=>?_)));(focus (first|exact trivial|assumption|omega));((refine dp_c trivial ?_)))|(((refine dm_ld hM ?_;refine dm_ld hM ?_;refine dm_purC hM ?_ (fun _ _ hM=>?_)));(focus (first|exact trivial|assumption|omega));((refine dp_c trivial ?_))))
          refine df_no hM (fun w hM2=>?_)
          refine mm_call hM2 (add_c ⟨c,pubH priv,hzero,hzero⟩ hT4 hM2.fz) ?_
          rintro H5 r w6 l5 hM5 ⟨v1,rfl,hT5⟩
          rw[add_same hR]at hT5 ⊢
          rw[h0,hg0]
          rw[hu0]at hT5
          have hx5:=hT5.ex
          obtain⟨A5,a5,B5,b5,q5,rfl,-⟩:=hx5
          replace hM:=hM5
          clear hM2 hM5
          (first|((((iterate 3 refine dp_c trivial ?_);refine dm_new hM ?_;clear hM;intro _ _ hM;refine dS_st hM ?_;clear hM;intro _ hM;refine mm_end hM ?_;clear hM;intro _ hM)))|((((iterate 3 refine dp_c trivial ?_);refine dS_st hM ?_;clear hM;intro _ hM;refine mm_end hM ?_;clear hM;intro _ hM))))
          exact⟨_,H5,A5,a5,B5,b5,rfl,rfl,rfl,l5,hT5,hM.sub⟩
        clear hM
        rintro v1 v2 v3 u7 w7 ⟨g20,H5,A5,a5,B5,b5,rfl,rfl,rfl,l5,hT5,hM⟩
        (((refine mop_cF trivial ?_ ?_));(focus (first|assumption|omega|with_reducible rfl|exact fun h=>Bool.noConfusion h));((refine mif_false ?_;refine mm_ld hM ?_;refine mm_bsl hM ?_ ?_ ?_));(focus rfl);(focus (constructor <;> simp));((clear hM;intro _ _ hM;refine mm_st hM ?_;clear hM;intro _ hM)))
        obtain⟨H6,l6,hM6,hrow,-⟩:=hM.fz0
        exact⟨H6,u0,ks,[(t.gap:Int)],c,_,_,A5,a5,B5,b5,rfl,rfl,l14.trans (l5.trans l6),hswu H6 (l5.trans l6).le,by simp,hrow,hT5.mono l6.le,hM6.sub⟩
      ·intro hc8
       ((((iterate 4 refine mguard_n2 ?_);refine mop_c trivial ?_;refine mif_false ?_;refine mop_cT trivial ?_ ?_));(focus (first|assumption|omega|with_reducible rfl|exact fun h=>Bool.noConfusion h));((refine mif_true ?_)))
       exact⟨H4,t,ks,TA,ta,TB,tb,l14,hmn4,hT4,hM.sub⟩
     ·rintro u8 w8 ⟨hc8,hM⟩
      refine⟨fun w'=>hM.now w',hM,?_⟩
      rintro u9 w9 hM
      (((refine mop_c ?_ ?_));(focus omega))
      exact⟨⟨c+1,by rw[Value.int.injEq];refine⟨rfl,?_⟩;push_cast;rfl,by omega,by omega,hM⟩,by simp only;omega⟩
    intro ho
    (((refine mif_false ?_)))
    (((refine mop_cS trivial ?_ ?_)))
    ·intro ho2
     (((refine mif_true ?_)))
     (((refine mop_cS trivial ?_ ?_)))
     ·intro he
      (((refine mif_true ?_)))
      exact⟨H4,t,ks,TA,ta,TB,tb,l14,hmn4,hT4,hM.sub⟩
     intro he
     (((refine mif_false ?_)))
     have h0:=rem_zero (mem_body (mem_of_place hwm))
     refine⟨fun v1 v2 w'=>∃ (g20:Nat) (H5:Hp) (A:Option Addr) (a:Nat) (B:Option Addr) (b:Nat),v1=.pointer (some ⟨g20,0,none⟩)∧v2=.int .i64 0∧Le wb H4 H5∧TrF H5 (tv A (t.remR (t.place who)).1.ls.length a B (t.remR (t.place who)).1.ps.length b) (t.remR (t.place who)).1∧Mem H5 wb [fb g20 25 (tfd A (t.remR (t.place who)).1.ls.length a B (t.remR (t.place who)).1.ps.length b),fb g15 34 [.arr 32 (u8s priv.1)],fb g13 25 (tfd TA t.ls.length ta TB t.ps.length tb),fb g9 46 xs[i].fds,fb gk 41 [.arr 16 ks],fb g4 25 (tfd TA t.ls.length ta TB t.ps.length tb)] w',?_,?_⟩
     ·repeat' apply And.intro
      all_goals
       (first|(((refine dm_ld hM ?_;refine dm_ld hM ?_;refine dm_new hM ?_;clear hM;intro _ _ hM)))|(((refine dm_ld hM ?_;refine dm_ld hM ?_))))
       refine dm_pure hM (fun w hM=>place_c9 who hR hT4 hM.fz) (fun w5 _ hM2=>?_)
       replace hM:=hM2
       clear hM2
       (first|(((refine dm_new hM ?_;clear hM;intro _ _ hM)))|skip)
       refine df_no hM (fun w hM2=>?_)
       refine mm_call hM2 (remove_c (t.place who) hT4 hM2.fz) ?_
       rintro H5 r w6 l5 hM5 ⟨v1,rfl,hT5⟩
       rw[rem_same hR]at hT5 ⊢
       rw[h0]
       have hx5:=hT5.ex
       obtain⟨A5,a5,B5,b5,q5,rfl,-⟩:=hx5
       replace hM:=hM5
       clear hM2 hM5
       (first|(((refine dp_c trivial ?_;refine dp_c trivial ?_;refine dm_new hM ?_;clear hM;intro _ _ hM;refine dS_st hM ?_;clear hM;intro _ hM;refine mm_end hM ?_;clear hM;intro _ hM)))|(((refine dp_c trivial ?_;refine dp_c trivial ?_;refine dS_st hM ?_;clear hM;intro _ hM;refine mm_end hM ?_;clear hM;intro _ hM))))
       exact⟨_,H5,A5,a5,B5,b5,rfl,rfl,l5,hT5,hM.sub⟩
     clear hM
     rintro v1 v2 u7 w7 ⟨g20,H5,A5,a5,B5,b5,rfl,rfl,l5,hT5,hM⟩
     have hk5:=hmn4.len
     (((refine mop_cF trivial ?_ ?_));(focus (first|assumption|omega|with_reducible rfl|exact fun h=>Bool.noConfusion h));((refine mif_false ?_;refine mm_ld hM ?_;refine mm_st hM ?_;clear hM;intro _ hM;refine mop_c ?_ ?_));(focus omega);((refine mm_sta hM ?_ ?_));(focus omega);((clear hM;intro _ hM)))
     exact⟨H5,_,_,[],0,none,0,A5,a5,B5,b5,rfl,rfl,l14.trans l5,sw_rem (v:=.slice none 0 0) (hmn4.mono l5.le) priv hbm hwm he h0,by simp,Sl.nil _ _ _,hT5,hM.sub⟩
    intro ho2
    (((refine mif_false ?_)))
    (((refine mop_cS trivial ?_ ?_)))
    ·intro ho3
     (((refine mif_true ?_)))
     (((refine mop_cS trivial ?_ ?_)))
     ·intro he
      (((refine mif_true ?_)))
      exact⟨H4,t,ks,TA,ta,TB,tb,l14,hmn4,hT4,hM.sub⟩
     intro he
     (((refine mif_false ?_;refine mm_ld hM ?_)))
     refine mm_pure hM (place_c9 who hR hT4 hM.fz) (fun w hM2=>?_)
     replace hM:=hM2
     clear hM2
     have h0:=ren_zero (k:=pubH priv) (mem_body (mem_of_place hwm))
     refine⟨fun v1 v2 w'=>∃ (g20:Nat) (H5:Hp) (A:Option Addr) (a:Nat) (B:Option Addr) (b:Nat),v1=.pointer (some ⟨g20,0,none⟩)∧v2=.int .i64 0∧Le wb H4 H5∧TrF H5 (tv A (t.renR (t.place who) (pubH priv)).1.ls.length a B (t.renR (t.place who) (pubH priv)).1.ps.length b) (t.renR (t.place who) (pubH priv)).1∧Mem H5 wb [fb g20 25 (tfd A (t.renR (t.place who) (pubH priv)).1.ls.length a B (t.renR (t.place who) (pubH priv)).1.ps.length b),fb g15 34 [.arr 32 (u8s priv.1)],fb g13 25 (tfd TA t.ls.length ta TB t.ps.length tb),fb g9 46 xs[i].fds,fb gk 41 [.arr 16 ks],fb g4 25 (tfd TA t.ls.length ta TB t.ps.length tb)] w',?_,?_⟩
     ·repeat' apply And.intro
      all_goals
       (first|(((refine dm_ld hM ?_;refine dm_ld hM ?_;refine dm_purC hM ?_ (fun _ _ hM=>?_)));(focus (first|exact trivial|assumption|omega));((refine dm_new hM ?_;clear hM;intro _ _ hM)))|(((refine dm_ld hM ?_;refine dm_ld hM ?_;refine dm_new hM ?_;clear hM;intro _ _ hM;refine dm_purC hM ?_ (fun _ _ hM=>?_)));(focus (first|exact trivial|assumption|omega)))|(((refine dm_ld hM ?_;refine dm_ld hM ?_;refine dm_purC hM ?_ (fun _ _ hM=>?_)));(focus (first|exact trivial|assumption|omega))))
       refine df_no hM (fun w hM2=>?_)
       refine mm_call hM2 (renew_c (t.place who) (pubH priv) hT4 hM2.fz) ?_
       rintro H5 r w6 l5 hM5 ⟨v1,rfl,hT5⟩
       rw[ren_same hR]at hT5 ⊢
       rw[h0]
       have hx5:=hT5.ex
       obtain⟨A5,a5,B5,b5,q5,rfl,-⟩:=hx5
       replace hM:=hM5
       clear hM2 hM5
       (first|(((refine dp_c trivial ?_;refine dp_c trivial ?_;refine dm_new hM ?_;clear hM;intro _ _ hM;refine dS_st hM ?_;clear hM;intro _ hM;refine mm_end hM ?_;clear hM;intro _ hM)))|(((refine dp_c trivial ?_;refine dp_c trivial ?_;refine dS_st hM ?_;clear hM;intro _ hM;refine mm_end hM ?_;clear hM;intro _ hM))))
       exact⟨_,H5,A5,a5,B5,b5,rfl,rfl,l5,hT5,hM.sub⟩
     clear hM
     rintro v1 v2 u7 w7 ⟨g20,H5,A5,a5,B5,b5,rfl,rfl,l5,hT5,hM⟩
     have hk5:=hmn4.len
     obtain⟨KW,KA,kac,hkw,hKA,hKW⟩:=(hmn4.mono l5.le).has who hwm
     have hkml:(KW.map Ky.fds).length=KW.length:=List.length_map ..
     (((refine mop_cF trivial ?_ ?_));(focus (first|assumption|omega|with_reducible rfl|exact fun h=>Bool.noConfusion h));((refine mif_false ?_;refine mm_ld hM ?_;refine mm_st hM ?_;clear hM;intro _ hM)))
     have hM0:=hM
     have hps:=mem_size (mem_of_place hwm)
     have hts:t.size=t.ls.length:=rfl
     have hkwl:=keyed_few hR hps hKW
     (((refine dp_c ?_ ?_));(focus omega);((refine dm_ld hM ?_;refine dp_c trivial ?_;refine dS_bsl hM ?_ ?_ ?_));(focus rfl);(focus (constructor <;> simp));((clear hM;intro _ _ hM;refine dp_c ?_ ?_));(focus omega))
     refine dm_lda ‹Mem _ _ _ _› hkw ?_
     (((refine df_no hM ?_;clear hM;intro _ hM)))
     refine mm_apps hM hKA hkml.symm (by constructor <;> omega) ?_
     intro A' c' w' hM5
     replace hM:=hM5
     clear hM5
     (((refine dp_c ?_ ?_));(focus omega);((refine dm_sta hM ?_ (fun _ hM=>?_)));(focus omega);((refine mm_end hM ?_;clear hM;intro _ hM)))
     obtain⟨H6,l6,hM6,hrow,-⟩:=hM.fz0
     have hmap:[[.one (.int .i64 (2*t.place who)),.arr 32 (u8s priv.1)]]++KW.map Ky.fds=((⟨2*t.place who,priv⟩:Kr)::KW.map Ky.kr).map Kr.fds:=by
      rw[List.map_cons,List.map_map]
      rfl
     rw[hmap]at hrow
     exact⟨H6,_,_,[],0,none,0,A5,a5,B5,b5,rfl,rfl,l14.trans (l5.trans l6),sw_ren (c:=c') (hmn4.mono (l5.trans l6).le) hbm hwm h0 hKW hrow,by simp,Sl.nil _ _ _,hT5.mono l6.le,hM6.sub⟩
    intro ho3
    (((refine mif_false ?_)))
    exact⟨H4,t,ks,[],0,none,0,TA,ta,TB,tb,rfl,rfl,l14,sw_none hmn4 hbm priv,by simp,Sl.nil _ _ _,hT4,hM⟩
   clear hM
   rintro v1 v2 u9 w9 ⟨H5,u,ks5,fl,come,F,fc,UA,ua,UB,ub,rfl,rfl,l5,hsw,hfl,hF,hU,hM⟩
   clear hmn4 hT4 hwm hw8 hw1'
   have hRu:=hsw.rt
   have hulen:=hRu.len
   have huts:u.size=u.ls.length:=rfl
   have hpm:=mem_of_place hsw.by0
   have hps:=mem_size hpm
   have hpn:=mem_body hpm
   (((refine mm_ld hM ?_)))
   refine mm_pure hM (place_c9 by_ hRu hU hM.fz) (fun w hM2=>?_)
   replace hM:=hM2
   clear hM2
   (((refine mm_ld hM ?_;refine mop_c trivial ?_;refine mop_c trivial ?_;refine mm_ld hM ?_;refine mop_c trivial ?_;refine mop_c trivial ?_;refine mm_ld hM ?_;refine mop_c ?_ ?_));(focus omega);((refine mop_c trivial ?_;refine mop_c ?_ ?_));(focus (simp only[and_true];omega)))
   rw[aboutE]
   generalize hset (hset (hset (hset hzero 0 ((i:Int)%256)) 1 3) 2 (xs[i].key%256)) 3 (xs[i].key / 2 ^ (8:Int).toNat%256)=once at hM ⊢
   have hfl2:fl.length≤maxLen:=by unfold maxLen;omega
   refine mm_call hM (grow_ok (u.place by_) once [97,98,111,117,116] fl (by omega) (by simp) hfl2 hU hF hM.fz) ?_
   rw[growT_eq hRu hpn once _ fl (by simp)]
   clear hM
   rintro H6 r w10 l6 hM ⟨gv,rfl,hG⟩
   have hgt:(growG u (u.place by_) once [97,98,111,117,116] fl).tree=grT u (u.place by_) once:=(growG_tree hRu hpn once _ fl).1
   obtain⟨hrtG,hgp⟩:(grT u (u.place by_) once).Rt∧∀ x,(0≤u.place x→(grT u (u.place by_) once).place x=u.place x)∧(0≤(grT u (u.place by_) once).place x→0≤u.place x):=⟨(growG_tree hRu hpn once [] []).2,grT_place hRu hpn once⟩
   have hgsz:(grT u (u.place by_) once).size=u.size:=pathG_size ..
   have hgrl:(growG u (u.place by_) once [97,98,111,117,116] fl).rungs.length=(dirL u.size (u.place by_)).length:=rungsK_len ..
   have hgw:=grow_wraps u (u.place by_) once [97,98,111,117,116] fl
   have hgs:(growG u (u.place by_) once [97,98,111,117,116] fl).secs=(secL (leafS once) ((dirL u.size (u.place by_)).length+1)).drop 1:=rfl
   have hgk:Keyed (grT u (u.place by_) once) (u.place by_) (growG u (u.place by_) once [97,98,111,117,116] fl).keys:=keys_own hRu hpn once
   have hgc:(growG u (u.place by_) once [97,98,111,117,116] fl).com=comS (leafS once) ((dirL u.size (u.place by_)).length+1):=rfl
   have hfm:=fun(x:Int) (hx:¬u.nobody (u.place x)) (hne:u.place x≠u.place by_) (K:List Kr) (hK:KU u (u.place x) K) (hf:u.place x∉fl)=>follow_meets hRu hpn hx hne hK once [97,98,111,117,116] fl hf
   unfold folG at hfm
   generalize growG u (u.place by_) once [97,98,111,117,116] fl=g at hG hgt hgrl hgw hgs hgk hgc hfm ⊢
   obtain⟨GA,ga,GB,gb,RA,ra,SA,sa,KA,ka,qs,rfl,hGT,hGR,hGR2,hGS,hGK⟩:=hG
   rw[hgt]at hGT
   rw[hgt]
   replace hGS:Sl H6 32 SA (kfds g.secs):=hGS
   have hdl:=dirL_len u.size (u.place by_)
   (((refine mop_c trivial ?_;refine mop_c trivial ?_;refine mm_new hM ?_;clear hM;intro _ _ hM;refine mm_st hM ?_;clear hM;intro _ hM;refine mop_cF trivial ?_ ?_));(focus (first|assumption|omega|with_reducible rfl|exact fun h=>Bool.noConfusion h));((refine mif_false ?_;refine mm_ld hM ?_)))
   rename_i g26 _ _
   have hU6:=hU.mono l6.le
   refine mm_call hM (names_ok hRu hU6 hM.fz) ?_
   clear hM
   rintro H7 r w11 l7 hM ⟨NA,nc,rfl,hN⟩
   have hN64:=rnmL_len u 64
   have hmem:=fun x (h:x∈rnmL u 64)=>(mem_rnm.1 h).2
   have hmem2:=fun x (h:0≤u.place x)=>mem_rnm.2 ⟨⟨(plc_some h).1,by have:=hsw.few x h;omega⟩,h⟩
   have hnnd:=rnm_nodup u
   generalize rnmL u 64=nm at hN hN64 hmem hmem2 hnnd ⊢
   have hn8:=ints8_length nm
   have l67:=l6.trans l7
   have hU7:=hU6.mono l7.le
   have hF7:=hF.mono l67.le
   have hGT7:=hGT.mono l7.le
   have hGR7:=hGR.mono l7.le
   have hGR27:=hGR2.mono fun q x k=>RgF.mono k l7.le
   have hGS7:=hGS.mono l7.le
   have hGK7:=hGK.mono l7.le
   have hsw7:=hsw.mono l67.le
   have l57:=l5.trans l67
   clear hU hU6 hF hGT hGR hGR2 hGS hGK hsw l6 l7 l67 l5
   have hM2:Mem H7 wb [fb g26 56 (gfd GA (grT u (u.place by_) once).ls.length ga GB (grT u (u.place by_) once).ps.length gb RA g.rungs.length ra SA g.secs.length sa KA g.keys.length ka g.com),fb g15 34 [.arr 32 (u8s priv.1)],fb g13 25 (tfd UA u.ls.length ua UB u.ps.length ub),fb g9 46 xs[i].fds,fb gk 41 [.arr 16 ks5],fb g4 25 (tfd TA t.ls.length ta TB t.ps.length tb)] _:=hM
   replace hM:=hM2
   clear hM2
   refine⟨fun v1 v2 w'=>∃ (j:Nat) (H8:Hp) (ks8:List Value),v1=.int .i64 0∧v2=.int .i64 j∧j≤nm.length∧Le wb H7 H8∧ks8.length=16∧(∀ x∈nm.take j,NewK H8 (grT u (u.place by_) once) ks8 x)∧(∀ x,0≤u.place x→x∉nm.take j→x≠by_→x≠come→OldK H8 u fl ks8 x)∧Mem H8 wb [fb g26 56 (gfd GA (grT u (u.place by_) once).ls.length ga GB (grT u (u.place by_) once).ps.length gb RA g.rungs.length ra SA g.secs.length sa KA g.keys.length ka g.com),fb g15 34 [.arr 32 (u8s priv.1)],fb g13 25 (tfd UA u.ls.length ua UB u.ps.length ub),fb g9 46 xs[i].fds,fb gk 41 [.arr 16 ks8],fb g4 25 (tfd TA t.ls.length ta TB t.ps.length tb)] w',fun _ v _=>match v with | .int _ k=>nm.length - k.toNat|_=>0,⟨0,H7,ks5,rfl,rfl,by omega,Le.refl _ _,hsw7.len,fun x hx=>by simp at hx,fun x h0 _ h1 h2=>hsw7.has x h0 h1 h2,hM⟩,?_⟩
   clear hM
   rintro v1 v2 u11 w12 ⟨j,H8,ks8,rfl,rfl,hj,l8,hk8,hnew,hold,hM⟩
   (((refine mop_c trivial ?_)))
   (((refine mop_cS trivial ?_ ?_)))
   ·intro hlt2
    have hjn:j<nm.length:=by omega
    have hN8:=hN.mono l8.le
    have hU8:=hU7.mono l8.le
    (((refine mif_true ?_));(refine mm_ixs ‹_› ?_ ?_ ?_);(focus (simp only[List.length_map];omega));(focus (simp only[List.length_map];first|done|omega));((intro _ _ hA));(cases hA);(refine mm_lds0 hM ‹_› (map_atI ?_) ?_);(focus omega);((refine mm_ld hM ?_)))
    have hnj:=hmem _ (List.getElem_mem hjn)
    obtain⟨name,hname⟩:∃ name,nm[j]=name:=⟨_,rfl⟩
    rw[hname]at hnj ⊢
    have hnm0:=mem_of_place hnj
    have hns:=mem_size hnm0
    have hnn:=mem_body hnm0
    have hn1:=(plc_some hnj).1
    have hn8':=hsw7.few _ hnj
    have hntk:name∉nm.take j:=fun h=>by
     obtain⟨k,hk,e⟩:=List.getElem_of_mem h
     rw[List.getElem_take]at e
     have hkj:k<j:=by rw[List.length_take]at hk;omega
     have:=(List.getElem_inj hnnd).1 (e.trans hname.symm)
     omega
    refine mm_pure hM (place_c9 name hRu hU8 hM.fz) (fun w hM2=>?_)
    replace hM:=hM2
    clear hM2
    (((refine mm_ld hM ?_;refine mm_new hM ?_;clear hM;intro _ _ hM;refine mm_st hM ?_;clear hM;intro _ hM)))
    rename_i g32 _ _
    have hGT8:=hGT7.mono l8.le
    have hGR8:=hGR7.mono l8.le
    have hGR28:=hGR27.mono fun q x k=>RgF.mono k l8.le
    have hGS8:=hGS7.mono l8.le
    have hGK8:=hGK7.mono l8.le
    have hF8:=hF7.mono l8.le
    have hM2:Mem H8 wb [fb g32 56 (gfd GA (grT u (u.place by_) once).ls.length ga GB (grT u (u.place by_) once).ps.length gb RA g.rungs.length ra SA g.secs.length sa KA g.keys.length ka g.com),fb g26 56 (gfd GA (grT u (u.place by_) once).ls.length ga GB (grT u (u.place by_) once).ps.length gb RA g.rungs.length ra SA g.secs.length sa KA g.keys.length ka g.com),fb g15 34 [.arr 32 (u8s priv.1)],fb g13 25 (tfd UA u.ls.length ua UB u.ps.length ub),fb g9 46 xs[i].fds,fb gk 41 [.arr 16 ks8],fb g4 25 (tfd TA t.ls.length ta TB t.ps.length tb)] _:=hM
    replace hM:=hM2
    clear hM2
    refine⟨fun v w'=>v=.int .i64 0∧∃ (H9:Hp) (hA:Option Addr) (ha:Nat) (hB:Option Addr) (hb:Nat) (hR:Option Addr) (hrn hra:Nat) (hS:Option Addr) (hsn hsa:Nat) (hK:Option Addr) (hka:Nat) (KK:List Ky),Le wb H8 H9∧TrF H9 (tv hA (grT u (u.place by_) once).ls.length ha hB (grT u (u.place by_) once).ps.length hb) (grT u (u.place by_) once)∧Sl H9 33 hK (KK.map Ky.fds)∧Keyed (grT u (u.place by_) once) (u.place name) KK∧Mem H9 wb [fb g32 56 (gfd hA (grT u (u.place by_) once).ls.length ha hB (grT u (u.place by_) once).ps.length hb hR hrn hra hS hsn hsa hK KK.length hka g.com),fb g26 56 (gfd GA (grT u (u.place by_) once).ls.length ga GB (grT u (u.place by_) once).ps.length gb RA g.rungs.length ra SA g.secs.length sa KA g.keys.length ka g.com),fb g15 34 [.arr 32 (u8s priv.1)],fb g13 25 (tfd UA u.ls.length ua UB u.ps.length ub),fb g9 46 xs[i].fds,fb gk 41 [.arr 16 ks8],fb g4 25 (tfd TA t.ls.length ta TB t.ps.length tb)] w',?_,?_⟩
    ·skip
     (((refine mop_cS trivial ?_ ?_)))
     ·intro hec
      have hec2:name=come:=by omega
      have hnb2:name≠by_:=fun e=>hsw7.byc (e.symm.trans hec2)
      have hne:u.place name≠u.place by_:=fun e=>hnb2 (by rw[← plc_name hnj,← plc_name hsw7.by0,e])
      have hnew2:=hsw7.new_ (by rw[← hec2];exact hnj)
      rw[← hec2]at hnew2
      obtain⟨q,hq⟩:∃ q,(dirL u.size (u.place by_)).findIdx (fun x=>decide (hld u.size x (u.place name)))=q:=⟨_,rfl⟩
      obtain⟨hq1,-,-⟩:=meet_at (n:=u.size) (pl:=u.place by_) (m:=u.place name) ⟨hps.1,hps.2,by omega⟩ hns hne hq
      (((refine mif_true ?_;refine mop_c trivial ?_;refine mm_ld hM ?_;refine mop_c trivial ?_)))
      refine mm_call hM (rdirect_out u.size (u.place by_) (by omega) hM.fz) ?_
      clear hM
      rintro H9 r w15 l9 hM ⟨DA,dc,rfl,hD⟩
      have hcom:=fun w=>rcommon_ok (w:=w) u.size (u.place by_) (u.place name) hps hns (by omega) hne hq hq1
      have hd8:=ints8_length (dirL u.size (u.place by_))
      have hdnd:=dir_nodup (n:=u.size) (l:=u.place by_) (by omega)
      refine⟨fun v w'=>∃ k:Nat,v=.int .i64 k∧k≤q∧hM.now w',fun v _=>match v with | .int _ k=>(dirL u.size (u.place by_)).length - k.toNat|_=>0,⟨0,rfl,by omega,hM⟩,?_⟩
      rintro v u15 w16 ⟨k,rfl,hkq,hM⟩
      have hkd:k<(dirL u.size (u.place by_)).length:=by omega
      ((refine dp_ixs ‹_› ?_ ?_ ?_);(focus (simp only[List.length_map];omega));(focus (simp only[List.length_map];first|done|omega));((intro _ _ hA));(cases hA);(refine dm_lds0 hM ‹_› (map_atI ?_) ?_);(focus omega);((refine dp_c trivial ?_;refine dm_ld hM ?_;refine dp_c trivial ?_)))
      refine dm_pure hM (fun w _=>hcom w) (fun w5 _ hM2=>?_)
      have hM3:Mem _ _ _ w5:=hM2
      clear hM2
      have hM:=hM3
      clear hM3
      (((refine dp_cS trivial ?_ ?_)))
      ·intro hkne
       (((refine mm_end hM ?_;clear hM;intro _ hM;refine mif_true ?_;refine mop_c ?_ ?_));(focus omega))
       exact⟨⟨k+1,by rw[Value.int.injEq];refine⟨rfl,?_⟩;push_cast;rfl,by
        have:k≠q:=fun e=>hkne (by subst e;rfl)
        omega,hM⟩,by simp only;omega⟩
      ·intro hkeq
       obtain rfl:k=q:=(List.getElem_inj hdnd).1 (Classical.not_not.1 hkeq)
       have hGS9:=hGS8.mono l9.le
       have hGT9:=hGT8.mono l9.le
       have hsl:k<g.secs.length:=by
        rw[hgs,List.length_drop,secL_len]
        omega
       have hsk:g.secs[k]=secK (leafS once) (k+1):=by
        simp only[hgs,List.getElem_drop,secL,List.getElem_map,List.getElem_range]
        rw[Nat.add_comm]
       have hkf:(kfds g.secs).length=g.secs.length:=List.length_map ..
       have hdl64:g.secs.length≤64:=by
        rw[hgs,List.length_drop,secL_len]
        omega
       (((refine mm_end hM ?_;clear hM;intro _ hM;refine mif_false ?_;refine dp_c trivial ?_;refine dm_ld hM ?_;refine dp_c trivial ?_;refine dm_ld hM ?_));(refine dp_ixs ‹_› ?_ ?_ ?_);(focus (simp only[List.length_map];omega));(focus (simp only[List.length_map];first|done|omega));((intro _ _ hA));(cases hA);(refine dm_lds0 hM ‹_› (map_atI ?_) ?_);(focus omega);((refine dm_ld hM ?_)))
       rw[hsk]
       have hem:=enter_meets hRu hpn hnn hne once priv hq
       have hkg:=keys_good hRu hpn hnn hne hnew2 once hq
       refine df_no hM (fun w hM2=>?_)
       refine mm_call hM2 (enter_ok (u.place by_) (u.place name) (secK (leafS once) (k+1)) priv (by omega) (by omega) hGT9 hM2.fz) ?_
       rw[hem]
       rintro H10 r w17 l10 hM9 ⟨hv,rfl,hG9⟩
       have hM:=hM9
       clear hM2 hM9
       obtain⟨A9,a9,B9,b9,R9,r9,S9,sa9,K9,k9,qs9,rfl,hGT10,-,-,-,hGK10⟩:=hG9
       (((refine dp_c trivial ?_;refine dp_c trivial ?_;refine dS_st hM ?_;clear hM;intro _ hM;refine mm_end hM ?_;clear hM;intro _ hM)))
       rw[hgc]at hM ⊢
       exact⟨rfl,H10,A9,a9,B9,b9,_,_,_,_,_,_,K9,k9,_,l9.trans l10,hGT10,hGK10,hkg,hM⟩
     intro hec
     (((refine mif_false ?_)))
     (((refine mop_cS trivial ?_ ?_)))
     ·intro hnb
      have hnb2:name≠by_:=fun e=>hnb (by rw[e])
      have hne:u.place name≠u.place by_:=fun e=>hnb2 (by rw[← plc_name hnj,← plc_name hsw7.by0,e])
      have hec2:name≠come:=fun e=>hec (by rw[e])
      obtain⟨K1,A1,c1,e1,s1,ku1,nf1,kl1⟩:=hold name hnj hntk hnb2 hec2
      obtain⟨TA3,ta3,TB3,tb3,tq3,he3,hS1,hS2,hS3⟩:=hGT8.ex
      cases he3
      have hgl:(grT u (u.place by_) once).ls.length=u.ls.length:=by
       have:((grT u (u.place by_) once).ls.length:Int)=u.ls.length:=hgsz
       omega
      have hix:(u.place by_).toNat<(grT u (u.place by_) once).ls.length:=by omega
      have hpub:(grT u (u.place by_) once).ls[(u.place by_).toNat].pub=pubK (leafS once) 0:=by
       have:=(pathG_self (u:=u) (pl:=u.place by_) ⟨hps.1,hps.2⟩ (pub:=pubK (leafS once) 0) (keys:=(pubsL (leafS once) ((dirL u.size (u.place by_)).length+1)).drop 1)).1
       unfold leafAt at this
       rw[List.getD_eq_getElem?_getD]at this
       have e2:(pathG u (u.place by_) (pubK (leafS once) 0) ((pubsL (leafS once) ((dirL u.size (u.place by_)).length+1)).drop 1))=grT u (u.place by_) once:=rfl
       rw[e2,List.getElem?_eq_getElem hix]at this
       exact this
      (((refine mif_true ?_;refine dm_ld hM ?_;refine dp_c trivial ?_;refine dp_c trivial ?_;refine dm_ld hM ?_));(refine dp_ixs ‹_› ?_ ?_ ?_);(focus (simp only[List.length_map];omega));(focus (simp only[List.length_map];first|done|omega));((intro _ _ hA));(cases hA);((refine dp_c trivial ?_));(refine dm_lds hM ‹_› (map_at ?_) ?_);(focus omega);((refine dp_c trivial ?_;refine dm_ld hM ?_;refine dp_c ?_ ?_));(focus omega))
      refine dm_lda hM e1 ?_
      rw[hpub]
      have hfw:=hfm name hnn hne K1 ku1 nf1
      have hkg:=keys_good hRu hpn hnn hne ku1 once rfl
      refine df_no hM (fun w hM2=>?_)
      refine mm_call hM2 (follow_ok (u.place by_) (pubK (leafS once) 0) g.rungs [97,98,111,117,116] fl (u.place name) K1 (by omega) (by omega) (by simp) hfl2 (by omega) kl1 hgw hU8 hF8 hGR8 hGR28 s1 hM2.fz) ?_
      rw[hfw]
      rintro H9 r w15 l9 hM9 ⟨hv,rfl,hG9⟩
      replace hM:=hM9
      clear hM2 hM9
      obtain⟨A9,a9,B9,b9,R9,r9,S9,sa9,K9,k9,qs9,rfl,hGT9,-,-,-,hGK9⟩:=hG9
      (((refine dp_c trivial ?_;refine dp_c trivial ?_;refine dS_st hM ?_;clear hM;intro _ hM;refine mm_end hM ?_;clear hM;intro _ hM)))
      exact⟨rfl,H9,A9,a9,B9,b9,_,_,_,_,_,_,K9,k9,_,l9,hGT9,hGK9,hkg,hM⟩
     intro hnb
     (((refine mif_false ?_)))
     have hnb2:name=by_:=by omega
     exact⟨rfl,H8,GA,ga,GB,gb,RA,g.rungs.length,ra,SA,g.secs.length,sa,KA,ka,g.keys,Le.refl _ _,hGT8,hGK8,by rw[hnb2];exact hgk,hM⟩
    clear hM
    rintro v u13 w13 ⟨rfl,H9,hA,ha,hB,hb,hR',hrn,hra,hS',hsn,hsa,hK',hka,KK,l9,hT9,hK9,hKd,hM⟩
    have hGT9:=hGT8.mono l9.le
    refine⟨fun v w'=>v=.bool false∧hM.now w',?_,?_⟩
    ·(((refine mop_cF trivial ?_ ?_));(focus (first|assumption|omega|with_reducible rfl|exact fun h=>Bool.noConfusion h));((refine mguard_yes ?_;refine mop_c trivial ?_;refine mguard_yes ?_;refine mm_ld hM ?_;refine mguard_yes ?_;refine mop_c trivial ?_;refine mguard_yes ?_;refine mm_ld hM ?_;refine mguard_yes ?_)))
     refine mm_pure hM (tsame_ok hT9 hGT9 hM.fz) (fun w hM=>?_)
     rw[decide_eq_true rfl]
     (((refine mguard_yes ?_;refine mop_c trivial ?_;refine mop_c trivial ?_;refine mguard_yes ?_;refine mop_c trivial ?_;refine mguard_yes ?_;refine mm_ld hM ?_;refine mguard_yes ?_;refine mop_c trivial ?_;refine mguard_yes ?_;refine mm_ld hM ?_;refine mguard_yes ?_)))
     refine mop_c trivial ?_
     rw[decide_eq_false (show ¬(g.com≠g.com) from fun h=>h rfl)]
     (((refine mop_c trivial ?_;refine mguard_yes ?_;refine mop_c trivial ?_;refine mguard_yes ?_;refine mm_ld hM ?_;refine mguard_yes ?_;refine mop_c trivial ?_;refine mguard_yes ?_;refine mop_c trivial ?_;refine mguard_yes ?_;refine mm_ld hM ?_;refine mguard_yes ?_)))
     refine mm_pure hM (has_ok (u.place name) KK hrtG ⟨hns.1,by rw[hgsz];exact hns.2⟩ hKd hGT9 hK9 hM.fz) (fun w hM=>?_)
     (((refine mguard_yes ?_;refine mop_c trivial ?_;refine mop_c trivial ?_)))
     exact⟨rfl,hM⟩
    rintro v u14 w14 ⟨rfl,hM⟩
    (((refine mif_false ?_;refine mop_c trivial ?_;refine mm_ld hM ?_;refine mop_c ?_ ?_));(focus omega);((refine mm_sta hM ?_ ?_));(focus omega);((clear hM;intro _ hM;refine mop_c ?_ ?_));(focus omega))
    have htk:nm.take (j+1)=nm.take j++[name]:=by rw[List.take_succ_eq_append_getElem hjn,hname]
    refine⟨⟨j+1,H9,ks8.set name.toNat (.slice hK' KK.length hka),rfl,by rw[Value.int.injEq];refine⟨rfl,?_⟩;push_cast;rfl,by omega,l8.trans l9,by rw[List.length_set];exact hk8,fun x hx=>?_,fun x h0 hx h1 h2=>?_,hM.sub⟩,by simp only;omega⟩
    ·rw[htk]at hx
     rcases List.mem_append.1 hx with hx|hx
     ·exact((hnew x hx).mono l9.le).set (plc_some (hmem x (List.mem_of_mem_take hx))).1 hn1 (fun e=>hntk (e ▸ hx))
     ·obtain rfl:=List.mem_singleton.1 hx
      exact⟨KK,hK',hka,by rw[List.getElem?_set_self (by omega)],hK9,by rw[(hgp _).1 hnj];exact hKd⟩
    ·rw[htk]at hx
     exact((hold x h0 (fun h=>hx (List.mem_append.2 (.inl h))) h1 h2).mono l9.le).set (plc_some h0).1 hn1 (fun e=>hx (List.mem_append.2 (.inr (by rw[e];exact List.mem_singleton.2 rfl))))
   ·intro hge
    obtain rfl:j=nm.length:=by omega
    rw[List.take_length]at hnew
    (((refine mif_false ?_;refine mop_c trivial ?_;refine mm_ld hM ?_;refine mm_st hM ?_;clear hM;intro _ hM)))
    refine⟨H8,grT u (u.place by_) once,ks8,GA,ga,GB,gb,l57.trans l8,⟨hrtG,⟨by_,by rw[(hgp by_).1 hsw7.by0];exact hsw7.by0⟩,fun x hx=>hsw7.few x ((hgp x).2 hx),fun x hx=>hnew x (hmem2 x ((hgp x).2 hx)),hk8⟩,hGT7.mono l8.le,hM.sub⟩
  ·rintro u3 w6 ⟨H5,t5,ks5,A5,a5,B5,b5,l5,hmn5,hT5,hM5⟩
   (((refine mop_c ?_ ?_));(focus omega))
   exact⟨⟨i+1,H5,t5,ks5,A5,a5,B5,b5,by rw[Value.int.injEq];refine⟨rfl,?_⟩;push_cast;rfl,by omega,l5,hmn5,hT5,hM5⟩,by simp only;omega⟩
 ·intro hge
  (((refine mif_false ?_)))
  exact⟨rfl,hM.st⟩
end
end Go.Proofs.YtpjodlnlmaaihaaGreat
namespace Go.Proofs.YtpjodlnlmaaihaaGreat
open Go.RowKit Go.Lib
theorem rdr_u16:Rdr Tryz.prog 44 1 (fun _ fs (x:Int)=>fs=[.one (.int .u16 x)]∧(Lit.int .u16 x).wf=true):=rdr_int Tryz.underlying44 (by kernel_rfl)
theorem rdr_am:Rdr Tryz.prog 46 4 (fun _ fs (x:Am)=>fs=x.fds∧x.good):=
 (rdr_struct (sz:=4) Tryz.underlying46 (by kernel_rfl) (Rdf.cons rdr_u8 rfl rfl rfl (Rdf.cons rdr_u8 rfl rfl rfl (Rdf.cons rdr_u8 rfl rfl rfl (Rdf.cons rdr_u16 rfl rfl rfl (Rdf.nil _)))))).map fun _ fs x _ h=>by
  obtain⟨g1,h1,rfl,_,⟨rfl,b1⟩,g2,h2,rfl,_,⟨rfl,b2⟩,g3,h3,rfl,_,⟨rfl,b3⟩,g4,h4,rfl,_,⟨rfl,b4⟩,rfl⟩:=h
  have:=bounds_u8 b1
  have:=bounds_u8 b2
  have:=bounds_u8 b3
  have:=bounds_u16 b4
  exact⟨⟨x.1,x.2.1,x.2.2.1,x.2.2.2.1⟩,rfl,⟨by simp only;omega,by simp only;omega,by simp only;omega,by simp only;omega⟩⟩
theorem rdr_ams:Rdr Tryz.prog 32 1 (fun H fs (xs:List Am)=>∃ A cap,fs=[.one (.slice A xs.length cap)]∧xs.length≤maxLen∧Sl H 4 A (xs.map Am.fds)∧∀ x∈xs,x.good):=
 (rdr_slice Tryz.underlying32 (by kernel_rfl) (by omega) rdr_am).map fun H fs xs _ ⟨A,cap,ps,h1,h2,h3,h4⟩=>by
  obtain⟨rfl,hg⟩:=All2.eq_map h4
  exact⟨xs,A,cap,h1,h2,h3,hg⟩
end Go.Proofs.YtpjodlnlmaaihaaGreat
namespace Go.Proofs.YtpjodlnlmaaihaaGreat
open Go.ChangeShapes Go.WideShapes Go.ChangeAt Go.RowKit
set_option linter.unusedVariables false
theorem fl_arr1 (n:Nat) (l:List Value):fl [.arr n l]=l:=by simp[fl,Fd.cells]
theorem own:ownKnob Tryz.prog.godebug=none:=by kernel_rfl
theorem laidOut:laidOutB Tryz.prog=true:=by kernel_rfl
set_option maxRecDepth 100000 in
theorem climbMeets_lifted (os:Os) (started:os.Started) (H:Type) (enc:TypeId × Value→H):
  ReturnsInHanded {} Tryz.checked os 4 .any (Rows.climbMeetsSpec.pre6 enc Tryz.prog Tryz.f4 Rows.climbMeetsRow.domain false) (Rows.climbMeetsSpec.post enc Tryz.prog Tryz.f4 false true false false):=by
 refine returnsInHanded_of_change (C:=Tryz.checked) own started (by kernel_rfl) Tryz.func4
  (ChangeSpec.witness6 (enc:=enc) (C:=Tryz.checked) false ⟨#[],#[.slice none 0 0],[]⟩ 8 (by kernel_rfl) (by kernel_rfl) (by kernel_rfl) (by kernel_rfl)) ?_
 intro W base args ds gs before hval0 hW hcnd _
 have hval:∀ (j:Nat) t v,Tryz.f4.params[j]?=some t→args[j]?=some v→Value.okWide Tryz.prog W .any base t v:=hval0
 have hW':=hW
 obtain⟨p,q,hA0,hV,rfl,hfz,hnd⟩:=hW
 have hA:DataW.TrodAll enc Tryz.prog W 0 (fun _=>true) true Tryz.f4.params.toList args.toList ds p:=hA0
 rw[Tryz.params4]at hA hval
 obtain⟨v0,vs0,d0,ds0,p0,q0,hargs,rfl,rfl,h0,r0⟩:=trodAll_cons hA
 obtain⟨rfl,rfl,rfl⟩:=trodAll_nil r0
 obtain rfl:args=#[v0]:=by cases args;simp_all
 obtain⟨rfl,rfl⟩:=trodVars_none hV
 have k0:=h0
 have lt0:∀ x∈p0,x.block<W.heap.size:=by obtain⟨m,hm⟩:=k0;exact DataW.trod_lt m _ _ _ hm
 obtain⟨m0,hm0⟩:=h0
 obtain⟨fs0,x0,e0,ok0,-,hr0⟩:=(rdr_ams).read enc W 0 _ _ m0 _ _ hm0
 obtain⟨K,kc,rfl,hkl,hK,hg⟩:=hr0
 obtain rfl:=arg_one (t:=32) (by kernel_rfl) (hval 0 32 v0 rfl rfl) e0
 clear hA0 hval0
 have hc:=climbMeets_ok (kc:=kc) x0 hkl hK hg (Fz.of W)
 refine hc.mono fun e W' ⟨he,hst⟩=>?_
 subst he
 have bel:Below W.heap.size W W':=hst.only.below (Nat.le_refl _) (fun _ _ h=>by obtain⟨_,hb,_⟩:=h;cases hb)
 exact⟨_,rfl,_,_,_,[],_,[],hW',trodAll_mk1 (shut_bool Tryz.underlying4 _),(trodAll_cons_mk (Below.trod laidOut (by kernel_rfl) (of_decide_eq_true (by kernel_rfl)) k0 bel lt0) trodAll_mk0),rfl,bel.frame _,fun h=>by cases h⟩
theorem climbMeets_proved:Rows.ClimbMeetsSaid:=
 OpenClaim.holds_of_wide 4 Tryz.f4 rfl rfl rfl rfl rfl rfl rfl ⟨rfl,rfl,rfl,rfl,rfl⟩ rfl rfl rfl rfl rfl (by kernel_rfl) Tryz.func4 (by kernel_rfl)
  (of_decide_eq_true (by kernel_rfl)) (by unfold Func.isWrapper;first|(rw[if_pos (by decide +kernel)];kernel_rfl)|(rw[if_neg (by decide +kernel)];exact⟨rfl,rfl⟩))
  (fun os started H enc _=>climbMeets_lifted os started H enc)
#print axioms climbMeets_proved
end Go.Proofs.YtpjodlnlmaaihaaGreat
