/- Part 7 of the proof. -/
import Derived.Test.YtpjodlnlmaaihaaGreatPn6
import Derived.Deep.OwnRows
import Derived.Laws.Cover3
import Derived.Shelf.Sort.Plain
import Derived.Shelf.Slices.In.SortNone
set_option linter.unusedVariables false
namespace Go.Proofs.YtpjodlnlmaaihaaGreat
open Go.RowKit
class BytC (P:Program) (t:TypeId) (e:outParam TypeId):Prop where
 ok:P.underlying t=some (.slice e)∧(P.info? e).map (fun i=>(i.zero,i.size,i.bytes))=some (some (.int .u8 0),1,1)
section
variable {P:Program} {H:Hp} {w0 w:World} {L R R1:List Res} {g n c cap:Nat} {t t' e:TypeId} {K:Value→World→Prop} {X:List PanicEntry→World→Prop} {A:Option Addr} {fs:List Fd} {put:Res→List Res}
theorem made_bytes (n:Nat):madeCells #[Value.int .u8 0] n=(u8s (List.replicate n 0)).toArray:=by
 unfold madeCells u8s
 apply Array.ext'
 simp only[Array.toList_map,Array.toList_range,List.map_replicate]
 refine List.ext_getElem (by simp) fun i h1 h2=>?_
 simp[Nat.mod_one]
theorem mm_mkb (h:Mem H w0 L w) [b:BytC P t e] (hn:n≤16777216) (hk:∀ g w',Mem H w0 (rowR e 1 (some ⟨g,0,none⟩) n n (byts (List.replicate n 0))::L) w'→K (.slice (some ⟨g,0,none⟩) n n) w'):mop P (o_makeSlice t (.int .i64 n) (.int .i64 n)) w K X:=by
 have hr:=run_make_row' (P:=P) t e (.int .u8 0) 1 b.ok.1 b.ok.2 rfl .i64 .i64 n (by omega) (by omega) w
 rw[made_bytes]at hr
 refine mop_run (w':=w.alloc (.cells (u8s (List.replicate n 0)).toArray e)) (u:=.slice (some ⟨w.heap.size,0,none⟩) n n) ?_ (hk _ _ ?_)
 ·simp only[o_makeSlice,sv,Sem.run_bind,hr,Result.andThen_ok]
  rfl
 obtain⟨B,hl,hs,hb⟩:=h.own
 have hf:fls (byts (List.replicate n 0))=u8s (List.replicate n 0):=fls_byts _
 rw[← hf]
 refine⟨⟨⟨w.heap.size,e,fls (byts (List.replicate n 0)),true⟩::B,⟨[⟨w.heap.size,e,fls (byts (List.replicate n 0)),true⟩],B,rfl,⟨els_byts _,by rw[byts_length,List.length_replicate],.inr ⟨w.heap.size,[],rfl,by simp,by rw[List.append_nil,hf];simp[u8s],Nat.le_refl _,?_⟩⟩,hl⟩,hs.alloc e _,fun b hm=>?_⟩,h.fz.ext ((Only.refl _ w).alloc _)⟩
 ·exact Nat.le_trans hn (by decide)
 ·rcases List.mem_cons.1 hm with rfl|hm
  ·refine⟨rfl,?_⟩
   cases hh:H w.heap.size with
   | none=>rfl
   | some c=>have:=h.fz.lt hh;omega
  ·exact hb b hm
theorem mm_cps {sT ty:TypeId} {ks:List Bool} {l:List Int} {s:ByteArray} (h:Mem H w0 L w) [b:BytC P t e] [a:AtR L (some ⟨g,0,none⟩) n cap e 1 (byts l) R1] (hs:s.size=n)
  (hk:∀ w',Mem H w0 (rowR e 1 (some ⟨g,0,none⟩) n cap (byts (ints s))::R1) w'→K (.int .i64 n) w'):mop P (o_builtin .copy #[t,sT] ty ks [.slice (some ⟨g,0,none⟩) n cap,.string s]) w K X:=by
 obtain⟨B,⟨B1,B2,rfl,⟨h1,h2,h3⟩,h4⟩,hs',hb⟩:=(h.perm a.perm).own
 obtain⟨ht,hi⟩:=b.ok
 have he:(P.info? e).map (·.size)=some 1:=by
  obtain⟨i,hi,hz⟩:=Option.map_eq_some_iff.1 hi
  simp only[Prod.mk.injEq]at hz
  simp[hi,hz.2.1]
 rcases h3 with ⟨hA,_⟩|⟨g',sp,hA,rfl,h8,h9,h10⟩
 ·cases hA
 ·cases hA
  have hs':St w0 (⟨g,e,fls (byts l)++sp,true⟩::B2) w:=hs'
  have hll:l.length=n:=by rw[← h2,byts_length]
  have hfl:(fls (byts l)).length=n:=by rw[fls_byts];simp[u8s,hll]
  have hil:(u8s (ints s)).length=n:=by simp[u8s,ints_length,hs]
  have hst:=run_storeCells_blf (P:=P) 0 (u8s (ints s)) 0 (fls (byts l)++sp) w hs'.head (by rw[List.length_append];omega) (u8s_one _)
  have hlay:lay (fls (byts l)++sp) (u8s (ints s)) 0=fls (byts (ints s))++sp:=by
   unfold lay
   rw[List.take_zero,List.nil_append,Nat.zero_add,hil,← hfl,List.drop_left' rfl,fls_byts]
  have hl2:(fls (byts (ints s))++sp).length=(fls (byts l)++sp).length:=by
   rw[fls_byts,List.length_append,List.length_append,hil,hfl]
  rw[Nat.add_zero,hlay]at hst
  have hg:=hb ⟨g,e,fls (byts l)++sp,true⟩ (by simp)
  refine mop_run (w':=w.setRow g (fls (byts (ints s))++sp).toArray) (u:=.int .i64 n) ?_ (hk _ ?_)
  ·have hx:List.take n (List.map (fun b:UInt8=>Value.int IntKind.u8 b.toNat) s.data.toList)=u8s (ints s):=by
    rw[List.take_of_length_le (by rw[List.length_map];show s.size≤n;omega)]
    simp only[u8s,ints,List.map_map]
    rfl
   have hmin:Nat.min n n=n:=Nat.min_self n
   simp[o_builtin,invoke,builtin,Builtin.copy_,run_underlying ht,Builtin.lenOf,run_size he,Builtin.firstCells,goInt,hs,hmin]
   rw[hx,hst]
   rfl
  ·refine⟨⟨⟨g,e,fls (byts (ints s))++sp,true⟩::B2,⟨[_],B2,rfl,⟨els_byts _,by rw[byts_length,ints_length,hs],.inr ⟨g,sp,rfl,rfl,by rw[hl2];exact h8,h9,h10⟩⟩,h4⟩,hs'.setRow hl2,fun b hm=>?_⟩,h.fz.same fun b c hc=>setRow_other w g b _ ?_⟩
   ·rcases List.mem_cons.1 hm with rfl|hm
    ·exact⟨rfl,hg.2⟩
    ·exact hb b (List.mem_append.2 (.inr hm))
   ·rintro rfl
    have:=hg.2
    simp only[hc]at this
    cases this
theorem mm_cvp {s d:TypeId} {l:List Int} {i k:Nat} (h:Mem H w0 L w) [st:StrC P s d] [kk:AtB L g t' fs put] [q:Sub fs i n [.arr n (u8s l)]] (hn:k≤n) (hk:K (.string (strOfNums (l.take k))) w):mop P (o_conv s d (.slice (some ⟨g,i,none⟩) k c)) w K X:=by
 obtain⟨h1,h2⟩:=h.bytesF kk q
 refine mop_purW (pw_str st (by rw[List.length_take];omega) fun j u hu=>h2 j u ?_) hk
 have hj:j<k:=by have:=(List.getElem?_eq_some_iff.1 hu).1;simp[u8s]at this;omega
 rw[show u8s (l.take k)=(u8s l).take k by simp[u8s,List.map_take],List.getElem?_take]at hu
 simpa [hj] using hu
theorem dm_stz {R1:List Res} {g k m n cap e sz:Nat} {tt:TypeId} {q:Bool} {v:Value} {fs gs fs':List Fd} {ps:List (List Fd)} {K:Value→World→Prop} (h:Mem H w0 L w) [c:ShpC P tt q m] [a:AtA L (some ⟨g,0,none⟩) n cap e sz ps R1] (hk:ps[k]?=some fs) [f:Vf v m gs] [p:Put fs 0 gs fs'] (hK:∀ w',Mem H w0 (rowR e sz (some ⟨g,0,none⟩) n cap (ps.set k fs')::R1) w'→K undef w'):df P w (o_store tt (.pointer (some ⟨g,0+k*sz,none⟩)) v) false K:=dm_stf (off:=0) h hk hK
theorem dp_ixp {P:Program} {t:TypeId} {b o n cap sz:Nat} {ii:Int} {kk:IntKind} {Kq:Value→Prop} [c:SliS P t sz] (hi:0≤ii∧ii<n) (hk:Kq (.pointer (some ⟨b,o+ii.toNat*sz,none⟩))):dp P (o_indexAddr t (.slice (some ⟨b,o,none⟩) n cap) (.int kk ii)) Kq:=dp_pur (p_indexAddr_slice t b o n cap kk ii sz c.ok.1 c.ok.2 hi.1 hi.2) hk
theorem drop_at {α:Type} {T S:List α} {m p:Nat} (h:T.drop m=S.drop m) (hp:m≤p):T[p]?=S[p]?:=by
 have:=congrArg (·[p - m]?) h
 simp only[List.getElem?_drop]at this
 rwa [Nat.add_sub_cancel' hp]at this
end
end Go.Proofs.YtpjodlnlmaaihaaGreat
namespace Go.Proofs.YtpjodlnlmaaihaaGreat
open Go.RowKit Go.Lib
instance:FunC Tryz.prog 69:=⟨by kernel_rfl⟩
instance:FunC Tryz.prog 71:=⟨by kernel_rfl⟩
section
variable {H:Hp} {w0 w:World} {L R:List Res} {A B:Option Addr} {a c n m:Nat}
theorem sorted1_ok (x y:Ky) (w:World):Calls Tryz.prog 69 #[.agg (fl x.fds).toArray,.agg (fl y.fds).toArray] w fun en w'=>en=.returned (.int .i64 (cvK x y))∧St w [] w':=by
 have hM:=Mem.start (Fz.of w)
 have h1:=x.ok
 have h2:=y.ok
 refine C_climb_sorted_1 ?_
 unfold F_climb_sorted_1
 (((refine mm_box hM ?_;clear hM;intro _ _ hM;refine mm_box hM ?_;clear hM;intro _ _ hM;refine mop_c trivial ?_;refine mm_ld hM ?_;refine mop_c trivial ?_;refine mm_ld hM ?_;refine mop_c ?_ ?_));(focus omega))
 exact⟨rfl,hM.st⟩
instance (x y:Ky):PurC Tryz.prog 69 [.agg (fl x.fds).toArray,.agg (fl y.fds).toArray] True (.int .i64 (cvK x y)):=⟨fun _ w=>sorted1_ok x y w⟩
theorem sorted2_ok (x y:Ky) (w:World):Calls Tryz.prog 71 #[.agg (fl x.fds).toArray,.agg (fl y.fds).toArray] w fun en w'=>en=.returned (.bool (decide (x.node=y.node)))∧St w [] w':=by
 have hM:=Mem.start (Fz.of w)
 refine C_climb_sorted_2 ?_
 unfold F_climb_sorted_2
 (((refine mm_box hM ?_;clear hM;intro _ _ hM;refine mm_box hM ?_;clear hM;intro _ _ hM;refine mop_c trivial ?_;refine mm_ld hM ?_;refine mop_c trivial ?_;refine mm_ld hM ?_)))
 exact⟨rfl,hM.st⟩
instance (x y:Ky):PurC Tryz.prog 71 [.agg (fl x.fds).toArray,.agg (fl y.fds).toArray] True (.bool (decide (x.node=y.node))):=⟨fun _ w=>sorted2_ok x y w⟩
theorem cloneKy_ok {ps:List (List Fd)} (hs:Sl (Hp.of w) 33 A ps) (hn:n=ps.length) (hb:n≤100000) (hM:Mem H w0 L w):Calls Tryz.prog 67 #[.slice A n a] w fun en w'=>∃ v,en=.returned v∧∃ A' a',v=.slice A' n a'∧Mem H w0 (rowR 43 33 A' n a' ps::L) w':=by
 refine C_slices_Clone_api_Key_api_Key ?_
 unfold F_slices_Clone_api_Key_api_Key
 refine clone_gen (P:=Tryz.prog) (t:=26) (R:=fun en w'=>∃ v,en=.returned v∧∃ A' a',v=.slice A' n a'∧Mem H w0 (rowR 43 33 A' n a' ps::L) w') hs hn hM ?_ (fun A' a' w' hx hM=>⟨_,rfl,_,_,rfl,hM⟩)
 omega
theorem foldK_len {α:Type} {lt:α→α→Bool}:∀ (l acc:List α),(l.foldl (fun acc x=>insB lt x acc) acc).length=acc.length+l.length
 | [],acc=>by simp
 | p::r,acc=>by
  rw[List.foldl_cons,foldK_len r,(insB_perm p acc).length_eq,List.length_cons,List.length_cons]
  omega
theorem srtK_len {α:Type} {lt:α→α→Bool} (l:List α):(srtB lt l).length=l.length:=by
 unfold srtB
 rw[foldK_len]
 simp
theorem set_take {α:Type} {T:List α} {k:Nat} {x:α} (h:k<T.length):(T.set k x).take (k+1)=T.take k++[x]:=by
 rw[List.set_eq_take_append_cons_drop,if_pos h,List.take_append,List.length_take,Nat.min_eq_left (by omega),List.take_of_length_le (by rw[List.length_take];omega),Nat.add_sub_cancel_left]
 rfl
theorem cpt_ok (S:List Ky) (hn:n=S.length) (hl:n≤1000000) (hM:Mem H w0 (rowR 43 33 A n c (S.map Ky.fds)::R) w):
  Calls Tryz.prog 70 #[.slice A n c,fv 71] w fun en w'=>∃ v,en=.returned v∧v=.slice A (cptL Ky.node S).length c∧Mem H w0 (rowR 43 33 A (cptL Ky.node S).length c ((cptL Ky.node S).map Ky.fds)::R) w':=by
 refine C_slices_CompactFunc_api_Key_api_Key ?_
 unfold F_slices_CompactFunc_api_Key_api_Key
 have hcp:=(Mem.rowLen (A:=A) hM ⟨.refl _⟩).2.1
 (((refine mop_c trivial ?_)))
 (((refine mop_cS trivial ?_ ?_)))
 ·intro h2
  (((refine mif_true ?_)))
  have e:cptL Ky.node S=S:=by
   match S,hn with
   | [],_=>rfl
   | [x],_=>rfl
   | _::_::_,hn=>simp only[List.length_cons]at hn;omega
  rw[e,← hn]
  exact⟨_,rfl,rfl,hM⟩
 intro h2
 (((refine mif_false ?_)))
 obtain⟨g,rfl⟩:=hM.rowAt (n:=n) ⟨.refl _⟩ (by omega)
 refine⟨fun v w'=>∃ i:Nat,v=.int .i64 i∧1≤i∧i≤n∧(∀ (j:Nat) (hj:j<S.length),0<j→j<i→Ky.node (S[j - 1]'(by omega))≠Ky.node S[j])∧Mem H w0 (rowR 43 33 (some ⟨g,0,none⟩) n c (S.map Ky.fds)::R) w',fun v _=>match v with | .int _ k=>n - k.toNat|_=>0,⟨1,rfl,by omega,by omega,fun j hj h0 h1=>by omega,hM⟩,?_⟩
 clear hM
 rintro v u w1 ⟨i,rfl,hi1,hi2,hne,hM⟩
 (((refine mop_c trivial ?_)))
 (((refine mop_cS trivial ?_ ?_)))
 ·intro hlt
  have hil:i<S.length:=by omega
  have ht1:((i:Int) - 1).toNat=i - 1:=by omega
  have hk:decide (S[i].node=(S[((i:Int) - 1).toNat]'(by omega)).node)=decide (S[i].node=(S[i - 1]'(by omega)).node):=by simp only[ht1]
  (((refine mif_true ?_;refine dp_ixr hM ?_ ?_));(focus omega);((intro _ hA));(cases hA);((refine dm_ldr0 hM (map_atI ?_) ?_));(focus omega);((refine dp_c ?_ ?_));(focus omega);((refine dp_ixr hM ?_ ?_));(focus omega);((intro _ hA));(cases hA);((refine dm_ldr0 hM (map_at ?_) ?_));(focus omega);((refine dm_purC hM ?_ (fun _ _ hM=>?_)));(focus (first|exact trivial|assumption|omega));((refine mm_end hM ?_;clear hM;intro _ hM)))
  rw[hk]
  by_cases hq:S[i].node=(S[i - 1]'(by omega)).node
  ·rw[decide_eq_true hq]
   have hall:=cptL_all (key:=Ky.node) (S:=S) (i:=i) (by omega) (fun j hj h0 h1=>hne j hj h0 (by omega))
   have hnx:=cptL_take (key:=Ky.node) (S:=S) (i:=i) (by omega) hil
   rw[if_pos hq.symm,List.append_nil,hall]at hnx
   (((refine mif_true ?_;refine mop_c ?_ ?_));(focus omega))
   refine⟨fun v v2 w'=>∃ (j k:Nat) (T:List Ky),v=.int .i64 k∧v2=.int .i64 j∧1≤j∧i+j≤n∧k=(cptL Ky.node (S.take (i+j))).length∧k+1≤i+j∧T.length=n∧T.take k=cptL Ky.node (S.take (i+j))∧T.drop (i+j - 1)=S.drop (i+j - 1)∧Mem H w0 (rowR 43 33 (some ⟨g,0,none⟩) n c (T.map Ky.fds)::R) w',fun _ v _=>match v with | .int _ k=>n - k.toNat|_=>0,⟨1,i,S,rfl,rfl,by omega,by omega,by rw[hnx,List.length_take];omega,by omega,hn.symm,by rw[hnx],rfl,hM⟩,?_⟩
   clear hM
   rintro v v2 u2 w2 ⟨j,k,T,rfl,rfl,hj1,hj2,hk1,hk2,hTl,hT1,hT2,hM⟩
   (((refine mop_c trivial ?_)))
   (((refine mop_cS trivial ?_ ?_)))
   ·intro hjl
    have hij:i+j<S.length:=by omega
    have a1:(T.map Ky.fds)[i+j]?=some (S[i+j]).fds:=by
     rw[List.getElem?_map,drop_at hT2 (by omega),List.getElem?_eq_getElem hij]
     rfl
    have a2:(T.map Ky.fds)[i+j - 1]?=some (S[i+j - 1]'(by omega)).fds:=by
     rw[List.getElem?_map,drop_at hT2 (by omega),List.getElem?_eq_getElem (by omega)]
     rfl
    have hst:=cptL_take (key:=Ky.node) (S:=S) (i:=i+j) (by omega) hij
    have hT3:T.drop (i+j)=S.drop (i+j):=by
     have:=congrArg (List.drop 1) hT2
     rw[List.drop_drop,List.drop_drop,show i+j - 1+1=i+j by omega]at this
     exact this
    have hkl2:k≤i+j - 1:=by omega
    (((refine mif_true ?_)))
    refine⟨fun x w'=>∃ (k':Nat) (T':List Ky),x=.int .i64 k'∧k'=(cptL Ky.node (S.take (i+j+1))).length∧k'≤i+j∧T'.length=n∧T'.take k'=cptL Ky.node (S.take (i+j+1))∧T'.drop (i+j)=S.drop (i+j)∧Mem H w0 (rowR 43 33 (some ⟨g,0,none⟩) n c (T'.map Ky.fds)::R) w',?_,?_⟩
    ·refine dp_ixp (by omega) ?_
     rw[show 0+((i:Int)).toNat*33+((j:Int)).toNat*33=0+(i+j)*33 by omega]
     refine dm_ldr0 hM a1 ?_
     (((refine dp_c ?_ ?_));(focus omega);((refine dp_c ?_ ?_));(focus omega))
     rw[show 0+((i:Int)).toNat*33+((j:Int) - 1).toNat*33=0+(i+j - 1)*33 by omega]
     refine dm_ldr0 hM a2 ?_
     by_cases hq2:(S[i+j]).node=(S[i+j - 1]'(by omega)).node
     ·rw[if_pos hq2.symm,List.append_nil]at hst
      (((refine dm_purC hM ?_ (fun _ _ hM=>?_)));(focus (first|exact trivial|assumption|omega));((refine dp_c trivial ?_;refine mm_end hM ?_;clear hM;intro _ hM)))
      rw[decide_eq_true hq2]
      simp only[Bool.not_true]
      (((refine mif_false ?_)))
      exact⟨k,T,rfl,by rw[hst,hk1],by omega,hTl,by rw[hst,hT1],hT3,hM⟩
     ·rw[if_neg (fun h=>hq2 h.symm)]at hst
      (((refine dm_purC hM ?_ (fun _ _ hM=>?_)));(focus (first|exact trivial|assumption|omega));((refine dp_c trivial ?_;refine mm_end hM ?_;clear hM;intro _ hM)))
      rw[decide_eq_false hq2]
      simp only[Bool.not_false]
      (((refine mif_true ?_;refine mop_c ?_ ?_));(focus omega))
      rw[show 0+((i:Int)).toNat*33+((j:Int)).toNat*33=0+(i+j)*33 by omega]
      refine mm_ldr0 hM a1 ?_
      (((refine mm_ixr hM ?_ ?_));(focus omega);((intro _ hA));(cases hA);((refine mm_str hM ?_ ?_));(focus omega);((clear hM;intro _ hM;refine mop_c ?_ ?_));(focus omega))
      have e5:(T.map Ky.fds).set ((k:Int)).toNat (S[i+j]).fds=(T.set k S[i+j]).map Ky.fds:=by
       rw[Int.toNat_natCast]
       exact(List.map_set (f:=Ky.fds)).symm
      have hM:Mem H w0 (rowR 43 33 (some ⟨g,0,none⟩) n c ((T.map Ky.fds).set ((k:Int)).toNat (S[i+j]).fds)::R) _:=hM
      rw[e5]at hM
      refine⟨k+1,T.set k S[i+j],by rw[Value.int.injEq];refine⟨rfl,?_⟩;push_cast;rfl,by rw[hst,List.length_append,List.length_singleton,hk1],by omega,by rw[List.length_set,hTl],?_,?_,hM⟩
      ·rw[hst,← hT1,set_take (by omega)]
      ·rw[List.drop_set_of_lt (by omega),hT3]
    clear hM
    rintro v u4 w4 ⟨k',T',rfl,hk1',hk2',hTl',hT1',hT2',hM⟩
    (((refine mop_c ?_ ?_));(focus omega))
    exact⟨⟨j+1,k',T',rfl,by rw[Value.int.injEq];refine⟨rfl,?_⟩;push_cast;rfl,by omega,by omega,hk1',by omega,hTl',hT1',hT2',hM⟩,by simp only;omega⟩
   ·intro hjg
    obtain rfl:j=n - i:=by omega
    have e0:i+(n - i)=S.length:=by omega
    rw[e0,List.take_length]at hk1 hT1
    (((refine mif_false ?_;refine mop_c ?_ ?_));(focus omega))
    rw[Int.toNat_natCast]
    refine mm_clear hM (by omega) ?_
    clear hM
    intro w4 hM
    rw[← List.map_take,hT1]at hM
    (((refine mop_c ?_ ?_));(focus omega))
    rw[hk1]at hM
    rw[Int.toNat_natCast,hk1]
    exact⟨_,rfl,rfl,hM⟩
  ·rw[decide_eq_false hq]
   (((refine mif_false ?_;refine mop_c ?_ ?_));(focus omega))
   refine⟨⟨i+1,by rw[Value.int.injEq];refine⟨rfl,?_⟩;push_cast;rfl,by omega,by omega,fun j hj h0 h1=>?_,hM⟩,by simp only;omega⟩
   by_cases e:j=i
   ·subst e
    exact fun h=>hq h.symm
   ·exact hne j hj h0 (by omega)
 ·intro hge
  obtain rfl:i=n:=by omega
  (((refine mif_false ?_)))
  have e:cptL Ky.node S=S:=by
   have:=cptL_all (key:=Ky.node) (S:=S) (i:=S.length) (by omega) (fun j hj h0 h1=>hne j hj h0 (by omega))
   rwa [List.take_length]at this
  rw[e,← hn]
  exact⟨_,rfl,rfl,hM⟩
theorem sorted_ok (l:List Ky) (hn:n=l.length) (hl:n≤100000) (hs:Sl (Hp.of w) 33 A (l.map Ky.fds)) (hM:Mem H w0 L w):
  Calls Tryz.prog 26 #[.slice A n a] w fun en w'=>∃ v,en=.returned v∧∃ A' c',v=.slice A' (sortedK l).length c'∧Mem H w0 (rowR 43 33 A' (sortedK l).length c' ((sortedK l).map Ky.fds)::L) w':=by
 refine C_climb_sorted ?_
 unfold F_climb_sorted
 skip
 refine mm_own (cloneKy_ok hs (by rw[List.length_map,hn]) (by omega) hM) ?_
 clear hM
 rintro v w2 ⟨C,cc,rfl,hM⟩
 skip
 subst hn
 refine mm_own (sortSK_ok (cv:=cvK) cvK_sw l (by omega) hM) ?_
 clear hM
 rintro v w3 ⟨rfl,hM⟩
 skip
 refine mm_own (cpt_ok (srtB (ltK cvK) l) (srtK_len l).symm (by omega) hM) ?_
 clear hM
 rintro v w4 ⟨rfl,hM⟩
 skip
 have e:=sortedK_eq l
 have hM:Mem H w0 (rowR 43 33 C (cptL Ky.node (srtB (fun a b:Ky=>decide (cvK a b<0)) l)).length cc ((cptL Ky.node (srtB (fun a b:Ky=>decide (cvK a b<0)) l)).map Ky.fds)::L) _:=hM
 rw[e]at hM
 exact⟨_,rfl,C,cc,by rw[← e],hM⟩
end
end Go.Proofs.YtpjodlnlmaaihaaGreat
namespace Go.Proofs.YtpjodlnlmaaihaaGreat
open Go.RowKit
theorem Mem.fzb {H:Hp} {w0 w:World} {L:List Res} {g:Nat} {t:TypeId} {fs:List Fd} (h:Mem H w0 (fb g t fs::L) w):∃ H',Le w0 H H'∧Mem H' w0 L w∧FbF H' g fs:=by
 obtain⟨B,⟨B1,B2,rfl,⟨hf,rfl⟩,h4⟩,hs,hb⟩:=h.own
 have hs:St w0 (⟨g,t,fl fs,true⟩::B2) w:=hs
 have hg:=hb ⟨g,t,fl fs,true⟩ (by simp)
 have hne:=(List.pairwise_cons.1 hs.ne).1
 refine⟨hadd H g (fl fs),⟨hadd_le hg.2,fun b hb1 hc=>?_⟩,⟨⟨B2,h4,hs.drop,fun b hm=>⟨(hb b (List.mem_append.2 (.inr hm))).1,?_⟩⟩,h.fz.hadd hs.head⟩,FbF.add hf⟩
 ·unfold hadd
  rw[if_neg]
  ·exact hc
  ·rintro rfl
   have:=hs.new _ (List.mem_cons_self ..) rfl
   simp only at this
   omega
 ·unfold hadd
  rw[if_neg]
  ·exact(hb b (List.mem_append.2 (.inr hm))).2
  ·intro e
   exact hne b hm e.symm
end Go.Proofs.YtpjodlnlmaaihaaGreat
namespace Go.Proofs.YtpjodlnlmaaihaaGreat
open Go.RowKit Go.Lib
section
variable {H:Hp} {w0 w:World} {L R:List Res} {A B K:Option Addr} {a c n m kc:Nat} {t:Tr} {v:Value}
theorem cpub_ok (x:Int) (hx:0≤x∧x≤2*t.size - 2) (hR:t.Rt) (h:TrF H v t) (hf:Fz H w):Calls Tryz.prog 25 #[v,.int .i64 x] w fun en w'=>en=.returned (.tuple #[ha (pubAt t x).1,.bool (pubAt t x).2])∧St w [] w':=by
 obtain⟨A,a,B,b,q,rfl,h1,h2,h3⟩:=h.ex
 have hM:=Mem.start hf
 have hlen:=hR.len
 have hts:t.size=t.ls.length:=rfl
 have hq:q.length=t.ps.length:=h3.len
 refine C_climb_pub ?_
 unfold F_climb_pub
 unfold pubAt
 by_cases he:x%2=0
 ·have hix:(x / 2).toNat<t.ls.length:=by omega
  have hla:leafAt t (x / 2)=t.ls[(x / 2).toNat]:=by
   unfold leafAt
   rw[List.getD_eq_getElem?_getD,List.getElem?_eq_getElem hix]
   rfl
  rw[if_pos he,hla]
  (((refine mm_box hM ?_;clear hM;intro _ _ hM;refine mm_new hM ?_;clear hM;intro _ _ hM;refine mop_c ?_ ?_));(focus omega);((refine mop_cT trivial ?_ ?_));(focus (first|assumption|omega|with_reducible rfl|exact fun h=>Bool.noConfusion h));((refine mif_true ?_)))
  rename_i g1 _ g2 _
  have hM9:Mem H w (fb g1 25 (tfd A t.ls.length a B t.ps.length b)::[fb g2 34 [.arr 32 (u8s hzero.1)]]) _:=hM.same
  clear hM
  obtain⟨H',le',hM,hB⟩:=hM9.fzb
  refine⟨Rl.fz H',?_⟩
  have hF:=hM.fz
  have hn:=hM.free (g:=g2)
  have k1:=h1.mono le'.le
  have k2:=h2.mono le'.le
  (((refine dp_c trivial ?_));(refine dK_ldf ‹_› ‹_› ?_);((refine dp_c ?_ ?_));(focus omega);(refine dp_ixs ‹_› ?_ ?_ ?_);(focus (simp only[List.length_map];omega));(focus (simp only[List.length_map];first|done|omega));((intro _ _ hA));(cases hA);((refine dp_c trivial ?_)))
  refine dK_lds hF k1 (map_at hix) ?_
  (((refine dp_c trivial ?_));(refine dK_ldf ‹_› ‹_› ?_);((refine dp_c ?_ ?_));(focus omega);(refine dp_ixs ‹_› ?_ ?_ ?_);(focus (simp only[List.length_map];omega));(focus (simp only[List.length_map];first|done|omega));((intro _ _ hA));(cases hA);((refine dp_c trivial ?_)))
  refine dK_lds hF k1 (map_at hix) ?_
  refine dp_c trivial ?_
  refine dK_st hM hF hn ?_
  clear hM
  intro w4 hM hF
  (((refine mm_end hM ?_;clear hM;intro _ hM;refine rm_ld hM ?_)))
  exact⟨rfl,hM.st⟩
 ·have hix:(x / 2).toNat<t.ps.length:=by omega
  obtain⟨q,hq1,C,c,rfl,hC,hcl⟩:=h3.at_ (i:=(x / 2).toNat) hix
  obtain⟨p,hpe⟩:∃ p,t.ps[(x / 2).toNat]=p:=⟨_,rfl⟩
  have hpa:parAt t (x / 2)=p:=by
   unfold parAt
   rw[List.getD_eq_getElem?_getD,List.getElem?_eq_getElem hix,hpe]
   rfl
  rw[if_neg he,hpa]
  rw[hpe]at hq1
  (((refine mm_box hM ?_;clear hM;intro _ _ hM;refine mm_new hM ?_;clear hM;intro _ _ hM;refine mop_c ?_ ?_));(focus omega);((refine mop_cF trivial ?_ ?_));(focus (first|assumption|omega|with_reducible rfl|exact fun h=>Bool.noConfusion h));((refine mif_false ?_)))
  rename_i g1 _ g2 _
  have hM9:Mem H w (fb g1 25 (tfd A t.ls.length a B t.ps.length b)::[fb g2 34 [.arr 32 (u8s hzero.1)]]) _:=hM.same
  clear hM
  obtain⟨H',le',hM,hB⟩:=hM9.fzb
  refine⟨Rl.fz H',?_⟩
  have hF:=hM.fz
  have hn:=hM.free (g:=g2)
  have k1:=h1.mono le'.le
  have k2:=h2.mono le'.le
  (((refine dp_c trivial ?_));(refine dK_ldf ‹_› ‹_› ?_);((refine dp_c ?_ ?_));(focus omega))
  refine dp_ixs k2 (by omega) hq.symm (fun bb oo hB=>?_)
  cases hB
  (((refine dp_c trivial ?_)))
  refine dK_lds hF k2 hq1 ?_
  (((refine dp_c trivial ?_));(refine dK_ldf ‹_› ‹_› ?_);((refine dp_c ?_ ?_));(focus omega);((refine dp_c ?_ ?_));(focus omega);((refine dp_c trivial ?_)))
  refine dK_lds hF k2 hq1 ?_
  refine dK_st hM hF hn ?_
  clear hM
  intro w4 hM hF
  (((refine mm_end hM ?_;clear hM;intro _ hM;refine rm_ld hM ?_)))
  exact⟨rfl,hM.st⟩
theorem keep_ok (l:List Kr) (hl:l.length≤1000) (h:TrF H v t) (hs:Sl H 33 K (l.map Kr.fds)) (hf:Fz H w):
  Calls Tryz.prog 8 #[v,.slice K l.length kc] w (Outp H w fun H' r=>∃ K2 kc2,r=.slice K2 (keepT t l).length kc2∧Sl H' 33 K2 ((keepT t l).map Ky.fds)):=by
 obtain⟨w1,hw1⟩:∃ w1,w1=w:=⟨_,rfl⟩
 rw[← hw1]
 rw[← hw1]at hf
 have hM:=Mem.start hf
 have hx:=h.ex
 obtain⟨TA,ta,TB,tb,tq,rfl,-⟩:=hx
 refine C_climb_Keep ?_
 unfold F_climb_Keep
 (((refine mm_box hM ?_;clear hM;intro _ _ hM;refine mm_ld hM ?_)))
 refine mm_pure hM (right_c h hM.fz) (fun w hM=>?_)
 cases hr:t.right
 ·(((refine mop_c trivial ?_;refine mif_true ?_)))
  refine hM.out (Le.refl _ _) ⟨none,0,?_,?_⟩
  ·unfold keepT
   rw[hr]
   rfl
  ·unfold keepT
   rw[hr]
   exact Sl.nil _ _ _
 have hR:=Tr.rt.1 hr
 have hlen:=hR.len
 have hts:t.size=t.ls.length:=rfl
 have hkt:keepT t l=sortedK (keepL t l):=if_pos hr
 rw[hkt]
 (((refine mop_c trivial ?_;refine mif_false ?_;refine mop_c trivial ?_)))
 rename_i g1 _ _
 have h0:Mem H w1 (rowR 43 33 none 0 0 ((keepL t (l.take 0)).map Ky.fds)::_) _:=hM.row0 43 33
 refine⟨fun v u w'=>∃ (i:Nat) (K2:Option Addr) (kc2:Nat),v=.slice K2 (keepL t (l.take i)).length kc2∧u=.int .i64 i∧i≤l.length∧Mem H w1 [rowR 43 33 K2 (keepL t (l.take i)).length kc2 ((keepL t (l.take i)).map Ky.fds),fb g1 25 (tfd TA t.ls.length ta TB t.ps.length tb)] w',fun _ u _=>match u with | .int _ k=>l.length - k.toNat|_=>0,⟨0,none,0,rfl,rfl,by omega,h0⟩,?_⟩
 clear hM h0
 rintro v u u4 w4 ⟨i,K2,kc2,rfl,rfl,hi,hM⟩
 have hkl:(keepL t (l.take i)).length≤1000:=by
  have:=List.length_filterMap_le (keep1 t) (l.take i)
  rw[List.length_take]at this
  show(List.filterMap _ _).length≤_
  omega
 skip
 (((refine mop_cS trivial ?_ ?_)))
 ·intro hlt
  have hlt':i<l.length:=by omega
  have hst:=keepL_succ (t:=t) hlt'
  obtain⟨k,hk⟩:∃ k,l[i]=k:=⟨_,rfl⟩
  rw[hk]at hst
  have hq:(l.map Kr.fds)[((i:Int)).toNat]?=some k.fds:=by
   rw[Int.toNat_natCast,← hk]
   exact map_at hlt'
  (((refine mif_true ?_)))
  refine⟨fun v w'=>∃ (K3:Option Addr) (kc3:Nat),v=.slice K3 (keepL t (l.take (i+1))).length kc3∧Mem H w1 [rowR 43 33 K3 (keepL t (l.take (i+1))).length kc3 ((keepL t (l.take (i+1))).map Ky.fds),fb g1 25 (tfd TA t.ls.length ta TB t.ps.length tb)] w',?_,?_⟩
  ·((refine mm_ixs ‹_› ?_ ?_ ?_);(focus (simp only[List.length_map];omega));(focus (simp only[List.length_map];first|done|omega));((intro _ _ hA));(cases hA);(refine mm_lds0 hM ‹_› (map_atI ?_) ?_);(focus omega);((refine mm_new hM ?_;clear hM;intro _ _ hM;refine mm_st hM ?_;clear hM;intro _ hM)))
   rename_i gk _ _
   rw[hk]at hM
   have hM:Mem H w1 [fb gk 43 k.fds,rowR 43 33 K2 (keepL t (l.take i)).length kc2 ((keepL t (l.take i)).map Ky.fds),fb g1 25 (tfd TA t.ls.length ta TB t.ps.length tb)] _:=hM
   refine⟨fun w'=>(0≤k.node∧k.node≤2*t.size - 2)∧hM.now w',?_,?_⟩
   ·by_cases hr2:0≤k.node∧k.node≤2*t.size - 2
    ·(((refine mop_c trivial ?_;refine mm_ld hM ?_;refine mop_cF trivial ?_ ?_));(focus (first|assumption|omega|with_reducible rfl|exact fun h=>Bool.noConfusion h));((refine mguard_yes ?_;refine mop_c trivial ?_;refine mguard_yes ?_;refine mm_ld hM ?_;refine mguard_yes ?_;refine mop_c trivial ?_;refine mguard_yes ?_;refine mm_ld hM ?_;refine mguard_yes ?_;refine mop_c trivial ?_;refine mguard_yes ?_;refine mop_c ?_ ?_));(focus omega);((refine mguard_yes ?_;refine mop_c ?_ ?_));(focus omega);((refine mguard_yes ?_;refine mop_cF trivial ?_ ?_));(focus (first|assumption|omega|with_reducible rfl|exact fun h=>Bool.noConfusion h));((refine mop_c trivial ?_;refine mif_false ?_)))
     exact⟨hr2,hM⟩
    ·have hno:keep1 t k=none:=keep1_no fun h=>hr2 ⟨h.1.1,h.2.1⟩
     rw[hno,Option.toList_none,List.append_nil]at hst
     by_cases hr3:k.node<0
     ·(((refine mop_c trivial ?_;refine mm_ld hM ?_;refine mop_cT trivial ?_ ?_));(focus (first|assumption|omega|with_reducible rfl|exact fun h=>Bool.noConfusion h));(((iterate 8 refine mguard_n1 ?_);refine mop_c trivial ?_;refine mif_true ?_)))
      exact⟨K2,kc2,by rw[hst],by rw[hst];exact hM.sub⟩
     ·(((refine mop_c trivial ?_;refine mm_ld hM ?_;refine mop_cF trivial ?_ ?_));(focus (first|assumption|omega|with_reducible rfl|exact fun h=>Bool.noConfusion h));((refine mguard_yes ?_;refine mop_c trivial ?_;refine mguard_yes ?_;refine mm_ld hM ?_;refine mguard_yes ?_;refine mop_c trivial ?_;refine mguard_yes ?_;refine mm_ld hM ?_;refine mguard_yes ?_;refine mop_c trivial ?_;refine mguard_yes ?_;refine mop_c ?_ ?_));(focus omega);((refine mguard_yes ?_;refine mop_c ?_ ?_));(focus omega);((refine mguard_yes ?_;refine mop_cT trivial ?_ ?_));(focus (first|assumption|omega|with_reducible rfl|exact fun h=>Bool.noConfusion h));((refine mop_c trivial ?_;refine mif_true ?_)))
      exact⟨K2,kc2,by rw[hst],by rw[hst];exact hM.sub⟩
   rintro u6 w6 ⟨hr2,hM⟩
   have hk1:(0≤k.node∧k.node≤1000):=by omega
   (((refine mm_ld hM ?_;refine mop_c trivial ?_;refine mm_ld hM ?_)))
   refine mm_pure hM (cpub_ok k.node hr2 hR h hM.fz) (fun w hM=>?_)
   (((refine mop_c trivial ?_;refine mop_c trivial ?_;refine mm_new hM ?_;clear hM;intro _ _ hM;refine mm_st hM ?_;clear hM;intro _ hM)))
   rename_i gp _ _
   obtain⟨pb,hpb⟩:∃ pb,pubAt t k.node=pb:=⟨_,rfl⟩
   obtain⟨pp,ps⟩:=pb
   rw[hpb]at hM ⊢
   dsimp only at hM ⊢
   refine⟨fun v w'=>v=.bool (decide (pubAt t k.node=(pubH k.priv,true)))∧hM.now w',?_,?_⟩
   ·cases ps
    ·(((refine qguard_n2 ?_;refine qguard_n2 ?_;refine mguard_n2 ?_;refine qguard_n2 ?_;refine qguard_n2 ?_;refine dp_c trivial ?_;refine mm_end hM (fun _ hM2=>?_);replace hM:=hM2;clear hM2)))
     exact⟨by rw[hpb,decide_eq_false (by simp)],hM⟩
    ·(((refine qguard_yes ?_;refine dp_c trivial ?_;refine qguard_yes ?_;refine dm_ld hM ?_;refine mguard_yes ?_;refine dm_purC hM ?_ (fun _ _ hM=>?_)));(focus (first|exact trivial|assumption|omega));((refine qguard_yes ?_));(refine dm_ld ‹Mem _ _ _ _› ?_);((refine qguard_yes ?_)))
     refine dp_c trivial ?_
     (((refine dp_c trivial ?_;refine mm_end hM ?_;clear hM;intro _ hM)))
     refine⟨?_,hM⟩
     rw[hpb,Value.bool.injEq,decide_eq_decide,Prod.mk.injEq]
     exact⟨fun h=>⟨h.symm,rfl⟩,fun h=>h.1.symm⟩
   rintro v u7 w7 ⟨rfl,hM⟩
   by_cases hpk:pubAt t k.node=(pubH k.priv,true)
   ·rw[keep1_yes hk1 hr2.2 hpk,Option.toList_some]at hst
    rw[decide_eq_true hpk]
    (((refine mif_true ?_;refine mm_ld hM ?_;refine mm_bsl hM ?_ ?_ ?_));(focus rfl);(focus (constructor <;> simp));((clear hM;intro _ _ hM;refine mm_appo hM ?_ ?_));(focus omega);((clear hM;intro _ _ _ hM)))
    rename_i A3 c3 _
    have hM:Mem H w1 [rowR 43 33 A3 ((keepL t (l.take i)).length+1) c3 ((keepL t (l.take i)).map Ky.fds++[k.fds]),fb g1 25 (tfd TA t.ls.length ta TB t.ps.length tb)] _:=hM.sub
    have e:(keepL t (l.take i)).map Ky.fds++[k.fds]=(keepL t (l.take (i+1))).map Ky.fds:=by
     rw[hst,List.map_append]
     rfl
    have e2:(keepL t (l.take i)).length+1=(keepL t (l.take (i+1))).length:=by
     rw[hst,List.length_append]
     rfl
    rw[e,e2]at hM
    exact⟨A3,c3,by rw[e2],hM⟩
   ·have hno:keep1 t k=none:=keep1_no fun h=>hpk h.2.2
    rw[hno,Option.toList_none,List.append_nil]at hst
    rw[decide_eq_false hpk]
    (((refine mif_false ?_)))
    exact⟨K2,kc2,by rw[hst],by rw[hst];exact hM.sub⟩
  clear hM
  rintro v u5 w5 ⟨K3,kc3,rfl,hM⟩
  (((refine mop_c ?_ ?_));(focus omega))
  exact⟨⟨i+1,K3,kc3,rfl,by rw[Value.int.injEq];refine⟨rfl,?_⟩;push_cast;rfl,by omega,hM⟩,by simp only;omega⟩
 ·intro hge
  obtain rfl:i=l.length:=by omega
  rw[List.take_length]at hM hkl ⊢
  (((refine mif_false ?_)))
  refine mm_own (sorted_ok (keepL t l) rfl (by omega) (hM.reads (A:=K2)) hM) ?_
  clear hM
  rintro v w5 ⟨A',c',rfl,hM⟩
  skip
  obtain⟨H4,l4,hM,hs4,-⟩:=hM.fz0
  exact hM.out l4 ⟨A',c',rfl,hs4⟩
end
end Go.Proofs.YtpjodlnlmaaihaaGreat
namespace Go.Proofs.YtpjodlnlmaaihaaGreat
open Go.RowKit Go.Lib
end Go.Proofs.YtpjodlnlmaaihaaGreat
namespace Go.Proofs.YtpjodlnlmaaihaaGreat
open Go.RowKit Go.Lib
theorem ints_cat (a b:ByteArray):ints (a++b)=ints a++ints b:=by simp[ints]
section
variable {H:Hp} {w0 w:World} {L R:List Res} {A B K:Option Addr} {a c n m kc:Nat} {t:Tr} {v:Value}
theorem r5text_ok (h:H32) (w:World):Calls Tryz.prog 65 #[ha h] w fun en w'=>en=.returned (.string (strOfNums h.1))∧St w [] w':=by
 have hM:=Mem.start (Fz.of w)
 refine C_bevyref05_text ?_
 unfold F_bevyref05_text
 (((refine mm_box hM ?_;clear hM;intro _ _ hM;refine mop_c trivial ?_;refine mm_cvb hM ?_)))
 exact⟨rfl,hM.st⟩
instance (h:H32):PurC Tryz.prog 65 [.agg (u8s h.1).toArray] True (.string (strOfNums h.1)):=⟨fun _ w=>r5text_ok h w⟩
theorem r5pub_ok (k:H32) (w:World):Calls Tryz.prog 23 #[ha k] w fun en w'=>en=.returned (ha (pubH k))∧St w [] w':=by
 have hM:=Mem.start (Fz.of w)
 have hs:(strOfNums k.1).size=32:=by rw[strOfNums_size,k.2.1]
 have h3:spub.size=3:=rfl
 refine C_bevyref05_Pub ?_
 unfold F_bevyref05_Pub
 (((refine mm_box hM ?_;clear hM;intro _ _ hM;refine mm_new hM ?_;clear hM;intro _ _ hM;refine mm_ld hM ?_;refine mm_purC hM ?_ ?_));(focus (first|exact trivial|assumption|omega));((clear hM;intro _ hM)))
 refine mop_c (by rw[hs];show 3+_≤_;omega) ?_
 have hs2:(spub++strOfNums k.1).size<1099511627776:=by rw[ByteArray.size_append,hs,h3];decide
 refine mm_pure hM (refsum_ok _ _ hs2) (fun w2 hM=>?_)
 have e:hv (shaSum (ints (spub++strOfNums k.1)))=.agg (u8s (pubH k).1).toArray:=by
  rw[ints_cat,ints_h]
  rfl
 rw[e]
 (((refine mm_st hM ?_;clear hM;intro _ hM;refine rm_ld hM ?_)))
 exact⟨rfl,hM.st⟩
instance (k:H32):PurC Tryz.prog 23 [.agg (u8s k.1).toArray] True (.agg (u8s (pubH k).1).toArray):=⟨fun _ w=>r5pub_ok k w⟩
theorem rpub_ok (x:Int) (hx:0≤x∧x≤2*t.size - 2) (hR:t.Rt) (h:TrF H v t) (hf:Fz H w):Calls Tryz.prog 28 #[v,.int .i64 x] w fun en w'=>en=.returned (.tuple #[ha (pubAt t x).1,.bool (pubAt t x).2])∧St w [] w':=by
 obtain⟨A,a,B,b,q,rfl,h1,h2,h3⟩:=h.ex
 have hM:=Mem.start hf
 have hlen:=hR.len
 have hts:t.size=t.ls.length:=rfl
 have hq:q.length=t.ps.length:=h3.len
 refine C_bevyref09_Pub ?_
 unfold F_bevyref09_Pub
 unfold pubAt
 by_cases he:x%2=0
 ·have hix:(x / 2).toNat<t.ls.length:=by omega
  have hla:leafAt t (x / 2)=t.ls[(x / 2).toNat]:=by
   unfold leafAt
   rw[List.getD_eq_getElem?_getD,List.getElem?_eq_getElem hix]
   rfl
  rw[if_pos he,hla]
  (((refine mm_box hM ?_;clear hM;intro _ _ hM;refine mm_new hM ?_;clear hM;intro _ _ hM;refine mop_c ?_ ?_));(focus omega);((refine mop_cT trivial ?_ ?_));(focus (first|assumption|omega|with_reducible rfl|exact fun h=>Bool.noConfusion h));((refine mif_true ?_)))
  rename_i g1 _ g2 _
  have hM9:Mem H w (fb g1 25 (tfd A t.ls.length a B t.ps.length b)::[fb g2 34 [.arr 32 (u8s hzero.1)]]) _:=hM.same
  clear hM
  obtain⟨H',le',hM,hB⟩:=hM9.fzb
  refine⟨Rl.fz H',?_⟩
  have hF:=hM.fz
  have hn:=hM.free (g:=g2)
  have k1:=h1.mono le'.le
  have k2:=h2.mono le'.le
  (((refine dp_c trivial ?_));(refine dK_ldf ‹_› ‹_› ?_);((refine dp_c ?_ ?_));(focus omega);(refine dp_ixs ‹_› ?_ ?_ ?_);(focus (simp only[List.length_map];omega));(focus (simp only[List.length_map];first|done|omega));((intro _ _ hA));(cases hA);((refine dp_c trivial ?_)))
  refine dK_lds hF k1 (map_at hix) ?_
  (((refine dp_c trivial ?_));(refine dK_ldf ‹_› ‹_› ?_);((refine dp_c ?_ ?_));(focus omega);(refine dp_ixs ‹_› ?_ ?_ ?_);(focus (simp only[List.length_map];omega));(focus (simp only[List.length_map];first|done|omega));((intro _ _ hA));(cases hA);((refine dp_c trivial ?_)))
  refine dK_lds hF k1 (map_at hix) ?_
  refine dp_c trivial ?_
  refine dK_st hM hF hn ?_
  clear hM
  intro w4 hM hF
  (((refine mm_end hM ?_;clear hM;intro _ hM;refine rm_ld hM ?_)))
  have hnm:0≤(t.ls[(x / 2).toNat]).name:=by
   have:=(hR.gd (by intro e;rw[e]at hix;simp at hix)).nm _ (List.getElem_mem hix)
   omega
  have e:decide ((t.ls[(x / 2).toNat]).name≠0)=decide (0<(t.ls[(x / 2).toNat]).name):=decide_eq_decide.2 (by omega)
  rw[e]
  exact⟨rfl,hM.st⟩
 ·have hix:(x / 2).toNat<t.ps.length:=by omega
  obtain⟨q,hq1,C,c,rfl,hC,hcl⟩:=h3.at_ (i:=(x / 2).toNat) hix
  obtain⟨p,hpe⟩:∃ p,t.ps[(x / 2).toNat]=p:=⟨_,rfl⟩
  have hpa:parAt t (x / 2)=p:=by
   unfold parAt
   rw[List.getD_eq_getElem?_getD,List.getElem?_eq_getElem hix,hpe]
   rfl
  rw[if_neg he,hpa]
  rw[hpe]at hq1
  (((refine mm_box hM ?_;clear hM;intro _ _ hM;refine mm_new hM ?_;clear hM;intro _ _ hM;refine mop_c ?_ ?_));(focus omega);((refine mop_cF trivial ?_ ?_));(focus (first|assumption|omega|with_reducible rfl|exact fun h=>Bool.noConfusion h));((refine mif_false ?_)))
  rename_i g1 _ g2 _
  have hM9:Mem H w (fb g1 25 (tfd A t.ls.length a B t.ps.length b)::[fb g2 34 [.arr 32 (u8s hzero.1)]]) _:=hM.same
  clear hM
  obtain⟨H',le',hM,hB⟩:=hM9.fzb
  refine⟨Rl.fz H',?_⟩
  have hF:=hM.fz
  have hn:=hM.free (g:=g2)
  have k1:=h1.mono le'.le
  have k2:=h2.mono le'.le
  (((refine dp_c trivial ?_));(refine dK_ldf ‹_› ‹_› ?_);((refine dp_c ?_ ?_));(focus omega))
  refine dp_ixs k2 (by omega) hq.symm (fun bb oo hB=>?_)
  cases hB
  (((refine dp_c trivial ?_)))
  refine dK_lds hF k2 hq1 ?_
  (((refine dp_c trivial ?_));(refine dK_ldf ‹_› ‹_› ?_);((refine dp_c ?_ ?_));(focus omega);((refine dp_c ?_ ?_));(focus omega);((refine dp_c trivial ?_)))
  refine dK_lds hF k2 hq1 ?_
  refine dK_st hM hF hn ?_
  clear hM
  intro w4 hM hF
  (((refine mm_end hM ?_;clear hM;intro _ hM;refine rm_ld hM ?_)))
  exact⟨rfl,hM.st⟩
end
end Go.Proofs.YtpjodlnlmaaihaaGreat
namespace Go.Proofs.YtpjodlnlmaaihaaGreat
open Go.RowKit Go.Lib
def idxI {α:Type} (f:α→Bool) (l:List α):Int:=match l.findIdx? f with
 | some i=>i
 | none => -1
theorem idxI_at {α:Type} {f:α→Bool} {l:List α} {i:Nat} (hi:i<l.length) (h:∀ j (hj:j<i),f (l[j]'(by omega))=false) (hf:f l[i]=true):idxI f l=i:=by
 unfold idxI
 have:l.findIdx? f=some i:=List.findIdx?_eq_some_iff_getElem.2 ⟨hi,hf,fun j hj=>by simp[h j hj]⟩
 rw[this]
theorem idxI_none {α:Type} {f:α→Bool} {l:List α} (h:∀ j (hj:j<l.length),f l[j]=false):idxI f l = -1:=by
 unfold idxI
 have:l.findIdx? f=none:=by
  rw[List.findIdx?_eq_none_iff]
  intro x hx
  obtain⟨j,hj,rfl⟩:=List.mem_iff_getElem.1 hx
  exact h j hj
 rw[this]
theorem idxI_cases {α:Type} (f:α→Bool) (l:List α):(idxI f l = -1∧∀ x∈l,f x=false)∨∃ i:Nat,∃ hi:i<l.length,idxI f l=i∧f l[i]=true∧∀ j (hj:j<i),f (l[j]'(by omega))=false:=by
 unfold idxI
 cases h:l.findIdx? f with
 | none=>exact .inl ⟨rfl,by simpa [List.findIdx?_eq_none_iff] using h⟩
 | some i=>
  obtain⟨h1,h2,h3⟩:=List.findIdx?_eq_some_iff_getElem.1 h
  exact .inr ⟨i,h1,rfl,h2,fun j hj=>by simpa using h3 j hj⟩
abbrev ivv (y:Int):Value:=.int .i64 y
theorem ints8_take (l:List Int) (i:Nat):(ints8 l).take i=ints8 (l.take i):=by simp[ints8]
theorem ints8_set (l:List Int) (i:Nat) (x:Int):(ints8 l).set i [.one (.int .i64 x)]=ints8 (l.set i x):=(List.map_set (f:=fun x=>[Fd.one (.int .i64 x)])).symm
theorem stk_succ {α:Type} (l:List α) (i:Nat) (x:α) (h:i<l.length):(l.set i x).take (i+1)=l.take i++[x]:=by
 rw[List.take_succ_eq_append_getElem (by simpa using h),List.getElem_set_self,List.take_set_of_le (Nat.le_refl i)]
section
variable {H:Hp} {w0 w:World} {L R:List Res} {A B K F:Option Addr} {a c n m kc fc:Nat} {t:Tr} {v:Value}
theorem num_ok (l:List Int) (hl:l.length≤100) (hr:∀ x∈l,0≤x∧x≤4611686018427387903) (hs:Sl H 1 K (ints8 l)) (hf:Fz H w):Calls Tryz.prog 49 #[.slice K l.length kc] w fun en w'=>en=.returned (.string (strOfNums (l.flatMap numB)))∧St w [] w':=by
 have hM:=Mem.start hf
 refine C_climb_num ?_
 unfold F_climb_num
 refine mm_own (wnew_ok hM) ?_
 clear hM
 rintro v w2 ⟨g,rfl,hM⟩
 (((refine mop_c trivial ?_)))
 refine⟨fun v w'=>∃ i:Nat,v=.int .i64 i∧i≤l.length∧((l.take i).flatMap numB).length≤8*i∧Mem H w [wrR g ((l.take i).flatMap numB) false] w',fun v _=>match v with | .int _ k=>l.length - k.toNat|_=>0,⟨0,rfl,by omega,by simp,hM⟩,?_⟩
 clear hM
 rintro v u w3 ⟨i,rfl,hi,hb,hM⟩
 skip
 (((refine mop_cS trivial ?_ ?_)))
 ·intro hlt
  have hit:i<l.length:=by omega
  have hx:=hr _ (List.getElem_mem hit)
  have hnl:=numB_length l[i]
  (((refine mif_true ?_));(refine mm_ixs ‹_› ?_ ?_ ?_);(focus (simp only[List.length_map];omega));(focus (simp only[List.length_map];first|done|omega));((intro _ _ hA));(cases hA);(refine mm_lds0 hM ‹_› (map_atI ?_) ?_);(focus omega))
  refine mm_own (wnum_ok l[i] hx (by omega) hM) ?_
  clear hM
  rintro v w4 ⟨rfl,hM⟩
  (((refine mop_c ?_ ?_));(focus omega))
  have e:(l.take i).flatMap numB++numB l[i]=(l.take (i+1)).flatMap numB:=by
   rw[List.take_succ_eq_append_getElem hit,List.flatMap_append]
   simp
  have hb2:((l.take (i+1)).flatMap numB).length≤8*(i+1):=by
   rw[← e,List.length_append]
   omega
  rw[e]at hM
  exact⟨⟨i+1,by rw[Value.int.injEq];refine⟨rfl,?_⟩;push_cast;rfl,by omega,hb2,hM⟩,by simp only;omega⟩
 ·intro hge
  obtain rfl:i=l.length:=by omega
  rw[List.take_length]at hM
  (((refine mif_false ?_)))
  refine mm_pure hM (wend_ok hM) (fun w5 hM=>?_)
  (((refine mop_c trivial ?_;refine mop_c trivial ?_)))
  exact⟨rfl,hM.st⟩
theorem iindex_ok (l:List Int) (x:Int) (hl:l.length≤maxLen) (hs:Sl H 1 K (ints8 l)) (hf:Fz H w):Calls Tryz.prog 54 #[.slice K l.length kc,.int .i64 x] w fun en w'=>en=.returned (.int .i64 (idxI (fun y=>decide (x=y)) l))∧St w [] w':=by
 have hM:=Mem.start hf
 have hl':l.length≤9223372036854775807:=hl
 refine C_slices_Index_int_int ?_
 unfold F_slices_Index_int_int
 (((refine mop_c trivial ?_)))
 refine⟨fun v w'=>∃ i:Nat,v=.int .i64 i∧i≤l.length∧(∀ j (hj:j<l.length),j<i→decide (x=l[j])=false)∧hM.now w',fun v _=>match v with | .int _ k=>l.length - k.toNat|_=>0,⟨0,rfl,by omega,by intro j hj h;omega,hM⟩,?_⟩
 rintro v u w3 ⟨i,rfl,hi,hlow,hM⟩
 skip
 (((refine mop_cS trivial ?_ ?_)))
 ·intro hlt
  have hit:i<l.length:=by omega
  (((refine mif_true ?_));(refine mm_ixs ‹_› ?_ ?_ ?_);(focus (simp only[List.length_map];omega));(focus (simp only[List.length_map];first|done|omega));((intro _ _ hA));(cases hA);(refine mm_lds0 hM ‹_› (map_atI ?_) ?_);(focus omega))
  (((refine mop_cS trivial ?_ ?_)))
  ·intro hx
   (((refine mif_true ?_)))
   exact⟨by rw[idxI_at (i:=i) hit (fun j hj=>hlow j (by omega) hj) (decide_eq_true hx)],hM.st⟩
  ·intro hx
   (((refine mif_false ?_;refine mop_c ?_ ?_));(focus omega))
   exact⟨⟨i+1,by rw[Value.int.injEq];refine⟨rfl,?_⟩;push_cast;rfl,by omega,fun j hj hji=>by
    rcases Nat.lt_or_ge j i with h|h
    ·exact hlow j hj h
    ·obtain rfl:j=i:=by omega
     exact decide_eq_false hx,hM⟩,by simp only;omega⟩
 ·intro hge
  (((refine mif_false ?_)))
  exact⟨by rw[idxI_none fun j hj=>hlow j hj (by omega)],hM.st⟩
theorem icontains_ok (l:List Int) (x:Int) (hl:l.length≤maxLen) (hs:Sl H 1 K (ints8 l)) (hf:Fz H w):Calls Tryz.prog 90 #[.slice K l.length kc,.int .i64 x] w fun en w'=>en=.returned (.bool (decide (x∈l)))∧St w [] w':=by
 have hM:=Mem.start hf
 refine C_slices_Contains_int_int ?_
 unfold F_slices_Contains_int_int
 refine mm_pure hM (iindex_ok l x hl hs hM.fz) (fun w hM=>?_)
 rcases idxI_cases (fun y=>decide (x=y)) l with ⟨e,h⟩|⟨i,hi,e,h,-⟩
 ·rw[e,decide_eq_false (fun hm=>by have:=h x hm;simp at this)]
  (((refine mop_cF trivial ?_ ?_));(focus (first|assumption|omega|with_reducible rfl|exact fun h=>Bool.noConfusion h)))
  exact⟨rfl,hM.st⟩
 ·have hm:x∈l:=by
   have:=of_decide_eq_true h
   rw[this]
   exact List.getElem_mem hi
  rw[e,decide_eq_true hm]
  (((refine mop_cT trivial ?_ ?_));(focus (first|assumption|omega|with_reducible rfl|exact fun h=>Bool.noConfusion h)))
  exact⟨rfl,hM.st⟩
def isF (fresh:List Int) (y:Int):Bool:=decide (y.tmod 2=0∧IntKind.i64.wrap (y.tdiv 2)∈fresh)
theorem isF_eq {fresh:List Int} {y:Int} (h:0≤y) (h2:y≤1000000):isF fresh y=decide (y%2=0∧y / 2∈fresh):=by
 unfold isF
 rw[Int.tmod_eq_emod_of_nonneg h,Int.tdiv_eq_ediv_of_nonneg h,show IntKind.i64.wrap (y / 2)=y / 2 from wrap_in (by omega)]
theorem fresh1_ok (g:Nat) (fresh:List Int) (y:Int) (hl:fresh.length≤maxLen) (hs:Sl H 1 F (ints8 fresh)) (hM:Mem H w0 (fb g 47 [.one (.slice F fresh.length fc)]::R) w):
  Calls Tryz.prog 89 #[.int .i64 y,.pointer (some ⟨g,0,none⟩)] w fun en w'=>en=.returned (.bool (isF fresh y))∧Mem H w0 (fb g 47 [.one (.slice F fresh.length fc)]::R) w':=by
 refine C_climb_beside_1 ?_
 unfold F_climb_beside_1 isF
 refine mop_pur (p_rem _ _ _ _ _ (by decide)) ?_
 by_cases h:y.tmod 2=0
 ·refine mop_cT trivial h ?_
  (((refine mguard_yes ?_;refine mm_ld hM ?_;refine mguard_yes ?_;refine mop_c trivial ?_;refine mguard_yes ?_)))
  refine mop_pur (p_quo _ _ _ _ _ (by decide)) ?_
  (((refine mguard_yes ?_)))
  refine mm_pure hM (icontains_ok fresh (IntKind.i64.wrap (y.tdiv 2)) hl hs hM.fz) (fun w hM=>?_)
  (((refine mop_c trivial ?_)))
  exact⟨by rw[decide_eq_decide.2 (show(y.tmod 2=0∧IntKind.i64.wrap (y.tdiv 2)∈fresh)↔IntKind.i64.wrap (y.tdiv 2)∈fresh from⟨fun k=>k.2,fun k=>⟨h,k⟩⟩)],hM⟩
 ·refine mop_cF trivial h ?_
  ((((iterate 4 refine mguard_n2 ?_);refine mop_c trivial ?_)))
  exact⟨by rw[decide_eq_false (fun k=>h k.1)],hM⟩
theorem iidx_ok {r:Res} {cl:Value} {f:Int→Bool} (xs:List Int) (hn:xs.length=n) (hc:Clo Tryz.prog H w0 r cl ivv f) (hM:Mem H w0 (r::rowR 3 1 A n c (ints8 xs)::R) w) (hb:n<1000000):
  Calls Tryz.prog 58 #[.slice A n c,cl] w fun en w'=>∃ v,en=.returned v∧v=.int .i64 (idxI f xs)∧Mem H w0 (r::rowR 3 1 A n c (ints8 xs)::R) w':=by
 subst hn
 refine C_slices_IndexFunc_int_int ?_
 unfold F_slices_IndexFunc_int_int
 (((refine mop_c trivial ?_)))
 refine⟨fun x w=>∃ i:Nat,x=.int .i64 i∧i≤xs.length∧(∀ j (hj:j<xs.length),j<i→f xs[j]=false)∧hM.now w,fun x _=>match x with | .int _ i=>xs.length - i.toNat|_=>0,⟨0,rfl,by omega,by intro j hj h;omega,hM⟩,?_⟩
 rintro x u w ⟨i,rfl,hi,hf,hM⟩
 (((refine mop_cS trivial ?_ ?_)))
 ·intro hlt
  have hit:i<xs.length:=by omega
  (((refine mif_true ?_;refine mm_ixr hM ?_ ?_));(focus omega);((intro _ hA));(cases hA);((refine mm_ldr0 hM (map_atI ?_) ?_));(focus omega))
  refine hc _ _ _ _ _ hM (fun w hM=>?_)
  cases hfi:f xs[i]
  ·(((refine mif_false ?_;refine mop_c ?_ ?_));(focus omega))
   exact⟨⟨i+1,by rw[Value.int.injEq];refine⟨rfl,?_⟩;push_cast;rfl,by omega,fun j hj hji=>by
    rcases Nat.lt_or_ge j i with h|h
    ·exact hf j hj h
    ·obtain rfl:j=i:=by omega
     exact hfi,hM⟩,by simp only;omega⟩
  ·(((refine mif_true ?_)))
   exact⟨_,rfl,by rw[idxI_at (i:=i) hit (fun j hj=>hf j (by omega) hj) hfi],hM⟩
 ·intro hge
  (((refine mif_false ?_)))
  exact⟨_,rfl,by rw[idxI_none fun j hj=>hf j hj (by omega)],hM⟩
theorem idel_ok {r:Res} {cl:Value} {f:Int→Bool} (xs:List Int) (hn:xs.length=n) (hc:Clo Tryz.prog H w0 r cl ivv f) (hM:Mem H w0 (r::rowR 3 1 A n c (ints8 xs)::R) w) (hb:n<1000000):
  Calls Tryz.prog 88 #[.slice A n c,cl] w fun en w'=>∃ v,en=.returned v∧v=.slice A (xs.filter fun x=>!f x).length c∧Mem H w0 (r::rowR 3 1 A (xs.filter fun x=>!f x).length c (ints8 (xs.filter fun x=>!f x))::R) w':=by
 refine C_slices_DeleteFunc_int_int ?_
 unfold F_slices_DeleteFunc_int_int
 refine mm_own (iidx_ok xs hn hc hM hb) ?_
 clear hM
 rintro v w2 ⟨rfl,hM⟩
 rcases idxI_cases f xs with ⟨hi,hall⟩|⟨i0,hi0,hi,hfi,hlow⟩
 ·rw[hi]
  (((refine mop_cT trivial ?_ ?_));(focus (first|assumption|omega|with_reducible rfl|exact fun h=>Bool.noConfusion h));((refine mif_true ?_)))
  have e:xs.filter (fun x=>!f x)=xs:=List.filter_eq_self.2 fun x hx=>by simp[hall x hx]
  rw[e,hn]
  exact⟨_,rfl,rfl,hM⟩
 ·rw[hi]
  have hcl:n≤c:=((hM.up A).rowLen ⟨.refl _⟩).2.1
  (((refine mop_cF trivial ?_ ?_));(focus (first|assumption|omega|with_reducible rfl|exact fun h=>Bool.noConfusion h));((refine mif_false ?_;refine mop_c ?_ ?_));(focus omega))
  have e0:(xs.take (i0+1)).filter (fun x=>!f x)=xs.take i0:=by
   rw[List.take_succ_eq_append_getElem hi0,List.filter_append,List.filter_eq_self.2 fun x hx=>?_]
   ·simp[hfi]
   ·obtain⟨j,hj,rfl⟩:=List.mem_iff_getElem.1 hx
    have hj2:j<i0:=by simp at hj;omega
    simp[hlow j hj2]
  obtain⟨g,rfl⟩:=(hM.up A).rowAt ⟨.refl _⟩ (by omega)
  refine⟨fun x y w'=>∃ (i j:Nat) (ys:List Int),x=.int .i64 i∧y=.int .i64 j∧i<j∧j≤n∧ys.length=n∧ys.take i=(xs.take j).filter (fun x=>!f x)∧ys.drop j=xs.drop j∧Mem H w0 (r::rowR 3 1 (some ⟨g,0,none⟩) n c (ints8 ys)::R) w',
   fun _ y _=>match y with | .int _ j=>n - j.toNat|_=>0,⟨i0,i0+1,xs,rfl,by rw[Value.int.injEq];refine⟨rfl,?_⟩;push_cast;rfl,by omega,by omega,hn,e0.symm,rfl,hM⟩,?_⟩
  clear hM
  rintro x y u w3 ⟨i,j,ys,rfl,rfl,hij,hjn,hyl,htk,hdr,hM⟩
  (((refine mop_c trivial ?_)))
  (((refine mop_cS trivial ?_ ?_)))
  ·intro hlt
   have hj1:j<ys.length:=by omega
   have hj2:j<xs.length:=by omega
   have hyj:ys[j]=xs[j]:=by
    have:=congrArg (·[0]?) hdr
    simpa [hj1,hj2] using this
   have hd1:ys.drop (j+1)=xs.drop (j+1):=by
    have:=congrArg (List.drop 1) hdr
    simpa [List.drop_drop] using this
   (((refine mif_true ?_)))
   refine⟨fun x w'=>∃ (i:Nat) (ys:List Int),x=.int .i64 i∧i<j+1∧ys.length=n∧ys.take i=(xs.take (j+1)).filter (fun x=>!f x)∧ys.drop (j+1)=xs.drop (j+1)∧Mem H w0 (r::rowR 3 1 (some ⟨g,0,none⟩) n c (ints8 ys)::R) w',?_,?_⟩
   ·(((refine mm_ixr hM ?_ ?_));(focus omega);((intro _ hA));(cases hA);((refine mm_ldr0 hM (map_atI ?_) ?_));(focus omega))
    refine hc ys[j] _ _ _ _ (hM.at_ r) (fun w hM=>?_)
    rw[hyj,List.take_succ_eq_append_getElem hj2,List.filter_append]
    cases hf:f xs[j]
    ·(((refine mop_c trivial ?_;refine mif_true ?_;refine mm_ixr hM ?_ ?_));(focus omega);((intro _ hA));(cases hA);((refine mm_str hM ?_ ?_));(focus omega);((clear hM;intro _ hM;refine mop_c ?_ ?_));(focus omega))
     refine⟨i+1,ys.set i xs[j],by rw[Value.int.injEq];refine⟨rfl,?_⟩;push_cast;rfl,by omega,by simpa using hyl,?_,?_,?_⟩
     ·rw[stk_succ _ _ _ (by omega),htk]
      simp[hf]
     ·rw[List.drop_set_of_lt (by omega),hd1]
     ·rw[ints8_set,Int.toNat_natCast]at hM
      exact hM.sub
    ·(((refine mop_c trivial ?_;refine mif_false ?_)))
     exact⟨i,ys,rfl,by omega,hyl,by simp[hf,htk],hd1,hM.sub⟩
   ·clear hM
    rintro x u w4 ⟨i,ys,rfl,hij,hyl,htk,hdr,hM⟩
    (((refine mop_c ?_ ?_));(focus omega))
    exact⟨⟨i,j+1,ys,rfl,by rw[Value.int.injEq];refine⟨rfl,?_⟩;push_cast;rfl,by omega,by omega,hyl,htk,hdr,hM⟩,by simp only;omega⟩
  ·intro hge
   have:j=n:=by omega
   subst this
   rw[← hn,List.take_length]at htk
   have hlen:i=(xs.filter fun x=>!f x).length:=by rw[← htk,List.length_take];omega
   (((refine mif_false ?_;refine mop_c ?_ ?_));(focus omega))
   rw[Int.toNat_natCast]
   refine mm_clear hM (k:=i) (by omega) (fun w4 hM=>?_)
   (((refine mop_c ?_ ?_));(focus omega))
   rw[ints8_take,htk,hlen]at hM
   rw[Int.toNat_natCast,hlen]
   exact⟨_,rfl,rfl,hM.same⟩
end
end Go.Proofs.YtpjodlnlmaaihaaGreat
namespace Go.Proofs.YtpjodlnlmaaihaaGreat
open Go.RowKit Go.Lib
theorem Mem.joinO {H:Hp} {w0 w w':World} {L L':List Res} (h:Mem H w0 L w) (hc:Mem (Hp.of w) w L' w'):Mem H w0 (L'++L) w':=h.join (hc.weak (le_of h.fz)) fun _ _ e=>e
theorem kfds_app (a b:List H32):kfds (a++b)=kfds a++kfds b:=by simp[kfds]
theorem secK_succ (s:H32) (k:Nat):secK s (k+1)=drv (secK s k) spath es0:=rfl
def IrF (H:Hp) (q:List Fd) (l:List Int):Prop:=∃ C c,q=[.one (.slice C l.length c)]∧Sl H 1 C (ints8 l)∧l.length≤40000
theorem IrF.mono {H H':Hp} {q:List Fd} {l:List Int} (h:IrF H q l) (k:H.le H'):IrF H' q l:=by
 obtain⟨C,c,h1,h2,h3⟩:=h
 exact⟨C,c,h1,h2.mono k,h3⟩
theorem All2.snoc {α:Type} {r:List Fd→α→Prop}:∀ {ps:List (List Fd)} {xs:List α} {q:List Fd} {x:α},All2 r ps xs→r q x→All2 r (ps++[q]) (xs++[x])
 | [],[],_,_,_,h=>⟨h,trivial⟩
 | _::_,_::_,_,_,h,k=>⟨h.1,h.2.snoc k⟩
 | [],_::_,_,_,h,_=>h.elim
 | _::_,[],_,_,h,_=>h.elim
section
variable {H:Hp} {w0 w:World} {L R:List Res} {A B K F:Option Addr} {a c n m kc fc:Nat} {t:Tr} {v:Value}
theorem clo_fresh (g:Nat) (fresh:List Int) (hl:fresh.length≤maxLen) (hs:Sl H 1 F (ints8 fresh)):Clo Tryz.prog H w0 (fb g 47 [.one (.slice F fresh.length fc)]) (.func (.func 89) #[] #[.pointer (some ⟨g,0,none⟩)]) ivv (isF fresh):=fun y R w K X hM hk=>by
 refine mop_callv (fresh1_ok (fc:=fc) g fresh y hl hs hM) ?_
 rintro en w' ⟨rfl,hM⟩
 exact hk _ hM
theorem up_ok (way:List Int) (s:H32) (hl:way.length≤100) (hr:∀ x∈way,0≤x∧x≤1000) (hs:Sl (Hp.of w) 1 A (ints8 way)) (hM:Mem H w0 L w):
  Calls Tryz.prog 45 #[.pointer none,.slice A way.length a,ha s] w fun en w'=>∃ v,en=.returned v∧∃ K1 c1 K2 c2,v=.tuple #[.slice K1 way.length c1,.slice K2 way.length c2,ha (comS s way.length)]∧Mem H w0 (rowR 34 32 K1 way.length c1 (kfds (secL s way.length))::rowR 43 33 K2 way.length c2 ((keysL way s way.length).map Ky.fds)::L) w':=by
 obtain⟨H1,hH1⟩:∃ H1,H1=Hp.of w:=⟨_,rfl⟩
 have hs0:Mem (Hp.of w) w [] w:=Mem.start (Fz.of w)
 rw[← hH1]at hs hs0
 suffices h:Calls Tryz.prog 45 #[.pointer none,.slice A way.length a,ha s] w fun en w'=>∃ v,en=.returned v∧∃ K1 c1 K2 c2,v=.tuple #[.slice K1 way.length c1,.slice K2 way.length c2,ha (comS s way.length)]∧Mem H1 w (rowR 34 32 K1 way.length c1 (kfds (secL s way.length))::rowR 43 33 K2 way.length c2 ((keysL way s way.length).map Ky.fds)::[]) w' from
  h.mono fun en w' ⟨v,e,K1,c1,K2,c2,e2,hM2⟩=>⟨v,e,K1,c1,K2,c2,e2,hM.joinO (by rw[hH1]at hM2;exact hM2)⟩
 have d1:spath.size≤1000000∧es0.size≤1000000:=by decide
 have d2:bnode.size≤1000000∧es0.size≤1000000:=by decide
 have d3:scommit.size≤1000000∧es0.size≤1000000:=by decide
 clear hM hH1
 obtain⟨w1,hw1⟩:∃ w1,w1=w:=⟨_,rfl⟩
 rw[← hw1]
 rw[← hw1]at hs0
 have hM:=hs0
 clear hs0
 refine C_climb_up ?_
 unfold F_climb_up
 (((refine mm_box hM ?_;clear hM;intro _ _ hM;refine mm_new hM ?_;clear hM;intro _ _ hM;refine mop_c trivial ?_)))
 rename_i gs _ gr _
 have h0:Mem H1 w1 (rowR 34 32 none 0 0 (kfds (secL s 0))::rowR 43 33 none 0 0 ((keysL way s 0).map Ky.fds)::fb gs 34 [.arr 32 (u8s (secK s (0 - 1)).1)]::[fb gr 34 [.arr 32 (u8s hzero.1)]]) _:=(((hM.row0 43 33).row0 34 32).sub:Mem H1 w1 [rowR 34 32 none 0 0 [],rowR 43 33 none 0 0 [],fb gs 34 [.arr 32 (u8s s.1)],fb gr 34 [.arr 32 (u8s hzero.1)]] _)
 refine⟨fun v1 v2 v3 w'=>∃ (i:Nat) (K1 K2:Option Addr) (c1 c2:Nat),v1=.slice K1 i c1∧v2=.slice K2 i c2∧v3=.int .i64 i∧i≤way.length∧Mem H1 w1 [rowR 34 32 K1 i c1 (kfds (secL s i)),rowR 43 33 K2 i c2 ((keysL way s i).map Ky.fds),fb gs 34 [.arr 32 (u8s (secK s (i - 1)).1)],fb gr 34 [.arr 32 (u8s hzero.1)]] w',fun _ _ v _=>match v with | .int _ k=>way.length - k.toNat|_=>0,⟨0,none,none,0,0,rfl,rfl,rfl,by omega,h0⟩,?_⟩
 clear hM h0
 rintro v1 v2 v3 u4 w4 ⟨i,K1,K2,c1,c2,rfl,rfl,rfl,hi,hM⟩
 skip
 (((refine mop_cS trivial ?_ ?_)))
 ·intro hlt
  have hit:i<way.length:=by omega
  have hx:=hr _ (List.getElem_mem hit)
  (((refine mif_true ?_));(refine mm_ixs ‹_› ?_ ?_ ?_);(focus (simp only[List.length_map];omega));(focus (simp only[List.length_map];first|done|omega));((intro _ _ hA));(cases hA);(refine mm_lds0 hM ‹_› (map_atI ?_) ?_);(focus omega))
  refine⟨fun w'=>Mem H1 w1 [rowR 34 32 K1 i c1 (kfds (secL s i)),rowR 43 33 K2 i c2 ((keysL way s i).map Ky.fds),fb gs 34 [.arr 32 (u8s (secK s i).1)],fb gr 34 [.arr 32 (u8s hzero.1)]] w',?_,?_⟩
  ·(((refine mop_cS trivial ?_ ?_)))
   ·intro h0
    (((refine mif_true ?_;refine mm_ld hM ?_;refine mm_purC hM ?_ ?_));(focus (first|exact trivial|assumption|omega));((clear hM;intro _ hM;refine mm_st hM ?_;clear hM;intro _ hM)))
    have e:secK s i=drv (secK s (i - 1)) spath es0:=by
     obtain⟨k,rfl⟩:∃ k,i=k+1:=⟨i - 1,by omega⟩
     rfl
    rw[e]
    exact hM.same
   ·intro h0
    obtain rfl:i=0:=by omega
    (((refine mif_false ?_)))
    exact hM
  clear hM
  intro u5 w5 hM
  (((refine mm_ld hM ?_;refine mm_bsl hM ?_ ?_ ?_));(focus rfl);(focus (constructor <;> simp));((clear hM;intro _ _ hM;refine mm_appo hM ?_ ?_));(focus omega);((clear hM;intro _ _ _ hM;refine mm_ld hM ?_;refine mm_purC hM ?_ ?_));(focus (first|exact trivial|assumption|omega));((clear hM;intro _ hM;refine mop_c trivial ?_;refine mm_bsl hM ?_ ?_ ?_));(focus rfl);(focus (constructor <;> simp));((clear hM;intro _ _ hM;refine mm_appo hM ?_ ?_));(focus omega);((clear hM;intro _ _ _ hM;refine mop_c ?_ ?_));(focus omega))
  rename_i A1 c1' _ _ _ _ A2 c2' _
  have hM:Mem H1 w1 [rowR 34 32 A1 (i+1) c1' (kfds (secL s i)++[[.arr 32 (u8s (secK s i).1)]]),rowR 43 33 A2 (i+1) c2' ((keysL way s i).map Ky.fds++[[.one (.int .i64 way[i]),.arr 32 (u8s (drv (secK s i) bnode es0).1)]]),fb gs 34 [.arr 32 (u8s (secK s i).1)],fb gr 34 [.arr 32 (u8s hzero.1)]] _:=hM.sub
  have e1:kfds (secL s i)++[[.arr 32 (u8s (secK s i).1)]]=kfds (secL s (i+1)):=by
   rw[secL_succ,kfds_app]
   rfl
  have e2:(keysL way s i).map Ky.fds++[[.one (.int .i64 way[i]),.arr 32 (u8s (drv (secK s i) bnode es0).1)]]=(keysL way s (i+1)).map Ky.fds:=by
   rw[keysL_succ,List.map_append]
   congr 1
   simp only[List.map_cons,List.map_nil]
   unfold keyK
   rw[mkKy_fds (by rw[List.getD_eq_getElem?_getD,List.getElem?_eq_getElem hit];exact hx),List.getD_eq_getElem?_getD,List.getElem?_eq_getElem hit]
   rfl
  exact⟨⟨i+1,A1,A2,c1',c2',rfl,rfl,by rw[Value.int.injEq];refine⟨rfl,?_⟩;push_cast;rfl,by omega,by rw[← e1,← e2];exact hM⟩,by simp only;omega⟩
 ·intro hge
  obtain rfl:i=way.length:=by omega
  (((refine mif_false ?_;refine mm_ld hM ?_;refine mm_purC hM ?_ ?_));(focus (first|exact trivial|assumption|omega));((clear hM;intro _ hM;refine mm_st hM ?_;clear hM;intro _ hM;refine rm_ld hM ?_)))
  exact⟨_,rfl,K1,c1,K2,c2,rfl,hM.sub⟩
def sideK (t:Tr) (pl:Int) (way fresh:List Int) (i:Nat):List Int:=(resT t (bs t.size (wNode pl way i))).filter fun y=>!isF fresh y
def sidesK (t:Tr) (pl:Int) (way fresh:List Int) (n:Nat):List (List Int):=(List.range n).map (sideK t pl way fresh)
theorem sidesK_succ (t:Tr) (pl:Int) (way fresh:List Int) (n:Nat):sidesK t pl way fresh (n+1)=sidesK t pl way fresh n++[sideK t pl way fresh n]:=by simp[sidesK,List.range_succ]
theorem resT_len {t:Tr} (h:t.Rt) (x:Int):(resT t x).length≤16640:=by
 unfold resT
 split
 ·rename_i ht
  exact resL_len h 8 x ht
 ·simp
theorem beside_ok (pl:Int) (fresh:List Int) (hl:fresh.length≤maxLen) (hpl:0≤pl∧pl<t.size) (hR:t.Rt) (h:TrF H v t) (hs:Sl H 1 A (ints8 (dirL t.size pl))) (hfr:Sl H 1 F (ints8 fresh)) (hf:Fz H w):
  Calls Tryz.prog 47 #[v,.int .i64 pl,.slice A (dirL t.size pl).length a,.slice F fresh.length fc] w (Outp H w fun H' r=>∃ K kc qs,r=.slice K (dirL t.size pl).length kc∧Sl H' 1 K qs∧All2 (IrF H') qs (sidesK t pl (dirL t.size pl) fresh (dirL t.size pl).length)):=by
 obtain⟨TA,ta,TB,tb,tq,rfl,-⟩:=h.ex
 obtain⟨w1,hw1⟩:∃ w1,w1=w:=⟨_,rfl⟩
 rw[← hw1]
 rw[← hw1]at hf
 have hlen:=hR.len
 have hts:t.size=t.ls.length:=rfl
 have hdl:=dirL_len t.size pl
 have hM:=Mem.start hf
 refine C_climb_beside ?_
 unfold F_climb_beside
 (((refine mm_box hM ?_;clear hM;intro _ _ hM;refine mm_box hM ?_;clear hM;intro _ _ hM;refine mop_c ?_ ?_));(focus omega);((refine mop_c trivial ?_)))
 rename_i gt _ gf _
 have hM9:Mem H w1 [rowR 47 1 none 0 0 [],fb gt 25 (tfd TA t.ls.length ta TB t.ps.length tb),fb gf 47 [.one (.slice F fresh.length fc)]] _:=(hM.row0 47 1).sub
 refine⟨fun v1 v2 v3 w'=>∃ (i:Nat) (H2:Hp) (K1:Option Addr) (c1:Nat) (qs:List (List Fd)),v1=.slice K1 i c1∧v2=.int .i64 (wNode pl (dirL t.size pl) i)∧v3=.int .i64 i∧i≤(dirL t.size pl).length∧qs.length=i∧Le w1 H H2∧All2 (IrF H2) qs (sidesK t pl (dirL t.size pl) fresh i)∧Mem H2 w1 [rowR 47 1 K1 i c1 qs,fb gt 25 (tfd TA t.ls.length ta TB t.ps.length tb),fb gf 47 [.one (.slice F fresh.length fc)]] w',fun _ _ v _=>match v with | .int _ k=>(dirL t.size pl).length - k.toNat|_=>0,⟨0,H,none,0,[],rfl,rfl,rfl,by omega,rfl,Le.refl _ _,trivial,hM9⟩,?_⟩
 clear hM hM9
 rintro v1 v2 v3 u4 w4 ⟨i,H2,K1,c1,qs,rfl,rfl,rfl,hi,hql,le2,hA2,hM⟩
 skip
 (((refine mop_cS trivial ?_ ?_)))
 ·intro hlt
  have hit:i<(dirL t.size pl).length:=by omega
  obtain⟨y1,y2,y3,y4⟩:=way_ok (n:=t.size) (pl:=pl) ⟨hpl.1,hpl.2,by omega⟩ hit
  have hy3:=y3
  obtain⟨z1,z2,z3⟩:=hy3
  have hs2:=hs.mono le2.le
  have hfr2:=hfr.mono le2.le
  have h2:=h.mono le2.le
  (((refine mif_true ?_));(refine mm_ixs ‹_› ?_ ?_ ?_);(focus (simp only[List.length_map];omega));(focus (simp only[List.length_map];first|done|omega));((intro _ _ hA));(cases hA);(refine mm_lds0 hM ‹_› (map_atI ?_) ?_);(focus omega);((refine dm_ld hM ?_;refine dp_c trivial ?_;refine dm_ld hM ?_;refine dp_c trivial ?_;refine dm_purC hM ?_ (fun _ _ hM=>?_)));(focus (first|exact trivial|assumption|omega)))
  refine df_no hM (fun w5 hM=>?_)
  refine mm_own (resolve_own (bs t.size (wNode pl (dirL t.size pl) i)) (by omega) hR h2 hM.fz) ?_
  rintro r w6 ⟨K,kc,rfl,hM6⟩
  have hM7:=hM.join hM6 fun _ _ e=>e
  clear hM hM6
  have hM:Mem H2 w1 (rowR 3 1 K (resT t (bs t.size (wNode pl (dirL t.size pl) i))).length kc (ints8 (resT t (bs t.size (wNode pl (dirL t.size pl) i))))::[rowR 47 1 K1 i c1 qs,fb gt 25 (tfd TA t.ls.length ta TB t.ps.length tb),fb gf 47 [.one (.slice F fresh.length fc)]]) _:=hM7
  clear hM7
  (((refine mm_end hM ?_;clear hM;intro _ hM;refine mop_c trivial ?_)))
  have hrl:=resT_len hR (bs t.size (wNode pl (dirL t.size pl) i))
  have hM:Mem H2 w1 (fb gf 47 [.one (.slice F fresh.length fc)]::rowR 3 1 K (resT t (bs t.size (wNode pl (dirL t.size pl) i))).length kc (ints8 (resT t (bs t.size (wNode pl (dirL t.size pl) i))))::[rowR 47 1 K1 i c1 qs,fb gt 25 (tfd TA t.ls.length ta TB t.ps.length tb)]) _:=hM.sub
  refine mm_own (idel_ok (resT t (bs t.size (wNode pl (dirL t.size pl) i))) rfl (clo_fresh gf fresh hl hfr2) hM (by omega)) ?_
  clear hM
  rintro r w7 ⟨hr,hM⟩
  have hr:r=.slice K (sideK t pl (dirL t.size pl) fresh i).length kc:=hr
  subst hr
  have hM:Mem H2 w1 [fb gf 47 [.one (.slice F fresh.length fc)],rowR 3 1 K (sideK t pl (dirL t.size pl) fresh i).length kc (ints8 (sideK t pl (dirL t.size pl) fresh i)),rowR 47 1 K1 i c1 qs,fb gt 25 (tfd TA t.ls.length ta TB t.ps.length tb)] _:=hM
  have hM:Mem H2 w1 (rowR 3 1 K (sideK t pl (dirL t.size pl) fresh i).length kc (ints8 (sideK t pl (dirL t.size pl) fresh i))::[rowR 47 1 K1 i c1 qs,fb gt 25 (tfd TA t.ls.length ta TB t.ps.length tb),fb gf 47 [.one (.slice F fresh.length fc)]]) _:=hM.sub
  have hsl:(sideK t pl (dirL t.size pl) fresh i).length≤40000:=Nat.le_trans (List.length_filter_le _ _) (by omega)
  obtain⟨H3,l3,hM3,hs3,-⟩:=hM.fz0
  clear hM
  have hM:=hM3
  clear hM3
  (((refine mm_bsl hM ?_ ?_ ?_));(focus rfl);(focus (constructor <;> simp));((clear hM;intro _ _ hM;refine mm_appo hM ?_ ?_));(focus omega);((clear hM;intro _ _ _ hM;refine mop_c ?_ ?_));(focus omega))
  rename_i A2 c2 _
  have hA3:=(hA2.mono fun q x k=>IrF.mono k l3.le).snoc (⟨K,kc,rfl,hs3,hsl⟩:IrF H3 [.one (.slice K (sideK t pl (dirL t.size pl) fresh i).length kc)] (sideK t pl (dirL t.size pl) fresh i))
  rw[← sidesK_succ]at hA3
  have hwn:(dirL t.size pl)[i]=wNode pl (dirL t.size pl) (i+1):=by
   show _=(dirL t.size pl).getD i 0
   rw[List.getD_eq_getElem?_getD,List.getElem?_eq_getElem hit]
   rfl
  rw[hwn]
  exact⟨⟨i+1,H3,A2,c2,_,rfl,rfl,by rw[Value.int.injEq];refine⟨rfl,?_⟩;push_cast;rfl,by omega,by rw[List.length_append,hql];rfl,le2.trans l3,hA3,hM.sub⟩,by simp only;omega⟩
 ·intro hge
  obtain rfl:i=(dirL t.size pl).length:=by omega
  (((refine mif_false ?_)))
  have hM9:Mem H2 w1 (rowR 47 1 K1 (dirL t.size pl).length c1 qs::[]) _:=hM.sub
  obtain⟨H3,l3,hM3,hs3,-⟩:=hM9.fz0
  exact hM3.out (le2.trans l3) ⟨K1,c1,qs,rfl,hs3,hA2.mono fun q x k=>IrF.mono k l3.le⟩
end
end Go.Proofs.YtpjodlnlmaaihaaGreat
namespace Go.Proofs.YtpjodlnlmaaihaaGreat
open Go.RowKit Go.Lib
def rowK (k:H32) (n:Nat):List Int:=rowL (drv k sstream es0).1 n
def tagK (k:H32) (about b:List Int):List Int:=((drv (drv k stag es0) (strOfNums about) (strOfNums b)).1).take 16
theorem rowK_len (k:H32) (n:Nat):(rowK k n).length=n:=rowL_length _ _
theorem tagK_len (k:H32) (a b:List Int):(tagK k a b).length=16:=by
 unfold tagK
 rw[List.length_take,(drv _ _ _).2.1]
 rfl
theorem crossL_get:∀ {r t:List Int} {i:Nat} (h1:i<(crossL r t).length) (h2:i<t.length) (h3:i<r.length),(crossL r t)[i]=bits .xor .u8 t[i] r[i]
 | _::_,_::_,0,_,_,_=>rfl
 | _::rs,_::ts,i+1,h1,h2,h3=>by
  simp only[crossL,List.getElem_cons_succ]
  exact crossL_get (by simpa [crossL] using h1) _ _
 | [],_,_,_,_,h3=>by simp at h3
 | _::_,[],_,_,h2,_=>by simp at h2
theorem byts_set (l:List Int) (i:Nat) (x:Int):(byts l).set i [.one (.int .u8 x)]=byts (l.set i x):=(List.map_set (f:=fun x=>[Fd.one (.int .u8 x)])).symm
theorem cross_set {C t:List Int} {i:Nat} (hl:C.length=t.length) (hi:i<t.length):(C.take i++t.drop i).set i (C[i]'(by omega))=C.take (i+1)++t.drop (i+1):=by
 have ht:(C.take i).length=i:=by rw[List.length_take];omega
 rw[List.drop_eq_getElem_cons hi,List.set_append_right _ _ (by omega),ht,Nat.sub_self,List.set_cons_zero,List.take_succ_eq_append_getElem (by omega),List.append_assoc]
 rfl
theorem cross_get {C t:List Int} {i:Nat} (hl:C.length=t.length) (hi:i<t.length):(C.take i++t.drop i)[i]'(by rw[List.length_append,List.length_take,List.length_drop];omega)=t[i]:=by
 rw[List.getElem_append_right (by rw[List.length_take];omega)]
 simp only[List.length_take,List.getElem_drop]
 congr 1
 omega
instance:BytC Tryz.prog 99 5:=⟨⟨by kernel_rfl,by kernel_rfl⟩⟩
instance (p:H32) (o:List Int):PurC Tryz.prog 91 [.agg (u8s p.1).toArray,.string (strOfNums o)] ((∀ x∈o,0≤x∧x<256)∧o.length≤1000000) (.agg (u8s (kemH p o).1).toArray):=⟨fun h w=>shared_ok p o h.1 h.2 w⟩
theorem ext_take (s:List Int) {k:Nat} (h:k≤s.length):(strOfNums s).extract 0 k=strOfNums (s.take k):=by
 apply ByteArray.ext
 simp[strOfNums,ByteArray.data_extract,List.extract_toArray]
theorem ext_drop (s:List Int) (k:Nat):(strOfNums s).extract k (strOfNums s).size=strOfNums (s.drop k):=by
 apply ByteArray.ext
 rw[strOfNums_size]
 simp[strOfNums,ByteArray.data_extract,List.extract_toArray]
 rw[List.take_of_length_le (by simp)]
theorem take_rng {s:List Int} (k:Nat) (h:∀ x∈s,0≤x∧x<256):∀ x∈s.take k,0≤x∧x<256:=fun x hx=>h x (List.mem_of_mem_take hx)
section
variable {H:Hp} {w0 w:World} {L R:List Res} {A B:Option Addr} {a b n m:Nat}
instance (k:H32) (n:Int):PurC Tryz.prog 146 [.agg (u8s k.1).toArray,.int .i64 n] True (.string (if 1≤n∧n≤65536 then strOfNums (rowL k.1 n.toNat) else ByteArray.mk #[])):=⟨fun _ w=>stream_ok k n (Fz.of w)⟩
theorem cross_ok (k:H32) (t:List Int) (ht:∀ x∈t,0≤x∧x<256) (hn:t.length≤65536) (w:World):Calls Tryz.prog 128 #[ha k,.string (strOfNums t)] w fun en w'=>en=.returned (.string (strOfNums (crossL (rowK k t.length) t)))∧St w [] w':=by
 have hM:=Mem.start (Fz.of w)
 have hs:(strOfNums t).size=t.length:=strOfNums_size t
 have d1:sstream.size≤1000000∧es0.size≤1000000:=by decide
 refine C_prim_cross ?_
 unfold F_prim_cross
 (((refine mm_box hM ?_;clear hM;intro _ _ hM;refine mm_ld hM ?_;refine mm_purC hM ?_ ?_));(focus (first|exact trivial|assumption|omega));((clear hM;intro _ hM;refine mop_c trivial ?_;refine mm_purC hM ?_ ?_));(focus (first|exact trivial|assumption|omega));((clear hM;intro _ hM;refine mop_c trivial ?_)))
 rw[hs]
 refine mm_mkb hM (by omega) ?_
 intro g w1 hM
 refine mm_cps hM hs ?_
 intro w2 hM
 rw[ints_str t ht]at hM
 have hrl:(rowK k t.length).length=t.length:=rowK_len _ _
 have hrw:(if 1≤(t.length:Int)∧(t.length:Int)≤65536 then strOfNums (rowL (drv k sstream es0).1 ((t.length:Int)).toNat) else ByteArray.mk #[])=strOfNums (rowK k t.length):=by
  by_cases h0:t.length=0
  ·rw[if_neg (by omega),h0]
   rfl
  ·rw[if_pos (by omega),Int.toNat_natCast]
   rfl
 rw[hrw]
 have hrr:∀ x∈rowK k t.length,0≤x∧x<256:=rowL_range _ _
 generalize rowK k t.length=row at hrl hrr ⊢
 have hcl:(crossL row t).length=t.length:=crossL_len (by omega)
 (((refine mop_c trivial ?_)))
 refine⟨fun v w'=>∃ i:Nat,v=.int .i64 i∧i≤t.length∧Mem (Hp.of w) w [rowR 5 1 (some ⟨g,0,none⟩) t.length t.length (byts ((crossL row t).take i++t.drop i))] w',fun v _=>match v with | .int _ k=>t.length - k.toNat|_=>0,⟨0,rfl,by omega,by simpa using hM.sub⟩,?_⟩
 clear hM
 rintro v u w3 ⟨i,rfl,hi,hM⟩
 skip
 (((refine mop_cS trivial ?_ ?_)))
 ·intro hlt
  have hit:i<t.length:=by omega
  have hq:(byts ((crossL row t).take i++t.drop i))[((i:Int)).toNat]?=some [.one (.int .u8 t[i])]:=by
   have h9:=cross_get hcl hit
   rw[Int.toNat_natCast]
   unfold byts
   rw[List.getElem?_map,List.getElem?_eq_getElem (by rw[List.length_append,List.length_take,List.length_drop];omega),h9]
   rfl
  have hrs:(strOfNums row).size=t.length:=by rw[strOfNums_size,hrl]
  (((refine mif_true ?_;refine dp_ixr hM ?_ ?_));(focus omega);((intro _ hA));(cases hA))
  refine dm_ldr0 hM hq ?_
  skip
  refine dp_pur (p_index_str _ i (by omega) (by rw[hrs];omega)) ?_
  have hri:(ints (strOfNums row)).getD ((i:Int)).toNat 0=row[i]:=by
   rw[ints_str row hrr,Int.toNat_natCast,List.getD_eq_getElem?_getD,List.getElem?_eq_getElem (by omega)]
   rfl
  rw[hri]
  have hxr:bits .xor .u8 t[i] row[i]=(crossL row t)[i]:=(crossL_get (by omega) hit (by omega)).symm
  (((refine dp_c trivial ?_;refine dp_ixr hM ?_ ?_));(focus omega);((intro _ hA));(cases hA))
  rw[hxr]
  refine dm_stz hM hq (fun w' hM=>?_)
  rw[byts_set,Int.toNat_natCast,cross_set hcl hit]at hM
  (((refine mm_end hM ?_;clear hM;intro _ hM;refine mop_c ?_ ?_));(focus omega))
  exact⟨⟨i+1,by rw[Value.int.injEq];refine⟨rfl,?_⟩;push_cast;rfl,by omega,hM⟩,by simp only;omega⟩
 ·intro hge
  obtain rfl:i=t.length:=by omega
  (((refine mif_false ?_;refine mm_cvr hM ?_ ?_));(focus (simp;omega)))
  refine⟨?_,hM.st⟩
  rw[← hcl,List.take_length,hcl,List.drop_length,List.append_nil,← hcl,List.take_length]
theorem tag_ok (k:H32) (ab b:List Int) (hl:ab.length≤1000000) (hb:b.length≤1000000) (w:World):Calls Tryz.prog 129 #[ha k,.string (strOfNums ab),.string (strOfNums b)] w fun en w'=>en=.returned (.string (strOfNums (tagK k ab b)))∧St w [] w':=by
 have hM:=Mem.start (Fz.of w)
 have h1:(strOfNums ab).size=ab.length:=strOfNums_size _
 have h2:(strOfNums b).size=b.length:=strOfNums_size _
 have d1:stag.size≤1000000∧es0.size≤1000000:=by decide
 have d2:(strOfNums ab).size≤1000000∧(strOfNums b).size≤1000000:=by omega
 refine C_prim_tag ?_
 unfold F_prim_tag
 (((refine mm_box hM ?_;clear hM;intro _ _ hM;refine mm_ld hM ?_;refine mm_purC hM ?_ ?_));(focus (first|exact trivial|assumption|omega));((clear hM;intro _ hM;refine mm_purC hM ?_ ?_));(focus (first|exact trivial|assumption|omega));((clear hM;intro _ hM;refine mm_new hM ?_;clear hM;intro _ _ hM;refine mm_st hM ?_;clear hM;intro _ hM;refine mop_c ?_ ?_));(focus omega))
 refine mm_cvp (n:=32) hM (by decide) ?_
 exact⟨rfl,hM.st⟩
instance (k:H32) (t:List Int):PurC Tryz.prog 128 [.agg (u8s k.1).toArray,.string (strOfNums t)] ((∀ x∈t,0≤x∧x<256)∧t.length≤65536) (.string (strOfNums (crossL (rowK k t.length) t))):=⟨fun h w=>cross_ok k t h.1 h.2 w⟩
instance (k:H32) (ab b:List Int):PurC Tryz.prog 129 [.agg (u8s k.1).toArray,.string (strOfNums ab),.string (strOfNums b)] (ab.length≤1000000∧b.length≤1000000) (.string (strOfNums (tagK k ab b))):=⟨fun h w=>tag_ok k ab b h.1 h.2 w⟩
theorem cloneHs_ok {ps:List (List Fd)} (hs:Sl (Hp.of w) 32 A ps) (hn:n=ps.length) (hb:n≤100000) (hM:Mem H w0 L w):Calls Tryz.prog 82 #[.slice A n a] w fun en w'=>∃ v,en=.returned v∧Ext w w'∧∃ A' a',v=.slice A' n a'∧Mem H w0 (rowR 34 32 A' n a' ps::L) w':=by
 refine C_slices_Clone_api_Hash_api_Hash ?_
 unfold F_slices_Clone_api_Hash_api_Hash
 refine clone_gen (P:=Tryz.prog) (t:=54) (R:=fun en w'=>∃ v,en=.returned v∧Ext w w'∧∃ A' a',v=.slice A' n a'∧Mem H w0 (rowR 34 32 A' n a' ps::L) w') hs hn hM ?_ (fun A' a' w' hx hM=>⟨_,rfl,hx,_,_,rfl,hM⟩)
 omega
theorem seal_ok {ps:List (List Fd)} (k:H32) (ab t:List Int) (hl:ab.length≤1000000) (ht:∀ x∈t,0≤x∧x<256) (hn:t.length≤65536) (hs:Sl H 32 A ps) (hnp:n=ps.length) (hb:n≤1000) (hf:Fz H w):Calls Tryz.prog 92 #[.pointer none,ha k,.string (strOfNums ab),.string (strOfNums t),.slice A n a] w fun en w'=>en=.returned (.string (strOfNums (sealL rowK tagK k ab t)))∧St w [] w':=by
 have hM:=Mem.start hf
 have h1:(strOfNums t).size=t.length:=strOfNums_size _
 have d1:(∀ x∈t,0≤x∧x<256)∧t.length≤65536:=⟨ht,hn⟩
 refine C_prim_Seal ?_
 unfold F_prim_Seal
 (((refine mm_box hM ?_;clear hM;intro _ _ hM;refine mop_c trivial ?_;refine mop_cF trivial ?_ ?_));(focus (first|assumption|omega|with_reducible rfl|exact fun h=>Bool.noConfusion h));((refine mif_false ?_)))
 refine⟨fun w'=>hM.now w',?_,?_⟩
 ·(((refine mop_c trivial ?_)))
  (((refine mop_cS trivial ?_ ?_)))
  ·intro h0
   (((refine mif_true ?_)))
   refine⟨?_,?_⟩
   all_goals
    (first|(((refine dm_ld hM ?_;refine dS_bsl hM ?_ ?_ (fun _ _ hM2=>?_)));(focus rfl);(focus (constructor <;> simp));((replace hM:=hM2;clear hM2)))|(((refine dm_ld hM ?_))))
    refine dm_ownE hM (fun w hM=>cloneHs_ok (hs.mono (le_of hM.fz)) hnp (by omega) hM) ?_
    rintro v w2 hx ⟨A',a',rfl,hM⟩
    (first|(((refine dS_bsl hM ?_ ?_ ?_));(focus rfl);(focus (constructor <;> simp));((clear hM;intro _ _ hM;refine dp_c trivial ?_;refine dm_purC hM ?_ (fun _ _ hM=>?_)));(focus (first|exact trivial|assumption|omega));((refine mm_end hM ?_;clear hM;intro _ hM)))|(((refine dp_c trivial ?_;refine dm_purC hM ?_ (fun _ _ hM=>?_)));(focus (first|exact trivial|assumption|omega));((refine mm_end hM ?_;clear hM;intro _ hM))))
    exact hM.sub
  ·intro h0
   (((refine mif_false ?_)))
   exact hM
 rintro u w2 hM
 have hcl:(crossL (rowK k t.length) t).length=t.length:=crossL_len (by rw[rowK_len];omega)
 have d2:ab.length≤1000000∧(crossL (rowK k t.length) t).length≤1000000:=by omega
 (((refine mm_ld hM ?_;refine mm_purC hM ?_ ?_));(focus (first|exact trivial|assumption|omega));((clear hM;intro _ hM;refine mm_ld hM ?_;refine mm_purC hM ?_ ?_));(focus (first|exact trivial|assumption|omega));((clear hM;intro _ hM)))
 refine mop_cat _ _ (by rw[tagK_len];omega) ?_
 exact⟨rfl,hM.st⟩
theorem sealK_len (k:H32) (ab t:List Int):(sealL rowK tagK k ab t).length=t.length+16:=by
 unfold sealL
 rw[List.length_append,crossL_len (by rw[rowK_len];omega),tagK_len]
theorem str_eq {a b:List Int} (ha:∀ x∈a,0≤x∧x<256) (hb:∀ x∈b,0≤x∧x<256):strOfNums a=strOfNums b↔a=b:=⟨fun h=>by rw[← ints_str a ha,← ints_str b hb,h],fun h=>by rw[h]⟩
theorem tagK_rng (k:H32) (a b:List Int):∀ x∈tagK k a b,0≤x∧x<256:=fun x hx=>(drv _ _ _).2.2 x (List.mem_of_mem_take hx)
theorem wrap_ok {ps:List (List Fd)} (pub once:H32) (ab t:List Int) (hl:ab.length≤1000000) (ht:∀ x∈t,0≤x∧x<256) (hn:t.length≤65536) (hs:Sl H 32 A ps) (hnp:n=ps.length) (hb:n≤1000) (hf:Fz H w):Calls Tryz.prog 48 #[.pointer none,ha pub,ha once,.string (strOfNums ab),.string (strOfNums t),.slice A n a] w fun en w'=>en=.returned (.string (strOfNums (wrapL rowK tagK kemH pub once ab t)))∧St w [] w':=by
 have hM:=Mem.start hf
 have h1:(strOfNums t).size=t.length:=strOfNums_size _
 refine C_prim_Wrap ?_
 have d1:(∀ x∈once.1,0≤x∧x<256)∧once.1.length≤1000000:=⟨once.2.2,by rw[once.2.1];omega⟩
 unfold F_prim_Wrap
 (((refine mm_box hM ?_;clear hM;intro _ _ hM;refine mm_box hM ?_;clear hM;intro _ _ hM;refine mop_c trivial ?_;refine mop_cF trivial ?_ ?_));(focus (first|assumption|omega|with_reducible rfl|exact fun h=>Bool.noConfusion h));((refine mif_false ?_)))
 rename_i g1 _ g2 _
 refine⟨fun x w'=>∃ g3:Nat,x=.pointer (some ⟨g3,0,none⟩)∧Mem H w [fb g3 34 [.arr 32 (u8s (kemH pub once.1).1)],fb g2 34 [.arr 32 (u8s once.1)],fb g1 34 [.arr 32 (u8s pub.1)]] w',?_,?_⟩
 ·repeat' apply And.intro
  all_goals
   (first|(((refine dm_ld hM ?_;refine dp_c trivial ?_;refine dm_cvb hM ?_;refine dm_purC hM ?_ (fun _ _ hM=>?_)));(focus (first|exact trivial|assumption|omega));((refine dm_new hM ?_;clear hM;intro _ _ hM;refine dS_st hM ?_;clear hM;intro _ hM;refine mm_end hM ?_;clear hM;intro _ hM)))|(((refine dm_ld hM ?_;refine dp_c trivial ?_;refine dm_cvb hM ?_;refine dm_new hM ?_;clear hM;intro _ _ hM;refine dm_purC hM ?_ (fun _ _ hM=>?_)));(focus (first|exact trivial|assumption|omega));((refine dS_st hM ?_;clear hM;intro _ hM;refine mm_end hM ?_;clear hM;intro _ hM))))
   exact⟨_,rfl,hM.sub⟩
 clear hM
 rintro v u w2 ⟨g3,rfl,hM⟩
 refine⟨fun w'=>hM.now w',?_,?_⟩
 ·repeat' apply And.intro
  all_goals
   (first|(((refine dm_ld hM ?_;refine dm_ld hM ?_;refine dm_purC hM ?_ (fun _ _ hM=>?_)));(focus (first|exact trivial|assumption|omega));((refine dS_bsl hM ?_ ?_ ?_));(focus rfl);(focus (constructor <;> simp));((clear hM;intro _ _ hM;refine dS_bsl hM ?_ ?_ ?_));(focus rfl);(focus (constructor <;> simp));((clear hM;intro _ _ hM;refine dp_c trivial ?_;refine dm_purC hM ?_ (fun _ _ hM=>?_)));(focus (first|exact trivial|assumption|omega));((refine mm_end hM ?_;clear hM;intro _ hM)))|(((refine dm_ld hM ?_;refine dm_ld hM ?_;refine dS_bsl hM ?_ ?_ (fun _ _ hM2=>?_)));(focus rfl);(focus (constructor <;> simp));((replace hM:=hM2;clear hM2;refine dm_purC hM ?_ (fun _ _ hM=>?_)));(focus (first|exact trivial|assumption|omega));((refine dS_bsl hM ?_ ?_ ?_));(focus rfl);(focus (constructor <;> simp));((clear hM;intro _ _ hM;refine dp_c trivial ?_;refine dm_purC hM ?_ (fun _ _ hM=>?_)));(focus (first|exact trivial|assumption|omega));((refine mm_end hM ?_;clear hM;intro _ hM))))
   exact hM.sub
 rintro u w3 hM
 (((refine mm_ld hM ?_;refine mm_bsl hM ?_ ?_ ?_));(focus rfl);(focus (constructor <;> simp));((clear hM;intro _ _ hM;refine mm_ld hM ?_;refine mm_bsl hM ?_ ?_ ?_));(focus rfl);(focus (constructor <;> simp));((clear hM;intro _ _ hM;refine mop_c trivial ?_;refine mm_purC hM ?_ ?_));(focus (first|exact trivial|assumption|omega));((clear hM;intro _ hM;refine dp_c trivial ?_;refine dm_cvb hM ?_;refine dm_ld hM ?_)))
 refine dm_pure hM (fun w hM=>seal_ok (kemH pub once.1) ab t hl ht hn hs hnp hb hM.fz) (fun w5 _ hM=>?_)
 refine dp_cat _ _ (by rw[sealK_len,once.2.1];omega) ?_
 (((refine mm_end hM ?_;clear hM;intro _ hM)))
 exact⟨rfl,hM.st⟩
def openE (k:H32) (ab s:List Int):List Int × Int:=
 if s.length<16 then ([],2) else if 65552<s.length then ([],5) else if tagK k ab (s.take (s.length - 16))=s.drop (s.length - 16) then (crossL (rowK k (s.length - 16)) (s.take (s.length - 16)),0) else ([],6)
theorem open_ok (k:H32) (ab s:List Int) (hl:ab.length≤1000000) (hs:∀ x∈s,0≤x∧x<256) (hn:s.length≤1000000) (w:World):Calls Tryz.prog 135 #[ha k,.string (strOfNums ab),.string (strOfNums s)] w fun en w'=>en=.returned (.tuple #[.string (strOfNums (openE k ab s).1),.int .i64 (openE k ab s).2])∧St w [] w':=by
 have hM:=Mem.start (Fz.of w)
 have h1:(strOfNums s).size=s.length:=strOfNums_size _
 refine C_prim_Open ?_
 unfold F_prim_Open
 (((refine mm_box hM ?_;clear hM;intro _ _ hM;refine mop_c trivial ?_;refine mop_c ?_ ?_));(focus omega))
 rw[h1]
 (((refine mop_cS trivial ?_ ?_)))
 ·intro c1
  (((refine mif_true ?_)))
  unfold openE
  rw[if_pos (by omega)]
  exact⟨rfl,hM.st⟩
 intro c1
 (((refine mif_false ?_)))
 (((refine mop_cS trivial ?_ ?_)))
 ·intro c2
  (((refine mif_true ?_)))
  unfold openE
  rw[if_neg (by omega),if_pos (by omega)]
  exact⟨rfl,hM.st⟩
 intro c2
 have ht:=take_rng (s.length - 16) hs
 have d1:ab.length≤1000000∧(s.take (s.length - 16)).length≤1000000:=⟨hl,by rw[List.length_take];omega⟩
 have d2:(∀ x∈s.take (s.length - 16),0≤x∧x<256)∧(s.take (s.length - 16)).length≤65536:=⟨ht,by rw[List.length_take];omega⟩
 have e1:((s.length:Int) - 16).toNat=s.length - 16:=by omega
 (((refine mif_false ?_;refine dm_ld hM ?_;refine dp_c ?_ ?_));(focus omega))
 rw[e1,ext_take s (by omega)]
 (((refine dm_purC hM ?_ (fun _ _ hM=>?_)));(focus (first|exact trivial|assumption|omega));((refine dp_c ?_ ?_));(focus omega))
 rw[e1,ext_drop]
 refine dp_c trivial ?_
 have heq:=str_eq (tagK_rng k ab (s.take (s.length - 16))) (fun x hx=>hs x (List.mem_of_mem_drop (i:=s.length - 16) hx))
 unfold openE
 rw[if_neg (by omega),if_neg (by omega)]
 by_cases h:tagK k ab (s.take (s.length - 16))=s.drop (s.length - 16)
 ·rw[if_pos h,h,decide_eq_false (fun k=>k rfl)]
  have d3:(s.take (s.length - 16)).length=s.length - 16:=by rw[List.length_take];omega
  (((refine mm_end hM ?_;clear hM;intro _ hM;refine mif_false ?_;refine dm_ld hM ?_;refine dp_c ?_ ?_));(focus omega))
  rw[e1,ext_take s (by omega)]
  (((refine dm_purC hM ?_ (fun _ _ hM=>?_)));(focus (first|exact trivial|assumption|omega));((refine mm_end hM ?_;clear hM;intro _ hM)))
  rw[d3]
  exact⟨rfl,hM.st⟩
 ·rw[if_neg h,decide_eq_true (show strOfNums (tagK k ab (s.take (s.length - 16)))≠strOfNums (s.drop (s.length - 16)) from fun k=>h (heq.1 k))]
  (((refine mm_end hM ?_;clear hM;intro _ hM;refine mif_true ?_)))
  exact⟨rfl,hM.st⟩
def unwrapE (priv:H32) (ab s:List Int):List Int × Int:=if s.length<48 then ([],2) else openE (kemH (pubH priv) (s.take 32)) ab (s.drop 32)
theorem openE_wrap (k:H32) (ab t:List Int) (ht:∀ x∈t,0≤x∧x<256) (hn:t.length≤65536):openE k ab (sealL rowK tagK k ab t)=(t,0):=by
 have h:=open_seal (row:=rowK) (tag:=tagK) rowK_len tagK_len (key:=k) (about:=ab) ht
 have hl:=sealK_len k ab t
 unfold openL at h
 unfold openE
 rw[if_neg (by omega)]at h
 rw[if_neg (by omega),if_neg (by omega)]
 split at h
 ·rename_i h2
  rw[if_pos h2,Option.some.inj h]
 ·cases h
theorem unwrapE_wrap (priv once:H32) (ab t:List Int) (ht:∀ x∈t,0≤x∧x<256) (hn:t.length≤65536):unwrapE priv ab (wrapL rowK tagK kemH (pubH priv) once ab t)=(t,0):=by
 unfold unwrapE wrapL
 rw[if_neg (by rw[List.length_append,once.2.1,sealK_len];omega),List.take_left' once.2.1,List.drop_left' once.2.1]
 exact openE_wrap _ ab t ht hn
theorem unwrap_ok (k:H32) (ab s:List Int) (hl:ab.length≤1000000) (hs:∀ x∈s,0≤x∧x<256) (hn:s.length≤1000000) (w:World):Calls Tryz.prog 103 #[ha k,.string (strOfNums ab),.string (strOfNums s)] w fun en w'=>en=.returned (.tuple #[.string (strOfNums (unwrapE k ab s).1),.int .i64 (unwrapE k ab s).2])∧St w [] w':=by
 have hM:=Mem.start (Fz.of w)
 have h1:(strOfNums s).size=s.length:=strOfNums_size _
 refine C_prim_Unwrap ?_
 unfold F_prim_Unwrap
 (((refine mm_box hM ?_;clear hM;intro _ _ hM;refine mop_c trivial ?_)))
 rw[h1]
 (((refine mop_cS trivial ?_ ?_)))
 ·intro c1
  (((refine mif_true ?_)))
  unfold unwrapE
  rw[if_pos (by omega)]
  exact⟨rfl,hM.st⟩
 intro c1
 have t1:=take_rng 32 hs
 have d1:(∀ x∈s.take 32,0≤x∧x<256)∧(s.take 32).length≤1000000:=⟨t1,by rw[List.length_take];omega⟩
 (((refine mif_false ?_;refine dm_ld hM ?_;refine dm_purC hM ?_ (fun _ _ hM=>?_)));(focus (first|exact trivial|assumption|omega));((refine dp_c ?_ ?_));(focus omega))
 rw[show Int.toNat 32=32 from rfl,ext_take s (by omega)]
 (((refine dm_purC hM ?_ (fun _ _ hM=>?_)));(focus (first|exact trivial|assumption|omega));((refine dp_c ?_ ?_));(focus omega))
 rw[show Int.toNat 32=32 from rfl,ext_drop]
 refine dm_pure hM (fun w hM=>open_ok (kemH (pubH k) (s.take 32)) ab (s.drop 32) hl (fun x hx=>hs x (List.mem_of_mem_drop hx)) (by rw[List.length_drop];omega) w) (fun w5 _ hM=>?_)
 (((refine dp_c trivial ?_;refine dp_c trivial ?_;refine mm_end hM ?_;clear hM;intro _ hM)))
 unfold unwrapE
 rw[if_neg (by omega)]
 exact⟨rfl,hM.st⟩
end
end Go.Proofs.YtpjodlnlmaaihaaGreat
namespace Go.Proofs.YtpjodlnlmaaihaaGreat
open Go.RowKit Go.Lib
structure Rg where
 pub:H32
 wraps:List (List Int)
abbrev Rg.row (r:Rg) (C:Option Addr) (c:Nat):List Fd:=[.arr 32 (u8s r.pub.1),.one (.slice C r.wraps.length c)]
abbrev strs (l:List (List Int)):List (List Fd):=l.map fun s=>[Fd.one (.string (strOfNums s))]
def RgF (H:Hp) (q:List Fd) (r:Rg):Prop:=∃ C c,q=r.row C c∧Sl H 1 C (strs r.wraps)∧r.wraps.length≤100000
theorem RgF.mono {H H':Hp} {q:List Fd} {r:Rg} (h:RgF H q r) (k:H.le H'):RgF H' q r:=by
 obtain⟨C,c,h1,h2,h3⟩:=h
 exact⟨C,c,h1,h2.mono k,h3⟩
structure Gw where
 tree:Tr
 rungs:List Rg
 secs:List H32
 keys:List Ky
 com:H32
def Gw.none:Gw:=⟨Tr.none,[],[],[],hzero⟩
abbrev gfd (A:Option Addr) (n a:Nat) (B:Option Addr) (m b:Nat) (R:Option Addr) (rn ra:Nat) (S:Option Addr) (sn sa:Nat) (K:Option Addr) (kn ka:Nat) (com:H32):List Fd:=
 [.one (.slice A n a),.one (.slice B m b),.one (.slice R rn ra),.one (.slice S sn sa),.one (.slice K kn ka),.arr 32 (u8s com.1)]
def GwF (H:Hp) (v:Value) (g:Gw):Prop:=∃ A a B b R ra S sa K ka qs,v=.agg (fl (gfd A g.tree.ls.length a B g.tree.ps.length b R g.rungs.length ra S g.secs.length sa K g.keys.length ka g.com)).toArray ∧
 TrF H (tv A g.tree.ls.length a B g.tree.ps.length b) g.tree∧Sl H 33 R qs∧All2 (RgF H) qs g.rungs∧Sl H 32 S (kfds g.secs)∧Sl H 33 K (g.keys.map Ky.fds)
theorem GwF.mono {H H':Hp} {v:Value} {g:Gw} (h:GwF H v g) (k:H.le H'):GwF H' v g:=by
 obtain⟨A,a,B,b,R,ra,S,sa,K,ka,qs,h1,h2,h3,h4,h5,h6⟩:=h
 exact⟨A,a,B,b,R,ra,S,sa,K,ka,qs,h1,h2.mono k,h3.mono k,h4.mono fun _ _ x=>RgF.mono x k,h5.mono k,h6.mono k⟩
theorem TrF.none (H:Hp):TrF H (tv .none 0 0 .none 0 0) Tr.none:=⟨⟨.none,0,.none,0,[],rfl,Sl.nil _ _ _,Sl.nil _ _ _,trivial⟩,by decide,by decide⟩
theorem GwF.none (H:Hp):GwF H (.agg (fl (gfd .none 0 0 .none 0 0 .none 0 0 .none 0 0 .none 0 0 hzero)).toArray) Gw.none:=⟨.none,0,.none,0,.none,0,.none,0,.none,0,[],rfl,TrF.none H,Sl.nil _ _ _,trivial,Sl.nil _ _ _,Sl.nil _ _ _⟩
abbrev sleafK:ByteArray:=ByteArray.mk #[108,101,97,102]
def leafS (once:H32):H32:=drv once sleafK es0
def pubK (s:H32) (k:Nat):H32:=pubH (drv (secK s k) bnode es0)
def pubsL (s:H32) (n:Nat):List H32:=(List.range n).map (pubK s)
theorem pubsL_succ (s:H32) (n:Nat):pubsL s (n+1)=pubsL s n++[pubK s n]:=by simp[pubsL,List.range_succ]
def wrapT (t:Tr) (once:H32) (about:List Int) (s:H32) (i j:Nat) (x:Int):List Int:=wrapL rowK tagK kemH (pubAt t x).1 (drv once swrap (strOfNums (numB i++numB j))) about s.1
def wrapsT (t:Tr) (once:H32) (about:List Int) (s:H32) (i:Nat) (side:List Int) (n:Nat):List (List Int):=(List.range n).map fun j=>wrapT t once about s i j (side.getD j 0)
theorem wrapsT_succ (t:Tr) (once:H32) (about:List Int) (s:H32) (i:Nat) (side:List Int) (n:Nat):wrapsT t once about s i side (n+1)=wrapsT t once about s i side n++[wrapT t once about s i n (side.getD n 0)]:=by simp[wrapsT,List.range_succ]
theorem wrapsT_len (t:Tr) (once:H32) (about:List Int) (s:H32) (i:Nat) (side:List Int) (n:Nat):(wrapsT t once about s i side n).length=n:=by simp[wrapsT]
def rungK (t:Tr) (once:H32) (about:List Int) (s:H32) (side:List Int) (i:Nat):Rg:=⟨pubK s (i+1),wrapsT t once about (secK s (i+1)) i side side.length⟩
def rungsK (t:Tr) (pl:Int) (way fresh:List Int) (once:H32) (about:List Int) (s:H32) (n:Nat):List Rg:=(List.range n).map fun i=>rungK t once about s (sideK t pl way fresh i) i
theorem rungsK_succ (t:Tr) (pl:Int) (way fresh:List Int) (once:H32) (about:List Int) (s:H32) (n:Nat):rungsK t pl way fresh once about s (n+1)=rungsK t pl way fresh once about s n++[rungK t once about s (sideK t pl way fresh n) n]:=by simp[rungsK,List.range_succ]
theorem rungsK_len (t:Tr) (pl:Int) (way fresh:List Int) (once:H32) (about:List Int) (s:H32) (n:Nat):(rungsK t pl way fresh once about s n).length=n:=by simp[rungsK]
def growG (t:Tr) (pl:Int) (once:H32) (about:List Int) (fresh:List Int):Gw:=
 let way:=dirL t.size pl
 let s:=leafS once
 ⟨(t.pathP pl (pubK s 0) ((pubsL s (way.length+1)).drop 1)).1,rungsK t pl way fresh once about s way.length,(secL s (way.length+1)).drop 1,sortedK (keysL (2*pl::way) s (way.length+1)),comS s (way.length+1)⟩
def growT (t:Tr) (pl:Int) (once:H32) (about:List Int) (fresh:List Int):Gw × Int:=
 if ¬t.right=true then (Gw.none,1) else if t.nobody pl then (Gw.none,7) else if 65536<about.length then (Gw.none,5) else (growG t pl once about fresh,0)
theorem resL_thr {t:Tr} (h:t.Rt):∀ (f:Nat) (x:Int),thr t.size x→∀ y∈resL f t x,thr t.size y
 | 0,x,ht,y,hy=>by
  unfold resL at hy
  split at hy
  ·rw[List.mem_singleton.1 hy]
   exact ht
  ·cases hy
 | f+1,x,ht,y,hy=>by
  unfold resL at hy
  by_cases he:x%2=0
  ·rw[if_pos he]at hy
   split at hy
   ·rw[List.mem_singleton.1 hy]
    exact ht
   ·cases hy
  ·rw[if_neg he]at hy
   have hlen:=h.len
   have hts:t.size=t.ls.length:=rfl
   obtain⟨k1,k2,k3⟩:=id ht
   have hix:(x / 2).toNat<t.ps.length:=by omega
   obtain⟨-,hd,-⟩:=h.parts.2 _ hix
   by_cases hs:(parAt t (x / 2)).set=true
   ·rw[if_pos hs]at hy
    rcases List.mem_cons.1 hy with rfl|hy
    ·exact ht
    ·obtain⟨p,hp,rfl⟩:=List.mem_map.1 hy
     rw[parAt_mem hix]at hp
     obtain⟨a1,a2,-⟩:=hld_rng (hd p hp).1
     exact⟨k1,by omega,by omega⟩
   ·rw[if_neg hs]at hy
    obtain⟨⟨t1,t2⟩,-⟩:=lr_eq ht (by omega)
    rcases List.mem_append.1 hy with hy|hy
    ·exact resL_thr h f _ t1 y hy
    ·exact resL_thr h f _ t2 y hy
theorem sideK_thr {t:Tr} (h:t.Rt) {pl:Int} {way fresh:List Int} {i:Nat}:∀ y∈sideK t pl way fresh i,thr t.size y:=fun y hy=>by
 have hy:=(List.mem_filter.1 hy).1
 unfold resT at hy
 split at hy
 ·rename_i ht
  exact resL_thr h 8 _ ht y hy
 ·cases hy
theorem way_mem {n pl:Int} (h:0≤pl∧pl<n∧n≤64) {m:Nat} (hm:m<(dirL n pl).length):0≤(dirL n pl)[m]∧(dirL n pl)[m]≤126:=by
 have hd:dirL n pl=dirF 8 n (2*pl):=if_pos ⟨h.1,h.2.1⟩
 have h1:=dirF_nth (n:=n) 8 (2*pl) m (by rw[← hd];exact hm)
 have e:(dirL n pl)[m]=(dirF 8 n (2*pl))[m]'(by rw[← hd];exact hm):=by simp only[hd]
 rw[e]
 refine⟨h1.2,?_⟩
 have h2:=h1.1
 have h3:=h1.2
 rw[h2]at h3 ⊢
 have ht:=ab_thr (ab_pos (Int.not_lt.2 h3)) (Int.not_lt.2 h3)
 obtain⟨k1,k2,k3⟩:=ht
 omega
section
variable {H:Hp} {w0 w:World} {L R:List Res} {A B K F:Option Addr} {a b c n m kc fc:Nat} {t:Tr} {v:Value}
theorem cblank_ok (p:Int) (h:TrF H v t) (hf:Fz H w):Calls Tryz.prog 44 #[v,.int .i64 p] w fun en w'=>en=.returned (.bool (decide (t.nobody p)))∧St w [] w':=by
 obtain⟨A,a,B,b,q,rfl,h1,-⟩:=h.ex
 have hM:=Mem.start hf
 have hl':t.ls.length≤9223372036854775807:=h.len.1
 refine C_climb_blank ?_
 unfold F_climb_blank
 (((refine mm_box hM ?_;clear hM;intro _ _ hM)))
 (((refine mop_cS trivial ?_ ?_)))
 ·intro h0
  ((((iterate 5 refine mguard_n1 ?_);refine mop_c trivial ?_;(iterate 7 refine mguard_n1 ?_);refine mop_c trivial ?_)))
  exact⟨by rw[decide_eq_true (show t.nobody p from .inl (.inl h0))],hM.st⟩
 ·intro h0
  (((refine mguard_yes ?_;refine mop_c trivial ?_;refine mguard_yes ?_;refine mop_c trivial ?_;refine mguard_yes ?_;refine mm_ld hM ?_;refine mguard_yes ?_;refine mop_c trivial ?_;refine mguard_yes ?_)))
  (((refine mop_cS trivial ?_ ?_)))
  ·intro h2
   (((refine mop_c trivial ?_;(iterate 7 refine mguard_n1 ?_);refine mop_c trivial ?_)))
   exact⟨by rw[decide_eq_true (show t.nobody p from .inl (.inr h2))],hM.st⟩
  ·intro h2
   have h3:p.toNat<t.ls.length:=by omega
   have h4:=nameAt_at (ls:=t.ls) (p:=p) (by omega) h3
   (((refine mop_c trivial ?_;refine mguard_yes ?_;refine mop_c trivial ?_;refine mguard_yes ?_;refine mm_ld hM ?_;refine mguard_yes ?_;refine mop_c trivial ?_;refine mguard_yes ?_));(refine mm_ixs ‹_› ?_ ?_ ?_);(focus (simp only[List.length_map];omega));(focus (simp only[List.length_map];first|done|omega));((intro _ _ hA));(cases hA);((refine mguard_yes ?_;refine mop_c trivial ?_;refine mguard_yes ?_));(refine mm_lds hM ‹_› (map_at ?_) ?_);(focus omega);((refine mguard_yes ?_)))
   rw[← h4]
   (((refine mop_cS trivial ?_ ?_)))
   ·intro h5
    (((refine mop_c trivial ?_)))
    exact⟨by rw[decide_eq_true (show t.nobody p from .inr h5)],hM.st⟩
   ·intro h5
    (((refine mop_c trivial ?_)))
    exact⟨by rw[decide_eq_false (show ¬t.nobody p from fun k=>k.elim (fun k=>k.elim h0 h2) h5)],hM.st⟩
theorem sld_pur {P:Program} {n cap sz t:Nat} {ps:List (List Fd)} {kk:IntKind} {ll:Int} (a:Sl H sz A ps) [c:SliS P t sz] (hn:n=ps.length) (hl:0≤ll∧ll≤n) (hcap:n≤cap):∃ B,Sl H sz B (ps.drop ll.toNat)∧Pur P (o_slice t (.slice A n cap) (some (.int kk ll)) none none) (.slice B (n - ll.toNat) (cap - ll.toNat)):=by
 have h5:=fun w=>run_slice_l (P:=P) w t A n cap c.ok.1 kk ll hl.1 hl.2
 have h6:∀ w,(sizeOf (P.elem t)).run P w=.ok sz w:=run_size c.ok.2
 cases A with
 | none=>
  have hp:ps=[]:=by
   rcases a.at_ with h|⟨b,o,c,h,_⟩
   ·exact h
   ·cases h
  subst hp
  refine⟨none,by rw[List.drop_nil];exact Sl.nil _ _ _,fun w=>?_⟩
  simp only[o_slice,sv,Sem.run_bind,run_sliceAt_slice w t _ _ _ _ c.ok.1,h5,h6,Result.andThen_ok,sliced]
  simp
 | some a0=>
  by_cases hc:cap=ll.toNat
  ·refine⟨some a0,by rw[List.drop_eq_nil_of_le (by omega)];exact Sl.nil _ _ _,fun w=>?_⟩
   simp only[o_slice,sv,Sem.run_bind,run_sliceAt_slice w t _ _ _ _ c.ok.1,h5,h6,Result.andThen_ok,sliced,if_pos hc]
   simp
  ·by_cases hp:ps=[]
   ·subst hp
    refine⟨some (a0.add (ll.toNat*sz)),by rw[List.drop_nil];exact Sl.nil _ _ _,fun w=>?_⟩
    simp only[o_slice,sv,Sem.run_bind,run_sliceAt_slice w t _ _ _ _ c.ok.1,h5,h6,Result.andThen_ok,sliced,if_neg hc,Option.map_some]
    simp
   ·obtain⟨b,o,hA⟩:=a.some_ (List.length_pos_iff.2 hp)
    cases hA
    refine⟨some ⟨b,o+ll.toNat*sz,none⟩,a.drop_ (by omega),fun w=>?_⟩
    simp only[o_slice,sv,Sem.run_bind,run_sliceAt_slice w t _ _ _ _ c.ok.1,h5,h6,Result.andThen_ok,sliced,if_neg hc,Option.map_some,Addr.add_lit]
    simp
theorem dp_sld {P:Program} {n cap sz:Nat} {t:TypeId} {ps:List (List Fd)} {Kq:Value→Prop} {kk:IntKind} {ll:Int} (a:Sl H sz A ps) [cc:SliS P t sz] (hn:n=ps.length) (hl:0≤ll∧ll≤n) (hcap:n≤cap) (hk:∀ B,Sl H sz B (ps.drop ll.toNat)→Kq (.slice B (n - ll.toNat) (cap - ll.toNat))):dp P (o_slice t (.slice A n cap) (some (.int kk ll)) none none) Kq:=by
 obtain⟨B,h1,h2⟩:=sld_pur (P:=P) (t:=t) (kk:=kk) a hn hl hcap
 exact dp_pur h2 (hk B h1)
theorem dfz {P:Program} {s:Sem Next} {ext:Bool} {Q:Hp} {Kt:Value→World→Prop} (h:Mem H w0 L w) (hk:∀ w1,Mem H w0 L w1→mop P s w1 (fun v w'=>Fz Q w'∧Kt v w') (fun _ _=>False)):dfS P (Rl.fz Q) w s ext Kt:=
 ⟨fun w1 hd=>mop_mono (hk w1 (h.drawn hd)) (fun _ _ x=>⟨fun _ _=>x.1,x.2⟩) fun _ _ h=>h⟩
end
end Go.Proofs.YtpjodlnlmaaihaaGreat
namespace Go.Proofs.YtpjodlnlmaaihaaGreat
open Go.RowKit Go.Lib
section
variable {H:Hp} {w0 w:World} {L R:List Res} {A B K F:Option Addr} {a b c n m kc fc:Nat} {t:Tr} {v:Value}
theorem grow_ok (pl:Int) (once:H32) (about fresh:List Int) (hpl:-1000000≤pl∧pl≤1000000) (hal:about.length≤100000000) (hl:fresh.length≤maxLen) (h:TrF H v t) (hfr:Sl H 1 F (ints8 fresh)) (hf:Fz H w):
  Calls Tryz.prog 16 #[.pointer none,v,.int .i64 pl,ha once,.string (strOfNums about),.slice F fresh.length fc] w (Outp H w fun H' r=>∃ gv,r=.tuple #[gv,.int .i64 (growT t pl once about fresh).2]∧GwF H' gv (growT t pl once about fresh).1):=by
 have hx:=h.ex
 obtain⟨TA,ta,TB,tb,tq,rfl,-⟩:=hx
 obtain⟨w1,hw1⟩:∃ w1,w1=w:=⟨_,rfl⟩
 rw[← hw1]
 rw[← hw1]at hf
 have hM:=Mem.start hf
 have hab:(strOfNums about).size=about.length:=strOfNums_size _
 refine C_climb_Grow ?_
 unfold F_climb_Grow
 (((refine mm_box hM ?_;clear hM;intro _ _ hM;refine mm_box hM ?_;clear hM;intro _ _ hM;refine mm_new hM ?_;clear hM;intro _ _ hM;refine mm_ld hM ?_)))
 rename_i gt _ go _ g12 _
 refine mm_pure hM (right_c h hM.fz) (fun w hM2=>?_)
 replace hM:=hM2
 clear hM2
 unfold growT
 cases hr:t.right
 ·(((refine mop_c trivial ?_;refine mif_true ?_;refine mop_c trivial ?_;refine mm_st hM ?_;clear hM;intro _ hM;refine rm_ld hM ?_)))
  exact hM.out (Le.refl _ _) ⟨_,rfl,GwF.none _⟩
 rw[if_neg (by simp)]
 have hR:=Tr.rt.1 hr
 have hlen:=hR.len
 have hts:t.size=t.ls.length:=rfl
 have hdl:=dirL_len t.size pl
 (((refine mop_c trivial ?_;refine mif_false ?_;refine mm_ld hM ?_)))
 refine mm_pure hM (cblank_ok pl h hM.fz) (fun w hM2=>?_)
 replace hM:=hM2
 clear hM2
 by_cases hnb:t.nobody pl
 ·rw[decide_eq_true hnb]
  (((refine mif_true ?_;refine mop_c trivial ?_;refine mm_st hM ?_;clear hM;intro _ hM;refine rm_ld hM ?_)))
  exact hM.out (Le.refl _ _) ⟨_,by rw[if_pos hnb],by rw[if_pos hnb];exact GwF.none _⟩
 rw[decide_eq_false hnb,if_neg hnb]
 obtain⟨b0,b1,b2⟩:=Tr.body hnb
 (((refine mif_false ?_;refine mop_c trivial ?_)))
 (((refine mop_cS trivial ?_ ?_)))
 ·intro hgt
  (((refine mif_true ?_;refine mop_c trivial ?_;refine mm_st hM ?_;clear hM;intro _ hM;refine rm_ld hM ?_)))
  exact hM.out (Le.refl _ _) ⟨_,by rw[if_pos (by omega)],by rw[if_pos (by omega)];exact GwF.none _⟩
 intro hgt
 rw[if_neg (by omega)]
 (((refine mif_false ?_;refine mop_c trivial ?_;refine mm_ld hM ?_;refine mop_c trivial ?_)))
 refine mm_call hM (bdirect_ok t.size pl (by omega) hM.fz) ?_
 clear hM
 rintro H2 r w2 l2 hM ⟨WA,wc,rfl,hW⟩
 have hgw:growG t pl once about fresh=⟨(t.pathP pl (pubK (leafS once) 0) ((pubsL (leafS once) ((dirL t.size pl).length+1)).drop 1)).1,rungsK t pl (dirL t.size pl) fresh once about (leafS once) (dirL t.size pl).length,(secL (leafS once) ((dirL t.size pl).length+1)).drop 1,sortedK (keysL (2*pl::dirL t.size pl) (leafS once) ((dirL t.size pl).length+1)),comS (leafS once) ((dirL t.size pl).length+1)⟩:=rfl
 rw[hgw]
 clear hgw
 replace hM:Mem H2 w1 (fb go 34 [.arr 32 (u8s once.1)]::[fb gt 25 (tfd TA t.ls.length ta TB t.ps.length tb),fb g12 56 (gfd none 0 0 none 0 0 none 0 0 none 0 0 none 0 0 hzero)]) _:=hM.sub
 obtain⟨H3,l3,hM3,hgo⟩:=hM.fzb
 clear hM
 have hM:=hM3
 clear hM3
 have hs3:=hW.mono l3.le
 have d1:sleafK.size≤1000000∧es0.size≤1000000:=by decide
 have hwr:∀ x∈2*pl::dirL t.size pl,0≤x∧x≤1000:=fun x hx=>by
  rcases List.mem_cons.1 hx with rfl|hx
  ·omega
  ·obtain⟨m,hm,rfl⟩:=List.getElem_of_mem hx
   have:=way_mem ⟨b0,by omega⟩ hm
   omega
 skip
 refine⟨fun v1 v2 v3 w'=>∃ (K1:Option Addr) (c1:Nat) (K2:Option Addr) (c2 g17:Nat),v1=.slice K1 ((dirL t.size pl).length+1) c1∧v2=.slice K2 ((dirL t.size pl).length+1) c2∧v3=.pointer (some ⟨g17,0,none⟩)∧Mem H3 w1 [rowR 34 32 K1 ((dirL t.size pl).length+1) c1 (kfds (secL (leafS once) ((dirL t.size pl).length+1))),rowR 43 33 K2 ((dirL t.size pl).length+1) c2 ((keysL (2*pl::dirL t.size pl) (leafS once) ((dirL t.size pl).length+1)).map Ky.fds),fb g17 34 [.arr 32 (u8s (comS (leafS once) ((dirL t.size pl).length+1)).1)],fb gt 25 (tfd TA t.ls.length ta TB t.ps.length tb),fb g12 56 (gfd none 0 0 none 0 0 none 0 0 none 0 0 none 0 0 hzero)] w',?_,?_⟩
 ·refine⟨Rl.fz H3,?_⟩
  have hF:=hM.fz
  repeat' apply And.intro
  all_goals
   (((refine dp_c ?_ ?_));(focus omega);(refine dK_ldf ‹_› ‹_› ?_))
   repeat (first
    | (refine dfz hM (fun w hM=>?_)
       with_reducible show mop _ (o_builtin .append _ _ _ _) _ _ _
       refine mm_apps hM hs3 (ints8_length _).symm ?_ ?_
       focus (constructor <;> omega)
       clear hM
       intro A' c' w' hM
       rw[Nat.add_comm 1]at hM ⊢
       refine⟨hM.fz,?_⟩
       skip)
    | (refine dfz hM (fun w hM=>?_)
       with_reducible show mop _ (o_call (fv 45) _) _ _ _
       refine mm_own (up_ok (2*pl::dirL t.size pl) (leafS once) (by simp only[List.length_cons];omega) hwr (hM.reads (A:=A')) hM) ?_
       clear hM
       rintro r w' ⟨K1,c1,K2,c2,rfl,hM⟩
       refine⟨hM.fz,?_⟩
       (first|((((iterate 3 refine dp_c trivial ?_);refine dS_st hM ?_;clear hM;intro _ hM;refine mm_end hM ?_;clear hM;intro _ hM)))|((((iterate 3 refine dp_c trivial ?_))))))
    | (refine dfz hM (fun w hM=>?_)
       (first|(((refine mm_bsl hM ?_ ?_ ?_));(focus rfl);(focus (constructor <;> simp));((clear hM;intro _ _ hM)))|(((refine mm_purC hM ?_ ?_));(focus (first|exact trivial|assumption|omega));((clear hM;intro _ hM)))|(((refine mm_new hM ?_;clear hM;intro _ _ hM))))
       refine⟨hM.fz,?_⟩
       (first|(((refine dS_st hM ?_;clear hM;intro _ hM;refine mm_end hM ?_;clear hM;intro _ hM)))|skip)))
   exact⟨_,_,_,_,_,rfl,rfl,rfl,hM.sub⟩
 clear hM
 rintro v1 v2 v3 u3 w3 ⟨K1,c1,K2,c2,g17,rfl,rfl,rfl,hM⟩
 have hcap1:=(Mem.rowLen hM ⟨.refl _⟩).2.1
 obtain⟨H4,l4,hM4,hK1',-⟩:=hM.fz0
 obtain⟨H5,l5,hM5,hK2,-⟩:=hM4.fz0
 have hK1:=hK1'.mono l5.le
 clear hM hM4 hK1'
 have hM:=hM5
 clear hM5
 have hkn:(keysL (2*pl::dirL t.size pl) (leafS once) ((dirL t.size pl).length+1)).length=(dirL t.size pl).length+1:=keysL_len _ _ _
 (((refine mm_new hM ?_;clear hM;intro _ _ hM;refine mop_c trivial ?_)))
 rename_i g18 _
 have hM9:Mem H5 w1 [rowR 34 32 none 0 0 (kfds (pubsL (leafS once) 0)),fb g18 56 (gfd none 0 0 none 0 0 none 0 0 none 0 0 none 0 0 hzero),fb g17 34 [.arr 32 (u8s (comS (leafS once) ((dirL t.size pl).length+1)).1)],fb gt 25 (tfd TA t.ls.length ta TB t.ps.length tb),fb g12 56 (gfd none 0 0 none 0 0 none 0 0 none 0 0 none 0 0 hzero)] _:=hM.row0 34 32
 refine⟨fun v1 v2 w'=>∃ (i:Nat) (K3:Option Addr) (c3:Nat),v1=.slice K3 i c3∧v2=.int .i64 i∧i≤(dirL t.size pl).length+1∧Mem H5 w1 [rowR 34 32 K3 i c3 (kfds (pubsL (leafS once) i)),fb g18 56 (gfd none 0 0 none 0 0 none 0 0 none 0 0 none 0 0 hzero),fb g17 34 [.arr 32 (u8s (comS (leafS once) ((dirL t.size pl).length+1)).1)],fb gt 25 (tfd TA t.ls.length ta TB t.ps.length tb),fb g12 56 (gfd none 0 0 none 0 0 none 0 0 none 0 0 none 0 0 hzero)] w',fun _ v _=>match v with | .int _ k=>(dirL t.size pl).length+1 - k.toNat|_=>0,⟨0,none,0,rfl,rfl,by omega,hM9⟩,?_⟩
 clear hM hM9
 rintro v1 v2 u4 w4 ⟨i,K3,c3,rfl,rfl,hi,hM⟩
 skip
 (((refine mop_cS trivial ?_ ?_)))
 ·intro hlt
  have hik:i<(keysL (2*pl::dirL t.size pl) (leafS once) ((dirL t.size pl).length+1)).length:=by omega
  have hke:(keysL (2*pl::dirL t.size pl) (leafS once) ((dirL t.size pl).length+1))[i]=keyK (2*pl::dirL t.size pl) (leafS once) i:=by simp[keysL]
  have hpv:(keysL (2*pl::dirL t.size pl) (leafS once) ((dirL t.size pl).length+1))[i].priv=drv (secK (leafS once) i) bnode es0:=by
   rw[hke]
   unfold keyK
   have hmem:(2*pl::dirL t.size pl).getD i 0∈2*pl::dirL t.size pl:=by
    rw[List.getD_eq_getElem?_getD,List.getElem?_eq_getElem (by simp only[List.length_cons];omega)]
    exact List.getElem_mem _
   rw[mkKy_eq (hwr _ hmem)]
  (((refine mif_true ?_));(refine mm_ixs ‹_› ?_ ?_ ?_);(focus (simp only[List.length_map];omega));(focus (simp only[List.length_map];first|done|omega));((intro _ _ hA));(cases hA);(refine mm_lds0 hM ‹_› (map_atI ?_) ?_);(focus omega);((refine mm_new hM ?_;clear hM;intro _ _ hM;refine mm_st hM ?_;clear hM;intro _ hM;refine mop_c trivial ?_;refine mm_ld hM ?_;refine mm_purC hM ?_ ?_));(focus (first|exact trivial|assumption|omega));((clear hM;intro _ hM;refine mm_bsl hM ?_ ?_ ?_));(focus rfl);(focus (constructor <;> simp));((clear hM;intro _ _ hM;refine mm_appo hM ?_ ?_));(focus omega);((clear hM;intro _ _ _ hM;refine mop_c ?_ ?_));(focus omega))
  rename_i A3 c3' _
  rw[hpv]at hM
  have e1:kfds (pubsL (leafS once) i)++[[.arr 32 (u8s (pubH (drv (secK (leafS once) i) bnode es0)).1)]]=kfds (pubsL (leafS once) (i+1)):=by
   rw[pubsL_succ,kfds_app]
   rfl
  rw[e1]at hM
  exact⟨⟨i+1,A3,c3',rfl,by rw[Value.int.injEq];refine⟨rfl,?_⟩;push_cast;rfl,by omega,hM.sub⟩,by simp only;omega⟩
 intro hge
 obtain rfl:i=(dirL t.size pl).length+1:=by omega
 have hcap3:=(Mem.rowLen hM ⟨.refl _⟩).2.1
 obtain⟨H6,l6,hM6,hK3,-⟩:=hM.fz0
 clear hM
 have hM:=hM6
 clear hM6
 have h6:=h.mono (l2.trans (l3.trans (l4.trans (l5.trans l6)))).le
 have hfr6:=hfr.mono (l2.trans (l3.trans (l4.trans (l5.trans l6)))).le
 have hW6:=hs3.mono (l4.trans (l5.trans l6)).le
 replace hK1:=hK1.mono l6.le
 replace hK2:=hK2.mono l6.le
 (((refine mif_false ?_;refine mm_ld hM ?_)))
 refine mm_call hM (beside_ok pl fresh hl ⟨b0,by omega⟩ hR h6 hW6 hfr6 hM.fz) ?_
 clear hM
 rintro H7 r w7 l7 hM ⟨SA,sc,qs,rfl,hS,hSA⟩
 have hsl:qs.length=(dirL t.size pl).length:=by
  have:=hSA.len
  rw[this]
  simp[sidesK]
 replace hK1:=hK1.mono l7.le
 replace hK2:=hK2.mono l7.le
 replace hK3:=hK3.mono l7.le
 (((refine mop_c trivial ?_)))
 have hgo7:=hgo.mono (l4.trans (l5.trans (l6.trans l7))).le
 have hle7:=l2.trans (l3.trans (l4.trans (l5.trans (l6.trans l7))))
 have hM9:Mem H7 w1 [fb g18 56 (gfd none 0 0 none 0 0 none 0 0 none 0 0 none 0 0 hzero),rowR 72 33 none 0 0 [],fb g17 34 [.arr 32 (u8s (comS (leafS once) ((dirL t.size pl).length+1)).1)],fb gt 25 (tfd TA t.ls.length ta TB t.ps.length tb),fb g12 56 (gfd none 0 0 none 0 0 none 0 0 none 0 0 none 0 0 hzero)] _:=(hM.row0 72 33).sub
 refine⟨fun v1 w'=>∃ (i:Nat) (H8:Hp) (RA:Option Addr) (rc:Nat) (rs:List (List Fd)),v1=.int .i64 i∧i≤(dirL t.size pl).length∧rs.length=i∧Le w1 H7 H8∧All2 (RgF H8) rs (rungsK t pl (dirL t.size pl) fresh once about (leafS once) i)∧Mem H8 w1 [fb g18 56 (gfd none 0 0 none 0 0 RA i rc none 0 0 none 0 0 hzero),rowR 72 33 RA i rc rs,fb g17 34 [.arr 32 (u8s (comS (leafS once) ((dirL t.size pl).length+1)).1)],fb gt 25 (tfd TA t.ls.length ta TB t.ps.length tb),fb g12 56 (gfd none 0 0 none 0 0 none 0 0 none 0 0 none 0 0 hzero)] w',fun v _=>match v with | .int _ k=>(dirL t.size pl).length - k.toNat|_=>0,⟨0,H7,none,0,[],rfl,by omega,rfl,Le.refl _ _,trivial,hM9⟩,?_⟩
 clear hM hM9
 rintro v1 u8 w8 ⟨i,H8,RA,rc,rs,rfl,hi,hrs,l8,hrg,hM⟩
 have hS8:=hS.mono l8.le
 have hK18:=hK1.mono l8.le
 have hK28:=hK2.mono l8.le
 have hK38:=hK3.mono l8.le
 have hgo8:=hgo7.mono l8.le
 have h8:=h.mono (hle7.trans l8).le
 skip
 (((refine mop_cS trivial ?_ ?_)))
 ·intro hlt
  have hit:i<(dirL t.size pl).length:=by omega
  have hpn0:(pubsL (leafS once) ((dirL t.size pl).length+1)).length=(dirL t.size pl).length+1:=by simp[pubsL]
  have hsn0:(secL (leafS once) ((dirL t.size pl).length+1)).length=(dirL t.size pl).length+1:=secL_len _ _
  have hpe:(pubsL (leafS once) ((dirL t.size pl).length+1))[i+1]'(by omega)=pubK (leafS once) (i+1):=by simp[pubsL]
  have hsc:(secL (leafS once) ((dirL t.size pl).length+1))[i+1]'(by omega)=secK (leafS once) (i+1):=by simp[secL]
  have hpn:i+1<(pubsL (leafS once) ((dirL t.size pl).length+1)).length:=by simp[pubsL];omega
  have hsn:i+1<(secL (leafS once) ((dirL t.size pl).length+1)).length:=by rw[secL_len];omega
  have hqp:(kfds (pubsL (leafS once) ((dirL t.size pl).length+1)))[((i:Int)+1).toNat]?=some [.arr 32 (u8s (pubK (leafS once) (i+1)).1)]:=by
   rw[show((i:Int)+1).toNat=i+1 by omega,List.getElem?_map,List.getElem?_eq_getElem hpn]
   simp[pubsL]
  have hqs:(kfds (secL (leafS once) ((dirL t.size pl).length+1)))[((i:Int)+1).toNat]?=some [.arr 32 (u8s (secK (leafS once) (i+1)).1)]:=by
   rw[show((i:Int)+1).toNat=i+1 by omega,List.getElem?_map,List.getElem?_eq_getElem hsn]
   simp[secL]
  obtain⟨q,hq1,SC,scc,rfl,hSC,hscl⟩:=hSA.at_ (i:=i) (by simp[sidesK];omega)
  have hse:(sidesK t pl (dirL t.size pl) fresh (dirL t.size pl).length)[i]'(by simp[sidesK];omega)=sideK t pl (dirL t.size pl) fresh i:=by simp[sidesK]
  rw[hse]at hq1 hSC hscl
  have hSC8:=hSC.mono l8.le
  have hthr:=sideK_thr hR (pl:=pl) (way:=dirL t.size pl) (fresh:=fresh) (i:=i)
  have hq1':qs[((i:Int)).toNat]?=some [.one (.slice SC (sideK t pl (dirL t.size pl) fresh i).length scc)]:=hq1
  (((refine mif_true ?_)))
  refine mm_ixs hS8 (by omega) hsl.symm (fun bb oo hB=>?_)
  cases hB
  refine mm_lds0 hM hS8 hq1' ?_
  (((refine mop_c ?_ ?_));(focus omega);(refine mm_ixs ‹_› ?_ ?_ ?_);(focus (simp only[List.length_map];omega));(focus (simp only[List.length_map];first|done|omega));((intro _ _ hA));(cases hA);(refine mm_lds0 hM ‹_› (map_atI ?_) ?_);(focus omega);((refine mop_c trivial ?_;refine mm_new hM ?_;clear hM;intro _ _ hM;refine mm_st hM ?_;clear hM;intro _ hM;refine mop_c trivial ?_)))
  rename_i g24 _ _
  rw[hpe]at hM
  have hM9:Mem H8 w1 [fb g24 72 [.arr 32 (u8s (pubK (leafS once) (i+1)).1),.one (.slice none 0 0)],rowR 9 1 none 0 0 [],fb g18 56 (gfd none 0 0 none 0 0 RA i rc none 0 0 none 0 0 hzero),rowR 72 33 RA i rc rs,fb g17 34 [.arr 32 (u8s (comS (leafS once) ((dirL t.size pl).length+1)).1)],fb gt 25 (tfd TA t.ls.length ta TB t.ps.length tb),fb g12 56 (gfd none 0 0 none 0 0 none 0 0 none 0 0 none 0 0 hzero)] _:=(hM.row0 9 1).sub
  refine⟨fun v1 w'=>∃ (j:Nat) (WB:Option Addr) (wb:Nat),v1=.int .i64 j∧j≤(sideK t pl (dirL t.size pl) fresh i).length∧Mem H8 w1 [fb g24 72 [.arr 32 (u8s (pubK (leafS once) (i+1)).1),.one (.slice WB j wb)],rowR 9 1 WB j wb (strs (wrapsT t once about (secK (leafS once) (i+1)) i (sideK t pl (dirL t.size pl) fresh i) j)),fb g18 56 (gfd none 0 0 none 0 0 RA i rc none 0 0 none 0 0 hzero),rowR 72 33 RA i rc rs,fb g17 34 [.arr 32 (u8s (comS (leafS once) ((dirL t.size pl).length+1)).1)],fb gt 25 (tfd TA t.ls.length ta TB t.ps.length tb),fb g12 56 (gfd none 0 0 none 0 0 none 0 0 none 0 0 none 0 0 hzero)] w',fun v _=>match v with | .int _ k=>(sideK t pl (dirL t.size pl) fresh i).length - k.toNat|_=>0,⟨0,none,0,rfl,by omega,hM9⟩,?_⟩
  clear hM hM9
  rintro v1 u9 w9 ⟨j,WB,wb,rfl,hj,hM⟩
  skip
  (((refine mop_cS trivial ?_ ?_)))
  ·intro hltj
   have hjt:j<(sideK t pl (dirL t.size pl) fresh i).length:=by omega
   obtain⟨x,hx⟩:∃ x,(sideK t pl (dirL t.size pl) fresh i)[j]=x:=⟨_,rfl⟩
   have hxt:=hthr x (hx ▸ List.getElem_mem hjt)
   obtain⟨x1,x2,x3⟩:=id hxt
   have hqx:(ints8 (sideK t pl (dirL t.size pl) fresh i))[((j:Int)).toNat]?=some [.one (.int .i64 x)]:=by
    rw[Int.toNat_natCast,ints8_at hjt,hx]
   have hgd:(sideK t pl (dirL t.size pl) fresh i).getD j 0=x:=by
    rw[List.getD_eq_getElem?_getD,List.getElem?_eq_getElem hjt,hx]
    rfl
   (((refine mif_true ?_)))
   refine⟨fun w'=>∃ (WB:Option Addr) (wb:Nat),Mem H8 w1 [fb g24 72 [.arr 32 (u8s (pubK (leafS once) (i+1)).1),.one (.slice WB (j+1) wb)],rowR 9 1 WB (j+1) wb (strs (wrapsT t once about (secK (leafS once) (i+1)) i (sideK t pl (dirL t.size pl) fresh i) (j+1))),fb g18 56 (gfd none 0 0 none 0 0 RA i rc none 0 0 none 0 0 hzero),rowR 72 33 RA i rc rs,fb g17 34 [.arr 32 (u8s (comS (leafS once) ((dirL t.size pl).length+1)).1)],fb gt 25 (tfd TA t.ls.length ta TB t.ps.length tb),fb g12 56 (gfd none 0 0 none 0 0 none 0 0 none 0 0 none 0 0 hzero)] w',?_,?_⟩
   ·have h8l:=ints8_length (sideK t pl (dirL t.size pl) fresh i)
    refine mm_ixs hSC8 (by omega) (ints8_length _).symm (fun bb oo hB=>?_)
    cases hB
    refine mm_lds0 hM hSC8 hqx ?_
    (((refine mm_ld hM ?_)))
    refine mm_pure hM (cpub_ok x ⟨x2,x3⟩ hR h8 hM.fz) (fun w hM2=>?_)
    replace hM:=hM2
    clear hM2
    (((refine mop_c trivial ?_;refine mop_c trivial ?_;refine mm_new hM ?_;clear hM;intro _ _ hM;refine mm_st hM ?_;clear hM;intro _ hM;refine mop_c ?_ ?_));(focus omega);(refine mm_ixs ‹_› ?_ ?_ ?_);(focus (simp only[List.length_map];omega));(focus (simp only[List.length_map];first|done|omega));((intro _ _ hA));(cases hA);(refine mm_lds0 hM ‹_› (map_atI ?_) ?_);(focus omega);((refine mm_new hM ?_;clear hM;intro _ _ hM;refine mm_st hM ?_;clear hM;intro _ hM)))
    rename_i gp _ _ _ _ gs _ _
    rw[hsc]at hM
    have d9:swrap.size≤1000000∧(strOfNums (numB i++numB j)).size≤1000000:=by
     have a1:=numB_length i
     have a2:=numB_length j
     rw[strOfNums_size,List.length_append]
     exact⟨by decide,by omega⟩
    have hnr:∀ y∈[(i:Int),(j:Int)],0≤y∧y≤4611686018427387903:=by
     intro y hy
     simp only[List.mem_cons,List.not_mem_nil,or_false]at hy
     rcases hy with rfl|rfl <;> omega
    have hnf:[(i:Int),(j:Int)].flatMap numB=numB i++numB j:=by simp
    have hw1:wrapT t once about (secK (leafS once) (i+1)) i j ((sideK t pl (dirL t.size pl) fresh i).getD j 0)=wrapL rowK tagK kemH (pubAt t x).1 (drv once swrap (strOfNums (numB i++numB j))) about (secK (leafS once) (i+1)).1:=by rw[hgd];rfl
    have hstr:strs (wrapsT t once about (secK (leafS once) (i+1)) i (sideK t pl (dirL t.size pl) fresh i) j)++[[.one (.string (strOfNums (wrapL rowK tagK kemH (pubAt t x).1 (drv once swrap (strOfNums (numB i++numB j))) about (secK (leafS once) (i+1)).1)))]]=strs (wrapsT t once about (secK (leafS once) (i+1)) i (sideK t pl (dirL t.size pl) fresh i) (j+1)):=by
     rw[wrapsT_succ,hw1]
     simp[strs]
    repeat' apply And.intro
    all_goals
     (first|(((refine dp_c trivial ?_;refine dm_ld hM ?_;refine dm_ld hM ?_));(refine dm_ldf hM ‹_› ?_);((refine dp_c trivial ?_;refine dm_cvb hM ?_;refine dm_ld hM ?_;refine dS_bsl hM ?_ ?_ ?_));(focus rfl);(focus (constructor <;> simp));((clear hM;intro _ _ hM;refine dS_bsl hM ?_ ?_ ?_));(focus rfl);(focus (constructor <;> simp));((clear hM;intro _ _ hM)))|(((refine dp_c trivial ?_;refine dm_ld hM ?_;refine dm_ld hM ?_));(refine dm_ldf hM ‹_› ?_);((refine dp_c trivial ?_;refine dm_cvb hM ?_;refine dm_ld hM ?_;refine dS_bsl hM ?_ ?_ ?_));(focus rfl);(focus (constructor <;> simp));((clear hM;intro _ _ hM))))
     repeat (first
      | (with_reducible show df _ _ (o_call (fv 49) _) _ _
         refine dm_pure hM (fun w hM=>num_ok [(i:Int),(j:Int)] (by simp) hnr (by exact hM.reads) (Fz.of w)) (fun w5 _ hM2=>?_)
         replace hM:=hM2
         clear hM2
         rw[hnf]
         (first|(((refine dm_purC hM ?_ (fun _ _ hM=>?_)));(focus (first|exact trivial|assumption|omega));((refine dS_bsl hM ?_ ?_ ?_));(focus rfl);(focus (constructor <;> simp));((clear hM;intro _ _ hM)))|(((refine dS_bsl hM ?_ ?_ ?_));(focus rfl);(focus (constructor <;> simp));((clear hM;intro _ _ hM;refine dm_purC hM ?_ (fun _ _ hM=>?_)));(focus (first|exact trivial|assumption|omega)))|(((refine dm_purC hM ?_ (fun _ _ hM=>?_)));(focus (first|exact trivial|assumption|omega)))))
      | (with_reducible show df _ _ (o_call (fv 48) _) _ _
         refine dm_pure hM (fun w hM=>wrap_ok (pubAt t x).1 (drv once swrap (strOfNums (numB i++numB j))) about (secK (leafS once) (i+1)).1 (by omega) (secK (leafS once) (i+1)).2.2 (by rw[(secK (leafS once) (i+1)).2.1];omega) (by exact hM.reads) (by rfl) (by decide) (Fz.of w)) (fun w5 _ hM2=>?_)
         replace hM:=hM2
         clear hM2
         (((refine dS_bsl hM ?_ ?_ ?_));(focus rfl);(focus (constructor <;> simp));((clear hM;intro _ _ hM;refine dS_appF hM ?_ ?_));(focus omega);((clear hM;intro _ _ _ hM;refine dp_c trivial ?_;refine dS_st hM ?_;clear hM;intro _ hM;refine mm_end hM ?_;clear hM;intro _ hM)))))
     rename_i A9 c9 _ _ _
     exact⟨A9,c9,by rw[← hstr];exact hM.sub⟩
   clear hM
   rintro u10 w10 ⟨WB2,wb2,hM⟩
   (((refine mop_c ?_ ?_));(focus omega))
   exact⟨⟨j+1,WB2,wb2,by rw[Value.int.injEq];refine⟨rfl,?_⟩;push_cast;rfl,by omega,hM⟩,by simp only;omega⟩
  ·intro hgej
   obtain rfl:j=(sideK t pl (dirL t.size pl) fresh i).length:=by omega
   have hM9:Mem H8 w1 (rowR 9 1 WB (sideK t pl (dirL t.size pl) fresh i).length wb (strs (wrapsT t once about (secK (leafS once) (i+1)) i (sideK t pl (dirL t.size pl) fresh i) (sideK t pl (dirL t.size pl) fresh i).length))::fb g24 72 [.arr 32 (u8s (pubK (leafS once) (i+1)).1),.one (.slice WB (sideK t pl (dirL t.size pl) fresh i).length wb)]::[fb g18 56 (gfd none 0 0 none 0 0 RA i rc none 0 0 none 0 0 hzero),rowR 72 33 RA i rc rs,fb g17 34 [.arr 32 (u8s (comS (leafS once) ((dirL t.size pl).length+1)).1)],fb gt 25 (tfd TA t.ls.length ta TB t.ps.length tb),fb g12 56 (gfd none 0 0 none 0 0 none 0 0 none 0 0 none 0 0 hzero)]) _:=hM.sub
   clear hM
   obtain⟨H9,l9,hM,hWB,-⟩:=hM9.fz0
   clear hM9
   (((refine mif_false ?_;refine mop_c trivial ?_;refine mm_ld hM ?_;refine mm_ld hM ?_;refine mm_bsl hM ?_ ?_ ?_));(focus rfl);(focus (constructor <;> simp));((clear hM;intro _ _ hM;refine mm_appo hM ?_ ?_));(focus omega);((clear hM;intro _ _ _ hM;refine mop_c trivial ?_;refine mm_st hM ?_;clear hM;intro _ hM;refine mop_c ?_ ?_));(focus omega))
   rename_i A9 c9 _ _
   have hrk:RgF H9 ([.arr 32 (u8s (pubK (leafS once) (i+1)).1),.one (.slice WB (sideK t pl (dirL t.size pl) fresh i).length wb)]) (rungK t once about (leafS once) (sideK t pl (dirL t.size pl) fresh i) i):=by
    refine⟨WB,wb,?_,hWB,?_⟩
    ·unfold Rg.row rungK
     simp only[wrapsT_len]
    ·unfold rungK
     simp only[wrapsT_len]
     omega
   have hrg9:=(hrg.mono fun q x k=>RgF.mono k l9.le).snoc hrk
   rw[← rungsK_succ]at hrg9
   exact⟨⟨i+1,H9,A9,c9,_,by rw[Value.int.injEq];refine⟨rfl,?_⟩;push_cast;rfl,by omega,by rw[List.length_append,hrs];rfl,l8.trans l9,hrg9,hM.sub⟩,by simp only;omega⟩
 ·intro hge
  obtain rfl:i=(dirL t.size pl).length:=by omega
  have hpn0:(pubsL (leafS once) ((dirL t.size pl).length+1)).length=(dirL t.size pl).length+1:=by simp[pubsL]
  have hsn0:(secL (leafS once) ((dirL t.size pl).length+1)).length=(dirL t.size pl).length+1:=secL_len _ _
  have hp0:(pubsL (leafS once) ((dirL t.size pl).length+1))[0]'(by omega)=pubK (leafS once) 0:=by simp[pubsL]
  have hle8:=hle7.trans l8
  (((refine mif_false ?_;refine dm_ld hM ?_));(refine dp_ixs ‹_› ?_ ?_ ?_);(focus (simp only[List.length_map];omega));(focus (simp only[List.length_map];first|done|omega));((intro _ _ hA));(cases hA);(refine dm_lds0 hM ‹_› (map_at ?_) ?_);(focus omega))
  refine dp_sld hK38 (by rw[List.length_map];omega) (by omega) hcap3 (fun KB hKB=>?_)
  rw[Int.toNat_one]at hKB ⊢
  simp only[Int.toNat_zero]
  rw[hp0]
  have hkd:(kfds (pubsL (leafS once) ((dirL t.size pl).length+1))).drop 1=kfds ((pubsL (leafS once) ((dirL t.size pl).length+1)).drop 1):=(List.map_drop ..).symm
  have hkl:((pubsL (leafS once) ((dirL t.size pl).length+1)).drop 1).length=(dirL t.size pl).length+1 - 1:=by rw[List.length_drop,hpn0]
  rw[hkd]at hKB
  rw[← hkl]
  refine dm_call hM (fun w hM=>path_c pl (pubK (leafS once) 0) ((pubsL (leafS once) ((dirL t.size pl).length+1)).drop 1) (by omega) hKB h8 hM.fz) ?_
  clear hM
  rintro H9 r w9 - l9 hM ⟨v1,rfl,hv1⟩
  have hp9:(t.pathP pl (pubK (leafS once) 0) ((pubsL (leafS once) ((dirL t.size pl).length+1)).drop 1))=t.pathP pl (pubK (leafS once) 0) ((pubsL (leafS once) ((dirL t.size pl).length+1)).drop 1):=rfl
  generalize (t.pathP pl (pubK (leafS once) 0) ((pubsL (leafS once) ((dirL t.size pl).length+1)).drop 1))=tp at hv1 hp9 ⊢
  have hvx:=hv1.ex
  obtain⟨PA,pa,PB,pb,pq,rfl,-⟩:=hvx
  have hrg9:=hrg.mono fun q x k=>RgF.mono k l9.le
  have hK19:=hK18.mono l9.le
  have hK29:=hK28.mono l9.le
  ((((iterate 3 refine dp_c trivial ?_);refine dS_st hM ?_;clear hM;intro _ hM;refine mm_end hM ?_;clear hM;intro _ hM)))
  replace hM:Mem H9 w1 (fb g17 34 [.arr 32 (u8s (comS (leafS once) ((dirL t.size pl).length+1)).1)]::[fb g18 56 (gfd PA tp.1.ls.length pa PB tp.1.ps.length pb RA (dirL t.size pl).length rc none 0 0 none 0 0 hzero),rowR 72 33 RA (dirL t.size pl).length rc rs,fb g12 56 (gfd none 0 0 none 0 0 none 0 0 none 0 0 none 0 0 hzero)]) _:=hM.sub
  obtain⟨Hx,lx,hMx,hg17⟩:=hM.fzb
  clear hM
  have hM:=hMx
  clear hMx
  have hK1x:=hK19.mono lx.le
  have hK2x:=hK29.mono lx.le
  have hF:=hM.fz
  refine⟨Rl.fz Hx,?_⟩
  refine dp_sld hK1x (by rw[List.length_map];omega) (by omega) hcap1 (fun SB hSB=>?_)
  rw[Int.toNat_one]at hSB ⊢
  ((refine dK_ldf ‹_› ‹_› ?_))
  refine dfz hM (fun w hM=>?_)
  refine mm_own (sorted_ok _ hkn.symm (by omega) (hK2x.mono (le_of hM.fz)) hM) ?_
  clear hM
  rintro r w10 ⟨KS,ks,rfl,hM⟩
  refine⟨hM.fz,?_⟩
  (((refine dp_c trivial ?_)))
  refine dfz hM (fun w hM=>?_)
  (((refine mm_st hM ?_;clear hM;intro _ hM)))
  refine⟨hM.fz,?_⟩
  (((refine dp_c trivial ?_;refine dS_st hM ?_;clear hM;intro _ hM;refine dp_c trivial ?_;refine dS_st hM ?_;clear hM;intro _ hM;refine mm_end hM ?_;clear hM;intro _ hM;refine mm_ld hM ?_;refine mm_st hM ?_;clear hM;intro _ hM;refine rm_ld hM ?_)))
  replace hM:Mem Hx w1 (rowR 72 33 RA (dirL t.size pl).length rc rs::rowR 43 33 KS (sortedK (keysL (2*pl::dirL t.size pl) (leafS once) ((dirL t.size pl).length+1))).length ks ((sortedK (keysL (2*pl::dirL t.size pl) (leafS once) ((dirL t.size pl).length+1))).map Ky.fds)::[]) _:=hM.sub
  obtain⟨Hy,ly,hMy,hRg,-⟩:=hM.fz0
  obtain⟨Hz,lz,hMz,hKg,-⟩:=hMy.fz0
  have hks:(kfds (secL (leafS once) ((dirL t.size pl).length+1))).drop 1=kfds ((secL (leafS once) ((dirL t.size pl).length+1)).drop 1):=(List.map_drop ..).symm
  rw[hks]at hSB
  have hq:Hx.le Hz:=(ly.trans lz).le
  refine hMz.out (hle8.trans (l9.trans (lx.trans (ly.trans lz)))) ⟨_,rfl,PA,pa,PB,pb,RA,rc,SB,c1 - 1,KS,ks,rs,?_,hv1.mono (lx.le.trans hq),hRg.mono lz.le,hrg9.mono fun q x k=>RgF.mono k (lx.le.trans hq),hSB.mono hq,hKg⟩
  simp only[rungsK_len,List.length_drop,hsn0]
end
end Go.Proofs.YtpjodlnlmaaihaaGreat
namespace Go.Proofs.YtpjodlnlmaaihaaGreat
open Go.RowKit
class StrB (P:Program) (s d:TypeId) (e:outParam TypeId):Prop where
 ok:P.underlying s=some .string∧P.underlying d=some (.slice e)∧P.underlying e=some (.int .u8)∧e=5
section
variable {P:Program} {H:Hp} {w0 w:World} {L R:List Res} {g n c cap:Nat} {t e src dst:TypeId} {K:Value→World→Prop} {X:List PanicEntry→World→Prop} {A:Option Addr} {l:List Int} {v:Value}
theorem mm_cvt {s:ByteArray} (h:Mem H w0 L w) [b:StrB P src dst e] (hsz:s.size≤maxLen) (hk:∀ g c w',Mem H w0 (rowR e 1 (some ⟨g,0,none⟩) s.size c (byts (ints s))::L) w'→K (.slice (some ⟨g,0,none⟩) s.size c) w'):mop P (o_conv src dst (.string s)) w K X:=by
 obtain⟨hs,hd,he,h8⟩:=b.ok
 have hr:=run_bytes_of_string (P:=P) w src dst e s hs hd he
 have hge:=grownCap_ge w s.size 0 e
 have hcm:grownCap w s.size 0 e≤maxLen:=grownCap_le_maxLen w s.size 0 e hsz
 have hfl:fls (byts (ints s))=u8s (ints s):=fls_byts _
 have hC:bytesRow s (grownCap w s.size 0 e)=(fls (byts (ints s))++List.replicate (grownCap w s.size 0 e - s.size) (Value.int .u8 0)).toArray:=by
  rw[hfl]
  apply Array.ext'
  simp[bytesRow,u8s,ints]
 rw[hC]at hr
 refine mop_run (u:=.slice (some ⟨w.heap.size,0,none⟩) s.size (grownCap w s.size 0 e)) (by simp only[o_conv,sv,Sem.run_bind,hr,Result.andThen_ok];rfl) (hk _ _ _ ?_)
 have hd:=h.drawn (w':=w.drew) ⟨1,rfl⟩
 obtain⟨B,hl,hs',hb⟩:=hd.own
 have hn:H w.heap.size=none:=by
  cases hh:H w.heap.size with
  | none=>rfl
  | some c=>exact absurd (h.fz.lt hh) (Nat.lt_irrefl _)
 refine⟨⟨⟨w.heap.size,e,fls (byts (ints s))++List.replicate (grownCap w s.size 0 e - s.size) (Value.int .u8 0),true⟩::B,⟨[⟨w.heap.size,e,_,true⟩],B,rfl,⟨els_byts _,by rw[byts_length,ints_length],.inr ⟨w.heap.size,_,rfl,rfl,?_,hge,hcm⟩⟩,hl⟩,?_,fun b hm=>?_⟩,?_⟩
 ·rw[hfl]
  simp only[List.length_append,u8s,List.length_map,ints_length,List.length_replicate]
  omega
 ·exact hs'.allocF e _ _ (.inr ⟨by simp,h8⟩)
 ·rcases List.mem_cons.1 hm with rfl|hm
  ·exact⟨rfl,hn⟩
  ·exact hb b hm
 ·exact hd.fz.ext ((Only.refl _ w.drew).alloc _)
theorem mm_aat {m:Nat} (hm:P.underlying t=some (.array m e)) (hn:m≤n) (hk:K (.pointer A) w):mop P (o_arrayAt t (.slice A n c)) w K X:=
 mop_run (u:=.pointer A) (w':=w) (by simp only[o_arrayAt,sv,Sem.run_bind,run_arrayAt w t e m A n c hm hn,Result.andThen_ok];rfl) hk
theorem mm_lrb (h:Mem H w0 L w) [cc:ShpC P t true n] [a:AtA L (some ⟨g,0,none⟩) n cap e 1 (byts l) R] (hn:l.length=n) (hn0:0<n) (hk:K (.agg (u8s l).toArray) w):mop P (o_load t (.pointer (some ⟨g,0,none⟩))) w K X:=by
 have hr:=h.rd a
 rw[fls_byts]at hr
 rcases hr with hr|⟨b,o,hA,_,hc⟩
 ·have:l=[]:=by simpa [u8s] using hr
  rw[this]at hn
  simp at hn
  omega
 ·cases hA
  have hf:FOk [Fd.arr n (u8s l)]:=⟨fun f hf=>by rw[List.mem_singleton.1 hf];exact⟨by simp[Fd.cells,Fd.size,u8s,hn],fun u hu=>u8s_one _ u hu⟩⟩
  have hv:Fv true [Fd.arr n (u8s l)] (.agg (u8s l).toArray):=inferInstance
  exact mop_purW (pw_fields (w:=w) (b:=g) (o:=0) cc.ok hf (by simp[fsz,Fd.size]) hv fun k u hu=>hc k u (by simpa [fl,Fd.cells] using hu)) hk
end
end Go.Proofs.YtpjodlnlmaaihaaGreat
namespace Go.Proofs.YtpjodlnlmaaihaaGreat
open Go.RowKit Go.Lib
def h32 (l:List Int):H32:=if h:l.length=32∧∀ x∈l,0≤x∧x<256 then ⟨l,h⟩ else hzero
theorem h32_val {l:List Int} (h:l.length=32) (hr:∀ x∈l,0≤x∧x<256):(h32 l).1=l:=by
 unfold h32
 rw[dif_pos ⟨h,hr⟩]
theorem h32_self (h:H32):h32 h.1=h:=Subtype.ext (h32_val h.2.1 h.2.2)
def openedT (about:List Int) (keys:List Kr):List Int→List (List Int)→H32 × Int
 | [],_=>(hzero,10)
 | x::r,ws=>match keys.find? (fun k=>decide (k.node=x)) with
  | none=>openedT about keys r ws.tail
  | some k=>if (unwrapE k.priv about (ws.headD [])).2≠0 then (hzero,(unwrapE k.priv about (ws.headD [])).2) else if (unwrapE k.priv about (ws.headD [])).1.length≠32 then (hzero,3) else (h32 (unwrapE k.priv about (ws.headD [])).1,0)
theorem openedT_cons (about:List Int) (keys:List Kr) (x:Int) (r:List Int) (s:List Int) (ws:List (List Int)):openedT about keys (x::r) (s::ws)=match keys.find? (fun k=>decide (k.node=x)) with
  | none=>openedT about keys r ws
  | some k=>if (unwrapE k.priv about s).2≠0 then (hzero,(unwrapE k.priv about s).2) else if (unwrapE k.priv about s).1.length≠32 then (hzero,3) else (h32 (unwrapE k.priv about s).1,0):=rfl
theorem openE_rng (k:H32) (ab s:List Int):∀ x∈(openE k ab s).1,0≤x∧x<256:=by
 unfold openE
 split
 ·intro x hx;cases hx
 split
 ·intro x hx;cases hx
 split
 ·exact crossL_rng
 ·intro x hx;cases hx
theorem unwrapE_rng (k:H32) (ab s:List Int):∀ x∈(unwrapE k ab s).1,0≤x∧x<256:=by
 unfold unwrapE
 split
 ·intro x hx;cases hx
 ·exact openE_rng _ _ _
theorem openE_len (k:H32) (ab s:List Int):(openE k ab s).1.length≤65536:=by
 unfold openE
 split
 ·simp
 split
 ·simp
 split
 ·rw[crossL_len (by rw[rowK_len,List.length_take];omega),List.length_take]
  omega
 ·simp
theorem unwrapE_len (k:H32) (ab s:List Int):(unwrapE k ab s).1.length≤65536:=by
 unfold unwrapE
 split
 ·simp
 ·exact openE_len _ _ _
theorem find_idx {α:Type} (f:α→Bool) (l:List α):(idxI f l = -1∧l.find? f=none)∨∃ (i:Nat) (hi:i<l.length),idxI f l=i∧l.find? f=some l[i]:=by
 rcases idxI_cases f l with ⟨e,h⟩|⟨i,hi,e,h,hlow⟩
 ·exact .inl ⟨e,by simpa [List.find?_eq_none] using h⟩
 ·refine .inr ⟨i,hi,e,?_⟩
  rw[List.find?_eq_some_iff_getElem]
  exact⟨h,i,hi,rfl,fun j hj=>by simp[hlow j hj]⟩
instance:StrB Tryz.prog 9 99 5:=⟨by kernel_rfl,by kernel_rfl,by kernel_rfl,rfl⟩
section
variable {H:Hp} {w0 w:World} {L R:List Res} {A B K F:Option Addr} {a b c n m kc fc:Nat} {t:Tr} {v:Value}
theorem opened1_ok (g:Nat) (x:Int) (k:Kr) (hM:Mem H w0 (fb g 3 [.one (.int .i64 x)]::R) w):
  Calls Tryz.prog 102 #[.agg (fl k.fds).toArray,.pointer (some ⟨g,0,none⟩)] w fun en w'=>en=.returned (.bool (decide (k.node=x)))∧Mem H w0 (fb g 3 [.one (.int .i64 x)]::R) w':=by
 refine C_climb_opened_1 ?_
 unfold F_climb_opened_1
 (((refine mm_box hM ?_;clear hM;intro _ _ hM;refine mop_c trivial ?_;refine mm_ld hM ?_;refine mm_ld hM ?_)))
 by_cases h:k.node=x
 ·refine mop_cT trivial h ?_
  exact⟨by rw[decide_eq_true h],hM.sub⟩
 ·refine mop_cF trivial h ?_
  exact⟨by rw[decide_eq_false h],hM.sub⟩
abbrev krv (k:Kr):Value:=.agg (fl k.fds).toArray
theorem clo_opened (g:Nat) (x:Int):Clo Tryz.prog H w0 (fb g 3 [.one (.int .i64 x)]) (.func (.func 102) #[] #[.pointer (some ⟨g,0,none⟩)]) krv (fun k:Kr=>decide (k.node=x)):=fun y R w K X hM hk=>by
 refine mop_callv (opened1_ok g x y hM) ?_
 rintro en w' ⟨rfl,hM⟩
 exact hk _ hM
theorem kidx_ok {r:Res} {cl:Value} {f:Kr→Bool} (xs:List Kr) (hl:xs.length≤1000000) (hs:Sl H 33 A (xs.map Kr.fds)) (hc:Clo Tryz.prog H w0 r cl krv f) (hM:Mem H w0 (r::R) w):
  Calls Tryz.prog 101 #[.slice A xs.length c,cl] w fun en w'=>∃ v,en=.returned v∧v=.int .i64 (idxI f xs)∧Mem H w0 (r::R) w':=by
 refine C_slices_IndexFunc_api_Key_api_Key ?_
 unfold F_slices_IndexFunc_api_Key_api_Key
 (((refine mop_c trivial ?_)))
 refine⟨fun x w=>∃ i:Nat,x=.int .i64 i∧i≤xs.length∧(∀ j (hj:j<xs.length),j<i→f xs[j]=false)∧hM.now w,fun x _=>match x with | .int _ i=>xs.length - i.toNat|_=>0,⟨0,rfl,by omega,by intro j hj h;omega,hM⟩,?_⟩
 rintro x u w ⟨i,rfl,hi,hf,hM⟩
 (((refine mop_cS trivial ?_ ?_)))
 ·intro hlt
  have hit:i<xs.length:=by omega
  (((refine mif_true ?_));(refine mm_ixs ‹_› ?_ ?_ ?_);(focus (simp only[List.length_map];omega));(focus (simp only[List.length_map];first|done|omega));((intro _ _ hA));(cases hA);(refine mm_lds0 hM ‹_› (map_atI ?_) ?_);(focus omega))
  refine hc _ _ _ _ _ hM (fun w hM=>?_)
  cases hfi:f xs[i]
  ·(((refine mif_false ?_;refine mop_c ?_ ?_));(focus omega))
   exact⟨⟨i+1,by rw[Value.int.injEq];refine⟨rfl,?_⟩;push_cast;rfl,by omega,fun j hj hji=>by
    rcases Nat.lt_or_ge j i with h|h
    ·exact hf j hj h
    ·obtain rfl:j=i:=by omega
     exact hfi,hM⟩,by simp only;omega⟩
  ·(((refine mif_true ?_)))
   exact⟨_,rfl,by rw[idxI_at (i:=i) hit (fun j hj=>hf j (by omega) hj) hfi],hM⟩
 ·intro hge
  (((refine mif_false ?_)))
  exact⟨_,rfl,by rw[idxI_none fun j hj=>hf j hj (by omega)],hM⟩
theorem opened_ok (about side:List Int) (wraps:List (List Int)) (keys:List Kr) (hl:about.length≤1000000) (hsl:side.length≤100000) (hwl:wraps.length=side.length) (hkl:keys.length≤100000) (hwr:∀ x∈wraps,x.length≤1000000∧∀ y∈x,0≤y∧y<256)
  (hS:Sl H 1 A (ints8 side)) (hW:Sl H 1 B (strs wraps)) (hK:Sl H 33 K (keys.map Kr.fds)) (hf:Fz H w):
  Calls Tryz.prog 61 #[.slice A side.length a,.slice B wraps.length b,.string (strOfNums about),.slice K keys.length kc] w fun en w'=>en=.returned (.tuple #[ha (openedT about keys side wraps).1,.int .i64 (openedT about keys side wraps).2])∧St w [] w':=by
 obtain⟨w1,hw1⟩:∃ w1,w1=w:=⟨_,rfl⟩
 rw[← hw1]
 rw[← hw1]at hf
 have hM:=Mem.start hf
 refine C_climb_opened ?_
 unfold F_climb_opened
 (((refine mm_new hM ?_;clear hM;intro _ _ hM;refine mop_c trivial ?_)))
 rename_i g8 _
 refine⟨fun v w'=>∃ i:Nat,v=.int .i64 i∧i≤side.length∧openedT about keys side wraps=openedT about keys (side.drop i) (wraps.drop i)∧Mem H w1 [fb g8 34 [.arr 32 (u8s hzero.1)]] w',fun v _=>match v with | .int _ k=>side.length - k.toNat|_=>0,⟨0,rfl,by omega,rfl,hM⟩,?_⟩
 clear hM
 rintro v u w3 ⟨i,rfl,hi,heq,hM⟩
 skip
 (((refine mop_cS trivial ?_ ?_)))
 ·intro hlt
  have hit:i<side.length:=by omega
  have hiw:i<wraps.length:=by omega
  have e1:side.drop i=side[i]::side.drop (i+1):=List.drop_eq_getElem_cons hit
  have e2:wraps.drop i=wraps[i]::wraps.drop (i+1):=List.drop_eq_getElem_cons hiw
  obtain⟨hw1',hw2⟩:=hwr _ (List.getElem_mem hiw)
  rw[e1,e2]at heq
  rw[openedT_cons]at heq
  have hq1:(ints8 side)[((i:Int)).toNat]?=some [.one (.int .i64 side[i])]:=ints8_at hit
  have hq2:(strs wraps)[((i:Int)).toNat]?=some [.one (.string (strOfNums wraps[i]))]:=by
   rw[Int.toNat_natCast]
   exact map_at hiw
  have l8:=ints8_length side
  (((refine mif_true ?_));(refine mm_ixs ‹_› ?_ ?_ ?_);(focus (simp only[List.length_map];omega));(focus (simp only[List.length_map];first|done|omega));((intro _ _ hA));(cases hA);(refine mm_lds0 hM ‹_› (map_atI ?_) ?_);(focus omega);((refine mm_new hM ?_;clear hM;intro _ _ hM;refine mm_st hM ?_;clear hM;intro _ hM;refine mop_c trivial ?_)))
  rename_i gx _ _
  refine mm_own (kidx_ok keys (by omega) hK (clo_opened gx side[i]) hM) ?_
  clear hM
  rintro v w5 ⟨rfl,hM⟩
  rcases find_idx (fun k:Kr=>decide (k.node=side[i])) keys with ⟨ei,ef⟩|⟨q,hq,ei,ef⟩
  ·rw[ef]at heq
   rw[ei]
   (((refine mop_cT trivial ?_ ?_));(focus (first|assumption|omega|with_reducible rfl|exact fun h=>Bool.noConfusion h));((refine mif_true ?_;refine mop_c ?_ ?_));(focus omega))
   exact⟨⟨i+1,by rw[Value.int.injEq];refine⟨rfl,?_⟩;push_cast;rfl,by omega,heq,hM.sub⟩,by simp only;omega⟩
  ·rw[ef]at heq
   rw[ei]
   simp only at heq
   have hlr:=unwrapE_rng keys[q].priv about wraps[i]
   have hll:=unwrapE_len keys[q].priv about wraps[i]
   have huw:=fun w=>unwrap_ok keys[q].priv about wraps[i] hl hw2 hw1' w
   generalize unwrapE keys[q].priv about wraps[i]=uu at heq hlr hll huw
   obtain⟨us,ue⟩:=uu
   simp only at heq hlr hll huw
   (((refine mop_cF trivial ?_ ?_));(focus (first|assumption|omega|with_reducible rfl|exact fun h=>Bool.noConfusion h));((refine mif_false ?_));(refine dp_ixs ‹_› ?_ ?_ ?_);(focus (simp only[List.length_map];omega));(focus (simp only[List.length_map];first|done|omega));((intro _ _ hA));(cases hA);((refine dp_c trivial ?_));(refine dm_lds hM ‹_› (map_atI ?_) ?_);(focus omega);(refine dp_ixs ‹_› ?_ ?_ ?_);(focus (simp only[List.length_map];omega));(focus (simp only[List.length_map];first|done|omega));((intro _ _ hA));(cases hA);(refine dm_lds0 hM ‹_› (map_atI ?_) ?_);(focus omega))
   refine dm_pure hM (fun w _=>huw w) (fun w6 _ hM2=>?_)
   replace hM:=hM2
   clear hM2
   (((refine dp_c trivial ?_;refine dp_c trivial ?_;refine mm_end hM ?_;clear hM;intro _ hM)))
   by_cases hue:ue=0
   ·subst hue
    rw[if_neg (by simp)]at heq
    have hsz:(strOfNums us).size=us.length:=strOfNums_size us
    (((refine mop_cF trivial ?_ ?_));(focus (first|assumption|omega|with_reducible rfl|exact fun h=>Bool.noConfusion h));((refine mif_false ?_;refine mop_c trivial ?_)))
    (((refine mop_cS trivial ?_ ?_)))
    ·intro hne
     rw[if_pos (by omega)]at heq
     (((refine mif_true ?_;refine mop_c trivial ?_;refine mm_st hM ?_;clear hM;intro _ hM;refine rm_ld hM ?_)))
     rw[heq]
     exact⟨rfl,hM.st⟩
    ·intro hne
     have h32l:us.length=32:=by omega
     rw[if_neg (by omega)]at heq
     (((refine mif_false ?_)))
     refine mm_cvt hM (by rw[hsz];show _≤maxLen;unfold maxLen;omega) ?_
     clear hM
     intro g c w7 hM
     rw[ints_str us hlr,hsz,h32l]at hM
     rw[hsz,h32l]
     refine mm_aat (m:=32) (e:=5) (by kernel_rfl) (by omega) ?_
     refine mm_lrb hM h32l (by omega) ?_
     have hv:(Value.agg (u8s us).toArray)=.agg (u8s (h32 us).1).toArray:=by rw[h32_val h32l hlr]
     rw[hv]
     (((refine mm_st hM ?_;clear hM;intro _ hM;refine rm_ld hM ?_)))
     rw[heq]
     exact⟨rfl,hM.st⟩
   ·rw[if_pos hue]at heq
    (((refine mop_cT trivial ?_ ?_));(focus (first|assumption|omega|with_reducible rfl|exact fun h=>Bool.noConfusion h));((refine mif_true ?_;refine mop_c trivial ?_;refine mm_st hM ?_;clear hM;intro _ hM;refine rm_ld hM ?_)))
    rw[heq]
    exact⟨rfl,hM.st⟩
 ·intro hge
  obtain rfl:i=side.length:=by omega
  rw[List.drop_length]at heq
  (((refine mif_false ?_;refine mop_c trivial ?_;refine mm_st hM ?_;clear hM;intro _ hM;refine rm_ld hM ?_)))
  rw[heq]
  exact⟨rfl,hM.st⟩
end
end Go.Proofs.YtpjodlnlmaaihaaGreat
namespace Go.Proofs.YtpjodlnlmaaihaaGreat
open Go.RowKit Go.Lib
theorem keysL_at {way:List Int} {s:H32} {n i:Nat} (hi:i<(keysL way s n).length):(keysL way s n)[i]=keyK way s i:=by simp[keysL]
theorem keyK_priv {way:List Int} {s:H32} {i:Nat} (h:0≤way.getD i 0∧way.getD i 0≤1000):(keyK way s i).priv=drv (secK s i) bnode es0:=by
 unfold keyK
 rw[mkKy_eq h]
theorem keyK_node {way:List Int} {s:H32} {i:Nat} (h:0≤way.getD i 0∧way.getD i 0≤1000):(keyK way s i).node=way.getD i 0:=by
 unfold keyK
 rw[mkKy_eq h]
theorem getD_rng {way:List Int} (hr:∀ x∈way,0≤x∧x≤1000) (i:Nat):0≤way.getD i 0∧way.getD i 0≤1000:=by
 rw[List.getD_eq_getElem?_getD]
 by_cases h:i<way.length
 ·rw[List.getElem?_eq_getElem h]
  exact hr _ (List.getElem_mem h)
 ·rw[List.getElem?_eq_none (by omega)]
  simp
section
variable {H:Hp} {w0 w:World} {L R:List Res} {A B K F:Option Addr} {a b c n m kc fc:Nat} {t:Tr} {v:Value}
theorem risen_q {Q:Value→World→Prop} (way:List Int) (s:H32) (pubs:List H32) (hlen:pubs.length=way.length) (hl:way.length≤100) (hr:∀ x∈way,0≤x∧x≤1000) (hW:Sl H 1 A (ints8 way)) (hP:Sl H 32 B (kfds pubs)) (hM:Mem H w0 L w)
  (h1:pubsL s way.length=pubs→∀ SA sc KA kc w',Mem H w0 (rowR 34 32 SA way.length sc (kfds (secL s way.length))::rowR 43 33 KA way.length kc ((keysL way s way.length).map Ky.fds)::L) w'→Q (.tuple #[.agg (fl (gfd none 0 0 none 0 0 none 0 0 SA way.length sc KA way.length kc (comS s way.length))).toArray,.bool true]) w')
  (h0:pubsL s way.length≠pubs→∀ w',Mem H w0 L w'→Q (.tuple #[.agg (fl (gfd none 0 0 none 0 0 none 0 0 none 0 0 none 0 0 hzero)).toArray,.bool false]) w'):
  Calls Tryz.prog 56 #[.pointer none,.slice A way.length a,ha s,.slice B pubs.length b] w fun en w'=>∃ v,en=.returned v∧Q v w':=by
 refine C_climb_risen ?_
 unfold F_climb_risen
 (((refine mm_box hM ?_;clear hM;intro _ _ hM;refine mm_new hM ?_;clear hM;intro _ _ hM;refine mm_ld hM ?_)))
 rename_i g6 _ g8 _
 refine mm_own (up_ok way s hl hr (hW.mono (le_of hM.fz)) hM) ?_
 clear hM
 rintro v w2 ⟨K1,c1,K2,c2,rfl,hM⟩
 have hkn:=keysL_len way s way.length
 ((((iterate 3 refine mop_c trivial ?_);refine mm_new hM ?_;clear hM;intro _ _ hM;refine mm_st hM ?_;clear hM;intro _ hM;refine mop_c trivial ?_)))
 rename_i g12 _ _
 replace hM:Mem H w0 (rowR 43 33 K2 way.length c2 ((keysL way s way.length).map Ky.fds)::fb g8 56 (gfd none 0 0 none 0 0 none 0 0 none 0 0 none 0 0 hzero)::fb g6 34 [.arr 32 (u8s s.1)]::L) _:=hM.sub
 refine⟨fun v w'=>∃ i:Nat,v=.int .i64 i∧i≤way.length∧pubsL s i=pubs.take i∧Mem H w0 (rowR 43 33 K2 way.length c2 ((keysL way s way.length).map Ky.fds)::fb g8 56 (gfd none 0 0 none 0 0 none 0 0 none 0 0 none 0 0 hzero)::fb g6 34 [.arr 32 (u8s s.1)]::L) w',fun v _=>match v with | .int _ k=>way.length - k.toNat|_=>0,⟨0,rfl,by omega,by simp[pubsL],hM⟩,?_⟩
 clear hM
 rintro v u w3 ⟨i,rfl,hi,hpl,hM⟩
 skip
 (((refine mop_cS trivial ?_ ?_)))
 ·intro hlt
  have hit:i<way.length:=by omega
  have hpt:i<pubs.length:=by omega
  have hpv:((keysL way s way.length)[i]'(by omega)).priv=drv (secK s i) bnode es0:=by rw[keysL_at,keyK_priv (getD_rng hr i)]
  have hst:pubs.take (i+1)=pubs.take i++[pubs[i]]:=List.take_succ_eq_append_getElem hpt
  (((refine mif_true ?_;refine mm_ixr hM ?_ ?_));(focus omega);((intro _ hA));(cases hA);((refine mm_ldr0 hM (map_atI ?_) ?_));(focus omega);((refine mm_new hM ?_;clear hM;intro _ _ hM;refine mm_st hM ?_;clear hM;intro _ hM;refine dp_c trivial ?_;refine dm_ld hM ?_;refine dm_purC hM ?_ (fun _ _ hM=>?_)));(focus (first|exact trivial|assumption|omega));(refine dp_ixs ‹_› ?_ ?_ ?_);(focus (simp only[List.length_map];omega));(focus (simp only[List.length_map];first|done|omega));((intro _ _ hA));(cases hA))
  refine dm_lds0 ‹_› hP (map_at hpt) ?_
  skip
  refine dp_c trivial ?_
  rw[hpv]
  have hst2:pubsL s (i+1)=pubs.take (i+1)↔pubH (drv (secK s i) bnode es0)=pubs[i]:=by
   rw[pubsL_succ,hst,hpl]
   show pubs.take i++[pubH (drv (secK s i) bnode es0)]=pubs.take i++[pubs[i]]↔_
   exact⟨fun h=>(List.cons.inj (List.append_cancel_left h)).1,fun h=>by rw[h]⟩
  by_cases hpe:pubH (drv (secK s i) bnode es0)=pubs[i]
  ·rw[decide_eq_false (fun h=>h hpe)]
   (((refine mm_end hM ?_;clear hM;intro _ hM;refine mif_false ?_;refine mop_c ?_ ?_));(focus omega))
   exact⟨⟨i+1,by rw[Value.int.injEq];refine⟨rfl,?_⟩;push_cast;rfl,by omega,hst2.2 hpe,hM.sub⟩,by simp only;omega⟩
  ·rw[decide_eq_true hpe]
   (((refine mm_end hM ?_;clear hM;intro _ hM;refine mif_true ?_;refine mop_c trivial ?_;refine mm_st hM ?_;clear hM;intro _ hM;refine rm_ld hM ?_)))
   refine⟨_,rfl,h0 (fun h=>hpe (hst2.1 ?_)) _ hM.sub⟩
   rw[← h]
   unfold pubsL
   rw[← List.map_take,List.take_range,Nat.min_eq_left (by omega)]
 ·intro hge
  obtain rfl:i=way.length:=by omega
  rw[List.take_of_length_le (by omega)]at hpl
  (((refine mif_false ?_;refine mm_new hM ?_;clear hM;intro _ _ hM;refine mm_ld hM ?_)))
  rename_i g15 _
  refine mm_own (up_ok way s hl hr (hW.mono (le_of hM.fz)) hM) ?_
  clear hM
  rintro v w5 ⟨K3,c3,K4,c4,rfl,hM⟩
  ((((iterate 4 refine mop_c trivial ?_);refine mm_st hM ?_;clear hM;intro _ hM;refine mop_c trivial ?_;refine mm_st hM ?_;clear hM;intro _ hM;refine mop_c trivial ?_;refine mm_st hM ?_;clear hM;intro _ hM;refine mop_c trivial ?_;refine mm_ld hM ?_;refine mop_c trivial ?_)))
  refine⟨fun v w'=>∃ i:Nat,v=.int .i64 i∧i≤way.length∧Mem H w0 (rowR 34 32 K3 way.length c3 (kfds (secL s way.length))::rowR 43 33 K4 way.length c4 ((keysL way s way.length).map Ky.fds)::fb g15 56 (gfd none 0 0 none 0 0 none 0 0 K3 way.length c3 K4 way.length c4 (comS s way.length))::fb g8 56 (gfd none 0 0 none 0 0 none 0 0 none 0 0 none 0 0 hzero)::L) w',fun v _=>match v with | .int _ k=>way.length - k.toNat|_=>0,⟨0,rfl,by omega,hM.sub⟩,?_⟩
  clear hM
  rintro v u w6 ⟨i,rfl,hi,hM⟩
  skip
  (((refine mop_cS trivial ?_ ?_)))
  ·intro hlt
   have hit:i<way.length:=by omega
   (((refine mif_true ?_;refine mm_ixr hM ?_ ?_));(focus omega);((intro _ hA));(cases hA);((refine mm_ldr0 hM (map_atI ?_) ?_));(focus omega);((refine mm_new hM ?_;clear hM;intro _ _ hM;refine mm_st hM ?_;clear hM;intro _ hM;refine mop_c trivial ?_;refine mm_ld hM ?_;refine mm_purC hM ?_ ?_));(focus (first|exact trivial|assumption|omega));((clear hM;intro _ hM;refine mop_c ?_ ?_));(focus omega))
   exact⟨⟨i+1,by rw[Value.int.injEq];refine⟨rfl,?_⟩;push_cast;rfl,by omega,hM.sub⟩,by simp only;omega⟩
  ·intro hge
   (((refine mif_false ?_;refine mm_ld hM ?_;refine mm_st hM ?_;clear hM;intro _ hM;refine rm_ld hM ?_)))
   exact⟨_,rfl,h1 hpl _ _ _ _ _ hM.sub⟩
end
end Go.Proofs.YtpjodlnlmaaihaaGreat
namespace Go.Proofs.YtpjodlnlmaaihaaGreat
open Go.RowKit Go.Shelf Go.Lib
theorem own_outC {H:Hp} {w W':World} {e:TypeId} {v:Value} {D:List Int} (hf:Fz H w) (ho:W'.ownsRow w.heap.size e 1 v D.length (D.map (Value.int .i64))) (hb:Below w.heap.size w W'):
  Outp H w (fun H' v=>∃ A cap,v=.slice A D.length cap∧D.length≤cap∧Sl H' 1 A (ints8 D)) (.returned v) W':=by
 have hst:St w [] W':=⟨(fun _ h=>by cases h),.nil,(fun _ h=>by cases h),Only.of_below hb fun i hi hge=>by omega⟩
 have hF:∀ b c,H b=some c→∃ t fr,W'.heap[b]?=some (.cells c t fr):=fun b c hc=>by
  obtain⟨t,fr,h⟩:=hf b c hc
  exact⟨t,fr,(hb.block b (hf.lt hc)).trans h⟩
 rcases ho.2 with ⟨rfl,hn⟩|⟨g,cap,cur,rfl,hge,hgb,hnc,hcm,hsz,htk⟩
 ·have hD:D=[]:=List.eq_nil_of_length_eq_zero hn
  subst hD
  exact⟨_,H,rfl,Le.refl _ _,⟨⟨[],rfl,hst,fun _ h=>by cases h⟩,hF⟩,none,0,rfl,Nat.le_refl _,Sl.nil _ _ _⟩
 ·have hg0:H g=none:=by
   cases hh:H g with
   | none=>rfl
   | some c=>have:=hf.lt hh;omega
  refine⟨_,fun k=>if k=g then some cur else H k,rfl,⟨fun b c hc=>?_,fun b hb' hn=>?_⟩,⟨⟨[],rfl,hst,fun _ h=>by cases h⟩,fun b c hc=>?_⟩,some ⟨g,0,none⟩,cap,rfl,hnc,els_ints8 D,.inr ⟨g,0,cur,rfl,if_pos rfl,fun j u hu=>?_⟩⟩
  ·show(if b=g then some cur else H b)=some c
   rw[if_neg (by rintro rfl;rw[hg0]at hc;cases hc)]
   exact hc
  ·show(if b=g then some cur else H b)=none
   rw[if_neg (by omega)]
   exact hn
  ·have hc:(if b=g then some cur else H b)=some c:=hc
   by_cases e:b=g
   ·rw[if_pos e]at hc
    cases hc
    exact⟨_,_,by rw[e];exact hgb⟩
   ·rw[if_neg e]at hc
    exact hF b c hc
  ·rw[fls_ints8,← htk]at hu
   rw[Nat.zero_add,← Array.getElem?_toList]
   rw[List.getElem?_take]at hu
   split at hu
   ·exact hu
   ·cases hu
theorem bdirectC_ok {H:Hp} {w:World} (n l:Int) (hb:l≤1000000) (hf:Fz H w):Calls Tryz.prog 32 #[.int .i64 n,.int .i64 l] w (Outp H w (fun H' v=>∃ A cap,v=.slice A (dirL n l).length cap∧(dirL n l).length≤cap∧Sl H' 1 A (ints8 (dirL n l)))):=by
 by_cases hl:0≤l∧l<n
 ·refine(dir_in n l hl hb w).mono ?_
  rintro e W' ⟨v,rfl,ho,hB⟩
  exact own_outC hf ho hB
 ·refine(dir_nil n l (by omega) w).mono ?_
  rintro e W' ⟨rfl,hB⟩
  have:dirL n l=[]:=if_neg hl
  rw[this]
  exact own_outC (e:=3) (D:=[]) hf ⟨rfl,.inl ⟨rfl,rfl⟩⟩ hB
end Go.Proofs.YtpjodlnlmaaihaaGreat
namespace Go.Proofs.YtpjodlnlmaaihaaGreat
open Go.RowKit Go.Lib
set_option maxRecDepth 100000 in
theorem ab_root_fin:∀ n:Fin 65,∀ x:Fin 127,thr (n.val:Int) (x.val:Int)→ab n.val x.val<0→(x.val:Int)=root n.val:=by decide +kernel
theorem root_odd_fin:∀ n:Fin 65,2≤n.val→root (n.val:Int)%2=1:=by decide +kernel
theorem ab_root {n x:Int} (h:thr n x) (ha:ab n x<0):x=root n:=by
 obtain⟨h1,h2,h3⟩:=id h
 have:=ab_root_fin ⟨n.toNat,by omega⟩ ⟨x.toNat,by omega⟩
 simp only[Int.toNat_of_nonneg h2,Int.toNat_of_nonneg (show 0≤n by omega)]at this
 exact this h ha
theorem root_odd {n:Int} (h:2≤n∧n≤64):root n%2=1:=by
 have:=root_odd_fin ⟨n.toNat,by omega⟩ (by simp only;omega)
 simpa only [Int.toNat_of_nonneg (show 0≤n by omega)] using this
theorem dirF_root {n:Int}:∀ (f:Nat) (x:Int),okd f n x=true→thr n x→x≠root n→root n∈dirF f n x
 | f,x,ho,ht,hx=>by
  by_cases ha:ab n x<0
  ·exact absurd (ab_root ht ha) hx
  ·obtain⟨g,rfl,e,ho2⟩:=dirF_step ha ho
   rw[e]
   by_cases h2:ab n x=root n
   ·rw[h2]
    exact List.mem_cons_self ..
   ·exact List.mem_cons_of_mem _ (dirF_root g (ab n x) ho2 (ab_thr ht ha) h2)
theorem dir_meets {n p q:Int} (hp:0≤p∧p<n) (hq:0≤q∧q<n) (hn:n≤64) (hne:q≠p):(dirL n p).findIdx (fun x=>decide (hld n x q))<(dirL n p).length:=by
 rw[List.findIdx_lt_length]
 have hd:dirL n p=dirF 8 n (2*p):=if_pos hp
 have hro:=root_odd (n:=n) ⟨by omega,hn⟩
 refine⟨root n,?_,decide_eq_true (root_all ⟨by omega,hn⟩ hq)⟩
 rw[hd]
 exact dirF_root 8 (2*p) (okd_eq _ _) ⟨⟨by omega,hn⟩,by omega,by omega⟩ (by omega)
def followT (t:Tr) (pl:Int) (leaf:H32) (rungs:List Rg) (about fresh:List Int) (mine:Int) (keys:List Kr):Gw × Int:=
 if ¬t.right=true then (Gw.none,1)
 else if t.nobody pl∨t.nobody mine then (Gw.none,7)
 else if mine=pl then (Gw.none,1)
 else if rungs.length≠(dirL t.size pl).length then (Gw.none,16)
 else if ¬∀ i (h:i<rungs.length),rungs[i].wraps.length=(sideK t pl (dirL t.size pl) fresh i).length then (Gw.none,16)
 else
  let way:=dirL t.size pl
  let at_:=way.findIdx fun x=>decide (hld t.size x mine)
  let o:=openedT about keys (sideK t pl way fresh at_) (rungs.getD at_ ⟨hzero,[]⟩).wraps
  if o.2≠0 then (Gw.none,o.2)
  else if pubsL o.1 (way.length - at_)≠(rungs.map Rg.pub).drop at_ then (Gw.none,16)
  else (⟨(t.pathP pl leaf (rungs.map Rg.pub)).1,rungs,secL o.1 (way.length - at_),keepT (t.pathP pl leaf (rungs.map Rg.pub)).1 ((keysL (way.drop at_) o.1 (way.length - at_)).map Ky.kr++keys),comS o.1 (way.length - at_)⟩,0)
section
variable {H:Hp} {w0 w:World} {L R:List Res} {A B K F:Option Addr} {a b c n m kc fc:Nat} {t:Tr} {v:Value}
def CloF {α:Type} (P:Program) (H:Hp) (c:Value) (enc:α→Value) (f:α→Bool):Prop:=
 ∀ (y:α) (w:World) (w0:World) (L:List Res) (K:Value→World→Prop) (X:List PanicEntry→World→Prop),Mem H w0 L w→(∀ w',Mem H w0 L w'→K (.bool (f y)) w')→mop P (o_call c [enc y]) w K X
theorem iidxF_ok {cl:Value} {f:Int→Bool} (xs:List Int) (hl:xs.length≤1000000) (hs:Sl H 1 A (ints8 xs)) (hc:CloF Tryz.prog H cl ivv f) (hM:Mem H w0 L w):
  Calls Tryz.prog 58 #[.slice A xs.length c,cl] w fun en w'=>∃ v,en=.returned v∧v=.int .i64 (idxI f xs)∧Mem H w0 L w':=by
 have h8:=ints8_length xs
 refine C_slices_IndexFunc_int_int ?_
 unfold F_slices_IndexFunc_int_int
 (((refine mop_c trivial ?_)))
 refine⟨fun x w=>∃ i:Nat,x=.int .i64 i∧i≤xs.length∧(∀ j (hj:j<xs.length),j<i→f xs[j]=false)∧hM.now w,fun x _=>match x with | .int _ i=>xs.length - i.toNat|_=>0,⟨0,rfl,by omega,by intro j hj h;omega,hM⟩,?_⟩
 rintro x u w ⟨i,rfl,hi,hf,hM⟩
 (((refine mop_cS trivial ?_ ?_)))
 ·intro hlt
  have hit:i<xs.length:=by omega
  (((refine mif_true ?_));(refine mm_ixs ‹_› ?_ ?_ ?_);(focus (simp only[List.length_map];omega));(focus (simp only[List.length_map];first|done|omega));((intro _ _ hA));(cases hA);(refine mm_lds0 hM ‹_› (map_atI ?_) ?_);(focus omega))
  refine hc _ _ _ _ _ _ hM (fun w hM=>?_)
  cases hfi:f xs[i]
  ·(((refine mif_false ?_;refine mop_c ?_ ?_));(focus omega))
   exact⟨⟨i+1,by rw[Value.int.injEq];refine⟨rfl,?_⟩;push_cast;rfl,by omega,fun j hj hji=>by
    rcases Nat.lt_or_ge j i with h|h
    ·exact hf j hj h
    ·obtain rfl:j=i:=by omega
     exact hfi,hM⟩,by simp only;omega⟩
  ·(((refine mif_true ?_)))
   exact⟨_,rfl,by rw[idxI_at (i:=i) hit (fun j hj=>hf j (by omega) hj) hfi],hM⟩
 ·intro hge
  (((refine mif_false ?_)))
  exact⟨_,rfl,by rw[idxI_none fun j hj=>hf j hj (by omega)],hM⟩
theorem cloStr_ok {ps:List (List Fd)} (hs:Sl (Hp.of w) 1 A ps) (hn:n=ps.length) (hb:n≤1000000) (hM:Mem H w0 L w):Calls Tryz.prog 62 #[.slice A n a] w fun en w'=>∃ v,en=.returned v∧Ext w w'∧∃ A' a',v=.slice A' n a'∧Mem H w0 (rowR 9 1 A' n a' ps::L) w':=by
 refine C_slices_Clone_string_string ?_
 unfold F_slices_Clone_string_string
 refine clone_gen (P:=Tryz.prog) (t:=70) (R:=fun en w'=>∃ v,en=.returned v∧Ext w w'∧∃ A' a',v=.slice A' n a'∧Mem H w0 (rowR 9 1 A' n a' ps::L) w') hs hn hM ?_ (fun A' a' w' hx hM=>⟨_,rfl,hx,_,_,rfl,hM⟩)
 omega
theorem clo_follow (g1 g2:Nat) (n m:Int) (h1:FbF H g1 [.one (.int .i64 n)]) (h2:FbF H g2 [.one (.int .i64 m)]):CloF Tryz.prog H (.func (.func 59) #[] #[.pointer (some ⟨g1,0,none⟩),.pointer (some ⟨g2,0,none⟩)]) ivv (fun x:Int=>decide (hld n x m)):=fun y w w0 L K X hM hk=>by
 refine mop_callv (Q:=fun en w'=>en=.returned (.bool (decide (hld n y m)))∧Mem H w0 L w') ?_ ?_
 ·show Calls Tryz.prog 59 #[.int .i64 y,.pointer (some ⟨g1,0,none⟩),.pointer (some ⟨g2,0,none⟩)] w _
  refine C_climb_Follow_1 ?_
  unfold F_climb_Follow_1
  ((refine mm_ldf hM ‹_› ?_);(refine mm_ldf hM ‹_› ?_);((refine mm_purC hM ?_ ?_));(focus (first|exact trivial|assumption|omega));((clear hM;intro _ hM)))
  exact⟨rfl,hM⟩
 ·rintro en w' ⟨rfl,hM⟩
  exact hk _ hM
end
end Go.Proofs.YtpjodlnlmaaihaaGreat
namespace Go.Proofs.YtpjodlnlmaaihaaGreat
open Go.RowKit Go.Lib
theorem insU_mem {x k:Ky}:∀ {l:List Ky},k∈insU Ky.node x l→k=x∨k∈l
 | [],h=>by simpa [insU] using h
 | y::r,h=>by
  unfold insU at h
  split at h
  ·rcases List.mem_cons.1 h with rfl|h
   ·exact .inr (List.mem_cons_self ..)
   ·rcases insU_mem h with h|h
    ·exact .inl h
    ·exact .inr (List.mem_cons_of_mem _ h)
  ·split at h
   ·exact .inr h
   ·rcases List.mem_cons.1 h with rfl|h
    ·exact .inl rfl
    ·exact .inr h
theorem insU_has {x:Ky}:∀ (l:List Ky),(∃ k∈insU Ky.node x l,k.node=x.node)∧∀ k∈l,k∈insU Ky.node x l
 | []=>by simp[insU]
 | y::r=>by
  obtain⟨⟨k,hk,e⟩,h2⟩:=insU_has (x:=x) r
  unfold insU
  split
  ·refine⟨⟨k,List.mem_cons_of_mem _ hk,e⟩,fun z hz=>?_⟩
   rcases List.mem_cons.1 hz with rfl|hz
   ·exact List.mem_cons_self ..
   ·exact List.mem_cons_of_mem _ (h2 z hz)
  ·split
   ·rename_i e2
    exact⟨⟨y,List.mem_cons_self ..,e2⟩,fun z hz=>hz⟩
   ·exact⟨⟨x,List.mem_cons_self ..,rfl⟩,fun z hz=>List.mem_cons_of_mem _ hz⟩
theorem insU_sorted {x:Ky}:∀ {l:List Ky},l.Pairwise (fun a b=>a.node<b.node)→(insU Ky.node x l).Pairwise (fun a b=>a.node<b.node)
 | [],_=>by simp[insU]
 | y::r,h=>by
  obtain⟨h1,h2⟩:=List.pairwise_cons.1 h
  unfold insU
  split
  ·rename_i hlt
   refine List.pairwise_cons.2 ⟨fun z hz=>?_,insU_sorted h2⟩
   rcases insU_mem hz with rfl|hz
   ·exact hlt
   ·exact h1 z hz
  ·split
   ·exact h
   ·rename_i a b
    have hxy:x.node<y.node:=by omega
    refine List.pairwise_cons.2 ⟨fun z hz=>?_,h⟩
    rcases List.mem_cons.1 hz with rfl|hz
    ·exact hxy
    ·have:=h1 z hz
     omega
theorem foldU {l:List Ky}:∀ {acc:List Ky},acc.Pairwise (fun a b=>a.node<b.node)→(l.foldl (fun acc x=>insU Ky.node x acc) acc).Pairwise (fun a b=>a.node<b.node)∧(∀ k∈l.foldl (fun acc x=>insU Ky.node x acc) acc,k∈acc∨k∈l)∧(∀ k∈acc,k∈l.foldl (fun acc x=>insU Ky.node x acc) acc)∧∀ k∈l,∃ z∈l.foldl (fun acc x=>insU Ky.node x acc) acc,z.node=k.node:=by
 induction l with
 | nil=>exact fun h=>⟨h,fun k hk=>.inl hk,fun k hk=>hk,fun k hk=>by cases hk⟩
 | cons x r ih=>
  intro acc h
  obtain⟨a1,a2,a3,a4⟩:=ih (insU_sorted (x:=x) h)
  obtain⟨⟨z,hz,ez⟩,b2⟩:=insU_has (x:=x) acc
  rw[List.foldl_cons]
  refine⟨a1,fun k hk=>?_,fun k hk=>a3 k (b2 k hk),fun k hk=>?_⟩
  ·rcases a2 k hk with hk|hk
   ·rcases insU_mem hk with rfl|hk
    ·exact .inr (List.mem_cons_self ..)
    ·exact .inl hk
   ·exact .inr (List.mem_cons_of_mem _ hk)
  ·rcases List.mem_cons.1 hk with rfl|hk
   ·exact⟨z,a3 z hz,ez⟩
   ·exact a4 k hk
theorem sortedK_all (l:List Ky):(sortedK l).Pairwise (fun a b=>a.node<b.node)∧(∀ k∈sortedK l,k∈l)∧∀ k∈l,∃ z∈sortedK l,z.node=k.node:=by
 obtain⟨a1,a2,-,a4⟩:=foldU (l:=l) (acc:=[]) List.Pairwise.nil
 exact⟨a1,fun k hk=>(a2 k hk).resolve_left (by simp),a4⟩
def wanted (t:Tr) (m x:Int):Prop:=x=2*m∨(x%2=1∧hld t.size x m∧(parAt t (x / 2)).set=true∧m∉(parAt t (x / 2)).loose)
instance (t:Tr) (m x:Int):Decidable (wanted t m x):=by unfold wanted;infer_instance
structure Keyed (t:Tr) (m:Int) (K:List Ky):Prop where
 nd:K.Pairwise (fun a b=>a.node<b.node)
 all:∀ k∈K,wanted t m k.node∧(pubAt t k.node).1=pubH k.priv
 full:∀ x,wanted t m x→∃ k∈K,k.node=x
def fst_ (K:List Kr) (x:Int):Option Kr:=K.find? fun k=>decide (k.node=x)
structure KU (u:Tr) (m:Int) (K:List Kr):Prop where
 own:∀ x,wanted u m x→∃ k,fst_ K x=some k∧(pubAt u x).1=pubH k.priv
 only:∀ k∈K,k.node=2*m∨(k.node%2=1∧(thr u.size k.node→hld u.size k.node m)∧((parAt u (k.node / 2)).set=true→m∉(parAt u (k.node / 2)).loose))
theorem fst_some {K:List Kr} {x:Int} {k:Kr} (h:fst_ K x=some k):k∈K∧k.node=x:=⟨List.mem_of_find?_eq_some h,by simpa using List.find?_some h⟩
theorem pubAt_odd {t:Tr} {x:Int} (h:x%2=1):pubAt t x=((parAt t (x / 2)).pub,(parAt t (x / 2)).set):=if_neg (by omega)
theorem pubAt_leaf (t:Tr) (m:Int):pubAt t (2*m)=((leafAt t m).pub,decide (0<(leafAt t m).name)):=by
 unfold pubAt
 rw[if_pos (by omega),show 2*m / 2=m by omega]
theorem parAt_thr {t:Tr} (h:t.Rt) {x:Int} (hx:x%2=1) (h0:0≤x) (hs:(parAt t (x / 2)).set=true):thr t.size x:=by
 have hlen:=h.len
 have hts:t.size=t.ls.length:=rfl
 by_cases hi:(x / 2).toNat<t.ps.length
 ·exact⟨by omega,h0,by omega⟩
 ·unfold parAt at hs
  rw[List.getD_eq_getElem?_getD,List.getElem?_eq_none (by omega)]at hs
  cases hs
theorem keyed_of {t:Tr} (hr:t.right=true) {m:Int} {l:List Kr} (h1:∀ k∈l,0≤k.node→k.node≤2*t.size - 2→pubAt t k.node=(pubH k.priv,true)→wanted t m k.node) (h2:∀ x,wanted t m x→(0≤x∧x≤2*t.size - 2)∧∃ k∈l,k.node=x∧pubAt t x=(pubH k.priv,true)):Keyed t m (keepT t l):=by
 have hR:=Tr.rt.1 hr
 have hlen:=hR.len
 have hts:t.size=t.ls.length:=rfl
 have e:keepT t l=sortedK (keepL t l):=if_pos hr
 rw[e]
 obtain⟨a1,a2,a3⟩:=sortedK_all (keepL t l)
 refine⟨a1,fun k hk=>?_,fun x hx=>?_⟩
 ·have hk:=a2 k hk
  unfold keepL at hk
  obtain⟨z,hz,ez⟩:=List.mem_filterMap.1 hk
  unfold keep1 at ez
  split at ez
  ·rename_i hc
   cases ez
   exact⟨h1 z hz hc.1.1 hc.2.1 hc.2.2,by rw[hc.2.2]⟩
  ·cases ez
 ·obtain⟨hb,k,hk,rfl,hp⟩:=h2 x hx
  have hkk:(⟨k.node,k.priv,by omega⟩:Ky)∈keepL t l:=List.mem_filterMap.2 ⟨k,hk,keep1_yes (by omega) (by omega) hp⟩
  obtain⟨z,hz,ez⟩:=a3 _ hkk
  exact⟨z,hz,ez⟩
theorem res_loose {t:Tr}:∀ (f:Nat) (x:Int),level x≤f→thr t.size x→∀ z∈resL f t x,z%2=1→(parAt t (z / 2)).set=true∧∀ p∈(parAt t (z / 2)).loose,2*p∈resL f t x
 | 0,x,hl,ht,z,hz,ho=>by
  have:=level_odd x
  rw[resL_leaf (by omega)]at hz
  split at hz
  ·obtain rfl:=List.mem_singleton.1 hz
   omega
  ·cases hz
 | f+1,x,hl,ht,z,hz,ho=>by
  unfold resL at hz ⊢
  by_cases he:x%2=0
  ·rw[if_pos he]at hz
   split at hz
   ·obtain rfl:=List.mem_singleton.1 hz
    omega
   ·cases hz
  ·rw[if_neg he]at hz ⊢
   by_cases hs:(parAt t (x / 2)).set=true
   ·rw[if_pos hs]at hz ⊢
    rcases List.mem_cons.1 hz with rfl|hz
    ·exact⟨hs,fun p hp=>List.mem_cons_of_mem _ (List.mem_map.2 ⟨p,hp,rfl⟩)⟩
    ·obtain⟨p,-,rfl⟩:=List.mem_map.1 hz
     omega
   ·rw[if_neg hs]at hz ⊢
    obtain⟨⟨t1,t2⟩,⟨l1,l2⟩,-⟩:=lr_eq ht (by omega)
    rcases List.mem_append.1 hz with hz|hz
    ·obtain⟨a,b⟩:=res_loose f _ (by omega) t1 z hz ho
     exact⟨a,fun p hp=>List.mem_append.2 (.inl (b p hp))⟩
    ·obtain⟨a,b⟩:=res_loose f _ (by omega) t2 z hz ho
     exact⟨a,fun p hp=>List.mem_append.2 (.inr (b p hp))⟩
theorem opened_made {about:List Int} {K:List Kr} {u:Tr} (s:H32):∀ (L:List Int) (W:List (List Int)),W.length=L.length→(∀ (j:Nat) (h:j<L.length) (h2:j<W.length),∃ o,W[j]=wrapL rowK tagK kemH (pubAt u L[j]).1 o about s.1) →
  (∀ x∈L,∀ k,fst_ K x=some k→(pubAt u x).1=pubH k.priv)→(∃ x∈L,∃ k,fst_ K x=some k)→openedT about K L W=(s,0)
 | [],_,_,_,_,h=>by
  obtain⟨x,hx,-⟩:=h
  cases hx
 | x::L,[],h,_,_,_=>by simp at h
 | x::L,y::W,hl,hw,ha,he=>by
  rw[openedT_cons]
  have ef:K.find? (fun k=>decide (k.node=x))=fst_ K x:=rfl
  rw[ef]
  cases hk:fst_ K x with
  | none=>
   simp only
   refine opened_made s L W (by simpa using hl) (fun j h h2=>?_) (fun z hz=>ha z (List.mem_cons_of_mem _ hz)) ?_
   ·obtain⟨o,e⟩:=hw (j+1) (by simp only[List.length_cons];omega) (by simp only[List.length_cons];omega)
    exact⟨o,by simpa using e⟩
   ·obtain⟨z,hz,k,e⟩:=he
    rcases List.mem_cons.1 hz with rfl|hz
    ·rw[hk]at e
     cases e
    ·exact⟨z,hz,k,e⟩
  | some k=>
   simp only
   obtain⟨o,e⟩:=hw 0 (by simp) (by simp)
   simp only[List.getElem_cons_zero]at e
   have hp:=ha x (List.mem_cons_self ..) k hk
   rw[hp]at e
   have hu:unwrapE k.priv about y=(s.1,0):=by
    rw[e]
    exact unwrapE_wrap k.priv o about s.1 s.2.2 (by rw[s.2.1];omega)
   rw[hu,if_neg (by simp),if_neg (by rw[s.2.1];omega),h32_self]
theorem fst_none {K:List Kr} {x:Int} (h:fst_ K x=none):∀ k∈K,k.node≠x:=fun k hk e=>by
 have:=List.find?_eq_none.1 h k hk
 simp[e]at this
theorem opened_side {u:Tr} (hR:u.Rt) {m:Int} {K:List Kr} (hK:KU u m K) {y:Int} (hy:thr u.size y) (hm:hld u.size y m) (hn:nameAt u.ls m≠0) (fresh:List Int) (hf:m∉fresh) (once:H32) (about:List Int) (s:H32) (i:Nat):
  openedT about K ((resT u y).filter fun z=>!isF fresh z) (wrapsT u once about s i ((resT u y).filter fun z=>!isF fresh z) ((resT u y).filter fun z=>!isF fresh z).length)=(s,0):=by
 have hrt:resT u y=resL 8 u y:=if_pos hy
 have hlv:level y≤(8:Nat):=by have:=lev_rng 8 y;unfold level;omega
 obtain⟨m0,m1,-⟩:=hld_rng hm
 have hlen:=hR.len
 have hts:u.size=u.ls.length:=rfl
 have hF:isF fresh (2*m)=false:=by
  rw[isF_eq (by omega) (by omega),decide_eq_false]
  rintro⟨-,h⟩
  rw[show 2*m / 2=m by omega]at h
  exact hf h
 refine opened_made (u:=u) s _ _ (wrapsT_len ..) (fun j h h2=>?_) (fun x hx k hk=>?_) ?_
 ·refine⟨drv once swrap (strOfNums (numB i++numB j)),?_⟩
  simp only[wrapsT,List.getElem_map,List.getElem_range]
  rw[List.getD_eq_getElem?_getD,List.getElem?_eq_getElem h]
  rfl
 ·obtain⟨hkm,rfl⟩:=fst_some hk
  have hx:=(List.mem_filter.1 hx).1
  rw[hrt]at hx
  have hw:wanted u m k.node:=by
   rcases hK.only k hkm with e|⟨e1,e2,e3⟩
   ·exact .inl e
   ·obtain⟨r1,-⟩:=res_loose 8 y hlv hy k.node hx e1
    exact .inr ⟨e1,e2 (resL_thr hR 8 y hy _ hx),r1,e3 r1⟩
  obtain⟨k',h1,h2⟩:=hK.own _ hw
  rw[hk]at h1
  cases h1
  exact h2
 ·have hc:=((cover hR m 8 y hlv hy).2 hm).2 hn
  have key:2*m∈resL 8 u y→∃ x∈(resT u y).filter fun z=>!isF fresh z,∃ k,fst_ K x=some k:=fun h=>by
   obtain⟨k,hk,-⟩:=hK.own _ (.inl rfl)
   exact⟨2*m,List.mem_filter.2 ⟨by rw[hrt];exact h,by rw[hF];rfl⟩,k,hk⟩
  by_cases h2:2*m∈resL 8 u y
  ·exact key h2
  ·have h3:slf m (resL 8 u y)=0:=by
    unfold slf
    rw[List.countP_eq_zero]
    intro z hz
    rw[decide_eq_true_eq]
    rintro rfl
    exact h2 hz
   have h4:0<ovr u.size m (resL 8 u y):=by omega
   unfold ovr at h4
   obtain⟨z,hz,hzz⟩:=List.countP_pos_iff.1 h4
   rw[decide_eq_true_eq]at hzz
   have hzt:=resL_thr hR 8 y hy z hz
   have hzo:z%2=1:=by
    by_cases he:z%2=0
    ·exfalso
     obtain⟨p,rfl⟩:∃ p,z=2*p:=⟨z / 2,by omega⟩
     exact hzz.1 (by rw[(hld_leaf hzt).1 hzz.2])
    ·omega
   obtain⟨r1,r2⟩:=res_loose 8 y hlv hy z hz hzo
   by_cases hl:m∈(parAt u (z / 2)).loose
   ·exact absurd (r2 m hl) h2
   ·obtain⟨k,hk,-⟩:=hK.own z (.inr ⟨hzo,hzz.2,r1,hl⟩)
    refine⟨z,List.mem_filter.2 ⟨by rw[hrt];exact hz,?_⟩,k,hk⟩
    obtain⟨z1,z2,z3⟩:=hzt
    rw[isF_eq (by omega) (by omega),decide_eq_false (by omega)]
    rfl
end Go.Proofs.YtpjodlnlmaaihaaGreat
namespace Go.Proofs.YtpjodlnlmaaihaaGreat
open Go.RowKit Go.Lib
theorem secK_add (s:H32) (a:Nat):∀ b,secK (secK s a) b=secK s (a+b)
 | 0=>rfl
 | b+1=>by
  rw[secK_succ,secK_add s a b]
  rfl
theorem hld_up {n x p:Int} (h:thr n x) (hh:hld n x p) (ha:0≤ab n x):hld n (ab n x) p:=by
 obtain⟨ho,hz⟩:=up_lr h ha
 have hta:thr n (ab n x):=ab_thr h (by omega)
 rw[hld_kids hta ho]
 rcases hz with hz|hz
 ·exact .inl (hz ▸ hh)
 ·exact .inr (hz ▸ hh)
theorem hld_side {n z p:Int} (h:thr n z) (ha:0≤ab n z) (hu:hld n (ab n z) p) (hn:¬hld n z p):hld n (bs n z) p:=by
 obtain⟨ho,hz⟩:=up_lr h ha
 have hta:thr n (ab n z):=ab_thr h (by omega)
 obtain⟨-,-,-,b1,b2⟩:=lr_eq hta ho
 rw[hld_kids hta ho]at hu
 rcases hz with hz|hz
 ·have hb:bs n z=rt n (ab n z):=by
   conv=>lhs;rw[hz]
   exact b1
  rw[hb]
  exact hu.resolve_left (fun k=>hn (hz ▸ k))
 ·have hb:bs n z=lf n (ab n z):=by
   conv=>lhs;rw[hz]
   exact b2
  rw[hb]
  exact hu.resolve_right (fun k=>hn (hz ▸ k))
theorem way_step {n pl:Int} (h:0≤pl∧pl<n) {m:Nat} (hm:m<(dirL n pl).length):(dirL n pl)[m]=ab n (wNode pl (dirL n pl) m)∧0≤(dirL n pl)[m]:=by
 have hd:dirL n pl=dirF 8 n (2*pl):=if_pos h
 have h1:=dirF_nth (n:=n) 8 (2*pl) m (by rw[← hd];exact hm)
 rw[wNode_eq (by omega)]
 simp only[hd]
 exact h1
theorem way_thr {n pl:Int} (h:0≤pl∧pl<n∧n≤64) {m:Nat} (hm:m<(dirL n pl).length):thr n (dirL n pl)[m]:=by
 obtain⟨h1,h2⟩:=way_step ⟨h.1,h.2.1⟩ hm
 obtain⟨h3,-⟩:=way_ok h hm
 rw[h1]at h2 ⊢
 exact ab_thr h3 (by omega)
theorem meet_at {n pl m:Int} (h:0≤pl∧pl<n∧n≤64) (hm:0≤m∧m<n) (hne:m≠pl) {q:Nat} (hq:(dirL n pl).findIdx (fun x=>decide (hld n x m))=q):
  q<(dirL n pl).length∧hld n (bs n (wNode pl (dirL n pl) q)) m∧(∀ i (hi:i<(dirL n pl).length),hld n (dirL n pl)[i] m↔q≤i):=by
 have hlt:=dir_meets (n:=n) (p:=pl) (q:=m) ⟨h.1,h.2.1⟩ hm h.2.2 hne
 have hat:=List.findIdx_getElem (w:=hlt)
 have hlow:∀ j (hj:j<(dirL n pl).length),j<q→¬hld n (dirL n pl)[j] m:=fun j hj hjq=>by
  have:=List.not_of_lt_findIdx (p:=fun x=>decide (hld n x m)) (xs:=dirL n pl) (i:=j) (by omega)
  simpa using this
 have hq1:q<(dirL n pl).length:=by omega
 have hqh:hld n (dirL n pl)[q] m:=by
  simp only[hq,decide_eq_true_eq]at hat
  exact hat
 obtain⟨e1,e2⟩:=way_step ⟨h.1,h.2.1⟩ hq1
 obtain⟨w1,w2,w3,w4⟩:=way_ok h hq1
 have hup:∀ d,(hi:q+d<(dirL n pl).length)→hld n (dirL n pl)[q+d] m:=by
  intro d
  induction d with
  | zero=>exact fun _=>hqh
  | succ d ih=>
   intro hi
   have h0:=ih (by omega)
   obtain⟨f1,f2⟩:=way_step ⟨h.1,h.2.1⟩ hi
   have f3:wNode pl (dirL n pl) (q+(d+1))=(dirL n pl)[q+d]'(by omega):=by
    show(dirL n pl).getD (q+d) 0=_
    rw[List.getD_eq_getElem?_getD,List.getElem?_eq_getElem (by omega)]
    rfl
   rw[f3]at f1
   rw[f1]at f2 ⊢
   exact hld_up (way_thr h (by omega)) h0 f2
 refine⟨hq1,?_,fun i hi=>⟨fun hh=>?_,fun hle=>?_⟩⟩
 ·refine hld_side w1 (by omega) (by rw[← e1];exact hqh) ?_
  cases q with
  | zero=>
   intro hh
   exact hne ((hld_leaf (n:=n) (p:=pl) w1).1 hh).symm
  | succ k=>
   have f3:wNode pl (dirL n pl) (k+1)=(dirL n pl)[k]'(by omega):=by
    show(dirL n pl).getD k 0=_
    rw[List.getD_eq_getElem?_getD,List.getElem?_eq_getElem (by omega)]
    rfl
   rw[f3]
   exact hlow k (by omega) (by omega)
 ·exact Decidable.byContradiction fun hn=>hlow i hi (by omega) hh
 ·obtain⟨d,rfl⟩:∃ d,i=q+d:=⟨i - q,by omega⟩
  exact hup d hi
def pathG (u:Tr) (pl:Int) (pub:H32) (keys:List H32):Tr:=⟨u.ls.modify pl.toNat (·.key pub (sd u pl (dirL u.size pl) keys 0)),pthPs (dirL u.size pl) (newP u pl (dirL u.size pl) keys) (fun _=>true) u.ps⟩
theorem pathP_eq {u:Tr} (hR:u.Rt) {pl:Int} (hp:¬u.nobody pl) {pub:H32} {keys:List H32} (hk:keys.length=(dirL u.size pl).length):u.pathP pl pub keys=(pathG u pl pub keys,0):=by
 unfold Tr.pathP Tr.pathR
 rw[if_neg (by rw[Tr.rt.2 hR];simp),if_neg hp,if_neg (by omega)]
 rfl
theorem pathG_size (u:Tr) (pl:Int) (pub:H32) (keys:List H32):(pathG u pl pub keys).size=u.size:=by
 show((pathG u pl pub keys).ls.length:Int)=u.ls.length
 simp[pathG]
theorem pathG_leaf {u:Tr} {pl:Int} (h0:0≤pl) {pub:H32} {keys:List H32} {m:Int} (hm:0≤m) (hne:m≠pl):leafAt (pathG u pl pub keys) m=leafAt u m:=by
 unfold leafAt
 show(u.ls.modify pl.toNat _).getD m.toNat Lf.zero=_
 rw[List.getD_eq_getElem?_getD,List.getD_eq_getElem?_getD,List.getElem?_modify]
 have hn:¬pl.toNat=m.toNat:=by omega
 cases u.ls[m.toNat]? with
 | none=>rfl
 | some l=>
  show(if pl.toNat=m.toNat then _ else l)=l
  rw[if_neg hn]
theorem pathG_self {u:Tr} {pl:Int} (h0:0≤pl∧pl<u.size) {pub:H32} {keys:List H32}:(leafAt (pathG u pl pub keys) pl).pub=pub∧(leafAt (pathG u pl pub keys) pl).name=(leafAt u pl).name:=by
 have hts:u.size=u.ls.length:=rfl
 unfold leafAt
 show((u.ls.modify pl.toNat _).getD pl.toNat Lf.zero).pub=pub∧((u.ls.modify pl.toNat _).getD pl.toNat Lf.zero).name=_
 rw[List.getD_eq_getElem?_getD,List.getD_eq_getElem?_getD,List.getElem?_modify,List.getElem?_eq_getElem (by omega)]
 simp only[if_pos,Option.map_some,Option.map_eq_map,Option.getD_some]
 exact⟨rfl,rfl⟩
theorem pathG_par {u:Tr} (hR:u.Rt) {pl:Int} (hp:0≤pl∧pl<u.size) {pub:H32} {keys:List H32} {x:Int} (hx:x%2=1) (h0:0≤x):
  (x∉dirL u.size pl→parAt (pathG u pl pub keys) (x / 2)=parAt u (x / 2))∧(∀ i (hi:i<(dirL u.size pl).length),(dirL u.size pl)[i]=x→(parAt (pathG u pl pub keys) (x / 2)).set=true∧(parAt (pathG u pl pub keys) (x / 2)).loose=[]∧(parAt (pathG u pl pub keys) (x / 2)).pub=keys.getD i hzero):=by
 have hlen:=hR.len
 have hts:u.size=u.ls.length:=rfl
 have hk:x=2*(((x / 2).toNat:Nat):Int)+1:=by omega
 have hnd:=dir_nodup (n:=u.size) (l:=pl) (by omega)
 refine⟨fun hn=>?_,fun i hi e=>?_⟩
 ·unfold parAt
  show(pthPs (dirL u.size pl) (newP u pl (dirL u.size pl) keys) (fun _=>true) u.ps).getD (x / 2).toNat Pn.zero=_
  rw[List.getD_eq_getElem?_getD,List.getD_eq_getElem?_getD]
  unfold pthPs
  rw[List.getElem?_mapIdx]
  cases hu:u.ps[(x / 2).toNat]? with
  | none=>rfl
  | some p=>
   simp only[Option.map_some,Option.getD_some]
   rw[if_neg]
   rintro⟨h,-⟩
   have:=wIdx_get h
   exact hn (by rw[hk,← this];exact List.getElem_mem h)
 ·have ht:=way_thr (n:=u.size) (pl:=pl) ⟨hp.1,hp.2,by omega⟩ hi
  rw[e]at ht
  obtain⟨t1,t2,t3⟩:=ht
  have hix:(x / 2).toNat<u.ps.length:=by omega
  have hw:wIdx (dirL u.size pl) (x / 2).toNat=i:=wIdx_at hnd hi (by rw[e];exact hk)
  have hpar:parAt (pathG u pl pub keys) (x / 2)=newP u pl (dirL u.size pl) keys i:=by
   unfold parAt
   show(pthPs (dirL u.size pl) (newP u pl (dirL u.size pl) keys) (fun _=>true) u.ps).getD (x / 2).toNat Pn.zero=_
   rw[List.getD_eq_getElem?_getD]
   unfold pthPs
   rw[List.getElem?_mapIdx,List.getElem?_eq_getElem hix]
   simp only[Option.map_some,Option.getD_some]
   rw[hw,if_pos ⟨hi,trivial⟩]
  rw[hpar]
  exact⟨rfl,rfl,rfl⟩
end Go.Proofs.YtpjodlnlmaaihaaGreat
namespace Go.Proofs.YtpjodlnlmaaihaaGreat
open Go.RowKit Go.Lib
theorem pubsL_drop (s:H32) (n:Nat):(pubsL s (n+1)).drop 1=(List.range n).map fun i=>pubK s (i+1):=by
 refine List.ext_getElem (by simp[pubsL]) fun i h1 h2=>?_
 simp[pubsL]
theorem pubs_len (s:H32) (n:Nat):((pubsL s (n+1)).drop 1).length=n:=by simp[pubsL]
theorem pubs_at {s:H32} {n i:Nat} (h:i<n):((pubsL s (n+1)).drop 1).getD i hzero=pubK s (i+1):=by
 rw[pubsL_drop,List.getD_eq_getElem?_getD,List.getElem?_eq_getElem (by simpa using h)]
 simp
def grT (u:Tr) (pl:Int) (once:H32):Tr:=pathG u pl (pubK (leafS once) 0) ((pubsL (leafS once) ((dirL u.size pl).length+1)).drop 1)
theorem growG_tree {u:Tr} (hR:u.Rt) {pl:Int} (hp:¬u.nobody pl) (once:H32) (about fresh:List Int):(growG u pl once about fresh).tree=grT u pl once∧(grT u pl once).Rt:=by
 have h:=pathP_eq hR hp (pub:=pubK (leafS once) 0) (keys:=(pubsL (leafS once) ((dirL u.size pl).length+1)).drop 1) (pubs_len ..)
 refine⟨?_,?_⟩
 ·show(u.pathP pl _ _).1=_
  rw[h]
  rfl
 ·have hr:u.pathP pl (pubK (leafS once) 0) ((pubsL (leafS once) ((dirL u.size pl).length+1)).drop 1)=u.pathR pl (pubK (leafS once) 0) ((pubsL (leafS once) ((dirL u.size pl).length+1)).drop 1):=by
   unfold Tr.pathP
   rw[if_neg (by rw[Tr.rt.2 hR];simp)]
  have h2:=path_rt hR pl (pubK (leafS once) 0) ((pubsL (leafS once) ((dirL u.size pl).length+1)).drop 1) (by rw[← hr,h])
  rw[← hr,h]at h2
  exact h2
theorem risen_mem {way:List Int} {s:H32} {n:Nat} (hn:n=way.length) (hr:∀ x∈way,0≤x∧x≤1000) {k:Kr}:k∈(keysL way s n).map Ky.kr↔∃ j,∃ hj:j<way.length,k=⟨way[j],drv (secK s j) bnode es0⟩:=by
 subst hn
 constructor
 ·intro h
  obtain⟨y,hy,rfl⟩:=List.mem_map.1 h
  obtain⟨j,hj,rfl⟩:=List.getElem_of_mem hy
  have hj2:j<way.length:=by rwa [keysL_len]at hj
  refine⟨j,hj2,?_⟩
  rw[keysL_at]
  have h1:=keyK_node (way:=way) (s:=s) (i:=j) (getD_rng hr j)
  have h2:=keyK_priv (way:=way) (s:=s) (i:=j) (getD_rng hr j)
  rw[List.getD_eq_getElem?_getD,List.getElem?_eq_getElem hj2]at h1
  unfold Ky.kr
  rw[h1,h2]
  rfl
 ·rintro⟨j,hj,rfl⟩
  refine List.mem_map.2 ⟨keyK way s j,?_,?_⟩
  ·unfold keysL
   exact List.mem_map.2 ⟨j,by simpa using hj,rfl⟩
  ·have h1:=keyK_node (way:=way) (s:=s) (i:=j) (getD_rng hr j)
   have h2:=keyK_priv (way:=way) (s:=s) (i:=j) (getD_rng hr j)
   rw[List.getD_eq_getElem?_getD,List.getElem?_eq_getElem hj]at h1
   unfold Ky.kr
   rw[h1,h2]
   rfl
theorem way_rng {n pl:Int} (h:0≤pl∧pl<n∧n≤64):∀ x∈dirL n pl,0≤x∧x≤1000:=fun x hx=>by
 obtain⟨m,hm,rfl⟩:=List.getElem_of_mem hx
 have:=way_mem h hm
 omega
theorem grT_par {u:Tr} (hR:u.Rt) {pl:Int} (hp:0≤pl∧pl<u.size) (once:H32) {x:Int} (hx:x%2=1) (h0:0≤x):
  (x∉dirL u.size pl→parAt (grT u pl once) (x / 2)=parAt u (x / 2))∧(∀ i (hi:i<(dirL u.size pl).length),(dirL u.size pl)[i]=x→(parAt (grT u pl once) (x / 2)).set=true∧(parAt (grT u pl once) (x / 2)).loose=[]∧(parAt (grT u pl once) (x / 2)).pub=pubK (leafS once) (i+1)):=by
 obtain⟨a,b⟩:=pathG_par hR hp (pub:=pubK (leafS once) 0) (keys:=(pubsL (leafS once) ((dirL u.size pl).length+1)).drop 1) hx h0
 refine⟨a,fun i hi e=>?_⟩
 obtain⟨b1,b2,b3⟩:=b i hi e
 exact⟨b1,b2,by rw[pubs_at hi]at b3;exact b3⟩
theorem leaf_name {u:Tr} (hR:u.Rt) {m:Int} (hm:¬u.nobody m):0<(leafAt u m).name:=by
 obtain⟨c0,c1,c2⟩:=Tr.body hm
 have hn:nameAt u.ls m≠0:=fun h=>hm (.inr h)
 have:=name_nonneg hR.parts.1.1 m
 rw[leafAt_name c0]
 omega
theorem keys_good {u:Tr} (hR:u.Rt) {pl m:Int} (hp:¬u.nobody pl) (hm:¬u.nobody m) (hne:m≠pl) {K:List Kr} (hK:KU u m K) (once:H32) {q:Nat} (hq:(dirL u.size pl).findIdx (fun x=>decide (hld u.size x m))=q):
  Keyed (grT u pl once) m (keepT (grT u pl once) ((keysL ((dirL u.size pl).drop q) (secK (leafS once) (q+1)) ((dirL u.size pl).length - q)).map Ky.kr++K)):=by
 have hlen:=hR.len
 have hts:u.size=u.ls.length:=rfl
 obtain⟨b0,b1,b2⟩:=Tr.body hp
 obtain⟨c0,c1,c2⟩:=Tr.body hm
 obtain⟨hq1,-,hq3⟩:=meet_at (n:=u.size) (pl:=pl) (m:=m) ⟨b0,by omega,by omega⟩ ⟨c0,by omega⟩ hne hq
 have hsz:(grT u pl once).size=u.size:=pathG_size ..
 have hrt:=(growG_tree hR hp once [] []).2
 have hwr:∀ x∈(dirL u.size pl).drop q,0≤x∧x≤1000:=fun x hx=>way_rng ⟨b0,by omega,by omega⟩ x (List.mem_of_mem_drop hx)
 have hmem:=fun k=>risen_mem (way:=(dirL u.size pl).drop q) (s:=secK (leafS once) (q+1)) (n:=(dirL u.size pl).length - q) (by rw[List.length_drop]) hwr (k:=k)
 have hlf:leafAt (grT u pl once) m=leafAt u m:=pathG_leaf b0 c0 hne
 have hdm:=fun x hx=>dir_mem (n:=u.size) (l:=pl) (x:=x) (by omega) hx
 have hpubm:pubAt (grT u pl once) (2*m)=pubAt u (2*m):=by rw[pubAt_leaf,pubAt_leaf,hlf]
 -- nodes on the way that hold m
 have hway:∀ i (hi:i<(dirL u.size pl).length),q≤i→wanted (grT u pl once) m (dirL u.size pl)[i]:=fun i hi hqi=>by
  have hd:=hdm _ (List.getElem_mem hi)
  obtain⟨-,g2⟩:=grT_par hR ⟨b0,by omega⟩ once (x:=(dirL u.size pl)[i]) (by omega) (by omega)
  obtain⟨g3,g4,g5⟩:=g2 i hi rfl
  exact .inr ⟨by omega,by rw[hsz];exact(hq3 i hi).2 hqi,g3,by rw[g4];simp⟩
 refine keyed_of (Tr.rt.2 hrt) (fun k hk h0 h1 hpk=>?_) (fun x hx=>?_)
 ·rcases List.mem_append.1 hk with hk|hk
  ·obtain⟨j,hj,rfl⟩:=(hmem k).1 hk
   have hj2:q+j<(dirL u.size pl).length:=by rw[List.length_drop]at hj;omega
   have e:((dirL u.size pl).drop q)[j]=(dirL u.size pl)[q+j]:=by rw[List.getElem_drop]
   simp only[e]
   exact hway (q+j) hj2 (by omega)
  ·rcases hK.only k hk with e|⟨e1,e2,e3⟩
   ·exact .inl e
   ·obtain⟨g1,g2⟩:=grT_par hR ⟨b0,by omega⟩ once (x:=k.node) e1 h0
    have ht:thr u.size k.node:=⟨by omega,h0,by rw[hsz]at h1;exact h1⟩
    by_cases hw:k.node∈dirL u.size pl
    ·obtain⟨i,hi,e⟩:=List.getElem_of_mem hw
     rw[← e]
     exact hway i hi ((hq3 i hi).1 (by rw[e];exact e2 ht))
    ·rw[pubAt_odd e1,g1 hw,Prod.mk.injEq]at hpk
     exact .inr ⟨e1,by rw[hsz];exact e2 ht,by rw[g1 hw];exact hpk.2,by rw[g1 hw];exact e3 hpk.2⟩
 ·rcases hx with rfl|⟨x1,x2,x3,x4⟩
  ·obtain⟨k,hk,hpub⟩:=hK.own _ (.inl rfl)
   obtain⟨k1,k2⟩:=fst_some hk
   refine⟨⟨by omega,by rw[hsz];omega⟩,k,List.mem_append.2 (.inr k1),k2,?_⟩
   rw[hpubm,← hpub]
   refine Prod.ext rfl ?_
   rw[pubAt_leaf]
   exact decide_eq_true (leaf_name hR hm)
  ·have hth:=(hld_rng x2).2.2
   rw[hsz]at hth x2
   obtain⟨t1,t2,t3⟩:=hth
   refine⟨⟨t2,by rw[hsz];exact t3⟩,?_⟩
   obtain⟨g1,g2⟩:=grT_par hR ⟨b0,by omega⟩ once (x:=x) x1 t2
   by_cases hw:x∈dirL u.size pl
   ·obtain⟨i,hi,e⟩:=List.getElem_of_mem hw
    have hqi:=(hq3 i hi).1 (by rw[e];exact x2)
    obtain⟨g3,g4,g5⟩:=g2 i hi e
    refine⟨⟨x,drv (secK (leafS once) (i+1)) bnode es0⟩,List.mem_append.2 (.inl ((hmem _).2 ⟨i - q,by rw[List.length_drop];omega,?_⟩)),rfl,?_⟩
    ·have e2:((dirL u.size pl).drop q)[i - q]'(by rw[List.length_drop];omega)=x:=by
      rw[List.getElem_drop,← e]
      congr 1
      omega
     rw[e2,secK_add]
     congr 3
     omega
    ·rw[pubAt_odd x1,g3,g5]
     rfl
   ·rw[g1 hw]at x3 x4
    obtain⟨k,hk,hpub⟩:=hK.own x (.inr ⟨x1,x2,x3,x4⟩)
    obtain⟨k1,k2⟩:=fst_some hk
    refine⟨k,List.mem_append.2 (.inr k1),k2,?_⟩
    rw[pubAt_odd x1]at hpub ⊢
    rw[g1 hw,x3,← hpub]
theorem keys_own {u:Tr} (hR:u.Rt) {pl:Int} (hp:¬u.nobody pl) (once:H32):Keyed (grT u pl once) pl (sortedK (keysL (2*pl::dirL u.size pl) (leafS once) ((dirL u.size pl).length+1))):=by
 have hlen:=hR.len
 have hts:u.size=u.ls.length:=rfl
 obtain⟨b0,b1,b2⟩:=Tr.body hp
 have hsz:(grT u pl once).size=u.size:=pathG_size ..
 have hwr0:=way_rng (n:=u.size) (pl:=pl) ⟨b0,by omega,by omega⟩
 have hwr:∀ x∈2*pl::dirL u.size pl,0≤x∧x≤1000:=fun x hx=>by
  rcases List.mem_cons.1 hx with rfl|hx
  ·omega
  ·exact hwr0 x hx
 have hdm:=fun x hx=>dir_mem (n:=u.size) (l:=pl) (x:=x) (by omega) hx
 have hkl:(keysL (2*pl::dirL u.size pl) (leafS once) ((dirL u.size pl).length+1)).length=(dirL u.size pl).length+1:=keysL_len ..
 obtain⟨a1,a2,a3⟩:=sortedK_all (keysL (2*pl::dirL u.size pl) (leafS once) ((dirL u.size pl).length+1))
 have hgood:∀ k∈keysL (2*pl::dirL u.size pl) (leafS once) ((dirL u.size pl).length+1),wanted (grT u pl once) pl k.node∧(pubAt (grT u pl once) k.node).1=pubH k.priv:=fun k hk=>by
  obtain⟨j,hj,rfl⟩:=List.getElem_of_mem hk
  rw[keysL_at,keyK_node (getD_rng hwr j),keyK_priv (getD_rng hwr j)]
  cases j with
  | zero=>
   show wanted _ _ (2*pl)∧(pubAt _ (2*pl)).1=_
   refine⟨.inl rfl,?_⟩
   rw[pubAt_leaf]
   exact(pathG_self ⟨b0,by omega⟩).1
  | succ i=>
   have hi:i<(dirL u.size pl).length:=by omega
   have e:(2*pl::dirL u.size pl).getD (i+1) 0=(dirL u.size pl)[i]:=by
    show(dirL u.size pl).getD i 0=_
    rw[List.getD_eq_getElem?_getD,List.getElem?_eq_getElem hi]
    rfl
   rw[e]
   have hd:=hdm _ (List.getElem_mem hi)
   obtain⟨-,g2⟩:=grT_par hR ⟨b0,by omega⟩ once (x:=(dirL u.size pl)[i]) (by omega) (by omega)
   obtain⟨g3,g4,g5⟩:=g2 i hi rfl
   have hh:hld u.size (dirL u.size pl)[i] pl:=by
    have:=(mem_dir (n:=u.size) (l:=pl) (i:=((dirL u.size pl)[i] / 2).toNat) ⟨b0,by omega,by omega⟩ (by omega)).1
    rw[show 2*((((dirL u.size pl)[i] / 2).toNat:Nat):Int)+1=(dirL u.size pl)[i] by omega]at this
    exact this (List.getElem_mem hi)
   refine⟨.inr ⟨by omega,by rw[hsz];exact hh,g3,by rw[g4];simp⟩,?_⟩
   rw[pubAt_odd (by omega),g5]
   rfl
 refine⟨a1,fun k hk=>hgood k (a2 k hk),fun x hx=>?_⟩
 rcases hx with rfl|⟨x1,x2,x3,x4⟩
 ·obtain⟨z,hz,ez⟩:=a3 (keysL (2*pl::dirL u.size pl) (leafS once) ((dirL u.size pl).length+1))[0] (List.getElem_mem (by omega))
  rw[keysL_at,keyK_node (getD_rng hwr 0)]at ez
  exact⟨z,hz,ez⟩
 ·have hth:=(hld_rng x2).2.2
  rw[hsz]at hth x2
  obtain⟨t1,t2,t3⟩:=hth
  have hw:x∈dirL u.size pl:=by
   have:=(mem_dir (n:=u.size) (l:=pl) (i:=(x / 2).toNat) ⟨b0,by omega,by omega⟩ (by omega)).2
   rw[show 2*(((x / 2).toNat:Nat):Int)+1=x by omega]at this
   exact this x2
  obtain⟨i,hi,e⟩:=List.getElem_of_mem hw
  obtain⟨z,hz,ez⟩:=a3 (keysL (2*pl::dirL u.size pl) (leafS once) ((dirL u.size pl).length+1))[i+1] (List.getElem_mem (by omega))
  rw[keysL_at,keyK_node (getD_rng hwr (i+1))]at ez
  refine⟨z,hz,?_⟩
  rw[ez,← e]
  show(dirL u.size pl).getD i 0=_
  rw[List.getD_eq_getElem?_getD,List.getElem?_eq_getElem hi]
  rfl
end Go.Proofs.YtpjodlnlmaaihaaGreat
namespace Go.Proofs.YtpjodlnlmaaihaaGreat
open Go.RowKit Go.Lib
theorem plc_some {t:Tr} {x:Int} (h:0≤t.place x):1≤x∧∃ i:Nat,t.place x=i∧∃ hi:i<t.ls.length,t.ls[i].name=x:=by
 have h1:¬x<1:=fun c=>by
  unfold Tr.place at h
  rw[if_pos c]at h
  omega
 have e:t.place x=fix (fun l=>decide (l.name=x)) t.ls:=if_neg h1
 rw[e]at h ⊢
 unfold fix at h ⊢
 by_cases h2:t.ls.findIdx (fun l=>decide (l.name=x))<t.ls.length
 ·rw[if_pos h2]
  refine⟨by omega,_,rfl,h2,?_⟩
  simpa using List.findIdx_getElem (w:=h2)
 ·rw[if_neg h2]at h
  omega
theorem plc_iff {t:Tr} {x:Int}:0≤t.place x↔1≤x∧∃ l∈t.ls,l.name=x:=by
 constructor
 ·intro h
  obtain⟨a,i,-,hi,e⟩:=plc_some h
  exact⟨a,_,List.getElem_mem hi,e⟩
 ·rintro⟨a,l,hl,e⟩
  exact Decidable.byContradiction fun hn=>place_none a hn l hl e
theorem plc_at {t:Tr} (h:t.Rt) {i:Nat} (hi:i<t.ls.length) (hn:t.ls[i].name≠0):t.place t.ls[i].name=i:=by
 obtain⟨a,-⟩:=h.parts
 have hx:1≤t.ls[i].name:=by
  rcases a.1 _ (List.getElem_mem hi) with e|e
  ·rw[e]at hn
   exact absurd rfl hn
  ·omega
 obtain⟨-,j,e,hj,e2⟩:=plc_some (plc_iff.2 ⟨hx,_,List.getElem_mem hi,rfl⟩)
 rw[e]
 rcases Nat.lt_trichotomy i j with c|c|c
 ·exact absurd e2.symm (a.2.2 i j hi hj c hn)
 ·rw[c]
 ·exact absurd e2 (a.2.2 j i hj hi c (by rw[e2];exact hn))
theorem plc_name {t:Tr} {x:Int} (h:0≤t.place x):nameAt t.ls (t.place x)=x:=by
 obtain⟨a,i,e,hi,e2⟩:=plc_some h
 rw[e,nameAt_get hi,e2]
def Tr.leaf (t:Tr) (x:Int) (k:H32):Prop:=∃ l∈t.ls,l.name=x∧l.pub=k
theorem add_parts {t:Tr} {l:Lf} (h0:(t.addR l).2.2=0):(1≤l.name∧l.name≤64)∧¬0≤t.place l.name∧(t.addR l).1.ls=addL t l:=by
 unfold Tr.addR at h0 ⊢
 by_cases h1:l.name<1∨64<l.name
 ·rw[if_pos h1]at h0
  cases h0
 rw[if_neg h1]at h0 ⊢
 by_cases h2:0≤t.place l.name
 ·rw[if_pos h2]at h0
  cases h0
 rw[if_neg h2]at h0 ⊢
 by_cases h3:t.gap=64
 ·rw[if_pos h3]at h0
  cases h0
 rw[if_neg h3]
 exact⟨by omega,h2,rfl⟩
theorem ren_parts {t:Tr} {p:Int} {pub:H32} (h0:(t.renR p pub).2=0):¬t.nobody p∧(t.renR p pub).1=⟨t.ls.modify p.toNat (·.key pub hzero),blankR t.size p t.ps⟩:=by
 unfold Tr.renR at h0 ⊢
 by_cases hp:t.nobody p
 ·rw[if_pos hp]at h0
  cases h0
 ·rw[if_neg hp]
  exact⟨hp,rfl⟩
theorem rem_parts {t:Tr} {p:Int} (h0:(t.remR p).2=0):¬t.nobody p∧(t.remR p).1.ls=(t.ls.set p.toNat Lf.zero).take (keepN (t.ls.set p.toNat Lf.zero) (t.ls.set p.toNat Lf.zero).length):=by
 unfold Tr.remR at h0 ⊢
 by_cases hp:t.nobody p
 ·rw[if_pos hp]at h0
  cases h0
 ·rw[if_neg hp]
  exact⟨hp,rfl⟩
end Go.Proofs.YtpjodlnlmaaihaaGreat
namespace Go.Proofs.YtpjodlnlmaaihaaGreat
open Go.RowKit Go.Lib
theorem rungs_pub (t:Tr) (pl:Int) (way fresh:List Int) (once:H32) (about:List Int) (s:H32) (n:Nat):(rungsK t pl way fresh once about s n).map Rg.pub=(pubsL s (n+1)).drop 1:=by
 rw[pubsL_drop]
 unfold rungsK
 rw[List.map_map]
 rfl
theorem com_eq {s:H32} {q n:Nat} (h:q<n):comS (secK s (q+1)) (n - q)=comS s (n+1):=by
 unfold comS
 rw[secK_add]
 congr 2
 omega
theorem pubs_eq {s:H32} {q n:Nat}:pubsL (secK s (q+1)) (n - q)=((pubsL s (n+1)).drop 1).drop q:=by
 rw[pubsL_drop]
 refine List.ext_getElem (by simp[pubsL]) fun i h1 h2=>?_
 simp only[pubsL,List.getElem_map,List.getElem_range,List.getElem_drop]
 unfold pubK
 rw[secK_add]
 congr 3
 omega
def folG (u:Tr) (pl m:Int) (once:H32) (about fresh:List Int) (K:List Kr) (q:Nat):Gw:=
 ⟨grT u pl once,(growG u pl once about fresh).rungs,secL (secK (leafS once) (q+1)) ((dirL u.size pl).length - q),keepT (grT u pl once) ((keysL ((dirL u.size pl).drop q) (secK (leafS once) (q+1)) ((dirL u.size pl).length - q)).map Ky.kr++K),(growG u pl once about fresh).com⟩
theorem follow_meets {u:Tr} (hR:u.Rt) {pl m:Int} (hp:¬u.nobody pl) (hm:¬u.nobody m) (hne:m≠pl) {K:List Kr} (hK:KU u m K) (once:H32) (about fresh:List Int) (hf:m∉fresh):
  followT u pl (pubK (leafS once) 0) (growG u pl once about fresh).rungs about fresh m K=(folG u pl m once about fresh K ((dirL u.size pl).findIdx fun x=>decide (hld u.size x m)),0):=by
 have hlen:=hR.len
 have hts:u.size=u.ls.length:=rfl
 obtain⟨b0,b1,b2⟩:=Tr.body hp
 obtain⟨c0,c1,c2⟩:=Tr.body hm
 obtain⟨q,hq⟩:∃ q,(dirL u.size pl).findIdx (fun x=>decide (hld u.size x m))=q:=⟨_,rfl⟩
 obtain⟨hq1,hq2,hq3⟩:=meet_at (n:=u.size) (pl:=pl) (m:=m) ⟨b0,by omega,by omega⟩ ⟨c0,by omega⟩ hne hq
 obtain⟨y1,y2,y3,y4⟩:=way_ok (n:=u.size) (pl:=pl) ⟨b0,by omega,by omega⟩ hq1
 have hrl:(growG u pl once about fresh).rungs=rungsK u pl (dirL u.size pl) fresh once about (leafS once) (dirL u.size pl).length:=rfl
 have hrn:=rungsK_len u pl (dirL u.size pl) fresh once about (leafS once) (dirL u.size pl).length
 have hn:nameAt u.ls m≠0:=fun h=>hm (.inr h)
 unfold followT
 rw[if_neg (by rw[Tr.rt.2 hR];simp),if_neg (fun h=>h.elim hp hm),if_neg hne,hrl,if_neg (by omega),if_neg (fun k=>k (fun i hi=>by
  simp only[rungsK,List.getElem_map,List.getElem_range,rungK,wrapsT_len]))]
 simp only[hq]
 have hrg:(rungsK u pl (dirL u.size pl) fresh once about (leafS once) (dirL u.size pl).length).getD q ⟨hzero,[]⟩=rungK u once about (leafS once) (sideK u pl (dirL u.size pl) fresh q) q:=by
  rw[List.getD_eq_getElem?_getD,List.getElem?_eq_getElem (by omega)]
  simp[rungsK]
 have hop:openedT about K (sideK u pl (dirL u.size pl) fresh q) (rungK u once about (leafS once) (sideK u pl (dirL u.size pl) fresh q) q).wraps=(secK (leafS once) (q+1),0):=opened_side hR hK y3 hq2 hn fresh hf once about _ _
 rw[hrg,hop,rungs_pub]
 simp only
 rw[if_neg (by simp),if_neg (fun k=>k pubs_eq),com_eq hq1]
 have ht:(u.pathP pl (pubK (leafS once) 0) ((pubsL (leafS once) ((dirL u.size pl).length+1)).drop 1)).1=grT u pl once:=(growG_tree hR hp once about fresh).1
 rw[ht]
 rfl
theorem ku_after {t u:Tr} (hRu:u.Rt) {m:Int} (ht:0≤m∧m<t.size) (hu:0≤m∧m<u.size) {K:List Ky} (hK:Keyed t m K)
  (hpar:∀ x,x%2=1→(parAt u (x / 2)).set=true→(parAt t (x / 2)).set=true∧(parAt u (x / 2)).pub=(parAt t (x / 2)).pub∧(m∈(parAt u (x / 2)).loose↔m∈(parAt t (x / 2)).loose))
  (hRt:t.Rt) (hl:(leafAt u m).pub=(leafAt t m).pub):KU u m (K.map Ky.kr):=by
 have hlt:=hRt.len
 have hlu:=hRu.len
 have hst:t.size=t.ls.length:=rfl
 have hsu:u.size=u.ls.length:=rfl
 refine⟨fun x hx=>?_,fun k hk=>?_⟩
 ·have hw:wanted t m x:=by
   rcases hx with e|⟨x1,x2,x3,x4⟩
   ·exact .inl e
   ·obtain⟨p1,p2,p3⟩:=hpar x x1 x3
    have hx0:=(hld_rng x2).2.2.2.1
    exact .inr ⟨x1,hld_other x2 (parAt_thr hRt x1 hx0 p1) ht.2,p1,fun h=>x4 (p3.2 h)⟩
  have hpe:(pubAt u x).1=(pubAt t x).1:=by
   rcases hx with rfl|⟨x1,x2,x3,x4⟩
   ·rw[pubAt_leaf,pubAt_leaf]
    exact hl
   ·rw[pubAt_odd x1,pubAt_odd x1]
    exact(hpar x x1 x3).2.1
  obtain⟨z,hz,ez⟩:=hK.full x hw
  cases hf:fst_ (K.map Ky.kr) x with
  | none=>exact absurd ez (fst_none hf z.kr (List.mem_map.2 ⟨z,hz,rfl⟩))
  | some k=>
   refine⟨k,rfl,?_⟩
   obtain⟨k1,k2⟩:=fst_some hf
   obtain⟨y,hy,rfl⟩:=List.mem_map.1 k1
   have:=(hK.all y hy).2
   have e2:y.node=x:=k2
   rw[e2]at this
   rw[hpe,this]
   rfl
 ·obtain⟨y,hy,rfl⟩:=List.mem_map.1 hk
  rcases(hK.all y hy).1 with e|⟨x1,x2,x3,x4⟩
  ·exact .inl e
  ·exact .inr ⟨x1,fun h=>hld_other x2 h hu.2,fun h h2=>x4 ((hpar y.node x1 h).2.2.1 h2)⟩
theorem ku_own {u:Tr} {m:Int} {K:List Kr} (hK:∀ k∈K,k.node=2*m∨(k.node%2=1∧(thr u.size k.node→hld u.size k.node m)∧((parAt u (k.node / 2)).set=true→m∉(parAt u (k.node / 2)).loose)))
  (hw:∀ x,wanted u m x→x≠2*m→∃ k,fst_ K x=some k∧(pubAt u x).1=pubH k.priv) (priv:H32) (hp:(leafAt u m).pub=pubH priv):KU u m (⟨2*m,priv⟩::K):=by
 refine⟨fun x hx=>?_,fun k hk=>?_⟩
 ·by_cases e:x=2*m
  ·subst e
   refine⟨⟨2*m,priv⟩,?_,?_⟩
   ·unfold fst_
    simp[List.find?_cons]
   ·rw[pubAt_leaf]
    exact hp
  ·obtain⟨k,h1,h2⟩:=hw x hx e
   refine⟨k,?_,h2⟩
   unfold fst_ at h1 ⊢
   have hne:decide (2*m=x)=false:=decide_eq_false (fun h=>e h.symm)
   simp only[List.find?_cons,hne]
   exact h1
 ·rcases List.mem_cons.1 hk with rfl|hk
  ·exact .inl rfl
  ·exact hK k hk
theorem parAt_map {ps:List Pn} {f:Nat→Pn→Pn} {x:Int} (hz:∀ i,f i Pn.zero=Pn.zero):((ps.mapIdx f).getD (x / 2).toNat Pn.zero)=f (x / 2).toNat (ps.getD (x / 2).toNat Pn.zero):=by
 rw[List.getD_eq_getElem?_getD,List.getD_eq_getElem?_getD,List.getElem?_mapIdx]
 cases ps[(x / 2).toNat]? with
 | none=>exact(hz _).symm
 | some p=>rfl
theorem ren_par {t:Tr} {p:Int} {pub:H32} (h0:(t.renR p pub).2=0) {x:Int}:parAt (t.renR p pub).1 (x / 2)=if hld t.size (2*(((x / 2).toNat:Nat):Int)+1) p then Pn.zero else parAt t (x / 2):=by
 rw[(ren_parts h0).2]
 unfold parAt blankR
 simp only
 rw[parAt_map (f:=fun i q=>if hld t.size (2*(i:Int)+1) p then Pn.zero else q) (fun i=>by split <;> rfl)]
theorem rem_par {t:Tr} {p:Int} (h0:(t.remR p).2=0) {x:Int}:(parAt (t.remR p).1 (x / 2)).set=true→parAt (t.remR p).1 (x / 2)=parAt t (x / 2):=by
 unfold Tr.remR at h0 ⊢
 by_cases hp:t.nobody p
 ·rw[if_pos hp]at h0
  cases h0
 rw[if_neg hp]
 unfold parAt cut blankR
 simp only
 intro hs
 rw[List.getD_eq_getElem?_getD,List.getElem?_take]at hs ⊢
 split at hs
 ·rename_i hlt
  rw[if_pos hlt,List.getElem?_mapIdx]
  rw[List.getElem?_mapIdx]at hs
  rw[List.getD_eq_getElem?_getD]
  cases e:t.ps[(x / 2).toNat]? with
  | none=>rfl
  | some q=>
   rw[e]at hs
   simp only[Option.map_some,Option.getD_some]at hs ⊢
   split at hs
   ·cases hs
   ·rename_i hn
    rw[if_neg hn]
 ·cases hs
theorem add_par {t:Tr} {l:Lf} (h0:(t.addR l).2.2=0) {x:Int}:parAt (t.addR l).1 (x / 2)=if (parAt t (x / 2)).set=true∧hld (addL t l).length (2*(((x / 2).toNat:Nat):Int)+1) t.gap then { parAt t (x / 2) with loose:=putL (parAt t (x / 2)).loose t.gap } else parAt t (x / 2):=by
 have e:(t.addR l).1.ps=(addPs t).mapIdx fun i p=>if p.set=true∧hld (addL t l).length (2*i+1) t.gap then { p with loose:=putL p.loose t.gap } else p:=by
  unfold Tr.addR at h0 ⊢
  by_cases h1:l.name<1∨64<l.name
  ·rw[if_pos h1]at h0
   cases h0
  rw[if_neg h1]at h0 ⊢
  by_cases h2:0≤t.place l.name
  ·rw[if_pos h2]at h0
   cases h0
  rw[if_neg h2]at h0 ⊢
  by_cases h3:t.gap=64
  ·rw[if_pos h3]at h0
   cases h0
  rw[if_neg h3]
 have e2:(addPs t).getD (x / 2).toNat Pn.zero=parAt t (x / 2):=by
  unfold addPs parAt
  split
  ·rw[List.getD_eq_getElem?_getD,List.getD_eq_getElem?_getD,List.getElem?_append]
   split
   ·rfl
   ·rename_i h
    rw[List.getElem?_eq_none (l:=t.ps) (by omega)]
    cases e3:[Pn.zero][(x / 2).toNat - t.ps.length]? with
    | none=>rfl
    | some z=>
     have:=List.mem_of_getElem? e3
     rw[List.mem_singleton.1 this]
     rfl
  ·rfl
 unfold parAt
 rw[e,parAt_map (f:=fun i p=>if p.set=true∧hld (addL t l).length (2*(i:Int)+1) t.gap then { p with loose:=putL p.loose t.gap } else p) (fun i=>if_neg (fun h=>by cases h.1))]
 rw[e2]
 rfl
end Go.Proofs.YtpjodlnlmaaihaaGreat
namespace Go.Proofs.YtpjodlnlmaaihaaGreat
open Go.RowKit Go.Lib Go.Shelf
def sortI (l:List Int):List Int:=l.mergeSort fun x y=>decide (x≤y)
theorem sortI_len (l:List Int):(sortI l).length=l.length:=List.length_mergeSort ..
abbrev intsR (l:List Int):List (List Fd):=l.map fun x=>[.one (.int .i64 x)]
theorem fls_intsR (l:List Int):fls (intsR l)=l.map (Value.int .i64):=by
 induction l with
 | nil=>rfl
 | cons x r ih=>
  rw[List.map_cons,← ih]
  rfl
theorem intsR_els (l:List Int):Els 1 (intsR l):=Els.map (f:=fun x=>[.one (.int .i64 x)]) l fun _=>⟨inferInstance,rfl⟩
theorem St.grow (w:World) (os:Array Obj):St w [] (Go.Sort.grow w os):=⟨(fun _ h=>by cases h),.nil,(fun _ h=>by cases h),⟨rfl,rfl,rfl,by simp[Go.Sort.grow],fun k hk _=>by simp[Go.Sort.grow,Array.getElem?_append_left hk]⟩⟩
theorem mapBlock_setRow {w:World} {g e:Nat} {cs:List Value} {f:Array Value→Array Value} (hb:Blf w g e cs):Go.Sort.mapBlock w g f=w.setRow g (f cs.toArray):=by
 obtain⟨fr,hh,-⟩:=hb
 unfold Go.Sort.mapBlock World.setRow
 congr 1
 apply Array.ext_getElem?
 intro i
 rw[Array.getElem?_modify,Array.getElem?_modify]
 by_cases hi:g=i
 ·subst hi
  rw[if_pos rfl,if_pos rfl,hh]
  rfl
 ·rw[if_neg hi,if_neg hi]
theorem putCells_ints (l l':List Int) (sp:List Value) (hl:l'.length=l.length):Go.Sort.putCells (Value.int .i64) 0 l'.toArray (l.map (Value.int .i64)++sp).toArray=(l'.map (Value.int .i64)++sp).toArray:=by
 unfold Go.Sort.putCells
 apply Array.ext_getElem?
 intro i
 rw[Array.getElem?_mapIdx]
 simp only[List.getElem?_toArray,Nat.zero_le,true_and,Nat.zero_add,Nat.sub_zero,List.size_toArray]
 by_cases hi:i<l'.length
 ·rw[List.getElem?_append_left (by simpa using (by omega:i<l.length)),List.getElem?_append_left (by simpa using hi),List.getElem?_map,List.getElem?_map,List.getElem?_eq_getElem hi,List.getElem?_eq_getElem (show i<l.length by omega)]
  simp[hi]
 ·rw[List.getElem?_append_right (by simpa using (by omega:l.length≤i)),List.getElem?_append_right (by simpa using (by omega:l'.length≤i)),List.length_map,List.length_map,hl]
  have hi2:¬i<l.length:=by omega
  simp[hi2]
section
variable {P:Program} {ρ:Ren} {H:Hp} {w0 w:World} {L:List Res} {A:Option Addr} {cap:Nat}
theorem sort_own (Ly:Lays.n189 P ρ) (l:List Int) (hl:l.length≤1000000) (hM:Mem H w0 (rowR 3 1 A l.length cap (intsR l)::L) w):
  Calls P (ρ.f 189) #[.slice A l.length cap] w fun en w'=>∃ v,en=.returned v∧v=.tuple #[]∧Mem H w0 (rowR 3 1 A l.length cap (intsR (sortI l))::L) w':=by
 by_cases h0:l=[]
 ·subst h0
  refine(Any.slices_Sort_int_none Ly A cap w).mono ?_
  rintro e w' ⟨rfl,rfl⟩
  exact⟨_,rfl,rfl,by simpa [sortI] using hM⟩
 have hl0:0<l.length:=List.length_pos_iff.2 h0
 obtain⟨g,rfl⟩:∃ g,A=some ⟨g,0,none⟩:=by
  obtain⟨B,⟨B1,B2,rfl,⟨h1,h2,h3⟩,h4⟩,hs',hb⟩:=hM.own
  rcases h3 with ⟨hA,h5⟩|⟨g',sp,hA,-⟩
  ·omega
  ·exact⟨g',hA⟩
 obtain⟨sp,r1,r2,r3,r4,r5,hM⟩:=hM.raw (n:=l.length) (cap:=cap) (e:=3) (sz:=1) (ps:=intsR l) (R:=L) (g:=g)
 rw[fls_intsR]at r1 hM
 have hb:Blf w g 3 _:=hM.bkBlf
 refine(Any.slices_Sort_int Ly g 0 cap l w (fun j hj=>?_) hb.lt (by omega)).mono ?_
 ·have hj':j<l.length:=by simpa using hj
  rw[Nat.zero_add]
  refine⟨?_,hb.frozen j (by simp;omega)⟩
  rw[hb.cell,List.getElem?_append_left (by simpa using hj'),List.getElem?_map,List.getElem?_eq_getElem hj']
  simp[hj']
 ·rintro e w' ⟨rfl,n,os,rfl⟩
  have hM2:Mem H w0 (bk g 3 (l.map (Value.int .i64)++sp)::L) (Go.Sort.ahead w n):=hM.drawn ⟨n,rfl⟩
  have hb2:Blf _ g 3 _:=hM2.bkBlf
  have hM3:=hM2.setBk (cs':=(sortI l).map (Value.int .i64)++sp) (by simp[sortI_len])
  have e:Go.Sort.putRow (Value.int .i64) (Go.Sort.ahead w n) g 0 (l.mergeSort fun x y=>decide (x≤y)).toArray=(Go.Sort.ahead w n).setRow g ((sortI l).map (Value.int .i64)++sp).toArray:=by
   unfold Go.Sort.putRow
   rw[mapBlock_setRow hb2]
   show(Go.Sort.ahead w n).setRow g (Go.Sort.putCells (Value.int .i64) 0 (sortI l).toArray _)=_
   rw[putCells_ints l _ sp (sortI_len l)]
  rw[e]
  have hM4:Mem H w0 (bk g 3 (fls (intsR (sortI l))++sp)::L) (Go.Sort.grow ((Go.Sort.ahead w n).setRow g ((sortI l).map (Value.int .i64)++sp).toArray) os):=by
   rw[fls_intsR]
   exact hM3.call0 (St.grow _ os)
  refine⟨_,rfl,rfl,hM4.unraw (intsR_els _) (by rw[List.length_map,sortI_len]) ?_ r2 r3⟩
  rw[fls_intsR,← r1]
  simp[sortI_len]
end
end Go.Proofs.YtpjodlnlmaaihaaGreat
namespace Go.Proofs.YtpjodlnlmaaihaaGreat
open Go.RowKit Go.Lib
theorem sorted_ext:∀ {a b:List Int},a.Pairwise (·<·)→b.Pairwise (·<·)→(∀ x,x∈a↔x∈b)→a=b
 | [],[],_,_,_=>rfl
 | [],y::b,_,_,h=>by have:=(h y).2 (List.mem_cons_self ..);cases this
 | x::a,[],_,_,h=>by have:=(h x).1 (List.mem_cons_self ..);cases this
 | x::a,y::b,ha,hb,h=>by
  obtain⟨a1,a2⟩:=List.pairwise_cons.1 ha
  obtain⟨b1,b2⟩:=List.pairwise_cons.1 hb
  have e:x=y:=by
   rcases List.mem_cons.1 ((h x).1 (List.mem_cons_self ..)) with e|h1
   ·exact e
   rcases List.mem_cons.1 ((h y).2 (List.mem_cons_self ..)) with e|h2
   ·exact e.symm
   have:=a1 y h2
   have:=b1 x h1
   omega
  subst e
  rw[sorted_ext a2 b2 fun z=>⟨fun hz=>?_,fun hz=>?_⟩]
  ·rcases List.mem_cons.1 ((h z).1 (List.mem_cons_of_mem _ hz)) with e|h1
   ·have:=a1 z hz
    omega
   ·exact h1
  ·rcases List.mem_cons.1 ((h z).2 (List.mem_cons_of_mem _ hz)) with e|h1
   ·have:=b1 z hz
    omega
   ·exact h1
def nmL (ls:List Lf):List Int:=(ls.map (·.name)).filter fun x=>decide (0<x)
def rnmL (t:Tr) (k:Nat):List Int:=((List.range k).map fun i:Nat=>((i:Int)+1)).filter fun x=>decide (0≤t.place x)
theorem place_some {t:Tr} {x:Int} (h:0≤t.place x):1≤x∧∃ l∈t.ls,l.name=x:=by
 unfold Tr.place at h
 by_cases h1:x<1
 ·rw[if_pos h1]at h
  omega
 rw[if_neg h1]at h
 unfold fix at h
 by_cases h2:t.ls.findIdx (fun l=>decide (l.name=x))<t.ls.length
 ·refine⟨by omega,_,List.getElem_mem h2,?_⟩
  simpa using List.findIdx_getElem (w:=h2)
 ·rw[if_neg h2]at h
  omega
theorem sortI_mem {l:List Int} {x:Int}:x∈sortI l↔x∈l:=(List.mergeSort_perm l _).mem_iff
theorem sortI_rise {l:List Int} (h:l.Pairwise (·≠·)):(sortI l).Pairwise (·<·):=by
 have h1:(sortI l).Pairwise (·≤·):=by
  have:=List.pairwise_mergeSort (le:=fun x y:Int=>decide (x≤y)) (fun a b c=>by simp only[decide_eq_true_eq];omega) (fun a b=>by simp only[Bool.or_eq_true,decide_eq_true_eq];omega) l
  exact this.imp fun h=>of_decide_eq_true h
 have h2:(sortI l).Pairwise (·≠·):=(List.mergeSort_perm l _).symm.pairwise h fun h e=>h e.symm
 exact(h1.and h2).imp fun⟨a,b⟩=>by omega
theorem names_eq {t:Tr} (h:t.Rt):sortI (nmL t.ls)=rnmL t 64:=by
 obtain⟨⟨p1,-,p3⟩,-⟩:=h.parts
 refine sorted_ext (sortI_rise ?_) ?_ fun x=>?_
 ·unfold nmL
  rw[List.pairwise_filter,List.pairwise_map,List.pairwise_iff_getElem]
  intro i j hi hj hij h1 h2
  exact p3 i j hi hj hij (by simp only[decide_eq_true_eq]at h1;omega)
 ·unfold rnmL
  rw[List.pairwise_filter,List.pairwise_map]
  refine List.pairwise_lt_range.imp ?_
  intro a b hab _ _
  omega
 ·rw[sortI_mem]
  unfold nmL rnmL
  simp only[List.mem_filter,List.mem_map,List.mem_range,decide_eq_true_eq]
  constructor
  ·rintro⟨⟨l,hl,rfl⟩,h0⟩
   refine⟨⟨(l.name - 1).toNat,?_,by omega⟩,Decidable.by_contra fun hn=>place_none (by omega) hn l hl rfl⟩
   rcases p1 l hl with rfl|h2
   ·exact absurd h0 (by decide)
   ·omega
  ·rintro⟨-,hp⟩
   obtain⟨h1,l,hl,e⟩:=place_some hp
   exact⟨⟨l,hl,e⟩,by omega⟩
theorem nmL_len (ls:List Lf):(nmL ls).length≤ls.length:=by
 have:=List.length_filter_le (fun x:Int=>decide (0<x)) (ls.map (·.name))
 rwa [List.length_map]at this
theorem rnmL_len (t:Tr) (k:Nat):(rnmL t k).length≤k:=by
 have:=List.length_filter_le (fun x:Int=>decide (0≤t.place x)) ((List.range k).map fun i:Nat=>((i:Int)+1))
 simpa [rnmL] using this
theorem nmL_take {ls:List Lf} {i:Nat} (h:i<ls.length):nmL (ls.take (i+1))=nmL (ls.take i)++if 0<ls[i].name then [ls[i].name] else []:=by
 unfold nmL
 rw[List.take_succ_eq_append_getElem h,List.map_append,List.filter_append]
 congr 1
 by_cases c:0<ls[i].name <;> simp[c]
end Go.Proofs.YtpjodlnlmaaihaaGreat
namespace Go.Proofs.YtpjodlnlmaaihaaGreat
open Go.RowKit Go.Lib
def Tr.mem (t:Tr) (name p:Int):Prop:=0≤p∧nameAt t.ls p=name∧1≤name
theorem mem_of_place {t:Tr} {x:Int} (h:0≤t.place x):t.mem x (t.place x):=⟨h,plc_name h,(plc_some h).1⟩
theorem place_of_mem {t:Tr} (h:t.Rt) {x p:Int} (hm:t.mem x p):t.place x=p:=by
 obtain⟨h0,h1,h2⟩:=hm
 have hp:p.toNat<t.ls.length:=by
  by_cases c:p.toNat<t.ls.length
  ·exact c
  ·unfold nameAt at h1
   rw[List.getElem?_eq_none (by omega)]at h1
   simp at h1
   omega
 have e:t.ls[p.toNat].name=x:=by rw[← h1,nameAt_at h0 hp]
 have:=plc_at h hp (by omega)
 rw[e]at this
 omega
theorem mem_body {t:Tr} {x p:Int} (hm:t.mem x p):¬t.nobody p:=by
 obtain⟨h0,h1,h2⟩:=hm
 rintro((c|c)|c)
 ·omega
 ·have:t.size=t.ls.length:=rfl
  unfold nameAt at h1
  rw[List.getElem?_eq_none (by omega)]at h1
  simp at h1
  omega
 ·omega
theorem leafAt_eq {t u:Tr} {p:Int} (h:u.ls[p.toNat]?=t.ls[p.toNat]?):leafAt u p=leafAt t p:=by
 unfold leafAt
 rw[List.getD_eq_getElem?_getD,List.getD_eq_getElem?_getD,h]
theorem ren_mem {t:Tr} {p:Int} {pub:H32} (h0:(t.renR p pub).2=0) {x q:Int} (h:t.mem x q):(t.renR p pub).1.mem x q:=by
 obtain⟨a,b,c⟩:=h
 refine⟨a,?_,c⟩
 rw[(ren_parts h0).2,nameAt_eq (ls':=t.ls.modify p.toNat (·.key pub hzero)) (List.length_modify ..) key_names]
 exact b
theorem ren_keyed {t:Tr} (hR:t.Rt) {p:Int} {pub:H32} (h0:(t.renR p pub).2=0) {x m:Int} (hm:t.mem x m) (hne:m≠p) {K:List Ky} (hK:Keyed t m K):KU (t.renR p pub).1 m (K.map Ky.kr):=by
 have hRu:=ren_rt hR p pub h0
 obtain⟨hp,e⟩:=ren_parts h0
 obtain⟨b0,b1,b2⟩:=Tr.body hp
 obtain⟨c0,c1,c2⟩:=Tr.body (mem_body hm)
 have hsz:(t.renR p pub).1.size=t.size:=by
  rw[e]
  show((t.ls.modify p.toNat _).length:Int)=t.ls.length
  rw[List.length_modify]
 refine ku_after hRu ⟨c0,c2⟩ ⟨c0,by rw[hsz];exact c2⟩ hK (fun y y1 hs=>?_) hR ?_
 ·rw[ren_par h0]at hs ⊢
  split at hs
  ·cases hs
  ·rename_i hn
   rw[if_neg hn]
   exact⟨hs,rfl,Iff.rfl⟩
 ·rw[leafAt_eq (t:=t)]
  rw[e]
  have hn:¬p.toNat=m.toNat:=by omega
  simp only[List.getElem?_modify]
  cases t.ls[m.toNat]? with
  | none=>rfl
  | some l=>
   show some (if p.toNat=m.toNat then _ else l)=some l
   rw[if_neg hn]
theorem ren_own {t:Tr} (hR:t.Rt) {p:Int} {priv:H32} (h0:(t.renR p (pubH priv)).2=0) {K:List Ky} (hK:Keyed t p K):KU (t.renR p (pubH priv)).1 p (⟨2*p,priv⟩::K.map Ky.kr):=by
 have hRu:=ren_rt hR p (pubH priv) h0
 obtain⟨hp,e⟩:=ren_parts h0
 obtain⟨b0,b1,b2⟩:=Tr.body hp
 have hsz:(t.renR p (pubH priv)).1.size=t.size:=by
  rw[e]
  show((t.ls.modify p.toNat _).length:Int)=t.ls.length
  rw[List.length_modify]
 refine ku_own (fun k hk=>?_) (fun x hx hne=>?_) priv ?_
 ·obtain⟨y,hy,rfl⟩:=List.mem_map.1 hk
  rcases(hK.all y hy).1 with e2|⟨x1,x2,x3,x4⟩
  ·exact .inl e2
  ·refine .inr ⟨x1,fun _=>by rw[hsz];exact x2,fun hs=>?_⟩
   have hs':(parAt (t.renR p (pubH priv)).1 (y.node / 2)).set=true:=hs
   have h0':=(hld_rng x2).2.2.2.1
   rw[ren_par h0,if_pos (by rw[show 2*(((y.node / 2).toNat:Nat):Int)+1=y.node by omega];exact x2)]at hs'
   cases hs'
 ·rcases hx with e2|⟨x1,x2,x3,x4⟩
  ·exact absurd e2 hne
  ·have h0':=(hld_rng x2).2.2.2.1
   rw[hsz]at x2
   rw[ren_par h0,if_pos (by rw[show 2*(((x / 2).toNat:Nat):Int)+1=x by omega];exact x2)]at x3
   cases x3
 ·rw[e]
  unfold leafAt
  simp only
  rw[List.getD_eq_getElem?_getD,List.getElem?_modify,List.getElem?_eq_getElem b1]
  simp only[if_pos,Option.map_some,Option.map_eq_map,Option.getD_some]
  rfl
theorem rem_get {t:Tr} {p:Int} (h0:(t.remR p).2=0) {x q:Int} (h:t.mem x q) (hne:q≠p):(t.remR p).1.ls[q.toNat]?=t.ls[q.toNat]?∧q.toNat<(t.remR p).1.ls.length:=by
 obtain⟨hp,e⟩:=rem_parts h0
 obtain⟨b0,b1,b2⟩:=Tr.body hp
 obtain⟨c0,c1,c2⟩:=Tr.body (mem_body h)
 obtain⟨ks,-⟩:=keepN_spec (t.ls.set p.toNat Lf.zero) (t.ls.set p.toNat Lf.zero).length
 have hi2:q.toNat<(t.ls.set p.toNat Lf.zero).length:=by simpa using c1
 have hg:(t.ls.set p.toNat Lf.zero)[q.toNat]=t.ls[q.toNat]:=by rw[List.getElem_set,if_neg (by omega)]
 have hk:=ks q.toNat hi2 (by
  rw[show((q.toNat:Nat):Int)=q by omega,nameAt_at c0 hi2,hg,← nameAt_at c0 c1,h.2.1]
  have:=h.2.2
  omega)
 rw[e]
 refine⟨?_,by rw[List.length_take];omega⟩
 rw[List.getElem?_take,if_pos hk,List.getElem?_eq_getElem hi2,hg,List.getElem?_eq_getElem c1]
theorem rem_memb {t:Tr} {p:Int} (h0:(t.remR p).2=0) {x q:Int} (h:t.mem x q) (hne:q≠p):(t.remR p).1.mem x q:=by
 obtain⟨a,b,c⟩:=h
 refine⟨a,?_,c⟩
 rw[← b]
 unfold nameAt
 rw[(rem_get h0 ⟨a,b,c⟩ hne).1]
theorem rem_keyed {t:Tr} (hR:t.Rt) {p:Int} (h0:(t.remR p).2=0) {x m:Int} (hm:t.mem x m) (hne:m≠p) {K:List Ky} (hK:Keyed t m K):KU (t.remR p).1 m (K.map Ky.kr):=by
 have hRu:=rem_rt hR p h0
 obtain⟨c0,c1,c2⟩:=Tr.body (mem_body hm)
 obtain⟨g1,g2⟩:=rem_get h0 hm hne
 have hsz:(t.remR p).1.size=(t.remR p).1.ls.length:=rfl
 refine ku_after hRu ⟨c0,c2⟩ ⟨c0,by omega⟩ hK (fun y y1 hs=>?_) hR (by rw[leafAt_eq (t:=t) g1])
 have e:=rem_par h0 hs
 rw[e]at hs ⊢
 exact⟨hs,rfl,Iff.rfl⟩
theorem add_gap {t:Tr} {l:Lf} (h0:(t.addR l).2.2=0):(t.addR l).2.1=t.gap∧nameAt t.ls t.gap=0:=by
 refine⟨?_,gap_blank t⟩
 unfold Tr.addR at h0 ⊢
 by_cases h1:l.name<1∨64<l.name
 ·rw[if_pos h1]at h0
  cases h0
 rw[if_neg h1]at h0 ⊢
 by_cases h2:0≤t.place l.name
 ·rw[if_pos h2]at h0
  cases h0
 rw[if_neg h2]at h0 ⊢
 by_cases h3:t.gap=64
 ·rw[if_pos h3]at h0
  cases h0
 rw[if_neg h3]
theorem add_mem {t:Tr} {l:Lf} (h0:(t.addR l).2.2=0) {x q:Int} (h:t.mem x q):(t.addR l).1.mem x q∧q≠t.gap:=by
 obtain⟨a,b,c⟩:=h
 have hne:q≠t.gap:=fun e=>by
  rw[e,(add_gap h0).2]at b
  omega
 refine⟨⟨a,?_,c⟩,hne⟩
 rw[(add_parts h0).2.2,addL_name a,if_neg hne]
 exact b
theorem add_mem_new {t:Tr} {l:Lf} (h0:(t.addR l).2.2=0):(t.addR l).1.mem l.name t.gap:=by
 refine⟨by omega,?_,(add_parts h0).1.1⟩
 rw[(add_parts h0).2.2,addL_name (by omega),if_pos rfl]
theorem add_leafAt {t:Tr} {l:Lf} (h0:(t.addR l).2.2=0) {x q:Int} (h:t.mem x q):leafAt (t.addR l).1 q=leafAt t q:=by
 obtain⟨c0,c1,c2⟩:=Tr.body (mem_body h)
 have hne:=(add_mem h0 h).2
 refine leafAt_eq ?_
 rw[(add_parts h0).2.2]
 unfold addL
 rw[List.getElem?_set_ne (by omega)]
 split
 ·rw[List.getElem?_append_left c1]
 ·rfl
theorem add_keyed {t:Tr} (hR:t.Rt) {l:Lf} (h0:(t.addR l).2.2=0) {x m:Int} (hm:t.mem x m) {K:List Ky} (hK:Keyed t m K):KU (t.addR l).1 m (K.map Ky.kr):=by
 have hRu:=add_rt hR l h0
 obtain⟨c0,c1,c2⟩:=Tr.body (mem_body hm)
 obtain⟨d0,d1,d2⟩:=Tr.body (mem_body (add_mem h0 hm).1)
 have hne:=(add_mem h0 hm).2
 refine ku_after hRu ⟨c0,c2⟩ ⟨d0,d2⟩ hK (fun y y1 hs=>?_) hR (by rw[add_leafAt h0 hm])
 rw[add_par h0]at hs ⊢
 split at hs
 ·rename_i hc
  rw[if_pos hc]
  refine⟨hc.1,rfl,?_⟩
  rw[putL_mem]
  exact⟨fun h=>h.resolve_left hne,.inr⟩
 ·rename_i hc
  rw[if_neg hc]
  exact⟨hs,rfl,Iff.rfl⟩
theorem add_new {t:Tr} (hR:t.Rt) {l:Lf} (h0:(t.addR l).2.2=0) {priv:H32} (hp:l.pub=pubH priv):KU (t.addR l).1 t.gap [⟨2*t.gap,priv⟩]:=by
 have hRu:=add_rt hR l h0
 have hls:=(add_parts h0).2.2
 have hsz:(t.addR l).1.size=(addL t l).length:=by
  show((t.addR l).1.ls.length:Int)=_
  rw[hls]
 refine ku_own (fun k hk=>by cases hk) (fun x hx hne=>?_) priv ?_
 ·exfalso
  rcases hx with e|⟨x1,x2,x3,x4⟩
  ·exact hne e
  ·have hx0:=(hld_rng x2).2.2.2.1
   rw[add_par h0]at x3 x4
   by_cases hs:(parAt t (x / 2)).set=true
   ·rw[hsz]at x2
    rw[if_pos ⟨hs,by rw[show 2*(((x / 2).toNat:Nat):Int)+1=x by omega];exact x2⟩]at x4
    exact x4 (putL_mem.2 (.inl rfl))
   ·rw[if_neg (fun h=>hs h.1)]at x3
    exact hs x3
 ·have hg:(t.gap:Int).toNat<(addL t l).length:=by
   have h1:=addL_len t l
   have h2:=t.gap_le
   split at h1 <;> omega
  unfold leafAt
  rw[hls,List.getD_eq_getElem?_getD]
  unfold addL
  rw[Int.toNat_natCast,List.getElem?_set_self (by
   have:=t.gap_le
   split
   ·simp
    omega
   ·omega)]
  exact hp
end Go.Proofs.YtpjodlnlmaaihaaGreat
namespace Go.Proofs.YtpjodlnlmaaihaaGreat
open Go.RowKit Go.Lib
section
variable {H:Hp} {w0 w:World} {L R:List Res} {A B K F:Option Addr} {a b c n m kc fc ra:Nat} {t:Tr} {v:Value} {qr:List (List Fd)}
theorem dS_no {P:Program} {s:Sem Next} {S:Rl} {Kt:Value→World→Prop} (h:Mem H w0 L w) (hk:∀ w1,Mem H w0 L w1→mop P s w1 Kt (fun _ _=>False)):dfS P S w s false Kt:=
 ⟨fun w1 hd=>mop_mono (hk w1 (h.drawn hd)) (fun _ _ x=>⟨(fun e=>by cases e),x⟩) fun _ _ h=>h⟩
theorem follow_ok (pl:Int) (leaf:H32) (rungs:List Rg) (about fresh:List Int) (mine:Int) (keys:List Kr) (hpl:-1000000≤pl∧pl≤1000000) (hmi:-1000000≤mine∧mine≤1000000) (hal:about.length≤1000000) (hl:fresh.length≤maxLen) (hrl:rungs.length≤100000) (hkl:keys.length≤900)
  (hwr:∀ r∈rungs,∀ x∈r.wraps,x.length≤1000000∧∀ y∈x,0≤y∧y<256) (h:TrF H v t) (hfr:Sl H 1 F (ints8 fresh)) (hR1:Sl H 33 A qr) (hR2:All2 (RgF H) qr rungs) (hK:Sl H 33 K (keys.map Kr.fds)) (hf:Fz H w):
  Calls Tryz.prog 20 #[.pointer none,v,.int .i64 pl,ha leaf,.slice A rungs.length ra,.string (strOfNums about),.slice F fresh.length fc,.int .i64 mine,.slice K keys.length kc] w (Outp H w fun H' r=>∃ gv,r=.tuple #[gv,.int .i64 (followT t pl leaf rungs about fresh mine keys).2]∧GwF H' gv (followT t pl leaf rungs about fresh mine keys).1):=by
 have hx:=h.ex
 obtain⟨TA,ta,TB,tb,tq,rfl,-⟩:=hx
 obtain⟨w1,hw1⟩:∃ w1,w1=w:=⟨_,rfl⟩
 rw[← hw1]
 rw[← hw1]at hf
 have hM:=Mem.start hf
 have hqr:qr.length=rungs.length:=hR2.len
 refine C_climb_Follow ?_
 unfold F_climb_Follow
 (((refine mm_box hM ?_;clear hM;intro _ _ hM;refine mm_box hM ?_;clear hM;intro _ _ hM;refine mm_box hM ?_;clear hM;intro _ _ hM;refine mm_new hM ?_;clear hM;intro _ _ hM;refine mm_ld hM ?_)))
 rename_i gt _ gl _ gm _ g18 _
 refine mm_pure hM (right_c h hM.fz) (fun w hM2=>?_)
 replace hM:=hM2
 clear hM2
 unfold followT
 cases hr:t.right
 ·(((refine mop_c trivial ?_;refine mif_true ?_;refine mop_c trivial ?_;refine mm_st hM ?_;clear hM;intro _ hM;refine rm_ld hM ?_)))
  exact hM.out (Le.refl _ _) ⟨_,rfl,GwF.none _⟩
 rw[if_neg (by simp)]
 have hR:=Tr.rt.1 hr
 have hlen:=hR.len
 have hts:t.size=t.ls.length:=rfl
 have hdl:=dirL_len t.size pl
 (((refine mop_c trivial ?_;refine mif_false ?_)))
 refine⟨fun v w'=>v=.bool (decide (t.nobody pl∨t.nobody mine))∧hM.now w',?_,?_⟩
 ·(((refine mm_ld hM ?_)))
  refine mm_pure hM (cblank_ok pl h hM.fz) (fun w hM=>?_)
  by_cases hnb:t.nobody pl
  ·rw[decide_eq_true hnb]
   ((((iterate 3 refine mguard_n1 ?_);refine mop_c trivial ?_)))
   exact⟨by rw[decide_eq_true (Or.inl hnb)],hM⟩
  ·rw[decide_eq_false hnb]
   (((refine mguard_yes ?_;refine mm_ld hM ?_;refine mguard_yes ?_;refine mm_ld hM ?_;refine mguard_yes ?_)))
   refine mm_pure hM (cblank_ok mine h hM.fz) (fun w hM=>?_)
   (((refine mop_c trivial ?_)))
   refine⟨?_,hM⟩
   rw[Value.bool.injEq,decide_eq_decide]
   exact⟨fun h=>.inr h,fun h=>h.resolve_left hnb⟩
 rintro v u w2 ⟨rfl,hM2⟩
 replace hM:Mem H w1 [fb g18 56 (gfd none 0 0 none 0 0 none 0 0 none 0 0 none 0 0 hzero),fb gm 3 [.one (.int .i64 mine)],fb gl 34 [.arr 32 (u8s leaf.1)],fb gt 25 (tfd TA t.ls.length ta TB t.ps.length tb)] _:=hM2
 clear hM2
 by_cases hnb:t.nobody pl∨t.nobody mine
 ·rw[decide_eq_true hnb,if_pos hnb]
  (((refine mif_true ?_;refine mop_c trivial ?_;refine mm_st hM ?_;clear hM;intro _ hM;refine rm_ld hM ?_)))
  exact hM.out (Le.refl _ _) ⟨_,rfl,GwF.none _⟩
 rw[decide_eq_false hnb,if_neg hnb]
 obtain⟨b0,b1,b2⟩:=Tr.body (fun k=>hnb (.inl k))
 obtain⟨c0,c1,c2⟩:=Tr.body (fun k=>hnb (.inr k))
 (((refine mif_false ?_;refine mm_ld hM ?_)))
 (((refine mop_cS trivial ?_ ?_)))
 ·intro he
  rw[if_pos he]
  (((refine mif_true ?_;refine mop_c trivial ?_;refine mm_st hM ?_;clear hM;intro _ hM;refine rm_ld hM ?_)))
  exact hM.out (Le.refl _ _) ⟨_,rfl,GwF.none _⟩
 intro he
 rw[if_neg he]
 (((refine mif_false ?_;refine mop_c trivial ?_;refine mm_ld hM ?_;refine mop_c trivial ?_;refine mm_new hM ?_;clear hM;intro _ _ hM;refine mm_st hM ?_;clear hM;intro _ hM;refine mm_ld hM ?_)))
 rename_i g20 _ _
 refine mm_call hM (bdirectC_ok t.size pl (by omega) hM.fz) ?_
 clear hM
 rintro H2 r w2 l2 hM ⟨WA,wc,rfl,hwc,hW⟩
 (((refine mop_c trivial ?_;refine mop_c trivial ?_)))
 (((refine mop_cS trivial ?_ ?_)))
 ·intro hne
  rw[if_pos (by omega)]
  (((refine mif_true ?_;refine mop_c trivial ?_;refine mm_st hM ?_;clear hM;intro _ hM;refine rm_ld hM ?_)))
  exact hM.out l2 ⟨_,rfl,GwF.none _⟩
 intro hne
 rw[if_neg (by omega)]
 have hrw:rungs.length=(dirL t.size pl).length:=by omega
 have h2:=h.mono l2.le
 have hfr2:=hfr.mono l2.le
 (((refine mif_false ?_;refine mm_ld hM ?_)))
 refine mm_call hM (beside_ok pl fresh hl ⟨b0,by omega⟩ hR h2 hW hfr2 hM.fz) ?_
 clear hM
 rintro H3 r w7 l3 hM ⟨SA,sc,qs,rfl,hS,hSA⟩
 have hqs:qs.length=(dirL t.size pl).length:=by
  have:=hSA.len
  rw[this]
  simp[sidesK]
 have hR13:=hR1.mono (l2.trans l3).le
 have hR23:=hR2.mono fun q x k=>RgF.mono k (l2.trans l3).le
 have hW3:=hW.mono l3.le
 have hK3:=hK.mono (l2.trans l3).le
 have h3:=h.mono (l2.trans l3).le
 (((refine mop_c trivial ?_)))
 refine⟨fun v w'=>∃ i:Nat,v=.int .i64 i∧i≤(dirL t.size pl).length∧(∀ j (hj:j<rungs.length),j<i→rungs[j].wraps.length=(sideK t pl (dirL t.size pl) fresh j).length)∧Mem H3 w1 [fb g20 3 [.one (.int .i64 t.ls.length)],fb g18 56 (gfd none 0 0 none 0 0 none 0 0 none 0 0 none 0 0 hzero),fb gm 3 [.one (.int .i64 mine)],fb gl 34 [.arr 32 (u8s leaf.1)],fb gt 25 (tfd TA t.ls.length ta TB t.ps.length tb)] w',fun v _=>match v with | .int _ k=>(dirL t.size pl).length - k.toNat|_=>0,⟨0,rfl,by omega,fun j _ hj=>by omega,hM.sub⟩,?_⟩
 clear hM
 rintro v u w8 ⟨i,rfl,hi,hlow,hM⟩
 skip
 (((refine mop_cS trivial ?_ ?_)))
 ·intro hlt
  have hit:i<(dirL t.size pl).length:=by omega
  have hir:i<rungs.length:=by omega
  obtain⟨q,hq1,SC,scc,rfl,hSC,hscl⟩:=hSA.at_ (i:=i) (by simp[sidesK];omega)
  have hse:(sidesK t pl (dirL t.size pl) fresh (dirL t.size pl).length)[i]'(by simp[sidesK];omega)=sideK t pl (dirL t.size pl) fresh i:=by simp[sidesK]
  rw[hse]at hq1 hSC hscl
  obtain⟨q2,hq2,RC,rcc,rfl,hRC,hrcl⟩:=hR23.at_ (i:=i) hir
  have hq1':qs[((i:Int)).toNat]?=some [.one (.slice SC (sideK t pl (dirL t.size pl) fresh i).length scc)]:=hq1
  have hq2':qr[((i:Int)).toNat]?=some (rungs[i].row RC rcc):=hq2
  (((refine mif_true ?_)))
  refine mm_ixs hS (by omega) hqs.symm (fun bb oo hB=>?_)
  cases hB
  refine mm_lds0 hM hS hq1' ?_
  skip
  refine mm_ixs hR13 (by omega) hqr.symm (fun bb oo hB=>?_)
  cases hB
  (((refine mop_c trivial ?_)))
  refine mm_lds hM hR13 hq2' ?_
  (((refine mop_c trivial ?_;refine mop_c trivial ?_)))
  (((refine mop_cS trivial ?_ ?_)))
  ·intro hwne
   rw[if_pos (fun hall=>by have:=hall i hir;omega)]
   (((refine mif_true ?_;refine mop_c trivial ?_;refine mm_st hM ?_;clear hM;intro _ hM;refine rm_ld hM ?_)))
   exact hM.out (l2.trans l3) ⟨_,rfl,GwF.none _⟩
  ·intro hwe
   (((refine mif_false ?_;refine mop_c ?_ ?_));(focus omega))
   exact⟨⟨i+1,by rw[Value.int.injEq];refine⟨rfl,?_⟩;push_cast;rfl,by omega,fun j hj hji=>by
    rcases Nat.lt_or_ge j i with h|h
    ·exact hlow j hj h
    ·obtain rfl:j=i:=by omega
     omega,hM⟩,by simp only;omega⟩
 intro hge
 obtain rfl:i=(dirL t.size pl).length:=by omega
 have hall:∀ j (hj:j<rungs.length),rungs[j].wraps.length=(sideK t pl (dirL t.size pl) fresh j).length:=fun j hj=>hlow j hj (by omega)
 rw[if_neg (fun k=>k hall)]
 replace hM:Mem H3 w1 (fb g20 3 [.one (.int .i64 t.ls.length)]::fb gm 3 [.one (.int .i64 mine)]::[fb g18 56 (gfd none 0 0 none 0 0 none 0 0 none 0 0 none 0 0 hzero),fb gl 34 [.arr 32 (u8s leaf.1)],fb gt 25 (tfd TA t.ls.length ta TB t.ps.length tb)]) _:=hM.sub
 obtain⟨H4,l4,hM4,hg20⟩:=hM.fzb
 obtain⟨H5,l5,hM5,hgm⟩:=hM4.fzb
 clear hM hM4
 have hM:=hM5
 clear hM5
 replace hg20:=hg20.mono l5.le
 have l35:=l4.trans l5
 replace hS:=hS.mono l35.le
 replace hSA:=hSA.mono fun q x k=>IrF.mono k l35.le
 replace hR13:=hR13.mono l35.le
 replace hR23:=hR23.mono fun q x k=>RgF.mono k l35.le
 replace hW3:=hW3.mono l35.le
 replace hK3:=hK3.mono l35.le
 replace h3:=h3.mono l35.le
 have hle5:=(l2.trans l3).trans l35
 have hmeet:=dir_meets (n:=t.size) (p:=pl) (q:=mine) ⟨b0,by omega⟩ ⟨c0,by omega⟩ (by omega) he
 obtain⟨q,hq⟩:∃ q,(dirL t.size pl).findIdx (fun x=>decide (hld t.size x mine))=q:=⟨_,rfl⟩
 have hidx:idxI (fun x=>decide (hld t.size x mine)) (dirL t.size pl)=q:=by
  rw[← hq]
  exact idxI_at hmeet (fun j hj=>by simpa using List.not_of_lt_findIdx hj) (List.findIdx_getElem (w:=hmeet))
 rw[hq]at hmeet
 simp only[hq]
 have hqr2:q<rungs.length:=by omega
 obtain⟨e1,hq1,SC,scc,rfl,hSC,hscl⟩:=hSA.at_ (i:=q) (by simp[sidesK];omega)
 have hse:(sidesK t pl (dirL t.size pl) fresh (dirL t.size pl).length)[q]'(by simp[sidesK];omega)=sideK t pl (dirL t.size pl) fresh q:=by simp[sidesK]
 rw[hse]at hq1 hSC hscl
 obtain⟨e2,hq2,RC,rcc,rfl,hRC,hrcl⟩:=hR23.at_ (i:=q) hqr2
 have hrg:rungs.getD q ⟨hzero,[]⟩=rungs[q]:=by
  rw[List.getD_eq_getElem?_getD,List.getElem?_eq_getElem hqr2]
  rfl
 rw[hrg]
 have hq1':qs[((q:Int)).toNat]?=some [.one (.slice SC (sideK t pl (dirL t.size pl) fresh q).length scc)]:=hq1
 have hq2':qr[((q:Int)).toNat]?=some (rungs[q].row RC rcc):=hq2
 (((refine mif_false ?_;refine mop_c trivial ?_)))
 refine mm_own (iidxF_ok (dirL t.size pl) (by omega) hW3 (clo_follow g20 gm t.size mine hg20 hgm) hM) ?_
 clear hM
 rintro r w9 ⟨rfl,hM⟩
 rw[hidx]
 have hop:=fun(w:World) (hf:Fz H5 w)=>opened_ok (K:=K) (kc:=kc) about (sideK t pl (dirL t.size pl) fresh q) rungs[q].wraps keys hal (by omega) (hall q hqr2) (by omega) (hwr _ (List.getElem_mem hqr2)) hSC hRC hK3 hf (a:=scc) (b:=rcc)
 generalize openedT about keys (sideK t pl (dirL t.size pl) fresh q) rungs[q].wraps=oo at hop ⊢
 obtain⟨os,oe⟩:=oo
 simp only at hop ⊢
 refine⟨fun v1 v2 w'=>∃ g26:Nat,v1=.pointer (some ⟨g26,0,none⟩)∧v2=.int .i64 oe∧Mem H5 w1 [fb g26 34 [.arr 32 (u8s os.1)],fb g18 56 (gfd none 0 0 none 0 0 none 0 0 none 0 0 none 0 0 hzero),fb gl 34 [.arr 32 (u8s leaf.1)],fb gt 25 (tfd TA t.ls.length ta TB t.ps.length tb)] w',?_,?_⟩
 ·have hM0:=hM
  repeat' apply And.intro
  all_goals
   refine dp_ixs hS (by omega) hqs.symm (fun bb oo hB=>?_)
   subst hB
   refine dm_lds0 hM0 hS hq1' ?_
   refine dp_ixs hR13 (by omega) hqr.symm (fun bb2 oo2 hB=>?_)
   subst hB
   (((refine dp_c trivial ?_)))
   refine dm_lds hM0 hR13 hq2' ?_
   (first|(((refine dm_new hM ?_;clear hM;intro _ _ hM)))|skip)
   refine dm_pure hM (fun w hM=>hop w hM.fz) (fun w5 _ hM2=>?_)
   replace hM:=hM2
   clear hM2
   (first|(((refine dp_c trivial ?_;refine dp_c trivial ?_;refine dm_new hM ?_;clear hM;intro _ _ hM;refine dS_st hM ?_;clear hM;intro _ hM;refine mm_end hM ?_;clear hM;intro _ hM)))|(((refine dp_c trivial ?_;refine dp_c trivial ?_;refine dS_st hM ?_;clear hM;intro _ hM;refine mm_end hM ?_;clear hM;intro _ hM))))
   exact⟨_,rfl,rfl,hM.sub⟩
 clear hM hop
 rintro v1 v2 u2 w10 ⟨g26,rfl,rfl,hM⟩
 by_cases hoe:oe=0
 ·subst hoe
  rw[if_neg (by simp)]
  (((refine mop_cF trivial ?_ ?_));(focus (first|assumption|omega|with_reducible rfl|exact fun h=>Bool.noConfusion h));((refine mif_false ?_;refine mop_c trivial ?_)))
  replace hM:Mem H5 w1 [rowR 34 32 none 0 0 (kfds ((rungs.map Rg.pub).take 0)),fb g26 34 [.arr 32 (u8s os.1)],fb g18 56 (gfd none 0 0 none 0 0 none 0 0 none 0 0 none 0 0 hzero),fb gl 34 [.arr 32 (u8s leaf.1)],fb gt 25 (tfd TA t.ls.length ta TB t.ps.length tb)] _:=hM.row0 34 32
  refine⟨fun v1 v2 w'=>∃ (i:Nat) (KB:Option Addr) (kb:Nat),v1=.slice KB i kb∧v2=.int .i64 i∧i≤rungs.length∧Mem H5 w1 [rowR 34 32 KB i kb (kfds ((rungs.map Rg.pub).take i)),fb g26 34 [.arr 32 (u8s os.1)],fb g18 56 (gfd none 0 0 none 0 0 none 0 0 none 0 0 none 0 0 hzero),fb gl 34 [.arr 32 (u8s leaf.1)],fb gt 25 (tfd TA t.ls.length ta TB t.ps.length tb)] w',fun _ v _=>match v with | .int _ k=>rungs.length - k.toNat|_=>0,⟨0,none,0,rfl,rfl,by omega,hM⟩,?_⟩
  clear hM
  rintro v1 v2 u w11 ⟨i,KB,kb,rfl,rfl,hi,hM⟩
  skip
  (((refine mop_cS trivial ?_ ?_)))
  ·intro hlt
   have hir:i<rungs.length:=by omega
   obtain⟨e3,hq3,RD,rdc,rfl,hRD,-⟩:=hR23.at_ (i:=i) hir
   have hq3':qr[((i:Int)).toNat]?=some (rungs[i].row RD rdc):=hq3
   (((refine mif_true ?_)))
   refine mm_ixs hR13 (by omega) hqr.symm (fun bb oo hB=>?_)
   subst hB
   refine mm_lds0 hM hR13 hq3' ?_
   (((refine mm_new hM ?_;clear hM;intro _ _ hM;refine mm_st hM ?_;clear hM;intro _ hM;refine mop_c trivial ?_;refine mm_ld hM ?_;refine mm_bsl hM ?_ ?_ ?_));(focus rfl);(focus (constructor <;> simp));((clear hM;intro _ _ hM;refine mm_appo hM ?_ ?_));(focus omega);((clear hM;intro _ _ _ hM;refine mop_c ?_ ?_));(focus omega))
   rename_i KB2 kb2 _
   have e1:kfds ((rungs.map Rg.pub).take i)++[[.arr 32 (u8s rungs[i].pub.1)]]=kfds ((rungs.map Rg.pub).take (i+1)):=by
    rw[List.take_succ_eq_append_getElem (by simpa using hir),kfds_app]
    simp[kfds]
   rw[e1]at hM
   exact⟨⟨i+1,KB2,kb2,rfl,by rw[Value.int.injEq];refine⟨rfl,?_⟩;push_cast;rfl,by omega,hM.sub⟩,by simp only;omega⟩
  intro hge2
  obtain rfl:i=rungs.length:=by omega
  have hrml:(rungs.map Rg.pub).length=rungs.length:=by rw[List.length_map]
  rw[List.take_of_length_le (by omega)]at hM
  have hkb:=(Mem.rowLen hM ⟨.refl _⟩).2.1
  obtain⟨H6,l6,hM6,hKB,-⟩:=hM.fz0
  clear hM
  have hM:=hM6
  clear hM6
  replace hR13:=hR13.mono l6.le
  replace hR23:=hR23.mono fun q x k=>RgF.mono k l6.le
  replace hW3:=hW3.mono l6.le
  replace hK3:=hK3.mono l6.le
  replace h3:=h3.mono l6.le
  (((refine mif_false ?_)))
  have hwr2:∀ x∈(dirL t.size pl).drop q,0≤x∧x≤1000:=fun x hx=>by
   obtain⟨m,hm,rfl⟩:=List.getElem_of_mem (List.mem_of_mem_drop hx)
   have:=way_mem (n:=t.size) (pl:=pl) ⟨b0,by omega,by omega⟩ hm
   omega
  have hdq:((dirL t.size pl).drop q).length=(dirL t.size pl).length - q:=by rw[List.length_drop]
  have hrq:((rungs.map Rg.pub).drop q).length=(dirL t.size pl).length - q:=by rw[List.length_drop,hrml,hrw]
  have hdi:(ints8 (dirL t.size pl)).drop q=ints8 ((dirL t.size pl).drop q):=(List.map_drop ..).symm
  have hdk:(kfds (rungs.map Rg.pub)).drop q=kfds ((rungs.map Rg.pub).drop q):=(List.map_drop ..).symm
  have h8l:=ints8_length (dirL t.size pl)
  by_cases hok:pubsL os ((dirL t.size pl).length - q)=(rungs.map Rg.pub).drop q
  ·rw[if_neg (fun k=>k hok)]
   refine⟨fun v1 v2 w'=>∃ (g31:Nat) (SA:Option Addr) (sc:Nat) (KA:Option Addr) (kc2:Nat),v1=.pointer (some ⟨g31,0,none⟩)∧v2=.bool true∧Mem H6 w1 [fb g31 56 (gfd none 0 0 none 0 0 none 0 0 SA ((dirL t.size pl).length - q) sc KA ((dirL t.size pl).length - q) kc2 (comS os ((dirL t.size pl).length - q))),rowR 34 32 SA ((dirL t.size pl).length - q) sc (kfds (secL os ((dirL t.size pl).length - q))),rowR 43 33 KA ((dirL t.size pl).length - q) kc2 ((keysL ((dirL t.size pl).drop q) os ((dirL t.size pl).length - q)).map Ky.fds),fb g18 56 (gfd none 0 0 none 0 0 none 0 0 none 0 0 none 0 0 hzero),fb gl 34 [.arr 32 (u8s leaf.1)],fb gt 25 (tfd TA t.ls.length ta TB t.ps.length tb)] w',?_,?_⟩
   ·have hM0:=hM
    repeat' apply And.intro
    all_goals
     refine dp_sld hW3 (by omega) (by omega) hwc (fun WB hWB=>?_)
     rw[Int.toNat_natCast,hdi]at hWB
     rw[Int.toNat_natCast]
     (((refine dm_ld hM ?_)))
     refine dp_sld hKB (by rw[List.length_map];omega) (by omega) hkb (fun PB hPB=>?_)
     rw[Int.toNat_natCast,hdk]at hPB
     rw[Int.toNat_natCast]
     (first|(((refine dm_new hM ?_;clear hM;intro _ _ hM)))|skip)
     have hro:=fun(w:World) (L:List Res) (hM:Mem H6 w1 L w)=>risen_q (Q:=fun v w'=>∃ SA sc KA kc,v=.tuple #[.agg (fl (gfd none 0 0 none 0 0 none 0 0 SA ((dirL t.size pl).length - q) sc KA ((dirL t.size pl).length - q) kc (comS os ((dirL t.size pl).length - q)))).toArray,.bool true]∧Mem H6 w1 (rowR 34 32 SA ((dirL t.size pl).length - q) sc (kfds (secL os ((dirL t.size pl).length - q)))::rowR 43 33 KA ((dirL t.size pl).length - q) kc ((keysL ((dirL t.size pl).drop q) os ((dirL t.size pl).length - q)).map Ky.fds)::L) w') ((dirL t.size pl).drop q) os ((rungs.map Rg.pub).drop q) (by omega) (by omega) hwr2 hWB hPB hM (fun _ SA sc KA kc w' hM=>⟨SA,sc,KA,kc,by rw[hdq],by rw[hdq]at hM;exact hM⟩) (fun k=>absurd (by rw[hdq];exact hok) k) (a:=wc - q) (b:=kb - q)
     rw[hdq,hrq]at hro
     have e9:rungs.length - q=(dirL t.size pl).length - q:=by omega
     rw[e9]
     refine df_no hM (fun w hM=>?_)
     refine mm_own (hro w _ hM) ?_
     rintro r w5 ⟨SA2,sc2,KA2,kc2,rfl,hM2⟩
     replace hM:=hM2
     clear hM2
     (first|(((refine dp_c trivial ?_;refine dp_c trivial ?_;refine dm_new hM ?_;clear hM;intro _ _ hM;refine dS_st hM ?_;clear hM;intro _ hM;refine mm_end hM ?_;clear hM;intro _ hM)))|(((refine dp_c trivial ?_;refine dp_c trivial ?_;refine dS_st hM ?_;clear hM;intro _ hM;refine mm_end hM ?_;clear hM;intro _ hM))))
     exact⟨_,SA2,sc2,KA2,kc2,rfl,rfl,hM.sub⟩
   clear hM
   rintro v1 v2 u w12 ⟨g31,SA2,sc2,KA2,kc2,rfl,rfl,hM⟩
   have hlp:rungs.length=(rungs.map Rg.pub).length:=hrml.symm
   (((refine mop_c trivial ?_;refine mif_false ?_;refine mm_ld hM ?_;refine mm_ld hM ?_)))
   rw[hlp]
   refine mm_call hM (path_c pl leaf (rungs.map Rg.pub) (by omega) hKB h3 hM.fz) ?_
   rw[← hlp]
   clear hM
   rintro H7 r w13 l7 hM ⟨v1,rfl,hv1⟩
   generalize t.pathP pl leaf (rungs.map Rg.pub)=tp at hv1 ⊢
   have hvx:=hv1.ex
   obtain⟨PA,pa,PB,pb,pq,rfl,-⟩:=hvx
   have hR17:=hR13.mono l7.le
   have hR27:=hR23.mono fun q x k=>RgF.mono k l7.le
   have hK7:=hK3.mono l7.le
   ((((iterate 3 refine mop_c trivial ?_);refine mm_st hM ?_;clear hM;intro _ hM)))
   replace hM:Mem H7 w1 [fb g31 56 (gfd PA tp.1.ls.length pa PB tp.1.ps.length pb none 0 0 SA2 ((dirL t.size pl).length - q) sc2 KA2 ((dirL t.size pl).length - q) kc2 (comS os ((dirL t.size pl).length - q))),rowR 34 32 SA2 ((dirL t.size pl).length - q) sc2 (kfds (secL os ((dirL t.size pl).length - q))),rowR 43 33 KA2 ((dirL t.size pl).length - q) kc2 ((keysL ((dirL t.size pl).drop q) os ((dirL t.size pl).length - q)).map Ky.fds),fb g18 56 (gfd none 0 0 none 0 0 none 0 0 none 0 0 none 0 0 hzero)] _:=hM.sub
   have hkn:=keysL_len ((dirL t.size pl).drop q) os ((dirL t.size pl).length - q)
   have hkk:(keysL ((dirL t.size pl).drop q) os ((dirL t.size pl).length - q)).map Ky.fds++keys.map Kr.fds=((keysL ((dirL t.size pl).drop q) os ((dirL t.size pl).length - q)).map Ky.kr++keys).map Kr.fds:=by
    rw[List.map_append,List.map_map]
    rfl
   have hkkl:((dirL t.size pl).length - q)+keys.length=((keysL ((dirL t.size pl).drop q) os ((dirL t.size pl).length - q)).map Ky.kr++keys).length:=by rw[List.length_append,List.length_map,hkn]
   refine⟨Rl.fz (hadd H7 g31 (fl (gfd PA tp.1.ls.length pa PB tp.1.ps.length pb none 0 0 SA2 ((dirL t.size pl).length - q) sc2 KA2 ((dirL t.size pl).length - q) kc2 (comS os ((dirL t.size pl).length - q))))),?_⟩
   have hF:=hM.fzAdd hM.fz g31
   have hgf:FbF (hadd H7 g31 (fl (gfd PA tp.1.ls.length pa PB tp.1.ps.length pb none 0 0 SA2 ((dirL t.size pl).length - q) sc2 KA2 ((dirL t.size pl).length - q) kc2 (comS os ((dirL t.size pl).length - q))))) g31 (gfd PA tp.1.ls.length pa PB tp.1.ps.length pb none 0 0 SA2 ((dirL t.size pl).length - q) sc2 KA2 ((dirL t.size pl).length - q) kc2 (comS os ((dirL t.size pl).length - q))):=FbF.add inferInstance
   (((refine dp_c trivial ?_));(refine dK_ldf ‹_› ‹_› ?_);((refine dp_c trivial ?_));(refine dK_ldf ‹_› ‹_› ?_))
   refine dfz hM (fun w hM=>?_)
   refine mm_apps hM hK7 (by rw[List.length_map]) ?_ ?_
   focus (constructor <;> omega)
   clear hM
   intro A' c' w' hM
   refine⟨hM.fzAdd hM.fz g31,?_⟩
   clear hF hgf
   rw[hkk,hkkl]at hM
   rw[hkkl]
   skip
   refine dS_no hM (fun w hM=>?_)
   obtain⟨H8,l8,hM8,hKs,-⟩:=hM.fz0
   clear hM
   have h88:=hv1.mono l8.le
   refine mm_call hM8 (keep_ok ((keysL ((dirL t.size pl).drop q) os ((dirL t.size pl).length - q)).map Ky.kr++keys) (by omega) h88 hKs hM8.fz) ?_
   rintro H9 r w14 l9 hM ⟨KC,kcc,rfl,hKC⟩
   clear hM8
   have hv9:=h88.mono l9.le
   have hR19:=hR17.mono (l8.trans l9).le
   have hR29:=hR27.mono fun q x k=>RgF.mono k (l8.trans l9).le
   generalize keepT tp.1 ((keysL ((dirL t.size pl).drop q) os ((dirL t.size pl).length - q)).map Ky.kr++keys)=kt at hKC ⊢
   (((refine dp_c trivial ?_;refine dS_st hM ?_;clear hM;intro _ hM;refine mm_end hM ?_;clear hM;intro _ hM;refine mop_c trivial ?_)))
   replace hM:Mem H9 w1 [fb g31 56 (gfd PA tp.1.ls.length pa PB tp.1.ps.length pb none 0 0 SA2 ((dirL t.size pl).length - q) sc2 KC kt.length kcc (comS os ((dirL t.size pl).length - q))),rowR 72 33 none 0 0 [],rowR 34 32 SA2 ((dirL t.size pl).length - q) sc2 (kfds (secL os ((dirL t.size pl).length - q))),fb g18 56 (gfd none 0 0 none 0 0 none 0 0 none 0 0 none 0 0 hzero)] _:=(hM.row0 72 33).sub
   refine⟨fun v1 w'=>∃ (i:Nat) (Hc:Hp) (RA:Option Addr) (rc:Nat) (rs:List (List Fd)),v1=.int .i64 i∧i≤rungs.length∧rs.length=i∧Le w1 H9 Hc∧All2 (RgF Hc) rs (rungs.take i)∧Mem Hc w1 [fb g31 56 (gfd PA tp.1.ls.length pa PB tp.1.ps.length pb RA i rc SA2 ((dirL t.size pl).length - q) sc2 KC kt.length kcc (comS os ((dirL t.size pl).length - q))),rowR 72 33 RA i rc rs,rowR 34 32 SA2 ((dirL t.size pl).length - q) sc2 (kfds (secL os ((dirL t.size pl).length - q))),fb g18 56 (gfd none 0 0 none 0 0 none 0 0 none 0 0 none 0 0 hzero)] w',fun v _=>match v with | .int _ k=>rungs.length - k.toNat|_=>0,⟨0,H9,none,0,[],rfl,by omega,rfl,Le.refl _ _,trivial,hM⟩,?_⟩
   clear hM
   rintro v1 u w15 ⟨i,Hc,RA,rc,rs,rfl,hi,hrs,lc,hrg,hM⟩
   have hR1c:=hR19.mono lc.le
   have hR2c:=hR29.mono fun q x k=>RgF.mono k lc.le
   skip
   (((refine mop_cS trivial ?_ ?_)))
   ·intro hlt
    have hir:i<rungs.length:=by omega
    obtain⟨e3,hq3,RD,rdc,rfl,hRD,hrdl⟩:=hR2c.at_ (i:=i) hir
    have hq3':qr[((i:Int)).toNat]?=some (rungs[i].row RD rdc):=hq3
    (((refine mif_true ?_)))
    refine mm_ixs hR1c (by omega) hqr.symm (fun bb oo hB=>?_)
    subst hB
    refine mm_lds0 hM hR1c hq3' ?_
    (((refine mm_new hM ?_;clear hM;intro _ _ hM;refine mm_st hM ?_;clear hM;intro _ hM;refine dp_c trivial ?_;refine dm_ld hM ?_;refine dp_c trivial ?_;refine dm_ld hM ?_;refine dp_c trivial ?_;refine dm_ld hM ?_)))
    refine dm_ownE hM (fun w hM=>cloStr_ok (hRD.mono (le_of hM.fz)) (by rw[List.length_map]) (by omega) hM) ?_
    rintro r w16 - ⟨RE,rec_,rfl,hM2⟩
    replace hM:=hM2
    clear hM2
    obtain⟨Hd,ld,hMd,hRE,-⟩:=hM.fz0
    clear hM
    have hM:=hMd
    clear hMd
    (((refine dp_c trivial ?_;refine dS_bsl hM ?_ ?_ ?_));(focus rfl);(focus (constructor <;> simp));((clear hM;intro _ _ hM;refine dS_appF hM ?_ ?_));(focus omega);((clear hM;intro _ _ _ hM;refine dp_c trivial ?_;refine dS_st hM ?_;clear hM;intro _ hM;refine mm_end hM ?_;clear hM;intro _ hM;refine mop_c ?_ ?_));(focus omega))
    rename_i A9 c9 _ _ _
    have hrk:RgF Hd ([.arr 32 (u8s rungs[i].pub.1),.one (.slice RE rungs[i].wraps.length rec_)]) rungs[i]:=⟨RE,rec_,rfl,hRE,hrdl⟩
    have hrgd:=(hrg.mono fun q x k=>RgF.mono k ld.le).snoc hrk
    rw[← List.take_succ_eq_append_getElem hir]at hrgd
    exact⟨⟨i+1,Hd,A9,c9,_,by rw[Value.int.injEq];refine⟨rfl,?_⟩;push_cast;rfl,by omega,by rw[List.length_append,hrs];rfl,lc.trans ld,hrgd,hM.sub⟩,by simp only;omega⟩
   ·intro hge3
    obtain rfl:i=rungs.length:=by omega
    rw[List.take_length]at hrg
    (((refine mif_false ?_;refine mm_ld hM ?_;refine mm_st hM ?_;clear hM;intro _ hM;refine rm_ld hM ?_)))
    replace hM:Mem Hc w1 (rowR 72 33 RA rungs.length rc rs::rowR 34 32 SA2 ((dirL t.size pl).length - q) sc2 (kfds (secL os ((dirL t.size pl).length - q)))::[]) _:=hM.sub
    obtain⟨Hy,ly,hMy,hRg,-⟩:=hM.fz0
    obtain⟨Hz,lz,hMz,hSg,-⟩:=hMy.fz0
    have hqz:Hc.le Hz:=(ly.trans lz).le
    have hq9:H9.le Hz:=lc.le.trans hqz
    refine hMz.out (hle5.trans (l6.trans (l7.trans (l8.trans (l9.trans (lc.trans (ly.trans lz))))))) ⟨_,rfl,PA,pa,PB,pb,RA,rc,SA2,sc2,KC,kcc,rs,?_,hv9.mono hq9,hRg.mono lz.le,hrg.mono fun q x k=>RgF.mono k hqz,hSg,hKC.mono hq9⟩
    simp only[secL_len]
  ·rw[if_pos hok]
   refine⟨fun v1 v2 w'=>v2=.bool false∧Mem H6 w1 [fb g18 56 (gfd none 0 0 none 0 0 none 0 0 none 0 0 none 0 0 hzero)] w',?_,?_⟩
   ·have hM0:=hM
    repeat' apply And.intro
    all_goals
     refine dp_sld hW3 (by omega) (by omega) hwc (fun WB hWB=>?_)
     rw[Int.toNat_natCast,hdi]at hWB
     rw[Int.toNat_natCast]
     (((refine dm_ld hM ?_)))
     refine dp_sld hKB (by rw[List.length_map];omega) (by omega) hkb (fun PB hPB=>?_)
     rw[Int.toNat_natCast,hdk]at hPB
     rw[Int.toNat_natCast]
     (first|(((refine dm_new hM ?_;clear hM;intro _ _ hM)))|skip)
     have hro:=fun(w:World) (L:List Res) (hM:Mem H6 w1 L w)=>risen_q (Q:=fun v w'=>v=.tuple #[.agg (fl (gfd none 0 0 none 0 0 none 0 0 none 0 0 none 0 0 hzero)).toArray,.bool false]∧Mem H6 w1 L w') ((dirL t.size pl).drop q) os ((rungs.map Rg.pub).drop q) (by omega) (by omega) hwr2 hWB hPB hM (fun k=>absurd (by rw[hdq]at k;exact k) hok) (fun _ w' hM=>⟨rfl,hM⟩) (a:=wc - q) (b:=kb - q)
     rw[hdq,hrq]at hro
     have e9:rungs.length - q=(dirL t.size pl).length - q:=by omega
     rw[e9]
     refine df_no hM (fun w hM=>?_)
     refine mm_own (hro w _ hM) ?_
     rintro r w5 ⟨rfl,hM2⟩
     replace hM:=hM2
     clear hM2
     (first|(((refine dp_c trivial ?_;refine dp_c trivial ?_;refine dm_new hM ?_;clear hM;intro _ _ hM;refine dS_st hM ?_;clear hM;intro _ hM;refine mm_end hM ?_;clear hM;intro _ hM)))|(((refine dp_c trivial ?_;refine dp_c trivial ?_;refine dS_st hM ?_;clear hM;intro _ hM;refine mm_end hM ?_;clear hM;intro _ hM))))
     exact⟨rfl,hM.sub⟩
   clear hM
   rintro v1 v2 u w12 ⟨rfl,hM⟩
   (((refine mop_c trivial ?_;refine mif_true ?_;refine mop_c trivial ?_;refine mm_st hM ?_;clear hM;intro _ hM;refine rm_ld hM ?_)))
   exact hM.out (hle5.trans l6) ⟨_,rfl,GwF.none _⟩
 ·rw[if_pos hoe]
  (((refine mop_cT trivial ?_ ?_));(focus (first|assumption|omega|with_reducible rfl|exact fun h=>Bool.noConfusion h));((refine mif_true ?_;refine mop_c trivial ?_;refine mm_st hM ?_;clear hM;intro _ hM;refine rm_ld hM ?_)))
  exact hM.out hle5 ⟨_,rfl,GwF.none _⟩
end
end Go.Proofs.YtpjodlnlmaaihaaGreat
