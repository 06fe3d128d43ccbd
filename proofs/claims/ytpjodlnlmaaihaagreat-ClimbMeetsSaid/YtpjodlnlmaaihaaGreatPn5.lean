/- Part 5 of the proof. -/
import Derived.Test.YtpjodlnlmaaihaaGreatPn4
import Derived.OpenShut
import Derived.LaidEql
import Derived.ProofKit
import Derived.ShutString
import Derived.ChangeOld
import Derived.Below
import Derived.SliceStrings
import Derived.Deep.Slices
import Derived.Deep.Strs
import Derived.ChangeSame
import Derived.WideKeyArr2
import Derived.ChangeMaps5
import Derived.RangeFuncBox
import Derived.RangeFuncLeaves
import Derived.Shelf.Abstract
import Derived.WalkKit
import Derived.OwnWalkIn
import Derived.TacticsInMore
import Derived.LoopNIn
import Derived.LoopIn
import Derived.Maps.AppendAt
import Derived.Lib.AppendZerosOnto
import Derived.Lib.Overlaps
set_option linter.unusedVariables false
namespace Go.Proofs.YtpjodlnlmaaihaaGreat
open Go.RowKit
def xorB (c x:Int):Int:=bits .xor .u8 x c
def pad (l:List Int):List Int:=l++List.replicate (64 - l.length) 0
def kk (l:List Int):List Int:=if 64<l.length then shaSum l else l
def hmac (k m:List Int):List Int:=shaSum ((pad (kk k)).map (xorB 92)++shaSum ((pad (kk k)).map (xorB 54)++m))
theorem hmac_length (k m:List Int):(hmac k m).length=32:=shaSum_length _
theorem hmac_range (k m:List Int):∀ x∈hmac k m,0≤x∧x<256:=shaSum_range _
theorem kk_length (l:List Int):(kk l).length≤64:=by
 unfold kk
 split
 ·rw[shaSum_length];omega
 ·omega
theorem pad_length (l:List Int) (h:l.length≤64):(pad l).length=64:=by simp[pad];omega
theorem xorB_range (c x:Int):0≤xorB c x∧xorB c x<256:=by
 have:=bounds_u8 (wf_bits .xor .u8 x c)
 unfold xorB
 omega
theorem map_xor_range (c:Int) (l:List Int):∀ x∈l.map (xorB c),0≤x∧x<256:=by
 intro x hx
 obtain⟨y,_,rfl⟩:=List.mem_map.1 hx
 exact xorB_range c y
def xk (c:Int) (l:List Int) (i:Nat):List Int:=(l.take i).map (xorB c)++l.drop i
theorem xk_length (c:Int) (l:List Int) (i:Nat):(xk c l i).length=l.length:=by simp[xk];omega
theorem xk_at (c:Int) (l:List Int) (i:Nat) (h:i<l.length):(xk c l i).getD i 0=l.getD i 0:=by
 have h1:(l.take i).length=i:=by simp;omega
 unfold xk List.getD
 rw[List.getElem?_append_right (by rw[List.length_map,h1];omega),List.length_map,h1,Nat.sub_self,List.getElem?_drop]
 simp
theorem xk_set (c:Int) (l:List Int) (i:Nat) (h:i<l.length):(xk c l i).set i (xorB c (l.getD i 0))=xk c l (i+1):=by
 unfold xk
 have h1:(l.take i).length=i:=by simp;omega
 rw[List.set_append,if_neg (by rw[List.length_map,h1];omega),List.length_map,h1,Nat.sub_self,List.drop_eq_getElem_cons h,List.set_cons_zero,List.take_succ_eq_append_getElem h,List.map_append,List.append_assoc]
 simp[List.getD,h]
theorem xk_all (c:Int) (l:List Int):xk c l l.length=l.map (xorB c):=by simp[xk]
theorem lay_pad (l:List Int):lay (u8s (List.replicate 64 0)) (u8s l) 0=u8s (pad l):=by
 unfold lay pad
 rw[u8s_append,u8s_length,List.take_zero,List.nil_append,Nat.zero_add]
 congr 1
 unfold u8s
 rw[← List.map_drop,List.drop_replicate]
theorem build2s (a b:ByteArray) (w:World):(o_buildSlice 70 2 [(0,.string a),(1,.string b)]).run Tryz.prog w=.ok (.value (.slice (some ⟨w.heap.size,0,none⟩) 2 2)) (w.alloc (.cells [Value.string a,.string b].toArray 9)):=by kernel_rfl
theorem RowSt.rd {w0 w:World} {e sz:Nat} {L:List Bk} {A:Option Addr} {n cap:Nat} {xs:List Value} (h:RowSt w0 e sz L A n cap xs w):Rd w A xs:=by
 rcases h.2 with ⟨rfl,rfl,rfl,_⟩|⟨g,sp,rfl,hst,_⟩
 ·have:=h.1
  rw[Nat.zero_mul]at this
  rw[List.eq_nil_of_length_eq_zero this]
  exact .inl rfl
 ·refine .inr ⟨g,0,rfl,?_,fun j u hu=>?_⟩
  ·exact hst.head.lt
  ·rw[Nat.zero_add,hst.cell 0 rfl j]
   show(xs++sp)[j]?=some u
   rw[List.getElem?_append_left (List.getElem?_eq_some_iff.1 hu).1]
   exact hu
set_option maxRecDepth 100000 in
set_option maxHeartbeats 1000000 in
theorem code_ok (key:ByteArray) (A:Option Addr) (ss:List ByteArray) (c:Nat) (w:World) (hr:Rd w A (ss.map .string)) (hk:key.size<1000000000000) (hss:ss.length<1000000) (hsz:(cat ss).length<1000000000000):
  Calls Tryz.prog 123 #[.string key,.slice A ss.length c] w fun e w'=>e=.returned (hv (hmac (ints key) (cat ss)))∧St w [] w':=by
 refine C_mac_Code ?_
 unfold F_mac_Code
 have z32:(u8s (List.replicate 32 0)).length=32:=by simp[u8s]
 refine mop_new (St.nil w) (fun r w1 h1=>?_)
 have h1:St w [⟨r,34,u8s (List.replicate 32 0),true⟩] w1:=by simpa [u8s] using h1
 refine⟨fun v w2=>∃ k:ByteArray,v=.string k∧ints k=kk (ints key)∧St w [⟨r,34,u8s (List.replicate 32 0),true⟩] w2,?_,?_⟩
 ·(repeat (first|(refine mop_c ?_ ?_;first|exact trivial|omega)|(refine dp_c ?_ ?_;first|exact trivial|omega)))
  refine mif_dec (fun hlt=>?_) (fun hge=>?_)
  ·refine mop_run (buildstr key w1) ?_
   refine mop_to (sum_one key w1 (by omega)) ?_
   rintro e w2 ⟨rfl,h2⟩
   have h2:=h1.call0 h2
   have h32:(u8s (shaSum (ints key))).length=32:=by rw[u8s_length,shaSum_length]
   refine mop_new h2 (fun g w3 h3=>?_)
   refine mop_storeN (q:=true) (k:=32) (by kernel_rfl) h3 (by simpa [hv,Value.cells] using h32) (by intro u hu;exact u8s_one _ u hu) (by simp) (fun w4 h4=>?_)
   have e:lay (List.replicate 32 (Value.int .u8 0)) (hv (shaSum (ints key))).cells.toList 0=u8s (shaSum (ints key)):=lay_all _ _ (by show(u8s (shaSum (ints key))).length=_;rw[h32];simp)
   rw[e]at h4
   (repeat (first|(refine mop_c ?_ ?_;first|exact trivial|omega)|(refine dp_c ?_ ?_;first|exact trivial|omega)))
   refine mop_purW (pw_conv_bytes 99 9 5 g 0 32 _ (shaSum (ints key)) (by kernel_rfl) (by kernel_rfl) (by kernel_rfl) (shaSum_length _) (fun i hi=>by rw[Nat.zero_add,h4.cell 0 rfl i];exact u8s_at _ i (by rw[shaSum_length];omega))) ?_
   refine⟨_,rfl,?_,h4.drop⟩
   rw[ints_str _ (shaSum_range _),kk,if_pos (by rw[ints_length];omega)]
  ·exact⟨key,rfl,by rw[kk,if_neg (by rw[ints_length];omega)],h1⟩
 ·rintro v u w2 ⟨k,rfl,hk1,h2⟩
  clear h1
  have hkl:(ints k).length≤64:=by rw[hk1];exact kk_length _
  have hks:k.size≤64:=by rwa [ints_length]at hkl
  have htk:(ints k).take (min k.size 64)=ints k:=List.take_of_length_le (by rw[ints_length];omega)
  obtain⟨P,hP⟩:∃ P,P=pad (kk (ints key)):=⟨_,rfl⟩
  have hPl:P.length=64:=by rw[hP];exact pad_length _ (kk_length _)
  have hlay:lay (u8s (List.replicate 64 0)) (u8s ((ints k).take (min k.size 64))) 0=u8s P:=by rw[htk,lay_pad,hk1,hP]
  have hm:hmac (ints key) (cat ss)=shaSum (P.map (xorB 92)++shaSum (P.map (xorB 54)++cat ss)):=by rw[hP];rfl
  rw[hm]
  refine mop_new h2 (fun p w3 h3=>?_)
  refine mop_new h3 (fun q w4 h4=>?_)
  have h4:St w [⟨q,168,u8s (List.replicate 64 0),true⟩,⟨p,168,u8s (List.replicate 64 0),true⟩,⟨r,34,u8s (List.replicate 32 0),true⟩] w4:=by simpa [u8s] using h4
  clear h2 h3
  have z64:(u8s (List.replicate 64 0)).length=64:=by simp[u8s]
  (repeat (first|(refine mop_c ?_ ?_;first|exact trivial|omega)|(refine dp_c ?_ ?_;first|exact trivial|omega)))
  obtain⟨w5,hr5,h5⟩:=run_copy_string (P:=Tryz.prog) (o:=0) (m:=64) (c:=64) (s:=k) (dT:=99) (sT:=9) (ty:=3) (e:=5) (ks:=[false,false]) h4.swap (by kernel_rfl) (by kernel_rfl) (by rw[z64];omega)
  rw[hlay]at h5
  refine mop_run hr5 ?_
  (repeat (first|(refine mop_c ?_ ?_;first|exact trivial|omega)|(refine dp_c ?_ ?_;first|exact trivial|omega)))
  obtain⟨w6,hr6,h6⟩:=run_copy_string (P:=Tryz.prog) (o:=0) (m:=64) (c:=64) (s:=k) (dT:=99) (sT:=9) (ty:=3) (e:=5) (ks:=[false,false]) h5.swap (by kernel_rfl) (by kernel_rfl) (by rw[z64];omega)
  rw[hlay]at h6
  refine mop_run hr6 ?_
  clear h4 h5 hr5 hr6
  refine⟨fun v w7=>∃ i:Nat,i≤64∧v=.int .i64 i∧St w [⟨q,168,u8s (xk 92 P i),true⟩,⟨p,168,u8s (xk 54 P i),true⟩,⟨r,34,u8s (List.replicate 32 0),true⟩] w7,fun v _=>64 - (intOf v).toNat,⟨0,by omega,rfl,by simpa [xk] using h6⟩,?_⟩
  clear h6
  rintro v u w7 ⟨i,hi,rfl,h7⟩
  (repeat (first|(refine mop_c ?_ ?_;first|exact trivial|omega)|(refine dp_c ?_ ?_;first|exact trivial|omega)))
  refine mif_dec (fun hlt=>?_) (fun hge=>?_)
  ·have hi':i<64:=by omega
   have c1:∀ w8 B C,St w (⟨q,168,B,true⟩::⟨p,168,u8s (xk 54 P i),true⟩::C) w8→w8.cell? ⟨p,i,none⟩=some (.int .u8 (P.getD i 0)):=fun w8 B C h=>by
    rw[h.cell 1 rfl i,← xk_at 54 P i (by omega)];exact u8s_at _ i (by rw[xk_length];omega)
   have c2:∀ w8 B C,St w (B::⟨q,168,u8s (xk 92 P i),true⟩::C) w8→w8.cell? ⟨q,i,none⟩=some (.int .u8 (P.getD i 0)):=fun w8 B C h=>by
    rw[h.cell 1 rfl i,← xk_at 92 P i (by omega)];exact u8s_at _ i (by rw[xk_length];omega)
   (repeat (first|(refine mop_c ?_ ?_;first|exact trivial|omega)|(refine dp_c ?_ ?_;first|exact trivial|omega)))
   refine mop_ld (c1 _ _ _ h7) (by omega) ?_
   (repeat (first|(refine mop_c ?_ ?_;first|exact trivial|omega)|(refine dp_c ?_ ?_;first|exact trivial|omega)))
   refine mop_st (j:=i) h7.swap (by omega) (by rw[u8s_length,xk_length];omega) rfl (fun w8 h8=>?_)
   rw[set_u8s]at h8
   have h8:St w (⟨p,168,u8s (xk 54 P (i+1)),true⟩::⟨q,168,u8s (xk 92 P i),true⟩::⟨r,34,u8s (List.replicate 32 0),true⟩::[]) w8:=by
    rw[← xk_set 54 P i (by omega)];exact h8
   (repeat (first|(refine mop_c ?_ ?_;first|exact trivial|omega)|(refine dp_c ?_ ?_;first|exact trivial|omega)))
   refine mop_ld (c2 _ _ _ h8) (by omega) ?_
   (repeat (first|(refine mop_c ?_ ?_;first|exact trivial|omega)|(refine dp_c ?_ ?_;first|exact trivial|omega)))
   refine mop_st (j:=i) h8.swap (by omega) (by rw[u8s_length,xk_length];omega) rfl (fun w9 h9=>?_)
   rw[set_u8s]at h9
   have h9:St w (⟨q,168,u8s (xk 92 P (i+1)),true⟩::⟨p,168,u8s (xk 54 P (i+1)),true⟩::⟨r,34,u8s (List.replicate 32 0),true⟩::[]) w9:=by
    rw[← xk_set 92 P i (by omega)];exact h9
   (repeat (first|(refine mop_c ?_ ?_;first|exact trivial|omega)|(refine dp_c ?_ ?_;first|exact trivial|omega)))
   exact⟨⟨i+1,by omega,rfl,h9⟩,by simp[intOf];omega⟩
  ·obtain rfl:i=64:=by omega
   have a1:xk 54 P 64=P.map (xorB 54):=by rw[← hPl];exact xk_all 54 P
   have a2:xk 92 P 64=P.map (xorB 92):=by rw[← hPl];exact xk_all 92 P
   rw[a1,a2]at h7
   have r1:=map_xor_range 54 P
   have r2:=map_xor_range 92 P
   have l1:(P.map (xorB 54)).length=64:=by rw[List.length_map,hPl]
   have l2:(P.map (xorB 92)).length=64:=by rw[List.length_map,hPl]
   generalize P.map (xorB 54)=X at h7 r1 l1 ⊢
   generalize P.map (xorB 92)=Y at h7 r2 l2 ⊢
   (repeat (first|(refine mop_c ?_ ?_;first|exact trivial|omega)|(refine dp_c ?_ ?_;first|exact trivial|omega)))
   refine mop_purW (pw_conv_bytes 99 9 5 p 0 64 _ X (by kernel_rfl) (by kernel_rfl) (by kernel_rfl) l1 (fun i hi=>by rw[Nat.zero_add,h7.cell 1 rfl i];exact u8s_at X i (by omega))) ?_
   refine mop_run (buildstr _ _) ?_
   have h8:=h7.alloc 9 [Value.string (strOfNums X)]
   have hrow:RowSt w 9 1 [⟨q,168,u8s Y,true⟩,⟨p,168,u8s X,true⟩,⟨r,34,u8s (List.replicate 32 0),true⟩] (some ⟨w7.heap.size,0,none⟩) 1 1 [Value.string (strOfNums X)] (w7.alloc (.cells [Value.string (strOfNums X)].toArray 9)):=
    ⟨rfl,.inr ⟨w7.heap.size,[],rfl,h8,rfl,by omega,by unfold maxLen;omega⟩⟩
   have hsrc:=src_of_rd (P:=Tryz.prog) (size:=1) (tx:=70) (e':=9) _ (by kernel_rfl) (A:=A) (m:=ss.length) (c:=c) (news:=ss.map .string) (by simp) ((h8.only.rd hr (fun b off _ h=>by obtain⟨b',hb,h2,_⟩:=h;simp at hb;rcases hb with rfl|rfl|rfl|rfl <;> cases h2))) (by intro u hu;obtain⟨x,_,rfl⟩:=List.mem_map.1 hu;rfl)
   refine mop_append hrow hsrc (by unfold maxLen;omega) (by omega) (fun A' cap' w8 h9=>?_)
   have hrd9:Rd w8 A' ((strOfNums X::ss).map .string):=h9.rd
   have hcat:cat (strOfNums X::ss)=X++cat ss:=by
    unfold cat
    rw[List.map_cons,List.flatten_cons,ints_str X r1]
   have hsum:=sum_ok A' (strOfNums X::ss) cap' w8 hrd9 (by simp;omega) (by rw[hcat,List.length_append];omega)
   rw[hcat,List.length_cons,Nat.add_comm ss.length 1]at hsum
   refine mop_to hsum ?_
   rintro e w9 ⟨rfl,h10⟩
   have h10:=h9.base.call0 h10
   clear h7 h8 h9 hrow hsrc hsum hrd9
   obtain⟨D,hD⟩:∃ D,D=shaSum (X++cat ss):=⟨_,rfl⟩
   have rD:=shaSum_range (X++cat ss)
   have lD:=shaSum_length (X++cat ss)
   rw[← hD]at rD lD ⊢
   have hDl:(u8s D).length=32:=by rw[u8s_length,lD]
   refine mop_new h10 (fun d w10 h11=>?_)
   refine mop_storeN (q:=true) (k:=32) (by kernel_rfl) h11 (by simpa [hv,Value.cells] using hDl) (by intro u hu;exact u8s_one _ u hu) (by simp) (fun w11 h12=>?_)
   have e:lay (List.replicate 32 (Value.int .u8 0)) (hv D).cells.toList 0=u8s D:=lay_all _ _ (by show(u8s D).length=_;rw[hDl];simp)
   rw[e]at h12
   (repeat (first|(refine mop_c ?_ ?_;first|exact trivial|omega)|(refine dp_c ?_ ?_;first|exact trivial|omega)))
   refine dq_pur (fun w3 hw=>pw_conv_bytes 99 9 5 q 0 64 _ Y (by kernel_rfl) (by kernel_rfl) (by kernel_rfl) l2 (fun i hi=>hw.cell (by rw[Nat.zero_add,h12.cell 1 rfl i];exact u8s_at Y i (by omega)))) ?_
   (repeat (first|(refine mop_c ?_ ?_;first|exact trivial|omega)|(refine dp_c ?_ ?_;first|exact trivial|omega)))
   refine dq_pur (fun w3 hw=>pw_conv_bytes 99 9 5 d 0 32 _ D (by kernel_rfl) (by kernel_rfl) (by kernel_rfl) lD (fun i hi=>hw.cell (by rw[Nat.zero_add,h12.cell 0 rfl i];exact u8s_at D i (by omega)))) ?_
   refine df_mop fun w12 hd12=>mop_run (build2s _ _ _) ⟨(fun e=>by cases e),?_⟩
   have h13:=(h12.drawn hd12)
   refine df_mop fun w13 hd13=>?_
   have h14:=(h13.alloc 9 [Value.string (strOfNums Y),.string (strOfNums D)]).drawn hd13
   have hcat2:cat [strOfNums Y,strOfNums D]=Y++D:=by
    simp[cat,ints_str Y r2,ints_str D rD]
   have hsum:=sum_ok (some ⟨w12.heap.size,0,none⟩) [strOfNums Y,strOfNums D] 2 w13 (.inr ⟨w12.heap.size,0,rfl,h14.head.lt,fun j u hu=>by rw[Nat.zero_add,h14.cell 0 rfl j];exact hu⟩) (by simp) (by rw[hcat2,List.length_append];omega)
   rw[hcat2]at hsum
   refine mop_to hsum ?_
   rintro e w14 ⟨rfl,h15⟩
   have h15:=h14.drop.call0 h15
   refine⟨(fun e=>by cases e),?_⟩
   refine df_mop fun w15 hd15=>?_
   have h16:=(h15.drawn hd15).drop.drop.drop
   have hEl:(u8s (shaSum (Y++D))).length=32:=by rw[u8s_length,shaSum_length]
   refine mop_storeN (q:=true) (k:=32) (by kernel_rfl) h16 (by simpa [hv,Value.cells] using hEl) (by intro u hu;exact u8s_one _ u hu) (by rw[z32];omega) (fun w17 h17=>⟨(fun e=>by cases e),?_⟩)
   have e:lay (u8s (List.replicate 32 0)) (hv (shaSum (Y++D))).cells.toList 0=u8s (shaSum (Y++D)):=lay_all _ _ (by show(u8s (shaSum (Y++D))).length=_;rw[hEl,z32])
   rw[e]at h17
   refine dend_intro fun w18 hd18=>?_
   have h18:=h17.drawn hd18
   refine rcell_ldN (cells_of_row h18.head) hEl ?_
   exact⟨rfl,h18.drop⟩
end Go.Proofs.YtpjodlnlmaaihaaGreat
namespace Go.Proofs.YtpjodlnlmaaihaaGreat
open Go.RowKit
end Go.Proofs.YtpjodlnlmaaihaaGreat
namespace Go.Proofs.YtpjodlnlmaaihaaGreat
open Go.RowKit
def fourB (n:Int):List Int:=[n / 16777216%256,n / 65536%256,n / 256%256,n%256]
theorem fourB_range (n:Int):∀ x∈fourB n,0≤x∧x<256:=by
 intro x hx
 simp only[fourB,List.mem_cons,List.not_mem_nil,or_false]at hx
 omega
theorem build4b (a b c d:Int) (w:World):(o_buildSlice 99 4 [(0,.int .u8 a),(1,.int .u8 b),(2,.int .u8 c),(3,.int .u8 d)]).run Tryz.prog w=.ok (.value (.slice (some ⟨w.heap.size,0,none⟩) 4 4)) (w.alloc (.cells (u8s [a,b,c,d]).toArray 5)):=by kernel_rfl
theorem conv4 (a b c d:Int) (w:World) {w0:World} {L:List Bk} (h:St w0 L w):
  PurW Tryz.prog (w.alloc (.cells (u8s [a,b,c,d]).toArray 5)) (o_conv 99 9 (.slice (some ⟨w.heap.size,0,none⟩) 4 4)) (.string (strOfNums [a,b,c,d])):=
 pw_conv_bytes 99 9 5 w.heap.size 0 4 _ [a,b,c,d] (by kernel_rfl) (by kernel_rfl) (by kernel_rfl) rfl (fun i hi=>by
  rw[Nat.zero_add,(h.alloc 5 (u8s [a,b,c,d])).cell 0 rfl i]
  exact u8s_at [a,b,c,d] i (by simpa using hi))
theorem four_ok (n:Int) (w:World):Calls Tryz.prog 124 #[.int .i64 n] w fun e w'=>e=.returned (.string (strOfNums (fourB n)))∧St w [] w':=by
 refine C_mac_four ?_
 unfold F_mac_four
 (repeat (first|(refine mop_c ?_ ?_;first|exact trivial|omega)|(refine dp_c ?_ ?_;first|exact trivial|omega)))
 refine mop_run (build4b _ _ _ _ _) ?_
 refine mop_purW (conv4 _ _ _ _ _ (St.nil w)) ?_
 exact⟨rfl,((St.nil w).alloc _ _).drop⟩
theorem build3s (a b c:ByteArray) (w:World):(o_buildSlice 70 3 [(0,.string a),(1,.string b),(2,.string c)]).run Tryz.prog w=.ok (.value (.slice (some ⟨w.heap.size,0,none⟩) 3 3)) (w.alloc (.cells [Value.string a,.string b,.string c].toArray 9)):=by kernel_rfl
def derived (x:List Int) (l c:ByteArray):List Int:=hmac x (fourB l.size++(ints l++ints c))
set_option maxHeartbeats 1000000 in
theorem derive_ok (x:List Int) (l c:ByteArray) (w:World) (hx:x.length=32) (rx:∀ c∈x,0≤c∧c<256) (hl:l.size≤1000000) (hc:c.size≤1000000):
  Calls Tryz.prog 85 #[hv x,.string l,.string c] w fun e w'=>e=.returned (hv (derived x l c))∧St w [] w':=by
 refine C_mac_Derive ?_
 unfold F_mac_Derive
 have z32:(u8s (List.replicate 32 0)).length=32:=by simp[u8s]
 refine mop_box (St.nil w) (fun b w1 h1=>?_)
 have h1:St w [⟨b,34,u8s x,true⟩] w1:=by simpa [hv,Value.cells] using h1
 refine mop_new h1 (fun r w3 h3=>?_)
 have h3:St w [⟨r,34,u8s (List.replicate 32 0),true⟩,⟨b,34,u8s x,true⟩] w3:=by simpa [u8s] using h3
 clear h1
 (repeat (first|(refine mop_c ?_ ?_;first|exact trivial|omega)|(refine dp_c ?_ ?_;first|exact trivial|omega)))
 refine dq_pur (fun w4 hw=>pw_conv_bytes 99 9 5 b 0 32 _ x (by kernel_rfl) (by kernel_rfl) (by kernel_rfl) hx (fun i hi=>hw.cell (by rw[Nat.zero_add,h3.cell 1 rfl i];exact u8s_at x i (by omega)))) ?_
 (repeat (first|(refine mop_c ?_ ?_;first|exact trivial|omega)|(refine dp_c ?_ ?_;first|exact trivial|omega)))
 refine df_mop fun w4 hd4=>mop_to (four_ok l.size w4) ?_
 rintro e w5 ⟨rfl,h5⟩
 have x5:Ext w3 w5:=hd4.ext.trans h5.ext0
 have h5:=(h3.drawn hd4).call0 h5
 refine⟨fun _=>x5,?_⟩
 refine df_mop fun w6 hd6=>mop_run (build3s _ _ _ _) ⟨fun _=>hd6.ext.trans ((Only.refl _ w6).alloc _),?_⟩
 have h6:=h5.drawn hd6
 refine df_mop fun w7 hd7=>?_
 have h7:=(h6.alloc 9 [Value.string (strOfNums (fourB l.size)),.string l,.string c]).drawn hd7
 have hcat:cat [strOfNums (fourB l.size),l,c]=fourB l.size++(ints l++ints c):=by simp[cat,ints_str _ (fourB_range l.size)]
 have hc:=code_ok (strOfNums x) (some ⟨w6.heap.size,0,none⟩) [strOfNums (fourB l.size),l,c] 3 w7 (.inr ⟨w6.heap.size,0,rfl,h7.head.lt,fun j u hu=>by rw[Nat.zero_add,h7.cell 0 rfl j];exact hu⟩) (by rw[strOfNums_size];omega) (by simp) (by rw[hcat];simp[fourB,ints_length];omega)
 rw[hcat,ints_str x rx]at hc
 refine mop_to hc ?_
 rintro e w8 ⟨rfl,h8⟩
 have h8:=h7.drop.call0 h8
 refine⟨(fun e=>by cases e),?_⟩
 have hEl:(u8s (derived x l c)).length=32:=by rw[u8s_length,derived,hmac_length]
 refine df_mop fun w9 hd9=>mop_storeN (q:=true) (k:=32) (by kernel_rfl) (h8.drawn hd9) (by simpa [hv,Value.cells,derived] using hEl) (by intro u hu;exact u8s_one _ u hu) (by rw[z32];omega) (fun w8 h8=>⟨(fun e=>by cases e),?_⟩)
 have e:lay (u8s (List.replicate 32 0)) (hv (derived x l c)).cells.toList 0=u8s (derived x l c):=lay_all _ _ (by show(u8s (derived x l c)).length=_;rw[hEl,z32])
 have h8:St w [⟨r,34,u8s (derived x l c),true⟩,⟨b,34,u8s x,true⟩] w8:=by rw[← e];exact h8
 refine dend_intro fun w9 hd9=>?_
 have h9:=h8.drawn hd9
 refine rcell_ldN (cells_of_row h9.head) hEl ?_
 exact⟨rfl,h9.drop.drop⟩
theorem derived_length (x:List Int) (l c:ByteArray):(derived x l c).length=32:=hmac_length _ _
end Go.Proofs.YtpjodlnlmaaihaaGreat
namespace Go.Proofs.YtpjodlnlmaaihaaGreat
open Go.RowKit
section
variable {P:Program} {t:TypeId} {q:Bool}
theorem str_beq (x y:ByteArray):(x.toList == y.toList)=decide (x=y):=by
 rw[Bool.eq_iff_iff]
 simp only[beq_iff_eq,decide_eq_true_eq]
 rw[ByteArray.toList_eq,ByteArray.toList_eq]
 constructor
 ·intro e
  obtain⟨⟨a⟩⟩:=x
  obtain⟨⟨b⟩⟩:=y
  simpa using e
 ·rintro rfl;rfl
instance (priority:=1100) (x y:ByteArray):StepC P (o_bin .neq t q (.string x) (.string y)) True (.bool (decide (x≠y))):=⟨fun _ w=>by
 have:=str_beq x y
 simp[o_bin,sv,eqGuard,binOp,go_sem,Op.stringOp,this]⟩
instance (a b:Bool) [h:IsBo P t]:StepC P (o_bin .neq t q (.bool a) (.bool b)) True (.bool (decide (a≠b))):=⟨fun _ w=>by
 have:=run_o_neq (P:=P) (c:=q) (w:=w) (t:=t) (x:=.bool a) (y:=.bool b) (fun _ _=>by simp only[eqGuard];rfl) (by simp only[binOp]) (run_equalIn_bool' w 9999 t a b h.ok)
 rw[this]
 congr 3
 rw[Bool.eq_iff_iff];simp⟩
instance (priority:=1100):StepC P (o_un .not (.bool true)) True (.bool false):=⟨fun _ w=>by simp[o_un,sv,go_sem]⟩
instance (priority:=1100):StepC P (o_un .not (.bool false)) True (.bool true):=⟨fun _ w=>by simp[o_un,sv,go_sem]⟩
end
end Go.Proofs.YtpjodlnlmaaihaaGreat
namespace Go.Proofs.YtpjodlnlmaaihaaGreat
open Go.RowKit
def exR {α:Type} (R:α→List Res):Res:=fun B=>∃ a,Hl (R a) B
theorem Mem.unex {α:Type} {R:α→List Res} {H:Hp} {w0 w:World} {L:List Res} (h:Mem H w0 (exR R::L) w):∃ a,Mem H w0 (R a++L) w:=by
 obtain⟨B,⟨B1,B2,rfl,⟨a,h1⟩,h2⟩,hs⟩:=h.own
 exact⟨a,⟨B1++B2,Hl.app.2 ⟨B1,B2,rfl,h1,h2⟩,hs⟩,h.fz⟩
theorem Mem.toex {α:Type} {R:α→List Res} {H:Hp} {w0 w:World} {L:List Res} (a:α) (h:Mem H w0 (R a++L) w):Mem H w0 (exR R::L) w:=h.fold fun _ hb=>⟨a,hb⟩
instance (priority:=500) (L L':List Res) (x:Res) [k:SubL L L']:SubL (x::L) L':=⟨by
 obtain⟨R,h⟩:=k.ok
 exact⟨x::R,h.cons x⟩⟩
def Clo {α:Type} (P:Program) (H:Hp) (w0:World) (r:Res) (c:Value) (enc:α→Value) (f:α→Bool):Prop:=
 ∀ (y:α) (R:List Res) (w:World) (K:Value→World→Prop) (X:List PanicEntry→World→Prop),Mem H w0 (r::R) w→(∀ w',Mem H w0 (r::R) w'→K (.bool (f y)) w')→mop P (o_call c [enc y]) w K X
section
variable {P:Program} {H:Hp} {w0 w:World} {L:List Res} {n cap e sz by_:Nat} {t:TypeId} {A:Option Addr} {ps:List (List Fd)} {X X1 X2 X3:List PanicEntry→World→Prop} {R:Ending→World→Prop}
theorem clone_gen [cc:SliC P t e sz by_] [IsSl P t] (hs:Sl (Hp.of w) sz A ps) (hn:n=ps.length) (hM:Mem H w0 L w) (hb:n≤9223372036854775807∧n*by_≤140737488355328)
  (hR:∀ A' cap' w',Ext w w'→Mem H w0 (rowR e sz A' n cap' ps::L) w'→R (.returned (.slice A' n cap')) w'):
  mop P (o_bin .eql t true (.slice A n cap) (.slice none 0 0)) w (fun x4 w1=>mif x4 (R (.returned (.slice none 0 0)) w1) (mop P (o_buildSlice t 0 []) w1 (fun x5 w2=>mop P (o_builtin .append #[t,t] t [false,false] [x5,.slice A n cap]) w2 (fun x7 w3=>R (.returned x7) w3) X2) X1)) X:=by
 refine mop_c trivial ?_
 cases A with
 | none=>
  have:ps=[]:=by
   rcases hs.at_ with h|⟨b,o,c,h,_⟩
   ·exact h
   ·cases h
  subst this
  subst hn
  exact mif_true (hR none 0 w (Ext.refl w) (hM.row0 e sz))
 | some a=>
  refine mif_false ?_
  have k:Lits P sz 0 [] []:=inferInstance
  have hr:=run_buildSlice (P:=P) (t:=t) (e:=e) (sz:=sz) (by_:=by_) (w:=w) (ps:=[]) (qs:=[]) cc k (by simp)
  refine mop_run hr ?_
  have hx:Ext w (w.alloc (.cells (fls []).toArray e)):=(Only.refl _ w).alloc _
  have hM2:Mem H w0 (rowR e sz (some ⟨w.heap.size,0,none⟩) 0 0 []::L) (w.alloc (.cells (fls []).toArray e)):=by
   obtain⟨B,hl,hs',hb'⟩:=hM.own
   refine⟨⟨⟨w.heap.size,e,fls [],true⟩::B,⟨[⟨w.heap.size,e,fls [],true⟩],B,rfl,⟨Els.nil sz,rfl,.inr ⟨w.heap.size,[],rfl,by simp,by simp[fls],by simp,by simp⟩⟩,hl⟩,hs'.alloc e (fls []),fun b hm=>?_⟩,hM.fz.ext hx⟩
   rcases List.mem_cons.1 hm with rfl|hm
   ·refine⟨rfl,?_⟩
    cases hh:H w.heap.size with
    | none=>rfl
    | some c=>have:=hM.fz.lt hh;omega
   ·exact hb' b hm
  subst hn
  have hsrc:Src P sz t (.slice (some a) ps.length cap) ps.length (fls ps) (w.alloc (.cells (fls []).toArray e)):=hs.src ((Fz.of w).ext hx) cc.und cap
  simp only[List.length_nil]
  refine mm_appX (n:=0) (cap:=0) hM2 ⟨.refl _⟩ hsrc hs.els rfl (by simp only[maxLen];omega) (by rw[Nat.zero_add];exact hb.2) fun A' cap' w' ho hM3=>?_
  rw[Nat.zero_add,List.nil_append]at hM3
  rw[Nat.zero_add]
  have hx2:Ext w w':=Only.trans hx ho fun i hi hg=>by cases hg;omega
  exact hR A' cap' w' hx2 hM3
theorem dS_appF {R1 R2:List Res} {S:Rl} {K:Value→World→Prop} {m capx ex e' tx ty:Nat} {qs:List (List Fd)} {B:Option Addr} {ks:List Bool} (h:Mem H w0 L w) [c:SliC P t e sz by_] [k:AtR L A n cap e sz ps R1] [k':AtR R1 B m capx ex sz qs R2] [cx:SliC P tx e' sz by_] (hb:n+m≤9223372036854775807∧(n+m)*by_≤140737488355328)
  (hk:∀ A' cap' w',Mem H w0 (rowR e sz A' (n+m) cap' (ps++qs)::R2) w'→K (.slice A' (n+m) cap') w'):dfS P S w (o_builtin .append #[t,tx] ty ks [.slice A n cap,.slice B m capx]) false K:=
 ⟨fun _ hd=>mop_mono (mm_appo (X:=fun _ _=>False) (h.drawn hd) hb hk) (fun _ _ h=>⟨(fun e=>by cases e),h⟩) (fun _ _ h=>h)⟩
theorem Mem.setElem {R1:List Res} {g:Nat} {k:Nat} {p:List Fd} (h:Mem H w0 (rowR e sz (some ⟨g,0,none⟩) n cap ps::R1) w) (hk:k<n) (hp:FOk p) (hs:fsz p=sz):∃ w',(storeCells ⟨g,0+k*sz,none⟩ (fl p) 0).run P w=.ok () w'∧Mem H w0 (rowR e sz (some ⟨g,0,none⟩) n cap (ps.set k p)::R1) w':=by
 obtain⟨B,⟨B1,B2,rfl,⟨h1,h2,h3⟩,h4⟩,hs',hb⟩:=h.own
 rcases h3 with ⟨hA,_⟩|⟨g',sp,hA,rfl,h5,h6⟩
 ·cases hA
 ·cases hA
  have hs':St w0 (⟨g,e,fls ps++sp,true⟩::B2) w:=hs'
  have hle:k*sz+sz≤n*sz:=by rw[← Nat.succ_mul];exact Nat.mul_le_mul_right _ hk
  have hpl:(fl p).length=sz:=by rw[hp.len,hs]
  have hfl:(fls ps).length=n*sz:=by rw[h1.len,h2]
  have hst:=run_storeCells_blf (P:=P) (0+k*sz) (fl p) 0 (fls ps++sp) w hs'.head (by rw[List.length_append,hfl,hpl];omega) hp.one
  have hlay:lay (fls ps++sp) (fl p) (0+k*sz+0)=fls (ps.set k p)++sp:=by
   have hk':k<ps.length:=by omega
   have e1:ps=ps.take k++ps[k]::ps.drop (k+1):=by rw[List.getElem_cons_drop,List.take_append_drop]
   have ht:(fls (ps.take k)).length=k*sz:=by rw[(h1.take k).len,List.length_take,Nat.min_eq_left (by omega)]
   have hx:(fl ps[k]).length=sz:=by
    have:=h1.ok ps[k] (List.getElem_mem _)
    rw[this.1.len,this.2]
   rw[List.set_eq_take_append_cons_drop,if_pos hk']
   conv=>lhs;rw[e1]
   rw[fls_app,fls_app,fls_cons,fls_cons]
   unfold lay
   rw[Nat.zero_add,Nat.add_zero,hpl]
   rw[List.append_assoc,List.append_assoc,List.append_assoc,List.append_assoc,List.append_assoc]
   rw[List.take_left' ht]
   congr 1
   rw[show k*sz+sz=(fls (ps.take k)++fl ps[k]).length by rw[List.length_append,ht,hx],← List.append_assoc (fls (ps.take k)),List.drop_left' rfl]
  refine⟨_,hst,?_⟩
  rw[hlay]
  have hl2:(fls (ps.set k p)++sp).length=(fls ps++sp).length:=by
   rw[← hlay]
   exact lay_length _ _ _ (by rw[List.length_append,hfl,hpl];omega)
  have hels:Els sz (ps.set k p):=⟨fun q hq=>by
   rcases List.mem_or_eq_of_mem_set hq with hq|rfl
   ·exact h1.ok q hq
   ·exact⟨hp,hs⟩⟩
  have hg:=hb ⟨g,e,fls ps++sp,true⟩ (by simp)
  refine⟨⟨⟨g,e,fls (ps.set k p)++sp,true⟩::B2,⟨[⟨g,e,fls (ps.set k p)++sp,true⟩],B2,rfl,⟨hels,by simpa using h2,.inr ⟨g,sp,rfl,rfl,by rw[hl2];exact h5,h6⟩⟩,h4⟩,hs'.setRow hl2,fun b hm=>?_⟩,h.fz.same fun b c hc=>setRow_other w g b _ ?_⟩
  ·rcases List.mem_cons.1 hm with rfl|hm
   ·exact⟨rfl,hg.2⟩
   ·exact hb b (List.mem_append.2 (.inr hm))
  ·rintro rfl
   have:=hg.2
   simp only[hc]at this
   cases this
theorem mm_str {R1:List Res} {g k:Nat} {tt:TypeId} {q:Bool} {v:Value} {p:List Fd} {K:Value→World→Prop} {X:List PanicEntry→World→Prop} (h:Mem H w0 L w) [c:ShpC P tt q sz] [a:AtA L (some ⟨g,0,none⟩) n cap e sz ps R1] [f:Vf v sz p] (hk:k<n)
  (hK:∀ w',Mem H w0 (rowR e sz (some ⟨g,0,none⟩) n cap (ps.set k p)::R1) w'→K undef w'):mop P (o_store tt (.pointer (some ⟨g,0+k*sz,none⟩)) v) w K X:=by
 obtain⟨ev,hn,hp⟩:=f.ok
 obtain⟨w',hr,hm⟩:=(h.perm a.perm).setElem (P:=P) hk hp hn
 refine mop_skip ?_ (hK w' hm)
 have e2:v.cells.size=sz:=by rw[← Array.length_toList,ev,hp.len,hn]
 simp[o_store,su,Instr.storeAt,Instr.sureAddr,storeVar,run_size (shp_agg (w:=w) c.ok).2,ev,e2]
 rw[Nat.zero_add]at hr
 simp[hr]
theorem zeroCells_one {z:Array Value} (h:∀ u∈z.toList,u.oneCell'=true) (n:Nat):∀ u∈(Builtin.zeroCells z n).toList,u.oneCell'=true:=by
 intro u hu
 simp only[Builtin.zeroCells,Array.toList_map,Array.toList_range,List.mem_map,List.mem_range]at hu
 obtain⟨i,hi,rfl⟩:=hu
 have hz:0<z.size:=by
  rcases Nat.eq_zero_or_pos z.size with h0|h0
  ·rw[h0]at hi;simp at hi
  ·exact h0
 have hlt:i%z.size<z.size:=Nat.mod_lt _ hz
 simp only[getElem!_pos,hlt]
 exact h _ (by simp)
theorem mm_clear {R1:List Res} {g k cc ty:Nat} {ks:List Bool} {fs:List Fd} {K:Value→World→Prop} {X:List PanicEntry→World→Prop} (h:Mem H w0 L w) [sc:SliC P t e sz by_] [z:ZerF P e fs] [a:AtA L (some ⟨g,0,none⟩) n cap e sz ps R1] (hk:k<n)
  (hK:∀ w',Mem H w0 (rowR e sz (some ⟨g,0,none⟩) k cap (ps.take k)::R1) w'→K (.tuple #[]) w'):mop P (o_builtin .clear #[t] ty ks [.slice (some ⟨g,0+k*sz,none⟩) (n - k) cc]) w K X:=by
 obtain⟨B,⟨B1,B2,rfl,⟨h1,h2,h3⟩,h4⟩,hs',hb⟩:=(h.perm a.perm).own
 obtain⟨ht,i,zv,hi,hz,h5,h6,h7⟩:=sli_spec sc.ok
 obtain⟨hzf,hzo⟩:=z.ok
 unfold zer at hzf
 simp[hi,hz]at hzf
 rcases h3 with ⟨hA,_⟩|⟨g',sp,hA,rfl,h8,h9,h10⟩
 ·cases hA
 ·cases hA
  have hs':St w0 (⟨g,e,fls ps++sp,true⟩::B2) w:=hs'
  have hfl:(fls ps).length=n*sz:=by rw[h1.len,h2]
  have hle:k*sz+(n - k)*sz=n*sz:=by rw[← Nat.add_mul];congr 1;omega
  have hzl:(Builtin.zeroCells zv.cells (n - k)).toList.length=(n - k)*sz:=by rw[Array.length_toList,size_zeroCells,h7]
  have hone:=zeroCells_one (z:=zv.cells) (by rw[hzf];exact hzo.one) (n - k)
  have hst:=run_storeCells_blf (P:=P) (0+k*sz) (Builtin.zeroCells zv.cells (n - k)).toList 0 (fls ps++sp) w hs'.head (by rw[List.length_append,hfl,hzl];omega) hone
  have hz0:(zeroValue e).run P w=.ok zv w:=by simp[zeroValue,typeInfo,hi,hz]
  have hlay:lay (fls ps++sp) (Builtin.zeroCells zv.cells (n - k)).toList (0+k*sz+0)=fls (ps.take k)++((Builtin.zeroCells zv.cells (n - k)).toList++sp):=by
   have ht':(fls (ps.take k)).length=k*sz:=by rw[(h1.take k).len,List.length_take,Nat.min_eq_left (by omega)]
   unfold lay
   rw[Nat.zero_add,Nat.add_zero,hzl,hle,← hfl,List.drop_left' rfl]
   conv=>lhs;arg 1;arg 1;rw[← List.take_append_drop k ps,fls_app,List.append_assoc,List.take_left' ht']
   rw[List.append_assoc]
  have hl2:(fls (ps.take k)++((Builtin.zeroCells zv.cells (n - k)).toList++sp)).length=(fls ps++sp).length:=by
   rw[← hlay]
   exact lay_length _ _ _ (by rw[List.length_append,hfl,hzl];omega)
  rw[hlay]at hst
  have hg:=hb ⟨g,e,fls ps++sp,true⟩ (by simp)
  refine mop_run (w':=w.setRow g (fls (ps.take k)++((Builtin.zeroCells zv.cells (n - k)).toList++sp)).toArray) (u:=.tuple #[]) ?_ (hK _ ?_)
  ·have hne:n - k≠0:=by omega
   obtain⟨m,hm⟩:∃ m,n - k=m+1:=⟨n - k - 1,by omega⟩
   rw[hm]at hst ⊢
   rw[Nat.zero_add]at hst ⊢
   simp[o_builtin,invoke,builtin,Builtin.clear_,run_underlying ht,hz0,hst]
  ·refine⟨⟨⟨g,e,fls (ps.take k)++((Builtin.zeroCells zv.cells (n - k)).toList++sp),true⟩::B2,⟨[_],B2,rfl,⟨h1.take k,by rw[List.length_take];omega,.inr ⟨g,(Builtin.zeroCells zv.cells (n - k)).toList++sp,rfl,rfl,by rw[hl2];exact h8,by omega,h10⟩⟩,h4⟩,hs'.setRow hl2,fun b hm=>?_⟩,h.fz.same fun b c hc=>setRow_other w g b _ ?_⟩
   ·rcases List.mem_cons.1 hm with rfl|hm
    ·exact⟨rfl,hg.2⟩
    ·exact hb b (List.mem_append.2 (.inr hm))
   ·rintro rfl
    have:=hg.2
    simp only[hc]at this
    cases this
end
end Go.Proofs.YtpjodlnlmaaihaaGreat
namespace Go.Proofs.YtpjodlnlmaaihaaGreat
open Go.RowKit
def Rl.fz (K:Hp):Rl:=⟨fun a b=>Fz K a→Fz K b,fun _ h=>h,fun h k x=>k (h x),fun h x=>x.ext h.ext⟩
def hadd (H:Hp) (g:Nat) (cs:List Value):Hp:=fun k=>if k=g then some cs.toArray else H k
section
variable {P:Program} {H H' K:Hp} {w0 w w':World} {L L' R R':List Res} {g i:Nat} {t t':TypeId} {fs gs fs':List Fd} {put:Res→List Res} {q:Bool} {n m cap e e' sz by_:Nat} {v:Value} {Kt:Value→World→Prop} {X:List PanicEntry→World→Prop} {Kq:Value→Prop} {A:Option Addr} {ps qs:List (List Fd)}
theorem Fz.hadd {cs:List Value} (h:Fz H w) (b:Blf w g t cs):Fz (hadd H g cs) w:=fun k c hk=>by
 unfold Go.Proofs.YtpjodlnlmaaihaaGreat.hadd at hk
 split at hk
 ·rename_i e
  subst e
  cases hk
  obtain⟨fr,hb,_⟩:=b
  exact⟨t,fr,hb⟩
 ·exact h k c hk
theorem hadd_le {cs:List Value} (h:H g=none):H.le (hadd H g cs):=fun k c hk=>by
 unfold hadd
 split
 ·rename_i e
  subst e
  rw[h]at hk
  cases hk
 ·exact hk
theorem Mem.free (h:Mem H w0 L w) [k:AtF L g t' fs R]:H g=none:=by
 obtain⟨B,⟨B1,B2,rfl,⟨_,rfl⟩,_⟩,_,hb⟩:=(h.perm k.perm).own
 exact(hb ⟨g,t',fl fs,true⟩ (by simp)).2
theorem Mem.fzAdd (h:Mem H w0 L w) (hK:Fz K w) (g:Nat) [k:AtF L g t' fs R]:Fz (hadd K g (fl fs)) w:=by
 obtain⟨B,⟨B1,B2,rfl,⟨_,rfl⟩,_⟩,hs,_⟩:=(h.perm k.perm).own
 exact hK.hadd (t:=t') (hs.own ⟨g,t',fl fs,true⟩ (by simp)).blf
theorem FbF.add {fs:List Fd} (h:FOk fs):FbF (hadd K g (fl fs)) g fs:=⟨h,(fl fs).toArray,by simp[hadd],fun j u hu=>by simpa using hu⟩
theorem Fz.mono {w:World} (h:Fz H' w) (k:H.le H'):Fz H w:=fun b c hb=>h b c (k b c hb)
def K2 (H:Hp) (g:Nat) (fs:List Fd) (g2:Nat) (fs2:List Fd):Hp:=hadd (hadd H g (fl fs)) g2 (fl fs2)
theorem dK_ldf (hF:Fz K w) (h:FbF K g fs) [c:ShpC P t q n] [s:Sub fs i n gs] [f:Fv q gs v] (hk:Kq v):dqS P (Rl.fz K) w (o_load t (.pointer (some ⟨g,i,none⟩))) Kq:=
 ⟨v,fun w' hw=>by
  have:=h.load (P:=P) (t:=t) (q:=q) (hw hF) c s f
  unfold opq
  rw[this]
  exact⟨rfl,Drawn.refl w'⟩,hk⟩
theorem dK_lds {b o k off:Nat} (hF:Fz K w) (a:Sl K sz (some ⟨b,o,none⟩) ps) [c:ShpC P t q n] (hp:ps[k]?=some fs) [s:Sub fs off n gs] [f:Fv q gs v] (hk:Kq v):dqS P (Rl.fz K) w (o_load t (.pointer (some ⟨b,o+k*sz+off,none⟩))) Kq:=
 ⟨v,fun w' hw=>by
  have:=pw_elem (P:=P) (w:=w') a.els hp c s f (fun _ _ hu=>a.cell (hw hF) hu)
  unfold opq
  rw[this]
  exact⟨rfl,Drawn.refl w'⟩,hk⟩
end
end Go.Proofs.YtpjodlnlmaaihaaGreat
namespace Go.Proofs.YtpjodlnlmaaihaaGreat
open Go.RowKit
class PurC (P:Program) (f:Nat) (args:List Value) (c:outParam Prop) (v:outParam Value):Prop where
 ok:c→∀ (w:World),Calls P f args.toArray w fun en w'=>en=.returned v∧St w [] w'
section
variable {P:Program} {H K:Hp} {w0 w:World} {L:List Res} {f:Nat} {args:List Value} {c:Prop} {v:Value} {Kt:Value→World→Prop} {X:List PanicEntry→World→Prop}
theorem mm_purC (h:Mem H w0 L w) [hf:FunC P f] [p:PurC P f args c v] (hc:c) (hk:∀ w',Mem H w0 L w'→Kt v w'):mop P (o_call (fv f) args) w Kt X:=mm_pure h (p.ok hc w) hk
theorem dm_purC {ext:Bool} (h:Mem H w0 L w) [hf:FunC P f] [p:PurC P f args c v] (hc:c) (hk:∀ w',Ext w w'→Mem H w0 L w'→Kt v w'):df P w (o_call (fv f) args) ext Kt:=dm_pure h (fun w _=>p.ok hc w) hk
end
end Go.Proofs.YtpjodlnlmaaihaaGreat
namespace Go.Proofs.YtpjodlnlmaaihaaGreat
open Go.RowKit
def numB (n:Int):List Int:=
 if n<64 then [n]
 else if n<16384 then [64+n / 256,n%256]
 else if n<1073741824 then [128+n / 16777216,n / 65536%256,n / 256%256,n%256]
 else [192+n / 72057594037927936,n / 281474976710656%256,n / 1099511627776%256,n / 4294967296%256,n / 16777216%256,n / 65536%256,n / 256%256,n%256]
theorem numB_range (n:Int) (h:0≤n∧n≤4611686018427387903):∀ x∈numB n,0≤x∧x<256:=by
 unfold numB
 split
 ·intro x hx;simp at hx;omega
 ·split
  ·intro x hx;simp at hx;rcases hx with rfl|rfl <;> omega
  ·split
   ·intro x hx;simp at hx;rcases hx with rfl|rfl|rfl|rfl <;> omega
   ·intro x hx;simp at hx;rcases hx with rfl|rfl|rfl|rfl|rfl|rfl|rfl|rfl <;> omega
theorem numB_length (n:Int):(numB n).length≤8∧1≤(numB n).length:=by
 unfold numB
 repeat' split
 all_goals simp
def wrR (g:Nat) (out:List Int) (bad:Bool):Res:=exR (fun(p:Option Addr × Nat)=>[fb g 188 [.one (.slice p.1 out.length p.2),.one (.bool bad)],rowR 5 1 p.1 out.length p.2 (byts out)])
section
variable {H:Hp} {w0 w:World} {L R:List Res} {g:Nat} {out:List Int} {bad:Bool}
theorem Mem.wr (h:Mem H w0 (wrR g out bad::L) w):∃ A c,Mem H w0 (fb g 188 [.one (.slice A out.length c),.one (.bool bad)]::rowR 5 1 A out.length c (byts out)::L) w:=by
 obtain⟨p,h⟩:=h.unex
 exact⟨p.1,p.2,h⟩
theorem Mem.unwr {A:Option Addr} {n c:Nat} (h:Mem H w0 (fb g 188 [.one (.slice A n c),.one (.bool bad)]::rowR 5 1 A n c (byts out)::L) w) (hn:n=out.length):Mem H w0 (wrR g out bad::L) w:=by
 subst hn
 exact Mem.toex (R:=fun(p:Option Addr × Nat)=>[fb g 188 [.one (.slice p.1 out.length p.2),.one (.bool bad)],rowR 5 1 p.1 out.length p.2 (byts out)]) (A,c) h
theorem wnew_ok (hM:Mem H w0 L w):Calls Tryz.prog 93 #[] w fun en w'=>∃ v,en=.returned v∧∃ g,v=.pointer (some ⟨g,0,none⟩)∧Mem H w0 (wrR g [] false::L) w':=by
 refine C_wire_New ?_
 unfold F_wire_New
 (((refine mop_c trivial ?_;refine mm_box hM ?_;clear hM;intro _ _ hM)))
 rename_i g _
 have hM:Mem H w0 (fb g 188 [.one (.slice none 0 0),.one (.bool false)]::rowR 5 1 none 0 0 (byts [])::L) _:=(hM.row0 5 1).perm (.swap ..)
 exact⟨_,rfl,g,rfl,Mem.unwr hM rfl⟩
theorem whash_ok (h:H32) (hb:out.length<1000000000) (hM:Mem H w0 (wrR g out bad::L) w):Calls Tryz.prog 149 #[.pointer (some ⟨g,0,none⟩),ha h] w fun en w'=>∃ v,en=.returned v∧v=.tuple #[]∧Mem H w0 (wrR g (out++h.1) bad::L) w':=by
 refine C_wire_Writer_Hash ?_
 unfold F_wire_Writer_Hash
 obtain⟨A,c,hM⟩:=hM.wr
 (((refine mm_box hM ?_;clear hM;intro _ _ hM;refine mop_c trivial ?_;refine mif_true ?_;refine dp_c trivial ?_;refine dp_c trivial ?_;refine dm_ld hM ?_;refine dp_c trivial ?_;refine df_no hM ?_;clear hM;intro _ hM)))
 refine mm_appb hM (by omega) (fun A' c' w4 hM=>?_)
 (((refine dp_c trivial ?_;refine dp_c trivial ?_;refine dS_st hM ?_;clear hM;intro _ hM;refine mm_end hM ?_;clear hM;intro _ hM)))
 exact⟨_,rfl,rfl,Mem.unwr ((hM.upB g).sub:Mem H w0 (fb g 188 [.one (.slice A' (out.length+32) c'),.one (.bool bad)]::rowR 5 1 A' (out.length+32) c' (byts (out++h.1))::L) _) (by simp[h.2.1])⟩
theorem bounds_ok (w:World):Calls Tryz.prog 130 #[] w fun en w'=>en=.returned (.agg #[.int .i64 64,.int .i64 16384,.int .i64 1073741824,.int .i64 4611686018427387903])∧St w [] w':=by
 have hM:=Mem.start (Fz.of w)
 refine C_wire_bounds ?_
 unfold F_wire_bounds
 (((refine mm_new hM ?_;clear hM;intro _ _ hM;refine mop_c trivial ?_;refine mm_st hM ?_;clear hM;intro _ hM;refine rm_ld hM ?_)))
 exact⟨rfl,hM.st⟩
instance:PurC Tryz.prog 130 [] True (.agg #[.int .i64 64,.int .i64 16384,.int .i64 1073741824,.int .i64 4611686018427387903]):=⟨fun _ w=>bounds_ok w⟩
def kindN (n:Int):Int:=if n<64 then 0 else if n<16384 then 1 else if n<1073741824 then 2 else 3
theorem numB_cases (n:Int):(n<64∧kindN n=0∧numB n=[n])∨(64≤n∧n<16384∧kindN n=1∧numB n=[64+n / 256,n%256]) ∨
  (16384≤n∧n<1073741824∧kindN n=2∧numB n=[128+n / 16777216,n / 65536%256,n / 256%256,n%256]) ∨
  (1073741824≤n∧kindN n=3∧numB n=[192+n / 72057594037927936,n / 281474976710656%256,n / 1099511627776%256,n / 4294967296%256,n / 16777216%256,n / 65536%256,n / 256%256,n%256]):=by
 unfold kindN numB
 by_cases h1:n<64
 ·exact .inl ⟨h1,if_pos h1,if_pos h1⟩
 ·by_cases h2:n<16384
  ·exact .inr (.inl ⟨by omega,h2,by rw[if_neg h1,if_pos h2],by rw[if_neg h1,if_pos h2]⟩)
  ·by_cases h3:n<1073741824
   ·exact .inr (.inr (.inl ⟨by omega,h3,by rw[if_neg h1,if_neg h2,if_pos h3],by rw[if_neg h1,if_neg h2,if_pos h3]⟩))
   ·exact .inr (.inr (.inr ⟨by omega,by rw[if_neg h1,if_neg h2,if_neg h3],by rw[if_neg h1,if_neg h2,if_neg h3]⟩))
theorem numB_len (n:Int):((numB n).length:Int)=1*2 ^ (kindN n).toNat:=by
 rcases numB_cases n with ⟨_,h2,h3⟩|⟨_,_,h2,h3⟩|⟨_,_,h2,h3⟩|⟨_,h2,h3⟩ <;> (rw[h2,h3];rfl)
theorem or64 (a k:Int) (ha:0≤a∧a<64) (hk:0≤k∧k≤3):bits .or .u8 a (k*64)=a+k*64:=by
 have key:∀ x:Fin 64,∀ y:Fin 4,bits .or .u8 (x.val:Int) ((y.val:Int)*64)=(x.val:Int)+(y.val:Int)*64:=by decide +kernel
 have:=key ⟨a.toNat,by omega⟩ ⟨k.toNat,by omega⟩
 simp only[Int.toNat_of_nonneg ha.1,Int.toNat_of_nonneg hk.1]at this
 exact this
theorem numB_head (n:Int) (h:0≤n∧n≤4611686018427387903):0≤(numB n).getD 0 0 - kindN n*64∧(numB n).getD 0 0 - kindN n*64<64∧0≤kindN n∧kindN n≤3:=by
 rcases numB_cases n with ⟨_,h2,h3⟩|⟨_,_,h2,h3⟩|⟨_,_,h2,h3⟩|⟨_,h2,h3⟩ <;> (rw[h2,h3];simp;omega)
theorem byteAt (n:Int) (h:0≤n∧n≤4611686018427387903) (i:Nat) (hi:i<(numB n).length):
  n / 2 ^ (8*(((numB n).length:Int) - 1 - i)).toNat%256=if i=0 then (numB n).getD 0 0 - kindN n*64 else (numB n).getD i 0:=by
 rcases numB_cases n with ⟨h1,h2,h3⟩|⟨h1,h0,h2,h3⟩|⟨h1,h0,h2,h3⟩|⟨h1,h2,h3⟩ <;> rw[h3]at hi ⊢ <;> rw[h2]
 ·obtain rfl:i=0:=by simp at hi;omega
  simp
  omega
 ·obtain rfl|rfl:i=0∨i=1:=by simp at hi;omega
  all_goals simp
  all_goals omega
 ·obtain rfl|rfl|rfl|rfl:i=0∨i=1∨i=2∨i=3:=by simp at hi;omega
  all_goals simp
  all_goals omega
 ·obtain rfl|rfl|rfl|rfl|rfl|rfl|rfl|rfl:i=0∨i=1∨i=2∨i=3∨i=4∨i=5∨i=6∨i=7:=by simp at hi;omega
  all_goals simp
  all_goals omega
theorem byts_snoc {out:List Int} (l:List Int) (i:Nat) (h:i<l.length):byts (out++l.take i)++[[.one (.int .u8 (l.getD i 0))]]=byts (out++l.take (i+1)):=by
 have e:out++l.take (i+1)=(out++l.take i)++[l.getD i 0]:=by
  rw[List.take_succ_eq_append_getElem h,← List.append_assoc,List.getD_eq_getElem?_getD,List.getElem?_eq_getElem h]
  rfl
 rw[e,byts_app (out++l.take i)]
 rfl
theorem wnum_ok (n:Int) (h:0≤n∧n≤4611686018427387903) (hb:out.length<1000000000) (hM:Mem H w0 (wrR g out bad::L) w):Calls Tryz.prog 94 #[.pointer (some ⟨g,0,none⟩),.int .i64 n] w fun en w'=>∃ v,en=.returned v∧v=.tuple #[]∧Mem H w0 (wrR g (out++numB n) bad::L) w':=by
 refine C_wire_Writer_Num ?_
 unfold F_wire_Writer_Num
 (((refine mop_c trivial ?_;refine mif_false ?_)))
 refine⟨fun x w'=>x=.bool false∧hM.now w',?_,?_⟩
 ·(((refine mop_cF trivial ?_ ?_));(focus (first|assumption|omega|with_reducible rfl|exact fun h=>Bool.noConfusion h));((refine mguard_yes ?_;refine mop_c trivial ?_;refine mguard_yes ?_;refine mop_cF trivial ?_ ?_));(focus (first|assumption|omega|with_reducible rfl|exact fun h=>Bool.noConfusion h));((refine mop_c trivial ?_)))
  exact⟨rfl,hM⟩
 rintro x u w1 ⟨rfl,hM⟩
 (((refine mif_false ?_)))
 refine⟨fun x w'=>∃ k:Nat,x=.int .i64 k∧k≤3∧(1≤k→64≤n)∧(2≤k→16384≤n)∧(3≤k→1073741824≤n)∧hM.now w',fun x _=>match x with | .int _ i=>3 - i.toNat|_=>0,⟨0,rfl,by omega,by omega,by omega,by omega,hM⟩,?_⟩
 rintro x u w2 ⟨k,rfl,hk,h1,h2,h3,hM⟩
 have hlen:=numB_length n
 refine⟨fun w'=>k<3∧(k=0→64≤n)∧(k=1→16384≤n)∧(k=2→1073741824≤n)∧hM.now w',?_,?_⟩
 ·obtain rfl|rfl|rfl|rfl:k=0∨k=1∨k=2∨k=3:=by omega
  ·have e0:(((0:Nat):Int))=0:=rfl
   simp only[e0]
   (((refine mop_cT trivial ?_ ?_));(focus (first|assumption|omega|with_reducible rfl|exact fun h=>Bool.noConfusion h));((refine mguard_yes ?_;refine mop_c trivial ?_;refine mguard_yes ?_;refine mm_purC hM ?_ (fun _ hM2=>?_)));(focus (first|exact trivial|assumption|omega));((replace hM:=hM2;clear hM2;refine mguard_yes ?_;refine mop_c trivial ?_;refine mguard_yes ?_)))
   refine mop_pur (v:=.int .i64 64) (fun w=>by kernel_rfl) ?_
   (((refine mguard_yes ?_)))
   (((refine mop_cS trivial ?_ ?_)))
   ·intro hn
    (((refine mop_c trivial ?_;refine mif_true ?_)))
    exact⟨by omega,by omega,by omega,by omega,hM⟩
   ·intro hn
    (((refine mop_c trivial ?_;refine mif_false ?_)))
    have hkn:(0:Int)=kindN n:=by
     unfold kindN
     simp at h1 h2 h3
     repeat' split
     all_goals omega
    refine mop_pur (p_shl _ _ _ _ _ _ (by omega) (by simp[IntKind.bits])) ?_
    have hL:IntKind.i64.wrap (1*2 ^ (0:Int).toNat)=((numB n).length:Int):=by
     rw[numB_len,← hkn]
     rfl
    rw[hL]
    refine⟨fun x w'=>∃ i:Nat,x=.int .i64 i∧i≤(numB n).length∧Mem H w0 (wrR g (out++(numB n).take i) bad::L) w',fun x _=>match x with | .int _ i=>(numB n).length - i.toNat|_=>0,⟨0,rfl,by omega,by simpa using hM⟩,?_⟩
    clear hM
    rintro x u w4 ⟨i,rfl,hi,hM⟩
    skip
    (((refine mop_cS trivial ?_ ?_)))
    ·intro hlt
     have hlt':i<(numB n).length:=by omega
     have hby:=byteAt n h i hlt'
     have hhd:=numB_head n h
     (((refine mif_true ?_;refine mop_c ?_ ?_));(focus omega);((refine mop_c ?_ ?_));(focus omega);((refine mop_c ?_ ?_));(focus omega);((refine mop_c ?_ ?_));(focus omega);((refine mop_c trivial ?_)))
     rw[hby]
     refine⟨fun x w'=>x=.int .u8 ((numB n).getD i 0)∧hM.now w',?_,?_⟩
     ·skip
      (((refine mop_cS trivial ?_ ?_)))
      ·intro h0
       obtain rfl:i=0:=by omega
       (((refine mif_true ?_)))
       refine mop_pur (p_shl _ _ _ _ _ _ (by omega) (by simp[IntKind.bits])) ?_
       have h6:IntKind.i64.wrap ((0:Int)*2 ^ (6:Int).toNat)=kindN n*64:=by
        rw[← hkn]
        rfl
       rw[h6]
       (((refine mop_c trivial ?_;refine mop_c trivial ?_)))
       refine⟨?_,hM⟩
       rw[if_pos rfl,Int.emod_eq_of_lt (by omega) (by omega),or64 _ _ (by omega) (by omega)]
       congr 1
       omega
      ·intro h0
       (((refine mif_false ?_)))
       exact⟨by rw[if_neg (by omega)],hM⟩
     ·rintro x u w5 ⟨rfl,hM⟩
      obtain⟨A,c,hM⟩:=hM.wr
      have hol:(out++(numB n).take i).length≤out.length+8:=by rw[List.length_append,List.length_take];omega
      (((refine mop_c trivial ?_;refine mop_c trivial ?_;refine mm_ld hM ?_;refine mm_bsl hM ?_ ?_ ?_));(focus rfl);(focus (constructor <;> simp));((clear hM;intro _ _ hM;refine mm_appo hM ?_ ?_));(focus omega);((clear hM;intro _ _ _ hM;refine mop_c trivial ?_;refine mop_c trivial ?_;refine mm_st hM ?_;clear hM;intro _ hM;refine mop_c ?_ ?_));(focus omega))
      rw[byts_snoc _ _ hlt']at hM
      have hl2:(out++(numB n).take i).length+1=(out++(numB n).take (i+1)).length:=by
       rw[List.length_append,List.length_append,List.length_take,List.length_take];omega
      have hM2:=Mem.unwr (hM.upB g) hl2
      refine⟨⟨i+1,by rw[Int.natCast_add];rfl,by omega,hM2⟩,?_⟩
      show(numB n).length - ((i:Int)+1).toNat<(numB n).length - (i:Int).toNat
      omega
    ·intro hge
     (((refine mif_false ?_)))
     rw[List.take_of_length_le (by omega)]at hM
     exact⟨_,rfl,rfl,hM⟩
  ·have e0:(((1:Nat):Int))=1:=rfl
   simp only[e0]
   (((refine mop_cT trivial ?_ ?_));(focus (first|assumption|omega|with_reducible rfl|exact fun h=>Bool.noConfusion h));((refine mguard_yes ?_;refine mop_c trivial ?_;refine mguard_yes ?_;refine mm_purC hM ?_ (fun _ hM2=>?_)));(focus (first|exact trivial|assumption|omega));((replace hM:=hM2;clear hM2;refine mguard_yes ?_;refine mop_c trivial ?_;refine mguard_yes ?_)))
   refine mop_pur (v:=.int .i64 16384) (fun w=>by kernel_rfl) ?_
   (((refine mguard_yes ?_)))
   (((refine mop_cS trivial ?_ ?_)))
   ·intro hn
    (((refine mop_c trivial ?_;refine mif_true ?_)))
    exact⟨by omega,by omega,by omega,by omega,hM⟩
   ·intro hn
    (((refine mop_c trivial ?_;refine mif_false ?_)))
    have hkn:(1:Int)=kindN n:=by
     unfold kindN
     simp at h1 h2 h3
     repeat' split
     all_goals omega
    refine mop_pur (p_shl _ _ _ _ _ _ (by omega) (by simp[IntKind.bits])) ?_
    have hL:IntKind.i64.wrap (1*2 ^ (1:Int).toNat)=((numB n).length:Int):=by
     rw[numB_len,← hkn]
     rfl
    rw[hL]
    refine⟨fun x w'=>∃ i:Nat,x=.int .i64 i∧i≤(numB n).length∧Mem H w0 (wrR g (out++(numB n).take i) bad::L) w',fun x _=>match x with | .int _ i=>(numB n).length - i.toNat|_=>0,⟨0,rfl,by omega,by simpa using hM⟩,?_⟩
    clear hM
    rintro x u w4 ⟨i,rfl,hi,hM⟩
    skip
    (((refine mop_cS trivial ?_ ?_)))
    ·intro hlt
     have hlt':i<(numB n).length:=by omega
     have hby:=byteAt n h i hlt'
     have hhd:=numB_head n h
     (((refine mif_true ?_;refine mop_c ?_ ?_));(focus omega);((refine mop_c ?_ ?_));(focus omega);((refine mop_c ?_ ?_));(focus omega);((refine mop_c ?_ ?_));(focus omega);((refine mop_c trivial ?_)))
     rw[hby]
     refine⟨fun x w'=>x=.int .u8 ((numB n).getD i 0)∧hM.now w',?_,?_⟩
     ·skip
      (((refine mop_cS trivial ?_ ?_)))
      ·intro h0
       obtain rfl:i=0:=by omega
       (((refine mif_true ?_)))
       refine mop_pur (p_shl _ _ _ _ _ _ (by omega) (by simp[IntKind.bits])) ?_
       have h6:IntKind.i64.wrap ((1:Int)*2 ^ (6:Int).toNat)=kindN n*64:=by
        rw[← hkn]
        rfl
       rw[h6]
       (((refine mop_c trivial ?_;refine mop_c trivial ?_)))
       refine⟨?_,hM⟩
       rw[if_pos rfl,Int.emod_eq_of_lt (by omega) (by omega),or64 _ _ (by omega) (by omega)]
       congr 1
       omega
      ·intro h0
       (((refine mif_false ?_)))
       exact⟨by rw[if_neg (by omega)],hM⟩
     ·rintro x u w5 ⟨rfl,hM⟩
      obtain⟨A,c,hM⟩:=hM.wr
      have hol:(out++(numB n).take i).length≤out.length+8:=by rw[List.length_append,List.length_take];omega
      (((refine mop_c trivial ?_;refine mop_c trivial ?_;refine mm_ld hM ?_;refine mm_bsl hM ?_ ?_ ?_));(focus rfl);(focus (constructor <;> simp));((clear hM;intro _ _ hM;refine mm_appo hM ?_ ?_));(focus omega);((clear hM;intro _ _ _ hM;refine mop_c trivial ?_;refine mop_c trivial ?_;refine mm_st hM ?_;clear hM;intro _ hM;refine mop_c ?_ ?_));(focus omega))
      rw[byts_snoc _ _ hlt']at hM
      have hl2:(out++(numB n).take i).length+1=(out++(numB n).take (i+1)).length:=by
       rw[List.length_append,List.length_append,List.length_take,List.length_take];omega
      have hM2:=Mem.unwr (hM.upB g) hl2
      refine⟨⟨i+1,by rw[Int.natCast_add];rfl,by omega,hM2⟩,?_⟩
      show(numB n).length - ((i:Int)+1).toNat<(numB n).length - (i:Int).toNat
      omega
    ·intro hge
     (((refine mif_false ?_)))
     rw[List.take_of_length_le (by omega)]at hM
     exact⟨_,rfl,rfl,hM⟩
  ·have e0:(((2:Nat):Int))=2:=rfl
   simp only[e0]
   (((refine mop_cT trivial ?_ ?_));(focus (first|assumption|omega|with_reducible rfl|exact fun h=>Bool.noConfusion h));((refine mguard_yes ?_;refine mop_c trivial ?_;refine mguard_yes ?_;refine mm_purC hM ?_ (fun _ hM2=>?_)));(focus (first|exact trivial|assumption|omega));((replace hM:=hM2;clear hM2;refine mguard_yes ?_;refine mop_c trivial ?_;refine mguard_yes ?_)))
   refine mop_pur (v:=.int .i64 1073741824) (fun w=>by kernel_rfl) ?_
   (((refine mguard_yes ?_)))
   (((refine mop_cS trivial ?_ ?_)))
   ·intro hn
    (((refine mop_c trivial ?_;refine mif_true ?_)))
    exact⟨by omega,by omega,by omega,by omega,hM⟩
   ·intro hn
    (((refine mop_c trivial ?_;refine mif_false ?_)))
    have hkn:(2:Int)=kindN n:=by
     unfold kindN
     simp at h1 h2 h3
     repeat' split
     all_goals omega
    refine mop_pur (p_shl _ _ _ _ _ _ (by omega) (by simp[IntKind.bits])) ?_
    have hL:IntKind.i64.wrap (1*2 ^ (2:Int).toNat)=((numB n).length:Int):=by
     rw[numB_len,← hkn]
     rfl
    rw[hL]
    refine⟨fun x w'=>∃ i:Nat,x=.int .i64 i∧i≤(numB n).length∧Mem H w0 (wrR g (out++(numB n).take i) bad::L) w',fun x _=>match x with | .int _ i=>(numB n).length - i.toNat|_=>0,⟨0,rfl,by omega,by simpa using hM⟩,?_⟩
    clear hM
    rintro x u w4 ⟨i,rfl,hi,hM⟩
    skip
    (((refine mop_cS trivial ?_ ?_)))
    ·intro hlt
     have hlt':i<(numB n).length:=by omega
     have hby:=byteAt n h i hlt'
     have hhd:=numB_head n h
     (((refine mif_true ?_;refine mop_c ?_ ?_));(focus omega);((refine mop_c ?_ ?_));(focus omega);((refine mop_c ?_ ?_));(focus omega);((refine mop_c ?_ ?_));(focus omega);((refine mop_c trivial ?_)))
     rw[hby]
     refine⟨fun x w'=>x=.int .u8 ((numB n).getD i 0)∧hM.now w',?_,?_⟩
     ·skip
      (((refine mop_cS trivial ?_ ?_)))
      ·intro h0
       obtain rfl:i=0:=by omega
       (((refine mif_true ?_)))
       refine mop_pur (p_shl _ _ _ _ _ _ (by omega) (by simp[IntKind.bits])) ?_
       have h6:IntKind.i64.wrap ((2:Int)*2 ^ (6:Int).toNat)=kindN n*64:=by
        rw[← hkn]
        rfl
       rw[h6]
       (((refine mop_c trivial ?_;refine mop_c trivial ?_)))
       refine⟨?_,hM⟩
       rw[if_pos rfl,Int.emod_eq_of_lt (by omega) (by omega),or64 _ _ (by omega) (by omega)]
       congr 1
       omega
      ·intro h0
       (((refine mif_false ?_)))
       exact⟨by rw[if_neg (by omega)],hM⟩
     ·rintro x u w5 ⟨rfl,hM⟩
      obtain⟨A,c,hM⟩:=hM.wr
      have hol:(out++(numB n).take i).length≤out.length+8:=by rw[List.length_append,List.length_take];omega
      (((refine mop_c trivial ?_;refine mop_c trivial ?_;refine mm_ld hM ?_;refine mm_bsl hM ?_ ?_ ?_));(focus rfl);(focus (constructor <;> simp));((clear hM;intro _ _ hM;refine mm_appo hM ?_ ?_));(focus omega);((clear hM;intro _ _ _ hM;refine mop_c trivial ?_;refine mop_c trivial ?_;refine mm_st hM ?_;clear hM;intro _ hM;refine mop_c ?_ ?_));(focus omega))
      rw[byts_snoc _ _ hlt']at hM
      have hl2:(out++(numB n).take i).length+1=(out++(numB n).take (i+1)).length:=by
       rw[List.length_append,List.length_append,List.length_take,List.length_take];omega
      have hM2:=Mem.unwr (hM.upB g) hl2
      refine⟨⟨i+1,by rw[Int.natCast_add];rfl,by omega,hM2⟩,?_⟩
      show(numB n).length - ((i:Int)+1).toNat<(numB n).length - (i:Int).toNat
      omega
    ·intro hge
     (((refine mif_false ?_)))
     rw[List.take_of_length_le (by omega)]at hM
     exact⟨_,rfl,rfl,hM⟩
  ·have e0:(((3:Nat):Int))=3:=rfl
   simp only[e0]
   (((refine mop_cF trivial ?_ ?_));(focus (first|assumption|omega|with_reducible rfl|exact fun h=>Bool.noConfusion h));(((iterate 5 refine mguard_n2 ?_);refine mop_c trivial ?_;refine mif_false ?_)))
   ·have hkn:(3:Int)=kindN n:=by
     unfold kindN
     simp at h1 h2 h3
     repeat' split
     all_goals omega
    refine mop_pur (p_shl _ _ _ _ _ _ (by omega) (by simp[IntKind.bits])) ?_
    have hL:IntKind.i64.wrap (1*2 ^ (3:Int).toNat)=((numB n).length:Int):=by
     rw[numB_len,← hkn]
     rfl
    rw[hL]
    refine⟨fun x w'=>∃ i:Nat,x=.int .i64 i∧i≤(numB n).length∧Mem H w0 (wrR g (out++(numB n).take i) bad::L) w',fun x _=>match x with | .int _ i=>(numB n).length - i.toNat|_=>0,⟨0,rfl,by omega,by simpa using hM⟩,?_⟩
    clear hM
    rintro x u w4 ⟨i,rfl,hi,hM⟩
    skip
    (((refine mop_cS trivial ?_ ?_)))
    ·intro hlt
     have hlt':i<(numB n).length:=by omega
     have hby:=byteAt n h i hlt'
     have hhd:=numB_head n h
     (((refine mif_true ?_;refine mop_c ?_ ?_));(focus omega);((refine mop_c ?_ ?_));(focus omega);((refine mop_c ?_ ?_));(focus omega);((refine mop_c ?_ ?_));(focus omega);((refine mop_c trivial ?_)))
     rw[hby]
     refine⟨fun x w'=>x=.int .u8 ((numB n).getD i 0)∧hM.now w',?_,?_⟩
     ·skip
      (((refine mop_cS trivial ?_ ?_)))
      ·intro h0
       obtain rfl:i=0:=by omega
       (((refine mif_true ?_)))
       refine mop_pur (p_shl _ _ _ _ _ _ (by omega) (by simp[IntKind.bits])) ?_
       have h6:IntKind.i64.wrap ((3:Int)*2 ^ (6:Int).toNat)=kindN n*64:=by
        rw[← hkn]
        rfl
       rw[h6]
       (((refine mop_c trivial ?_;refine mop_c trivial ?_)))
       refine⟨?_,hM⟩
       rw[if_pos rfl,Int.emod_eq_of_lt (by omega) (by omega),or64 _ _ (by omega) (by omega)]
       congr 1
       omega
      ·intro h0
       (((refine mif_false ?_)))
       exact⟨by rw[if_neg (by omega)],hM⟩
     ·rintro x u w5 ⟨rfl,hM⟩
      obtain⟨A,c,hM⟩:=hM.wr
      have hol:(out++(numB n).take i).length≤out.length+8:=by rw[List.length_append,List.length_take];omega
      (((refine mop_c trivial ?_;refine mop_c trivial ?_;refine mm_ld hM ?_;refine mm_bsl hM ?_ ?_ ?_));(focus rfl);(focus (constructor <;> simp));((clear hM;intro _ _ hM;refine mm_appo hM ?_ ?_));(focus omega);((clear hM;intro _ _ _ hM;refine mop_c trivial ?_;refine mop_c trivial ?_;refine mm_st hM ?_;clear hM;intro _ hM;refine mop_c ?_ ?_));(focus omega))
      rw[byts_snoc _ _ hlt']at hM
      have hl2:(out++(numB n).take i).length+1=(out++(numB n).take (i+1)).length:=by
       rw[List.length_append,List.length_append,List.length_take,List.length_take];omega
      have hM2:=Mem.unwr (hM.upB g) hl2
      refine⟨⟨i+1,by rw[Int.natCast_add];rfl,by omega,hM2⟩,?_⟩
      show(numB n).length - ((i:Int)+1).toNat<(numB n).length - (i:Int).toNat
      omega
    ·intro hge
     (((refine mif_false ?_)))
     rw[List.take_of_length_le (by omega)]at hM
     exact⟨_,rfl,rfl,hM⟩
 ·rintro u w3 ⟨hk3,g1,g2,g3,hM⟩
  (((refine mop_c ?_ ?_));(focus omega))
  exact⟨⟨k+1,by simp,by omega,fun _=>by omega,fun _=>by omega,fun _=>by omega,hM⟩,by simp;omega⟩
theorem wend_ok (hM:Mem H w0 (wrR g out false::L) w):Calls Tryz.prog 95 #[.pointer (some ⟨g,0,none⟩)] w fun en w'=>en=.returned (.tuple #[.string (strOfNums out),.int .i64 0])∧St w [] w':=by
 refine C_wire_Writer_End ?_
 unfold F_wire_Writer_End
 obtain⟨A,c,hM⟩:=hM.wr
 refine⟨fun x w'=>x=.bool false∧w=w',?_,?_⟩
 ·(((refine mop_c trivial ?_;refine mguard_yes ?_;refine mop_c trivial ?_;refine mguard_yes ?_;refine mop_c trivial ?_;refine mguard_yes ?_;refine mop_c trivial ?_;refine mguard_yes ?_;refine mm_ld hM ?_;refine mop_c trivial ?_)))
  exact⟨rfl,rfl⟩
 rintro x u w2 ⟨rfl,rfl⟩
 (((refine mif_false ?_;refine mop_c trivial ?_;refine mop_c trivial ?_;refine mm_ld hM ?_)))
 refine mm_cvr hM (Nat.le_refl _) ?_
 rw[List.take_length]
 exact⟨rfl,St.nil w⟩
end
end Go.Proofs.YtpjodlnlmaaihaaGreat
namespace Go.Proofs.YtpjodlnlmaaihaaGreat
open Go.RowKit
section
variable {P:Program} {H:Hp} {w0 w:World} {L:List Res} {g n:Nat} {t t':TypeId} {fs:List Fd} {put:Res→List Res} {v:Value} {K:Value→World→Prop} {X:List PanicEntry→World→Prop}
theorem SubA.set {o j:Nat} {ls:List Value} {putA:List Value→List Fd} (s:SubA fs o n ls putA) (hf:FOk fs) (hj:j<n) (hv:v.oneCell'=true):FOk (putA (ls.set j v))∧lay (fl fs) [v] (o+j)=fl (putA (ls.set j v))∧o+j+1≤(fl fs).length:=by
 obtain⟨a,b,rfl,rfl,h3⟩:=s.ok
 have hls:FdOk (.arr n ls):=hf.ok _ (by simp)
 have hl:ls.length=n:=hls.len
 have ha:=hf.left.left.len
 refine⟨?_,?_,?_⟩
 ·rw[h3]
  refine(hf.left.left.app ⟨fun f hm=>?_⟩).app hf.right
  rw[List.mem_singleton.1 hm]
  refine⟨by simpa [Fd.cells,Fd.size] using hl,fun u hu=>?_⟩
  rcases List.mem_or_eq_of_mem_set hu with hu|rfl
  ·exact hls.one u hu
  ·exact hv
 ·rw[h3]
  unfold lay
  have e1:fl (a++[.arr n ls]++b)=fl a++(ls++fl b):=by simp[fl_append,fl,Fd.cells]
  have e2:fl (a++[.arr n (ls.set j v)]++b)=fl a++(ls.set j v++fl b):=by simp[fl_append,fl,Fd.cells]
  rw[e1,e2,← ha,List.take_length_add_append,List.take_append_of_le_length (by omega),List.length_singleton,Nat.add_assoc,List.drop_length_add_append,List.drop_append_of_le_length (by omega)]
  rw[List.set_eq_take_append_cons_drop,if_pos (by omega)]
  simp
 ·simp[fl_append,fl,Fd.cells]
  omega
theorem run_msta {o j:Nat} {ls:List Value} {putA:List Value→List Fd} (h:Mem H w0 L w) (cc:ShpC P t false 1) (k:AtB L g t' fs put) (s:SubA fs o n ls putA) (hv:One v) (hj:j<n):∃ w',(o_store t (.pointer (some ⟨g,o+j,none⟩)) v).run P w=.ok .skip w'∧Mem H w0 (put (fb g t' (putA (ls.set j v)))) w':=by
 obtain⟨hb,hf⟩:=h.blf k
 obtain⟨h1,h2,h3⟩:=s.set hf hj hv.ok
 have hl:(fl (putA (ls.set j v))).length=(fl fs).length:=by rw[← h2];exact lay_length _ _ _ (by simpa using h3)
 have hst:=run_storeCells_blf (P:=P) (o+j) [v] 0 (fl fs) w hb (by simpa using h3) (fun u hu=>by rw[List.mem_singleton.1 hu];exact hv.ok)
 refine⟨_,?_,h.setRow k h1 hl⟩
 simp only[Nat.add_zero,h2]at hst
 have e:v.cells.toList=[v]:=by have:=hv.ok;cases v <;> simp_all [Value.cells,Value.oneCell']
 have e2:v.cells.size=1:=by rw[← Array.length_toList,e];rfl
 simp[o_store,su,Instr.storeAt,Instr.sureAddr,storeVar,run_size (shp_agg (w:=w) cc.ok).2,e,hst,e2]
theorem mm_sta {o j:Nat} {ls:List Value} {putA:List Value→List Fd} (h:Mem H w0 L w) [cc:ShpC P t false 1] [k:AtB L g t' fs put] [s:SubA fs o n ls putA] [hv:One v] (hj:j<n) (hk:∀ w',Mem H w0 (put (fb g t' (putA (ls.set j v)))) w'→K undef w'):mop P (o_store t (.pointer (some ⟨g,o+j,none⟩)) v) w K X:=by
 obtain⟨w',h1,h2⟩:=run_msta h cc k s hv hj
 exact mop_skip h1 (hk w' h2)
theorem dm_sta {o j:Nat} {ls:List Value} {putA:List Value→List Fd} (h:Mem H w0 L w) [cc:ShpC P t false 1] [k:AtB L g t' fs put] [s:SubA fs o n ls putA] [hv:One v] (hj:j<n) (hk:∀ w',Mem H w0 (put (fb g t' (putA (ls.set j v)))) w'→K undef w'):df P w (o_store t (.pointer (some ⟨g,o+j,none⟩)) v) false K:=
 df_mop fun w1 hd=>mm_sta (h.drawn hd) hj fun w' h'=>⟨(fun e=>by cases e),hk w' h'⟩
theorem mm_ldj {o j:Nat} {ls:List Value} {putA:List Value→List Fd} (h:Mem H w0 L w) [cc:ShpC P t false 1] [k:AtB L g t' fs put] [s:SubA fs o n ls putA] (hv:ls[j]?=some v) (hk:K v w):mop P (o_load t (.pointer (some ⟨g,o+j,none⟩))) w K X:=mm_lda h hv hk
end
end Go.Proofs.YtpjodlnlmaaihaaGreat
namespace Go.Proofs.YtpjodlnlmaaihaaGreat
open Go.RowKit
theorem mif_nt {F G:Prop} (h:G):mif (.bool (!true)) F G:=mif_false h
theorem mif_nf {F G:Prop} (h:F):mif (.bool (!false)) F G:=mif_true h
section
variable {H:Hp} {w0 w:World} {L:List Res}
theorem dS_stX {P:Program} {t tt:TypeId} {q:Bool} {n i k:Nat} {v:Value} {fs gs fs':List Fd} {put:Res→List Res} {K:Value→World→Prop} (h:Mem H w0 L w) [c:ShpC P t q n] [a:AtB L k tt fs put] [f:Vf v n gs] [p:Put fs i gs fs'] (hk:∀ w',Mem H w0 (put (fb k tt fs')) w'→K undef w'):
  dfS P (Rl.only fun b=>b=k) w (o_store t (.pointer (some ⟨k,i,none⟩)) v) true K:=⟨fun w1 hd=>by
 have h:=h.drawn hd
 obtain⟨w',h1,h2⟩:=run_mst h c a f p
 obtain⟨hb,hf⟩:=h.blf a
 obtain⟨e,hn,hg⟩:=f.ok
 obtain⟨_,k2,k3⟩:=p.cells hf hg
 have e2:v.cells.size=n:=by rw[← Array.length_toList,e,hg.len,hn]
 obtain⟨w2,h3,h4⟩:=run_storeN (P:=P) (i:=i) (v:=v) c.ok (St.oneF hb) e2 (by rw[e];exact hg.one) (by rw[hg.len,hn]at k3;exact k3)
 rw[h1]at h3
 cases h3
 exact mop_skip h1 ⟨fun _=>(hd.onlyS _).trans1 (h4.only.mono fun j _ ⟨b,hm,_,hj⟩=>by
  rw[List.mem_singleton]at hm
  subst hm
  exact hj.symm),hk w' h2⟩⟩
end
end Go.Proofs.YtpjodlnlmaaihaaGreat
namespace Go.Proofs.YtpjodlnlmaaihaaGreat
open Go.RowKit
theorem qguard_un {want:Bool} {run:(Value→Prop)→Prop} {K:Value→Prop} (h:K undef):qguard undef want run K:=qguard_no (by intro h;cases h) h
theorem mguard_un {want:Bool} {w:World} {run:(Value→World→Prop)→Prop} {K:Value→World→Prop} (h:K undef w):mguard undef want run w K:=mguard_no (by intro h;cases h) h
theorem lay_in (A X B Y:List Value) (o:Nat) (h:o+Y.length≤X.length):lay (A++(X++B)) Y (A.length+o)=A++(lay X Y o++B):=by
 unfold lay
 rw[List.take_length_add_append,Nat.add_assoc,List.drop_length_add_append,List.take_append_of_le_length (by omega),List.drop_append_of_le_length (by omega)]
 simp
section
variable {P:Program} {H:Hp} {w0 w:World} {L:List Res} {n cap e sz by_:Nat} {t:TypeId} {A:Option Addr} {ps:List (List Fd)} {X:List PanicEntry→World→Prop}
theorem Mem.setFld {R1:List Res} {g k off:Nat} {fs gs fs':List Fd} (h:Mem H w0 (rowR e sz (some ⟨g,0,none⟩) n cap ps::R1) w) (hk:ps[k]?=some fs) (hp:Put fs off gs fs') (hg:FOk gs):∃ w',(storeCells ⟨g,0+k*sz+off,none⟩ (fl gs) 0).run P w=.ok () w'∧Mem H w0 (rowR e sz (some ⟨g,0,none⟩) n cap (ps.set k fs')::R1) w':=by
 obtain⟨B,⟨B1,B2,rfl,⟨h1,h2,h3⟩,h4⟩,hs',hb⟩:=h.own
 obtain⟨hk',rfl⟩:=List.getElem?_eq_some_iff.1 hk
 rcases h3 with ⟨hA,h3,_⟩|⟨g',sp,hA,rfl,h5,h6⟩
 ·cases hA
 ·cases hA
  have hs':St w0 (⟨g,e,fls ps++sp,true⟩::B2) w:=hs'
  have hfl:(fls ps).length=n*sz:=by rw[h1.len,h2]
  obtain⟨hxo,hxs⟩:=h1.ok ps[k] (List.getElem_mem _)
  obtain⟨hf',hly,hle0⟩:=hp.cells hxo hg
  have hxl:(fl ps[k]).length=sz:=by rw[hxo.len,hxs]
  have hle:k*sz+sz≤n*sz:=by rw[← Nat.succ_mul];exact Nat.mul_le_mul_right _ (by omega)
  have hst:=run_storeCells_blf (P:=P) (0+k*sz+off) (fl gs) 0 (fls ps++sp) w hs'.head (by rw[List.length_append,hfl];omega) hg.one
  have ht:(fls (ps.take k)).length=k*sz:=by rw[(h1.take k).len,List.length_take,Nat.min_eq_left (by omega)]
  have hlay:lay (fls ps++sp) (fl gs) (0+k*sz+off+0)=fls (ps.set k fs')++sp:=by
   have e1:ps=ps.take k++ps[k]::ps.drop (k+1):=by rw[List.getElem_cons_drop,List.take_append_drop]
   rw[List.set_eq_take_append_cons_drop,if_pos hk']
   conv=>lhs;rw[e1]
   rw[show 0+k*sz+off+0=(fls (ps.take k)).length+off by rw[ht];omega,fls_app,fls_app,fls_cons,fls_cons,← hly,List.append_assoc,List.append_assoc,lay_in _ _ _ _ _ hle0]
   simp
  refine⟨_,hst,?_⟩
  rw[hlay]
  have hl2:(fls (ps.set k fs')++sp).length=(fls ps++sp).length:=by
   rw[← hlay]
   exact lay_length _ _ _ (by rw[List.length_append,hfl];omega)
  have hsz':fsz fs'=sz:=by
   have hh:=congrArg List.length hly
   rw[lay_length _ _ _ hle0,hxl,hf'.len]at hh
   omega
  have hels:Els sz (ps.set k fs'):=⟨fun q hq=>by
   rcases List.mem_or_eq_of_mem_set hq with hq|rfl
   ·exact h1.ok q hq
   ·exact⟨hf',hsz'⟩⟩
  have hgg:=hb ⟨g,e,fls ps++sp,true⟩ (by simp)
  refine⟨⟨⟨g,e,fls (ps.set k fs')++sp,true⟩::B2,⟨[⟨g,e,fls (ps.set k fs')++sp,true⟩],B2,rfl,⟨hels,by simpa using h2,.inr ⟨g,sp,rfl,rfl,by rw[hl2];exact h5,h6⟩⟩,h4⟩,hs'.setRow hl2,fun b hm=>?_⟩,h.fz.same fun b c hc=>setRow_other w g b _ ?_⟩
  ·rcases List.mem_cons.1 hm with rfl|hm
   ·exact⟨rfl,hgg.2⟩
   ·exact hb b (List.mem_append.2 (.inr hm))
  ·rintro rfl
   have:=hgg.2
   simp only[hc]at this
   cases this
theorem run_msf {R1:List Res} {g k off m:Nat} {tt:TypeId} {q:Bool} {v:Value} {fs gs fs':List Fd} (h:Mem H w0 L w) (c:ShpC P tt q m) (a:AtA L (some ⟨g,0,none⟩) n cap e sz ps R1) (hk:ps[k]?=some fs) (f:Vf v m gs) (p:Put fs off gs fs'):
  ∃ w',(o_store tt (.pointer (some ⟨g,0+k*sz+off,none⟩)) v).run P w=.ok .skip w'∧Mem H w0 (rowR e sz (some ⟨g,0,none⟩) n cap (ps.set k fs')::R1) w':=by
 obtain⟨ev,hn,hp⟩:=f.ok
 obtain⟨w',hr,hm⟩:=(h.perm a.perm).setFld (P:=P) hk p hp
 refine⟨w',?_,hm⟩
 have e2:v.cells.size=m:=by rw[← Array.length_toList,ev,hp.len,hn]
 simp[o_store,su,Instr.storeAt,Instr.sureAddr,storeVar,run_size (shp_agg (w:=w) c.ok).2,ev,e2]
 simp only[Nat.zero_add]at hr
 simp[hr]
theorem mm_stf {R1:List Res} {g k off m:Nat} {tt:TypeId} {q:Bool} {v:Value} {fs gs fs':List Fd} {K:Value→World→Prop} (h:Mem H w0 L w) [c:ShpC P tt q m] [a:AtA L (some ⟨g,0,none⟩) n cap e sz ps R1] (hk:ps[k]?=some fs) [f:Vf v m gs] [p:Put fs off gs fs']
  (hK:∀ w',Mem H w0 (rowR e sz (some ⟨g,0,none⟩) n cap (ps.set k fs')::R1) w'→K undef w'):mop P (o_store tt (.pointer (some ⟨g,0+k*sz+off,none⟩)) v) w K X:=by
 obtain⟨w',hr,hm⟩:=run_msf (P:=P) h c a hk f p
 exact mop_skip hr (hK w' hm)
theorem dm_stf {R1:List Res} {g k off m:Nat} {tt:TypeId} {q:Bool} {v:Value} {fs gs fs':List Fd} {K:Value→World→Prop} (h:Mem H w0 L w) [c:ShpC P tt q m] [a:AtA L (some ⟨g,0,none⟩) n cap e sz ps R1] (hk:ps[k]?=some fs) [f:Vf v m gs] [p:Put fs off gs fs']
  (hK:∀ w',Mem H w0 (rowR e sz (some ⟨g,0,none⟩) n cap (ps.set k fs')::R1) w'→K undef w'):df P w (o_store tt (.pointer (some ⟨g,0+k*sz+off,none⟩)) v) false K:=df_mop fun w1 hd=>mop_mono (mm_stf (X:=fun _ _=>False) (h.drawn hd) hk hK) (fun v w' h=>⟨(fun e=>by cases e),h⟩) (fun _ _ h=>h)
end
end Go.Proofs.YtpjodlnlmaaihaaGreat
namespace Go.Proofs.YtpjodlnlmaaihaaGreat
open Go.RowKit
theorem dp_cat {P:Program} {t:TypeId} {q:Bool} {K:Value→Prop} (a b:List Int) (h:a.length+b.length≤1000000000000) (hk:K (.string (strOfNums (a++b)))):dp P (o_bin .add t q (.string (strOfNums a)) (.string (strOfNums b))) K:=by
 refine dp_c (by rw[strOfNums_size,strOfNums_size];omega) ?_
 rw[strOfNums_append]
 exact hk
theorem mop_cat {P:Program} {t:TypeId} {q:Bool} {w:World} {K:Value→World→Prop} {X:List PanicEntry→World→Prop} (a b:List Int) (h:a.length+b.length≤1000000000000) (hk:K (.string (strOfNums (a++b))) w):mop P (o_bin .add t q (.string (strOfNums a)) (.string (strOfNums b))) w K X:=by
 refine mop_c (by rw[strOfNums_size,strOfNums_size];omega) ?_
 rw[strOfNums_append]
 exact hk
end Go.Proofs.YtpjodlnlmaaihaaGreat
namespace Go.Proofs.YtpjodlnlmaaihaaGreat
open Go.RowKit
def hmacH (k m:List Int):H32:=⟨hmac k m,hmac_length k m,hmac_range k m⟩
def streamL (key:List Int) (k:Nat):List Int:=((List.range k).map fun(i:Nat)=>hmac key (fourB (i:Int))).flatten
theorem streamL_length (key:List Int):∀ k,(streamL key k).length=32*k
 | 0=>rfl
 | k+1=>by
  have:=streamL_length key k
  simp only[streamL,List.range_succ,List.map_append,List.flatten_append,List.length_append]at this ⊢
  rw[this]
  simp[hmac_length]
  omega
theorem streamL_succ (key:List Int) (k:Nat):streamL key (k+1)=streamL key k++hmac key (fourB k):=by
 simp[streamL,List.range_succ]
theorem streamL_range (key:List Int) (k:Nat):∀ x∈streamL key k,0≤x∧x<256:=by
 intro x hx
 simp only[streamL,List.mem_flatten,List.mem_map]at hx
 obtain⟨_,⟨i,_,rfl⟩,hx⟩:=hx
 exact hmac_range _ _ x hx
def rowL (key:List Int) (n:Nat):List Int:=(streamL key (n / 32+1)).take n
theorem streamL_take (key:List Int) (k j:Nat) (h:k≤j):(streamL key j).take (32*k)=streamL key k:=by
 induction j with
 | zero=>
  have:k=0:=by omega
  subst this
  rfl
 | succ j ih=>
  rcases Nat.lt_or_ge j k with hlt|hge
  ·have:k=j+1:=by omega
   subst this
   rw[List.take_of_length_le (by rw[streamL_length];omega)]
  ·rw[streamL_succ,List.take_append_of_le_length (by rw[streamL_length];omega)]
   exact ih hge
theorem rowL_of (key:List Int) (n k:Nat) (h:n≤32*k):(streamL key k).take n=rowL key n:=by
 unfold rowL
 rcases Nat.lt_or_ge k (n / 32+1) with hlt|hge
 ·rw[← streamL_take key k (n / 32+1) (by omega),List.take_take,Nat.min_eq_left h]
 ·rw[← streamL_take key (n / 32+1) k (by omega),List.take_take,Nat.min_eq_left (by omega)]
theorem rowL_length (key:List Int) (n:Nat):(rowL key n).length=n:=by
 unfold rowL
 rw[List.length_take,streamL_length]
 omega
theorem rowL_range (key:List Int) (n:Nat):∀ x∈rowL key n,0≤x∧x<256:=fun x hx=>streamL_range _ _ x (List.mem_of_mem_take hx)
section
variable {H:Hp} {w w0:World} {L R:List Res}
theorem cat_one (s:ByteArray):cat [s]=ints s:=by simp[cat]
theorem codeH_ok {A:Option Addr} {e:Nat} (key:H32) (i:Nat) (hM:Mem H w0 L w) [k:AtA L A 1 1 e 1 [[.one (.string (strOfNums (fourB i)))]] R]:
  Calls Tryz.prog 123 #[.string (strOfNums key.1),.slice A 1 1] w fun en w'=>en=.returned (ha (hmacH key.1 (fourB i)))∧St w [] w':=by
 have hr:=hM.rd k
 have h:=code_ok (strOfNums key.1) A [strOfNums (fourB i)] 1 w hr (by rw[strOfNums_size];rw[key.2.1];omega) (by simp) (by rw[cat_one,ints_length,strOfNums_size];simp[fourB])
 rw[cat_one,ints_str _ key.2.2,ints_str _ (fourB_range _)]at h
 exact h
theorem stream_ok (key:H32) (n:Int) (hf:Fz H w):Calls Tryz.prog 146 #[ha key,.int .i64 n] w fun e w'=>e=.returned (.string (if 1≤n∧n≤65536 then strOfNums (rowL key.1 n.toNat) else ByteArray.mk #[]))∧St w [] w':=by
 have hM:=Mem.start hf
 refine C_mac_Stream ?_
 unfold F_mac_Stream
 (((refine mm_box hM ?_;clear hM;intro _ _ hM)))
 rename_i g _
 refine⟨fun x w'=>x=.bool (!decide (1≤n∧n≤65536))∧hM.now w',?_,?_⟩
 ·by_cases h:1≤n∧n≤65536
  ·(((refine mop_cF trivial ?_ ?_));(focus (first|assumption|omega|with_reducible rfl|exact fun h=>Bool.noConfusion h));((refine mguard_yes ?_;refine mop_c trivial ?_;refine mguard_yes ?_;refine mop_cF trivial ?_ ?_));(focus (first|assumption|omega|with_reducible rfl|exact fun h=>Bool.noConfusion h));((refine mop_c trivial ?_)))
   exact⟨by simp[h],hM⟩
  ·(((refine mop_cS trivial ?_ ?_))) <;>
   ·intro h2
    (first|(((refine mguard_yes ?_;refine mop_c trivial ?_;refine mguard_yes ?_;refine mop_cT trivial ?_ ?_));(focus (first|assumption|omega|with_reducible rfl|exact fun h=>Bool.noConfusion h));((refine mop_c trivial ?_)))|(((refine mguard_n1 ?_;refine mguard_n1 ?_;refine mop_c trivial ?_))))
    exact⟨by simp[h],hM⟩
 rintro x u w2 ⟨rfl,hM⟩
 by_cases h:1≤n∧n≤65536
 ·rw[if_pos h,decide_eq_true h]
  simp only[Bool.not_true]
  (((refine mif_false ?_)))
  refine⟨fun x y w'=>∃ (i:Nat) (A:Option Addr) (c:Nat),x=.slice A (32*i) c∧y=.int .i64 i∧(i=0∨32*(i - 1)<n)∧Mem H w [rowR 5 1 A (32*i) c (byts (streamL key.1 i)),fb g 34 [.arr 32 (u8s key.1)]] w',
   fun x _ _=>match x with | .slice _ k _=>n.toNat+32 - k|_=>0,⟨0,none,0,rfl,rfl,.inl rfl,hM.row0 5 1⟩,?_⟩
  rintro x y u w3 ⟨i,A,c,rfl,rfl,hi,hM⟩
  (((refine mop_c trivial ?_)))
  (((refine mop_cS trivial ?_ ?_)))
  ·intro hlt
   (((refine mif_true ?_)))
   refine⟨fun x w'=>∃ g7:Nat,x=.pointer (some ⟨g7,0,none⟩)∧Mem H w [fb g7 34 [.arr 32 (u8s (hmacH key.1 (fourB i)).1)],rowR 5 1 A (32*i) c (byts (streamL key.1 i)),fb g 34 [.arr 32 (u8s key.1)]] w',?_,?_⟩
   ·refine⟨?_,?_,?_,?_⟩
    all_goals
     (first|(((refine dp_c trivial ?_;refine dm_cvb hM ?_;refine dm_new hM ?_;clear hM;intro _ _ hM)))|(((refine dp_c trivial ?_;refine dm_cvb hM ?_))))
     refine dm_pure hM (fun w hM=>four_ok i w) (fun w4 _ hM=>?_)
     (first|(((refine dS_bsl hM ?_ ?_ ?_));(focus rfl);(focus (constructor <;> simp));((clear hM;intro _ _ hM;refine dm_new hM ?_;clear hM;intro _ _ hM)))|(((refine dm_new hM ?_;clear hM;intro _ _ hM;refine dS_bsl hM ?_ ?_ ?_));(focus rfl);(focus (constructor <;> simp));((clear hM;intro _ _ hM)))|(((refine dS_bsl hM ?_ ?_ ?_));(focus rfl);(focus (constructor <;> simp));((clear hM;intro _ _ hM))))
     refine dm_pure hM (fun w hM=>codeH_ok key i hM) (fun w5 _ hM=>?_)
     (first|(((refine dm_new hM ?_;clear hM;intro _ _ hM;refine dS_st hM ?_;clear hM;intro _ hM;refine mm_end hM ?_;clear hM;intro _ hM)))|(((refine dS_st hM ?_;clear hM;intro _ hM;refine mm_end hM ?_;clear hM;intro _ hM))))
     exact⟨_,rfl,hM.sub⟩
   ·rintro x u w4 ⟨g7,rfl,hM⟩
    (((refine mop_c trivial ?_)))
    refine mm_appb hM (by omega) (fun A' c' w5 hM=>?_)
    (((refine mop_c ?_ ?_));(focus omega))
    refine⟨⟨i+1,A',c',by rw[Nat.mul_add],by simp,.inr (by simp;omega),?_⟩,by simp;omega⟩
    rw[streamL_succ,Nat.mul_add]
    exact hM.rm g7
  ·intro hge
   have hl:=(hM.rowLen (A:=A) ⟨.refl _⟩)
   (((refine mif_false ?_;refine mop_c ?_ ?_));(focus omega))
   refine mm_cvr hM (by rw[streamL_length];omega) ?_
   rw[rowL_of _ _ _ (by omega)]
   exact⟨rfl,hM.st⟩
 ·rw[if_neg h,decide_eq_false h]
  simp only[Bool.not_false]
  (((refine mif_true ?_)))
  exact⟨trivial,hM.st⟩
def derivedH (x:List Int) (l c:ByteArray):H32:=⟨derived x l c,derived_length _ _ _,hmac_range _ _⟩
theorem deriveH_ok (key:H32) (l c:ByteArray) (w:World) (hl:l.size≤1000000) (hc:c.size≤1000000):Calls Tryz.prog 85 #[ha key,.string l,.string c] w fun e w'=>e=.returned (ha (derivedH key.1 l c))∧St w [] w':=derive_ok key.1 l c w key.2.1 key.2.2 hl hc
end
end Go.Proofs.YtpjodlnlmaaihaaGreat
namespace Go.Proofs.YtpjodlnlmaaihaaGreat
open Go.RowKit
def lev:Nat→Int→Int
 | 0,_=>0
 | f+1,x=>if x%2=1 then lev f (x / 2)+1 else 0
def level (x:Int):Int:=lev 8 x
def thr (n x:Int):Prop:=(1≤n∧n≤64)∧0≤x∧x≤2*n - 2
instance (n x:Int):Decidable (thr n x):=by unfold thr;infer_instance
def pw (k:Int):Int:=2 ^ k.toNat
def rtN (n:Int):Int:=if n≤1 then 1 else if n≤2 then 2 else if n≤4 then 4 else if n≤8 then 8 else if n≤16 then 16 else if n≤32 then 32 else 64
def root (n:Int):Int:=if thr n 0 then rtN n - 1 else -1
def pLeft (n x:Int):Int:=if thr n x∧level x≠0 then x - pw (level x - 1) else -1
def rg:Nat→Int→Int→Int
 | 0,_,x=>x
 | f+1,n,x=>if thr n x then x else rg f n (x - pw (level x - 1))
def okr:Nat→Int→Int→Bool
 | 0,_,_=>false
 | f+1,n,x=>decide (0≤x∧x<128)&&(decide (thr n x)||(decide (1≤level x)&&okr f n (x - pw (level x - 1))))
def pRight (n x:Int):Int:=if thr n x∧level x≠0 then rg 8 n (x+pw (level x - 1)) else -1
def up1 (x:Int):Int:=x - x / pw (level x+1)%2*pw (level x+1)+pw (level x)
def ug:Nat→Int→Int→Int
 | 0,_,x=>x
 | f+1,n,x=>if thr n (up1 x) then up1 x else ug f n (up1 x)
def oku:Nat→Int→Int→Bool
 | 0,_,_=>false
 | f+1,n,x=>decide (0≤x∧x<128)&&(decide (thr n (up1 x))||oku f n (up1 x))
def pAbove (n x:Int):Int:=if thr n x∧x≠root n then ug 8 n x else -1
def pBeside (n x:Int):Int:=if pAbove n x<0 then -1 else if x<pAbove n x then pRight n (pAbove n x) else pLeft n (pAbove n x)
def pFrom (n x:Int):Int:=if thr n x then (x+1 - pw (level x)) / 2 else 0
def pTo (n x:Int):Int:=if thr n x then min ((x+1+pw (level x)) / 2) n else 0
def halfI (n:Int):Int:=if n≤2 then 1 else if n≤4 then 2 else if n≤8 then 4 else if n≤16 then 8 else if n≤32 then 16 else 32
def rootI (a n:Int):Int:=if n=1 then 2*a else 2*(a+halfI n) - 1
def fnd:Nat→Int→Int→Int→Int→Int→Int × Int × Int × Int
 | 0,a,n,_,p,b=>(a,n,p,b)
 | f+1,a,n,x,p,b=>if rootI a n=x then (a,n,p,b) else if x<rootI a n then fnd f a (halfI n) x (rootI a n) (rootI (a+halfI n) (n - halfI n)) else fnd f (a+halfI n) (n - halfI n) x (rootI a n) (rootI a (halfI n))
def fd (n x:Int):Int × Int × Int × Int:=fnd 7 0 n x (-1) (-1)
def rRoot (n:Int):Int:=if thr n 0 then rootI 0 n else -1
def lf (n x:Int):Int:=if thr n x then (if (fd n x).2.1=1 then -1 else rootI (fd n x).1 (halfI (fd n x).2.1)) else -1
def rt (n x:Int):Int:=if thr n x then (if (fd n x).2.1=1 then -1 else rootI ((fd n x).1+halfI (fd n x).2.1) ((fd n x).2.1 - halfI (fd n x).2.1)) else -1
def ab (n x:Int):Int:=if thr n x then (fd n x).2.2.1 else -1
def bs (n x:Int):Int:=if thr n x then (fd n x).2.2.2 else -1
def fro (n x:Int):Int:=if thr n x then (fd n x).1 else 0
def til (n x:Int):Int:=if thr n x then (fd n x).1+(fd n x).2.1 else 0
def hld (n x p:Int):Prop:=fro n x≤p∧p<til n x
instance (n x p:Int):Decidable (hld n x p):=by unfold hld;infer_instance
def dirF:Nat→Int→Int→List Int
 | 0,_,_=>[]
 | f+1,n,x=>if ab n x<0 then [] else ab n x::dirF f n (ab n x)
def dirL (n l:Int):List Int:=if 0≤l∧l<n then dirF 8 n (2*l) else []
set_option maxRecDepth 100000 in
theorem bough_fin:∀ n:Fin 65,∀ x:Fin 127,thr (n.val:Int) (x.val:Int) →
  pLeft n.val x.val=lf n.val x.val∧pRight n.val x.val=rt n.val x.val∧pAbove n.val x.val=ab n.val x.val∧pBeside n.val x.val=bs n.val x.val∧pFrom n.val x.val=fro n.val x.val∧pTo n.val x.val=til n.val x.val ∧
  (level x.val≠0→okr 8 n.val (x.val+pw (level x.val - 1))=true)∧((x.val:Int)≠root n.val→oku 8 n.val x.val=true)∧root n.val=rRoot n.val:=by decide +kernel
end Go.Proofs.YtpjodlnlmaaihaaGreat
namespace Go.Proofs.YtpjodlnlmaaihaaGreat
open Go.RowKit Go.Lib
set_option maxRecDepth 100000 in
theorem up_fin:∀ y:Fin 128,bits .and .i64 y.val 1=y.val%2∧bits .or .i64 (bits .andNot .i64 y.val (pw (level y.val+1))) (pw (level y.val))=up1 y.val∧level (up1 y.val)=level y.val+1∧pw (level y.val)≤y.val+1∧level y.val≤7:=by decide +kernel
set_option maxRecDepth 100000 in
theorem fd_fin:∀ n:Fin 65,∀ x:Fin 127,thr (n.val:Int) (x.val:Int)→0≤(fd n.val x.val).1∧1≤(fd n.val x.val).2.1∧(fd n.val x.val).1+(fd n.val x.val).2.1≤64:=by decide +kernel
theorem up_eq {x:Int} (h:0≤x∧x<128):bits .and .i64 x 1=x%2∧bits .or .i64 (bits .andNot .i64 x (pw (level x+1))) (pw (level x))=up1 x∧level (up1 x)=level x+1∧pw (level x)≤x+1∧level x≤7:=by
 have:=up_fin ⟨x.toNat,by omega⟩
 simpa only [Int.toNat_of_nonneg h.1] using this
theorem fd_eq {n x:Int} (h:thr n x):0≤(fd n x).1∧1≤(fd n x).2.1∧(fd n x).1+(fd n x).2.1≤64:=by
 obtain⟨h1,h2,h3⟩:=id h
 have:=fd_fin ⟨n.toNat,by omega⟩ ⟨x.toNat,by omega⟩
 simp only[Int.toNat_of_nonneg h2,Int.toNat_of_nonneg (show 0≤n by omega)]at this
 exact this h
theorem bough_eq {n x:Int} (h:thr n x):pLeft n x=lf n x∧pRight n x=rt n x∧pAbove n x=ab n x∧pBeside n x=bs n x∧pFrom n x=fro n x∧pTo n x=til n x ∧
  (level x≠0→okr 8 n (x+pw (level x - 1))=true)∧(x≠root n→oku 8 n x=true)∧root n=rRoot n:=by
 obtain⟨h1,h2,h3⟩:=id h
 have:=bough_fin ⟨n.toNat,by omega⟩ ⟨x.toNat,by omega⟩
 simp only[Int.toNat_of_nonneg h2,Int.toNat_of_nonneg (show 0≤n by omega)]at this
 exact this h
theorem lev_rng:∀ (f:Nat) (x:Int),0≤lev f x∧lev f x≤f
 | 0,x=>by simp[lev]
 | f+1,x=>by
  have:=lev_rng f (x / 2)
  unfold lev
  split <;> omega
theorem level_rng (x:Int):0≤level x∧level x≤8:=lev_rng 8 x
theorem pw_rng {k:Int} (h:k≤9):1≤pw k∧pw k≤512:=by
 have h2:(2:Nat) ^ k.toNat≤2 ^ 9:=Nat.pow_le_pow_right (by decide) (by omega)
 have h3:0<(2:Nat) ^ k.toNat:=Nat.pow_pos (by decide)
 have h4:pw k=((2 ^ k.toNat:Nat):Int):=by unfold pw;push_cast;rfl
 rw[h4]
 omega
instance {P:Program} {t:TypeId} {q:Bool} {k':IntKind} (b:Int):StepC P (o_bin .shl t q (.int .i64 1) (.int k' b)) (0≤b∧b<62) (.int .i64 (pw b)):=⟨fun h=>by
 have:=p_shl (P:=P) t q .i64 k' 1 b h.1 (by show b<64;omega)
 have h2:(2:Nat) ^ b.toNat≤2 ^ 62:=Nat.pow_le_pow_right (by decide) (by omega)
 have h4:(2:Int) ^ b.toNat=((2 ^ b.toNat:Nat):Int):=by push_cast;rfl
 have h5:-9223372036854775808≤(2:Int) ^ b.toNat∧(2:Int) ^ b.toNat<9223372036854775808:=by
  generalize (2:Nat) ^ b.toNat=m at h2 h4
  rw[h4]
  omega
 rw[Int.one_mul,wrap_in h5]at this
 exact this⟩
theorem p_andNot {P:Program} (t:TypeId) (c:Bool) (k:IntKind) (a b:Int):Pur P (o_bin .andNot t c (.int k a) (.int k b)) (.int k (bits .andNot k a b)):=fun w=>by
 simp[o_bin,sv,eqGuard,binOp,go_sem]
instance {P:Program} {t:TypeId} {q:Bool} {k:IntKind} (a b:Int):StepC P (o_bin .andNot t q (.int k a) (.int k b)) True (.int k (bits .andNot k a b)):=⟨fun _=>p_andNot t q k a b⟩
section
variable {H:Hp} {w0 w:World} {L:List Res}
theorem there_ok (n x:Int) (w:World):Calls Tryz.prog 99 #[.int .i64 n,.int .i64 x] w fun en w'=>en=.returned (.bool (decide (thr n x)))∧St w [] w':=by
 have hM:=Mem.start (Fz.of w)
 refine C_bough_there ?_
 unfold F_bough_there
 (((refine mop_cS trivial ?_ ?_)))
 ·intro h1
  (((refine mguard_yes ?_;refine mop_c trivial ?_;refine mguard_yes ?_)))
  (((refine mop_cS trivial ?_ ?_)))
  ·intro h2
   (((refine mop_c trivial ?_;refine mguard_yes ?_;refine mop_c trivial ?_;refine mguard_yes ?_)))
   (((refine mop_cS trivial ?_ ?_)))
   ·intro h3
    (((refine mop_c trivial ?_;refine mguard_yes ?_;refine mop_c trivial ?_;refine mguard_yes ?_;refine mop_c trivial ?_;refine mguard_yes ?_;refine mop_c ?_ ?_));(focus omega);((refine mguard_yes ?_;refine mop_c ?_ ?_));(focus omega);((refine mguard_yes ?_)))
    (((refine mop_cS trivial ?_ ?_)))
    ·intro h4
     (((refine mop_c trivial ?_)))
     exact⟨by rw[decide_eq_true (show thr n x from⟨⟨h1,h2⟩,h3,h4⟩)],hM.st⟩
    ·intro h4
     (((refine mop_c trivial ?_)))
     exact⟨by rw[decide_eq_false (show ¬thr n x from fun h=>h4 h.2.2)],hM.st⟩
   ·intro h3
    (((refine mop_c trivial ?_;(iterate 5 refine mguard_n2 ?_);refine mop_c trivial ?_)))
    exact⟨by rw[decide_eq_false (show ¬thr n x from fun h=>h3 h.2.1)],hM.st⟩
  ·intro h2
   (((refine mop_c trivial ?_;refine mguard_n2 ?_;refine mguard_n2 ?_;refine mop_c trivial ?_;(iterate 5 refine mguard_n2 ?_);refine mop_c trivial ?_)))
   exact⟨by rw[decide_eq_false (show ¬thr n x from fun h=>h2 h.1.2)],hM.st⟩
 ·intro h1
  (((refine mguard_n2 ?_;refine mguard_n2 ?_;refine mop_c trivial ?_;refine mguard_n2 ?_;refine mguard_n2 ?_;refine mop_c trivial ?_;(iterate 5 refine mguard_n2 ?_);refine mop_c trivial ?_)))
  exact⟨by rw[decide_eq_false (show ¬thr n x from fun h=>h1 h.1.1)],hM.st⟩
instance (n x:Int):PurC Tryz.prog 99 [.int .i64 n,.int .i64 x] True (.bool (decide (thr n x))):=⟨fun _ w=>there_ok n x w⟩
theorem rthere_ok (n x:Int) (w:World):Calls Tryz.prog 51 #[.int .i64 n,.int .i64 x] w fun en w'=>en=.returned (.bool (decide (thr n x)))∧St w [] w':=by
 have hM:=Mem.start (Fz.of w)
 refine C_bevyref07_There ?_
 unfold F_bevyref07_There
 (((refine mop_cS trivial ?_ ?_)))
 ·intro h1
  (((refine mguard_yes ?_;refine mop_c trivial ?_;refine mguard_yes ?_)))
  (((refine mop_cS trivial ?_ ?_)))
  ·intro h2
   (((refine mop_c trivial ?_;refine mguard_yes ?_;refine mop_c trivial ?_;refine mguard_yes ?_)))
   (((refine mop_cS trivial ?_ ?_)))
   ·intro h3
    (((refine mop_c trivial ?_;refine mguard_yes ?_;refine mop_c trivial ?_;refine mguard_yes ?_;refine mop_c trivial ?_;refine mguard_yes ?_;refine mop_c ?_ ?_));(focus omega);((refine mguard_yes ?_;refine mop_c ?_ ?_));(focus omega);((refine mguard_yes ?_)))
    (((refine mop_cS trivial ?_ ?_)))
    ·intro h4
     (((refine mop_c trivial ?_)))
     exact⟨by rw[decide_eq_true (show thr n x from⟨⟨h1,h2⟩,h3,h4⟩)],hM.st⟩
    ·intro h4
     (((refine mop_c trivial ?_)))
     exact⟨by rw[decide_eq_false (show ¬thr n x from fun h=>h4 h.2.2)],hM.st⟩
   ·intro h3
    (((refine mop_c trivial ?_;(iterate 5 refine mguard_n2 ?_);refine mop_c trivial ?_)))
    exact⟨by rw[decide_eq_false (show ¬thr n x from fun h=>h3 h.2.1)],hM.st⟩
  ·intro h2
   (((refine mop_c trivial ?_;refine mguard_n2 ?_;refine mguard_n2 ?_;refine mop_c trivial ?_;(iterate 5 refine mguard_n2 ?_);refine mop_c trivial ?_)))
   exact⟨by rw[decide_eq_false (show ¬thr n x from fun h=>h2 h.1.2)],hM.st⟩
 ·intro h1
  (((refine mguard_n2 ?_;refine mguard_n2 ?_;refine mop_c trivial ?_;refine mguard_n2 ?_;refine mguard_n2 ?_;refine mop_c trivial ?_;(iterate 5 refine mguard_n2 ?_);refine mop_c trivial ?_)))
  exact⟨by rw[decide_eq_false (show ¬thr n x from fun h=>h1 h.1.1)],hM.st⟩
instance (n x:Int):PurC Tryz.prog 51 [.int .i64 n,.int .i64 x] True (.bool (decide (thr n x))):=⟨fun _ w=>rthere_ok n x w⟩
theorem level_ok (x:Int) (hx:0≤x∧x<128) (w:World):Calls Tryz.prog 134 #[.int .i64 x] w fun en w'=>en=.returned (.int .i64 (level x))∧St w [] w':=by
 have hM:=Mem.start (Fz.of w)
 refine C_bough_level ?_
 unfold F_bough_level
 refine⟨fun v u w'=>∃ (y k:Int) (f:Nat),v=.int .i64 y∧u=.int .i64 k∧f≤7∧k=7 - f∧0≤y∧y<2 ^ f∧level x=k+lev (f+1) y∧hM.now w',fun _ u _=>match u with | .int _ k=>7 - k.toNat|_=>0,⟨x,0,7,rfl,rfl,by omega,by omega,hx.1,hx.2,by unfold level;rw[Int.zero_add],hM⟩,?_⟩
 rintro v u i w2 ⟨y,k,f,rfl,rfl,hf,hk,hy,hy2,hl,hM⟩
 have h7:(2:Int) ^ f≤128:=by
  have h2:(2:Nat) ^ f≤2 ^ 7:=Nat.pow_le_pow_right (by decide) hf
  have h4:(2:Int) ^ f=((2 ^ f:Nat):Int):=by push_cast;rfl
  omega
 obtain⟨hb,_⟩:=up_eq (x:=y) (by omega)
 (((refine mop_c trivial ?_)))
 rw[hb]
 (((refine mop_cS trivial ?_ ?_)))
 ·intro ho
  cases f with
  | zero=>simp at hy2;omega
  | succ f=>
   (((refine mif_true ?_;refine mop_c ?_ ?_));(focus omega);((refine mop_c ?_ ?_));(focus omega))
   have hd:y / 2 ^ (1:Int).toNat=y / 2:=rfl
   rw[hd]
   have hp:(2:Int) ^ (f+1)=2 ^ f*2:=Int.pow_succ 2 f
   refine⟨⟨y / 2,k+1,f,rfl,rfl,by omega,by omega,by omega,by omega,?_,hM⟩,?_⟩
   ·rw[hl]
    conv=>lhs;rw[lev,if_pos ho]
    omega
   ·simp only
    omega
 ·intro ho
  (((refine mif_false ?_)))
  refine⟨?_,hM.st⟩
  rw[hl,lev,if_neg ho]
  simp
instance (x:Int):PurC Tryz.prog 134 [.int .i64 x] (0≤x∧x<128) (.int .i64 (level x)):=⟨fun h w=>level_ok x h w⟩
theorem broot_ok (n:Int) (w:World):Calls Tryz.prog 138 #[.int .i64 n] w fun en w'=>en=.returned (.int .i64 (root n))∧St w [] w':=by
 have hM:=Mem.start (Fz.of w)
 refine C_bough_Root ?_
 unfold F_bough_Root
 by_cases ht:thr n 0
 ·rw[show root n=rtN n - 1 from if_pos ht]
  have hn:=ht.1
  (((refine mm_purC hM ?_ ?_));(focus (first|exact trivial|assumption|omega));((clear hM;intro _ hM;refine mop_c trivial ?_)))
  rw[decide_eq_true ht]
  (((refine mif_nt ?_)))
  refine⟨fun v w'=>∃ k:Int,v=.int .i64 k∧(k=1∨k=2∨k=4∨k=8∨k=16∨k=32∨k=64)∧(k=1∨k<2*n)∧hM.now w',fun v _=>match v with | .int _ k=>100 - k.toNat|_=>0,⟨1,rfl,.inl rfl,.inl rfl,hM⟩,?_⟩
  rintro v i w2 ⟨k,rfl,h1,h2,hM⟩
  (((refine mop_cS trivial ?_ ?_)))
  ·intro h
   (((refine mif_true ?_;refine mop_c ?_ ?_));(focus omega))
   exact⟨⟨k*2,rfl,by omega,by omega,hM⟩,by simp only;omega⟩
  ·intro h
   (((refine mif_false ?_;refine mop_c ?_ ?_));(focus omega))
   refine⟨?_,hM.st⟩
   rw[show rtN n=k by unfold rtN;(repeat' split);all_goals omega]
 ·rw[show root n = -1 from if_neg ht]
  (((refine mm_purC hM ?_ ?_));(focus (first|exact trivial|assumption|omega));((clear hM;intro _ hM;refine mop_c trivial ?_)))
  rw[decide_eq_false ht]
  (((refine mif_nf ?_)))
  exact⟨rfl,hM.st⟩
instance (n:Int):PurC Tryz.prog 138 [.int .i64 n] True (.int .i64 (root n)):=⟨fun _ w=>broot_ok n w⟩
theorem half_ok (n:Int) (hn:1≤n∧n≤64) (w:World):Calls Tryz.prog 133 #[.int .i64 n] w fun en w'=>en=.returned (.int .i64 (halfI n))∧St w [] w':=by
 have hM:=Mem.start (Fz.of w)
 refine C_bevyref07_half ?_
 unfold F_bevyref07_half
 refine⟨fun v w'=>∃ k:Int,v=.int .i64 k∧(k=1∨k=2∨k=4∨k=8∨k=16∨k=32)∧(k=1∨k<n)∧hM.now w',fun v _=>match v with | .int _ k=>100 - k.toNat|_=>0,⟨1,rfl,.inl rfl,.inl rfl,hM⟩,?_⟩
 rintro v i w2 ⟨k,rfl,h1,h2,hM⟩
 (((refine mop_c ?_ ?_));(focus omega))
 (((refine mop_cS trivial ?_ ?_)))
 ·intro h
  (((refine mif_true ?_;refine mop_c ?_ ?_));(focus omega))
  exact⟨⟨2*k,rfl,by omega,by omega,hM⟩,by simp only;omega⟩
 ·intro h
  (((refine mif_false ?_)))
  refine⟨?_,hM.st⟩
  rw[show halfI n=k by unfold halfI;(repeat' split);all_goals omega]
instance (n:Int):PurC Tryz.prog 133 [.int .i64 n] (1≤n∧n≤64) (.int .i64 (halfI n)):=⟨fun h w=>half_ok n h w⟩
theorem half_b {n:Int} (h:1≤n∧n≤64):1≤halfI n∧halfI n≤32∧(2≤n→halfI n<n)∧n≤2*halfI n:=by
 unfold halfI
 repeat' split
 all_goals omega
theorem rroot_ok (a n:Int) (h:(0≤a∧a≤100)∧1≤n∧n≤64) (w:World):Calls Tryz.prog 132 #[.int .i64 a,.int .i64 n] w fun en w'=>en=.returned (.int .i64 (rootI a n))∧St w [] w':=by
 have hM:=Mem.start (Fz.of w)
 refine C_bevyref07_root ?_
 unfold F_bevyref07_root rootI
 have hb:=half_b h.2
 (((refine mop_cS trivial ?_ ?_)))
 ·intro h1
  (((refine mif_true ?_;refine mop_c ?_ ?_));(focus omega))
  exact⟨by rw[if_pos h1],hM.st⟩
 ·intro h1
  (((refine mif_false ?_;refine mm_purC hM ?_ ?_));(focus (first|exact trivial|assumption|omega));((clear hM;intro _ hM;refine mop_c ?_ ?_));(focus omega);((refine mop_c ?_ ?_));(focus omega);((refine mop_c ?_ ?_));(focus omega))
  exact⟨by rw[if_neg h1],hM.st⟩
instance (a n:Int):PurC Tryz.prog 132 [.int .i64 a,.int .i64 n] ((0≤a∧a≤100)∧1≤n∧n≤64) (.int .i64 (rootI a n)):=⟨fun h w=>rroot_ok a n h w⟩
def okf:Nat→Int→Bool
 | 0,n=>decide (n=1)
 | f+1,n=>decide (n=1)||(okf f (halfI n)&&okf f (n - halfI n))
set_option maxRecDepth 100000 in
theorem okf_fin:∀ n:Fin 65,1≤n.val→okf 6 n.val=true:=by decide +kernel
theorem find_ok:∀ (f:Nat) (a n x p b:Int),okf f n=true→0≤a→1≤n→a+n≤64→2*a≤x→x≤2*(a+n) - 2→∀ w,Calls Tryz.prog 97 #[.int .i64 a,.int .i64 n,.int .i64 x,.int .i64 p,.int .i64 b] w fun en w'=>en=.returned (.tuple #[.int .i64 (fnd (f+1) a n x p b).1,.int .i64 (fnd (f+1) a n x p b).2.1,.int .i64 (fnd (f+1) a n x p b).2.2.1,.int .i64 (fnd (f+1) a n x p b).2.2.2])∧St w [] w':=by
 intro f
 induction f with
 | zero=>
  intro a n x p b ho ha hn hs hx hy w
  have hM:=Mem.start (Fz.of w)
  have h1:n=1:=by simpa [okf] using ho
  subst h1
  have hr:rootI a 1=x:=by unfold rootI;rw[if_pos rfl];omega
  refine C_bevyref07_find ?_
  unfold F_bevyref07_find
  (((refine mm_purC hM ?_ ?_));(focus (first|exact trivial|assumption|omega));((clear hM;intro _ hM;refine mop_cT trivial ?_ ?_));(focus (first|assumption|omega|with_reducible rfl|exact fun h=>Bool.noConfusion h));((refine mif_true ?_)))
  exact⟨by simp only[fnd,if_pos hr],hM.st⟩
 | succ f ih=>
  intro a n x p b ho ha hn hs hx hy w
  have hM:=Mem.start (Fz.of w)
  refine C_bevyref07_find ?_
  unfold F_bevyref07_find
  by_cases hr:rootI a n=x
  ·(((refine mm_purC hM ?_ ?_));(focus (first|exact trivial|assumption|omega));((clear hM;intro _ hM;refine mop_cT trivial ?_ ?_));(focus (first|assumption|omega|with_reducible rfl|exact fun h=>Bool.noConfusion h));((refine mif_true ?_)))
   exact⟨by simp only[fnd,if_pos hr],hM.st⟩
  ·have h1:n≠1:=by
    rintro rfl
    apply hr
    unfold rootI
    rw[if_pos rfl]
    omega
   have hre:rootI a n=2*(a+halfI n) - 1:=by unfold rootI;rw[if_neg h1]
   obtain⟨b1,b2,b3,b4⟩:=half_b (n:=n) (by omega)
   have b3:=b3 (by omega)
   simp only[okf,Bool.or_eq_true,decide_eq_true_eq,Bool.and_eq_true]at ho
   have ho:=ho.resolve_left h1
   have e1:fnd (f+1+1) a n x p b=if x<rootI a n then fnd (f+1) a (halfI n) x (rootI a n) (rootI (a+halfI n) (n - halfI n)) else fnd (f+1) (a+halfI n) (n - halfI n) x (rootI a n) (rootI a (halfI n)):=by
    conv=>lhs;rw[fnd,if_neg hr]
   (((refine mm_purC hM ?_ ?_));(focus (first|exact trivial|assumption|omega));((clear hM;intro _ hM;refine mop_cF trivial ?_ ?_));(focus (first|assumption|omega|with_reducible rfl|exact fun h=>Bool.noConfusion h));((refine mif_false ?_;refine mm_purC hM ?_ ?_));(focus (first|exact trivial|assumption|omega));((clear hM;intro _ hM;refine mm_purC hM ?_ ?_));(focus (first|exact trivial|assumption|omega));((clear hM;intro _ hM;refine mop_c ?_ ?_));(focus omega);((refine mop_c ?_ ?_));(focus omega);((refine mm_purC hM ?_ ?_));(focus (first|exact trivial|assumption|omega));((clear hM;intro _ hM)))
   (((refine mop_cS trivial ?_ ?_)))
   ·intro hl
    rw[if_pos hl]at e1
    (((refine mif_true ?_)))
    refine mm_pure hM (ih a (halfI n) x _ _ ho.1 ha b1 (by omega) hx (by omega) _) (fun w hM=>?_)
    skip
    rw[e1]
    exact⟨rfl,hM.st⟩
   ·intro hl
    rw[if_neg hl]at e1
    (((refine mif_false ?_;refine mop_c ?_ ?_));(focus omega);((refine mop_c ?_ ?_));(focus omega))
    refine mm_pure hM (ih (a+halfI n) (n - halfI n) x _ _ ho.2 (by omega) (by omega) (by omega) (by omega) (by omega) _) (fun w hM=>?_)
    skip
    rw[e1]
    exact⟨rfl,hM.st⟩
theorem fd_ok (n x:Int) (h:thr n x) (w:World):Calls Tryz.prog 97 #[.int .i64 0,.int .i64 n,.int .i64 x,.int .i64 (-1),.int .i64 (-1)] w fun en w'=>en=.returned (.tuple #[.int .i64 (fd n x).1,.int .i64 (fd n x).2.1,.int .i64 (fd n x).2.2.1,.int .i64 (fd n x).2.2.2])∧St w [] w':=by
 obtain⟨h1,h2,h3⟩:=h
 have:=okf_fin ⟨n.toNat,by omega⟩ (by simp only;omega)
 simp only[Int.toNat_of_nonneg (show 0≤n by omega)]at this
 exact find_ok 6 0 n x (-1) (-1) this (by omega) (by omega) (by omega) (by omega) (by omega) w
instance (n x:Int):PurC Tryz.prog 97 [.int .i64 0,.int .i64 n,.int .i64 x,.int .i64 (-1),.int .i64 (-1)] (thr n x) (.tuple #[.int .i64 (fd n x).1,.int .i64 (fd n x).2.1,.int .i64 (fd n x).2.2.1,.int .i64 (fd n x).2.2.2]):=⟨fun h w=>fd_ok n x h w⟩
end
end Go.Proofs.YtpjodlnlmaaihaaGreat
namespace Go.Proofs.YtpjodlnlmaaihaaGreat
open Go.RowKit Go.Lib
set_option maxRecDepth 100000 in
theorem ab_fin:∀ n:Fin 65,∀ x:Fin 127,thr (n.val:Int) (x.val:Int)→ab n.val x.val<0∨thr n.val (ab n.val x.val):=by decide +kernel
theorem ab_thr {n x:Int} (h:thr n x) (ha:¬ab n x<0):thr n (ab n x):=by
 obtain⟨h1,h2,h3⟩:=id h
 have:=ab_fin ⟨n.toNat,by omega⟩ ⟨x.toNat,by omega⟩
 simp only[Int.toNat_of_nonneg h2,Int.toNat_of_nonneg (show 0≤n by omega)]at this
 exact(this h).resolve_left ha
instance {P:Program} (a b c d:Value):StepC P (o_extract (.tuple #[a,b,c,d]) 0) True a:=⟨fun _=>p_extract [a,b,c,d] 0 a rfl⟩
instance {P:Program} (a b c d:Value):StepC P (o_extract (.tuple #[a,b,c,d]) 1) True b:=⟨fun _=>p_extract [a,b,c,d] 1 b rfl⟩
instance {P:Program} (a b c d:Value):StepC P (o_extract (.tuple #[a,b,c,d]) 2) True c:=⟨fun _=>p_extract [a,b,c,d] 2 c rfl⟩
instance {P:Program} (a b c d:Value):StepC P (o_extract (.tuple #[a,b,c,d]) 3) True d:=⟨fun _=>p_extract [a,b,c,d] 3 d rfl⟩
theorem min_if (a n:Int):min a n=if n<a then n else a:=by split <;> omega
section
variable {H:Hp} {w0 w:World} {L:List Res}
theorem lf_of {n x:Int} (h:¬thr n x):lf n x = -1:=if_neg h
theorem rt_of {n x:Int} (h:¬thr n x):rt n x = -1:=if_neg h
theorem ab_of {n x:Int} (h:¬thr n x):ab n x = -1:=if_neg h
theorem bs_of {n x:Int} (h:¬thr n x):bs n x = -1:=if_neg h
theorem fro_of {n x:Int} (h:¬thr n x):fro n x=0:=if_neg h
theorem til_of {n x:Int} (h:¬thr n x):til n x=0:=if_neg h
theorem bleft_ok (n x:Int) (w:World):Calls Tryz.prog 126 #[.int .i64 n,.int .i64 x] w fun en w'=>en=.returned (.int .i64 (lf n x))∧St w [] w':=by
 have hM:=Mem.start (Fz.of w)
 refine C_bough_Left ?_
 unfold F_bough_Left
 refine⟨fun v w'=>v=.int .i64 (if thr n x then level x else 0)∧hM.now w',?_,?_⟩
 ·by_cases ht:thr n x
  ·obtain⟨h1,h2,h3⟩:=id ht
   (((refine mm_purC hM ?_ (fun _ hM2=>?_)));(focus (first|exact trivial|assumption|omega));((replace hM:=hM2;clear hM2)))
   rw[decide_eq_true ht]
   (((refine mif_true ?_;refine mm_purC hM ?_ ?_));(focus (first|exact trivial|assumption|omega));((clear hM;intro _ hM)))
   exact⟨by rw[if_pos ht],hM⟩
  ·(((refine mm_purC hM ?_ (fun _ hM2=>?_)));(focus (first|exact trivial|assumption|omega));((replace hM:=hM2;clear hM2)))
   rw[decide_eq_false ht]
   (((refine mif_false ?_)))
   exact⟨by rw[if_neg ht],hM⟩
 rintro v u w2 ⟨rfl,hM⟩
 by_cases ht:thr n x
 ·obtain⟨h1,h2,h3⟩:=id ht
  rw[if_pos ht]
  have hl:=level_rng x
  rw[← (bough_eq ht).1]
  (((refine mop_cS trivial ?_ ?_)))
  ·intro h
   (((refine mif_true ?_)))
   exact⟨by unfold pLeft;rw[if_neg (fun h'=>h'.2 h)],hM.st⟩
  ·intro h
   have hp:=pw_rng (k:=level x - 1) (by omega)
   (((refine mif_false ?_;refine mop_c ?_ ?_));(focus omega);((refine mop_c ?_ ?_));(focus omega);((refine mop_c ?_ ?_));(focus omega))
   exact⟨by unfold pLeft;rw[if_pos ⟨ht,h⟩],hM.st⟩
 ·rw[if_neg ht,lf_of ht]
  (((refine mop_cT trivial ?_ ?_));(focus (first|assumption|omega|with_reducible rfl|exact fun h=>Bool.noConfusion h));((refine mif_true ?_)))
  exact⟨rfl,hM.st⟩
instance (n x:Int):PurC Tryz.prog 126 [.int .i64 n,.int .i64 x] True (.int .i64 (lf n x)):=⟨fun _ w=>bleft_ok n x w⟩
theorem bright_ok (n x:Int) (w:World):Calls Tryz.prog 127 #[.int .i64 n,.int .i64 x] w fun en w'=>en=.returned (.int .i64 (rt n x))∧St w [] w':=by
 have hM:=Mem.start (Fz.of w)
 refine C_bough_Right ?_
 unfold F_bough_Right
 refine⟨fun v w'=>v=.int .i64 (if thr n x then level x else 0)∧hM.now w',?_,?_⟩
 ·by_cases ht:thr n x
  ·obtain⟨h1,h2,h3⟩:=id ht
   (((refine mm_purC hM ?_ (fun _ hM2=>?_)));(focus (first|exact trivial|assumption|omega));((replace hM:=hM2;clear hM2)))
   rw[decide_eq_true ht]
   (((refine mif_true ?_;refine mm_purC hM ?_ ?_));(focus (first|exact trivial|assumption|omega));((clear hM;intro _ hM)))
   exact⟨by rw[if_pos ht],hM⟩
  ·(((refine mm_purC hM ?_ (fun _ hM2=>?_)));(focus (first|exact trivial|assumption|omega));((replace hM:=hM2;clear hM2)))
   rw[decide_eq_false ht]
   (((refine mif_false ?_)))
   exact⟨by rw[if_neg ht],hM⟩
 rintro v u w2 ⟨rfl,hM⟩
 by_cases ht:thr n x
 ·obtain⟨h1,h2,h3⟩:=id ht
  rw[if_pos ht]
  have hl:=level_rng x
  obtain⟨-,hR,-,-,-,-,hk,-,-⟩:=bough_eq ht
  rw[← hR]
  (((refine mop_cS trivial ?_ ?_)))
  ·intro h
   (((refine mif_true ?_)))
   exact⟨by unfold pRight;rw[if_neg (fun h'=>h'.2 h)],hM.st⟩
  ·intro h
   have hp:=pw_rng (k:=level x - 1) (by omega)
   have hk:=hk h
   (((refine mif_false ?_;refine mop_c ?_ ?_));(focus omega);((refine mop_c ?_ ?_));(focus omega);((refine mop_c ?_ ?_));(focus omega))
   rw[show pRight n x=rg 8 n (x+pw (level x - 1)) from if_pos ⟨ht,h⟩]
   refine⟨fun v w'=>∃ (f:Nat) (y:Int),v=.int .i64 y∧okr f n y=true∧rg 8 n (x+pw (level x - 1))=rg f n y∧hM.now w',fun v _=>match v with | .int _ k=>k.toNat|_=>0,⟨8,_,rfl,hk,rfl,hM⟩,?_⟩
   rintro v i w2 ⟨f,y,rfl,ho,he,hM⟩
   cases f with
   | zero=>simp[okr]at ho
   | succ f=>
    simp only[okr,Bool.and_eq_true,Bool.or_eq_true,decide_eq_true_eq]at ho
    obtain⟨hy,ho⟩:=ho
    by_cases hty:thr n y
    ·(((refine mm_purC hM ?_ ?_));(focus (first|exact trivial|assumption|omega));((clear hM;intro _ hM;refine mop_c trivial ?_)))
     rw[decide_eq_true hty]
     (((refine mif_nt ?_)))
     exact⟨by rw[he,rg,if_pos hty],hM.st⟩
    ·obtain⟨hl1,ho⟩:=ho.resolve_left hty
     have hl:=level_rng y
     have hp:=pw_rng (k:=level y - 1) (by omega)
     (((refine mm_purC hM ?_ ?_));(focus (first|exact trivial|assumption|omega));((clear hM;intro _ hM;refine mop_c trivial ?_)))
     rw[decide_eq_false hty]
     (((refine mif_nf ?_;refine mm_purC hM ?_ ?_));(focus (first|exact trivial|assumption|omega));((clear hM;intro _ hM;refine mop_c ?_ ?_));(focus omega);((refine mop_c ?_ ?_));(focus omega);((refine mop_c ?_ ?_));(focus omega))
     refine⟨⟨f,_,rfl,ho,by rw[he,rg,if_neg hty],hM⟩,?_⟩
     cases f with
     | zero=>simp[okr]at ho
     | succ f=>
      simp only[okr,Bool.and_eq_true,decide_eq_true_eq]at ho
      simp only
      omega
 ·rw[if_neg ht,rt_of ht]
  (((refine mop_cT trivial ?_ ?_));(focus (first|assumption|omega|with_reducible rfl|exact fun h=>Bool.noConfusion h));((refine mif_true ?_)))
  exact⟨rfl,hM.st⟩
instance (n x:Int):PurC Tryz.prog 127 [.int .i64 n,.int .i64 x] True (.int .i64 (rt n x)):=⟨fun _ w=>bright_ok n x w⟩
theorem babove_ok (n x:Int) (w:World):Calls Tryz.prog 108 #[.int .i64 n,.int .i64 x] w fun en w'=>en=.returned (.int .i64 (ab n x))∧St w [] w':=by
 have hM:=Mem.start (Fz.of w)
 refine C_bough_Above ?_
 unfold F_bough_Above
 refine⟨fun v w'=>v=.bool (decide (¬thr n x∨x=root n))∧hM.now w',?_,?_⟩
 ·by_cases ht:thr n x
  ·(((refine mm_purC hM ?_ (fun _ hM2=>?_)));(focus (first|exact trivial|assumption|omega));((replace hM:=hM2;clear hM2;refine mop_c trivial ?_)))
   rw[decide_eq_true ht,Bool.not_true]
   (((refine mguard_yes ?_;refine mop_c trivial ?_;refine mguard_yes ?_;refine mop_c trivial ?_;refine mguard_yes ?_;refine mm_purC hM ?_ ?_));(focus (first|exact trivial|assumption|omega));((clear hM;intro _ hM;refine mguard_yes ?_)))
   (((refine mop_cS trivial ?_ ?_)))
   ·intro h
    (((refine mop_c trivial ?_)))
    exact⟨by rw[decide_eq_true (.inr h)],hM⟩
   ·intro h
    (((refine mop_c trivial ?_)))
    exact⟨by rw[decide_eq_false (by simp[ht,h])],hM⟩
  ·(((refine mm_purC hM ?_ (fun _ hM2=>?_)));(focus (first|exact trivial|assumption|omega));((replace hM:=hM2;clear hM2;refine mop_c trivial ?_)))
   rw[decide_eq_false ht,Bool.not_false]
   ((((iterate 4 refine mguard_n1 ?_);refine mop_c trivial ?_)))
   exact⟨by rw[decide_eq_true (.inl ht)],hM⟩
 rintro v u w2 ⟨rfl,hM⟩
 by_cases ht:thr n x
 ·obtain⟨-,-,hA,-,-,-,-,hu,-⟩:=bough_eq ht
  rw[← hA]
  by_cases hr:x=root n
  ·rw[decide_eq_true (.inr hr)]
   (((refine mif_true ?_)))
   exact⟨by unfold pAbove;rw[if_neg (fun h=>h.2 hr)],hM.st⟩
  ·rw[decide_eq_false (by simp[ht,hr])]
   have hu:=hu hr
   (((refine mif_false ?_)))
   rw[show pAbove n x=ug 8 n x from if_pos ⟨ht,hr⟩]
   refine⟨fun v w'=>∃ (f:Nat) (y:Int),v=.int .i64 y∧oku f n y=true∧ug 8 n x=ug f n y∧hM.now w',fun v _=>match v with | .int _ k=>(8 - level k).toNat|_=>0,⟨8,_,rfl,hu,rfl,hM⟩,?_⟩
   rintro v i w2 ⟨f,y,rfl,ho,he,hM⟩
   cases f with
   | zero=>simp[oku]at ho
   | succ f=>
    simp only[oku,Bool.and_eq_true,Bool.or_eq_true,decide_eq_true_eq]at ho
    obtain⟨hy,ho⟩:=ho
    obtain⟨-,hb,hv,-,h7⟩:=up_eq hy
    have hl:=level_rng y
    (((refine mm_purC hM ?_ ?_));(focus (first|exact trivial|assumption|omega));((clear hM;intro _ hM;refine dp_c ?_ ?_));(focus omega);((refine dp_c ?_ ?_));(focus omega);((refine dp_c trivial ?_;refine dp_c ?_ ?_));(focus omega);((refine dp_c trivial ?_;refine mm_end hM ?_;clear hM;intro _ hM;refine mm_purC hM ?_ ?_));(focus (first|exact trivial|assumption|omega));((clear hM;intro _ hM)))
    rw[hb]
    by_cases hty:thr n (up1 y)
    ·skip
     rw[decide_eq_true hty]
     (((refine mif_true ?_)))
     exact⟨by rw[he,ug,if_pos hty],hM.st⟩
    ·have ho:=ho.resolve_left hty
     skip
     rw[decide_eq_false hty]
     (((refine mif_false ?_)))
     refine⟨⟨f,_,rfl,ho,by rw[he,ug,if_neg hty],hM⟩,?_⟩
     simp only
     omega
 ·rw[decide_eq_true (.inl ht),ab_of ht]
  (((refine mif_true ?_)))
  exact⟨rfl,hM.st⟩
instance (n x:Int):PurC Tryz.prog 108 [.int .i64 n,.int .i64 x] True (.int .i64 (ab n x)):=⟨fun _ w=>babove_ok n x w⟩
theorem bbeside_ok (n x:Int) (w:World):Calls Tryz.prog 87 #[.int .i64 n,.int .i64 x] w fun en w'=>en=.returned (.int .i64 (bs n x))∧St w [] w':=by
 have hM:=Mem.start (Fz.of w)
 refine C_bough_Beside ?_
 unfold F_bough_Beside
 by_cases ht:thr n x
 ·obtain⟨-,-,hA,hB,-⟩:=bough_eq ht
  rw[← hB]
  unfold pBeside
  rw[hA]
  (((refine mm_purC hM ?_ ?_));(focus (first|exact trivial|assumption|omega));((clear hM;intro _ hM)))
  (((refine mop_cS trivial ?_ ?_)))
  ·intro h
   (((refine mif_true ?_)))
   exact⟨by rw[if_pos h],hM.st⟩
  ·intro h
   rw[if_neg h]
   have hta:thr n (ab n x):=ab_thr ht h
   obtain⟨hl,hr,-⟩:=bough_eq hta
   rw[hl,hr]
   (((refine mif_false ?_)))
   (((refine mop_cS trivial ?_ ?_)))
   ·intro h2
    (((refine mif_true ?_;refine mm_purC hM ?_ ?_));(focus (first|exact trivial|assumption|omega));((clear hM;intro _ hM)))
    exact⟨by rw[if_pos h2],hM.st⟩
   ·intro h2
    (((refine mif_false ?_;refine mm_purC hM ?_ ?_));(focus (first|exact trivial|assumption|omega));((clear hM;intro _ hM)))
    exact⟨by rw[if_neg h2],hM.st⟩
 ·rw[bs_of ht]
  have:=ab_of ht
  (((refine mm_purC hM ?_ ?_));(focus (first|exact trivial|assumption|omega));((clear hM;intro _ hM;refine mop_cT trivial ?_ ?_));(focus (first|assumption|omega|with_reducible rfl|exact fun h=>Bool.noConfusion h));((refine mif_true ?_)))
  exact⟨rfl,hM.st⟩
instance (n x:Int):PurC Tryz.prog 87 [.int .i64 n,.int .i64 x] True (.int .i64 (bs n x)):=⟨fun _ w=>bbeside_ok n x w⟩
theorem bleaves_ok (n x:Int) (w:World):Calls Tryz.prog 100 #[.int .i64 n,.int .i64 x] w fun en w'=>en=.returned (.tuple #[.int .i64 (fro n x),.int .i64 (til n x)])∧St w [] w':=by
 have hM:=Mem.start (Fz.of w)
 refine C_bough_Leaves ?_
 unfold F_bough_Leaves
 by_cases ht:thr n x
 ·obtain⟨h1,h2,h3⟩:=id ht
  obtain⟨-,-,-,-,hF,hT,-⟩:=bough_eq ht
  obtain⟨-,-,-,hq,h7⟩:=up_eq (x:=x) (by omega)
  have hl:=level_rng x
  have hp:=pw_rng (k:=level x) (by omega)
  rw[← hF,← hT]
  unfold pFrom pTo
  rw[if_pos ht,if_pos ht,min_if]
  (((refine mm_purC hM ?_ ?_));(focus (first|exact trivial|assumption|omega));((clear hM;intro _ hM;refine mop_c trivial ?_)))
  rw[decide_eq_true ht]
  (((refine mif_nt ?_;refine mm_purC hM ?_ ?_));(focus (first|exact trivial|assumption|omega));((clear hM;intro _ hM;refine mop_c ?_ ?_));(focus omega);((refine mop_c ?_ ?_));(focus omega);((refine mop_c ?_ ?_));(focus omega);((refine mop_c ?_ ?_));(focus omega);((refine mop_c ?_ ?_));(focus omega);((refine mop_c ?_ ?_));(focus omega);((refine mop_c ?_ ?_));(focus omega))
  exact⟨rfl,hM.st⟩
 ·rw[fro_of ht,til_of ht]
  (((refine mm_purC hM ?_ ?_));(focus (first|exact trivial|assumption|omega));((clear hM;intro _ hM;refine mop_c trivial ?_)))
  rw[decide_eq_false ht]
  (((refine mif_nf ?_)))
  exact⟨rfl,hM.st⟩
instance (n x:Int):PurC Tryz.prog 100 [.int .i64 n,.int .i64 x] True (.tuple #[.int .i64 (fro n x),.int .i64 (til n x)]):=⟨fun _ w=>bleaves_ok n x w⟩
theorem bholds_ok (n x p:Int) (w:World):Calls Tryz.prog 60 #[.int .i64 n,.int .i64 x,.int .i64 p] w fun en w'=>en=.returned (.bool (decide (hld n x p)))∧St w [] w':=by
 have hM:=Mem.start (Fz.of w)
 refine C_bough_Holds ?_
 unfold F_bough_Holds
 (((refine mm_purC hM ?_ ?_));(focus (first|exact trivial|assumption|omega));((clear hM;intro _ hM;refine mop_c trivial ?_;refine mop_c trivial ?_)))
 (((refine mop_cS trivial ?_ ?_)))
 ·intro h1
  (((refine mguard_yes ?_;refine mop_c trivial ?_;refine mguard_yes ?_;refine mop_c trivial ?_;refine mguard_yes ?_)))
  (((refine mop_cS trivial ?_ ?_)))
  ·intro h2
   (((refine mop_c trivial ?_)))
   exact⟨by rw[decide_eq_true (show hld n x p from⟨h1,h2⟩)],hM.st⟩
  ·intro h2
   (((refine mop_c trivial ?_)))
   exact⟨by rw[decide_eq_false (show ¬hld n x p from fun h=>h2 h.2)],hM.st⟩
 ·intro h1
  ((((iterate 3 refine mguard_n2 ?_);refine mop_c trivial ?_)))
  exact⟨by rw[decide_eq_false (show ¬hld n x p from fun h=>h1 h.1)],hM.st⟩
instance (n x p:Int):PurC Tryz.prog 60 [.int .i64 n,.int .i64 x,.int .i64 p] True (.bool (decide (hld n x p))):=⟨fun _ w=>bholds_ok n x p w⟩
theorem rabove_ok (n x:Int) (w:World):Calls Tryz.prog 52 #[.int .i64 n,.int .i64 x] w fun en w'=>en=.returned (.int .i64 (ab n x))∧St w [] w':=by
 have hM:=Mem.start (Fz.of w)
 refine C_bevyref07_Above ?_
 unfold F_bevyref07_Above
 by_cases ht:thr n x
 ·rw[show ab n x=(fd n x).2.2.1 from if_pos ht]
  (((refine mm_purC hM ?_ ?_));(focus (first|exact trivial|assumption|omega));((clear hM;intro _ hM;refine mop_c trivial ?_)))
  rw[decide_eq_true ht]
  (((refine mif_nt ?_;refine mm_purC hM ?_ ?_));(focus (first|exact trivial|assumption|omega));((clear hM;intro _ hM;(iterate 4 refine mop_c trivial ?_))))
  exact⟨rfl,hM.st⟩
 ·rw[ab_of ht]
  (((refine mm_purC hM ?_ ?_));(focus (first|exact trivial|assumption|omega));((clear hM;intro _ hM;refine mop_c trivial ?_)))
  rw[decide_eq_false ht]
  (((refine mif_nf ?_)))
  exact⟨rfl,hM.st⟩
instance (n x:Int):PurC Tryz.prog 52 [.int .i64 n,.int .i64 x] True (.int .i64 (ab n x)):=⟨fun _ w=>rabove_ok n x w⟩
theorem rleaves_ok (n x:Int) (w:World):Calls Tryz.prog 98 #[.int .i64 n,.int .i64 x] w fun en w'=>en=.returned (.tuple #[.int .i64 (fro n x),.int .i64 (til n x)])∧St w [] w':=by
 have hM:=Mem.start (Fz.of w)
 refine C_bevyref07_Leaves ?_
 unfold F_bevyref07_Leaves
 by_cases ht:thr n x
 ·obtain⟨b1,b2,b3⟩:=fd_eq ht
  rw[show fro n x=(fd n x).1 from if_pos ht,show til n x=(fd n x).1+(fd n x).2.1 from if_pos ht]
  (((refine mm_purC hM ?_ ?_));(focus (first|exact trivial|assumption|omega));((clear hM;intro _ hM;refine mop_c trivial ?_)))
  rw[decide_eq_true ht]
  (((refine mif_nt ?_;refine mm_purC hM ?_ ?_));(focus (first|exact trivial|assumption|omega));((clear hM;intro _ hM;(iterate 4 refine mop_c trivial ?_);refine mop_c ?_ ?_));(focus omega))
  exact⟨rfl,hM.st⟩
 ·rw[fro_of ht,til_of ht]
  (((refine mm_purC hM ?_ ?_));(focus (first|exact trivial|assumption|omega));((clear hM;intro _ hM;refine mop_c trivial ?_)))
  rw[decide_eq_false ht]
  (((refine mif_nf ?_)))
  exact⟨rfl,hM.st⟩
instance (n x:Int):PurC Tryz.prog 98 [.int .i64 n,.int .i64 x] True (.tuple #[.int .i64 (fro n x),.int .i64 (til n x)]):=⟨fun _ w=>rleaves_ok n x w⟩
theorem rholds_ok (n x p:Int) (w:World):Calls Tryz.prog 53 #[.int .i64 n,.int .i64 x,.int .i64 p] w fun en w'=>en=.returned (.bool (decide (hld n x p)))∧St w [] w':=by
 have hM:=Mem.start (Fz.of w)
 refine C_bevyref07_Holds ?_
 unfold F_bevyref07_Holds
 (((refine mm_purC hM ?_ ?_));(focus (first|exact trivial|assumption|omega));((clear hM;intro _ hM;refine mop_c trivial ?_;refine mop_c trivial ?_)))
 (((refine mop_cS trivial ?_ ?_)))
 ·intro h1
  (((refine mguard_yes ?_;refine mop_c trivial ?_;refine mguard_yes ?_;refine mop_c trivial ?_;refine mguard_yes ?_)))
  (((refine mop_cS trivial ?_ ?_)))
  ·intro h2
   (((refine mop_c trivial ?_)))
   exact⟨by rw[decide_eq_true (show hld n x p from⟨h1,h2⟩)],hM.st⟩
  ·intro h2
   (((refine mop_c trivial ?_)))
   exact⟨by rw[decide_eq_false (show ¬hld n x p from fun h=>h2 h.2)],hM.st⟩
 ·intro h1
  ((((iterate 3 refine mguard_n2 ?_);refine mop_c trivial ?_)))
  exact⟨by rw[decide_eq_false (show ¬hld n x p from fun h=>h1 h.1)],hM.st⟩
instance (n x p:Int):PurC Tryz.prog 53 [.int .i64 n,.int .i64 x,.int .i64 p] True (.bool (decide (hld n x p))):=⟨fun _ w=>rholds_ok n x p w⟩
end
end Go.Proofs.YtpjodlnlmaaihaaGreat
namespace Go.Proofs.YtpjodlnlmaaihaaGreat
open Go.RowKit
def cand (k l:Nat):Int:=(l / 2 ^ k*2 ^ (k+1)+2 ^ k - 1:Nat)
def cands (n l:Nat):List Int:=([1,2,3,4,5,6].map fun k=>cand k l).filter fun x=>decide (x≤2*(n:Int) - 2)
set_option maxRecDepth 100000 in
theorem dir_fin:∀ n:Fin 65,∀ l:Fin 64,l.val<n.val→dirL n.val l.val=cands n.val l.val:=by decide +kernel
set_option maxRecDepth 100000 in
theorem hold_fin:∀ i:Fin 63,∀ l:Fin 64,(1≤level (2*(i.val:Int)+1)∧level (2*(i.val:Int)+1)≤6)∧(((2*(i.val:Int)+1+1 - pw (level (2*i.val+1))) / 2≤l.val∧(l.val:Int)<(2*i.val+1+1+pw (level (2*i.val+1))) / 2)↔cand (level (2*i.val+1)).toNat l.val=2*i.val+1):=by decide +kernel
set_option maxRecDepth 100000 in
theorem cand_fin:∀ k:Fin 7,∀ l:Fin 64,1≤k.val→cand k.val l.val%2=1∧0≤cand k.val l.val∧cand k.val l.val<127∧level (cand k.val l.val)=k.val:=by decide +kernel
def okd:Nat→Int→Int→Bool
 | 0,n,x=>decide (ab n x<0)
 | f+1,n,x=>decide (ab n x<0)||okd f n (ab n x)
set_option maxRecDepth 100000 in
theorem okd_fin:∀ n:Fin 65,∀ x:Fin 127,thr (n.val:Int) (x.val:Int)→okd 8 n.val x.val=true:=by decide +kernel
set_option maxRecDepth 100000 in
theorem lvl_fin:∀ n:Fin 65,∀ x:Fin 127,thr (n.val:Int) (x.val:Int)→ab n.val x.val<0∨level x.val<level (ab n.val x.val)∧level (ab n.val x.val)≤7:=by decide +kernel
end Go.Proofs.YtpjodlnlmaaihaaGreat
namespace Go.Proofs.YtpjodlnlmaaihaaGreat
open Go.RowKit Go.Lib
theorem okd_eq (n x:Int):okd 8 n x=true:=by
 by_cases h:thr n x
 ·obtain⟨h1,h2,h3⟩:=id h
  have:=okd_fin ⟨n.toNat,by omega⟩ ⟨x.toNat,by omega⟩
  simp only[Int.toNat_of_nonneg h2,Int.toNat_of_nonneg (show 0≤n by omega)]at this
  exact this h
 ·simp[okd,ab_of h]
theorem dirF_end {f:Nat} {n x:Int} (h:ab n x<0):dirF f n x=[]:=by
 cases f with
 | zero=>rfl
 | succ f=>rw[dirF,if_pos h]
theorem dirF_step {f:Nat} {n x:Int} (h:¬ab n x<0) (ho:okd f n x=true):∃ g,f=g+1∧dirF f n x=ab n x::dirF g n (ab n x)∧okd g n (ab n x)=true:=by
 cases f with
 | zero=>simp[okd]at ho;omega
 | succ f=>
  simp only[okd,Bool.or_eq_true,decide_eq_true_eq]at ho
  exact⟨f,rfl,by rw[dirF,if_neg h],ho.resolve_left h⟩
theorem dirF_len:∀ (f:Nat) (n x:Int),(dirF f n x).length≤f
 | 0,n,x=>by simp[dirF]
 | f+1,n,x=>by
  rw[dirF]
  split
  ·simp
  ·have:=dirF_len f n (ab n x)
   simp only[List.length_cons]
   omega
theorem dirL_len (n l:Int):(dirL n l).length≤8:=by
 unfold dirL
 split
 ·exact dirF_len 8 n _
 ·simp
abbrev ints8 (l:List Int):List (List Fd):=l.map fun x=>[.one (.int .i64 x)]
theorem ints8_length (l:List Int):(ints8 l).length=l.length:=by simp[ints8]
theorem ints8_app (a b:List Int):ints8 (a++b)=ints8 a++ints8 b:=by simp[ints8]
theorem els_ints8 (l:List Int):Els 1 (ints8 l):=Els.map (f:=fun x=>[.one (.int .i64 x)]) l fun _=>⟨inferInstance,rfl⟩
theorem ints8_at {l:List Int} {i:Nat} (h:i<l.length):(ints8 l)[i]?=some [.one (.int .i64 l[i])]:=by simp[ints8,h]
section
variable {H:Hp} {w0 w:World} {L:List Res}
theorem rdirect_ok (n l:Int) (hn:-1000000≤l∧l≤1000000) (hM:Mem H w0 L w):Calls Tryz.prog 17 #[.int .i64 n,.int .i64 l] w fun en w'=>∃ v,en=.returned v∧∃ A cap,v=.slice A (dirL n l).length cap∧Mem H w0 (rowR 3 1 A (dirL n l).length cap (ints8 (dirL n l))::L) w':=by
 refine C_bevyref07_Direct ?_
 unfold F_bevyref07_Direct
 refine⟨fun v w'=>v=.bool (decide ((l<0∨n≤l)∨¬thr n 0))∧hM.now w',?_,?_⟩
 ·(((refine mop_cS trivial ?_ ?_)))
  ·intro h
   ((((iterate 3 refine mguard_n1 ?_);refine mop_c trivial ?_;(iterate 3 refine mguard_n1 ?_);refine mop_c trivial ?_)))
   exact⟨by rw[decide_eq_true (.inl (.inl h))],hM⟩
  ·intro h
   (((refine mguard_yes ?_;refine mop_c trivial ?_;refine mguard_yes ?_;refine mop_c trivial ?_;refine mguard_yes ?_)))
   (((refine mop_cS trivial ?_ ?_)))
   ·intro h2
    (((refine mop_c trivial ?_;(iterate 3 refine mguard_n1 ?_);refine mop_c trivial ?_)))
    exact⟨by rw[decide_eq_true (.inl (.inr h2))],hM⟩
   ·intro h2
    by_cases ht:thr n 0
    ·(((refine mop_c trivial ?_;refine mguard_yes ?_;refine mop_c trivial ?_;refine mguard_yes ?_;refine mm_purC hM ?_ (fun _ hM2=>?_)));(focus (first|exact trivial|assumption|omega));((replace hM:=hM2;clear hM2;refine mguard_yes ?_;refine mop_c trivial ?_;refine mop_c trivial ?_)))
     rw[decide_eq_true ht]
     skip
     exact⟨by rw[decide_eq_false (by simp[ht];omega)];rfl,hM⟩
    ·(((refine mop_c trivial ?_;refine mguard_yes ?_;refine mop_c trivial ?_;refine mguard_yes ?_;refine mm_purC hM ?_ (fun _ hM2=>?_)));(focus (first|exact trivial|assumption|omega));((replace hM:=hM2;clear hM2;refine mguard_yes ?_;refine mop_c trivial ?_;refine mop_c trivial ?_)))
     rw[decide_eq_false ht]
     skip
     exact⟨by rw[decide_eq_true (.inr ht)];rfl,hM⟩
 rintro v u w2 ⟨rfl,hM⟩
 by_cases hc:(l<0∨n≤l)∨¬thr n 0
 ·have he:dirL n l=[]:=by
   unfold dirL
   by_cases hl:0≤l∧l<n
   ·rw[if_pos hl]
    have ht:¬thr n 0:=hc.resolve_left (by omega)
    refine dirF_end ?_
    rw[ab_of (fun h=>ht ⟨h.1,by omega⟩)]
    omega
   ·rw[if_neg hl]
  rw[decide_eq_true hc,he]
  (((refine mif_true ?_)))
  exact⟨_,rfl,_,_,rfl,hM.row0 _ _⟩
 ·rw[decide_eq_false hc]
  have hd:dirL n l=dirF 8 n (2*l):=by unfold dirL;rw[if_pos (by omega)]
  rw[hd]
  (((refine mif_false ?_;refine mop_c ?_ ?_));(focus omega);((refine mm_purC hM ?_ ?_));(focus (first|exact trivial|assumption|omega));((clear hM;intro _ hM)))
  refine⟨fun v u w'=>∃ (f:Nat) (y:Int) (pre:List Int) (A:Option Addr) (cap:Nat),v=.slice A pre.length cap∧u=.int .i64 (ab n y)∧f+pre.length=8∧dirF 8 n (2*l)=pre++dirF f n y∧okd f n y=true∧Mem H w0 (rowR 3 1 A pre.length cap (ints8 pre)::L) w',fun v _ _=>match v with | .slice _ k _=>8 - k|_=>0,⟨8,2*l,[],none,0,rfl,rfl,rfl,rfl,okd_eq _ _,hM.row0 _ _⟩,?_⟩
  clear hM
  rintro v u i w3 ⟨f,y,pre,A,cap,rfl,rfl,hf,he,ho,hM⟩
  (((refine mop_cS trivial ?_ ?_)))
  ·intro h
   obtain⟨g,rfl,e2,ho⟩:=dirF_step (by omega) ho
   (((refine mif_true ?_;refine mm_bsl hM ?_ ?_ ?_));(focus rfl);(focus (constructor <;> simp));((clear hM;intro _ _ hM;refine mm_appo hM ?_ ?_));(focus omega);((clear hM;intro _ _ _ hM;refine mm_purC hM ?_ ?_));(focus (first|exact trivial|assumption|omega));((clear hM;intro _ hM)))
   rename_i _ _ A2 cap2 _ _
   refine⟨⟨g,ab n y,pre++[ab n y],A2,cap2,by simp,rfl,by simp;omega,by rw[he,e2];simp,ho,?_⟩,by simp only;omega⟩
   rw[ints8_app,List.length_append]
   exact hM
  ·intro h
   (((refine mif_false ?_)))
   rw[he,dirF_end (by omega),List.append_nil]
   exact⟨_,rfl,_,_,rfl,hM⟩
theorem rsame_ok {A B:Option Addr} {a b:Nat} (xs ys:List Int) (hx:xs.length≤maxLen) (ha:Sl H 1 A (ints8 xs)) (hb:Sl H 1 B (ints8 ys)) (hM:Mem H w0 L w):Calls Tryz.prog 63 #[.slice A xs.length a,.slice B ys.length b] w fun en w'=>en=.returned (.bool (decide (xs=ys)))∧Mem H w0 L w':=by
 refine C_bevyref07_Same ?_
 unfold F_bevyref07_Same
 have hx':xs.length≤9223372036854775807:=hx
 (((refine mop_c trivial ?_;refine mop_c trivial ?_)))
 (((refine mop_cS trivial ?_ ?_)))
 ·intro h
  (((refine mif_true ?_)))
  exact⟨by rw[decide_eq_false (fun e=>h (by rw[e]))],hM⟩
 ·intro h
  have hl:xs.length=ys.length:=by omega
  (((refine mif_false ?_)))
  refine⟨fun v w'=>∃ i:Nat,v=.int .i64 i∧i≤xs.length∧xs.take i=ys.take i∧hM.now w',fun v _=>match v with | .int _ k=>xs.length - k.toNat|_=>0,⟨0,rfl,by omega,by simp,hM⟩,?_⟩
  rintro v u w3 ⟨i,rfl,hi,he,hM⟩
  (((refine mop_c trivial ?_)))
  (((refine mop_cS trivial ?_ ?_)))
  ·intro h2
   have h3:i<ys.length:=by omega
   have e1:=ints8_at (l:=xs) (i:=i) (by omega)
   have e2:=ints8_at (l:=ys) (i:=i) (by omega)
   (((refine mif_true ?_));(refine dp_ixs ‹_› ?_ ?_ ?_);(focus (simp only[List.length_map];omega));(focus (simp only[List.length_map];first|done|omega));((intro _ _ hA));(cases hA);(refine dm_lds0 hM ‹_› (map_atI ?_) ?_);(focus omega);(refine dp_ixs ‹_› ?_ ?_ ?_);(focus (simp only[List.length_map];omega));(focus (simp only[List.length_map];first|done|omega));((intro _ _ hA));(cases hA);(refine dm_lds0 hM ‹_› (map_atI ?_) ?_);(focus omega))
   (((refine dp_cS trivial ?_ ?_)))
   ·intro h4
    (((refine mm_end hM ?_;clear hM;intro _ hM;refine mif_true ?_)))
    refine⟨?_,hM⟩
    rw[decide_eq_false]
    rintro rfl
    exact h4 rfl
   ·intro h4
    (((refine mm_end hM ?_;clear hM;intro _ hM;refine mif_false ?_;refine mop_c ?_ ?_));(focus omega))
    refine⟨⟨i+1,rfl,by omega,?_,hM⟩,by simp only;omega⟩
    rw[List.take_succ_eq_append_getElem (by omega),List.take_succ_eq_append_getElem h3,he,Decidable.not_not.1 h4]
  ·intro h2
   (((refine mif_false ?_)))
   have:xs=ys:=by
    have h1:xs.take xs.length=ys.take xs.length:=by
     have:i=xs.length:=by omega
     rw[this]at he
     exact he
    rw[List.take_length,hl,List.take_length]at h1
    exact h1
   exact⟨by rw[decide_eq_true this],hM⟩
end
end Go.Proofs.YtpjodlnlmaaihaaGreat
namespace Go.Proofs.YtpjodlnlmaaihaaGreat
open Go.RowKit Go.ChangeShapes Go.WideShapes
end Go.Proofs.YtpjodlnlmaaihaaGreat
namespace Go.Proofs.YtpjodlnlmaaihaaGreat
open Go.RowKit Go.ChangeShapes Go.WideShapes Go.Deep
end Go.Proofs.YtpjodlnlmaaihaaGreat
namespace Go.Proofs.YtpjodlnlmaaihaaGreat
open Go.RowKit Go.ChangeShapes Go.WideShapes
end Go.Proofs.YtpjodlnlmaaihaaGreat
namespace Go.Proofs.YtpjodlnlmaaihaaGreat
open Go.RowKit Go.ChangeShapes Go.WideShapes Go.Deep
structure Rdr (P:Program) (t:TypeId) (sz:Nat) {α:Type} (rel:Hp→List Fd→α→Prop):Prop where
 size:P.cellsOf t=sz
 read:∀ {H:Type} (enc:TypeId × Value→H) (w:World) (base:Nat) (spare:Nat→Bool) (held:Bool) (n:Nat) (cs:List Value) (y:DataW H × List MemPlace),DataW.trod enc P w base spare held n t cs=some y→∃ fs x,cs=fl fs∧FOk fs∧fsz fs=sz∧rel (Hp.of w) fs x
section
variable {P:Program} {t e:TypeId} {sz:Nat} {α β:Type} {rel:Hp→List Fd→α→Prop}
theorem Rdr.map (h:Rdr P t sz rel) {rel':Hp→List Fd→β→Prop} (hm:∀ H fs x,FOk fs→rel H fs x→∃ y,rel' H fs y):Rdr P t sz rel':=
 ⟨h.size,fun enc w base spare held n cs y hy=>by
  obtain⟨fs,x,h1,h2,h3,h4⟩:=h.read enc w base spare held n cs y hy
  obtain⟨z,hz⟩:=hm _ _ _ h2 h4
  exact⟨fs,z,h1,h2,h3,hz⟩⟩
theorem rdr_int {k:IntKind} (ht:P.underlying t=some (.int k)) (hc:P.cellsOf t=1):Rdr P t 1 (fun _ fs (x:Int)=>fs=[.one (.int k x)]∧(Lit.int k x).wf=true):=
 ⟨hc,fun enc w base spare held n cs y hy=>by
  obtain⟨a,rfl,_,hw⟩:=DataW.trod_int ht hy
  exact⟨[.one (.int k a)],a,rfl,inferInstance,rfl,rfl,hw⟩⟩
structure Rdf (P:Program) (fds:List Field) (off sz:Nat) {α:Type} (rel:Hp→List Fd→α→Prop):Prop where
 read:∀ {H:Type} (enc:TypeId × Value→H) (w:World) (base:Nat) (spare:Nat→Bool) (held:Bool) (n:Nat) (cs:List Value),cs.length=off+sz→(∀ f∈fds,∃ y,DataW.trod enc P w base spare held n f.type ((cs.drop f.offset).take (P.cellsOf f.type))=some y)→∃ fs x,cs.drop off=fl fs∧FOk fs∧fsz fs=sz∧rel (Hp.of w) fs x
theorem Rdf.nil (off:Nat):Rdf P [] off 0 (fun _ fs (_:Unit)=>fs=[]):=⟨fun enc w base spare held n cs hl _=>⟨[],(),by rw[List.drop_eq_nil_of_le (by omega)];rfl,inferInstance,rfl,rfl⟩⟩
theorem Rdf.cons {f:Field} {fds:List Field} {off a b s ty:Nat} {rel':Hp→List Fd→β→Prop} (h:Rdr P ty a rel) (hty:f.type=ty) (ho:f.offset=off) (hs:s=b+a) (k:Rdf P fds (off+a) b rel'):Rdf P (f::fds) off s (fun H fs (x:α × β)=>∃ gs hs,fs=gs++hs∧FOk gs∧rel H gs x.1∧rel' H hs x.2):=
 ⟨fun enc w base spare held n cs hl hf=>by
  subst hs;subst hty
  obtain⟨y,hy⟩:=hf f (List.mem_cons_self ..)
  obtain⟨gs,x,h1,h2,h3,h4⟩:=h.read enc w base spare held n _ y hy
  obtain⟨hs,z,k1,k2,k3,k4⟩:=k.read enc w base spare held n cs (by omega) fun g hg=>hf g (List.mem_cons_of_mem _ hg)
  refine⟨gs++hs,(x,z),?_,h2.app k2,by rw[fsz_append,h3,k3];omega,gs,hs,rfl,h2,h4,k4⟩
  rw[fl_append,← h1,← k1,h.size,ho,← List.drop_drop,List.take_append_drop]⟩
theorem rdr_struct {fds:Array Field} (ht:P.underlying t=some (.struct fds)) (hc:P.cellsOf t=sz) (k:Rdf P fds.toList 0 sz rel):Rdr P t sz rel:=
 ⟨hc,fun enc w base spare held n cs y hy=>by
  obtain⟨xs,m,_,_,hl,hlen,hf⟩:=DataW.trod_struct ht hy
  have:=k.read enc w base spare held m cs (by omega) fun f hm=>by
   obtain⟨i,hi,rfl⟩:=List.mem_iff_getElem.1 hm
   have hi':i<fds.size:=by simpa using hi
   have:=hf i fds[i] (by simp[hi'])
   rw[List.getElem?_eq_getElem (by omega)]at this
   simp only[Array.getElem_toList]
   exact⟨_,this⟩
  simpa using this⟩
def All2 (r:List Fd→α→Prop):List (List Fd)→List α→Prop
 | [],[]=>True
 | p::ps,x::xs=>r p x∧All2 r ps xs
 | _,_=>False
theorem All2.len {r:List Fd→α→Prop}:∀ {ps:List (List Fd)} {xs:List α},All2 r ps xs→ps.length=xs.length
 | [],[],_=>rfl
 | _::_,_::_,h=>by simp[All2.len h.2]
 | [],_::_,h=>h.elim
 | _::_,[],h=>h.elim
theorem All2.eq_map {f:α→List Fd} {good:α→Prop}:∀ {ps:List (List Fd)} {xs:List α},All2 (fun p x=>p=f x∧good x) ps xs→ps=xs.map f∧∀ x∈xs,good x
 | [],[],_=>⟨rfl,fun _ h=>by cases h⟩
 | p::ps,x::xs,h=>by
  obtain⟨⟨rfl,hg⟩,h2⟩:=h
  obtain⟨rfl,h4⟩:=All2.eq_map h2
  exact⟨rfl,fun y hy=>by
   cases hy with
   | head=>exact hg
   | tail _ hy=>exact h4 y hy⟩
 | [],_::_,h=>h.elim
 | _::_,[],h=>h.elim
theorem rdr_slice (ht:P.underlying t=some (.slice e)) (hc:P.cellsOf t=1) (hsz:0<sz) (k:Rdr P e sz rel):Rdr P t 1 (fun H fs (xs:List α)=>∃ A cap ps,fs=[.one (.slice A xs.length cap)]∧xs.length≤maxLen∧Sl H sz A ps∧All2 (rel H) ps xs):=
 ⟨hc,fun enc w base spare held n cs y hy=>by
  rcases DataW.trod_slice ht hy with ⟨rfl,_⟩|⟨a,len,cap,elems,rest,m,_,rfl,_,hb,hlc,hcm,hel,hat,_⟩
  ·exact⟨[.one (.slice none 0 0)],[],rfl,inferInstance,rfl,none,0,[],rfl,by simp,Sl.nil _ _ _,trivial⟩
  ·have key:∀ j,j≤len→∃ (ps:List (List Fd)) (xs:List α),ps.length=j∧Els sz ps∧All2 (rel (Hp.of w)) ps xs∧∀ i u,(fls ps)[i]?=some u→w.cell? (a.add i)=some u:=by
    intro j
    induction j with
    | zero=>exact fun _=>⟨[],[],rfl,Els.nil sz,trivial,fun i u h=>by simp[fls]at h⟩
    | succ j ih=>
     intro hj
     obtain⟨ps,xs,h1,h2,h3,h4⟩:=ih (by omega)
     have:=hat j (by omega)
     rw[List.getElem?_eq_getElem (by omega)]at this
     obtain⟨cs,hcs,htr⟩:=Option.bind_eq_some_iff.1 this
     obtain⟨_,hcl,hcat⟩:=World.cells?_some hcs
     obtain⟨fs,x,e1,e2,e3,e4⟩:=k.read enc w base spare held m cs _ htr
     have app:∀ {ps:List (List Fd)} {xs:List α},All2 (rel (Hp.of w)) ps xs→All2 (rel (Hp.of w)) (ps++[fs]) (xs++[x]):=by
      intro ps
      induction ps with
      | nil=>intro xs h;cases xs with
       | nil=>exact⟨e4,trivial⟩
       | cons _ _=>exact h.elim
      | cons p ps ih=>intro xs h;cases xs with
       | nil=>exact h.elim
       | cons y xs=>exact⟨h.1,ih h.2⟩
     refine⟨ps++[fs],xs++[x],by simp[h1],h2.app (Els.cons e2 e3 (Els.nil sz)),app h3,fun i u hu=>?_⟩
     rw[fls_app]at hu
     rcases Nat.lt_or_ge i (fls ps).length with hlt|hge
     ·rw[List.getElem?_append_left hlt]at hu
      exact h4 i u hu
     ·rw[List.getElem?_append_right hge]at hu
      have hl:=h2.len
      simp only[fls,List.map_cons,List.map_nil,List.flatten_cons,List.flatten_nil,List.append_nil]at hu
      have hu2:cs[i - (ps.map fl).flatten.length]?=some u:=by rw[e1];exact hu
      obtain⟨hj1,hj2⟩:=List.getElem?_eq_some_iff.1 hu2
      have hq:=hcat (i - (ps.map fl).flatten.length) (by rw[hcl]at hj1;exact hj1)
      rw[hu2,Go.Deep.add_add,k.size]at hq
      have hl2:(ps.map fl).flatten.length=j*sz:=by rw[← h1];exact hl
      have hge2:j*sz≤i:=by rw[← hl2];exact hge
      rw[hl2,show j*sz+(i - j*sz)=i by omega]at hq
      exact hq
   obtain⟨ps,xs,h1,h2,h3,h4⟩:=key len (Nat.le_refl _)
   have hxl:xs.length=len:=by rw[← h3.len,h1]
   refine⟨[.one (.slice (some a) len cap)],xs,rfl,inferInstance,rfl,some a,cap,ps,by rw[hxl],by rw[hxl];omega,⟨h2,?_⟩,h3⟩
   rcases Nat.eq_zero_or_pos (fls ps).length with h0|h0
   ·left
    rw[h2.len]at h0
    rcases Nat.mul_eq_zero.1 h0 with h|h
    ·exact List.eq_nil_of_length_eq_zero h
    ·omega
   ·obtain⟨u,hu⟩:∃ u,(fls ps)[0]?=some u:=⟨_,List.getElem?_eq_getElem h0⟩
    have hc0:=h4 0 u hu
    obtain⟨b,off,spot⟩:=a
    have hs:spot=none:=by simpa [Addr.add] using World.cell?_spot hc0
    subst hs
    have hcell:∃ c t' fr,w.heap[b]?=some (.cells c t' fr):=by
     rw[Addr.add_lit]at hc0
     unfold World.cell? at hc0
     split at hc0
     ·rename_i c t' fr hh
      exact⟨c,t',fr,hh⟩
     ·cases hc0
    obtain⟨c,t',fr,hh⟩:=hcell
    refine .inr ⟨b,off,c,rfl,by simp[Hp.of,hh],fun j v hv=>?_⟩
    have:=h4 j v hv
    rw[Addr.add_lit,cell_of_row w b (off+j) c t' fr hh]at this
    exact this⟩
theorem arg_one {w:World} {r:Reach} {b:Nat} {v u:Value} (hd:(match P.underlying t with
  | some .bool|some (.int _)|some .string|some (.slice _)=>true
  | _=>false)=true) (hv:Value.okWide P w r b t v) (h:v.cells.toList=fl [.one u]):v=u:=by
 have key:∀ cs,v≠.agg cs:=by
  rintro cs rfl
  unfold Value.okWide Cell.okWide Cell.ok at hv
  split at hd
  all_goals first
   | (cases hd;done)
   | (rename_i hu;simp only[hu]at hv)
 cases v <;> first
  | (exact absurd rfl (key _))
  | (simpa [Value.cells,fl,Fd.cells] using h)
end
end Go.Proofs.YtpjodlnlmaaihaaGreat
namespace Go.Proofs.YtpjodlnlmaaihaaGreat
open Go.RowKit
structure Lf where
 name:Int
 pub:H32
 ver:H32
 abv:H32
deriving DecidableEq
abbrev Lf.fds (l:Lf):List Fd:=[.one (.int .i64 l.name),.arr 32 (u8s l.pub.1),.arr 32 (u8s l.ver.1),.arr 32 (u8s l.abv.1)]
abbrev lv (l:Lf):Value:=.agg (fl l.fds).toArray
def Lf.zero:Lf:=⟨0,hzero,hzero,hzero⟩
structure Pn where
 set:Bool
 pub:H32
 abv:H32
 loose:List Int
deriving DecidableEq
def Pn.zero:Pn:=⟨false,hzero,hzero,[]⟩
structure Tr where
 ls:List Lf
 ps:List Pn
deriving DecidableEq
def Tr.none:Tr:=⟨[],[]⟩
def nameAt (ls:List Lf) (p:Int):Int:=match ls[p.toNat]? with
 | some l=>l.name
 | none=>0
def leavesB:List Int→List Lf→Bool
 | _,[]=>true
 | s,l::r=>if l=Lf.zero then leavesB s r else decide ((1≤l.name∧l.name≤64)∧l.name∉s)&&leavesB (l.name::s) r
def looseB (n:Int) (ls:List Lf) (x:Int):Option Int→List Int→Bool
 | _,[]=>true
 | o,p::r=>decide (hld n x p∧nameAt ls p≠0∧∀ q∈o,q<p)&&looseB n ls x (some p) r
def Pn.isZero (p:Pn):Prop:=p.set=false∧p.pub=hzero∧p.abv=hzero∧p.loose=[]
instance (p:Pn):Decidable p.isZero:=by unfold Pn.isZero;infer_instance
def parB (n:Int) (ls:List Lf):Int→List Pn→Bool
 | _,[]=>true
 | x,p::r=>(p.set||decide p.isZero)&&looseB n ls x none p.loose&&parB n ls (x+2) r
abbrev Tr.size (t:Tr):Int:=t.ls.length
def Tr.right (t:Tr):Bool:=decide (t.ls.length≤64∧t.ps.length=t.ls.length - 1)&&leavesB [] t.ls&&parB t.size t.ls 1 t.ps&&decide (t.ls=[]∨0<nameAt t.ls (t.size - 1))
def Tr.few (t:Tr):Prop:=t.ls.length≤100∧t.ps.length≤100∧∀ p∈t.ps,p.loose.length≤100
abbrev Pn.row (p:Pn) (C:Option Addr) (c:Nat):List Fd:=[.one (.bool p.set),.arr 32 (u8s p.pub.1),.arr 32 (u8s p.abv.1),.one (.slice C p.loose.length c)]
def PnF (H:Hp) (q:List Fd) (p:Pn):Prop:=∃ C c,q=p.row C c∧Sl H 1 C (ints8 p.loose)∧p.loose.length≤maxLen
theorem PnF.mono {H H':Hp} {q:List Fd} {p:Pn} (h:PnF H q p) (k:H.le H'):PnF H' q p:=by
 obtain⟨C,c,h1,h2,h3⟩:=h
 exact⟨C,c,h1,h2.mono k,h3⟩
theorem All2.mono {α:Type} {r r':List Fd→α→Prop} (h:∀ q x,r q x→r' q x):∀ {ps:List (List Fd)} {xs:List α},All2 r ps xs→All2 r' ps xs
 | [],[],_=>trivial
 | _::_,_::_,k=>⟨h _ _ k.1,k.2.mono h⟩
 | [],_::_,k=>k.elim
 | _::_,[],k=>k.elim
theorem All2.at_ {α:Type} {r:List Fd→α→Prop}:∀ {ps:List (List Fd)} {xs:List α},All2 r ps xs→∀ {i:Nat} (h:i<xs.length),∃ q,ps[i]?=some q∧r q xs[i]
 | [],[],_,i,h=>by cases h
 | q::ps,x::xs,k,0,_=>⟨q,rfl,k.1⟩
 | q::ps,x::xs,k,i+1,h=>by
  obtain⟨q',h1,h2⟩:=k.2.at_ (i:=i) (by simpa using h)
  exact⟨q',by simpa using h1,by simpa using h2⟩
 | [],_::_,k,_,_=>k.elim
 | _::_,[],k,_,_=>k.elim
abbrev tfd (A:Option Addr) (n a:Nat) (B:Option Addr) (m b:Nat):List Fd:=[.one (.slice A n a),.one (.slice B m b)]
abbrev tv (A:Option Addr) (n a:Nat) (B:Option Addr) (m b:Nat):Value:=.agg (fl (tfd A n a B m b)).toArray
theorem lf_zero (l:Lf):l=Lf.zero↔(l.name=0∧l.pub=hzero∧l.ver=hzero∧l.abv=hzero):=by
 cases l
 simp[Lf.zero]
theorem nameAt_get {ls:List Lf} {i:Nat} (h:i<ls.length):nameAt ls i=ls[i].name:=by
 unfold nameAt
 simp[h]
structure TrF (H:Hp) (v:Value) (t:Tr):Prop where
 ex:∃ A a B b qs,v=tv A t.ls.length a B t.ps.length b∧Sl H 97 A (t.ls.map Lf.fds)∧Sl H 66 B qs∧All2 (PnF H) qs t.ps
 len:t.ls.length≤maxLen∧t.ps.length≤maxLen
theorem TrF.mono {H H':Hp} {v:Value} {t:Tr} (h:TrF H v t) (k:H.le H'):TrF H' v t:=by
 obtain⟨A,a,B,b,qs,h1,h2,h3,h4⟩:=h.ex
 exact⟨⟨A,a,B,b,qs,h1,h2.mono k,h3.mono k,h4.mono fun _ _ h=>h.mono k⟩,h.len⟩
end Go.Proofs.YtpjodlnlmaaihaaGreat
namespace Go.Proofs.YtpjodlnlmaaihaaGreat
open Go.RowKit Go.Shelf Go.Lib
attribute [local go_sem] Oper.semAt_some
theorem lvl_eq {n x:Int} (h:thr n x):ab n x<0∨level x<level (ab n x)∧level (ab n x)≤7:=by
 obtain⟨h1,h2,h3⟩:=id h
 have:=lvl_fin ⟨n.toNat,by omega⟩ ⟨x.toNat,by omega⟩
 simp only[Int.toNat_of_nonneg h2,Int.toNat_of_nonneg (show 0≤n by omega)]at this
 exact this h
theorem ab_pos {n x:Int} (h:¬ab n x<0):thr n x:=Decidable.byContradiction fun hn=>h (by rw[ab_of hn];omega)
theorem Only.grown0 {w w':World} (h:Only (fun k=>∃ b∈([]:List Bk),b.nw=false∧b.g=k) w w'):w.grownBy w' none:=⟨h.os,h.tape,h.output,h.size,fun k hk _=>h.block k hk (by rintro⟨_,hm,_⟩;cases hm)⟩
theorem bup_ok (n x:Int) (w:World):Calls Tryz.prog 75 #[.int .i64 n,.int .i64 x] w fun en w'=>∃ b1 b2,en=.returned (.func (.func 107) #[] #[.pointer (some ⟨b1,0,none⟩),.pointer (some ⟨b2,0,none⟩)])∧Mem (Hp.of w) w [fb b2 3 [.one (.int .i64 x)],fb b1 3 [.one (.int .i64 n)]] w':=by
 have hM:=Mem.start (Fz.of w)
 refine C_bough_up ?_
 unfold F_bough_up
 (((refine mm_box hM ?_;clear hM;intro _ _ hM;refine mm_box hM ?_;clear hM;intro _ _ hM;refine mop_c trivial ?_)))
 exact⟨_,_,rfl,hM⟩
def mea (v:Value):Nat:=match v with
 | .int _ k=>if k<0 then 0 else (9 - level k).toNat
 | _=>0
set_option maxRecDepth 100000 in
set_option maxHeartbeats 1000000 in
theorem up1_in (m:Nat) (hm:2≤m) (l b1 b2:Nat) (n x:Int) (W0:Nat) (J Jx:List Int→World→Prop) (hJ:AbidesFrom W0 J)
  (hY:∀ pre y W,J pre W→pre.length<(dirF 8 n x).length→YieldAt Fence.wide (m - 1) Tryz.prog l #[.int .i64 y] W fun e W'=>
   (e=.returned (.bool true)∧J (pre++[y]) W'∧W'.heap[b1]?=W.heap[b1]?)∨(e=.returned (.bool false)∧Jx (pre++[y]) W'))
  (W:World) (l1:b1<W.heap.size) (h1:W.cell? ⟨b1,0,none⟩=some (.int .i64 n)) (h2:W.cell? ⟨b2,0,none⟩=some (.int .i64 x)) (h0:J [] W):
  CallsIn Fence.wide m Tryz.prog 107 #[.func (.yield l) #[] #[],.pointer (some ⟨b1,0,none⟩),.pointer (some ⟨b2,0,none⟩)] W fun e W'=>(∃ v,e=.returned v) ∧
   ((∃ ys,ys=dirF 8 n x∧J ys W')∨(∃ pre,pre <+: dirF 8 n x∧Jx pre W')):=by
 have f1:Fence.wide.fn 108:=trivial
 have m1:1≤m:=by omega
 refine callsIn_of_wp Tryz.func107 rfl trivial ?_ rfl
 simp only[Tryz.ntmps107,List.size_toArray,List.length_cons,List.length_nil,Nat.reduceAdd,Nat.reduceSub,Array.replicate_succ,Array.replicate_zero,List.push_toArray,List.append_toArray,List.nil_append,List.cons_append]
 gi_wp2_with (gi_at_call 108;refine(callsIn_wide.2 (babove_ok n x _)).mono ?_;rintro e w1 ⟨rfl,hst⟩)
 have hg:=Only.grown0 hst.only
 have hb1:w1.heap[b1]?=W.heap[b1]?∧W.heap.size≤w1.heap.size:=⟨hg.block b1 l1 (by simp),hg.size⟩
 have hJ1:J [] w1:=hJ [] W w1 none h0 hg (fun r e=>by cases e)
 gi_loopw [4] (fun p wr=>∃ (f:Nat) (y:Int) (pre:List Int),p=.int .i64 (ab n y)∧dirF 8 n x=pre++dirF f n y∧okd f n y=true∧J pre wr∧wr.heap[b1]?=W.heap[b1]?) (fun p _=>mea p)
 case atStart=>
  exact⟨8,x,[],rfl,rfl,okd_eq _ _,hJ1,hb1.1⟩
 case round=>
  obtain⟨f,y,pre,rfl,hx,ho,hJs,hB⟩:=hrel
  have c1:wr.cell? ⟨b1,0,none⟩=some (.int .i64 n):=(World.cell?_of_block (w:=W) (a:=⟨b1,0,none⟩) hB).trans h1
  by_cases hp:ab n y<0
  ·have hq:¬0≤ab n y:=by omega
   gi_wp2
   refine⟨fun _ h=>(by cases h),?_⟩
   gi_wp2
   go_end0
   exact⟨⟨_,rfl⟩,.inl ⟨pre,by rw[hx,dirF_end hp,List.append_nil],hJs⟩⟩
  ·have hq:0≤ab n y:=by omega
   obtain⟨g,rfl,e2,ho⟩:=dirF_step hp ho
   obtain⟨fn,tmps,assign,body,hy,hR⟩:=hY pre (ab n y) wr hJs (by rw[hx,e2];simp)
   gi_wp2
   refine hR.mono ?_
   rintro e W3 (⟨rfl,hJ3,hk3⟩|⟨rfl,hJx3⟩)
   ·have c3:W3.cell? ⟨b1,0,none⟩=some (.int .i64 n):=(World.cell?_of_block (w:=wr) (a:=⟨b1,0,none⟩) hk3).trans c1
    gi_wp2_with (gi_at_call 108;refine(callsIn_wide.2 (babove_ok n (ab n y) _)).mono ?_;rintro e w4 ⟨rfl,hst4⟩)
    have hg4:=Only.grown0 hst4.only
    have hB3:=hk3.trans hB
    have hl3:b1<W3.heap.size:=by
     have e:W3.heap[b1]?=some W.heap[b1]:=by rw[hB3];simp[l1]
     exact(Array.getElem?_eq_some_iff.1 e).1
    have hB4:w4.heap[b1]?=W3.heap[b1]?:=hg4.block b1 hl3 (by simp)
    have hJ4:J (pre++[ab n y]) w4:=hJ _ W3 w4 none hJ3 hg4 (fun r e=>by cases e)
    go_roundw
    case rel=>exact⟨g,ab n y,pre++[ab n y],rfl,by rw[hx,e2];simp,ho,hJ4,hB4.trans hB3⟩
    case measure=>
     have hp:¬ab n y<0:=by omega
     have ht:=ab_thr (ab_pos hp) hp
     have:=lvl_eq ht
     have h8:=level_rng (ab n y)
     have h7:=(lvl_eq (ab_pos hp)).resolve_left hp
     show mea (.int .i64 (ab n (ab n y)))<mea (.int .i64 (ab n y))
     simp only[mea]
     rw[if_neg hp]
     split <;> omega
   ·gi_wp2
    go_end0
    exact⟨⟨_,rfl⟩,.inr ⟨pre++[ab n y],⟨dirF g n (ab n y),by rw[hx,e2];simp⟩,hJx3⟩⟩
theorem up_stops (m:Nat) (hm:2≤m) (b1 b2:Nat) (n x:Int) (w:World) (l1:b1<w.heap.size) (l2:b2<w.heap.size) (h1:w.cell? ⟨b1,0,none⟩=some (.int .i64 n)) (h2:w.cell? ⟨b2,0,none⟩=some (.int .i64 x)):
  SeqStopsK Fence.wide m Tryz.prog 107 #[.pointer (some ⟨b1,0,none⟩),.pointer (some ⟨b2,0,none⟩)] (fun y:Int=>#[Value.int .i64 y]) (fun A B=>B.heap[b1]?=A.heap[b1]?) (fun ys=>ys=dirF 8 n x) (fun pre=>pre <+: dirF 8 n x) (dirF 8 n x).length w:=fun l J Jx W hW hJ _ hY h0=>
 up1_in m hm l b1 b2 n x W.heap.size J Jx hJ hY W (Nat.lt_of_lt_of_le l1 hW.size) ((hW.cell (p:=⟨b1,0,none⟩) l1).trans h1) ((hW.cell (p:=⟨b2,0,none⟩) l2).trans h2) h0
theorem Boxed.app2 {W w1:World} {n₀ n1 B:Nat} {t e:TypeId} {size:Nat} {v v':Value} {k m:Nat} {xs ys:List Value} {tmp:Obj}
  (hv:Boxed W B t v) (hte:t≠e) (hrow:W.ownsRow n₀ e size v k xs) (hn₀:n₀≤W.heap.size) (hn1:n1≤n₀) (hB:n1≤B)
  (hown':w1.ownsRow n₀ e size v' m ys) (hgrow:(W.alloc tmp).grownBy w1 v.ownBlock):
  Boxed w1 B t v∧Boxed (w1.setCell ⟨B,0,none⟩ v') B t v'∧(w1.setCell ⟨B,0,none⟩ v').ownsRow n₀ e size v' m ys∧KeepsOthers W (w1.setCell ⟨B,0,none⟩ v')∧Below n1 W (w1.setCell ⟨B,0,none⟩ v')∧∀ i,i<n₀→i≠B→(w1.setCell ⟨B,0,none⟩ v').heap[i]?=W.heap[i]?:=by
 have hv1:Boxed w1 B t v:=(hv.alloc tmp).kept hgrow (hv.not_row hte hrow)
 have hge:∀ j,v.ownBlock=some j→n₀≤j:=fun j ej=>by
  rcases hrow.2 with ⟨rfl,_⟩|⟨g,cap,cur,rfl,hb,_,_⟩
  ·simp[Value.ownBlock]at ej
  ·obtain rfl:g=j:=by simpa [Value.ownBlock] using ej
   exact hb
 refine⟨hv1,hv1.set v',hown'.kept (grownBy_setCell' w1 B v') (.inr (hv1.not_row hte hown').symm),?_,?_,?_⟩
 ·refine((KeepsOthers.alloc W tmp).trans (KeepsOthers.of_grownBy hgrow fun j o ej hj=>?_)).trans (KeepsOthers.setCell _ _ _)
  rcases(hrow.alloc tmp).2 with ⟨rfl,_⟩|⟨g,cap,cur,rfl,_,hgb,_⟩
  ·simp[Value.ownBlock]at ej
  ·obtain rfl:g=j:=by simpa [Value.ownBlock] using ej
   rw[hgb]at hj;cases hj;rfl
 ·refine(((Below.refl n1 W).alloc (Nat.le_trans hn1 hn₀) tmp).grown hgrow (by simp;omega) fun j ej=>?_).setCell (p:=⟨B,0,none⟩) hB v'
  exact Nat.le_trans hn1 (hge j ej)
 ·intro i hi hne
  have hs:w1.heap.size≥(W.alloc tmp).heap.size:=hgrow.size
  rw[World.size_alloc]at hs
  rw[(grownBy_setCell' w1 B v').block i (by omega) (by simpa using hne)]
  rw[hgrow.block i (by rw[World.size_alloc];omega) (fun e=>by have:=hge i e.symm;omega)]
  exact Below.heap_alloc W tmp i (by omega)
theorem info3:(Tryz.prog.info? 3).map (fun i=>(i.zero,i.size,i.bytes))=some (some (.int .i64 0),1,8):=by kernel_rfl
set_option maxRecDepth 100000 in
set_option maxHeartbeats 2000000 in
theorem dir_in (n l:Int) (hl:0≤l∧l<n) (hb:l≤1000000) (w:World):
  Calls Tryz.prog 32 #[.int .i64 n,.int .i64 l] w fun e W'=>∃ v,e=.returned v∧W'.ownsRow w.heap.size 3 1 v (dirL n l).length ((dirL n l).map (Value.int .i64))∧Below w.heap.size w W':=by
 have hD:dirL n l=dirF 8 n (2*l):=if_pos hl
 have hlen:=dirL_len n l
 rw[hD]at hlen ⊢
 have hw:IntKind.i64.wrap (2*l)=2*l:=wrap_in (by omega)
 obtain⟨i0,hi,hz0,hz1,hz2⟩:=info_parts info3
 have f1:Fence.wide.fn 75:=trivial
 have hn1:¬l<0:=by omega
 have hn2:¬n≤l:=by omega
 have hmx:9≤maxLen:=by decide
 refine(callsIn_wide (n:=8)).1 ?_
 refine callsIn_of_wp_marks Tryz.func32 rfl trivial ?_ rfl
 simp only[Tryz.ntmps32,List.size_toArray,List.length_cons,List.length_nil,Nat.reduceAdd,Nat.reduceSub,Array.replicate_succ,Array.replicate_zero,List.push_toArray,List.append_toArray,List.nil_append,List.cons_append]
 gi_wp2_with (gi_at_call 75;refine(callsIn_wide.2 (bup_ok n (2*l) _)).mono ?_;rintro e w2 ⟨b1,b2,rfl,hM⟩)
 have hgr:=Only.grown0 hM.st.only
 have bO:Boxed w2 w.heap.size 47 (.slice none 0 0):=(Boxed.new w _ _).kept hgr (by simp)
 have hsz:w.heap.size+1≤w2.heap.size:=by have:=hgr.size;rwa [World.size_alloc]at this
 have hB0:Below w.heap.size w w2:=((Below.refl _ w).alloc (Nat.le_refl _) _).trans (hM.st.only.below (by simp) (fun i _ h=>by obtain⟨_,hm,_⟩:=h;cases hm))
 obtain⟨k1,_⟩:=Mem.blf (g:=b1) (hM.upB b1) inferInstance
 obtain⟨k2,_⟩:=Mem.blf (g:=b2) (hM.upB b2) inferInstance
 have hne:b1≠w.heap.size:=by
  rintro rfl
  obtain⟨fr,h1,_⟩:=k1
  rw[show w2.heap[w.heap.size]?=_ from bO]at h1
  simp at h1
 refine wpIn_rangeFunc_ownG rfl (by omega) (gf:=107) (lb:=#[.pointer (some ⟨b1,0,none⟩),.pointer (some ⟨b2,0,none⟩)]) rfl trivial (enters_of Tryz.func107 (by kernel_rfl) rfl)
  (up_stops _ (by omega) b1 b2 n (2*l) w2 k1.lt k2.lt (by rw[k1.cell];rfl) (by rw[k2.cell];rfl)) (fun h k=>Eq.trans k h) (fun W j o o' hj _ _ _=>?kb) (Below.refl _ _) (fun _=>rfl)
  (fun pre W=>(∃ v,Boxed W w.heap.size 47 v∧W.ownsRow w2.heap.size 3 1 v pre.length (pre.map (Value.int .i64))∧True)∧Below w.heap.size w W∧w2.heap.size≤W.heap.size)
  (fun _ _ _=>False)
  (OwnFrom.and (Own.from (holdsRow_own w2.heap.size w.heap.size 47 3 1 (fun pre:List Int=>pre.length) (fun pre=>pre.map (Value.int .i64)) (fun _ _=>True)) _) (OwnFrom.and (ownFrom_below (Nat.le_refl _) (by omega)) (fun s A B row hs hg hr=>Nat.le_trans hs hg.size)))
  (fun _ _ _ _ _ hs _ _=>hs)
  ⟨⟨_,bO,World.ownsRow_nil _ _ _ _,trivial⟩,hB0,Nat.le_refl _⟩
  (fun x=>{ tmps:=#[.int .i64 n,.int .i64 l,undef,undef,.slice none 0 0,.pointer (some ⟨w.heap.size,0,none⟩),.int .i64 x,.int .i64 l,.bool false,.bool false,.int .i64 l,.int .i64 n,.bool false,.bool false,.int .i64 n,.int .i64 l,.int .i64 (2*l),.func (.func 107) #[] #[.pointer (some ⟨b1,0,none⟩),.pointer (some ⟨b2,0,none⟩)],.int .i64 x,undef,undef,undef,undef,undef],defers:=[] }) ?assign ?body ?done ?stop
 case kb=>exact(grownBy_putObj' W j o').block b1 (by have:=k1.lt;have:=(Array.getElem?_eq_some_iff.1 ‹W.heap[j]?=some o›).1;omega) (by have:=k1.lt;simp;omega)
 case assign=>
  intro l x W K hK
  gi_wp2
  exact hK
 case body=>
  rintro l pre x W ⟨⟨v,hv,hrow,-⟩,hB,hsw⟩ hlt
  have hc:=hv.cell
  gi_wp2_with (gi_at_builtin;refine wpListIn_append_own _ rfl _ _ 47 rfl w2.heap.size 3 i0 (.int .i64 0) 1 8 (by kernel_rfl) hi hz0 hz1 hz2 rfl (by decide) _ _ _ rfl (hrow.alloc _) ⟨W.heap.size,0,none⟩ 1 1 [.int .i64 x] rfl rfl (cell_one_new _ _ _) (by simp[Value.oneCell']) (by omega) (by omega) (by simp;omega) ?_;intro v' w1 hown' hgrow _;obtain⟨g',cap',rfl⟩:=ownsRow_succ hown';obtain⟨hv1,hv2,hr2,hk2,hb2,hx2⟩:=Boxed.app2 hv (n1:=w.heap.size) (by decide) hrow hsw (by omega) (Nat.le_refl _) hown' hgrow;have hc1:=hv1.cell;have hf1:=hv1.frozen)
  exact⟨hk2.from _,hx2 b1 k1.lt hne,⟨_,hv2,by simpa using hr2,trivial⟩,hB.trans hb2,Nat.le_trans hsw hb2.size⟩
 case done=>
  rintro D ys W hD rfl ⟨⟨v,hv,hrow,-⟩,hB,hsw⟩ hK
  have hc:=hv.cell
  gi_wp2
  refine⟨by simp,.inl ⟨_,_,rfl,run_takeDeferred hK,?_⟩⟩
  exact⟨_,results_tmp rfl _ _ _,v,rfl,⟨(ownsRow_putObj hrow (.deferred none) hK rfl).1,(ownsRow_putObj hrow (.deferred none) hK rfl).2.imp id fun⟨g,cap,cur,h1,h2,h3⟩=>⟨g,cap,cur,h1,by omega,h3⟩⟩,hB.trans (belowK_b (w:=w) (Nat.le_refl _) W D _ _ (by omega) hK rfl rfl)⟩
 case stop=>
  rintro D c pre W _ _ h _
  exact h.elim
set_option maxRecDepth 100000 in
set_option maxHeartbeats 2000000 in
theorem dir_nil (n l:Int) (hl:l<0∨n≤l) (w:World):Calls Tryz.prog 32 #[.int .i64 n,.int .i64 l] w fun e W'=>e=.returned (.slice none 0 0)∧Below w.heap.size w W':=by
 refine(callsIn_wide (n:=8)).1 ?_
 refine callsIn_of_wp_marks Tryz.func32 rfl trivial ?_ rfl
 simp only[Tryz.ntmps32,List.size_toArray,List.length_cons,List.length_nil,Nat.reduceAdd,Nat.reduceSub,Array.replicate_succ,Array.replicate_zero,List.push_toArray,List.append_toArray,List.nil_append,List.cons_append]
 by_cases h1:l<0
 ·gi_wp2
  exact⟨_,results_tmp rfl _ _ _,rfl,Below.refl _ _⟩
 ·have h2:n≤l:=by omega
  gi_wp2
  exact⟨_,results_tmp rfl _ _ _,rfl,Below.refl _ _⟩
theorem fls_ints8 (l:List Int):fls (ints8 l)=l.map (Value.int .i64):=by
 induction l with
 | nil=>rfl
 | cons x r ih=>
  show fls ([.one (.int .i64 x)]::ints8 r)=_
  rw[fls_cons,ih]
  rfl
theorem own_out {H:Hp} {w W':World} {e:TypeId} {v:Value} {D:List Int} (hf:Fz H w) (ho:W'.ownsRow w.heap.size e 1 v D.length (D.map (Value.int .i64))) (hb:Below w.heap.size w W'):
  Outp H w (fun H' v=>∃ A cap,v=.slice A D.length cap∧Sl H' 1 A (ints8 D)) (.returned v) W':=by
 have hst:St w [] W':=⟨(fun _ h=>by cases h),.nil,(fun _ h=>by cases h),Only.of_below hb fun i hi hge=>by omega⟩
 have hF:∀ b c,H b=some c→∃ t fr,W'.heap[b]?=some (.cells c t fr):=fun b c hc=>by
  obtain⟨t,fr,h⟩:=hf b c hc
  exact⟨t,fr,(hb.block b (hf.lt hc)).trans h⟩
 rcases ho.2 with ⟨rfl,hn⟩|⟨g,cap,cur,rfl,hge,hgb,hnc,hcm,hsz,htk⟩
 ·have hD:D=[]:=List.eq_nil_of_length_eq_zero hn
  subst hD
  exact⟨_,H,rfl,Le.refl _ _,⟨⟨[],rfl,hst,fun _ h=>by cases h⟩,hF⟩,none,0,rfl,Sl.nil _ _ _⟩
 ·have hg0:H g=none:=by
   cases hh:H g with
   | none=>rfl
   | some c=>have:=hf.lt hh;omega
  refine⟨_,fun k=>if k=g then some cur else H k,rfl,⟨fun b c hc=>?_,fun b hb' hn=>?_⟩,⟨⟨[],rfl,hst,fun _ h=>by cases h⟩,fun b c hc=>?_⟩,some ⟨g,0,none⟩,cap,rfl,els_ints8 D,.inr ⟨g,0,cur,rfl,if_pos rfl,fun j u hu=>?_⟩⟩
  ·show(if b=g then some cur else H b)=some c
   rw[if_neg (by rintro rfl;rw[hg0]at hc;cases hc)]
   exact hc
  ·show(if b=g then some cur else H b)=none
   rw[if_neg (by omega)]
   exact hn
  ·have hc:(if b=g then some cur else H b)=some c:=hc
   by_cases e:b=g
   ·rw[if_pos e]at hc
    cases hc
    exact⟨_,_,by rw[e];exact hgb⟩
   ·rw[if_neg e]at hc
    exact hF b c hc
  ·rw[fls_ints8,← htk]at hu
   rw[Nat.zero_add,← Array.getElem?_toList]
   rw[List.getElem?_take]at hu
   split at hu
   ·exact hu
   ·cases hu
theorem bdirect_ok {H:Hp} {w:World} (n l:Int) (hb:l≤1000000) (hf:Fz H w):Calls Tryz.prog 32 #[.int .i64 n,.int .i64 l] w (Outp H w (fun H' v=>∃ A cap,v=.slice A (dirL n l).length cap∧Sl H' 1 A (ints8 (dirL n l)))):=by
 by_cases hl:0≤l∧l<n
 ·refine(dir_in n l hl hb w).mono ?_
  rintro e W' ⟨v,rfl,ho,hB⟩
  exact own_out hf ho hB
 ·refine(dir_nil n l (by omega) w).mono ?_
  rintro e W' ⟨rfl,hB⟩
  have:dirL n l=[]:=if_neg hl
  rw[this]
  exact own_out (e:=3) (D:=[]) hf ⟨rfl,.inl ⟨rfl,rfl⟩⟩ hB
theorem rdirect_out {H:Hp} {w:World} (n l:Int) (hb:-1000000≤l∧l≤1000000) (hf:Fz H w):Calls Tryz.prog 17 #[.int .i64 n,.int .i64 l] w (Outp H w (fun H' v=>∃ A cap,v=.slice A (dirL n l).length cap∧Sl H' 1 A (ints8 (dirL n l)))):=by
 refine(rdirect_ok n l hb (Mem.start hf)).mono ?_
 rintro e w' ⟨v,rfl,A,cap,rfl,hM⟩
 obtain⟨H',hl,hM,hs,_⟩:=hM.fz0
 exact hM.out hl ⟨A,cap,rfl,hs⟩
end Go.Proofs.YtpjodlnlmaaihaaGreat
namespace Go.Proofs.YtpjodlnlmaaihaaGreat
open Go.RowKit Go.Lib
instance {P:Program} {ts:Array TypeId} {ty:TypeId} {cs:List Bool} {k k':IntKind} (x y:Int):StepC P (o_builtin .max ts ty cs [.int k x,.int k' y]) True (.int k (if x<y then y else x)):=⟨fun _ w=>by simp[o_builtin,invoke,go_sem]⟩
def seenL (s:List Int):List Value:=(List.range 65).map fun(i:Nat)=>.bool (decide ((i:Int)∈s))
theorem seenL_at (s:List Int) {i:Int} (h:0≤i∧i≤64):(seenL s)[i.toNat]?=some (.bool (decide (i∈s))):=by
 unfold seenL
 have hi:i.toNat<65:=by omega
 simp[hi,Int.toNat_of_nonneg h.1]
theorem seenL_set (s:List Int) {i:Int} (h:0≤i∧i≤64):(seenL s).set i.toNat (.bool true)=seenL (i::s):=by
 unfold seenL
 refine List.ext_getElem (by simp) fun k h1 h2=>?_
 simp only[List.getElem_set,List.getElem_map,List.getElem_range,List.mem_cons]
 split
 ·rename_i e
  have:(k:Int)=i:=by omega
  simp[this]
 ·rename_i e
  have:(k:Int)≠i:=by omega
  simp[this]
theorem seenL_ok (s:List Int):FdOk (.arr 65 (seenL s)):=⟨by simp[Fd.cells,Fd.size,seenL],fun u hu=>by
 simp only[Fd.cells,seenL,List.mem_map]at hu
 obtain⟨_,_,rfl⟩:=hu
 rfl⟩
theorem seenL_nil:List.replicate 65 (Value.bool false)=seenL []:=rfl
theorem leavesB_drop {s:List Int} {ls:List Lf} {i:Nat} (h:i<ls.length):leavesB s (ls.drop i)=if ls[i]=Lf.zero then leavesB s (ls.drop (i+1)) else decide ((1≤ls[i].name∧ls[i].name≤64)∧ls[i].name∉s)&&leavesB (ls[i].name::s) (ls.drop (i+1)):=by
 rw[List.drop_eq_getElem_cons h,leavesB]
theorem parB_drop {n:Int} {ls:List Lf} {x:Int} {ps:List Pn} {i:Nat} (h:i<ps.length):parB n ls x (ps.drop i)=((ps[i].set||decide ps[i].isZero)&&looseB n ls x none ps[i].loose&&parB n ls (x+2) (ps.drop (i+1))):=by
 rw[List.drop_eq_getElem_cons h,parB]
theorem looseB_drop {n:Int} {ls:List Lf} {x:Int} {o:Option Int} {l:List Int} {i:Nat} (h:i<l.length):looseB n ls x o (l.drop i)=(decide (hld n x l[i]∧nameAt ls l[i]≠0∧∀ q∈o,q<l[i])&&looseB n ls x (some l[i]) (l.drop (i+1))):=by
 rw[List.drop_eq_getElem_cons h,looseB]
def prv (l:List Int):Nat→Option Int
 | 0=>none
 | k+1=>l[k]?
theorem nameAt_at {ls:List Lf} {p:Int} (h0:0≤p) (h:p.toNat<ls.length):nameAt ls p=ls[p.toNat].name:=by
 unfold nameAt
 rw[List.getElem?_eq_getElem h]
theorem hld_rng {n x p:Int} (h:hld n x p):0≤p∧p<n∧thr n x:=by
 by_cases ht:thr n x
 ·obtain⟨-,-,-,-,-,hT,-⟩:=bough_eq ht
  have h1:fro n x=(fd n x).1:=if_pos ht
  have h2:=(fd_eq ht).1
  have h3:pTo n x≤n:=by unfold pTo;rw[if_pos ht];omega
  obtain⟨a,b⟩:=h
  exact⟨by omega,by omega,ht⟩
 ·obtain⟨a,b⟩:=h
  rw[fro_of ht]at a
  rw[til_of ht]at b
  omega
section
variable {H:Hp} {w0 w:World} {L:List Res} {A B:Option Addr} {a b:Nat} {t:Tr} {qs:List (List Fd)}
theorem zero_ok (p:Pn) (C:Option Addr) (c:Nat) (w:World):Calls Tryz.prog 66 #[.agg (fl (p.row C c)).toArray] w fun en w'=>en=.returned (.bool (decide p.isZero))∧St w [] w':=by
 have hM:=Mem.start (Fz.of w)
 refine C_tree_zero ?_
 unfold F_tree_zero
 (((refine mm_box hM ?_;clear hM;intro _ _ hM;refine mop_c trivial ?_;refine mm_ld hM ?_;refine mop_c trivial ?_)))
 cases hs:p.set
 ·rw[Bool.not_false]
  (((refine mguard_yes ?_;refine mop_c trivial ?_;refine mguard_yes ?_;refine mm_ld hM ?_;refine mguard_yes ?_;refine mop_c trivial ?_;refine mguard_yes ?_)))
  (((refine mop_cS trivial ?_ ?_)))
  ·intro h1
   (((refine mop_c trivial ?_;refine mguard_yes ?_;refine mop_c trivial ?_;refine mguard_yes ?_;refine mm_ld hM ?_;refine mguard_yes ?_;refine mop_c trivial ?_;refine mguard_yes ?_)))
   (((refine mop_cS trivial ?_ ?_)))
   ·intro h2
    (((refine mop_c trivial ?_;refine mguard_yes ?_;refine mop_c trivial ?_;refine mguard_yes ?_;refine mm_ld hM ?_;refine mguard_yes ?_;refine mop_c trivial ?_;refine mguard_yes ?_)))
    (((refine mop_cS trivial ?_ ?_)))
    ·intro h3
     (((refine mop_c trivial ?_)))
     exact⟨by rw[decide_eq_true (show p.isZero from⟨hs,h1,h2,List.eq_nil_of_length_eq_zero (by omega)⟩)],hM.st⟩
    ·intro h3
     (((refine mop_c trivial ?_)))
     exact⟨by rw[decide_eq_false (show ¬p.isZero from fun h=>h3 (by rw[h.2.2.2];rfl))],hM.st⟩
   ·intro h2
    (((refine mop_c trivial ?_;(iterate 4 refine mguard_n2 ?_);refine mop_c trivial ?_)))
    exact⟨by rw[decide_eq_false (show ¬p.isZero from fun h=>h2 h.2.2.1)],hM.st⟩
  ·intro h1
   (((refine mop_c trivial ?_;(iterate 4 refine mguard_n2 ?_);refine mop_c trivial ?_;(iterate 4 refine mguard_n2 ?_);refine mop_c trivial ?_)))
   exact⟨by rw[decide_eq_false (show ¬p.isZero from fun h=>h1 h.2.1)],hM.st⟩
 ·rw[Bool.not_true]
  ((((iterate 4 refine mguard_n2 ?_);refine mop_c trivial ?_;(iterate 4 refine mguard_n2 ?_);refine mop_c trivial ?_;(iterate 4 refine mguard_n2 ?_);refine mop_c trivial ?_)))
  exact⟨by rw[decide_eq_false (show ¬p.isZero from fun h=>by rw[h.1]at hs;cases hs)],hM.st⟩
instance (p:Pn) (C:Option Addr) (c:Nat):PurC Tryz.prog 66 [.agg (fl (p.row C c)).toArray] True (.bool (decide p.isZero)):=⟨fun _ w=>zero_ok p C c w⟩
theorem right_ok (h1:Sl H 97 A (t.ls.map Lf.fds)) (h2:Sl H 66 B qs) (h3:All2 (PnF H) qs t.ps) (hl:t.ls.length≤maxLen) (hp:t.ps.length≤maxLen) (hf:Fz H w):
  Calls Tryz.prog 24 #[tv A t.ls.length a B t.ps.length b] w fun en w'=>en=.returned (.bool t.right)∧St w [] w':=by
 have hM:=Mem.start hf
 refine C_tree_Right ?_
 unfold F_tree_Right
 have hl':t.ls.length≤9223372036854775807:=hl
 have hp':t.ps.length≤9223372036854775807:=hp
 have hq:qs.length=t.ps.length:=h3.len
 have hts:t.size=t.ls.length:=rfl
 (((refine mm_box hM ?_;clear hM;intro _ _ hM;refine mop_c trivial ?_;refine mm_ld hM ?_;refine mop_c trivial ?_)))
 rename_i g1 _
 refine⟨fun v w'=>v=.bool (!decide (t.ls.length≤64∧t.ps.length=t.ls.length - 1))∧hM.now w',?_,?_⟩
 ·(((refine mop_cS trivial ?_ ?_)))
  ·intro h
   ((((iterate 7 refine mguard_n1 ?_);refine mop_c trivial ?_)))
   exact⟨by rw[decide_eq_false (by omega)];rfl,hM⟩
  ·intro h
   (((refine mguard_yes ?_;refine mop_c trivial ?_;refine mguard_yes ?_;refine mm_ld hM ?_;refine mguard_yes ?_;refine mop_c trivial ?_;refine mguard_yes ?_;refine mop_c trivial ?_;refine mguard_yes ?_;refine mop_c ?_ ?_));(focus omega);((refine mguard_yes ?_;refine mop_c trivial ?_;refine mguard_yes ?_)))
   rw[show(if (t.ls.length:Int) - 1<0 then 0 else (t.ls.length:Int) - 1)=((t.ls.length - 1:Nat):Int) by split <;> omega]
   (((refine mop_cS trivial ?_ ?_)))
   ·intro h4
    (((refine mop_c trivial ?_)))
    exact⟨by rw[decide_eq_false (by omega)];rfl,hM⟩
   ·intro h4
    (((refine mop_c trivial ?_)))
    exact⟨by rw[decide_eq_true (by omega)];rfl,hM⟩
 rintro v u w2 ⟨rfl,hM⟩
 by_cases hsz:t.ls.length≤64∧t.ps.length=t.ls.length - 1
 case neg=>
  rw[decide_eq_false hsz]
  (((refine mif_nf ?_)))
  refine⟨?_,hM.st⟩
  unfold Tr.right
  rw[decide_eq_false hsz]
  rfl
 rw[decide_eq_true hsz]
 (((refine mif_nt ?_;refine mm_new hM ?_;clear hM;intro _ _ hM;refine mop_c trivial ?_;refine mm_ld hM ?_;refine mop_c trivial ?_)))
 rename_i g2 _
 rw[seenL_nil]at hM
 refine⟨fun v w'=>∃ (i:Nat) (s:List Int),v=.int .i64 i∧i≤t.ls.length∧leavesB [] t.ls=leavesB s (t.ls.drop i)∧Mem H w [fb g2 116 [.arr 65 (seenL s)],fb g1 25 (tfd A t.ls.length a B t.ps.length b)] w',fun v _=>match v with | .int _ k=>t.ls.length - k.toNat|_=>0,⟨0,[],rfl,by omega,rfl,hM⟩,?_⟩
 clear hM
 rintro v u2 w3 ⟨i,s,rfl,hi,hb,hM⟩
 have hso:=seenL_ok s
 (((refine mop_cS trivial ?_ ?_)))
 ·intro hlt
  have hdr:=leavesB_drop (s:=s) (ls:=t.ls) (i:=i) (by omega)
  (((refine mif_true ?_)))
  refine⟨fun w'=>∃ s',leavesB [] t.ls=leavesB s' (t.ls.drop (i+1))∧Mem H w [fb g2 116 [.arr 65 (seenL s')],fb g1 25 (tfd A t.ls.length a B t.ps.length b)] w',?_,?_⟩
  ·((refine mm_ixs ‹_› ?_ ?_ ?_);(focus (simp only[List.length_map];omega));(focus (simp only[List.length_map];first|done|omega));((intro _ _ hA));(cases hA);(refine mm_lds0 hM ‹_› (map_atI ?_) ?_);(focus omega);((refine mm_new hM ?_;clear hM;intro _ _ hM;refine mm_st hM ?_;clear hM;intro _ hM;refine mm_ld hM ?_;refine mop_c trivial ?_)))
   (((refine mop_cS trivial ?_ ?_)))
   ·intro hz
    (((refine mif_true ?_)))
    exact⟨s,by rw[hb,hdr,if_pos ((lf_zero _).2 hz)],hM.sub⟩
   ·intro hz
    rw[if_neg (fun e=>hz ((lf_zero _).1 e))]at hdr
    (((refine mif_false ?_)))
    refine⟨fun v w'=>v=.bool (!decide ((1≤t.ls[i].name∧t.ls[i].name≤64)∧t.ls[i].name∉s))∧hM.now w',?_,?_⟩
    ·(((refine mop_c trivial ?_;refine mm_ld hM ?_)))
     (((refine mop_cS trivial ?_ ?_)))
     ·intro h
      ((((iterate 3 refine mguard_n1 ?_);refine mop_c trivial ?_;(iterate 4 refine mguard_n1 ?_);refine mop_c trivial ?_)))
      exact⟨by rw[decide_eq_false (by omega)];rfl,hM⟩
     ·intro h
      (((refine mguard_yes ?_;refine mop_c trivial ?_;refine mguard_yes ?_;refine mm_ld hM ?_;refine mguard_yes ?_)))
      (((refine mop_cS trivial ?_ ?_)))
      ·intro h4
       (((refine mop_c trivial ?_;(iterate 4 refine mguard_n1 ?_);refine mop_c trivial ?_)))
       exact⟨by rw[decide_eq_false (by omega)];rfl,hM⟩
      ·intro h4
       have hs:=seenL_at s (i:=t.ls[i].name) (by omega)
       (((refine mop_c trivial ?_;refine mguard_yes ?_;refine mop_c trivial ?_;refine mguard_yes ?_;refine mm_ld hM ?_;refine mguard_yes ?_;refine mop_c ?_ ?_));(focus omega);((refine mguard_yes ?_)))
       refine mm_ldj hM hs ?_
       (((refine mop_c trivial ?_)))
       exact⟨by simp[show 1≤t.ls[i].name by omega,show t.ls[i].name≤64 by omega],hM⟩
    rintro v u4 w5 ⟨rfl,hM⟩
    by_cases hc:(1≤t.ls[i].name∧t.ls[i].name≤64)∧t.ls[i].name∉s
    ·rw[decide_eq_true hc]
     (((refine mif_nt ?_;refine mop_c trivial ?_;refine mm_ld hM ?_;refine mop_c ?_ ?_));(focus omega);((refine mm_sta hM ?_ ?_));(focus omega);((clear hM;intro _ hM)))
     rw[seenL_set s (by omega)]at hM
     exact⟨t.ls[i].name::s,by rw[hb,hdr,decide_eq_true hc,Bool.true_and],hM.sub⟩
    ·rw[decide_eq_false hc]
     (((refine mif_nf ?_)))
     refine⟨?_,hM.st⟩
     unfold Tr.right
     rw[hb,hdr,decide_eq_false hc]
     simp
  ·rintro u3 w4 ⟨s',hb',hM⟩
   (((refine mop_c ?_ ?_));(focus omega))
   exact⟨⟨i+1,s',rfl,by omega,hb',hM⟩,by simp only;omega⟩
 ·intro hge
  have hls:leavesB [] t.ls=true:=by
   rw[hb,List.drop_eq_nil_of_le (by omega)]
   rfl
  (((refine mif_false ?_;refine mop_c trivial ?_;refine mm_ld hM ?_;refine mop_c trivial ?_)))
  have hM:=hM.at_ (fb g1 25 (tfd A t.ls.length a B t.ps.length b))
  refine⟨fun v w'=>∃ i:Nat,v=.int .i64 i∧i≤t.ps.length∧parB t.size t.ls 1 t.ps=parB t.size t.ls (2*i+1) (t.ps.drop i)∧Mem H w [fb g1 25 (tfd A t.ls.length a B t.ps.length b)] w',fun v _=>match v with | .int _ k=>t.ps.length - k.toNat|_=>0,⟨0,rfl,by omega,rfl,hM.sub⟩,?_⟩
  clear hM hi hb hge hso
  rintro v u5 w5 ⟨i,rfl,hi,hb,hM⟩
  (((refine mop_cS trivial ?_ ?_)))
  ·intro hlt
   obtain⟨p,hpe⟩:∃ p,t.ps[i]=p:=⟨_,rfl⟩
   obtain⟨q,hq1,C,c,rfl,hC,hcl⟩:=h3.at_ (i:=i) (by omega)
   have hdr:=parB_drop (n:=t.size) (ls:=t.ls) (x:=2*i+1) (ps:=t.ps) (i:=i) (by omega)
   rw[hpe]at hq1 hC hcl hdr
   have hcl':p.loose.length≤9223372036854775807:=hcl
   (((refine mif_true ?_)))
   refine mm_ixs h2 (by omega) hq.symm (fun bb oo hB=>?_)
   cases hB
   refine mm_lds0 hM h2 hq1 ?_
   (((refine mm_new hM ?_;clear hM;intro _ _ hM;refine mm_st hM ?_;clear hM;intro _ hM)))
   rename_i g3 _ _
   refine⟨fun v w'=>v=.bool (!(p.set||decide p.isZero))∧hM.now w',?_,?_⟩
   ·(((refine mop_c trivial ?_;refine mm_ld hM ?_;refine mop_c trivial ?_)))
    rcases Bool.eq_false_or_eq_true p.set with hs|hs
    ·have e:(!p.set)=false:=by rw[hs];rfl
     rw[e]
     ((((iterate 3 refine mguard_n2 ?_);refine mop_c trivial ?_)))
     exact⟨by rw[hs,Bool.true_or];rfl,hM⟩
    ·have e:(!p.set)=true:=by rw[hs];rfl
     rw[e]
     (((refine mguard_yes ?_;refine mm_ld hM ?_;refine mguard_yes ?_;refine mm_purC hM ?_ (fun _ hM2=>?_)));(focus (first|exact trivial|assumption|omega));((replace hM:=hM2;clear hM2;refine mguard_yes ?_;refine mop_c trivial ?_;refine mop_c trivial ?_)))
     exact⟨by rw[hs,Bool.false_or],hM⟩
   rintro v u6 w6 ⟨rfl,hM⟩
   cases hz:(p.set||decide p.isZero)
   ·rw[Bool.not_false]
    (((refine mif_true ?_)))
    refine⟨?_,hM.st⟩
    unfold Tr.right
    rw[hb,hdr,hz]
    simp
   rw[hz,Bool.true_and]at hdr
   rw[Bool.not_true]
   (((refine mif_false ?_;refine mop_c trivial ?_;refine mm_ld hM ?_;refine mop_c trivial ?_)))
   refine⟨fun v w'=>∃ k:Nat,v=.int .i64 k∧k≤p.loose.length∧looseB t.size t.ls (2*i+1) none p.loose=looseB t.size t.ls (2*i+1) (prv p.loose k) (p.loose.drop k)∧hM.now w',fun v _=>match v with | .int _ k=>p.loose.length - k.toNat|_=>0,⟨0,rfl,by omega,rfl,hM⟩,?_⟩
   rintro v u7 w7 ⟨k,rfl,hk,hlb,hM⟩
   (((refine mop_cS trivial ?_ ?_)))
   ·intro hlt2
    obtain⟨x,hx⟩:∃ x,p.loose[k]=x:=⟨_,rfl⟩
    have hdl:=looseB_drop (n:=t.size) (ls:=t.ls) (x:=2*i+1) (o:=prv p.loose k) (l:=p.loose) (i:=k) (by omega)
    rw[hx]at hdl
    (((refine mif_true ?_));(refine mm_ixs ‹_› ?_ ?_ ?_);(focus (simp only[List.length_map];omega));(focus (simp only[List.length_map];first|done|omega));((intro _ _ hA));(cases hA);(refine mm_lds0 hM ‹_› (map_atI ?_) ?_);(focus omega))
    rw[hx]
    refine⟨fun v w'=>v=.bool (!decide (hld t.size (2*i+1) x∧nameAt t.ls x≠0∧∀ q∈prv p.loose k,q<x))∧hM.now w',?_,?_⟩
    ·(((refine mop_c ?_ ?_));(focus omega);((refine mop_c ?_ ?_));(focus omega);((refine mm_purC hM ?_ (fun _ hM2=>?_)));(focus (first|exact trivial|assumption|omega));((replace hM:=hM2;clear hM2;refine mop_c trivial ?_)))
     by_cases hh:hld t.size (2*i+1) x
     ·obtain⟨r1,r2,-⟩:=hld_rng hh
      have hna:=nameAt_at (ls:=t.ls) (p:=x) r1 (by omega)
      rw[decide_eq_true hh,Bool.not_true]
      (((refine mguard_yes ?_;refine mop_c trivial ?_;refine mguard_yes ?_;refine mm_ld hM ?_;refine mguard_yes ?_;refine mop_c trivial ?_;refine mguard_yes ?_));(refine mm_ixs ‹_› ?_ ?_ ?_);(focus (simp only[List.length_map];omega));(focus (simp only[List.length_map];first|done|omega));((intro _ _ hA));(cases hA);((refine mguard_yes ?_;refine mop_c trivial ?_;refine mguard_yes ?_));(refine mm_lds hM ‹_› (map_at ?_) ?_);(focus omega);((refine mguard_yes ?_)))
      rw[← hna]
      (((refine mop_cS trivial ?_ ?_)))
      ·intro h5
       (((refine mop_c trivial ?_;(iterate 3 refine mguard_n1 ?_);(iterate 8 refine mguard_un ?_);refine mguard_n1 ?_;refine mop_c trivial ?_)))
       exact⟨by rw[decide_eq_false (fun h=>h.2.1 h5)];rfl,hM⟩
      ·intro h5
       cases k with
       | zero=>
        (((refine mop_c trivial ?_;refine mguard_yes ?_;refine mop_c trivial ?_;refine mguard_yes ?_;refine mop_cF trivial ?_ ?_));(focus (first|assumption|omega|with_reducible rfl|exact fun h=>Bool.noConfusion h));((refine mguard_yes ?_;refine mop_c trivial ?_;(iterate 8 refine mguard_n2 ?_);refine mguard_yes ?_;refine mop_c trivial ?_;refine mop_c trivial ?_)))
        exact⟨by rw[decide_eq_true ⟨hh,h5,by simp[prv]⟩];rfl,hM⟩
       | succ k=>
        have hix:(((k+1:Nat):Int) - 1).toNat=k:=by omega
        have hpv:prv p.loose (k+1)=some p.loose[k]:=List.getElem?_eq_getElem (by omega)
        (((refine mop_c trivial ?_;refine mguard_yes ?_;refine mop_c trivial ?_;refine mguard_yes ?_;refine mop_cT trivial ?_ ?_));(focus (first|assumption|omega|with_reducible rfl|exact fun h=>Bool.noConfusion h));((refine mguard_yes ?_;refine mop_c trivial ?_;refine mguard_yes ?_;refine mop_c trivial ?_;refine mguard_yes ?_;refine mop_c trivial ?_;refine mguard_yes ?_;refine mm_ld hM ?_;refine mguard_yes ?_;refine mop_c trivial ?_;refine mguard_yes ?_;refine mop_c ?_ ?_));(focus omega);((refine mguard_yes ?_));(refine mm_ixs ‹_› ?_ ?_ ?_);(focus (simp only[List.length_map];omega));(focus (simp only[List.length_map];first|done|omega));((intro _ _ hA));(cases hA);((refine mguard_yes ?_));(refine mm_lds0 hM ‹_› (map_at ?_) ?_);(focus omega);((refine mguard_yes ?_)))
        (((refine mop_cS trivial ?_ ?_)))
        ·intro h6
         simp only[hix]at h6
         (((refine mguard_yes ?_;refine mop_c trivial ?_;refine mop_c trivial ?_)))
         exact⟨by rw[decide_eq_false (fun h=>by have:=h.2.2 _ hpv;omega)];rfl,hM⟩
        ·intro h6
         simp only[hix]at h6
         (((refine mguard_yes ?_;refine mop_c trivial ?_;refine mop_c trivial ?_)))
         exact⟨by rw[decide_eq_true ⟨hh,h5,fun q hq=>by rw[hpv]at hq;cases hq;omega⟩];rfl,hM⟩
     ·rw[decide_eq_false hh,Bool.not_false]
      ((((iterate 7 refine mguard_n1 ?_);refine mop_c trivial ?_;(iterate 3 refine mguard_n1 ?_);(iterate 8 refine mguard_un ?_);refine mguard_n1 ?_;refine mop_c trivial ?_)))
      exact⟨by rw[decide_eq_false (fun h=>hh h.1)];rfl,hM⟩
    rintro v u8 w8 ⟨rfl,hM⟩
    by_cases hc:hld t.size (2*i+1) x∧nameAt t.ls x≠0∧∀ q∈prv p.loose k,q<x
    ·rw[decide_eq_true hc,Bool.not_true]
     rw[decide_eq_true hc,Bool.true_and]at hdl
     (((refine mif_false ?_;refine mop_c ?_ ?_));(focus omega))
     refine⟨⟨k+1,rfl,by omega,?_,hM⟩,by simp only;omega⟩
     rw[hlb,hdl,prv,List.getElem?_eq_getElem (by omega),hx]
    ·rw[decide_eq_false hc,Bool.not_false]
     (((refine mif_true ?_)))
     refine⟨?_,hM.st⟩
     unfold Tr.right
     rw[hb,hdr,hlb,hdl,decide_eq_false hc]
     simp
   ·intro hge2
    have hl2:looseB t.size t.ls (2*i+1) none p.loose=true:=by
     rw[hlb,List.drop_eq_nil_of_le (by omega)]
     rfl
    rw[hl2,Bool.true_and]at hdr
    (((refine mif_false ?_;refine mop_c ?_ ?_));(focus omega))
    refine⟨⟨i+1,rfl,by omega,?_,hM.sub⟩,by simp only;omega⟩
    rw[hb,hdr]
    congr 1
  ·intro hge
   have hps:parB t.size t.ls 1 t.ps=true:=by
    rw[hb,List.drop_eq_nil_of_le (by omega)]
    rfl
   have hR:t.right=decide (t.ls=[]∨0<nameAt t.ls (t.size - 1)):=by
    unfold Tr.right
    rw[hls,hps,decide_eq_true hsz]
    simp
   (((refine mif_false ?_)))
   (((refine mop_cS trivial ?_ ?_)))
   ·intro h0
    ((((iterate 8 refine mguard_n1 ?_);refine mop_c trivial ?_)))
    exact⟨by rw[hR,decide_eq_true (.inl (List.eq_nil_of_length_eq_zero (by omega)))],hM.st⟩
   ·intro h0
    (((refine mguard_yes ?_;refine mop_c trivial ?_;refine mguard_yes ?_;refine mm_ld hM ?_;refine mguard_yes ?_;refine mop_c trivial ?_;refine mguard_yes ?_;refine mop_c ?_ ?_));(focus omega);((refine mguard_yes ?_));(refine mm_ixs ‹_› ?_ ?_ ?_);(focus (simp only[List.length_map];omega));(focus (simp only[List.length_map];first|done|omega));((intro _ _ hA));(cases hA);((refine mguard_yes ?_;refine mop_c trivial ?_;refine mguard_yes ?_));(refine mm_lds hM ‹_› (map_at ?_) ?_);(focus omega);((refine mguard_yes ?_)))
    rw[← nameAt_at (ls:=t.ls) (p:=(t.ls.length:Int) - 1) (by omega) (by omega)]
    (((refine mop_cS trivial ?_ ?_)))
    ·intro h9
     (((refine mop_c trivial ?_)))
     exact⟨by rw[hR,decide_eq_true (.inr h9)],hM.st⟩
    ·intro h9
     (((refine mop_c trivial ?_)))
     exact⟨by rw[hR,decide_eq_false (fun h=>h.elim (fun h=>h0 (by rw[h];rfl)) h9)],hM.st⟩
end
end Go.Proofs.YtpjodlnlmaaihaaGreat
namespace Go.Proofs.YtpjodlnlmaaihaaGreat
open Go.RowKit
theorem dir_cands {n l:Int} (h:0≤l∧l<n∧n≤64):dirL n l=cands n.toNat l.toNat:=by
 have:=dir_fin ⟨n.toNat,by omega⟩ ⟨l.toNat,by omega⟩ (by simp only;omega)
 simpa only [Int.toNat_of_nonneg h.1,Int.toNat_of_nonneg (show 0≤n by omega)] using this
theorem mem_cands {n l:Nat} {x:Int}:x∈cands n l↔∃ k,(1≤k∧k≤6)∧cand k l=x∧x≤2*n - 2:=by
 unfold cands
 simp only[List.mem_filter,List.mem_map,decide_eq_true_eq]
 constructor
 ·rintro⟨⟨k,hk,rfl⟩,h⟩
  exact⟨k,by simp at hk;omega,rfl,h⟩
 ·rintro⟨k,hk,rfl,h⟩
  refine⟨⟨k,?_,rfl⟩,h⟩
  simp only[List.mem_cons,List.not_mem_nil,or_false]
  omega
theorem cand_eq {k l:Nat} (hk:1≤k∧k≤6) (hl:l<64):cand k l%2=1∧0≤cand k l∧cand k l<127∧level (cand k l)=k:=cand_fin ⟨k,by omega⟩ ⟨l,hl⟩ hk.1
theorem mem_dir {n l:Int} {i:Nat} (h:0≤l∧l<n∧n≤64) (hi:(i:Int)+1<n):2*(i:Int)+1∈dirL n l↔hld n (2*i+1) l:=by
 have ht:thr n (2*i+1):=⟨by omega,by omega,by omega⟩
 obtain⟨-,-,-,-,hF,hT,-⟩:=bough_eq ht
 obtain⟨⟨h1,h2⟩,h3⟩:=hold_fin ⟨i,by omega⟩ ⟨l.toNat,by omega⟩
 simp only[Int.toNat_of_nonneg h.1]at h1 h2 h3
 rw[dir_cands h,mem_cands]
 unfold hld
 rw[← hF,← hT]
 unfold pFrom pTo
 rw[if_pos ht,if_pos ht]
 have hmin:l<min ((2*(i:Int)+1+1+pw (level (2*i+1))) / 2) n↔l<(2*(i:Int)+1+1+pw (level (2*i+1))) / 2:=by omega
 rw[hmin,h3]
 constructor
 ·rintro⟨k,hk,hc,-⟩
  have hl:=(cand_eq (l:=l.toNat) hk (by omega)).2.2.2
  rw[hc]at hl
  rw[hl]
  exact hc
 ·intro hc
  exact⟨(level (2*i+1)).toNat,by omega,hc,by omega⟩
theorem dir_mem {n l x:Int} (h:n≤64) (hx:x∈dirL n l):(0≤l∧l<n)∧x=2*(x / 2)+1∧0≤x / 2∧x / 2+1<n:=by
 by_cases hl:0≤l∧l<n
 ·rw[dir_cands ⟨hl.1,hl.2,h⟩,mem_cands]at hx
  obtain⟨k,hk,rfl,hle⟩:=hx
  obtain⟨h1,h2,-⟩:=cand_eq (l:=l.toNat) hk (by omega)
  refine⟨hl,?_⟩
  have:((n.toNat:Nat):Int)=n:=Int.toNat_of_nonneg (by omega)
  omega
 ·unfold dirL at hx
  rw[if_neg hl]at hx
  cases hx
theorem dir_nodup {n l:Int} (h:n≤64):(dirL n l).Nodup:=by
 by_cases hl:0≤l∧l<n
 ·rw[dir_cands ⟨hl.1,hl.2,h⟩]
  unfold cands
  have hc:∀ k,1≤k→k≤6→level (cand k l.toNat)=k:=fun k h1 h2=>(cand_eq (l:=l.toNat) ⟨h1,h2⟩ (by omega)).2.2.2
  have hne:∀ a b:Nat,1≤a→a≤6→1≤b→b≤6→a≠b→cand a l.toNat≠cand b l.toNat:=fun a b h1 h2 h3 h4 hn e=>by
   have:=hc a h1 h2
   rw[e,hc b h3 h4]at this
   omega
  have hm:([1,2,3,4,5,6].map fun k=>cand k l.toNat).Nodup:=by
   simp only[List.map_cons,List.map_nil,List.nodup_cons,List.mem_cons,List.not_mem_nil,or_false,not_or,not_false_eq_true,List.nodup_nil,and_true]
   refine⟨⟨?_,?_,?_,?_,?_⟩,⟨?_,?_,?_,?_⟩,⟨?_,?_,?_⟩,⟨?_,?_⟩,?_⟩ <;> exact hne _ _ (by omega) (by omega) (by omega) (by omega) (by omega)
  exact List.Pairwise.filter _ hm
 ·unfold dirL
  rw[if_neg hl]
  exact List.nodup_nil
def fix {α:Type} (f:α→Bool) (l:List α):Int:=if l.findIdx f<l.length then (l.findIdx f:Int) else -1
theorem findIdx_at {α:Type} {f:α→Bool} {l:List α} {i:Nat} (h:i<l.length) (hb:∀ j (hj:j<l.length),j<i→f l[j]=false) (ht:f l[i]=true):l.findIdx f=i:=by
 rw[List.findIdx_eq h]
 exact⟨ht,fun j hj=>by simpa using hb j (by omega) hj⟩
theorem findIdx_none {α:Type} {f:α→Bool} {l:List α} (hb:∀ j (hj:j<l.length),f l[j]=false):l.findIdx f=l.length:=by
 rw[List.findIdx_eq_length]
 intro x hx
 obtain⟨j,hj,rfl⟩:=List.getElem_of_mem hx
 simpa using hb j hj
theorem fix_at {α:Type} {f:α→Bool} {l:List α} {i:Nat} (h:i<l.length) (hb:∀ j (hj:j<l.length),j<i→f l[j]=false) (ht:f l[i]=true):fix f l=i:=by
 unfold fix
 rw[findIdx_at h hb ht,if_pos h]
theorem fix_none {α:Type} {f:α→Bool} {l:List α} (hb:∀ j (hj:j<l.length),f l[j]=false):fix f l = -1:=by
 unfold fix
 rw[findIdx_none hb,if_neg (by omega)]
def Tr.place (t:Tr) (name:Int):Int:=if name<1 then -1 else fix (fun l=>decide (l.name=name)) t.ls
def Tr.sound (t:Tr):Tr:=if t.right then t else Tr.none
def putL (l:List Int) (x:Int):List Int:=l.takeWhile (·≤x)++x::l.dropWhile (·≤x)
def bs' (l:List Int) (x:Int):Nat:=l.findIdx (fun y=>decide (x≤y))
def ins (l:List Int) (x:Int):List Int:=l.take (bs' l x)++x::l.drop (bs' l x)
theorem put_ins:∀ {l:List Int} {x:Int},x∉l→ins l x=putL l x
 | [],x,_=>by simp[ins,putL]
 | y::r,x,h=>by
  simp only[List.mem_cons,not_or]at h
  have ih:=put_ins h.2
  by_cases hy:y≤x
  ·have h1:bs' (y::r) x=bs' r x+1:=by
    unfold bs'
    rw[List.findIdx_cons,decide_eq_false (by omega)]
    rfl
   have e1:ins (y::r) x=y::ins r x:=by unfold ins;rw[h1];rfl
   have e2:putL (y::r) x=y::putL r x:=by
    unfold putL
    rw[List.takeWhile_cons,List.dropWhile_cons,decide_eq_true hy]
    rfl
   rw[e1,e2,ih]
  ·have h1:bs' (y::r) x=0:=by
    unfold bs'
    rw[List.findIdx_cons,decide_eq_true (by omega)]
    rfl
   have e1:ins (y::r) x=x::y::r:=by unfold ins;rw[h1];rfl
   have e2:putL (y::r) x=x::y::r:=by
    unfold putL
    rw[List.takeWhile_cons,List.dropWhile_cons,decide_eq_false hy]
    rfl
   rw[e1,e2]
theorem looseB_spec {n:Int} {ls:List Lf} {x:Int}:∀ {o:Option Int} {l:List Int},looseB n ls x o l=true→(∀ p∈l,hld n x p∧nameAt ls p≠0∧∀ q∈o,q<p)∧l.Pairwise (·<·)
 | _,[],_=>⟨fun _ h=>(by cases h),.nil⟩
 | o,p::r,h=>by
  simp only[looseB,Bool.and_eq_true,decide_eq_true_eq]at h
  obtain⟨h1,h2⟩:=h
  obtain⟨h3,h4⟩:=looseB_spec h2
  refine⟨fun y hy=>?_,.cons (fun y hy=>(h3 y hy).2.2 p rfl) h4⟩
  rcases List.mem_cons.1 hy with rfl|hy
  ·exact h1
  ·obtain⟨a,b,c⟩:=h3 y hy
   exact⟨a,b,fun q hq=>by have:=h1.2.2 q hq;have:=c p rfl;omega⟩
theorem parB_spec {n:Int} {ls:List Lf}:∀ {x:Int} {ps:List Pn},parB n ls x ps=true→∀ i (hi:i<ps.length),(ps[i].set=true∨ps[i].isZero)∧looseB n ls (x+2*i) none ps[i].loose=true
 | _,[],_,i,hi=>by cases hi
 | x,p::r,h,i,hi=>by
  simp only[parB,Bool.and_eq_true,Bool.or_eq_true,decide_eq_true_eq]at h
  cases i with
  | zero=>simpa using h.1
  | succ i=>
   have:=parB_spec h.2 i (by simpa using hi)
   have e:x+2*((i+1:Nat):Int)=x+2+2*(i:Int):=by omega
   rw[e]
   simpa using this
theorem leavesB_spec:∀ {s:List Int} {ls:List Lf},leavesB s ls=true→∀ l∈ls,l=Lf.zero∨(1≤l.name∧l.name≤64)
 | _,[],_,_,h=>by cases h
 | s,l::r,h,x,hx=>by
  unfold leavesB at h
  split at h
  ·rename_i hz
   rcases List.mem_cons.1 hx with rfl|hx
   ·exact .inl hz
   ·exact leavesB_spec h x hx
  ·simp only[Bool.and_eq_true,decide_eq_true_eq]at h
   rcases List.mem_cons.1 hx with rfl|hx
   ·exact .inr h.1.1
   ·exact leavesB_spec h.2 x hx
structure Tr.Rt (t:Tr):Prop where
 len:t.ls.length≤64∧t.ps.length=t.ls.length - 1
 leaves:leavesB [] t.ls=true
 par:parB t.size t.ls 1 t.ps=true
 last:t.ls=[]∨0<nameAt t.ls (t.size - 1)
theorem Tr.rt {t:Tr}:t.right=true↔t.Rt:=by
 unfold Tr.right
 simp only[Bool.and_eq_true,decide_eq_true_eq]
 exact⟨fun⟨⟨⟨a,b⟩,c⟩,d⟩=>⟨a,b,c,d⟩,fun⟨a,b,c,d⟩=>⟨⟨⟨a,b⟩,c⟩,d⟩⟩
theorem Lf.zero_name {l:Lf} (h:l=Lf.zero∨(1≤l.name∧l.name≤64)):l=Lf.zero↔l.name=0:=by
 constructor
 ·rintro rfl
  rfl
 ·intro e
  exact h.resolve_right (by omega)
def Tr.gap (t:Tr):Nat:=t.ls.findIdx fun l=>decide (l.name=0)
theorem Tr.gap_le (t:Tr):t.gap≤t.ls.length:=List.findIdx_le_length
theorem Tr.Rt.gap_eq {t:Tr} (h:t.Rt):(t.ls.findIdx fun l=>decide (l=Lf.zero))=t.gap:=by
 have:=leavesB_spec h.leaves
 unfold Tr.gap
 revert this
 generalize t.ls=ls
 intro hl
 induction ls with
 | nil=>rfl
 | cons l r ih=>
  rw[List.findIdx_cons,List.findIdx_cons,ih fun x hx=>hl x (List.mem_cons_of_mem _ hx)]
  simp only[Lf.zero_name (hl l (List.mem_cons_self ..))]
def addL (t:Tr) (l:Lf):List Lf:=(if t.gap=t.ls.length then t.ls++[l] else t.ls).set t.gap l
def addPs (t:Tr):List Pn:=if t.gap=t.ls.length∧0<t.gap then t.ps++[Pn.zero] else t.ps
theorem addL_len (t:Tr) (l:Lf):(addL t l).length=if t.gap=t.ls.length then t.ls.length+1 else t.ls.length:=by
 unfold addL
 split <;> simp
def Tr.addR (t:Tr) (l:Lf):Tr × Int × Int:=
 if l.name<1∨64<l.name then (Tr.none,0,1) else if 0≤t.place l.name then (Tr.none,0,8) else if t.gap=64 then (Tr.none,0,9) else
 (⟨addL t l,(addPs t).mapIdx fun i p=>if p.set=true∧hld (addL t l).length (2*i+1) t.gap then { p with loose:=putL p.loose t.gap } else p⟩,t.gap,0)
def updA (x:Int) (p:Pn):Pn:=if p.set=true then { p with loose:=ins p.loose x } else p
def onDir (f:Pn→Pn) (D:List Int) (ps:List Pn):List Pn:=D.foldl (fun ps x=>ps.modify (x / 2).toNat f) ps
def Tr.addP (t:Tr) (l:Lf):Tr × Int × Int:=
 if ¬t.right=true∨l.name<1∨64<l.name then (Tr.none,0,1) else if 0≤t.place l.name then (Tr.none,0,8) else if t.gap=t.ls.length∧t.gap=64 then (Tr.none,0,9) else
 (⟨addL t l,onDir (updA t.gap) (dirL (addL t l).length t.gap) (addPs t)⟩,t.gap,0)
theorem onDir_eq {f:Pn→Pn}:∀ {D:List Int} {ps:List Pn},D.Nodup→(∀ x∈D,x=2*(x / 2)+1∧0≤x / 2)→onDir f D ps=ps.mapIdx fun i p=>if 2*(i:Int)+1∈D then f p else p
 | [],ps,_,_=>by
  unfold onDir
  refine List.ext_getElem (by simp) fun i h1 h2=>?_
  simp
 | x::D,ps,hn,hD=>by
  have hn':=List.nodup_cons.1 hn
  have ih:=onDir_eq (f:=f) (D:=D) (ps:=ps.modify (x / 2).toNat f) hn'.2 fun y hy=>hD y (List.mem_cons_of_mem _ hy)
  have hx:=hD x (List.mem_cons_self ..)
  unfold onDir at ih ⊢
  rw[List.foldl_cons,ih]
  refine List.ext_getElem (by simp) fun i h1 h2=>?_
  simp only[List.getElem_mapIdx,List.getElem_modify,List.mem_cons]
  by_cases e:(x / 2).toNat=i
  ·have e2:2*(i:Int)+1=x:=by omega
   rw[if_pos e,if_neg (by rw[e2];exact hn'.1),if_pos (.inl e2)]
  ·have e2:¬2*(i:Int)+1=x:=by omega
   rw[if_neg e]
   simp only[e2,false_or]
theorem onDir_dir {f:Pn→Pn} {n l:Int} {ps:List Pn} (h:0≤l∧l<n∧n≤64) (hp:(ps.length:Int)+1=n):onDir f (dirL n l) ps=ps.mapIdx fun i p=>if hld n (2*i+1) l then f p else p:=by
 rw[onDir_eq (dir_nodup h.2.2) fun x hx=>by have:=dir_mem h.2.2 hx;omega]
 refine List.ext_getElem (by simp) fun i h1 h2=>?_
 simp only[List.getElem_mapIdx,List.length_mapIdx]at h1 ⊢
 simp only[mem_dir h (show(i:Int)+1<n by omega)]
theorem addPs_len {t:Tr} (h:t.Rt) (l:Lf):((addPs t).length:Int)+1=(addL t l).length:=by
 have:=t.gap_le
 have:=h.len
 rw[addL_len]
 unfold addPs
 by_cases h1:t.gap=t.ls.length
 ·rw[if_pos h1]
  by_cases h2:0<t.gap
  ·rw[if_pos ⟨h1,h2⟩,List.length_append]
   simp
   omega
  ·rw[if_neg (fun h=>h2 h.2)]
   omega
 ·rw[if_neg h1,if_neg (fun h=>h1 h.1)]
  omega
theorem Tr.Rt.gap_free {t:Tr} (h:t.Rt) {i:Nat} (hi:i<t.ps.length):(t.gap:Int)∉t.ps[i].loose:=fun hm=>by
 obtain⟨h1,h2,-⟩:=(looseB_spec (parB_spec h.par i hi).2).1 _ hm
 unfold nameAt at h2
 rw[Int.toNat_natCast]at h2
 by_cases hg:t.gap<t.ls.length
 ·rw[List.getElem?_eq_getElem hg]at h2
  have:=List.findIdx_getElem (p:=fun l:Lf=>decide (l.name=0)) (xs:=t.ls) (w:=hg)
  simp only[decide_eq_true_eq]at this
  exact h2 this
 ·rw[List.getElem?_eq_none (by omega)]at h2
  exact h2 rfl
theorem add_same {t:Tr} (h:t.Rt) (l:Lf):t.addP l=t.addR l:=by
 unfold Tr.addP Tr.addR
 have hr:t.right=true:=Tr.rt.2 h
 have hg:=t.gap_le
 have hl:=h.len
 simp only[hr,not_true_eq_false,false_or]
 by_cases h1:l.name<1∨64<l.name
 ·rw[if_pos h1,if_pos h1]
 rw[if_neg h1,if_neg h1]
 by_cases h2:0≤t.place l.name
 ·rw[if_pos h2,if_pos h2]
 rw[if_neg h2,if_neg h2]
 by_cases h3:t.gap=64
 ·rw[if_pos h3,if_pos ⟨by omega,h3⟩]
 rw[if_neg h3,if_neg (fun h=>h3 h.2)]
 have hn:=addPs_len h l
 have hln:(addL t l).length≤64∧t.gap<(addL t l).length:=by
  rw[addL_len]
  split <;> omega
 rw[onDir_dir ⟨by omega,by omega,by omega⟩ hn]
 congr 2
 refine List.ext_getElem (by simp) fun i k1 k2=>?_
 simp only[List.getElem_mapIdx,List.length_mapIdx]at k1 ⊢
 have hfree:(t.gap:Int)∉(addPs t)[i].loose:=by
  unfold addPs at k1 ⊢
  by_cases hc:t.gap=t.ls.length∧0<t.gap
  ·simp only[if_pos hc,List.getElem_append]
   split
   ·exact h.gap_free _
   ·simp[Pn.zero]
  ·simp only[if_neg hc]at k1 ⊢
   exact h.gap_free _
 by_cases hh:hld (addL t l).length (2*i+1) t.gap
 ·simp only[hh,if_true,and_true,updA,put_ins hfree]
 ·simp only[hh,if_false,and_false]
def Tr.nobody (t:Tr) (p:Int):Prop:=(p<0∨t.size≤p)∨nameAt t.ls p=0
instance (t:Tr) (p:Int):Decidable (t.nobody p):=by unfold Tr.nobody;infer_instance
def blankR (n p:Int) (ps:List Pn):List Pn:=ps.mapIdx fun i q=>if hld n (2*i+1) p then Pn.zero else q
def blankP (n p:Int) (ps:List Pn):List Pn:=onDir (fun _=>Pn.zero) (dirL n p) ps
theorem blank_same {n l:Int} {ps:List Pn} (h:0≤l∧l<n∧n≤64) (hp:(ps.length:Int)+1=n):blankP n l ps=blankR n l ps:=onDir_dir h hp
def keepN (ls:List Lf):Nat→Nat
 | 0=>0
 | n+1=>if nameAt ls n=0 then keepN ls n else n+1
theorem keepN_le (ls:List Lf):∀ n,keepN ls n≤n
 | 0=>Nat.le_refl _
 | n+1=>by
  unfold keepN
  split
  ·exact Nat.le_trans (keepN_le ls n) (by omega)
  ·exact Nat.le_refl _
def cut (ls:List Lf) (ps:List Pn):Tr:=⟨ls.take (keepN ls ls.length),ps.take (keepN ls ls.length - 1)⟩
def Tr.remR (t:Tr) (p:Int):Tr × Int:=if t.nobody p then (Tr.none,7) else (cut (t.ls.set p.toNat Lf.zero) (blankR t.size p t.ps),0)
def Tr.remP (t:Tr) (p:Int):Tr × Int:=if ¬t.right=true then (Tr.none,1) else if t.nobody p then (Tr.none,7) else (cut (t.ls.set p.toNat Lf.zero) (blankP t.size p t.ps),0)
def Lf.key (l:Lf) (pub abv:H32):Lf:=⟨l.name,pub,l.ver,abv⟩
def Tr.renR (t:Tr) (p:Int) (pub:H32):Tr × Int:=if t.nobody p then (Tr.none,7) else (⟨t.ls.modify p.toNat (·.key pub hzero),blankR t.size p t.ps⟩,0)
def Tr.renP (t:Tr) (p:Int) (pub:H32):Tr × Int:=if ¬t.right=true then (Tr.none,1) else if t.nobody p then (Tr.none,7) else (⟨t.ls.modify p.toNat (·.key pub hzero),blankP t.size p t.ps⟩,0)
theorem Tr.Rt.blank {t:Tr} (h:t.Rt) {p:Int} (hp:¬t.nobody p):blankP t.size p t.ps=blankR t.size p t.ps:=by
 have:=h.len
 unfold Tr.nobody Tr.size at hp
 exact blank_same ⟨by omega,by unfold Tr.size;omega,by unfold Tr.size;omega⟩ (by unfold Tr.size;omega)
theorem rem_same {t:Tr} (h:t.Rt) (p:Int):t.remP p=t.remR p:=by
 unfold Tr.remP Tr.remR
 rw[if_neg (fun hh=>hh (Tr.rt.2 h))]
 by_cases hp:t.nobody p
 ·rw[if_pos hp,if_pos hp]
 ·rw[if_neg hp,if_neg hp,h.blank hp]
theorem ren_same {t:Tr} (h:t.Rt) (p:Int) (pub:H32):t.renP p pub=t.renR p pub:=by
 unfold Tr.renP Tr.renR
 rw[if_neg (fun hh=>hh (Tr.rt.2 h))]
 by_cases hp:t.nobody p
 ·rw[if_pos hp,if_pos hp]
 ·rw[if_neg hp,if_neg hp,h.blank hp]
end Go.Proofs.YtpjodlnlmaaihaaGreat
namespace Go.Proofs.YtpjodlnlmaaihaaGreat
open Go.RowKit Go.Lib
def bk (g e:Nat) (cs:List Value):Res:=fun B=>B=[⟨g,e,cs,true⟩]
class AtK (L:List Res) (g:Nat) (e:outParam Nat) (cs:outParam (List Value)) (R:outParam (List Res)):Prop where
 perm:L.Perm (bk g e cs::R)
instance (L:List Res) (g e:Nat) (cs:List Value):AtK (bk g e cs::L) g e cs L:=⟨.refl _⟩
instance (priority:=900) (L R:List Res) (g e:Nat) (cs:List Value) (x:Res) [h:AtK L g e cs R]:AtK (x::L) g e cs (x::R):=⟨(h.perm.cons x).trans (.swap ..)⟩
section
variable {P:Program} {H:Hp} {w0 w:World} {L R:List Res} {n cap e sz by_ g:Nat} {t:TypeId} {A:Option Addr} {ps:List (List Fd)} {cs:List Value} {X:List PanicEntry→World→Prop} {K:Value→World→Prop}
theorem Mem.raw (h:Mem H w0 L w) [k:AtA L (some ⟨g,0,none⟩) n cap e sz ps R]:∃ sp,(fls ps++sp).length=cap*sz∧n≤cap∧cap≤maxLen∧Els sz ps∧ps.length=n∧Mem H w0 (bk g e (fls ps++sp)::R) w:=by
 obtain⟨B,⟨B1,B2,rfl,⟨h1,h2,h3⟩,h4⟩,hs',hb⟩:=(h.perm k.perm).own
 rcases h3 with ⟨hA,_⟩|⟨g',sp,hA,rfl,h5,h6,h7⟩
 ·cases hA
 ·cases hA
  exact⟨sp,h5,h6,h7,h1,h2,⟨_,⟨_,B2,rfl,rfl,h4⟩,hs',hb⟩,h.fz⟩
theorem Mem.unraw {sp:List Value} (h:Mem H w0 (bk g e (fls ps++sp)::R) w) (h1:Els sz ps) (h2:ps.length=n) (h5:(fls ps++sp).length=cap*sz) (h6:n≤cap) (h7:cap≤maxLen):Mem H w0 (rowR e sz (some ⟨g,0,none⟩) n cap ps::R) w:=by
 obtain⟨B,⟨B1,B2,rfl,rfl,h4⟩,hs',hb⟩:=h.own
 exact⟨⟨_,⟨_,B2,rfl,⟨h1,h2,.inr ⟨g,sp,rfl,rfl,h5,h6,h7⟩⟩,h4⟩,hs',hb⟩,h.fz⟩
theorem Mem.bkBlf (h:Mem H w0 L w) [k:AtK L g e cs R]:Blf w g e cs:=by
 obtain⟨B,⟨B1,B2,rfl,rfl,_⟩,hs,_⟩:=(h.perm k.perm).own
 exact(hs.own ⟨g,e,cs,true⟩ (by simp)).blf
theorem Mem.setBk {cs':List Value} (h:Mem H w0 (bk g e cs::R) w) (hl:cs'.length=cs.length):Mem H w0 (bk g e cs'::R) (w.setRow g cs'.toArray):=by
 obtain⟨B,⟨B1,B2,rfl,rfl,h4⟩,hs,hb⟩:=h.own
 have hs':St w0 (⟨g,e,cs,true⟩::B2) w:=hs
 have hgg:=hb ⟨g,e,cs,true⟩ (by simp)
 refine⟨⟨_,⟨[⟨g,e,cs',true⟩],B2,rfl,rfl,h4⟩,hs'.setRow hl,fun b hm=>?_⟩,h.fz.same fun b c hc=>setRow_other w g b _ ?_⟩
 ·rcases List.mem_cons.1 hm with rfl|hm
  ·exact⟨rfl,hgg.2⟩
  ·exact hb b (List.mem_append.2 (.inr hm))
 ·rintro rfl
  have:=hgg.2
  simp only[hc]at this
  cases this
theorem Mem.allocBk (h:Mem H w0 L w) (e:TypeId) (cs:List Value):Mem H w0 (bk w.heap.size e cs::L) (w.alloc (.cells cs.toArray e)):=by
 obtain⟨B,hl,hs',hb'⟩:=h.own
 refine⟨⟨⟨w.heap.size,e,cs,true⟩::B,⟨[⟨w.heap.size,e,cs,true⟩],B,rfl,rfl,hl⟩,hs'.alloc e cs,fun b hm=>?_⟩,h.fz.ext ((Only.refl _ w).alloc _)⟩
 rcases List.mem_cons.1 hm with rfl|hm
 ·refine⟨rfl,?_⟩
  cases hh:H w.heap.size with
  | none=>rfl
  | some c=>have:=h.fz.lt hh;omega
 ·exact hb' b hm
theorem run_copy_blf {o dl dc sl sc:Nat} {a:Addr} {vs:List Value} {dT sT ty e2:TypeId} {ks:List Bool} (hb:Blf w g e cs) (hu:P.underlying dT=some (.slice e2)) (hs:(P.info? e2).map (·.size)=some 1) (hn:vs.length=min sl dl) (hsrc:∀ j v,vs[j]?=some v→w.cell? (a.add j)=some v) (hle:o+vs.length≤cs.length) (h1:∀ v∈vs,v.oneCell'=true):
  (o_builtin .copy #[dT,sT] ty ks [.slice (some ⟨g,o,none⟩) dl dc,.slice (some a) sl sc]).run P w=.ok (.value (.int .i64 vs.length)) (w.setRow g (lay cs vs o).toArray):=by
 have hl:=run_loadCells_list (P:=P) w a vs hsrc
 have hst:=run_storeCells_blf (P:=P) o vs 0 cs w hb (by omega) h1
 rw[Nat.add_zero]at hst
 have hn':Nat.min sl dl=vs.length:=hn.symm
 cases hq:P.info? e2 with
 | none=>simp[hq]at hs
 | some i=>
  have hi:i.size=1:=by simpa [hq] using hs
  simp[o_builtin,invoke,builtin,Builtin.copy_,run_underlying hu,Builtin.lenOf,Builtin.firstCells,sizeOf,typeInfo,hq,hi,hn',hl,hst,goInt]
theorem mm_cpk {o dl dc sl sc:Nat} {a:Addr} {vs:List Value} {dT sT ty e2:TypeId} {ks:List Bool} (h:Mem H w0 L w) [c:SliC P dT e2 1 by_] [k:AtK L g e cs R] (hn:vs.length=min sl dl) (hsrc:∀ j v,vs[j]?=some v→w.cell? (a.add j)=some v) (hle:o+vs.length≤cs.length) (h1:∀ v∈vs,v.oneCell'=true)
  (hk:∀ w',Mem H w0 (bk g e (lay cs vs o)::R) w'→K (.int .i64 vs.length) w'):mop P (o_builtin .copy #[dT,sT] ty ks [.slice (some ⟨g,o,none⟩) dl dc,.slice (some a) sl sc]) w K X:=by
 obtain⟨ht,i,z,hi,-,h3,-⟩:=sli_spec c.ok
 exact mop_run (run_copy_blf h.bkBlf ht (by simp[hi,h3]) hn hsrc hle h1) (hk _ ((h.perm k.perm).setBk (lay_length _ _ _ hle)))
theorem dm_cpk {o dl dc sl sc:Nat} {a:Addr} {vs:List Value} {dT sT ty e2:TypeId} {ks:List Bool} (h:Mem H w0 L w) [c:SliC P dT e2 1 by_] [k:AtK L g e cs R] (hn:vs.length=min sl dl) (hsrc:∀ w',Mem H w0 L w'→∀ j v,vs[j]?=some v→w'.cell? (a.add j)=some v) (hle:o+vs.length≤cs.length) (h1:∀ v∈vs,v.oneCell'=true)
  (hk:∀ w',Mem H w0 (bk g e (lay cs vs o)::R) w'→K (.int .i64 vs.length) w'):df P w (o_builtin .copy #[dT,sT] ty ks [.slice (some ⟨g,o,none⟩) dl dc,.slice (some a) sl sc]) false K:=
 df_no h fun w' h'=>mm_cpk h' hn (hsrc w' h') hle h1 hk
theorem mm_apz {i k c e2:Nat} {tn ty:TypeId} {ks:List Bool} {kn:IntKind} {z:Value} (h:Mem H w0 L w) [cc:SliC P t e2 1 by_] (htn:P.underlying tn=some (.int kn)) (hz:((P.info? e2).bind (·.zero))=some z) (hz1:z.cells=#[z]) [a:AtK L g e cs R] (hi:i≤cs.length) (hk0:0<k) (hg:c<i+k) (hb:(i+k)≤9223372036854775807∧(i+k)*by_≤70368744177664)
  (hk:∀ g' cap' m w',i+k+m=cap'→cap'≤maxLen→Mem H w0 (bk g' e2 (cs.take i++List.replicate (k+m) z)::L) w'→K (.slice (some ⟨g',0,none⟩) (i+k) cap') w'):mop P (o_builtin .append #[t,tn] ty ks [.slice (some ⟨g,0,none⟩) i c,.int .i64 k]) w K X:=by
 obtain⟨ht,ii,zv,hii,hzz,h3,h4,h5⟩:=sli_spec cc.ok
 obtain rfl:zv=z:=by simpa [hii,hzz] using hz
 have hB:=h.bkBlf (g:=g)
 have hold:(Builtin.firstCells ii.size i (.slice (some ⟨g,0,none⟩) i c)).run P w.drew=.ok (cs.take i).toArray w.drew:=by
  rw[h3]
  exact run_firstCells_some w.drew 1 i ⟨g,0,none⟩ i c (cs.take i) (by rw[List.length_take];omega) (fun j v hj=>by
   rw[Addr.add_lit,Nat.zero_add]
   show w.cell? ⟨g,j,none⟩=some v
   rw[hB.cell]
   rw[List.getElem?_take]at hj
   split at hj
   ·exact hj
   ·cases hj)
 have hr1:=Lib.run_append_grow_zeros w t tn ty e2 ii zv .i64 kn ht htn hii hzz (some ⟨g,0,none⟩) i c (cs.take i) hold k hk0 (by omega) hg (by omega) (by rw[h4];have:k*by_≤(i+k)*by_:=Nat.mul_le_mul_right _ (by omega);omega) (by rw[h4];exact growslice_fits hg (by omega))
 have hge:=grownCap_ge w (i+k) c e2
 have hle:=grownCap_le_maxLen w (i+k) c e2 (by simp only[maxLen];omega)
 obtain⟨m,hm⟩:∃ m,i+k+m=grownCap w (i+k) c e2:=⟨grownCap w (i+k) c e2 - (i+k),by omega⟩
 have hzc:∀ q,Builtin.zeroCells zv.cells q=(List.replicate q zv).toArray:=fun q=>by
  rw[hz1]
  refine Array.ext (by simp[Builtin.zeroCells]) fun j h1 h2=>?_
  simp[Builtin.zeroCells,Nat.mod_one]
 refine mop_run (u:=.slice (some ⟨w.heap.size,0,none⟩) (i+k) (grownCap w (i+k) c e2)) (w':=w.drew.alloc (.cells (cs.take i++List.replicate (k+m) zv).toArray e2)) ?_ (hk _ _ m _ hm hle ?_)
 ·simp only[o_builtin,invoke,builtin]
  rw[Sem.run_bind,hr1,Result.andThen_ok]
  have e1:(cs.take i).toArray++Builtin.zeroCells zv.cells k++Builtin.zeroCells zv.cells (grownCap w (i+k) c e2 - (i+k))=(cs.take i++List.replicate (k+m) zv).toArray:=by
   rw[hzc,hzc,← hm,Nat.add_sub_cancel_left]
   simp
  rw[e1]
  rfl
 ·exact(h.drawn ⟨1,rfl⟩).allocBk e2 _
end
end Go.Proofs.YtpjodlnlmaaihaaGreat
namespace Go.Proofs.YtpjodlnlmaaihaaGreat
open Go.RowKit Go.Lib
theorem lay_mid (A X B Y:List Value) (h:X.length=Y.length):lay (A++(X++B)) Y A.length=A++(Y++B):=by
 have:=lay_in A X B Y 0 (by omega)
 rw[Nat.add_zero]at this
 rw[this]
 congr 2
 unfold lay
 rw[Nat.zero_add,List.take_zero,List.nil_append,List.drop_eq_nil_of_le (by omega),List.append_nil]
theorem lay_midN {A X B Y cs:List Value} {o:Nat} (e:cs=A++(X++B)) (ho:o=A.length) (h:X.length=Y.length):lay cs Y o=A++(Y++B):=by
 subst e ho
 exact lay_mid A X B Y h
theorem split_drop {α:Type} (V:List α) (i:Nat) (h:i<V.length):V=V.take i++([V[i]]++V.drop (i+1)):=by simp
theorem split_app {α:Type} (V:List α) (i:Nat) (h:i<V.length):V.take i++([V[i]]++V.drop (i+1))=V:=(split_drop V i h).symm
theorem lay_shift (V sp:List Value) (x:Value) (i:Nat) (hi:i<V.length) (hsp:0<sp.length):lay (lay (V++sp) (V.drop i) (i+1)) [x] i=V.take i++([x]++(V.drop i++sp.drop 1)):=by
 obtain⟨u,sp',rfl⟩:∃ u r,sp=u::r:=by
  cases sp with
  | nil=>simp at hsp
  | cons u r=>exact⟨u,r,rfl⟩
 have ht:(V.take i).length=i:=by simp;omega
 have h1:lay (V++u::sp') (V.drop i) (i+1)=(V.take i++[V[i]])++(V.drop i++sp'):=lay_midN (X:=V.drop (i+1)++[u]) (by
  rw[← List.append_assoc,← List.append_assoc,List.append_assoc (V.take i),split_app V i hi,List.append_assoc]
  rfl) (by simp;omega) (by simp;omega)
 rw[h1,List.append_assoc]
 exact lay_midN (X:=[V[i]]) rfl ht.symm rfl
theorem lay_grow (V:List Value) (x z:Value) (i m:Nat) (hi:i<V.length):lay (lay (V.take i++List.replicate (V.length+1 - i+m) z) [x] i) (V.drop i) (i+1)=V.take i++([x]++(V.drop i++List.replicate m z)):=by
 have ht:(V.take i).length=i:=by simp;omega
 have h1:lay (V.take i++List.replicate (V.length+1 - i+m) z) [x] i=V.take i++([x]++List.replicate (V.length - i+m) z):=lay_midN (X:=[z]) (by
  rw[show V.length+1 - i+m=V.length - i+m+1 by omega,List.replicate_succ]
  rfl) ht.symm rfl
 rw[h1]
 refine(lay_midN (A:=V.take i++[x]) (X:=List.replicate (V.length - i) z) (B:=List.replicate m z) ?_ (by simp;omega) (by simp)).trans (by simp)
 rw[List.replicate_append_replicate]
 simp
theorem vals_ints8 (l:List Int):fls (ints8 l)=l.map (Value.int .i64):=fls_ints8 l
theorem one_vals (l:List Int):∀ v∈l.map (Value.int .i64),v.oneCell'=true:=by
 intro v hv
 obtain⟨_,_,rfl⟩:=List.mem_map.1 hv
 rfl
theorem p_sliceL {P:Program} {t:TypeId} {sz n cap:Nat} {a:Option Addr} {kk:IntKind} {ll:Int} [cs:SliS P t sz] (h0:0≤ll) (h1:ll≤n):∃ v,Pur P (o_slice t (.slice a n cap) (some (.int kk ll)) none none) v:=⟨_,fun w=>by
 have h2:=run_slice_l (P:=P) w t a n cap cs.ok.1 kk ll h0 h1
 have h3:(sizeOf (P.elem t)).run P w=.ok sz w:=run_size cs.ok.2 w
 simp only[o_slice,sv,Sem.run_bind,run_sliceAt_slice w t _ _ _ _ cs.ok.1,h2,h3,Result.andThen_ok]
 rfl⟩
instance {P:Program} (t ty:TypeId) (ks:List Bool) (a:Option Addr) (n cap:Nat) [h:IsSl P t]:StepC P (o_builtin .cap #[t] ty ks [.slice a n cap]) True (.int .i64 cap):=⟨fun _ w=>by
 obtain⟨e,h⟩:=h.ok
 simp[o_builtin,invoke,Builtin.cap_,run_underlying h,go_sem]⟩
section
variable {H:Hp} {w0 w:World} {L R R2:List Res} {A:Option Addr} {cap g vb e e2:Nat} {cs cs2:List Value} {K:Value→World→Prop} {X:List PanicEntry→World→Prop}
theorem Mem.bkNe (h:Mem H w0 L w) [k:AtK L g e cs R] [k2:AtK R vb e2 cs2 R2]:g≠vb∧Blf w g e cs∧Blf w vb e2 cs2:=by
 obtain⟨B,⟨B1,B2,rfl,rfl,B3,B4,rfl,rfl,_⟩,hs,_⟩:=(h.perm (k.perm.trans (k2.perm.cons _))).own
 refine⟨?_,(hs.own ⟨g,e,cs,true⟩ (by simp)).blf,(hs.own ⟨vb,e2,cs2,true⟩ (by simp)).blf⟩
 have:=(List.pairwise_cons.1 hs.ne).1 ⟨vb,e2,cs2,true⟩ (by simp)
 exact this
theorem Mem.bkCell (h:Mem H w0 L w) [k:AtK L g e cs R] (j:Nat):w.cell? ⟨g,j,none⟩=cs[j]?:=by
 rw[h.bkBlf.cell]
theorem run_ocall_ext {P:Program} {f:Nat} {w':World} {args:List Value} {v:Value} (h:(callFunc f args.toArray).run P w=.ok (.value v) w'):(o_call (fv f) args).run P w=.ok (.value v) w':=by
 simp[o_call,fv,Deferred.ofValue,invoke,h]
theorem mm_ovl {o la ca lb cb:Nat} (h:Mem H w0 L w) [k:AtK L g 3 cs R] [k2:AtK R vb 3 cs2 R2] (hc:cs≠[]) (hk:K (.bool false) w):mop Tryz.prog (o_call (fv 78) [.slice (some ⟨vb,0,none⟩) la ca,.slice (some ⟨g,o,none⟩) lb cb]) w K X:=by
 obtain⟨hne,⟨fr,hb,h1⟩,⟨fr2,hb2,h2⟩⟩:=h.bkNe (g:=g) (vb:=vb)
 obtain rfl:fr=(0,0):=h1.resolve_right fun h=>absurd h.2 (by decide)
 obtain rfl:fr2=(0,0):=h2.resolve_right fun h=>absurd h.2 (by decide)
 refine mop_run (run_ocall_ext ?_) hk
 rw[run_callFunc_extern Tryz.func78 (by kernel_rfl) (by kernel_rfl) (by kernel_rfl) (e:=Extern.SlicesOverlaps.overlaps #[47,47] #[4]) (by kernel_rfl)]
 show((Extern.SlicesOverlaps.overlaps #[47,47] #[4] #[.slice (some ⟨vb,0,none⟩) la ca,.slice (some ⟨g,o,none⟩) lb cb]).run Tryz.prog w).andThen _=_
 rw[Lib.run_overlaps_apart w 47 4 3 (by kernel_rfl) 1 (fun w=>run_size (by kernel_rfl) w) ⟨vb,0,none⟩ ⟨g,o,none⟩ la ca lb cb (fun e=>hne e.symm) 3 3 cs2.length cs.length (by simp[World.shape?,hb2]) (by simp[World.shape?,hb]) (by cases cs with
  | nil=>exact absurd rfl hc
  | cons=>simp) (by simp[World.frozen?,hb2]) (by simp[World.frozen?,hb2])]
 rfl
theorem insert_ok (l:List Int) (i:Nat) (x:Int) (hi:i≤l.length) (hl:l.length<1000000) (hM:Mem H w0 (rowR 3 1 A l.length cap (ints8 l)::rowR 3 1 (some ⟨vb,0,none⟩) 1 1 [[.one (.int .i64 x)]]::L) w):
  Calls Tryz.prog 34 #[.slice A l.length cap,.int .i64 i,.slice (some ⟨vb,0,none⟩) 1 1] w fun en w'=>∃ v,en=.returned v∧∃ A' cap',v=.slice A' (l.length+1) cap'∧Mem H w0 (rowR 3 1 A' (l.length+1) cap' (ints8 (l.take i++x::l.drop i))::L) w':=by
 obtain⟨-,hcl,hcm,-⟩:=hM.rowLen ⟨.refl _⟩
 have hcm':cap≤9223372036854775807:=hcm
 refine C_slices_Insert_int_int ?_
 unfold F_slices_Insert_int_int
 obtain⟨v0,hv0⟩:=p_sliceL (P:=Tryz.prog) (t:=47) (a:=A) (n:=l.length) (cap:=cap) (kk:=.i64) (ll:=i) (by omega) (by omega)
 refine mop_pur hv0 ?_
 (((refine mop_c trivial ?_;refine mop_cF trivial ?_ ?_));(focus (first|assumption|omega|with_reducible rfl|exact fun h=>Bool.noConfusion h));((refine mif_false ?_;refine mop_c trivial ?_)))
 (((refine mop_cS trivial ?_ ?_)))
 ·intro he
  obtain rfl:i=l.length:=by omega
  (((refine mif_true ?_;refine mm_appo hM ?_ ?_));(focus omega);((clear hM;intro _ _ _ hM)))
  refine⟨_,rfl,_,_,rfl,?_⟩
  rw[List.take_length,List.drop_length,ints8_app]
  exact hM
 ·intro hne
  have hlt:i<l.length:=by omega
  obtain⟨gg,rfl⟩:=hM.rowAt ⟨.refl _⟩ (by omega)
  obtain⟨sp,h5,h6,h7,hE,hlen,hM⟩:=hM.raw (g:=gg)
  obtain⟨sp2,h52,-,-,-,-,hM⟩:=hM.raw (g:=vb)
  obtain rfl:sp2=[]:=by simp[fls,fl,Fd.cells]at h52;exact h52
  rw[vals_ints8]at h5 hM
  have hone:=one_vals l
  have hvl:(l.map (Value.int .i64)).length=l.length:=by simp
  generalize hV:l.map (Value.int .i64)=V at *
  rw[show fls [[Fd.one (.int .i64 x)]]++[]=[.int .i64 x] from rfl]at hM
  have hg1:∀ j v,(V.drop i)[j]?=some v→(V++sp)[0+(i:Int).toNat*1+j]?=some v:=fun j v hj=>by
   rw[List.getElem?_drop]at hj
   rw[show 0+(i:Int).toNat*1+j=i+j by omega,List.getElem?_append_left (List.getElem?_eq_some_iff.1 hj).1]
   exact hj
  have hnil:V++sp≠[]:=fun e=>by
   have:(V++sp).length=0:=by rw[e];rfl
   omega
  have hone2:∀ v∈V.drop i,v.oneCell'=true:=fun v hv=>hone v (List.mem_of_mem_drop hv)
  have hfin:fls (ints8 (l.take i++x::l.drop i))=V.take i++([.int .i64 x]++V.drop i):=by
   rw[vals_ints8,← hV]
   simp
  have hels:=els_ints8 (l.take i++x::l.drop i)
  have hll:(ints8 (l.take i++x::l.drop i)).length=l.length+1:=by simp[ints8];omega
  (((refine mif_false ?_;refine mop_c ?_ ?_));(focus omega);((refine mop_c trivial ?_)))
  (((refine mop_cS trivial ?_ ?_)))
  ·intro hroom
   (((refine mif_true ?_;refine mop_c ?_ ?_));(focus omega);((refine mop_c ?_ ?_));(focus omega);((refine mop_c ?_ ?_));(focus omega))
   rw[show((l.length:Int)+((1:Nat):Int) - (i:Int))=((l.length+1 - i:Nat):Int) by omega,Int.toNat_natCast]
   refine mm_apz (g:=gg) (z:=.int .i64 0) (kn:=.i64) hM (by kernel_rfl) (by kernel_rfl) rfl (by rw[List.length_append];omega) (by omega) (by omega) ⟨by omega,by omega⟩ (fun g2 cap2 m w2 hc2 hc3 hM=>?_)
   (((refine mop_c ?_ ?_));(focus omega))
   refine mm_cpk (g:=g2) (vs:=[.int .i64 x]) hM (by simp;omega) (fun j v hj=>by rw[Addr.add_lit,Nat.zero_add,hM.bkCell (g:=vb)];exact hj) (by simp;omega) (fun v hv=>by rw[List.mem_singleton.1 hv];rfl) (fun w3 hM=>?_)
   (((refine dp_c ?_ ?_));(focus omega);((refine dp_c ?_ ?_));(focus omega);((refine dp_c ?_ ?_));(focus omega))
   refine dm_cpk (g:=g2) (vs:=V.drop i) hM (by simp;omega) (fun w' hM j v hj=>by rw[Addr.add_lit,hM.bkCell (g:=gg)];exact hg1 j v hj) (by rw[lay_length _ _ _ (by simp;omega)];simp;omega) hone2 (fun w4 hM=>?_)
   (((refine mm_end hM ?_;clear hM;intro _ hM)))
   have hgr:=lay_grow V (.int .i64 x) (.int .i64 0) i m (by omega)
   rw[show 0+(i:Int).toNat*1=i by omega,show 0+((i:Int)+((1:Nat):Int)).toNat*1=i+1 by omega,List.take_append_of_le_length (by omega),show l.length+1 - i+m=V.length+1 - i+m by omega,hgr,← List.append_assoc,← List.append_assoc,List.append_assoc (V.take i),← hfin]at hM
   have hM:=hM.unraw hels hll (cap:=cap2) ?_ (by omega) hc3
   refine⟨_,rfl,some ⟨g2,0,none⟩,cap2,?_,hM.sub⟩
   ·congr 1
    omega
   ·rw[List.length_append,els_ints8 _ |>.len,hll]
    simp
    omega
  ·intro hroom
   (((refine mif_false ?_;refine mop_c ?_ ?_));(focus omega);((refine mop_c ?_ ?_));(focus omega);((refine mop_c ?_ ?_));(focus omega);((refine mop_c ?_ ?_));(focus omega))
   rw[show((l.length:Int)+((1:Nat):Int)).toNat=l.length+1 by omega,show((i:Int)+((1:Nat):Int)).toNat=i+1 by omega]
   refine mm_ovl (g:=gg) (vb:=vb) hM hnil ?_
   (((refine mop_c trivial ?_;refine mif_true ?_;refine dp_c ?_ ?_));(focus omega);((refine dp_c ?_ ?_));(focus omega);((refine dp_c ?_ ?_));(focus omega))
   refine dm_cpk (g:=gg) (vs:=V.drop i) hM (by simp;omega) (fun w' hM j v hj=>by rw[Addr.add_lit,hM.bkCell (g:=gg)];exact hg1 j v hj) (by rw[List.length_drop];omega) hone2 (fun w' hM=>?_)
   (((refine mm_end hM ?_;clear hM;intro _ hM;refine mop_c ?_ ?_));(focus omega))
   refine mm_cpk (g:=gg) (vs:=[.int .i64 x]) hM (by simp;omega) (fun j v hj=>by rw[Addr.add_lit,Nat.zero_add,hM.bkCell (g:=vb)];exact hj) (by rw[lay_length] <;> simp only[List.length_singleton,List.length_drop] <;> omega) (fun v hv=>by rw[List.mem_singleton.1 hv];rfl) (fun w' hM=>?_)
   skip
   have hsh:=lay_shift V sp (.int .i64 x) i (by omega) (by rw[List.length_append]at h5;omega)
   rw[show 0+(i:Int).toNat*1=i by omega,show 0+((i:Int)+((1:Nat):Int)).toNat*1=i+1 by omega,hsh,← List.append_assoc,← List.append_assoc,List.append_assoc (V.take i),← hfin]at hM
   have hM:=hM.unraw hels hll (cap:=cap) ?_ (by omega) h7
   refine⟨_,rfl,_,_,rfl,hM.sub⟩
   rw[List.length_append]at h5
   rw[List.length_append,(els_ints8 _).len,hll,List.length_drop]
   omega
theorem less_ok (a b:Int) (w:World):Calls Tryz.prog 76 #[.int .i64 a,.int .i64 b] w fun en w'=>en=.returned (.bool (decide (a<b)))∧St w [] w':=by
 have hM:=Mem.start (Fz.of w)
 refine C_cmp_Less_int ?_
 unfold F_cmp_Less_int
 have hn:∀ (x:Int) (w:World),Calls Tryz.prog 109 #[.int .i64 x] w fun en w'=>en=.returned (.bool false)∧St w [] w':=fun x w=>by
  have hM:=Mem.start (Fz.of w)
  refine C_cmp_isNaN_int ?_
  unfold F_cmp_isNaN_int
  refine mop_cF trivial (by simp) ?_
  exact⟨rfl,hM.st⟩
 refine mm_pure hM (hn a w) (fun w hM=>?_)
 ((((iterate 3 refine mguard_n2 ?_);refine mop_c trivial ?_;refine mguard_yes ?_;refine mop_c trivial ?_;refine mguard_yes ?_;refine mop_c trivial ?_;refine mguard_yes ?_)))
 (((refine mop_cS trivial ?_ ?_)))
 all_goals
  intro h
  (((refine mop_c trivial ?_)))
  exact⟨by simp[h],hM.st⟩
instance (a b:Int):PurC Tryz.prog 76 [.int .i64 a,.int .i64 b] True (.bool (decide (a<b))):=⟨fun _ w=>less_ok a b w⟩
theorem nan_ok (x:Int) (w:World):Calls Tryz.prog 77 #[.int .i64 x] w fun en w'=>en=.returned (.bool false)∧St w [] w':=by
 have hM:=Mem.start (Fz.of w)
 refine C_slices_isNaN_int ?_
 unfold F_slices_isNaN_int
 refine mop_cF trivial (by simp) ?_
 exact⟨rfl,hM.st⟩
instance (x:Int):PurC Tryz.prog 77 [.int .i64 x] True (.bool false):=⟨fun _ w=>nan_ok x w⟩
theorem bsearch_ok {a:Nat} (l:List Int) (x:Int) (hs:l.Pairwise (·<·)) (hl:l.length<1000000) (h1:Sl H 1 A (ints8 l)) (hf:Fz H w):
  Calls Tryz.prog 33 #[.slice A l.length a,.int .i64 x] w fun en w'=>(∃ b,en=.returned (.tuple #[.int .i64 (bs' l x),.bool b]))∧St w [] w':=by
 have hM:=Mem.start hf
 refine C_slices_BinarySearch_int_int ?_
 unfold F_slices_BinarySearch_int_int
 (((refine mop_c trivial ?_)))
 refine⟨fun v u w'=>∃ i j:Nat,v=.int .i64 i∧u=.int .i64 j∧i≤j∧j≤l.length∧(∀ k (hk:k<l.length),k<i→l[k]<x)∧(∀ k (hk:k<l.length),j≤k→x≤l[k])∧hM.now w',fun v u _=>match v,u with | .int _ i,.int _ j=>(j - i).toNat|_,_=>0,⟨0,l.length,rfl,rfl,by omega,by omega,fun k _ h=>by omega,fun k h h2=>by omega,hM⟩,?_⟩
 rintro v u i' w2 ⟨i,j,rfl,rfl,hij,hj,hlo,hhi,hM⟩
 (((refine mop_cS trivial ?_ ?_)))
 ·intro hlt
  (((refine mif_true ?_;refine mop_c ?_ ?_));(focus omega);((refine mop_c trivial ?_;refine mop_c ?_ ?_));(focus omega))
  obtain⟨m,hm⟩:∃ m,(i+j) / 2=m:=⟨_,rfl⟩
  rw[show((i:Int)+(j:Int))%18446744073709551616 / 2 ^ Int.toNat 1=(m:Int) by show _ / 2=_;omega]
  have hml:m<l.length:=by omega
  (((refine mop_c ?_ ?_));(focus omega);(refine mm_ixs ‹_› ?_ ?_ ?_);(focus (simp only[List.length_map];omega));(focus (simp only[List.length_map];first|done|omega));((intro _ _ hA));(cases hA);(refine mm_lds0 hM ‹_› (map_atI ?_) ?_);(focus omega);((refine mm_purC hM ?_ ?_));(focus (first|exact trivial|assumption|omega));((clear hM;intro _ hM)))
  by_cases hc:l[m]<x
  ·rw[decide_eq_true hc]
   (((refine mif_true ?_;refine mop_c ?_ ?_));(focus omega))
   refine⟨⟨m+1,j,rfl,rfl,by omega,hj,fun k hk hkm=>?_,hhi,hM⟩,by simp only;omega⟩
   rcases Nat.lt_or_ge k m with h|h
   ·have:=List.pairwise_iff_getElem.1 hs k m hk hml h
    omega
   ·obtain rfl:k=m:=by omega
    exact hc
  ·rw[decide_eq_false hc]
   (((refine mif_false ?_)))
   refine⟨⟨i,m,rfl,rfl,by omega,by omega,hlo,fun k hk hkm=>?_,hM⟩,by simp only;omega⟩
   rcases Nat.lt_or_ge m k with h|h
   ·have:=List.pairwise_iff_getElem.1 hs m k hml hk h
    omega
   ·obtain rfl:k=m:=by omega
    omega
 ·intro hge
  obtain rfl:i=j:=by omega
  have hb:bs' l x=i:=by
   unfold bs'
   by_cases h:i<l.length
   ·exact findIdx_at h (fun k hk hki=>by have:=hlo k hk hki;simp only[decide_eq_false_iff_not];omega) (by simpa using hhi i h (Nat.le_refl _))
   ·rw[findIdx_none fun k hk=>by have:=hlo k hk (by omega);simp only[decide_eq_false_iff_not];omega]
    omega
  rw[hb]
  (((refine mif_false ?_)))
  (((refine mop_cS trivial ?_ ?_)))
  ·intro hlt
   have hlt':i<l.length:=by omega
   (((refine mguard_yes ?_;refine mop_c trivial ?_;refine mguard_yes ?_;refine mop_c trivial ?_;refine mguard_yes ?_));(refine mm_ixs ‹_› ?_ ?_ ?_);(focus (simp only[List.length_map];omega));(focus (simp only[List.length_map];first|done|omega));((intro _ _ hA));(cases hA);((refine mguard_yes ?_));(refine mm_lds0 hM ‹_› (map_atI ?_) ?_);(focus omega);((refine mguard_yes ?_;refine mop_c trivial ?_;refine mguard_yes ?_)))
   (((refine mop_cS trivial ?_ ?_)))
   all_goals
    intro h
    (first|(((refine mguard_yes ?_;refine mop_c trivial ?_;refine mguard_yes ?_;refine mop_c trivial ?_;refine mguard_yes ?_;refine mop_c trivial ?_;refine mguard_yes ?_));(refine mm_ixs ‹_› ?_ ?_ ?_);(focus (simp only[List.length_map];omega));(focus (simp only[List.length_map];first|done|omega));((intro _ _ hA));(cases hA);((refine mguard_yes ?_));(refine mm_lds0 hM ‹_› (map_atI ?_) ?_);(focus omega);((refine mguard_yes ?_;refine mm_purC hM ?_ ?_));(focus (first|exact trivial|assumption|omega));((clear hM;intro _ hM;refine mguard_yes ?_;refine mop_c trivial ?_;refine mguard_n2 ?_;refine mguard_n2 ?_;refine mguard_yes ?_;refine mop_c trivial ?_;refine mguard_yes ?_;refine mop_c trivial ?_;refine mop_c trivial ?_)))|(((refine mguard_yes ?_;refine mop_c trivial ?_;(iterate 6 refine mguard_n1 ?_);refine mguard_un ?_;refine mguard_un ?_;refine mguard_n1 ?_;refine mguard_yes ?_;refine mop_c trivial ?_;refine mop_c trivial ?_))))
    exact⟨⟨_,rfl⟩,hM.st⟩
  ·intro hlt
   ((((iterate 7 refine mguard_n2 ?_);(iterate 9 refine mguard_un ?_);refine mguard_n2 ?_;refine mop_c trivial ?_)))
   exact⟨⟨_,rfl⟩,hM.st⟩
theorem index_ok {a:Nat} (ls:List Lf) (hl:ls.length<1000000) (h1:Sl H 97 A (ls.map Lf.fds)) (hf:Fz H w):
  Calls Tryz.prog 31 #[.slice A ls.length a,lv Lf.zero] w fun en w'=>en=.returned (.int .i64 (fix (fun l=>decide (l=Lf.zero)) ls))∧St w [] w':=by
 have hM:=Mem.start hf
 refine C_slices_Index_api_Leaf_api_Leaf ?_
 unfold F_slices_Index_api_Leaf_api_Leaf
 (((refine mm_box hM ?_;clear hM;intro _ _ hM;refine mop_c trivial ?_)))
 rename_i g1 _
 refine⟨fun v w'=>∃ i:Nat,v=.int .i64 i∧i≤ls.length∧(∀ j (hj:j<ls.length),j<i→decide (ls[j]=Lf.zero)=false)∧hM.now w',fun v _=>match v with | .int _ k=>ls.length - k.toNat|_=>0,⟨0,rfl,by omega,fun j _ h=>by omega,hM⟩,?_⟩
 rintro v u w3 ⟨i,rfl,hi,hlo,hM⟩
 (((refine mop_cS trivial ?_ ?_)))
 ·intro hlt
  have hlt':i<ls.length:=by omega
  (((refine mif_true ?_;refine dm_ld hM ?_));(refine dp_ixs ‹_› ?_ ?_ ?_);(focus (simp only[List.length_map];omega));(focus (simp only[List.length_map];first|done|omega));((intro _ _ hA));(cases hA);(refine dm_lds0 hM ‹_› (map_atI ?_) ?_);(focus omega))
  (((refine dp_cS trivial ?_ ?_)))
  ·intro h
   (((refine mm_end hM ?_;clear hM;intro _ hM;refine mif_true ?_)))
   refine⟨?_,hM.st⟩
   rw[fix_at hlt' hlo (decide_eq_true ((lf_zero _).2 ⟨h.1.symm,h.2.1.symm,h.2.2.1.symm,h.2.2.2.symm⟩))]
  ·intro h
   (((refine mm_end hM ?_;clear hM;intro _ hM;refine mif_false ?_;refine mop_c ?_ ?_));(focus omega))
   refine⟨⟨i+1,rfl,by omega,fun j hj hji=>?_,hM⟩,by simp only;omega⟩
   rcases Nat.lt_or_ge j i with h2|h2
   ·exact hlo j hj h2
   ·obtain rfl:j=i:=by omega
    refine decide_eq_false fun e=>h ?_
    obtain⟨a1,a2,a3,a4⟩:=(lf_zero _).1 e
    exact⟨a1.symm,a2.symm,a3.symm,a4.symm⟩
 ·intro hge
  (((refine mif_false ?_)))
  refine⟨?_,hM.st⟩
  rw[fix_none fun j hj=>hlo j hj (by omega)]
end
end Go.Proofs.YtpjodlnlmaaihaaGreat
namespace Go.Proofs.YtpjodlnlmaaihaaGreat
open Go.RowKit Go.Lib
abbrev Xp:=Pn × Option Addr × Nat
abbrev xrow (x:Xp):List Fd:=x.1.row x.2.1 x.2.2
abbrev xres (x:Xp):Res:=rowR 3 1 x.2.1 x.1.loose.length x.2.2 (ints8 x.1.loose)
def allR (X:List Xp):Res:=fun B=>Hl (X.map xres) B
def restR (X:List Xp) (j:Nat):Res:=fun B=>Hl ((X.take j++X.drop (j+1)).map xres) B
abbrev x0:Xp:=(Pn.zero,none,0)
section
variable {H:Hp} {w0 w:World} {L:List Res} {X:List Xp} {j:Nat} {A B:Option Addr} {n m a b e sz cap k:Nat} {ps:List (List Fd)}
theorem Mem.all0 (h:Mem H w0 L w):Mem H w0 (allR []::L) w:=Mem.fold (R:=[]) (L:=L) h fun _ hb=>hb
theorem out_perm (hj:j<X.length):(X.map xres).Perm (xres X[j]::(X.take j++X.drop (j+1)).map xres):=by
 have e:X=X.take j++X[j]::X.drop (j+1):=by simp
 conv=>lhs;rw[e]
 rw[List.map_append,List.map_append,List.map_cons]
 exact List.perm_middle
theorem in_perm (hj:j<X.length) (y:Xp):((X.set j y).map xres).Perm (xres y::(X.take j++X.drop (j+1)).map xres):=by
 rw[List.set_eq_take_append_cons_drop,if_pos hj,List.map_append,List.map_append,List.map_cons]
 exact List.perm_middle
theorem Mem.outk (h:Mem H w0 (allR X::L) w) (hj:j<X.length):Mem H w0 (xres X[j]::restR X j::L) w:=by
 have h1:Mem H w0 (X.map xres++L) w:=h.imp (R:=X.map xres) fun _ hb=>hb
 have h2:=h1.perm ((out_perm hj).append_right L)
 have h3:Mem H w0 ((X.take j++X.drop (j+1)).map xres++(xres X[j]::L)) w:=h2.perm List.perm_middle.symm
 have h4:Mem H w0 (restR X j::xres X[j]::L) w:=h3.fold fun _ hb=>hb
 exact h4.perm (.swap ..)
theorem Mem.ink {y:Xp} (h:Mem H w0 (xres y::restR X j::L) w) (hj:j<X.length):Mem H w0 (allR (X.set j y)::L) w:=by
 have h1:Mem H w0 (restR X j::xres y::L) w:=h.perm (.swap ..)
 have h2:Mem H w0 ((X.take j++X.drop (j+1)).map xres++(xres y::L)) w:=h1.imp fun _ hb=>hb
 have h3:Mem H w0 ((X.set j y).map xres++L) w:=(h2.perm List.perm_middle).perm ((in_perm hj y).append_right L).symm
 exact h3.fold fun _ hb=>hb
theorem Mem.addk {y:Xp} (h:Mem H w0 (allR X::xres y::L) w):Mem H w0 (allR (X++[y])::L) w:=by
 have h1:Mem H w0 (X.map xres++(xres y::L)) w:=h.imp fun _ hb=>hb
 have h2:Mem H w0 ((X++[y]).map xres++L) w:=by
  rw[List.map_append,List.append_assoc]
  exact h1
 exact h2.fold fun _ hb=>hb
theorem Mem.unk {x:Xp} (h:Mem H w0 (allR (x::X)::L) w):Mem H w0 (xres x::allR X::L) w:=by
 have h1:Mem H w0 (xres x::(X.map xres++L)) w:=h.imp (R:=xres x::X.map xres) fun _ hb=>hb
 have h2:Mem H w0 (X.map xres++(xres x::L)) w:=h1.perm List.perm_middle.symm
 have h3:Mem H w0 (allR X::xres x::L) w:=h2.fold fun _ hb=>hb
 exact h3.perm (.swap ..)
theorem Mem.blankk (h:Mem H w0 (allR X::L) w) (hj:j<X.length):Mem H w0 (allR (X.set j x0)::L) w:=by
 have h1:=(h.outk hj).drop
 have h2:Mem H w0 (xres x0::restR X j::L) w:=h1.row0 3 1
 exact h2.ink hj
theorem Mem.dropk:∀ {X:List Xp} {L:List Res} (k:Nat),Mem H w0 (allR X::L) w→Mem H w0 (allR (X.take k)::L) w
 | X,L,0,h=>by
  rw[List.take_zero]
  exact h.drop.all0
 | [],L,k+1,h=>by simpa using h
 | x::X,L,k+1,h=>by
  have h1:Mem H w0 (allR X::xres x::L) w:=h.unk.perm (.swap ..)
  have h2:=Mem.dropk k h1
  have h3:Mem H w0 ((X.take k).map xres++(xres x::L)) w:=h2.imp fun _ hb=>hb
  have h4:Mem H w0 (((x::X).take (k+1)).map xres++L) w:=h3.perm List.perm_middle
  exact h4.fold fun _ hb=>hb
theorem Mem.frzX:∀ {X:List Xp} {L:List Res} {H:Hp},Mem H w0 (allR X::L) w→∃ H',Le w0 H H'∧Mem H' w0 L w∧∀ x∈X,Sl H' 1 x.2.1 (ints8 x.1.loose)
 | [],L,H,h=>⟨H,Le.refl _ _,h.drop,fun _ h=>by cases h⟩
 | x::X,L,H,h=>by
  obtain⟨H1,l1,h1,s1,-⟩:=h.unk.fz0
  obtain⟨H2,l2,h2,s2⟩:=Mem.frzX h1
  refine⟨H2,l1.trans l2,h2,fun y hy=>?_⟩
  rcases List.mem_cons.1 hy with rfl|hy
  ·exact s1.mono l2.le
  ·exact s2 y hy
theorem all2_rows {H:Hp}:∀ {X:List Xp},(∀ x∈X,Sl H 1 x.2.1 (ints8 x.1.loose)∧x.1.loose.length≤maxLen)→All2 (PnF H) (X.map xrow) (X.map (·.1))
 | [],_=>trivial
 | x::X,h=>⟨⟨x.2.1,x.2.2,rfl,h x (List.mem_cons_self ..)⟩,all2_rows fun y hy=>h y (List.mem_cons_of_mem _ hy)⟩
theorem Mem.frzT {ls:List Lf} (h:Mem H w0 (rowR 40 97 A ls.length a (ls.map Lf.fds)::rowR 69 66 B X.length b (X.map xrow)::allR X::L) w) (hb:∀ x∈X,x.1.loose.length≤maxLen):∃ H',Le w0 H H'∧Mem H' w0 L w∧TrF H' (tv A ls.length a B X.length b) ⟨ls,X.map (·.1)⟩:=by
 obtain⟨-,k1,k2,-⟩:=h.rowLen ⟨.refl _⟩
 obtain⟨H1,l1,h,s1,-⟩:=h.fz0
 obtain⟨-,k3,k4,-⟩:=h.rowLen ⟨.refl _⟩
 obtain⟨H2,l2,h,s2,-⟩:=h.fz0
 obtain⟨H3,l3,h,s3⟩:=h.frzX
 refine⟨H3,(l1.trans l2).trans l3,h,⟨A,a,B,b,X.map xrow,by simp,s1.mono (l2.trans l3).le,s2.mono l3.le,all2_rows fun x hx=>⟨s3 x hx,hb x hx⟩⟩,by simp only;omega,by simp only[List.length_map];omega⟩
theorem Mem.short (h:Mem H w0 (rowR e sz A n cap ps::L) w) (hk:k≤n):Mem H w0 (rowR e sz A k cap (ps.take k)::L) w:=by
 obtain⟨B,⟨B1,B2,rfl,⟨h1,h2,h3⟩,h4⟩,hs',hb⟩:=h.own
 refine⟨⟨_,⟨B1,B2,rfl,⟨h1.take k,by rw[List.length_take];omega,?_⟩,h4⟩,hs',hb⟩,h.fz⟩
 rcases h3 with ⟨hA,hn,hc,hB⟩|⟨g,sp,hA,hB,h5,h6,h7⟩
 ·exact .inl ⟨hA,by omega,hc,hB⟩
 ·have e1:fls ps=fls (ps.take k)++fls (ps.drop k):=by rw[← fls_app,List.take_append_drop]
  exact .inr ⟨g,fls (ps.drop k)++sp,hA,by rw[hB,e1,List.append_assoc],by rw[← List.append_assoc,← e1];exact h5,by omega,h7⟩
theorem le_of {H:Hp} (hf:Fz H w):H.le (Hp.of w):=fun b c h=>by
 obtain⟨t,fr,e⟩:=hf b c h
 simp[Hp.of,e]
end
theorem rising_len:∀ {l:List Int} {lo hi:Int},l.Pairwise (·<·)→(∀ x∈l,lo≤x∧x<hi)→lo≤hi→(l.length:Int)≤hi - lo
 | [],lo,hi,_,_,h=>by simp;omega
 | x::r,lo,hi,hp,hb,h=>by
  obtain⟨h1,h2⟩:=List.pairwise_cons.1 hp
  have hx:=hb x (List.mem_cons_self ..)
  have:=rising_len (lo:=lo+1) (hi:=hi) h2 (fun y hy=>by have:=h1 y hy;have:=hb y (List.mem_cons_of_mem _ hy);omega) (by omega)
  simp only[List.length_cons]
  omega
theorem Tr.Rt.loose {t:Tr} (h:t.Rt):∀ p∈t.ps,p.loose.length≤64∧p.loose.Pairwise (·<·):=by
 intro p hp
 obtain⟨i,hi,rfl⟩:=List.getElem_of_mem hp
 obtain⟨h1,h2⟩:=looseB_spec (parB_spec h.par i hi).2
 have hl:=h.len
 have:=rising_len (lo:=0) (hi:=t.size) h2 (fun x hx=>by have:=hld_rng (h1 x hx).1;omega) (by unfold Tr.size;omega)
 refine⟨?_,h2⟩
 unfold Tr.size at this
 omega
end Go.Proofs.YtpjodlnlmaaihaaGreat
namespace Go.Proofs.YtpjodlnlmaaihaaGreat
open Go.RowKit Go.Lib
theorem xrow0:xrow x0=[.one (.bool false),.arr 32 (u8s hzero.1),.arr 32 (u8s hzero.1),.one (.slice none 0 0)]:=rfl
theorem modify_const {α:Type} (l:List α) (k:Nat) (y:α):l.modify k (fun _=>y)=l.set k y:=by
 refine List.ext_getElem (by simp) fun i h1 h2=>?_
 simp only[List.getElem_modify,List.getElem_set]
theorem onDir_succ {f:Pn→Pn} {D:List Int} {ps:List Pn} {i:Nat} (h:i<D.length):onDir f (D.take (i+1)) ps=(onDir f (D.take i) ps).modify (D[i] / 2).toNat f:=by
 unfold onDir
 rw[List.take_succ_eq_append_getElem h,List.foldl_append]
 rfl
section
variable {H:Hp} {w0 w:World} {L R:List Res} {A B C:Option Addr} {a b c n:Nat} {t:Tr} {qs ps:List (List Fd)}
theorem cloneL_q {Q:Ending→World→Prop} (hs:Sl (Hp.of w) 97 A ps) (hn:n=ps.length) (hb:n≤100000) (hM:Mem H w0 L w)
  (hQ:∀ A' a' w',Ext w w'→Mem H w0 (rowR 40 97 A' n a' ps::L) w'→Q (.returned (.slice A' n a')) w'):Calls Tryz.prog 72 #[.slice A n a] w Q:=by
 refine C_slices_Clone_api_Leaf_api_Leaf ?_
 unfold F_slices_Clone_api_Leaf_api_Leaf
 refine clone_gen (P:=Tryz.prog) (t:=22) (R:=Q) hs hn hM ?_ hQ
 omega
theorem cloneL_ok (hs:Sl (Hp.of w) 97 A ps) (hn:n=ps.length) (hb:n≤100000) (hM:Mem H w0 L w):Calls Tryz.prog 72 #[.slice A n a] w fun en w'=>∃ v,en=.returned v∧Ext w w'∧∃ A' a',v=.slice A' n a'∧Mem H w0 (rowR 40 97 A' n a' ps::L) w':=
 cloneL_q hs hn hb hM fun A' a' w' hx hM=>⟨_,rfl,hx,_,_,rfl,hM⟩
theorem cloneP_q {Q:Ending→World→Prop} (hs:Sl (Hp.of w) 66 A ps) (hn:n=ps.length) (hb:n≤100000) (hM:Mem H w0 L w)
  (hQ:∀ A' a' w',Ext w w'→Mem H w0 (rowR 69 66 A' n a' ps::L) w'→Q (.returned (.slice A' n a')) w'):Calls Tryz.prog 73 #[.slice A n a] w Q:=by
 refine C_slices_Clone_api_Parent_api_Parent ?_
 unfold F_slices_Clone_api_Parent_api_Parent
 refine clone_gen (P:=Tryz.prog) (t:=23) (R:=Q) hs hn hM ?_ hQ
 omega
theorem cloneP_ok (hs:Sl (Hp.of w) 66 A ps) (hn:n=ps.length) (hb:n≤100000) (hM:Mem H w0 L w):Calls Tryz.prog 73 #[.slice A n a] w fun en w'=>∃ v,en=.returned v∧Ext w w'∧∃ A' a',v=.slice A' n a'∧Mem H w0 (rowR 69 66 A' n a' ps::L) w':=
 cloneP_q hs hn hb hM fun A' a' w' hx hM=>⟨_,rfl,hx,_,_,rfl,hM⟩
theorem cloneI_q {Q:Ending→World→Prop} (hs:Sl (Hp.of w) 1 A ps) (hn:n=ps.length) (hb:n≤100000) (hM:Mem H w0 L w)
  (hQ:∀ A' a' w',Ext w w'→Mem H w0 (rowR 3 1 A' n a' ps::L) w'→Q (.returned (.slice A' n a')) w'):Calls Tryz.prog 74 #[.slice A n a] w Q:=by
 refine C_slices_Clone_int_int ?_
 unfold F_slices_Clone_int_int
 refine clone_gen (P:=Tryz.prog) (t:=47) (R:=Q) hs hn hM ?_ hQ
 omega
theorem cloneI_ok (hs:Sl (Hp.of w) 1 A ps) (hn:n=ps.length) (hb:n≤100000) (hM:Mem H w0 L w):Calls Tryz.prog 74 #[.slice A n a] w fun en w'=>∃ v,en=.returned v∧Ext w w'∧∃ A' a',v=.slice A' n a'∧Mem H w0 (rowR 3 1 A' n a' ps::L) w':=
 cloneI_q hs hn hb hM fun A' a' w' hx hM=>⟨_,rfl,hx,_,_,rfl,hM⟩
theorem clone_ok (h1:Sl H 97 A (t.ls.map Lf.fds)) (h2:Sl H 66 B qs) (h3:All2 (PnF H) qs t.ps) (hl:t.ls.length≤1000) (hp:t.ps.length≤1000) (hlo:∀ p∈t.ps,p.loose.length≤1000) (hM:Mem H w0 L w):
  Calls Tryz.prog 30 #[tv A t.ls.length a B t.ps.length b] w fun en w'=>∃ v,en=.returned v∧∃ A' a' B' b' X,v=tv A' t.ls.length a' B' t.ps.length b'∧X.map (·.1)=t.ps ∧
   Mem H w0 (rowR 40 97 A' t.ls.length a' (t.ls.map Lf.fds)::rowR 69 66 B' t.ps.length b' (X.map xrow)::allR X::L) w':=by
 have hq:qs.length=t.ps.length:=h3.len
 refine C_tree_clone ?_
 unfold F_tree_clone
 (((refine mm_box hM ?_;clear hM;intro _ _ hM;refine mm_new hM ?_;clear hM;intro _ _ hM)))
 rename_i g1 _ g2 _
 refine⟨fun v w'=>∃ g3 A' a' B' b',v=.pointer (some ⟨g3,0,none⟩)∧Mem H w0 (fb g3 25 (tfd A' t.ls.length a' B' t.ps.length b')::fb g2 25 (tfd none 0 0 none 0 0)::rowR 40 97 A' t.ls.length a' (t.ls.map Lf.fds)::rowR 69 66 B' t.ps.length b' qs::L) w',⟨?_,?_,?_⟩,?_⟩
 ·(((refine dp_c trivial ?_;refine dm_ld hM ?_;refine dp_c trivial ?_;refine dm_ld hM ?_)))
  refine dm_ownE hM (fun w hM=>cloneL_ok (h1.mono (le_of hM.fz)) (by simp) (by omega) hM) ?_
  rintro v w' hx ⟨A',a',rfl,hM⟩
  skip
  refine dm_own hM (fun w hM=>(cloneP_ok (h2.mono (le_of hM.fz)) hq.symm (by omega) hM).mono fun en w' ⟨v,h,_,k⟩=>⟨v,h,k⟩) ?_
  rintro v w' ⟨B',b',rfl,hM⟩
  (((refine dp_c trivial ?_;refine dm_new hM ?_;clear hM;intro _ _ hM;refine dS_st hM ?_;clear hM;intro _ hM;refine mm_end hM ?_;clear hM;intro _ hM)))
  exact⟨_,A',a',B',b',rfl,hM.sub⟩
 ·(((refine dp_c trivial ?_;refine dm_ld hM ?_;refine dp_c trivial ?_;refine dm_ld hM ?_)))
  refine dm_ownE hM (fun w hM=>cloneL_ok (h1.mono (le_of hM.fz)) (by simp) (by omega) hM) ?_
  rintro v w' hx ⟨A',a',rfl,hM⟩
  (((refine dm_new hM ?_;clear hM;intro _ _ hM)))
  refine dm_own hM (fun w hM=>(cloneP_ok (h2.mono (le_of hM.fz)) hq.symm (by omega) hM).mono fun en w' ⟨v,h,_,k⟩=>⟨v,h,k⟩) ?_
  rintro v w' ⟨B',b',rfl,hM⟩
  (((refine dp_c trivial ?_;refine dS_st hM ?_;clear hM;intro _ hM;refine mm_end hM ?_;clear hM;intro _ hM)))
  exact⟨_,A',a',B',b',rfl,hM.sub⟩
 ·(((refine dp_c trivial ?_;refine dm_ld hM ?_;refine dp_c trivial ?_;refine dm_ld hM ?_;refine dm_new hM ?_;clear hM;intro _ _ hM)))
  refine dm_ownE hM (fun w hM=>cloneL_ok (h1.mono (le_of hM.fz)) (by simp) (by omega) hM) ?_
  rintro v w' hx ⟨A',a',rfl,hM⟩
  skip
  refine dm_own hM (fun w hM=>(cloneP_ok (h2.mono (le_of hM.fz)) hq.symm (by omega) hM).mono fun en w' ⟨v,h,_,k⟩=>⟨v,h,k⟩) ?_
  rintro v w' ⟨B',b',rfl,hM⟩
  (((refine dp_c trivial ?_;refine dS_st hM ?_;clear hM;intro _ hM;refine mm_end hM ?_;clear hM;intro _ hM)))
  exact⟨_,A',a',B',b',rfl,hM.sub⟩
 clear hM
 rintro v u2 w2 ⟨g3,A',a',B',b',rfl,hM⟩
 (((refine mop_c trivial ?_;refine mm_ld hM ?_;refine mop_c trivial ?_)))
 have hM0:Mem H w0 (fb g3 25 (tfd A' t.ls.length a' B' t.ps.length b')::fb g2 25 (tfd none 0 0 none 0 0)::rowR 40 97 A' t.ls.length a' (t.ls.map Lf.fds)::rowR 69 66 B' t.ps.length b' qs::allR []::L) _:=hM.all0.same
 refine⟨fun v w'=>∃ (i:Nat) (X:List Xp),v=.int .i64 i∧i≤t.ps.length∧X.map (·.1)=t.ps.take i∧Mem H w0 (fb g3 25 (tfd A' t.ls.length a' B' t.ps.length b')::fb g2 25 (tfd none 0 0 none 0 0)::rowR 40 97 A' t.ls.length a' (t.ls.map Lf.fds)::rowR 69 66 B' t.ps.length b' (X.map xrow++qs.drop i)::allR X::L) w',fun v _=>match v with | .int _ k=>t.ps.length - k.toNat|_=>0,⟨0,[],rfl,by omega,rfl,hM0⟩,?_⟩
 clear hM hM0
 rintro v u3 w3 ⟨i,X,rfl,hi,hX,hM⟩
 have hXl:X.length=i:=by
  have:=congrArg List.length hX
  simp at this
  omega
 (((refine mop_cS trivial ?_ ?_)))
 ·intro hlt
  have hlt':i<t.ps.length:=by omega
  obtain⟨q,hq1,C,c,rfl,hC,hcl⟩:=h3.at_ (i:=i) hlt'
  obtain⟨p,hpe⟩:∃ p,t.ps[i]=p:=⟨_,rfl⟩
  have hpl:=hlo p (hpe ▸ List.getElem_mem _)
  rw[hpe]at hq1 hC
  have hrow:(X.map xrow++qs.drop i)[(i:Int).toNat]?=some (p.row C c):=by
   rw[Int.toNat_natCast,List.getElem?_append_right (by simp;omega)]
   simp[hXl,hq1]
  (((refine mif_true ?_;refine dp_c trivial ?_;refine dm_ld hM ?_;refine dp_c trivial ?_;refine dm_ld hM ?_;refine dp_ixr hM ?_ ?_));(focus omega);((intro _ hA));(cases hA);((refine dp_c trivial ?_)))
  refine dm_ldr hM hrow ?_
  refine dm_ownE hM (fun w hM=>cloneI_ok (hC.mono (le_of hM.fz)) (by simp) (by omega) hM) ?_
  rintro v w' hx ⟨C',c',rfl,hM⟩
  (((refine dp_ixr hM ?_ ?_));(focus omega);((intro _ hA));(cases hA);((refine dp_c trivial ?_)))
  refine dm_stf hM hrow (fun w' hM=>?_)
  (((refine mm_end hM ?_;clear hM;intro _ hM;refine mop_c ?_ ?_));(focus omega))
  rename_i g5 _ _ _ _
  have hset:(X.map xrow++qs.drop i).set (i:Int).toNat (p.row C' c')=(X++[(p,C',c')]).map xrow++qs.drop (i+1):=by
   rw[Int.toNat_natCast,List.set_append_right _ _ (by simp;omega)]
   simp only[List.length_map,hXl,Nat.sub_self,List.map_append,List.append_assoc]
   rw[List.drop_eq_getElem_cons (by omega)]
   rfl
  have hM2:Mem H w0 (rowR 69 66 (some ⟨g5,0,none⟩) t.ps.length b' ((X++[(p,C',c')]).map xrow++qs.drop (i+1))::_) _:=hset ▸ hM
  have hM:Mem H w0 (allR X::xres (p,C',c')::fb g3 25 (tfd A' t.ls.length a' (some ⟨g5,0,none⟩) t.ps.length b')::fb g2 25 (tfd none 0 0 none 0 0)::rowR 40 97 A' t.ls.length a' (t.ls.map Lf.fds)::rowR 69 66 (some ⟨g5,0,none⟩) t.ps.length b' ((X++[(p,C',c')]).map xrow++qs.drop (i+1))::L) _:=hM2.sub
  refine⟨⟨i+1,X++[(p,C',c')],rfl,by omega,?_,hM.addk.same⟩,by simp only;omega⟩
  rw[List.map_append,hX,List.take_succ_eq_append_getElem hlt',hpe]
  rfl
 ·intro hge
  obtain rfl:i=t.ps.length:=by omega
  rw[List.take_length]at hX
  rw[List.drop_eq_nil_of_le (by omega),List.append_nil]at hM
  (((refine mif_false ?_;refine mm_ld hM ?_;refine mm_st hM ?_;clear hM;intro _ hM;refine rm_ld hM ?_)))
  exact⟨_,rfl,_,_,_,_,_,rfl,hX,hM.sub⟩
theorem none_ok (p:Int) (h1:Sl H 97 A (t.ls.map Lf.fds)) (hl:t.ls.length≤maxLen) (hf:Fz H w):Calls Tryz.prog 42 #[tv A t.ls.length a B n b,.int .i64 p] w fun en w'=>en=.returned (.bool (decide (t.nobody p)))∧St w [] w':=by
 have hM:=Mem.start hf
 have hl':t.ls.length≤9223372036854775807:=hl
 refine C_tree_none ?_
 unfold F_tree_none
 (((refine mm_box hM ?_;clear hM;intro _ _ hM)))
 (((refine mop_cS trivial ?_ ?_)))
 ·intro h
  ((((iterate 5 refine mguard_n1 ?_);refine mop_c trivial ?_;(iterate 7 refine mguard_n1 ?_);refine mop_c trivial ?_)))
  exact⟨by rw[decide_eq_true (show t.nobody p from .inl (.inl h))],hM.st⟩
 ·intro h
  (((refine mguard_yes ?_;refine mop_c trivial ?_;refine mguard_yes ?_;refine mop_c trivial ?_;refine mguard_yes ?_;refine mm_ld hM ?_;refine mguard_yes ?_;refine mop_c trivial ?_;refine mguard_yes ?_)))
  (((refine mop_cS trivial ?_ ?_)))
  ·intro h2
   (((refine mop_c trivial ?_;(iterate 7 refine mguard_n1 ?_);refine mop_c trivial ?_)))
   exact⟨by rw[decide_eq_true (show t.nobody p from .inl (.inr h2))],hM.st⟩
  ·intro h2
   have h3:p.toNat<t.ls.length:=by omega
   have h4:=nameAt_at (ls:=t.ls) (p:=p) (by omega) h3
   (((refine mop_c trivial ?_;refine mguard_yes ?_;refine mop_c trivial ?_;refine mguard_yes ?_;refine mm_ld hM ?_;refine mguard_yes ?_;refine mop_c trivial ?_;refine mguard_yes ?_));(refine mm_ixs ‹_› ?_ ?_ ?_);(focus (simp only[List.length_map];omega));(focus (simp only[List.length_map];first|done|omega));((intro _ _ hA));(cases hA);((refine mguard_yes ?_;refine mop_c trivial ?_;refine mguard_yes ?_));(refine mm_lds hM ‹_› (map_at ?_) ?_);(focus omega);((refine mguard_yes ?_)))
   rw[← h4]
   (((refine mop_cS trivial ?_ ?_)))
   ·intro h5
    (((refine mop_c trivial ?_)))
    exact⟨by rw[decide_eq_true (show t.nobody p from .inr h5)],hM.st⟩
   ·intro h5
    (((refine mop_c trivial ?_)))
    exact⟨by rw[decide_eq_false (show ¬t.nobody p from fun k=>k.elim (fun k=>k.elim h h2) h5)],hM.st⟩
theorem sound_ok (h1:Sl H 97 A (t.ls.map Lf.fds)) (h2:Sl H 66 B qs) (h3:All2 (PnF H) qs t.ps) (hl:t.ls.length≤maxLen) (hp:t.ps.length≤maxLen) (hf:Fz H w):
  Calls Tryz.prog 38 #[tv A t.ls.length a B t.ps.length b] w fun en w'=>en=.returned (if t.right=true then tv A t.ls.length a B t.ps.length b else tv none 0 0 none 0 0)∧St w [] w':=by
 have hM:=Mem.start hf
 refine C_tree_sound ?_
 unfold F_tree_sound
 (((refine mm_box hM ?_;clear hM;intro _ _ hM;refine mm_new hM ?_;clear hM;intro _ _ hM;refine mm_ld hM ?_)))
 refine mm_pure hM (right_ok h1 h2 h3 hl hp hM.fz) (fun w hM=>?_)
 cases hr:t.right
 ·(((refine mif_false ?_;refine mop_c trivial ?_;refine mm_st hM ?_;clear hM;intro _ hM;refine rm_ld hM ?_)))
  exact⟨rfl,hM.st⟩
 ·(((refine mif_true ?_;refine mm_ld hM ?_;refine mm_st hM ?_;clear hM;intro _ hM;refine rm_ld hM ?_)))
  exact⟨rfl,hM.st⟩
theorem place1_ok (g:Nat) (x:Int) (y:Lf) (hM:Mem H w0 (fb g 3 [.one (.int .i64 x)]::R) w):
  Calls Tryz.prog 41 #[lv y,.pointer (some ⟨g,0,none⟩)] w fun e w'=>∃ v,e=.returned v∧v=.bool (decide (y.name=x))∧Mem H w0 (fb g 3 [.one (.int .i64 x)]::R) w':=by
 refine C_tree_Place_1 ?_
 unfold F_tree_Place_1
 (((refine mm_box hM ?_;clear hM;intro _ _ hM;refine mop_c trivial ?_;refine mm_ld hM ?_;refine mm_ld hM ?_)))
 (((refine mop_cS trivial ?_ ?_)))
 all_goals
  intro hi
  skip
  exact⟨_,rfl,by simp[hi],hM.drop⟩
theorem clo_place (g:Nat) (x:Int):Clo Tryz.prog H w0 (fb g 3 [.one (.int .i64 x)]) (.func (.func 41) #[] #[.pointer (some ⟨g,0,none⟩)]) lv (fun y:Lf=>decide (y.name=x)):=fun y R w K X hM hk=>
 mop_callv (place1_ok g x y hM) (by rintro e w' ⟨v,rfl,rfl,h⟩;exact hk w' h)
theorem ixf_ok {r:Res} {cl:Value} {f:Lf→Bool} (ls:List Lf) (hl:ls.length<1000000) (hc:Clo Tryz.prog H w0 r cl lv f) (hs:Sl H 97 A (ls.map Lf.fds)) (hM:Mem H w0 (r::R) w):
  Calls Tryz.prog 40 #[.slice A ls.length a,cl] w fun en w'=>∃ v,en=.returned v∧v=.int .i64 (fix f ls)∧Mem H w0 (r::R) w':=by
 refine C_slices_IndexFunc_api_Leaf_api_Leaf ?_
 unfold F_slices_IndexFunc_api_Leaf_api_Leaf
 (((refine mop_c trivial ?_)))
 refine⟨fun v w'=>∃ i:Nat,v=.int .i64 i∧i≤ls.length∧(∀ j (hj:j<ls.length),j<i→f ls[j]=false)∧Mem H w0 (r::R) w',fun v _=>match v with | .int _ k=>ls.length - k.toNat|_=>0,⟨0,rfl,by omega,fun j _ h=>by omega,hM⟩,?_⟩
 rintro v u w3 ⟨i,rfl,hi,hlo,hM⟩
 (((refine mop_cS trivial ?_ ?_)))
 ·intro hlt
  have hlt':i<ls.length:=by omega
  (((refine mif_true ?_));(refine mm_ixs ‹_› ?_ ?_ ?_);(focus (simp only[List.length_map];omega));(focus (simp only[List.length_map];first|done|omega));((intro _ _ hA));(cases hA);(refine mm_lds0 hM ‹_› (map_atI ?_) ?_);(focus omega))
  refine hc _ _ _ _ _ hM (fun w hM=>?_)
  cases hfi:f ls[i]
  ·(((refine mif_false ?_;refine mop_c ?_ ?_));(focus omega))
   refine⟨⟨i+1,rfl,by omega,fun j hj hji=>?_,hM⟩,by simp only;omega⟩
   rcases Nat.lt_or_ge j i with h2|h2
   ·exact hlo j hj h2
   ·obtain rfl:j=i:=by omega
    exact hfi
  ·(((refine mif_true ?_)))
   exact⟨_,rfl,by rw[fix_at hlt' hlo hfi],hM⟩
 ·intro hge
  (((refine mif_false ?_)))
  exact⟨_,rfl,by rw[fix_none fun j hj=>hlo j hj (by omega)],hM⟩
theorem place_ok (x:Int) (h1:Sl H 97 A (t.ls.map Lf.fds)) (h2:Sl H 66 B qs) (h3:All2 (PnF H) qs t.ps) (hl:t.ls.length≤maxLen) (hp:t.ps.length≤maxLen) (hf:Fz H w):
  Calls Tryz.prog 13 #[tv A t.ls.length a B t.ps.length b,.int .i64 x] w fun en w'=>en=.returned (.int .i64 (t.sound.place x))∧St w [] w':=by
 have hM:=Mem.start hf
 refine C_tree_Place ?_
 unfold F_tree_Place
 (((refine mm_box hM ?_;clear hM;intro _ _ hM;refine mm_box hM ?_;clear hM;intro _ _ hM;refine mm_ld hM ?_)))
 rename_i g1 _ g2 _
 (((refine mop_cS trivial ?_ ?_)))
 ·intro h
  (((refine mif_true ?_)))
  exact⟨by rw[show t.sound.place x = -1 from if_pos h],hM.st⟩
 ·intro h
  (((refine mif_false ?_;refine mm_ld hM ?_)))
  have hpl:t.sound.place x=fix (fun l=>decide (l.name=x)) t.sound.ls:=if_neg h
  rw[hpl]
  refine mm_pure hM (sound_ok h1 h2 h3 hl hp hM.fz) (fun w hM=>?_)
  have hM:=hM.at_ (fb g2 3 [.one (.int .i64 x)])
  unfold Tr.sound
  cases hr:t.right
  ·rw[if_neg (by simp),if_neg (by simp)]
   (((refine mop_c trivial ?_;refine mop_c trivial ?_)))
   refine mm_own (ixf_ok (A:=none) [] (by simp) (clo_place g2 x) (Sl.nil _ _ _) hM) ?_
   rintro v w' ⟨rfl,hM⟩
   exact⟨rfl,hM.st⟩
  ·rw[if_pos rfl,if_pos rfl]
   (((refine mop_c trivial ?_;refine mop_c trivial ?_)))
   have:=(Tr.rt.1 hr).len
   refine mm_own (ixf_ok t.ls (by omega) (clo_place g2 x) h1 hM) ?_
   rintro v w' ⟨rfl,hM⟩
   exact⟨rfl,hM.st⟩
theorem blank_ok {X:List Xp} {ls:List Lf} {p:Int} (hp:0≤p∧p<ls.length∧ls.length≤64) (hX:X.length+1=ls.length)
  (hM:Mem H w0 (rowR 40 97 A ls.length a (ls.map Lf.fds)::rowR 69 66 B X.length b (X.map xrow)::allR X::L) w):
  Calls Tryz.prog 43 #[tv A ls.length a B X.length b,.int .i64 p] w fun en w'=>∃ v,en=.returned v∧∃ H' X',v=.tuple #[]∧X'.map (·.1)=blankP ls.length p (X.map (·.1))∧X'.length=X.length∧Le w0 H H' ∧
   Mem H' w0 (rowR 40 97 A ls.length a (ls.map Lf.fds)::rowR 69 66 B X.length b (X'.map xrow)::allR X'::L) w':=by
 refine C_tree_blank ?_
 unfold F_tree_blank
 (((refine mm_box hM ?_;clear hM;intro _ _ hM;refine mop_c trivial ?_;refine mm_ld hM ?_;refine mop_c trivial ?_)))
 rename_i g1 _
 refine mm_call hM (bdirect_ok ls.length p (by omega) hM.fz) ?_
 rintro H1 v w1 l1 hM ⟨D,c,rfl,hD⟩
 have hdl:=dirL_len ls.length p
 have hdm:=fun x hx=>dir_mem (n:=ls.length) (l:=p) (x:=x) (by omega) hx
 generalize hDL:dirL ls.length p=DL at *
 (((refine mop_c trivial ?_)))
 refine⟨fun v w'=>∃ (i:Nat) (Y:List Xp),v=.int .i64 i∧i≤DL.length∧Y.map (·.1)=onDir (fun _=>Pn.zero) (DL.take i) (X.map (·.1))∧Y.length=X.length∧Mem H1 w0 (fb g1 25 (tfd A ls.length a B X.length b)::rowR 40 97 A ls.length a (ls.map Lf.fds)::rowR 69 66 B X.length b (Y.map xrow)::allR Y::L) w',fun v _=>match v with | .int _ k=>DL.length - k.toNat|_=>0,⟨0,X,rfl,by omega,rfl,rfl,hM⟩,?_⟩
 clear hM
 rintro v u w3 ⟨i,Y,rfl,hi,hY,hYl,hM⟩
 (((refine mop_cS trivial ?_ ?_)))
 ·intro hlt
  have hlt':i<DL.length:=by omega
  obtain⟨x,hx⟩:∃ x,DL[i]=x:=⟨_,rfl⟩
  have hxm:=hdm x (hx ▸ List.getElem_mem _)
  (((refine mif_true ?_));(refine mm_ixs ‹_› ?_ ?_ ?_);(focus (simp only[List.length_map];omega));(focus (simp only[List.length_map];first|done|omega));((intro _ _ hA));(cases hA);(refine mm_lds0 hM ‹_› (map_atI ?_) ?_);(focus omega);((refine mop_c trivial ?_;refine mm_ld hM ?_;refine mop_c ?_ ?_));(focus omega);((refine mop_c trivial ?_;refine mm_ixr hM ?_ ?_));(focus omega);((intro _ hA));(cases hA);((refine mm_str hM ?_ ?_));(focus omega);((clear hM;intro _ hM;refine mop_c ?_ ?_));(focus omega))
  have hk:(x / 2).toNat<Y.length:=by omega
  rw[← xrow0,hx,← List.map_set]at hM
  have hM:=(hM.at_ (allR Y)).blankk hk
  refine⟨⟨i+1,Y.set (x / 2).toNat x0,rfl,by omega,?_,by simpa using hYl,hM.same⟩,by simp only;omega⟩
  rw[List.map_set,hY,onDir_succ hlt',hx,modify_const]
 ·intro hge
  (((refine mif_false ?_)))
  refine⟨_,rfl,H1,Y,rfl,?_,hYl,l1,hM.sub⟩
  rw[hY,List.take_of_length_le (by omega)]
  unfold blankP
  rw[hDL]
end
end Go.Proofs.YtpjodlnlmaaihaaGreat
