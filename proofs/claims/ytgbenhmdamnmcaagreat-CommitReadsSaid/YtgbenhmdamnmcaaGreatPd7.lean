/- Part 7 of the proof. -/
import Derived.Test.YtgbenhmdamnmcaaGreatPd6
import Derived.RangeFuncBox
import Derived.RangeFuncLeaves
import Derived.Shelf.Abstract
import Derived.WalkKit
import Derived.OwnWalkIn
import Derived.TacticsInMore
import Derived.LoopNIn
import Derived.LoopIn
import Derived.Maps.AppendAt
import Derived.Lib.AppendZerosOnto
import Derived.Lib.Overlaps
set_option linter.unusedVariables false
namespace Go.Proofs.YtgbenhmdamnmcaaGreat.Cmt
open Go.Proofs.Tryz
open Go.RowKit Go.Proofs.YtgbenhmdamnmcaaGreat.Chg
def textB (s:ByteArray):List Int:=numB s.size++ints s
theorem Jb (s:ByteArray):(textB s).length≤8+s.size:=by
 have:=Be s.size
 rw[textB,List.length_append,Bq]
 omega
def propT (p:Prp):List Int:=textB (Chg.packB p)
def rungT (r:Rn):List Int:=r.pub.1++(numB r.wraps.length++r.wraps.flatMap textB)
def welT (x:Wl):List Int:=numB x.name++(numB x.card++textB x.wrap)
def coreL (c:Cm):List Int:=c.parent.1++numB c.depth++numB c.author++(numB c.props.length++c.props.flatMap propT)++c.leaf.1++c.above.1++(numB c.path.length++c.path.flatMap rungT)
def signedL (c:Cm):List Int:=coreL c++textB c.info++(numB c.wels.length++c.wels.flatMap welT)++c.tag.1
def packL (c:Cm):List Int:=signedL c++c.sign.1
theorem Il {α:Type} {f:α→List Int} {B:Nat}:∀ {xs:List α},(∀ x∈xs,(f x).length≤B)→(xs.flatMap f).length≤xs.length*B
 | [],_=>by simp
 | x::xs,h=>by
   have h1:=h x (by simp)
   have h2:=Il (xs:=xs) fun y hy=>h y (by simp[hy])
   rw[List.flatMap_cons,List.length_append,List.length_cons,Nat.succ_mul]
   omega
theorem Qc {α:Type} {f:α→List Int} {xs:List α} {i:Nat} (h:i<xs.length):(xs.take (i+1)).flatMap f=(xs.take i).flatMap f++f xs[i]:=by
 rw[List.take_succ_eq_append_getElem h,List.flatMap_append]
 simp
theorem Yi {α:Type} {f:α→List Int} {B:Nat} {xs:List α} (h:∀ x∈xs,(f x).length≤B) (i:Nat) (hi:i≤xs.length):((xs.take i).flatMap f).length≤xs.length*B:=by
 have:=Il (xs:=xs.take i) fun x hx=>h x (List.mem_of_mem_take hx)
 rw[List.length_take,Nat.min_eq_left hi]at this
 exact Nat.le_trans this (Nat.mul_le_mul_right _ hi)
theorem Wa {p:Prp}:(propT p).length≤200:=by
 have h1:=Jb (Chg.packB p)
 have h2:=No p
 have h3:(Chg.packB p).size=(textL p++p.sign.1).length:=strOfNums_size _
 rw[List.length_append,p.sign.2.1]at h3
 unfold propT
 omega
theorem aOv (p:Prp):(Chg.packB p).size≤200:=by
 have h2:=No p
 have h3:(Chg.packB p).size=(textL p++p.sign.1).length:=strOfNums_size _
 rw[List.length_append,p.sign.2.1]at h3
 omega
theorem Pj {s:ByteArray} (h:longS s=false):(textB s).length≤1100∧s.size≤1024:=by
 have:=Jb s
 unfold longS at h
 simp at h
 omega
theorem Wb {r:Rn} (h:r.odd=false):(rungT r).length≤80000∧r.wraps.length≤64∧∀ s∈r.wraps,longS s=false:=by
 unfold Rn.odd at h
 simp only[Bool.or_eq_false_iff,decide_eq_false_iff_not,List.any_eq_false]at h
 have hw:∀ s∈r.wraps,longS s=false:=fun s hs=>by simpa using h.2 s hs
 have h1:=Il (f:=textB) (B:=1100) (xs:=r.wraps) fun s hs=>(Pj (hw s hs)).1
 have h2:=Be r.wraps.length
 refine⟨?_,by omega,hw⟩
 rw[rungT,List.length_append,List.length_append,r.pub.2.1]
 omega
theorem aSo {x:Wl} (h:x.odd=false):(1≤x.name∧x.name≤64)∧(0≤x.card∧x.card≤4611686018427387903)∧longS x.wrap=false:=by
 unfold Wl.odd at h
 simp only[Bool.or_eq_false_iff,Bool.not_eq_false',decide_eq_true_eq,decide_eq_false_iff_not]at h
 exact⟨h.1.1.1,by omega,h.2⟩
theorem aAv {x:Wl} (h:x.odd=false):(welT x).length≤1200:=by
 have h1:=(Pj (aSo h).2.2).1
 have h2:=Be x.name
 have h3:=Be x.card
 rw[welT,List.length_append,List.length_append]
 omega
theorem Cm.rt {c:Cm} (h:c.right=true):c.fits∧(∀ p∈c.props,p.right)∧(∀ r∈c.path,r.odd=false)∧∀ x∈c.wels,x.odd=false:=by
 unfold Cm.right at h
 simp only[Bool.and_eq_true,decide_eq_true_eq,Bool.not_eq_true',List.any_eq_false]at h
 refine⟨h.1.1,fun p hp=>?_,fun r hr=>?_,fun x hx=>?_⟩
 ·have:=h.2.1 p hp
  simpa using this
 ·simpa using h.1.2 r hr
 ·simpa using h.2.2 x hx
theorem Qd {c:Cm} (h:c.right=true):(coreL c).length≤6000000:=by
 obtain⟨⟨h1,h2,h3,h4,h5,h6⟩,hp,hr,hw⟩:=Cm.rt h
 have a1:=Il (f:=propT) (B:=200) (xs:=c.props) fun p _=>Wa
 have a2:=Il (f:=rungT) (B:=80000) (xs:=c.path) fun r hr'=>(Wb (hr r hr')).1
 have b1:=Be c.depth
 have b2:=Be c.author
 have b3:=Be c.props.length
 have b4:=Be c.path.length
 simp only[coreL,List.length_append,c.parent.2.1,c.leaf.2.1,c.above.2.1]
 omega
theorem aDh {c:Cm} (h:c.right=true):(packL c).length≤7000000∧(signedL c).length≤6900000:=by
 have h0:=Qd h
 obtain⟨⟨h1,h2,h3,h4,h5,h6⟩,hp,hr,hw⟩:=Cm.rt h
 have a1:=Il (f:=welT) (B:=1200) (xs:=c.wels) fun x hx=>aAv (hw x hx)
 have b1:=Jb c.info
 have b3:=Be c.wels.length
 simp only[packL,signedL,List.length_append,c.tag.2.1,c.sign.2.1]
 omega
section
variable {H:Hp} {w0 w:World} {L R:List Res} {A P Q W:Option Addr} {a pc qc wc g b:Nat} {qs:List (List Fd)} {c:Cm} {out:List Int}
theorem Pl (s:ByteArray) (hs:s.size≤65536) (hb:out.length<999900000) (hM:Mem H w0 (wrR g out false::L) w):Calls prog 86 #[.pointer (some ⟨g,0,none⟩),.string s] w fun en w'=>∃ v,en=.returned v∧v=.tuple #[]∧Mem H w0 (wrR g (out++textB s) false::L) w':=by
 have hn:=Be s.size
 refine Ru ?_
 unfold Jo
 (((refine Ab trivial ?_;refine Aj ?_;refine Ab trivial ?_;refine Bm trivial ?_ ?_));(focus (first|assumption|omega|with_reducible rfl|exact fun h=>Bool.noConfusion h));((refine Aj ?_;refine Ab trivial ?_)))
 refine Bi (Da s.size (by omega) (by omega) hM) ?_
 rintro v w2 ⟨rfl,hM⟩
 obtain⟨A,cc,hM⟩:=hM.wr
 (((refine Ab trivial ?_;refine Ab trivial ?_;refine An hM ?_)))
 refine aVm hM Tryz.underlying9 (by rw[List.length_append];omega) (fun A' c' w4 hM=>?_)
 (((refine Ab trivial ?_;refine Ab trivial ?_;refine Az hM ?_;clear hM;intro _ hM)))
 refine⟨_,rfl,rfl,?_⟩
 have e:out++textB s=(out++numB s.size)++ints s:=by unfold textB;simp
 rw[e]
 exact Mem.unwr ((hM.upB g).sub:Mem H w0 (fb g 177 [.one (.slice A' ((out++numB s.size).length+s.size) c'),.one (.bool false)]::rowR 5 1 A' ((out++numB s.size).length+s.size) c' (byts ((out++numB s.size)++ints s))::L) _) (by simp only[List.length_append,Bq])
def CloW (M:Nat) (P:Program) (H:Hp) (w0:World) (g:Nat) (r:Res) (c v:Value) (f:List Int):Prop:=
 ∀ (out:List Int) (R:List Res) (w:World) (K:Value→World→Prop) (X:List PanicEntry→World→Prop),out.length<M→Mem H w0 (wrR g out false::r::R) w→(∀ w',Mem H w0 (wrR g (out++f) false::r::R) w'→K (.tuple #[]) w')→mop P (Ah c [v]) w K X
theorem aSp {M:Nat} {r:Res} {cl:Value} (xs:List ByteArray) (hl:xs.length≤64) (hc:∀ i (h:i<xs.length),CloW M prog H w0 g r cl (.string xs[i]) (textB xs[i])) (hs:Sl H 1 A (xs.map sfd)) (B:Nat) (hB:∀ x∈xs,(textB x).length≤B) (hb:out.length+8+xs.length*B<M) (hM9:M≤900000000) (hM:Mem H w0 (wrR g out false::r::R) w):
  Calls prog 110 #[.pointer (some ⟨g,0,none⟩),.slice A xs.length a,cl] w fun en w'=>∃ v,en=.returned v∧v=.tuple #[]∧Mem H w0 (wrR g (out++(numB xs.length++xs.flatMap textB)) false::r::R) w':=by
 refine Ox ?_
 unfold Ih
 have hn:=Be xs.length
 (((refine Ab trivial ?_)))
 refine Bi (Da xs.length (by omega) (by omega) hM) ?_
 rintro v w2 ⟨rfl,hM⟩
 (((refine Ab trivial ?_)))
 refine⟨fun v w'=>∃ i:Nat,v=.int .i64 i∧i≤xs.length∧Mem H w0 (wrR g (out++numB xs.length++(xs.take i).flatMap textB) false::r::R) w',fun v _=>match v with | .int _ k=>xs.length - k.toNat|_=>0,⟨0,rfl,by omega,by simpa using hM⟩,?_⟩
 clear hM
 rintro v u w3 ⟨i,rfl,hi,hM⟩
 (((refine Aw trivial ?_ ?_)))
 ·intro hlt
  have hlt':i<xs.length:=by omega
  (((refine Am ?_));(refine Ci ‹_› ?_ ?_ ?_);(focus (simp only[List.length_map];omega));(focus (simp only[List.length_map];first|done|omega));((intro _ _ hA));(cases hA);(refine Cb hM ‹_› (By ?_) ?_);(focus omega))
  have hle:=Yi hB i hi
  refine hc i hlt' _ R _ _ _ (by simp only[List.length_append];omega) (hM.sub:Mem H w0 (wrR g (out++numB xs.length++(xs.take i).flatMap textB) false::r::R) _) (fun w hM=>?_)
  rw[List.append_assoc _ _ (textB _),← Qc hlt']at hM
  (((refine Ab ?_ ?_));(focus omega))
  exact⟨⟨i+1,rfl,by omega,hM⟩,by simp only;omega⟩
 ·intro hge
  obtain rfl:i=xs.length:=by omega
  rw[List.take_length]at hM
  (((refine Aj ?_)))
  exact⟨_,rfl,rfl,by rw[← List.append_assoc];exact hM⟩
theorem aSq {M:Nat} {r:Res} {cl:Value} (xs:List Prp) (hl:xs.length≤64) (hc:∀ i (h:i<xs.length),CloW M prog H w0 g r cl (Chg.prv xs[i]) (propT xs[i])) (hs:Sl H 101 A (xs.map Prp.fds)) (B:Nat) (hB:∀ x∈xs,(propT x).length≤B) (hb:out.length+8+xs.length*B<M) (hM9:M≤900000000) (hM:Mem H w0 (wrR g out false::r::R) w):
  Calls prog 105 #[.pointer (some ⟨g,0,none⟩),.slice A xs.length a,cl] w fun en w'=>∃ v,en=.returned v∧v=.tuple #[]∧Mem H w0 (wrR g (out++(numB xs.length++xs.flatMap propT)) false::r::R) w':=by
 refine Jq ?_
 unfold Ff
 have hn:=Be xs.length
 (((refine Ab trivial ?_)))
 refine Bi (Da xs.length (by omega) (by omega) hM) ?_
 rintro v w2 ⟨rfl,hM⟩
 (((refine Ab trivial ?_)))
 refine⟨fun v w'=>∃ i:Nat,v=.int .i64 i∧i≤xs.length∧Mem H w0 (wrR g (out++numB xs.length++(xs.take i).flatMap propT) false::r::R) w',fun v _=>match v with | .int _ k=>xs.length - k.toNat|_=>0,⟨0,rfl,by omega,by simpa using hM⟩,?_⟩
 clear hM
 rintro v u w3 ⟨i,rfl,hi,hM⟩
 (((refine Aw trivial ?_ ?_)))
 ·intro hlt
  have hlt':i<xs.length:=by omega
  (((refine Am ?_));(refine Ci ‹_› ?_ ?_ ?_);(focus (simp only[List.length_map];omega));(focus (simp only[List.length_map];first|done|omega));((intro _ _ hA));(cases hA);(refine Cb hM ‹_› (By ?_) ?_);(focus omega);((refine Bf hM ?_;clear hM;intro _ _ hM;refine Az hM ?_;clear hM;intro _ hM;refine An hM ?_)))
  have hle:=Yi hB i hi
  refine hc i hlt' _ R _ _ _ (by simp only[List.length_append];omega) (hM.sub:Mem H w0 (wrR g (out++numB xs.length++(xs.take i).flatMap propT) false::r::R) _) (fun w hM=>?_)
  rw[List.append_assoc _ _ (propT _),← Qc hlt']at hM
  (((refine Ab ?_ ?_));(focus omega))
  exact⟨⟨i+1,rfl,by omega,hM⟩,by simp only;omega⟩
 ·intro hge
  obtain rfl:i=xs.length:=by omega
  rw[List.take_length]at hM
  (((refine Aj ?_)))
  exact⟨_,rfl,rfl,by rw[← List.append_assoc];exact hM⟩
theorem aSr {M:Nat} {r:Res} {cl:Value} (xs:List Wl) (hl:xs.length≤64) (hc:∀ i (h:i<xs.length),CloW M prog H w0 g r cl (wv xs[i]) (welT xs[i])) (hs:Sl H 3 A (xs.map Wl.fds)) (B:Nat) (hB:∀ x∈xs,(welT x).length≤B) (hb:out.length+8+xs.length*B<M) (hM9:M≤900000000) (hM:Mem H w0 (wrR g out false::r::R) w):
  Calls prog 113 #[.pointer (some ⟨g,0,none⟩),.slice A xs.length a,cl] w fun en w'=>∃ v,en=.returned v∧v=.tuple #[]∧Mem H w0 (wrR g (out++(numB xs.length++xs.flatMap welT)) false::r::R) w':=by
 refine Jw ?_
 unfold Fp
 have hn:=Be xs.length
 (((refine Ab trivial ?_)))
 refine Bi (Da xs.length (by omega) (by omega) hM) ?_
 rintro v w2 ⟨rfl,hM⟩
 (((refine Ab trivial ?_)))
 refine⟨fun v w'=>∃ i:Nat,v=.int .i64 i∧i≤xs.length∧Mem H w0 (wrR g (out++numB xs.length++(xs.take i).flatMap welT) false::r::R) w',fun v _=>match v with | .int _ k=>xs.length - k.toNat|_=>0,⟨0,rfl,by omega,by simpa using hM⟩,?_⟩
 clear hM
 rintro v u w3 ⟨i,rfl,hi,hM⟩
 (((refine Aw trivial ?_ ?_)))
 ·intro hlt
  have hlt':i<xs.length:=by omega
  (((refine Am ?_));(refine Ci ‹_› ?_ ?_ ?_);(focus (simp only[List.length_map];omega));(focus (simp only[List.length_map];first|done|omega));((intro _ _ hA));(cases hA);(refine Cb hM ‹_› (By ?_) ?_);(focus omega);((refine Bf hM ?_;clear hM;intro _ _ hM;refine Az hM ?_;clear hM;intro _ hM;refine An hM ?_)))
  have hle:=Yi hB i hi
  refine hc i hlt' _ R _ _ _ (by simp only[List.length_append];omega) (hM.sub:Mem H w0 (wrR g (out++numB xs.length++(xs.take i).flatMap welT) false::r::R) _) (fun w hM=>?_)
  rw[List.append_assoc _ _ (welT _),← Qc hlt']at hM
  (((refine Ab ?_ ?_));(focus omega))
  exact⟨⟨i+1,rfl,by omega,hM⟩,by simp only;omega⟩
 ·intro hge
  obtain rfl:i=xs.length:=by omega
  rw[List.take_length]at hM
  (((refine Aj ?_)))
  exact⟨_,rfl,rfl,by rw[← List.append_assoc];exact hM⟩
theorem aOw {M:Nat} {r:Res} {cl:Value} (xs:List Rn) (hl:xs.length≤64) (hs:Sl H 33 A qs) (h3:All2 (RnF H) qs xs) (hc:∀ i (h:i<xs.length) C cc,Sl H 1 C (xs[i].wraps.map sfd)→CloW M prog H w0 g r cl (.agg (fl (xs[i].row C cc)).toArray) (rungT xs[i])) (B:Nat) (hB:∀ x∈xs,(rungT x).length≤B) (hb:out.length+8+xs.length*B<M) (hM9:M≤900000000) (hM:Mem H w0 (wrR g out false::r::R) w):
  Calls prog 108 #[.pointer (some ⟨g,0,none⟩),.slice A xs.length a,cl] w fun en w'=>∃ v,en=.returned v∧v=.tuple #[]∧Mem H w0 (wrR g (out++(numB xs.length++xs.flatMap rungT)) false::r::R) w':=by
 refine Ni ?_
 unfold Gx
 have hn:=Be xs.length
 (((refine Ab trivial ?_)))
 refine Bi (Da xs.length (by omega) (by omega) hM) ?_
 rintro v w2 ⟨rfl,hM⟩
 (((refine Ab trivial ?_)))
 refine⟨fun v w'=>∃ i:Nat,v=.int .i64 i∧i≤xs.length∧Mem H w0 (wrR g (out++numB xs.length++(xs.take i).flatMap rungT) false::r::R) w',fun v _=>match v with | .int _ k=>xs.length - k.toNat|_=>0,⟨0,rfl,by omega,by simpa using hM⟩,?_⟩
 clear hM
 rintro v u w3 ⟨i,rfl,hi,hM⟩
 (((refine Aw trivial ?_ ?_)))
 ·intro hlt
  have hlt':i<xs.length:=by omega
  obtain⟨q,hqi,C,cc,rfl,hC,hCl⟩:=h3.at_ hlt'
  have hq:qs.length=xs.length:=h3.len
  have hc:=fun i h=>hc i h C cc
  obtain⟨bb,oo,rfl⟩:=hs.some_ (by omega)
  (((refine Am ?_;refine Ab ?_ ?_));(focus omega))
  refine Cb hM hs hqi ?_
  (((refine Bf hM ?_;clear hM;intro _ _ hM;refine Az hM ?_;clear hM;intro _ hM;refine An hM ?_)))
  have hle:=Yi hB i hi
  refine hc i hlt' hC _ R _ _ _ (by simp only[List.length_append];omega) (hM.sub:Mem H w0 (wrR g (out++numB xs.length++(xs.take i).flatMap rungT) false::r::R) _) (fun w hM=>?_)
  rw[List.append_assoc _ _ (rungT _),← Qc hlt']at hM
  (((refine Ab ?_ ?_));(focus omega))
  exact⟨⟨i+1,rfl,by omega,hM⟩,by simp only;omega⟩
 ·intro hge
  obtain rfl:i=xs.length:=by omega
  rw[List.take_length]at hM
  (((refine Aj ?_)))
  exact⟨_,rfl,rfl,by rw[← List.append_assoc];exact hM⟩
abbrev wbR (b g:Nat):Res:=fb b 80 [.one (.pointer (some ⟨g,0,none⟩))]
theorem aSs (p:Prp) (hp:p.right) (hb:out.length<999900000) (hM:Mem H w0 (wrR g out false::wbR b g::R) w):Calls prog 106 #[Chg.prv p,.pointer (some ⟨b,0,none⟩)] w fun en w'=>∃ v,en=.returned v∧v=.tuple #[]∧Mem H w0 (wrR g (out++propT p) false::wbR b g::R) w':=by
 refine Yc ?_
 unfold Ob
 (((refine Bh hM ?_;clear hM;intro _ _ hM;refine Ba hM ?_;refine Ba hM ?_;refine Bs hM ?_ (fun _ _ hM=>?_)));(focus (first|exact trivial|assumption|omega)))
 rw[if_pos hp]
 refine La (hM.at_ (wrR g out false)) (fun w hM=>Pl (Chg.packB p) (by have:=aOv p;omega) hb hM) ?_
 rintro v w2 ⟨rfl,hM⟩
 (((refine Bc hM ?_;clear hM;intro _ hM)))
 exact⟨_,rfl,rfl,(hM.sub:Mem H w0 (wrR g (out++textB (Chg.packB p)) false::wbR b g::R) _)⟩
theorem aOx {M:Nat} (hM9:M≤900000000) (p:Prp) (hp:p.right):CloW M prog H w0 g (wbR b g) (.func (.func 106) #[] #[.pointer (some ⟨b,0,none⟩)]) (Chg.prv p) (propT p):=fun out R w K X hb hM hk=>
 En (aSs p hp (by omega) hM) (by rintro e w' ⟨v,rfl,rfl,h⟩;exact hk w' h)
theorem aSt {M:Nat} (hM9:M≤900000000) (r:Res) (s:ByteArray) (hs:s.size≤65536):CloW M prog H w0 g r (.func (.func 86) #[.pointer (some ⟨g,0,none⟩)] #[]) (.string s) (textB s):=fun out R w K X hb hM hk=>
 En (Pl s hs (by omega) hM) (by rintro e w' ⟨v,rfl,rfl,h⟩;exact hk w' h)
theorem aSu {C:Option Addr} {cc:Nat} (r:Rn) (ho:r.odd=false) (hC:Sl H 1 C (r.wraps.map sfd)) (hb:out.length<800000000) (hM:Mem H w0 (wrR g out false::wbR b g::R) w):Calls prog 109 #[.agg (fl (r.row C cc)).toArray,.pointer (some ⟨b,0,none⟩)] w fun en w'=>∃ v,en=.returned v∧v=.tuple #[]∧Mem H w0 (wrR g (out++rungT r) false::wbR b g::R) w':=by
 obtain⟨hr1,hr2,hr3⟩:=Wb ho
 refine Yd ?_
 unfold Oc
 (((refine Bh hM ?_;clear hM;intro _ _ hM;refine An hM ?_;refine Ab trivial ?_;refine An hM ?_)))
 refine Bi (Dd r.pub (by omega) (hM.at_ (wrR g out false))) ?_
 rintro v w2 ⟨rfl,hM⟩
 (((refine An hM ?_;refine Ab trivial ?_;refine An hM ?_;refine An hM ?_;refine Ab trivial ?_)))
 refine Bi (aSp r.wraps hr2 (M:=900000000) (fun i h=>aSt (by omega) _ _ (by have:=(Pj (hr3 _ (List.getElem_mem h))).2;omega)) hC 1100 (fun s hs=>(Pj (hr3 s hs)).1) (by rw[List.length_append,r.pub.2.1];omega) (by omega) (hM.sub:Mem H w0 (wrR g (out++r.pub.1) false::wbR b g::R) _)) ?_
 rintro v w3 ⟨rfl,hM⟩
 skip
 rw[List.append_assoc]at hM
 exact⟨_,rfl,rfl,hM⟩
instance:FunC prog 109:=⟨by kernel_rfl⟩
theorem aOy {M:Nat} (hM9:M≤800000000) {C:Option Addr} {cc:Nat} (r:Rn) (ho:r.odd=false) (hC:Sl H 1 C (r.wraps.map sfd)):CloW M prog H w0 g (wbR b g) (.func (.func 109) #[] #[.pointer (some ⟨b,0,none⟩)]) (.agg (fl (r.row C cc)).toArray) (rungT r):=fun out R w K X hb hM hk=>
 En (aSu r ho hC (by omega) hM) (by rintro e w' ⟨v,rfl,rfl,h⟩;exact hk w' h)
end
end Go.Proofs.YtgbenhmdamnmcaaGreat.Cmt
namespace Go.Proofs.YtgbenhmdamnmcaaGreat.Cmt
open Go.Proofs.Tryz
open Go.RowKit Go.Proofs.YtgbenhmdamnmcaaGreat.Chg
theorem aSv {most:Int} {s:RdS} (h:s.e≠0):nmS most s=(0,s):=by
 obtain⟨l,e,ok⟩:=s
 have h':nm most (l,e)=(0,(l,e)):=by unfold nm;rw[if_pos h]
 unfold nmS RdS.rs
 simp only[h']
theorem aYm {n:Nat} {l:List Int} {e:Int} (h:e≠0):tk n (l,e)=([],false,(l,e)):=by unfold tk;rw[if_pos h]
theorem aSw {n:Nat} {s:RdS} (h:s.e≠0):rwS n s=([],s):=by
 obtain⟨l,e,ok⟩:=s
 have h':=aYm (n:=n) (l:=l) (e:=e) h
 unfold rwS RdS.rs
 simp only[h']
theorem aFj {s:RdS} (h:s.e≠0):(hsS s).2=s:=by
 obtain⟨l,e,ok⟩:=s
 have h':=aYm (n:=32) (l:=l) (e:=e) h
 unfold hsS rdH RdS.rs
 simp only[h']
theorem Fo {most:Int} {s:RdS} (h:0≤most):0≤(nmS most s).1∧(nmS most s).1≤most:=by
 have:0≤(nm most s.rs).1∧(nm most s.rs).1≤most:=by
  have hb:=s.ok.1
  obtain⟨l,e,ok⟩:=s
  unfold nm RdS.rs
  dsimp only at hb ⊢
  split
  ·exact⟨by simp,by simpa using h⟩
  ·split
   ·exact⟨by simp,by simpa using h⟩
   ·split
    ·exact⟨by simp,by simpa using h⟩
    ·split
     ·exact⟨by simp,by simpa using h⟩
     ·split
      ·exact⟨by simp,by simpa using h⟩
      ·rename_i h1 h2 h3 h4
       have hp:=aFc (l.headD 0)
       have hbd:=aRn (l.take (szN (l.headD 0))) (hb.take _) (szN (l.headD 0) - 1) (by rw[List.length_take];omega)
       rw[show szN (l.headD 0) - 1+1=szN (l.headD 0) by omega,List.take_of_length_le (by rw[List.length_take];omega)]at hbd
       refine⟨?_,?_⟩
       ·dsimp only
        omega
       ·dsimp only
        omega
 exact this
theorem aZp {n:Nat} {s:RdS} (h:(rwS n s).2.e=0):s.e=0∧s.l=(rwS n s).1++(rwS n s).2.l∧(rwS n s).1.length=n:=by
 obtain⟨l,e,ok⟩:=s
 unfold rwS tk RdS.rs at h ⊢
 dsimp only at h ⊢
 by_cases h1:e≠0
 ·rw[if_pos h1]at h
  exact absurd h h1
 ·rw[if_neg h1]at h ⊢
  by_cases h2:l.length<n
  ·rw[if_pos h2]at h
   cases h
  ·rw[if_neg h2]
   exact⟨by simpa using h1,(List.take_append_drop n l).symm,by rw[List.length_take];omega⟩
def txS (most:Int) (s:RdS):List Int × RdS:=rwS (nmS most s).1.toNat (nmS most s).2
theorem aZq {most:Int} {s:RdS} (h:s.e≠0):txS most s=([],s):=by
 unfold txS
 rw[aSv h,aSw h]
theorem aMk {most:Int} {s:RdS}:Byt (txS most s).1:=(Vx (nmS most s).2.ok.1).1
theorem aFk {most:Int} {s:RdS} (h:0≤most):((txS most s).1.length:Int)≤most:=by
 have h1:=Fo (s:=s) h
 rcases aFd (nmS most s).1.toNat (nmS most s).2.rs with e|e <;> (show((tk _ _).1.length:Int)≤most) <;> rw[e]
 ·simpa using h
 ·omega
theorem aFl {most:Int} {s:RdS} (hm:0≤most) (h:(txS most s).2.e=0):s.e=0∧s.l=textB (strOfNums (txS most s).1)++(txS most s).2.l:=by
 obtain⟨h1,h2,h3⟩:=aZp (n:=(nmS most s).1.toNat) (s:=(nmS most s).2) h
 obtain⟨h4,h5⟩:=Jv h1
 have h6:=Fo (s:=s) hm
 refine⟨h4,?_⟩
 have h7:((txS most s).1.length:Int)=(nmS most s).1:=by
  have:(txS most s).1.length=(nmS most s).1.toNat:=h3
  omega
 rw[h5,h2]
 unfold textB
 rw[strOfNums_size,Ce _ aMk,h7,List.append_assoc]
 rfl
theorem aMl {s:RdS} (h:s.e≠0):endS s=s.e:=by
 unfold endS endE RdS.rs
 simp[h]
section
variable {α:Type} {f:RdS→α × RdS} {enc:α→List Int}
def rdL (f:RdS→α × RdS):Nat→RdS→List α × RdS
 | 0,s=>([],s)
 | k+1,s=>if s.e≠0 then ([],s) else ((f s).1::(rdL f k (f s).2).1,(rdL f k (f s).2).2)
theorem Uh {s:RdS}:rdL f 0 s=([],s):=rfl
theorem Pm {k:Nat} {s:RdS} (h:s.e≠0):rdL f k s=([],s):=by
 cases k
 ·rfl
 ·unfold rdL
  rw[if_pos h]
theorem Hh {k:Nat} {s:RdS} (h:s.e=0):rdL f (k+1) s=((f s).1::(rdL f k (f s).2).1,(rdL f k (f s).2).2):=by
 conv=>lhs;unfold rdL
 rw[if_neg (by simp[h])]
theorem aSx (hf:∀ s,(f s).2.e=0→s.e=0∧s.l=enc (f s).1++(f s).2.l):∀ {k:Nat} {s:RdS},(rdL f k s).2.e=0→s.e=0∧s.l=(rdL f k s).1.flatMap enc++(rdL f k s).2.l∧(rdL f k s).1.length=k
 | 0,_,h=>⟨h,rfl,rfl⟩
 | k+1,s,h=>by
   by_cases h0:s.e=0
   ·rw[Hh h0]at h ⊢
    obtain⟨h1,h2,h3⟩:=aSx hf (k:=k) h
    obtain⟨-,h4⟩:=hf s h1
    refine⟨h0,?_,by simp[h3]⟩
    rw[List.flatMap_cons,List.append_assoc,← h2]
    exact h4
   ·rw[Pm h0]at h
    exact absurd h h0
def cnt (most:Int) (f:RdS→α × RdS) (s:RdS):List α × RdS:=rdL f (nmS most s).1.toNat (nmS most s).2
theorem aSy {most:Int} {s:RdS} (h:s.e≠0):cnt most f s=([],s):=by
 unfold cnt
 rw[aSv h]
 exact Pm h
theorem aFm {most:Int} {s:RdS} (hm:0≤most) (hf:∀ s,(f s).2.e=0→s.e=0∧s.l=enc (f s).1++(f s).2.l) (h:(cnt most f s).2.e=0):s.e=0∧s.l=(numB (cnt most f s).1.length++(cnt most f s).1.flatMap enc)++(cnt most f s).2.l:=by
 obtain⟨h1,h2,h3⟩:=aSx hf (k:=(nmS most s).1.toNat) (s:=(nmS most s).2) h
 obtain⟨h4,h5⟩:=Jv h1
 have h6:=Fo (s:=s) hm
 refine⟨h4,?_⟩
 have h7:((cnt most f s).1.length:Int)=(nmS most s).1:=by
  have:(cnt most f s).1.length=(nmS most s).1.toNat:=h3
  omega
 rw[h7,h5,h2,List.append_assoc]
 rfl
end
def txR (most:Int) (s:RdS) (h:0≤most∧most≤65536):RdS:=⟨(txS most s).1,0,aMk,by have:=aFk (s:=s) h.1;omega⟩
def stP (s:RdS):Prp × RdS:=
 if (txS 1024 s).2.e≠0 then (p0,(txS 1024 s).2)
 else if (prpU (txR 1024 s (by omega))).2≠0 then (p0,⟨(txS 1024 s).2.l,(prpU (txR 1024 s (by omega))).2,(txS 1024 s).2.ok⟩)
 else ((prpU (txR 1024 s (by omega))).1,(txS 1024 s).2)
def stW (s:RdS):ByteArray × RdS:=(strOfNums (txS 1024 s).1,(txS 1024 s).2)
def stR (s:RdS):Rn × RdS:=(⟨(hsS s).1,(cnt 64 stW (hsS s).2).1⟩,(cnt 64 stW (hsS s).2).2)
def stL (s:RdS):Wl × RdS:=(⟨(nmS 64 s).1,(nmS 4611686018427387903 (nmS 64 s).2).1,strOfNums (txS 1024 (nmS 4611686018427387903 (nmS 64 s).2).2).1⟩,(txS 1024 (nmS 4611686018427387903 (nmS 64 s).2).2).2)
def u1 (s:RdS):=hsS s
def u2 (s:RdS):=nmS 4611686018427387903 (u1 s).2
def u3 (s:RdS):=nmS 64 (u2 s).2
def u4 (s:RdS):=cnt 16 stP (u3 s).2
def u5 (s:RdS):=hsS (u4 s).2
def u6 (s:RdS):=hsS (u5 s).2
def u7 (s:RdS):=cnt 64 stR (u6 s).2
def u8 (s:RdS):=txS 65536 (u7 s).2
def u9 (s:RdS):=cnt 16 stL (u8 s).2
def u10 (s:RdS):=hsS (u9 s).2
def u11 (s:RdS):=hsS (u10 s).2
def cmR (s:RdS):Cm:=⟨(u1 s).1,(u2 s).1,(u3 s).1,(u4 s).1,(u5 s).1,(u6 s).1,(u7 s).1,strOfNums (u8 s).1,(u9 s).1,(u10 s).1,(u11 s).1⟩
def cmE (s:RdS):Int:=endS (u11 s).2
def cnil:Cm:=⟨hzero,0,0,[],hzero,hzero,[],ByteArray.mk #[],[],hzero,hzero⟩
def cmU (s:RdS):Cm × Int:=if cmE s≠0 then (cnil,cmE s) else if (cmR s).right=true then (cmR s,0) else (cnil,3)
theorem stop9 {s:RdS} (h:(u9 s).2.e≠0):cmE s=(u9 s).2.e:=by
 have e1:(u10 s).2=(u9 s).2:=aFj h
 have e2:(u11 s).2=(u9 s).2:=by unfold u11;rw[e1];exact aFj h
 unfold cmE
 rw[e2]
 exact aMl h
theorem stop7 {s:RdS} (h:(u7 s).2.e≠0):cmE s=(u7 s).2.e:=by
 have e1:(u8 s).2=(u7 s).2:=by unfold u8;rw[aZq h]
 have e2:(u9 s).2=(u7 s).2:=by unfold u9;rw[e1,aSy h]
 rw[← e2]at h ⊢
 exact stop9 h
theorem stop4 {s:RdS} (h:(u4 s).2.e≠0):cmE s=(u4 s).2.e:=by
 have e1:(u5 s).2=(u4 s).2:=aFj h
 have e2:(u6 s).2=(u4 s).2:=by unfold u6;rw[e1];exact aFj h
 have e3:(u7 s).2=(u4 s).2:=by unfold u7;rw[e2,aSy h]
 rw[← e3]at h ⊢
 exact stop7 h
theorem Ui {s:RdS} {e:Int} (h:cmE s=e) (he:e≠0):cmU s=(cnil,e):=by
 unfold cmU
 rw[h,if_pos he]
end Go.Proofs.YtgbenhmdamnmcaaGreat.Cmt
namespace Go.Proofs.YtgbenhmdamnmcaaGreat.Cmt
open Go.Proofs.Tryz
open Go.RowKit Go.Proofs.YtgbenhmdamnmcaaGreat.Chg
abbrev sepoch:ByteArray:=ByteArray.mk #[101,112,111,99,104]
def packS (c:Cm):ByteArray:=strOfNums (packL c)
def idC (c:Cm):H32:=Chg.shaH (ints sepoch++ints (packS c))
section
variable {H:Hp} {w0 w:World} {L R:List Res} {A P Q W:Option Addr} {a pc qc wc g b:Nat} {qs:List (List Fd)} {c:Cm} {out:List Int}
theorem aMm (hr:c.right=true) (hc:CmF H P Q W qs c) (hb:out.length<100000000) (hM:Mem H w0 (wrR g out false::R) w):Calls prog 37 #[.pointer (some ⟨g,0,none⟩),cv P pc Q qc W wc c] w fun en w'=>∃ v,en=.returned v∧v=.tuple #[]∧Mem H w0 (wrR g (out++coreL c) false::R) w':=by
 obtain⟨⟨f1,f2,f3,f4,f5,f6⟩,hp,hro,hwo⟩:=Cm.rt hr
 obtain⟨h1,h2,h3,h4,hl1,hl2,hl3,hl4⟩:=hc
 have b1:=Be c.depth
 have b2:=Be c.author
 have b3:=Be c.props.length
 have b4:=Il (f:=propT) (B:=200) (xs:=c.props) fun p _=>Wa
 refine aBu ?_
 unfold Qn
 (((refine Bh hM ?_;clear hM;intro _ _ hM;refine Bh hM ?_;clear hM;intro _ _ hM;refine An hM ?_;refine Ab trivial ?_;refine An hM ?_)))
 rename_i b _ g1 _
 refine Bi (Dd c.parent (by omega) (hM.at_ (wrR g out false))) ?_
 rintro v w2 ⟨rfl,hM⟩
 (((refine An hM ?_;refine Ab trivial ?_;refine An hM ?_)))
 refine Bi (Da c.depth (by omega) (by simp only[List.length_append,c.parent.2.1];omega) (hM.at_ (wrR g (out++c.parent.1) false))) ?_
 rintro v w3 ⟨rfl,hM⟩
 (((refine An hM ?_;refine Ab trivial ?_;refine An hM ?_)))
 refine Bi (Da c.author (by omega) (by simp only[List.length_append,c.parent.2.1];omega) (hM.at_ (wrR g (out++c.parent.1++numB c.depth) false))) ?_
 rintro v w4 ⟨rfl,hM⟩
 (((refine An hM ?_;refine Ab trivial ?_;refine An hM ?_;refine Ab trivial ?_)))
 refine Bi (aSq (M:=800000000) c.props (by omega) (fun i h=>aOx (by omega) _ (hp _ (List.getElem_mem h))) h1 200 (fun x _=>Wa) (by simp only[List.length_append,c.parent.2.1];omega) (by omega) (hM.same:Mem H w0 (wrR g (out++c.parent.1++numB c.depth++numB c.author) false::wbR b g::fb g1 28 (cfd P pc Q qc W wc c)::R) _)) ?_
 rintro v w5 ⟨rfl,hM⟩
 (((refine An hM ?_;refine Ab trivial ?_;refine An hM ?_)))
 refine Bi (Dd c.leaf (by simp only[List.length_append,c.parent.2.1];omega) (hM.at_ (wrR g (out++c.parent.1++numB c.depth++numB c.author++(numB c.props.length++c.props.flatMap propT)) false))) ?_
 rintro v w6 ⟨rfl,hM⟩
 (((refine An hM ?_;refine Ab trivial ?_;refine An hM ?_)))
 refine Bi (Dd c.above (by simp only[List.length_append,c.parent.2.1,c.leaf.2.1];omega) (hM.at_ (wrR g (out++c.parent.1++numB c.depth++numB c.author++(numB c.props.length++c.props.flatMap propT)++c.leaf.1) false))) ?_
 rintro v w7 ⟨rfl,hM⟩
 (((refine An hM ?_;refine Ab trivial ?_;refine An hM ?_;refine Ab trivial ?_)))
 refine Bi (aOw (M:=800000000) c.path (by omega) h2 h3 (fun i h C cc hC=>aOy (by omega) _ (hro _ (List.getElem_mem h)) hC) 80000 (fun x hx=>(Wb (hro x hx)).1) (by simp only[List.length_append,c.parent.2.1,c.leaf.2.1,c.above.2.1];omega) (by omega) (hM.same:Mem H w0 (wrR g (out++c.parent.1++numB c.depth++numB c.author++(numB c.props.length++c.props.flatMap propT)++c.leaf.1++c.above.1) false::wbR b g::fb g1 28 (cfd P pc Q qc W wc c)::R) _)) ?_
 rintro v w8 ⟨rfl,hM⟩
 skip
 refine⟨_,rfl,rfl,?_⟩
 have e:out++coreL c=out++c.parent.1++numB c.depth++numB c.author++(numB c.props.length++c.props.flatMap propT)++c.leaf.1++c.above.1++(numB c.path.length++c.path.flatMap rungT):=by
  unfold coreL
  simp only[List.append_assoc]
 rw[e]
 exact hM.sub
theorem aHt (hc:CmF H P Q W qs c) (hf:Fz H w):Calls prog 13 #[cv P pc Q qc W wc c] w fun en w'=>en=.returned (.string (if c.right then strOfNums (coreL c) else ByteArray.mk #[]))∧St w [] w':=by
 have hM:=Mem.start hf
 refine aBs ?_
 unfold Ql
 (((refine Bh hM ?_;clear hM;intro _ _ hM;refine An hM ?_)))
 refine Bn hM (Ei hc hM.fz) (fun w hM=>?_)
 cases hr:c.right
 ·(((refine Ab trivial ?_;refine Am ?_)))
  exact⟨rfl,hM.st⟩
 ·(((refine Ab trivial ?_;refine Aj ?_)))
  refine Bi (Hw hM) ?_
  rintro v w2 ⟨g,rfl,hM⟩
  (((refine An hM ?_)))
  refine Bi (aMm hr hc (by simp) (hM.at_ (wrR g [] false))) ?_
  rintro v w3 ⟨rfl,hM⟩
  rw[List.nil_append]at hM
  skip
  refine Bn hM (Ia hM) (fun w hM=>?_)
  (((refine Ab trivial ?_;refine Ab trivial ?_)))
  exact⟨rfl,hM.st⟩
theorem aKq (x:Wl) (ho:x.odd=false) (hb:out.length<900000000) (hM:Mem H w0 (wrR g out false::wbR b g::R) w):Calls prog 114 #[wv x,.pointer (some ⟨b,0,none⟩)] w fun en w'=>∃ v,en=.returned v∧v=.tuple #[]∧Mem H w0 (wrR g (out++welT x) false::wbR b g::R) w':=by
 obtain⟨x1,x2,x3⟩:=aSo ho
 have b1:=Be x.name
 have b2:=Be x.card
 have hs:=(Pj x3).2
 refine Tl ?_
 unfold Kn
 (((refine Bh hM ?_;clear hM;intro _ _ hM;refine An hM ?_;refine Ab trivial ?_;refine An hM ?_)))
 refine Bi (Da x.name (by omega) (by omega) (hM.at_ (wrR g out false))) ?_
 rintro v w2 ⟨rfl,hM⟩
 (((refine An hM ?_;refine Ab trivial ?_;refine An hM ?_)))
 refine Bi (Da x.card (by omega) (by rw[List.length_append];omega) (hM.at_ (wrR g (out++numB x.name) false))) ?_
 rintro v w3 ⟨rfl,hM⟩
 (((refine An hM ?_;refine Ab trivial ?_;refine An hM ?_)))
 refine Bi (Pl x.wrap (by omega) (by rw[List.length_append,List.length_append];omega) (hM.at_ (wrR g (out++numB x.name++numB x.card) false))) ?_
 rintro v w4 ⟨rfl,hM⟩
 skip
 rw[List.append_assoc,List.append_assoc]at hM
 exact⟨_,rfl,rfl,(hM.sub:Mem H w0 (wrR g (out++(numB x.name++(numB x.card++textB x.wrap))) false::wbR b g::R) _)⟩
instance:FunC prog 114:=⟨by kernel_rfl⟩
theorem aHu {M:Nat} (hM9:M≤900000000) (x:Wl) (ho:x.odd=false):CloW M prog H w0 g (wbR b g) (.func (.func 114) #[] #[.pointer (some ⟨b,0,none⟩)]) (wv x) (welT x):=fun out R w K X hb hM hk=>
 En (aKq x ho (by omega) hM) (by rintro e w' ⟨v,rfl,rfl,h⟩;exact hk w' h)
theorem aDi (hr:c.right=true) (hc:CmF H P Q W qs c) (hf:Fz H w):Calls prog 43 #[cv P pc Q qc W wc c] w fun en w'=>en=.returned (.string (strOfNums (signedL c)))∧St w [] w':=by
 have hM:=Mem.start hf
 obtain⟨⟨f1,f2,f3,f4,f5,f6⟩,hp,hro,hwo⟩:=Cm.rt hr
 have hcl:=Qd hr
 have htl:=Jb c.info
 have hl3:=hc.len.2.2.1
 have b1:=Be c.wels.length
 have b4:=Il (f:=welT) (B:=1200) (xs:=c.wels) fun x hx=>aAv (hwo x hx)
 refine Xw ?_
 unfold Nv
 (((refine Bh hM ?_;clear hM;intro _ _ hM)))
 rename_i g1 _
 refine Bi (Hw hM) ?_
 rintro v w2 ⟨g,rfl,hM⟩
 (((refine Bf hM ?_;clear hM;intro _ _ hM;refine Az hM ?_;clear hM;intro _ hM;refine An hM ?_;refine An hM ?_)))
 rename_i b _ _
 refine Bi (aMm hr hc (by simp) (hM.at_ (wrR g [] false))) ?_
 rintro v w3 ⟨rfl,hM⟩
 rw[List.nil_append]at hM
 (((refine An hM ?_;refine Ab trivial ?_;refine An hM ?_)))
 refine Bi (Pl c.info f5 (by omega) (hM.at_ (wrR g (coreL c) false))) ?_
 rintro v w4 ⟨rfl,hM⟩
 (((refine An hM ?_;refine Ab trivial ?_;refine An hM ?_;refine Ab trivial ?_)))
 refine Bi (aSr (M:=900000000) c.wels (by omega) (fun i h=>aHu (by omega) _ (hwo _ (List.getElem_mem h))) hc.wels 1200 (fun x hx=>aAv (hwo x hx)) (by rw[List.length_append];omega) (by omega) (hM.same:Mem H w (wrR g (coreL c++textB c.info) false::wbR b g::[fb g1 28 (cfd P pc Q qc W wc c)]) _)) ?_
 rintro v w5 ⟨rfl,hM⟩
 (((refine An hM ?_;refine Ab trivial ?_;refine An hM ?_)))
 refine Bi (Dd c.tag (by simp only[List.length_append];omega) (hM.at_ (wrR g (coreL c++textB c.info++(numB c.wels.length++c.wels.flatMap welT)) false))) ?_
 rintro v w6 ⟨rfl,hM⟩
 (((refine An hM ?_)))
 refine Bn hM (Ia hM) (fun w hM=>?_)
 (((refine Ab trivial ?_;refine Ab trivial ?_)))
 exact⟨rfl,hM.st⟩
theorem aHv (hc:CmF H P Q W qs c) (hf:Fz H w):Calls prog 15 #[cv P pc Q qc W wc c] w fun en w'=>en=.returned (.string (if c.right then packS c else ByteArray.mk #[]))∧St w [] w':=by
 have hM:=Mem.start hf
 refine aBt ?_
 unfold Qm
 (((refine Bh hM ?_;clear hM;intro _ _ hM;refine An hM ?_)))
 refine Bn hM (Ei hc hM.fz) (fun w hM=>?_)
 cases hr:c.right
 ·(((refine Ab trivial ?_;refine Am ?_)))
  exact⟨rfl,hM.st⟩
 ·have hpl:=aDh hr
  (((refine Ab trivial ?_;refine Aj ?_;refine Ba hM ?_)))
  have hM0:=hM
  refine Cg hM (fun w hM=>aDi hr hc hM.fz) (fun w hx hM=>?_)
  (((refine Ap trivial ?_;refine Ap trivial ?_)))
  refine Cw hM0 ?_
  refine aKe (signedL c) c.sign.1 (by rw[c.sign.2.1];omega) ?_
  (((refine Bc hM ?_;clear hM;intro _ hM)))
  exact⟨rfl,hM.st⟩
theorem aSz (hc:CmF H P Q W qs c) (hf:Fz H w):Calls prog 11 #[cv P pc Q qc W wc c] w fun en w'=>en=.returned (ha (if c.right then idC c else hzero))∧St w [] w':=by
 have hM:=Mem.start hf
 refine aGn ?_
 unfold Wq
 (((refine Bh hM ?_;clear hM;intro _ _ hM;refine Bf hM ?_;clear hM;intro _ _ hM;refine An hM ?_)))
 refine Bn hM (Ei hc hM.fz) (fun w hM=>?_)
 cases hr:c.right
 ·(((refine Ab trivial ?_;refine Am ?_;refine Ab trivial ?_;refine Az hM ?_;clear hM;intro _ hM;refine Bz hM ?_)))
  exact⟨rfl,hM.st⟩
 ·have hpl:=aDh hr
  (((refine Ab trivial ?_;refine Aj ?_;refine An hM ?_)))
  refine Bn hM (aHv hc hM.fz) (fun w hM=>?_)
  rw[hr,if_pos rfl]
  have hsz:(packS c).size=(packL c).length:=strOfNums_size _
  (((refine Bx hM ?_ ?_ ?_));(focus rfl);(focus (constructor <;> simp));((clear hM;intro _ _ hM)))
  refine Bn hM (Chg.Gb sepoch (packS c) (by rw[hsz];show 5+_<_;omega) hM) (fun w2 hM=>?_)
  (((refine Az hM ?_;clear hM;intro _ hM;refine Bz hM ?_)))
  exact⟨rfl,hM.st⟩
end
end Go.Proofs.YtgbenhmdamnmcaaGreat.Cmt
namespace Go.Proofs.YtgbenhmdamnmcaaGreat.Cmt
open Go.Proofs.Tryz
open Go.RowKit Go.Proofs.YtgbenhmdamnmcaaGreat.Chg
theorem aZr (s:RdS) (h:(stP s).2.e=0):s.e=0∧s.l=propT (stP s).1++(stP s).2.l:=by
 unfold stP at h ⊢
 by_cases h1:(txS 1024 s).2.e≠0
 ·rw[if_pos h1]at h
  exact absurd h h1
 ·rw[if_neg h1]at h ⊢
  by_cases h2:(prpU (txR 1024 s (by omega))).2≠0
  ·rw[if_pos h2]at h
   exact absurd h h2
  ·rw[if_neg h2]at h ⊢
   obtain⟨h3,h4⟩:=aFl (by omega) h
   refine⟨h3,?_⟩
   have h5:=(aKl _ (Classical.not_not.1 h2)).2
   unfold propT
   dsimp only
   rw[h5]
   exact h4
theorem aZs (s:RdS) (h:(stW s).2.e=0):s.e=0∧s.l=textB (stW s).1++(stW s).2.l:=aFl (by omega) h
theorem aZt (s:RdS) (h:(stR s).2.e=0):s.e=0∧s.l=rungT (stR s).1++(stR s).2.l:=by
 obtain⟨h1,h2⟩:=aFm (most:=64) (f:=stW) (enc:=textB) (s:=(hsS s).2) (by omega) aZs h
 obtain⟨h3,h4⟩:=Nn h1
 refine⟨h3,?_⟩
 unfold rungT
 rw[List.append_assoc]
 show s.l=(hsS s).1.1++_
 rw[h4,h2]
 rfl
theorem aZu (s:RdS) (h:(stL s).2.e=0):s.e=0∧s.l=welT (stL s).1++(stL s).2.l:=by
 obtain⟨h1,h2⟩:=aFl (most:=1024) (s:=(nmS 4611686018427387903 (nmS 64 s).2).2) (by omega) h
 obtain⟨h3,h4⟩:=Jv h1
 obtain⟨h5,h6⟩:=Jv h3
 refine⟨h5,?_⟩
 unfold welT
 rw[List.append_assoc,List.append_assoc]
 show s.l=numB (nmS 64 s).1++(numB (nmS 4611686018427387903 (nmS 64 s).2).1++_)
 rw[h6,h4,h2]
 rfl
theorem aTa {s:RdS} (h:cmE s=0):s.e=0∧s.l=packL (cmR s):=by
 obtain⟨h11,l12⟩:=aMe h
 obtain⟨h10,l11⟩:=Nn (s:=(u10 s).2) h11
 obtain⟨h9,l10⟩:=Nn (s:=(u9 s).2) h10
 obtain⟨h8,l9⟩:=aFm (most:=16) (s:=(u8 s).2) (by omega) aZu h9
 obtain⟨h7,l8⟩:=aFl (most:=65536) (s:=(u7 s).2) (by omega) h8
 obtain⟨h6,l7⟩:=aFm (most:=64) (s:=(u6 s).2) (by omega) aZt h7
 obtain⟨h5,l6⟩:=Nn (s:=(u5 s).2) h6
 obtain⟨h4,l5⟩:=Nn (s:=(u4 s).2) h5
 obtain⟨h3,l4⟩:=aFm (most:=16) (s:=(u3 s).2) (by omega) aZr h4
 obtain⟨h2,l3⟩:=Jv (s:=(u2 s).2) h3
 obtain⟨h1,l2⟩:=Jv (s:=(u1 s).2) h2
 obtain⟨h0,l1⟩:=Nn (s:=s) h1
 refine⟨h0,?_⟩
 have l1:s.l=(cmR s).parent.1++(u1 s).2.l:=l1
 have l2:(u1 s).2.l=numB (cmR s).depth++(u2 s).2.l:=l2
 have l3:(u2 s).2.l=numB (cmR s).author++(u3 s).2.l:=l3
 have l4:(u3 s).2.l=(numB (cmR s).props.length++(cmR s).props.flatMap propT)++(u4 s).2.l:=l4
 have l5:(u4 s).2.l=(cmR s).leaf.1++(u5 s).2.l:=l5
 have l6:(u5 s).2.l=(cmR s).above.1++(u6 s).2.l:=l6
 have l7:(u6 s).2.l=(numB (cmR s).path.length++(cmR s).path.flatMap rungT)++(u7 s).2.l:=l7
 have l8:(u7 s).2.l=textB (cmR s).info++(u8 s).2.l:=l8
 have l9:(u8 s).2.l=(numB (cmR s).wels.length++(cmR s).wels.flatMap welT)++(u9 s).2.l:=l9
 have l10:(u9 s).2.l=(cmR s).tag.1++(u10 s).2.l:=l10
 have l11:(u10 s).2.l=(cmR s).sign.1++(u11 s).2.l:=l11
 rw[l1,l2,l3,l4,l5,l6,l7,l8,l9,l10,l11,l12]
 unfold packL signedL coreL
 simp only[List.append_assoc,List.append_nil]
theorem aOz {s:RdS} (h:(cmU s).2=0):(cmU s).1.right=true∧packS (cmU s).1=strOfNums s.l:=by
 unfold cmU at h ⊢
 by_cases h1:cmE s=0
 ·rw[if_neg (by simp[h1])]at h ⊢
  by_cases h2:(cmR s).right=true
  ·rw[if_pos h2]
   exact⟨h2,by unfold packS;rw[(aTa h1).2]⟩
  ·rw[if_neg h2]at h
   cases h
 ·rw[if_pos h1]at h
  exact absurd h h1
end Go.Proofs.YtgbenhmdamnmcaaGreat.Cmt
namespace Go.Proofs.YtgbenhmdamnmcaaGreat
open Go.Proofs.Tryz
open Go.RowKit
def fourB (n:Int):List Int:=[n / 16777216%256,n / 65536%256,n / 256%256,n%256]
theorem Xm (n:Int):∀ x∈fourB n,0≤x∧x<256:=by
 intro x hx
 simp only[fourB,List.mem_cons,List.not_mem_nil,or_false]at hx
 omega
theorem build4b (a b c d:Int) (w:World):(Al 89 4 [(0,.int .u8 a),(1,.int .u8 b),(2,.int .u8 c),(3,.int .u8 d)]).run prog w=.ok (.value (.slice (some ⟨w.heap.size,0,none⟩) 4 4)) (w.alloc (.cells (u8s [a,b,c,d]).toArray 5)):=by kernel_rfl
theorem conv4 (a b c d:Int) (w:World) {w0:World} {L:List Bk} (h:St w0 L w):
  PurW prog (w.alloc (.cells (u8s [a,b,c,d]).toArray 5)) (Ay 89 9 (.slice (some ⟨w.heap.size,0,none⟩) 4 4)) (.string (strOfNums [a,b,c,d])):=
 Do 89 9 5 w.heap.size 0 4 _ [a,b,c,d] (by kernel_rfl) (by kernel_rfl) (by kernel_rfl) rfl (fun i hi=>by
  rw[Nat.zero_add,(h.alloc 5 (u8s [a,b,c,d])).cell 0 rfl i]
  exact In [a,b,c,d] i (by simpa using hi))
theorem aMn (n:Int) (w:World):Calls prog 176 #[.int .i64 n] w fun e w'=>e=.returned (.string (strOfNums (fourB n)))∧St w [] w':=by
 refine aJu ?_
 unfold aAj
 (repeat (first|(refine Ab ?_ ?_;first|exact trivial|omega)|(refine Ap ?_ ?_;first|exact trivial|omega)))
 refine Cl (build4b _ _ _ _ _) ?_
 refine Dz (conv4 _ _ _ _ _ (St.nil w)) ?_
 exact⟨rfl,((St.nil w).alloc _ _).drop⟩
theorem build3s (a b c:ByteArray) (w:World):(Al 41 3 [(0,.string a),(1,.string b),(2,.string c)]).run prog w=.ok (.value (.slice (some ⟨w.heap.size,0,none⟩) 3 3)) (w.alloc (.cells [Value.string a,.string b,.string c].toArray 9)):=by kernel_rfl
def derived (x:List Int) (l c:ByteArray):List Int:=hmac x (fourB l.size++(ints l++ints c))
set_option maxHeartbeats 1000000 in
theorem aPa (x:List Int) (l c:ByteArray) (w:World) (hx:x.length=32) (rx:∀ c∈x,0≤c∧c<256) (hl:l.size≤1000000) (hc:c.size≤1000000):
  Calls prog 126 #[hv x,.string l,.string c] w fun e w'=>e=.returned (hv (derived x l c))∧St w [] w':=by
 refine aEm ?_
 unfold Tp
 have z32:(u8s (List.replicate 32 0)).length=32:=by simp[u8s]
 refine aLu (St.nil w) (fun b w1 h1=>?_)
 have h1:St w [⟨b,23,u8s x,true⟩] w1:=by simpa [hv,Value.cells] using h1
 refine Eb h1 (fun r w3 h3=>?_)
 have h3:St w [⟨r,23,u8s (List.replicate 32 0),true⟩,⟨b,23,u8s x,true⟩] w3:=by simpa [u8s] using h3
 clear h1
 (repeat (first|(refine Ab ?_ ?_;first|exact trivial|omega)|(refine Ap ?_ ?_;first|exact trivial|omega)))
 refine Kx (fun w4 hw=>Do 89 9 5 b 0 32 _ x (by kernel_rfl) (by kernel_rfl) (by kernel_rfl) hx (fun i hi=>hw.cell (by rw[Nat.zero_add,h3.cell 1 rfl i];exact In x i (by omega)))) ?_
 (repeat (first|(refine Ab ?_ ?_;first|exact trivial|omega)|(refine Ap ?_ ?_;first|exact trivial|omega)))
 refine El fun w4 hd4=>Ej (aMn l.size w4) ?_
 rintro e w5 ⟨rfl,h5⟩
 have x5:Ext w3 w5:=hd4.ext.trans h5.ext0
 have h5:=(h3.drawn hd4).call0 h5
 refine⟨fun _=>x5,?_⟩
 refine El fun w6 hd6=>Cl (build3s _ _ _ _) ⟨fun _=>hd6.ext.trans ((Only.refl _ w6).alloc _),?_⟩
 have h6:=h5.drawn hd6
 refine El fun w7 hd7=>?_
 have h7:=(h6.alloc 9 [Value.string (strOfNums (fourB l.size)),.string l,.string c]).drawn hd7
 have hcat:cat [strOfNums (fourB l.size),l,c]=fourB l.size++(ints l++ints c):=by simp[cat,Ce _ (Xm l.size)]
 have hc:=Ue (strOfNums x) (some ⟨w6.heap.size,0,none⟩) [strOfNums (fourB l.size),l,c] 3 w7 (.inr ⟨w6.heap.size,0,rfl,h7.head.lt,fun j u hu=>by rw[Nat.zero_add,h7.cell 0 rfl j];exact hu⟩) (by rw[strOfNums_size];omega) (by simp) (by rw[hcat];simp[fourB,Bq];omega)
 rw[hcat,Ce x rx]at hc
 refine Ej hc ?_
 rintro e w8 ⟨rfl,h8⟩
 have h8:=h7.drop.call0 h8
 refine⟨(fun e=>by cases e),?_⟩
 have hEl:(u8s (derived x l c)).length=32:=by rw[Dw,derived,Ij]
 refine El fun w9 hd9=>Dt (q:=true) (k:=32) (by kernel_rfl) (h8.drawn hd9) (by simpa [hv,Value.cells,derived] using hEl) (by intro u hu;exact Fk _ u hu) (by rw[z32];omega) (fun w8 h8=>⟨(fun e=>by cases e),?_⟩)
 have e:lay (u8s (List.replicate 32 0)) (hv (derived x l c)).cells.toList 0=u8s (derived x l c):=Hg _ _ (by show(u8s (derived x l c)).length=_;rw[hEl,z32])
 have h8:St w [⟨r,23,u8s (derived x l c),true⟩,⟨b,23,u8s x,true⟩] w8:=by rw[← e];exact h8
 refine Cs fun w9 hd9=>?_
 have h9:=h8.drawn hd9
 refine Lo (Eh h9.head) hEl ?_
 exact⟨rfl,h9.drop.drop⟩
theorem aAw (x:List Int) (l c:ByteArray):(derived x l c).length=32:=Ij _ _
end Go.Proofs.YtgbenhmdamnmcaaGreat
namespace Go.Proofs.YtgbenhmdamnmcaaGreat
open Go.Proofs.Tryz
open Go.RowKit
def hmacH (k m:List Int):H32:=⟨hmac k m,Ij k m,Nm k m⟩
def streamL (key:List Int) (k:Nat):List Int:=((List.range k).map fun(i:Nat)=>hmac key (fourB (i:Int))).flatten
theorem Fi (key:List Int):∀ k,(streamL key k).length=32*k
 | 0=>rfl
 | k+1=>by
   have:=Fi key k
   simp only[streamL,List.range_succ,List.map_append,List.flatten_append,List.length_append]at this ⊢
   rw[this]
   simp[Ij]
   omega
theorem Uj (key:List Int) (k:Nat):streamL key (k+1)=streamL key k++hmac key (fourB k):=by
 simp[streamL,List.range_succ]
theorem aCl (key:List Int) (k:Nat):∀ x∈streamL key k,0≤x∧x<256:=by
 intro x hx
 simp only[streamL,List.mem_flatten,List.mem_map]at hx
 obtain⟨_,⟨i,_,rfl⟩,hx⟩:=hx
 exact Nm _ _ x hx
def rowL (key:List Int) (n:Nat):List Int:=(streamL key (n / 32+1)).take n
theorem Uk (key:List Int) (k j:Nat) (h:k≤j):(streamL key j).take (32*k)=streamL key k:=by
 induction j with
 | zero=>
   have:k=0:=by omega
   subst this
   rfl
 | succ j ih=>
   rcases Nat.lt_or_ge j k with hlt|hge
   ·have:k=j+1:=by omega
    subst this
    rw[List.take_of_length_le (by rw[Fi];omega)]
   ·rw[Uj,List.take_append_of_le_length (by rw[Fi];omega)]
    exact ih hge
theorem aWo (key:List Int) (n k:Nat) (h:n≤32*k):(streamL key k).take n=rowL key n:=by
 unfold rowL
 rcases Nat.lt_or_ge k (n / 32+1) with hlt|hge
 ·rw[← Uk key k (n / 32+1) (by omega),List.take_take,Nat.min_eq_left h]
 ·rw[← Uk key (n / 32+1) k (by omega),List.take_take,Nat.min_eq_left (by omega)]
theorem aHw (key:List Int) (n:Nat):(rowL key n).length=n:=by
 unfold rowL
 rw[List.length_take,Fi]
 omega
theorem aKr (key:List Int) (n:Nat):∀ x∈rowL key n,0≤x∧x<256:=fun x hx=>aCl _ _ x (List.mem_of_mem_take hx)
section
variable {H:Hp} {w w0:World} {L R:List Res}
theorem aFn (s:ByteArray):cat [s]=ints s:=by simp[cat]
theorem aTb {A:Option Addr} {e:Nat} (key:H32) (i:Nat) (hM:Mem H w0 L w) [k:AtA L A 1 1 e 1 [[.one (.string (strOfNums (fourB i)))]] R]:
  Calls prog 169 #[.string (strOfNums key.1),.slice A 1 1] w fun en w'=>en=.returned (ha (hmacH key.1 (fourB i)))∧St w [] w':=by
 have hr:=hM.rd k
 have h:=Ue (strOfNums key.1) A [strOfNums (fourB i)] 1 w hr (by rw[strOfNums_size];rw[key.2.1];omega) (by simp) (by rw[aFn,Bq,strOfNums_size];simp[fourB])
 rw[aFn,Ce _ key.2.2,Ce _ (Xm _)]at h
 exact h
theorem aPb (key:H32) (n:Int) (hf:Fz H w):Calls prog 200 #[ha key,.int .i64 n] w fun e w'=>e=.returned (.string (if 1≤n∧n≤65536 then strOfNums (rowL key.1 n.toNat) else ByteArray.mk #[]))∧St w [] w':=by
 have hM:=Mem.start hf
 refine aEu ?_
 unfold Tz
 (((refine Bh hM ?_;clear hM;intro _ _ hM)))
 rename_i g _
 refine⟨fun x w'=>x=.bool (!decide (1≤n∧n≤65536))∧hM.now w',?_,?_⟩
 ·by_cases h:1≤n∧n≤65536
  ·(((refine Bm trivial ?_ ?_));(focus (first|assumption|omega|with_reducible rfl|exact fun h=>Bool.noConfusion h));((refine Ae ?_;refine Ab trivial ?_;refine Ae ?_;refine Bm trivial ?_ ?_));(focus (first|assumption|omega|with_reducible rfl|exact fun h=>Bool.noConfusion h));((refine Ab trivial ?_)))
   exact⟨by simp[h],hM⟩
  ·(((refine Aw trivial ?_ ?_))) <;>
   ·intro h2
    (first|(((refine Ae ?_;refine Ab trivial ?_;refine Ae ?_;refine Bt trivial ?_ ?_));(focus (first|assumption|omega|with_reducible rfl|exact fun h=>Bool.noConfusion h));((refine Ab trivial ?_)))|(((refine Av ?_;refine Av ?_;refine Ab trivial ?_))))
    exact⟨by simp[h],hM⟩
 rintro x u w2 ⟨rfl,hM⟩
 by_cases h:1≤n∧n≤65536
 ·rw[if_pos h,decide_eq_true h]
  simp only[Bool.not_true]
  (((refine Aj ?_)))
  refine⟨fun x y w'=>∃ (i:Nat) (A:Option Addr) (c:Nat),x=.slice A (32*i) c∧y=.int .i64 i∧(i=0∨32*(i - 1)<n)∧Mem H w [rowR 5 1 A (32*i) c (byts (streamL key.1 i)),fb g 23 [.arr 32 (u8s key.1)]] w',
   fun x _ _=>match x with | .slice _ k _=>n.toNat+32 - k|_=>0,⟨0,none,0,rfl,rfl,.inl rfl,hM.row0 5 1⟩,?_⟩
  rintro x y u w3 ⟨i,A,c,rfl,rfl,hi,hM⟩
  (((refine Ab trivial ?_)))
  (((refine Aw trivial ?_ ?_)))
  ·intro hlt
   (((refine Am ?_)))
   refine⟨fun x w'=>∃ g7:Nat,x=.pointer (some ⟨g7,0,none⟩)∧Mem H w [fb g7 23 [.arr 32 (u8s (hmacH key.1 (fourB i)).1)],rowR 5 1 A (32*i) c (byts (streamL key.1 i)),fb g 23 [.arr 32 (u8s key.1)]] w',?_,?_⟩
   ·refine⟨?_,?_,?_,?_⟩
    all_goals
     (first|(((refine Ap trivial ?_;refine Cw hM ?_;refine Cd hM ?_;clear hM;intro _ _ hM)))|(((refine Ap trivial ?_;refine Cw hM ?_))))
     refine Cg hM (fun w hM=>aMn i w) (fun w4 _ hM=>?_)
     (first|(((refine Cf hM ?_ ?_ ?_));(focus rfl);(focus (constructor <;> simp));((clear hM;intro _ _ hM;refine Cd hM ?_;clear hM;intro _ _ hM)))|(((refine Cd hM ?_;clear hM;intro _ _ hM;refine Cf hM ?_ ?_ ?_));(focus rfl);(focus (constructor <;> simp));((clear hM;intro _ _ hM)))|(((refine Cf hM ?_ ?_ ?_));(focus rfl);(focus (constructor <;> simp));((clear hM;intro _ _ hM))))
     refine Cg hM (fun w hM=>aTb key i hM) (fun w5 _ hM=>?_)
     (first|(((refine Cd hM ?_;clear hM;intro _ _ hM;refine Ca hM ?_;clear hM;intro _ hM;refine Bc hM ?_;clear hM;intro _ hM)))|(((refine Ca hM ?_;clear hM;intro _ hM;refine Bc hM ?_;clear hM;intro _ hM))))
     exact⟨_,rfl,hM.sub⟩
   ·rintro x u w4 ⟨g7,rfl,hM⟩
    (((refine Ab trivial ?_)))
    refine aLz hM (by omega) (fun A' c' w5 hM=>?_)
    (((refine Ab ?_ ?_));(focus omega))
    refine⟨⟨i+1,A',c',by rw[Nat.mul_add],by simp,.inr (by simp;omega),?_⟩,by simp;omega⟩
    rw[Uj,Nat.mul_add]
    exact hM.rm g7
  ·intro hge
   have hl:=(hM.rowLen (A:=A) ⟨.refl _⟩)
   (((refine Aj ?_;refine Ab ?_ ?_));(focus omega))
   refine Rk hM (by rw[Fi];omega) ?_
   rw[aWo _ _ _ (by omega)]
   exact⟨rfl,hM.st⟩
 ·rw[if_neg h,decide_eq_false h]
  simp only[Bool.not_false]
  (((refine Am ?_)))
  exact⟨trivial,hM.st⟩
theorem aTc {A:Option Addr} {e:Nat} (key:H32) (a b:ByteArray) (ha':a.size≤100000) (hb':b.size≤100000) (hM:Mem H w0 L w) [k:AtA L A 2 2 e 1 [[.one (.string a)],[.one (.string b)]] R]:
  Calls prog 169 #[.string (strOfNums key.1),.slice A 2 2] w fun en w'=>en=.returned (ha (hmacH key.1 (ints a++ints b)))∧St w [] w':=by
 have hr:=hM.rd k
 have h:=Ue (strOfNums key.1) A [a,b] 2 w hr (by rw[strOfNums_size];rw[key.2.1];omega) (by simp) (by simp[cat,Bq];omega)
 rw[Ce _ key.2.2]at h
 have e2:cat [a,b]=ints a++ints b:=by simp[cat]
 rw[e2]at h
 exact h
theorem aTd {A:Option Addr} {e:Nat} (key:H32) (a:ByteArray) (ha':a.size≤100000) (hM:Mem H w0 L w) [k:AtA L A 1 1 e 1 [[.one (.string a)]] R]:
  Calls prog 169 #[.string (strOfNums key.1),.slice A 1 1] w fun en w'=>en=.returned (ha (hmacH key.1 (ints a)))∧St w [] w':=by
 have hr:=hM.rd k
 have h:=Ue (strOfNums key.1) A [a] 1 w hr (by rw[strOfNums_size];rw[key.2.1];omega) (by simp) (by simp[cat,Bq];omega)
 rw[Ce _ key.2.2,aFn]at h
 exact h
def derivedH (x:List Int) (l c:ByteArray):H32:=⟨derived x l c,aAw _ _ _,Nm _ _⟩
theorem aKs (key:H32) (l c:ByteArray) (w:World) (hl:l.size≤1000000) (hc:c.size≤1000000):Calls prog 126 #[ha key,.string l,.string c] w fun e w'=>e=.returned (ha (derivedH key.1 l c))∧St w [] w':=aPa key.1 l c w key.2.1 key.2.2 hl hc
end
end Go.Proofs.YtgbenhmdamnmcaaGreat
namespace Go.Proofs.YtgbenhmdamnmcaaGreat
open Go.Proofs.Tryz
open Go.RowKit Go.Shelf Go.Lib
attribute [local go_sem] Oper.semAt_some
theorem aTe {n x:Int} (h:thr n x):ab n x<0∨level x<level (ab n x)∧level (ab n x)≤7:=by
 obtain⟨h1,h2,h3⟩:=id h
 have:=aWf ⟨n.toNat,by omega⟩ ⟨x.toNat,by omega⟩
 simp only[Int.toNat_of_nonneg h2,Int.toNat_of_nonneg (show 0≤n by omega)]at this
 exact this h
theorem aKt {n x:Int} (h:¬ab n x<0):thr n x:=Decidable.byContradiction fun hn=>h (by rw[aMh hn];omega)
theorem Only.grown0 {w w':World} (h:Only (fun k=>∃ b∈([]:List Bk),b.nw=false∧b.g=k) w w'):w.grownBy w' none:=⟨h.os,h.tape,h.output,h.size,fun k hk _=>h.block k hk (by rintro⟨_,hm,_⟩;cases hm)⟩
theorem aZv (n x:Int) (w:World):Calls prog 165 #[.int .i64 n,.int .i64 x] w fun en w'=>∃ b1 b2,en=.returned (.func (.func 201) #[] #[.pointer (some ⟨b1,0,none⟩),.pointer (some ⟨b2,0,none⟩)])∧Mem (Hp.of w) w [fb b2 3 [.one (.int .i64 x)],fb b1 3 [.one (.int .i64 n)]] w':=by
 have hM:=Mem.start (Fz.of w)
 refine aJs ?_
 unfold aAh
 (((refine Bh hM ?_;clear hM;intro _ _ hM;refine Bh hM ?_;clear hM;intro _ _ hM;refine Ab trivial ?_)))
 exact⟨_,_,rfl,hM⟩
def mea (v:Value):Nat:=match v with
 | .int _ k=>if k<0 then 0 else (9 - level k).toNat
 | _=>0
set_option maxRecDepth 100000 in
set_option maxHeartbeats 1000000 in
theorem aZw (m:Nat) (hm:2≤m) (l b1 b2:Nat) (n x:Int) (W0:Nat) (J Jx:List Int→World→Prop) (hJ:AbidesFrom W0 J)
  (hY:∀ pre y W,J pre W→pre.length<(dirF 8 n x).length→YieldAt Fence.wide (m - 1) prog l #[.int .i64 y] W fun e W'=>
   (e=.returned (.bool true)∧J (pre++[y]) W'∧W'.heap[b1]?=W.heap[b1]?)∨(e=.returned (.bool false)∧Jx (pre++[y]) W'))
  (W:World) (l1:b1<W.heap.size) (h1:W.cell? ⟨b1,0,none⟩=some (.int .i64 n)) (h2:W.cell? ⟨b2,0,none⟩=some (.int .i64 x)) (h0:J [] W):
  CallsIn Fence.wide m prog 201 #[.func (.yield l) #[] #[],.pointer (some ⟨b1,0,none⟩),.pointer (some ⟨b2,0,none⟩)] W fun e W'=>(∃ v,e=.returned v) ∧
   ((∃ ys,ys=dirF 8 n x∧J ys W')∨(∃ pre,pre <+: dirF 8 n x∧Jx pre W')):=by
 have f1:Fence.wide.fn 202:=trivial
 have m1:1≤m:=by omega
 refine callsIn_of_wp Tryz.func201 rfl trivial ?_ rfl
 simp only[Tryz.ntmps201,List.size_toArray,List.length_cons,List.length_nil,Nat.reduceAdd,Nat.reduceSub,Array.replicate_succ,Array.replicate_zero,List.push_toArray,List.append_toArray,List.nil_append,List.cons_append]
 gi_wp2_with (gi_at_call 202;refine(callsIn_wide.2 (Vz n x _)).mono ?_;rintro e w1 ⟨rfl,hst⟩)
 have hg:=Only.grown0 hst.only
 have hb1:w1.heap[b1]?=W.heap[b1]?∧W.heap.size≤w1.heap.size:=⟨hg.block b1 l1 (by simp),hg.size⟩
 have hJ1:J [] w1:=hJ [] W w1 none h0 hg (fun r e=>by cases e)
 gi_loopw [4] (fun p wr=>∃ (f:Nat) (y:Int) (pre:List Int),p=.int .i64 (ab n y)∧dirF 8 n x=pre++dirF f n y∧okd f n y=true∧J pre wr∧wr.heap[b1]?=W.heap[b1]?) (fun p _=>mea p)
 case atStart=>
  exact⟨8,x,[],rfl,rfl,aZn _ _,hJ1,hb1.1⟩
 case round=>
  obtain⟨f,y,pre,rfl,hx,ho,hJs,hB⟩:=hrel
  have c1:wr.cell? ⟨b1,0,none⟩=some (.int .i64 n):=(World.cell?_of_block (w:=W) (a:=⟨b1,0,none⟩) hB).trans h1
  by_cases hp:ab n y<0
  ·have hq:¬0≤ab n y:=by omega
   gi_wp2
   refine⟨fun _ h=>(by cases h),?_⟩
   gi_wp2
   go_end0
   exact⟨⟨_,rfl⟩,.inl ⟨pre,by rw[hx,aSm hp,List.append_nil],hJs⟩⟩
  ·have hq:0≤ab n y:=by omega
   obtain⟨g,rfl,e2,ho⟩:=aOt hp ho
   obtain⟨fn,tmps,assign,body,hy,hR⟩:=hY pre (ab n y) wr hJs (by rw[hx,e2];simp)
   gi_wp2
   refine hR.mono ?_
   rintro e W3 (⟨rfl,hJ3,hk3⟩|⟨rfl,hJx3⟩)
   ·have c3:W3.cell? ⟨b1,0,none⟩=some (.int .i64 n):=(World.cell?_of_block (w:=wr) (a:=⟨b1,0,none⟩) hk3).trans c1
    gi_wp2_with (gi_at_call 202;refine(callsIn_wide.2 (Vz n (ab n y) _)).mono ?_;rintro e w4 ⟨rfl,hst4⟩)
    have hg4:=Only.grown0 hst4.only
    have hB3:=hk3.trans hB
    have hl3:b1<W3.heap.size:=by
     have e:W3.heap[b1]?=some W.heap[b1]:=by rw[hB3];simp[l1]
     exact(Array.getElem?_eq_some_iff.1 e).1
    have hB4:w4.heap[b1]?=W3.heap[b1]?:=hg4.block b1 hl3 (by simp)
    have hJ4:J (pre++[ab n y]) w4:=hJ _ W3 w4 none hJ3 hg4 (fun r e=>by cases e)
    go_roundw
    case rel=>exact⟨g,ab n y,pre++[ab n y],rfl,by rw[hx,e2];simp,ho,hJ4,hB4.trans hB3⟩
    case measure=>
     have hp:¬ab n y<0:=by omega
     have ht:=aFg (aKt hp) hp
     have:=aTe ht
     have h8:=Ja (ab n y)
     have h7:=(aTe (aKt hp)).resolve_left hp
     show mea (.int .i64 (ab n (ab n y)))<mea (.int .i64 (ab n y))
     simp only[mea]
     rw[if_neg hp]
     split <;> omega
   ·gi_wp2
    go_end0
    exact⟨⟨_,rfl⟩,.inr ⟨pre++[ab n y],⟨dirF g n (ab n y),by rw[hx,e2];simp⟩,hJx3⟩⟩
theorem aTf (m:Nat) (hm:2≤m) (b1 b2:Nat) (n x:Int) (w:World) (l1:b1<w.heap.size) (l2:b2<w.heap.size) (h1:w.cell? ⟨b1,0,none⟩=some (.int .i64 n)) (h2:w.cell? ⟨b2,0,none⟩=some (.int .i64 x)):
  SeqStopsK Fence.wide m prog 201 #[.pointer (some ⟨b1,0,none⟩),.pointer (some ⟨b2,0,none⟩)] (fun y:Int=>#[Value.int .i64 y]) (fun A B=>B.heap[b1]?=A.heap[b1]?) (fun ys=>ys=dirF 8 n x) (fun pre=>pre <+: dirF 8 n x) (dirF 8 n x).length w:=fun l J Jx W hW hJ _ hY h0=>
 aZw m hm l b1 b2 n x W.heap.size J Jx hJ hY W (Nat.lt_of_lt_of_le l1 hW.size) ((hW.cell (p:=⟨b1,0,none⟩) l1).trans h1) ((hW.cell (p:=⟨b2,0,none⟩) l2).trans h2) h0
theorem Boxed.app2 {W w1:World} {n₀ n1 B:Nat} {t e:TypeId} {size:Nat} {v v':Value} {k m:Nat} {xs ys:List Value} {tmp:Obj}
  (hv:Boxed W B t v) (hte:t≠e) (hrow:W.ownsRow n₀ e size v k xs) (hn₀:n₀≤W.heap.size) (hn1:n1≤n₀) (hB:n1≤B)
  (hown':w1.ownsRow n₀ e size v' m ys) (hgrow:(W.alloc tmp).grownBy w1 v.ownBlock):
  Boxed w1 B t v∧Boxed (w1.setCell ⟨B,0,none⟩ v') B t v'∧(w1.setCell ⟨B,0,none⟩ v').ownsRow n₀ e size v' m ys∧KeepsOthers W (w1.setCell ⟨B,0,none⟩ v')∧Below n1 W (w1.setCell ⟨B,0,none⟩ v')∧∀ i,i<n₀→i≠B→(w1.setCell ⟨B,0,none⟩ v').heap[i]?=W.heap[i]?:=by
 have hv1:Boxed w1 B t v:=(hv.alloc tmp).kept hgrow (hv.not_row hte hrow)
 have hge:∀ j,v.ownBlock=some j→n₀≤j:=fun j ej=>by
  rcases hrow.2 with ⟨rfl,_⟩|⟨g,cap,cur,rfl,hb,_,_⟩
  ·simp[Value.ownBlock]at ej
  ·obtain rfl:g=j:=by simpa [Value.ownBlock] using ej
   exact hb
 refine⟨hv1,hv1.set v',hown'.kept (grownBy_setCell' w1 B v') (.inr (hv1.not_row hte hown').symm),?_,?_,?_⟩
 ·refine((KeepsOthers.alloc W tmp).trans (KeepsOthers.of_grownBy hgrow fun j o ej hj=>?_)).trans (KeepsOthers.setCell _ _ _)
  rcases(hrow.alloc tmp).2 with ⟨rfl,_⟩|⟨g,cap,cur,rfl,_,hgb,_⟩
  ·simp[Value.ownBlock]at ej
  ·obtain rfl:g=j:=by simpa [Value.ownBlock] using ej
   rw[hgb]at hj;cases hj;rfl
 ·refine(((Below.refl n1 W).alloc (Nat.le_trans hn1 hn₀) tmp).grown hgrow (by simp;omega) fun j ej=>?_).setCell (p:=⟨B,0,none⟩) hB v'
  exact Nat.le_trans hn1 (hge j ej)
 ·intro i hi hne
  have hs:w1.heap.size≥(W.alloc tmp).heap.size:=hgrow.size
  rw[World.size_alloc]at hs
  rw[(grownBy_setCell' w1 B v').block i (by omega) (by simpa using hne)]
  rw[hgrow.block i (by rw[World.size_alloc];omega) (fun e=>by have:=hge i e.symm;omega)]
  exact Below.heap_alloc W tmp i (by omega)
theorem info3:(prog.info? 3).map (fun i=>(i.zero,i.size,i.bytes))=some (some (.int .i64 0),1,8):=by kernel_rfl
set_option maxRecDepth 100000 in
set_option maxHeartbeats 2000000 in
theorem aZx (n l:Int) (hl:0≤l∧l<n) (hb:l≤1000000) (w:World):
  Calls prog 89 #[.int .i64 n,.int .i64 l] w fun e W'=>∃ v,e=.returned v∧W'.ownsRow w.heap.size 3 1 v (dirL n l).length ((dirL n l).map (Value.int .i64))∧Below w.heap.size w W':=by
 have hD:dirL n l=dirF 8 n (2*l):=if_pos hl
 have hlen:=Uf n l
 rw[hD]at hlen ⊢
 have hw:IntKind.i64.wrap (2*l)=2*l:=Nc (by omega)
 obtain⟨i0,hi,hz0,hz1,hz2⟩:=info_parts info3
 have f1:Fence.wide.fn 165:=trivial
 have hn1:¬l<0:=by omega
 have hn2:¬n≤l:=by omega
 have hmx:9≤maxLen:=by decide
 refine(callsIn_wide (n:=8)).1 ?_
 refine callsIn_of_wp_marks Tryz.func89 rfl trivial ?_ rfl
 simp only[Tryz.ntmps89,List.size_toArray,List.length_cons,List.length_nil,Nat.reduceAdd,Nat.reduceSub,Array.replicate_succ,Array.replicate_zero,List.push_toArray,List.append_toArray,List.nil_append,List.cons_append]
 gi_wp2_with (gi_at_call 165;refine(callsIn_wide.2 (aZv n (2*l) _)).mono ?_;rintro e w2 ⟨b1,b2,rfl,hM⟩)
 have hgr:=Only.grown0 hM.st.only
 have bO:Boxed w2 w.heap.size 133 (.slice none 0 0):=(Boxed.new w _ _).kept hgr (by simp)
 have hsz:w.heap.size+1≤w2.heap.size:=by have:=hgr.size;rwa [World.size_alloc]at this
 have hB0:Below w.heap.size w w2:=((Below.refl _ w).alloc (Nat.le_refl _) _).trans (hM.st.only.below (by simp) (fun i _ h=>by obtain⟨_,hm,_⟩:=h;cases hm))
 obtain⟨k1,_⟩:=Mem.blf (g:=b1) (hM.upB b1) inferInstance
 obtain⟨k2,_⟩:=Mem.blf (g:=b2) (hM.upB b2) inferInstance
 have hne:b1≠w.heap.size:=by
  rintro rfl
  obtain⟨fr,h1,_⟩:=k1
  rw[show w2.heap[w.heap.size]?=_ from bO]at h1
  simp at h1
 refine wpIn_rangeFunc_ownG rfl (by omega) (gf:=201) (lb:=#[.pointer (some ⟨b1,0,none⟩),.pointer (some ⟨b2,0,none⟩)]) rfl trivial (enters_of Tryz.func201 (by kernel_rfl) rfl)
  (aTf _ (by omega) b1 b2 n (2*l) w2 k1.lt k2.lt (by rw[k1.cell];rfl) (by rw[k2.cell];rfl)) (fun h k=>Eq.trans k h) (fun W j o o' hj _ _ _=>?kb) (Below.refl _ _) (fun _=>rfl)
  (fun pre W=>(∃ v,Boxed W w.heap.size 133 v∧W.ownsRow w2.heap.size 3 1 v pre.length (pre.map (Value.int .i64))∧True)∧Below w.heap.size w W∧w2.heap.size≤W.heap.size)
  (fun _ _ _=>False)
  (OwnFrom.and (Own.from (holdsRow_own w2.heap.size w.heap.size 133 3 1 (fun pre:List Int=>pre.length) (fun pre=>pre.map (Value.int .i64)) (fun _ _=>True)) _) (OwnFrom.and (ownFrom_below (Nat.le_refl _) (by omega)) (fun s A B row hs hg hr=>Nat.le_trans hs hg.size)))
  (fun _ _ _ _ _ hs _ _=>hs)
  ⟨⟨_,bO,World.ownsRow_nil _ _ _ _,trivial⟩,hB0,Nat.le_refl _⟩
  (fun x=>{ tmps:=#[.int .i64 n,.int .i64 l,undef,undef,.slice none 0 0,.pointer (some ⟨w.heap.size,0,none⟩),.int .i64 x,.int .i64 l,.bool false,.bool false,.int .i64 l,.int .i64 n,.bool false,.bool false,.int .i64 n,.int .i64 l,.int .i64 (2*l),.func (.func 201) #[] #[.pointer (some ⟨b1,0,none⟩),.pointer (some ⟨b2,0,none⟩)],.int .i64 x,undef,undef,undef,undef,undef],defers:=[] }) ?assign ?body ?done ?stop
 case kb=>exact(grownBy_putObj' W j o').block b1 (by have:=k1.lt;have:=(Array.getElem?_eq_some_iff.1 ‹W.heap[j]?=some o›).1;omega) (by have:=k1.lt;simp;omega)
 case assign=>
  intro l x W K hK
  gi_wp2
  exact hK
 case body=>
  rintro l pre x W ⟨⟨v,hv,hrow,-⟩,hB,hsw⟩ hlt
  have hc:=hv.cell
  gi_wp2_with (gi_at_builtin;refine wpListIn_append_own _ rfl _ _ 133 rfl w2.heap.size 3 i0 (.int .i64 0) 1 8 (by kernel_rfl) hi hz0 hz1 hz2 rfl (by decide) _ _ _ rfl (hrow.alloc _) ⟨W.heap.size,0,none⟩ 1 1 [.int .i64 x] rfl rfl (cell_one_new _ _ _) (by simp[Value.oneCell']) (by omega) (by omega) (by simp;omega) ?_;intro v' w1 hown' hgrow _;obtain⟨g',cap',rfl⟩:=ownsRow_succ hown';obtain⟨hv1,hv2,hr2,hk2,hb2,hx2⟩:=Boxed.app2 hv (n1:=w.heap.size) (by decide) hrow hsw (by omega) (Nat.le_refl _) hown' hgrow;have hc1:=hv1.cell;have hf1:=hv1.frozen)
  exact⟨hk2.from _,hx2 b1 k1.lt hne,⟨_,hv2,by simpa using hr2,trivial⟩,hB.trans hb2,Nat.le_trans hsw hb2.size⟩
 case done=>
  rintro D ys W hD rfl ⟨⟨v,hv,hrow,-⟩,hB,hsw⟩ hK
  have hc:=hv.cell
  gi_wp2
  refine⟨by simp,.inl ⟨_,_,rfl,run_takeDeferred hK,?_⟩⟩
  exact⟨_,results_tmp rfl _ _ _,v,rfl,⟨(ownsRow_putObj hrow (.deferred none) hK rfl).1,(ownsRow_putObj hrow (.deferred none) hK rfl).2.imp id fun⟨g,cap,cur,h1,h2,h3⟩=>⟨g,cap,cur,h1,by omega,h3⟩⟩,hB.trans (belowK_b (w:=w) (Nat.le_refl _) W D _ _ (by omega) hK rfl rfl)⟩
 case stop=>
  rintro D c pre W _ _ h _
  exact h.elim
set_option maxRecDepth 100000 in
set_option maxHeartbeats 2000000 in
theorem aWp (n l:Int) (hl:l<0∨n≤l) (w:World):Calls prog 89 #[.int .i64 n,.int .i64 l] w fun e W'=>e=.returned (.slice none 0 0)∧Below w.heap.size w W':=by
 refine(callsIn_wide (n:=8)).1 ?_
 refine callsIn_of_wp_marks Tryz.func89 rfl trivial ?_ rfl
 simp only[Tryz.ntmps89,List.size_toArray,List.length_cons,List.length_nil,Nat.reduceAdd,Nat.reduceSub,Array.replicate_succ,Array.replicate_zero,List.push_toArray,List.append_toArray,List.nil_append,List.cons_append]
 by_cases h1:l<0
 ·gi_wp2
  exact⟨_,results_tmp rfl _ _ _,rfl,Below.refl _ _⟩
 ·have h2:n≤l:=by omega
  gi_wp2
  exact⟨_,results_tmp rfl _ _ _,rfl,Below.refl _ _⟩
theorem aPc (l:List Int):fls (ints8 l)=l.map (Value.int .i64):=by
 induction l with
 | nil=>rfl
 | cons x r ih=>
   show fls ([.one (.int .i64 x)]::ints8 r)=_
   rw[Gn,ih]
   rfl
theorem aMo {H:Hp} {w W':World} {e:TypeId} {v:Value} {D:List Int} (hf:Fz H w) (ho:W'.ownsRow w.heap.size e 1 v D.length (D.map (Value.int .i64))) (hb:Below w.heap.size w W'):
  Outp H w (fun H' v=>∃ A cap,v=.slice A D.length cap∧Sl H' 1 A (ints8 D)) (.returned v) W':=by
 have hst:St w [] W':=⟨(fun _ h=>by cases h),.nil,(fun _ h=>by cases h),Only.of_below hb fun i hi hge=>by omega⟩
 have hF:∀ b c,H b=some c→∃ t fr,W'.heap[b]?=some (.cells c t fr):=fun b c hc=>by
  obtain⟨t,fr,h⟩:=hf b c hc
  exact⟨t,fr,(hb.block b (hf.lt hc)).trans h⟩
 rcases ho.2 with ⟨rfl,hn⟩|⟨g,cap,cur,rfl,hge,hgb,hnc,hcm,hsz,htk⟩
 ·have hD:D=[]:=List.eq_nil_of_length_eq_zero hn
  subst hD
  exact⟨_,H,rfl,Le.refl _ _,⟨⟨[],rfl,hst,fun _ h=>by cases h⟩,hF⟩,none,0,rfl,Sl.nil _ _ _⟩
 ·have hg0:H g=none:=by
   cases hh:H g with
   | none=>rfl
   | some c=>have:=hf.lt hh;omega
  refine⟨_,fun k=>if k=g then some cur else H k,rfl,⟨fun b c hc=>?_,fun b hb' hn=>?_⟩,⟨⟨[],rfl,hst,fun _ h=>by cases h⟩,fun b c hc=>?_⟩,some ⟨g,0,none⟩,cap,rfl,aOu D,.inr ⟨g,0,cur,rfl,if_pos rfl,fun j u hu=>?_⟩⟩
  ·show(if b=g then some cur else H b)=some c
   rw[if_neg (by rintro rfl;rw[hg0]at hc;cases hc)]
   exact hc
  ·show(if b=g then some cur else H b)=none
   rw[if_neg (by omega)]
   exact hn
  ·have hc:(if b=g then some cur else H b)=some c:=hc
   by_cases e:b=g
   ·rw[if_pos e]at hc
    cases hc
    exact⟨_,_,by rw[e];exact hgb⟩
   ·rw[if_neg e]at hc
    exact hF b c hc
  ·rw[aPc,← htk]at hu
   rw[Nat.zero_add,← Array.getElem?_toList]
   rw[List.getElem?_take]at hu
   split at hu
   ·exact hu
   ·cases hu
theorem Se {H:Hp} {w:World} (n l:Int) (hb:l≤1000000) (hf:Fz H w):Calls prog 89 #[.int .i64 n,.int .i64 l] w (Outp H w (fun H' v=>∃ A cap,v=.slice A (dirL n l).length cap∧Sl H' 1 A (ints8 (dirL n l)))):=by
 by_cases hl:0≤l∧l<n
 ·refine(aZx n l hl hb w).mono ?_
  rintro e W' ⟨v,rfl,ho,hB⟩
  exact aMo hf ho hB
 ·refine(aWp n l (by omega) w).mono ?_
  rintro e W' ⟨rfl,hB⟩
  have:dirL n l=[]:=if_neg hl
  rw[this]
  exact aMo (e:=3) (D:=[]) hf ⟨rfl,.inl ⟨rfl,rfl⟩⟩ hB
end Go.Proofs.YtgbenhmdamnmcaaGreat
namespace Go.Proofs.YtgbenhmdamnmcaaGreat
open Go.Proofs.Tryz
open Go.RowKit Go.Lib
instance {P:Program} {ts:Array TypeId} {ty:TypeId} {cs:List Bool} {k k':IntKind} (x y:Int):StepC P (Ak .max ts ty cs [.int k x,.int k' y]) True (.int k (if x<y then y else x)):=⟨fun _ w=>by simp[Ak,invoke,go_sem]⟩
def seenL (s:List Int):List Value:=(List.range 65).map fun(i:Nat)=>.bool (decide ((i:Int)∈s))
theorem aTg (s:List Int) {i:Int} (h:0≤i∧i≤64):(seenL s)[i.toNat]?=some (.bool (decide (i∈s))):=by
 unfold seenL
 have hi:i.toNat<65:=by omega
 simp[hi,Int.toNat_of_nonneg h.1]
theorem aPd (s:List Int) {i:Int} (h:0≤i∧i≤64):(seenL s).set i.toNat (.bool true)=seenL (i::s):=by
 unfold seenL
 refine List.ext_getElem (by simp) fun k h1 h2=>?_
 simp only[List.getElem_set,List.getElem_map,List.getElem_range,List.mem_cons]
 split
 ·rename_i e
  have:(k:Int)=i:=by omega
  simp[this]
 ·rename_i e
  have:(k:Int)≠i:=by omega
  simp[this]
theorem aTh (s:List Int):FdOk (.arr 65 (seenL s)):=⟨by simp[Fd.cells,Fd.size,seenL],fun u hu=>by
 simp only[Fd.cells,seenL,List.mem_map]at hu
 obtain⟨_,_,rfl⟩:=hu
 rfl⟩
theorem aPe:List.replicate 65 (Value.bool false)=seenL []:=rfl
theorem aFo {s:List Int} {ls:List Lf} {i:Nat} (h:i<ls.length):leavesB s (ls.drop i)=if ls[i]=Lf.zero then leavesB s (ls.drop (i+1)) else decide ((1≤ls[i].name∧ls[i].name≤64)∧ls[i].name∉s)&&leavesB (ls[i].name::s) (ls.drop (i+1)):=by
 rw[List.drop_eq_getElem_cons h,leavesB]
theorem aPf {n:Int} {ls:List Lf} {x:Int} {ps:List Pn} {i:Nat} (h:i<ps.length):parB n ls x (ps.drop i)=((ps[i].set||decide ps[i].isZero)&&looseB n ls x none ps[i].loose&&parB n ls (x+2) (ps.drop (i+1))):=by
 rw[List.drop_eq_getElem_cons h,parB]
theorem aHx {n:Int} {ls:List Lf} {x:Int} {o:Option Int} {l:List Int} {i:Nat} (h:i<l.length):looseB n ls x o (l.drop i)=(decide (hld n x l[i]∧nameAt ls l[i]≠0∧∀ q∈o,q<l[i])&&looseB n ls x (some l[i]) (l.drop (i+1))):=by
 rw[List.drop_eq_getElem_cons h,looseB]
def prv (l:List Int):Nat→Option Int
 | 0=>none
 | k+1=>l[k]?
theorem Qe {ls:List Lf} {p:Int} (h0:0≤p) (h:p.toNat<ls.length):nameAt ls p=ls[p.toNat].name:=by
 unfold nameAt
 rw[List.getElem?_eq_getElem h]
theorem Ul {n x p:Int} (h:hld n x p):0≤p∧p<n∧thr n x:=by
 by_cases ht:thr n x
 ·obtain⟨-,-,-,-,-,hT,-⟩:=Ik ht
  have h1:fro n x=(fd n x).1:=if_pos ht
  have h2:=(aYl ht).1
  have h3:pTo n x≤n:=by unfold pTo;rw[if_pos ht];omega
  obtain⟨a,b⟩:=h
  exact⟨by omega,by omega,ht⟩
 ·obtain⟨a,b⟩:=h
  rw[aSh ht]at a
  rw[aSi ht]at b
  omega
section
variable {H:Hp} {w0 w:World} {L:List Res} {A B:Option Addr} {a b:Nat} {t:Tr} {qs:List (List Fd)}
theorem aWq (p:Pn) (C:Option Addr) (c:Nat) (w:World):Calls prog 177 #[.agg (fl (p.row C c)).toArray] w fun en w'=>en=.returned (.bool (decide p.isZero))∧St w [] w':=by
 have hM:=Mem.start (Fz.of w)
 refine aHd ?_
 unfold Xg
 (((refine Bh hM ?_;clear hM;intro _ _ hM;refine Ab trivial ?_;refine An hM ?_;refine Ab trivial ?_)))
 cases hs:p.set
 ·rw[Bool.not_false]
  (((refine Ae ?_;refine Ab trivial ?_;refine Ae ?_;refine An hM ?_;refine Ae ?_;refine Ab trivial ?_;refine Ae ?_)))
  (((refine Aw trivial ?_ ?_)))
  ·intro h1
   (((refine Ab trivial ?_;refine Ae ?_;refine Ab trivial ?_;refine Ae ?_;refine An hM ?_;refine Ae ?_;refine Ab trivial ?_;refine Ae ?_)))
   (((refine Aw trivial ?_ ?_)))
   ·intro h2
    (((refine Ab trivial ?_;refine Ae ?_;refine Ab trivial ?_;refine Ae ?_;refine An hM ?_;refine Ae ?_;refine Ab trivial ?_;refine Ae ?_)))
    (((refine Aw trivial ?_ ?_)))
    ·intro h3
     (((refine Ab trivial ?_)))
     exact⟨by rw[decide_eq_true (show p.isZero from⟨hs,h1,h2,List.eq_nil_of_length_eq_zero (by omega)⟩)],hM.st⟩
    ·intro h3
     (((refine Ab trivial ?_)))
     exact⟨by rw[decide_eq_false (show ¬p.isZero from fun h=>h3 (by rw[h.2.2.2];rfl))],hM.st⟩
   ·intro h2
    (((refine Ab trivial ?_;(iterate 4 refine Bv ?_);refine Ab trivial ?_)))
    exact⟨by rw[decide_eq_false (show ¬p.isZero from fun h=>h2 h.2.2.1)],hM.st⟩
  ·intro h1
   (((refine Ab trivial ?_;(iterate 4 refine Bv ?_);refine Ab trivial ?_;(iterate 4 refine Bv ?_);refine Ab trivial ?_)))
   exact⟨by rw[decide_eq_false (show ¬p.isZero from fun h=>h1 h.2.1)],hM.st⟩
 ·rw[Bool.not_true]
  ((((iterate 4 refine Bv ?_);refine Ab trivial ?_;(iterate 4 refine Bv ?_);refine Ab trivial ?_;(iterate 4 refine Bv ?_);refine Ab trivial ?_)))
  exact⟨by rw[decide_eq_false (show ¬p.isZero from fun h=>by rw[h.1]at hs;cases hs)],hM.st⟩
instance (p:Pn) (C:Option Addr) (c:Nat):PurC prog 177 [.agg (fl (p.row C c)).toArray] True (.bool (decide p.isZero)):=⟨fun _ w=>aWq p C c w⟩
theorem Ei (h1:Sl H 97 A (t.ls.map Lf.fds)) (h2:Sl H 66 B qs) (h3:All2 (PnF H) qs t.ps) (hl:t.ls.length≤maxLen) (hp:t.ps.length≤maxLen) (hf:Fz H w):
  Calls prog 127 #[tv A t.ls.length a B t.ps.length b] w fun en w'=>en=.returned (.bool t.right)∧St w [] w':=by
 have hM:=Mem.start hf
 refine aEn ?_
 unfold Tq
 have hl':t.ls.length≤9223372036854775807:=hl
 have hp':t.ps.length≤9223372036854775807:=hp
 have hq:qs.length=t.ps.length:=h3.len
 have hts:t.size=t.ls.length:=rfl
 (((refine Bh hM ?_;clear hM;intro _ _ hM;refine Ab trivial ?_;refine An hM ?_;refine Ab trivial ?_)))
 rename_i g1 _
 refine⟨fun v w'=>v=.bool (!decide (t.ls.length≤64∧t.ps.length=t.ls.length - 1))∧hM.now w',?_,?_⟩
 ·(((refine Aw trivial ?_ ?_)))
  ·intro h
   ((((iterate 7 refine Av ?_);refine Ab trivial ?_)))
   exact⟨by rw[decide_eq_false (by omega)];rfl,hM⟩
  ·intro h
   (((refine Ae ?_;refine Ab trivial ?_;refine Ae ?_;refine An hM ?_;refine Ae ?_;refine Ab trivial ?_;refine Ae ?_;refine Ab trivial ?_;refine Ae ?_;refine Ab ?_ ?_));(focus omega);((refine Ae ?_;refine Ab trivial ?_;refine Ae ?_)))
   rw[show(if (t.ls.length:Int) - 1<0 then 0 else (t.ls.length:Int) - 1)=((t.ls.length - 1:Nat):Int) by split <;> omega]
   (((refine Aw trivial ?_ ?_)))
   ·intro h4
    (((refine Ab trivial ?_)))
    exact⟨by rw[decide_eq_false (by omega)];rfl,hM⟩
   ·intro h4
    (((refine Ab trivial ?_)))
    exact⟨by rw[decide_eq_true (by omega)];rfl,hM⟩
 rintro v u w2 ⟨rfl,hM⟩
 by_cases hsz:t.ls.length≤64∧t.ps.length=t.ls.length - 1
 case neg=>
  rw[decide_eq_false hsz]
  (((refine Sc ?_)))
  refine⟨?_,hM.st⟩
  unfold Tr.right
  rw[decide_eq_false hsz]
  rfl
 rw[decide_eq_true hsz]
 (((refine Sb ?_;refine Bf hM ?_;clear hM;intro _ _ hM;refine Ab trivial ?_;refine An hM ?_;refine Ab trivial ?_)))
 rename_i g2 _
 rw[aPe]at hM
 refine⟨fun v w'=>∃ (i:Nat) (s:List Int),v=.int .i64 i∧i≤t.ls.length∧leavesB [] t.ls=leavesB s (t.ls.drop i)∧Mem H w [fb g2 267 [.arr 65 (seenL s)],fb g1 58 (tfd A t.ls.length a B t.ps.length b)] w',fun v _=>match v with | .int _ k=>t.ls.length - k.toNat|_=>0,⟨0,[],rfl,by omega,rfl,hM⟩,?_⟩
 clear hM
 rintro v u2 w3 ⟨i,s,rfl,hi,hb,hM⟩
 have hso:=aTh s
 (((refine Aw trivial ?_ ?_)))
 ·intro hlt
  have hdr:=aFo (s:=s) (ls:=t.ls) (i:=i) (by omega)
  (((refine Am ?_)))
  refine⟨fun w'=>∃ s',leavesB [] t.ls=leavesB s' (t.ls.drop (i+1))∧Mem H w [fb g2 267 [.arr 65 (seenL s')],fb g1 58 (tfd A t.ls.length a B t.ps.length b)] w',?_,?_⟩
  ·((refine Ci ‹_› ?_ ?_ ?_);(focus (simp only[List.length_map];omega));(focus (simp only[List.length_map];first|done|omega));((intro _ _ hA));(cases hA);(refine Cb hM ‹_› (By ?_) ?_);(focus omega);((refine Bf hM ?_;clear hM;intro _ _ hM;refine Az hM ?_;clear hM;intro _ hM;refine An hM ?_;refine Ab trivial ?_)))
   (((refine Aw trivial ?_ ?_)))
   ·intro hz
    (((refine Am ?_)))
    exact⟨s,by rw[hb,hdr,if_pos ((aMi _).2 hz)],hM.sub⟩
   ·intro hz
    rw[if_neg (fun e=>hz ((aMi _).1 e))]at hdr
    (((refine Aj ?_)))
    refine⟨fun v w'=>v=.bool (!decide ((1≤t.ls[i].name∧t.ls[i].name≤64)∧t.ls[i].name∉s))∧hM.now w',?_,?_⟩
    ·(((refine Ab trivial ?_;refine An hM ?_)))
     (((refine Aw trivial ?_ ?_)))
     ·intro h
      ((((iterate 3 refine Av ?_);refine Ab trivial ?_;(iterate 4 refine Av ?_);refine Ab trivial ?_)))
      exact⟨by rw[decide_eq_false (by omega)];rfl,hM⟩
     ·intro h
      (((refine Ae ?_;refine Ab trivial ?_;refine Ae ?_;refine An hM ?_;refine Ae ?_)))
      (((refine Aw trivial ?_ ?_)))
      ·intro h4
       (((refine Ab trivial ?_;(iterate 4 refine Av ?_);refine Ab trivial ?_)))
       exact⟨by rw[decide_eq_false (by omega)];rfl,hM⟩
      ·intro h4
       have hs:=aTg s (i:=t.ls[i].name) (by omega)
       (((refine Ab trivial ?_;refine Ae ?_;refine Ab trivial ?_;refine Ae ?_;refine An hM ?_;refine Ae ?_;refine Ab ?_ ?_));(focus omega);((refine Ae ?_)))
       refine aZc hM hs ?_
       (((refine Ab trivial ?_)))
       exact⟨by simp[show 1≤t.ls[i].name by omega,show t.ls[i].name≤64 by omega],hM⟩
    rintro v u4 w5 ⟨rfl,hM⟩
    by_cases hc:(1≤t.ls[i].name∧t.ls[i].name≤64)∧t.ls[i].name∉s
    ·rw[decide_eq_true hc]
     (((refine Sb ?_;refine Ab trivial ?_;refine An hM ?_;refine Ab ?_ ?_));(focus omega);((refine aKc hM ?_ ?_));(focus omega);((clear hM;intro _ hM)))
     rw[aPd s (by omega)]at hM
     exact⟨t.ls[i].name::s,by rw[hb,hdr,decide_eq_true hc,Bool.true_and],hM.sub⟩
    ·rw[decide_eq_false hc]
     (((refine Sc ?_)))
     refine⟨?_,hM.st⟩
     unfold Tr.right
     rw[hb,hdr,decide_eq_false hc]
     simp
  ·rintro u3 w4 ⟨s',hb',hM⟩
   (((refine Ab ?_ ?_));(focus omega))
   exact⟨⟨i+1,s',rfl,by omega,hb',hM⟩,by simp only;omega⟩
 ·intro hge
  have hls:leavesB [] t.ls=true:=by
   rw[hb,List.drop_eq_nil_of_le (by omega)]
   rfl
  (((refine Aj ?_;refine Ab trivial ?_;refine An hM ?_;refine Ab trivial ?_)))
  have hM:=hM.at_ (fb g1 58 (tfd A t.ls.length a B t.ps.length b))
  refine⟨fun v w'=>∃ i:Nat,v=.int .i64 i∧i≤t.ps.length∧parB t.size t.ls 1 t.ps=parB t.size t.ls (2*i+1) (t.ps.drop i)∧Mem H w [fb g1 58 (tfd A t.ls.length a B t.ps.length b)] w',fun v _=>match v with | .int _ k=>t.ps.length - k.toNat|_=>0,⟨0,rfl,by omega,rfl,hM.sub⟩,?_⟩
  clear hM hi hb hge hso
  rintro v u5 w5 ⟨i,rfl,hi,hb,hM⟩
  (((refine Aw trivial ?_ ?_)))
  ·intro hlt
   obtain⟨p,hpe⟩:∃ p,t.ps[i]=p:=⟨_,rfl⟩
   obtain⟨q,hq1,C,c,rfl,hC,hcl⟩:=h3.at_ (i:=i) (by omega)
   have hdr:=aPf (n:=t.size) (ls:=t.ls) (x:=2*i+1) (ps:=t.ps) (i:=i) (by omega)
   rw[hpe]at hq1 hC hcl hdr
   have hcl':p.loose.length≤9223372036854775807:=hcl
   (((refine Am ?_)))
   refine Ci h2 (by omega) hq.symm (fun bb oo hB=>?_)
   cases hB
   refine Cb hM h2 hq1 ?_
   (((refine Bf hM ?_;clear hM;intro _ _ hM;refine Az hM ?_;clear hM;intro _ hM)))
   rename_i g3 _ _
   refine⟨fun v w'=>v=.bool (!(p.set||decide p.isZero))∧hM.now w',?_,?_⟩
   ·(((refine Ab trivial ?_;refine An hM ?_;refine Ab trivial ?_)))
    rcases Bool.eq_false_or_eq_true p.set with hs|hs
    ·have e:(!p.set)=false:=by rw[hs];rfl
     rw[e]
     ((((iterate 3 refine Bv ?_);refine Ab trivial ?_)))
     exact⟨by rw[hs,Bool.true_or];rfl,hM⟩
    ·have e:(!p.set)=true:=by rw[hs];rfl
     rw[e]
     (((refine Ae ?_;refine An hM ?_;refine Ae ?_;refine Bl hM ?_ (fun _ hM2=>?_)));(focus (first|exact trivial|assumption|omega));((replace hM:=hM2;clear hM2;refine Ae ?_;refine Ab trivial ?_;refine Ab trivial ?_)))
     exact⟨by rw[hs,Bool.false_or],hM⟩
   rintro v u6 w6 ⟨rfl,hM⟩
   cases hz:(p.set||decide p.isZero)
   ·rw[Bool.not_false]
    (((refine Am ?_)))
    refine⟨?_,hM.st⟩
    unfold Tr.right
    rw[hb,hdr,hz]
    simp
   rw[hz,Bool.true_and]at hdr
   rw[Bool.not_true]
   (((refine Aj ?_;refine Ab trivial ?_;refine An hM ?_;refine Ab trivial ?_)))
   refine⟨fun v w'=>∃ k:Nat,v=.int .i64 k∧k≤p.loose.length∧looseB t.size t.ls (2*i+1) none p.loose=looseB t.size t.ls (2*i+1) (prv p.loose k) (p.loose.drop k)∧hM.now w',fun v _=>match v with | .int _ k=>p.loose.length - k.toNat|_=>0,⟨0,rfl,by omega,rfl,hM⟩,?_⟩
   rintro v u7 w7 ⟨k,rfl,hk,hlb,hM⟩
   (((refine Aw trivial ?_ ?_)))
   ·intro hlt2
    obtain⟨x,hx⟩:∃ x,p.loose[k]=x:=⟨_,rfl⟩
    have hdl:=aHx (n:=t.size) (ls:=t.ls) (x:=2*i+1) (o:=prv p.loose k) (l:=p.loose) (i:=k) (by omega)
    rw[hx]at hdl
    (((refine Am ?_));(refine Ci ‹_› ?_ ?_ ?_);(focus (simp only[List.length_map];omega));(focus (simp only[List.length_map];first|done|omega));((intro _ _ hA));(cases hA);(refine Cb hM ‹_› (By ?_) ?_);(focus omega))
    rw[hx]
    refine⟨fun v w'=>v=.bool (!decide (hld t.size (2*i+1) x∧nameAt t.ls x≠0∧∀ q∈prv p.loose k,q<x))∧hM.now w',?_,?_⟩
    ·(((refine Ab ?_ ?_));(focus omega);((refine Ab ?_ ?_));(focus omega);((refine Bl hM ?_ (fun _ hM2=>?_)));(focus (first|exact trivial|assumption|omega));((replace hM:=hM2;clear hM2;refine Ab trivial ?_)))
     by_cases hh:hld t.size (2*i+1) x
     ·obtain⟨r1,r2,-⟩:=Ul hh
      have hna:=Qe (ls:=t.ls) (p:=x) r1 (by omega)
      rw[decide_eq_true hh,Bool.not_true]
      (((refine Ae ?_;refine Ab trivial ?_;refine Ae ?_;refine An hM ?_;refine Ae ?_;refine Ab trivial ?_;refine Ae ?_));(refine Ci ‹_› ?_ ?_ ?_);(focus (simp only[List.length_map];omega));(focus (simp only[List.length_map];first|done|omega));((intro _ _ hA));(cases hA);((refine Ae ?_;refine Ab trivial ?_;refine Ae ?_));(refine Ip hM ‹_› (Ct ?_) ?_);(focus omega);((refine Ae ?_)))
      rw[← hna]
      (((refine Aw trivial ?_ ?_)))
      ·intro h5
       (((refine Ab trivial ?_;(iterate 3 refine Av ?_);(iterate 8 refine aDd ?_);refine Av ?_;refine Ab trivial ?_)))
       exact⟨by rw[decide_eq_false (fun h=>h.2.1 h5)];rfl,hM⟩
      ·intro h5
       cases k with
       | zero=>
         (((refine Ab trivial ?_;refine Ae ?_;refine Ab trivial ?_;refine Ae ?_;refine Bm trivial ?_ ?_));(focus (first|assumption|omega|with_reducible rfl|exact fun h=>Bool.noConfusion h));((refine Ae ?_;refine Ab trivial ?_;(iterate 8 refine Bv ?_);refine Ae ?_;refine Ab trivial ?_;refine Ab trivial ?_)))
         exact⟨by rw[decide_eq_true ⟨hh,h5,by simp[prv]⟩];rfl,hM⟩
       | succ k=>
         have hix:(((k+1:Nat):Int) - 1).toNat=k:=by omega
         have hpv:prv p.loose (k+1)=some p.loose[k]:=List.getElem?_eq_getElem (by omega)
         (((refine Ab trivial ?_;refine Ae ?_;refine Ab trivial ?_;refine Ae ?_;refine Bt trivial ?_ ?_));(focus (first|assumption|omega|with_reducible rfl|exact fun h=>Bool.noConfusion h));((refine Ae ?_;refine Ab trivial ?_;refine Ae ?_;refine Ab trivial ?_;refine Ae ?_;refine Ab trivial ?_;refine Ae ?_;refine An hM ?_;refine Ae ?_;refine Ab trivial ?_;refine Ae ?_;refine Ab ?_ ?_));(focus omega);((refine Ae ?_));(refine Ci ‹_› ?_ ?_ ?_);(focus (simp only[List.length_map];omega));(focus (simp only[List.length_map];first|done|omega));((intro _ _ hA));(cases hA);((refine Ae ?_));(refine Cb hM ‹_› (Ct ?_) ?_);(focus omega);((refine Ae ?_)))
         (((refine Aw trivial ?_ ?_)))
         ·intro h6
          simp only[hix]at h6
          (((refine Ae ?_;refine Ab trivial ?_;refine Ab trivial ?_)))
          exact⟨by rw[decide_eq_false (fun h=>by have:=h.2.2 _ hpv;omega)];rfl,hM⟩
         ·intro h6
          simp only[hix]at h6
          (((refine Ae ?_;refine Ab trivial ?_;refine Ab trivial ?_)))
          exact⟨by rw[decide_eq_true ⟨hh,h5,fun q hq=>by rw[hpv]at hq;cases hq;omega⟩];rfl,hM⟩
     ·rw[decide_eq_false hh,Bool.not_false]
      ((((iterate 7 refine Av ?_);refine Ab trivial ?_;(iterate 3 refine Av ?_);(iterate 8 refine aDd ?_);refine Av ?_;refine Ab trivial ?_)))
      exact⟨by rw[decide_eq_false (fun h=>hh h.1)];rfl,hM⟩
    rintro v u8 w8 ⟨rfl,hM⟩
    by_cases hc:hld t.size (2*i+1) x∧nameAt t.ls x≠0∧∀ q∈prv p.loose k,q<x
    ·rw[decide_eq_true hc,Bool.not_true]
     rw[decide_eq_true hc,Bool.true_and]at hdl
     (((refine Aj ?_;refine Ab ?_ ?_));(focus omega))
     refine⟨⟨k+1,rfl,by omega,?_,hM⟩,by simp only;omega⟩
     rw[hlb,hdl,prv,List.getElem?_eq_getElem (by omega),hx]
    ·rw[decide_eq_false hc,Bool.not_false]
     (((refine Am ?_)))
     refine⟨?_,hM.st⟩
     unfold Tr.right
     rw[hb,hdr,hlb,hdl,decide_eq_false hc]
     simp
   ·intro hge2
    have hl2:looseB t.size t.ls (2*i+1) none p.loose=true:=by
     rw[hlb,List.drop_eq_nil_of_le (by omega)]
     rfl
    rw[hl2,Bool.true_and]at hdr
    (((refine Aj ?_;refine Ab ?_ ?_));(focus omega))
    refine⟨⟨i+1,rfl,by omega,?_,hM.sub⟩,by simp only;omega⟩
    rw[hb,hdr]
    congr 1
  ·intro hge
   have hps:parB t.size t.ls 1 t.ps=true:=by
    rw[hb,List.drop_eq_nil_of_le (by omega)]
    rfl
   have hR:t.right=decide (t.ls=[]∨0<nameAt t.ls (t.size - 1)):=by
    unfold Tr.right
    rw[hls,hps,decide_eq_true hsz]
    simp
   (((refine Aj ?_)))
   (((refine Aw trivial ?_ ?_)))
   ·intro h0
    ((((iterate 8 refine Av ?_);refine Ab trivial ?_)))
    exact⟨by rw[hR,decide_eq_true (.inl (List.eq_nil_of_length_eq_zero (by omega)))],hM.st⟩
   ·intro h0
    (((refine Ae ?_;refine Ab trivial ?_;refine Ae ?_;refine An hM ?_;refine Ae ?_;refine Ab trivial ?_;refine Ae ?_;refine Ab ?_ ?_));(focus omega);((refine Ae ?_));(refine Ci ‹_› ?_ ?_ ?_);(focus (simp only[List.length_map];omega));(focus (simp only[List.length_map];first|done|omega));((intro _ _ hA));(cases hA);((refine Ae ?_;refine Ab trivial ?_;refine Ae ?_));(refine Ip hM ‹_› (Ct ?_) ?_);(focus omega);((refine Ae ?_)))
    rw[← Qe (ls:=t.ls) (p:=(t.ls.length:Int) - 1) (by omega) (by omega)]
    (((refine Aw trivial ?_ ?_)))
    ·intro h9
     (((refine Ab trivial ?_)))
     exact⟨by rw[hR,decide_eq_true (.inr h9)],hM.st⟩
    ·intro h9
     (((refine Ab trivial ?_)))
     exact⟨by rw[hR,decide_eq_false (fun h=>h.elim (fun h=>h0 (by rw[h];rfl)) h9)],hM.st⟩
end
end Go.Proofs.YtgbenhmdamnmcaaGreat
namespace Go.Proofs.YtgbenhmdamnmcaaGreat
open Go.Proofs.Tryz
open Go.RowKit
theorem Wc {n l:Int} (h:0≤l∧l<n∧n≤64):dirL n l=cands n.toNat l.toNat:=by
 have:=aWd ⟨n.toNat,by omega⟩ ⟨l.toNat,by omega⟩ (by simp only;omega)
 simpa only [Int.toNat_of_nonneg h.1,Int.toNat_of_nonneg (show 0≤n by omega)] using this
theorem aDj {n l:Nat} {x:Int}:x∈cands n l↔∃ k,(1≤k∧k≤6)∧cand k l=x∧x≤2*n - 2:=by
 unfold cands
 simp only[List.mem_filter,List.mem_map,decide_eq_true_eq]
 constructor
 ·rintro⟨⟨k,hk,rfl⟩,h⟩
  exact⟨k,by simp at hk;omega,rfl,h⟩
 ·rintro⟨k,hk,rfl,h⟩
  refine⟨⟨k,?_,rfl⟩,h⟩
  simp only[List.mem_cons,List.not_mem_nil,or_false]
  omega
theorem aFp {k l:Nat} (hk:1≤k∧k≤6) (hl:l<64):cand k l%2=1∧0≤cand k l∧cand k l<127∧level (cand k l)=k:=aSl ⟨k,by omega⟩ ⟨l,hl⟩ hk.1
theorem aMp {n l:Int} {i:Nat} (h:0≤l∧l<n∧n≤64) (hi:(i:Int)+1<n):2*(i:Int)+1∈dirL n l↔hld n (2*i+1) l:=by
 have ht:thr n (2*i+1):=⟨by omega,by omega,by omega⟩
 obtain⟨-,-,-,-,hF,hT,-⟩:=Ik ht
 obtain⟨⟨h1,h2⟩,h3⟩:=aSk ⟨i,by omega⟩ ⟨l.toNat,by omega⟩
 simp only[Int.toNat_of_nonneg h.1]at h1 h2 h3
 rw[Wc h,aDj]
 unfold hld
 rw[← hF,← hT]
 unfold pFrom pTo
 rw[if_pos ht,if_pos ht]
 have hmin:l<min ((2*(i:Int)+1+1+pw (level (2*i+1))) / 2) n↔l<(2*(i:Int)+1+1+pw (level (2*i+1))) / 2:=by omega
 rw[hmin,h3]
 constructor
 ·rintro⟨k,hk,hc,-⟩
  have hl:=(aFp (l:=l.toNat) hk (by omega)).2.2.2
  rw[hc]at hl
  rw[hl]
  exact hc
 ·intro hc
  exact⟨(level (2*i+1)).toNat,by omega,hc,by omega⟩
theorem aMq {n l x:Int} (h:n≤64) (hx:x∈dirL n l):(0≤l∧l<n)∧x=2*(x / 2)+1∧0≤x / 2∧x / 2+1<n:=by
 by_cases hl:0≤l∧l<n
 ·rw[Wc ⟨hl.1,hl.2,h⟩,aDj]at hx
  obtain⟨k,hk,rfl,hle⟩:=hx
  obtain⟨h1,h2,-⟩:=aFp (l:=l.toNat) hk (by omega)
  refine⟨hl,?_⟩
  have:((n.toNat:Nat):Int)=n:=Int.toNat_of_nonneg (by omega)
  omega
 ·unfold dirL at hx
  rw[if_neg hl]at hx
  cases hx
theorem aPg {n l:Int} (h:n≤64):(dirL n l).Nodup:=by
 by_cases hl:0≤l∧l<n
 ·rw[Wc ⟨hl.1,hl.2,h⟩]
  unfold cands
  have hc:∀ k,1≤k→k≤6→level (cand k l.toNat)=k:=fun k h1 h2=>(aFp (l:=l.toNat) ⟨h1,h2⟩ (by omega)).2.2.2
  have hne:∀ a b:Nat,1≤a→a≤6→1≤b→b≤6→a≠b→cand a l.toNat≠cand b l.toNat:=fun a b h1 h2 h3 h4 hn e=>by
   have:=hc a h1 h2
   rw[e,hc b h3 h4]at this
   omega
  have hm:([1,2,3,4,5,6].map fun k=>cand k l.toNat).Nodup:=by
   simp only[List.map_cons,List.map_nil,List.nodup_cons,List.mem_cons,List.not_mem_nil,or_false,not_or,not_false_eq_true,List.nodup_nil,and_true]
   refine⟨⟨?_,?_,?_,?_,?_⟩,⟨?_,?_,?_,?_⟩,⟨?_,?_,?_⟩,⟨?_,?_⟩,?_⟩ <;> exact hne _ _ (by omega) (by omega) (by omega) (by omega) (by omega)
  exact List.Pairwise.filter _ hm
 ·unfold dirL
  rw[if_neg hl]
  exact List.nodup_nil
def fix {α:Type} (f:α→Bool) (l:List α):Int:=if l.findIdx f<l.length then (l.findIdx f:Int) else -1
theorem aAx {α:Type} {f:α→Bool} {l:List α} {i:Nat} (h:i<l.length) (hb:∀ j (hj:j<l.length),j<i→f l[j]=false) (ht:f l[i]=true):l.findIdx f=i:=by
 rw[List.findIdx_eq h]
 exact⟨ht,fun j hj=>by simpa using hb j (by omega) hj⟩
theorem aFq {α:Type} {f:α→Bool} {l:List α} (hb:∀ j (hj:j<l.length),f l[j]=false):l.findIdx f=l.length:=by
 rw[List.findIdx_eq_length]
 intro x hx
 obtain⟨j,hj,rfl⟩:=List.getElem_of_mem hx
 simpa using hb j hj
theorem aZy {α:Type} {f:α→Bool} {l:List α} {i:Nat} (h:i<l.length) (hb:∀ j (hj:j<l.length),j<i→f l[j]=false) (ht:f l[i]=true):fix f l=i:=by
 unfold fix
 rw[aAx h hb ht,if_pos h]
theorem aTi {α:Type} {f:α→Bool} {l:List α} (hb:∀ j (hj:j<l.length),f l[j]=false):fix f l = -1:=by
 unfold fix
 rw[aFq hb,if_neg (by omega)]
def Tr.place (t:Tr) (name:Int):Int:=if name<1 then -1 else fix (fun l=>decide (l.name=name)) t.ls
def Tr.sound (t:Tr):Tr:=if t.right then t else Tr.none
def bs' (l:List Int) (x:Int):Nat:=l.findIdx (fun y=>decide (x≤y))
def ins (l:List Int) (x:Int):List Int:=l.take (bs' l x)++x::l.drop (bs' l x)
theorem Kv {n:Int} {ls:List Lf} {x:Int}:∀ {o:Option Int} {l:List Int},looseB n ls x o l=true→(∀ p∈l,hld n x p∧nameAt ls p≠0∧∀ q∈o,q<p)∧l.Pairwise (·<·)
 | _,[],_=>⟨fun _ h=>(by cases h),.nil⟩
 | o,p::r,h=>by
   simp only[looseB,Bool.and_eq_true,decide_eq_true_eq]at h
   obtain⟨h1,h2⟩:=h
   obtain⟨h3,h4⟩:=Kv h2
   refine⟨fun y hy=>?_,.cons (fun y hy=>(h3 y hy).2.2 p rfl) h4⟩
   rcases List.mem_cons.1 hy with rfl|hy
   ·exact h1
   ·obtain⟨a,b,c⟩:=h3 y hy
    exact⟨a,b,fun q hq=>by have:=h1.2.2 q hq;have:=c p rfl;omega⟩
theorem Mu {n:Int} {ls:List Lf}:∀ {x:Int} {ps:List Pn},parB n ls x ps=true→∀ i (hi:i<ps.length),(ps[i].set=true∨ps[i].isZero)∧looseB n ls (x+2*i) none ps[i].loose=true
 | _,[],_,i,hi=>by cases hi
 | x,p::r,h,i,hi=>by
   simp only[parB,Bool.and_eq_true,Bool.or_eq_true,decide_eq_true_eq]at h
   cases i with
   | zero=>simpa using h.1
   | succ i=>
     have:=Mu h.2 i (by simpa using hi)
     have e:x+2*((i+1:Nat):Int)=x+2+2*(i:Int):=by omega
     rw[e]
     simpa using this
theorem Nq:∀ {s:List Int} {ls:List Lf},leavesB s ls=true→∀ l∈ls,l=Lf.zero∨(1≤l.name∧l.name≤64)
 | _,[],_,_,h=>by cases h
 | s,l::r,h,x,hx=>by
   unfold leavesB at h
   split at h
   ·rename_i hz
    rcases List.mem_cons.1 hx with rfl|hx
    ·exact .inl hz
    ·exact Nq h x hx
   ·simp only[Bool.and_eq_true,decide_eq_true_eq]at h
    rcases List.mem_cons.1 hx with rfl|hx
    ·exact .inr h.1.1
    ·exact Nq h.2 x hx
structure Tr.Rt (t:Tr):Prop where
 len:t.ls.length≤64∧t.ps.length=t.ls.length - 1
 leaves:leavesB [] t.ls=true
 par:parB t.size t.ls 1 t.ps=true
 last:t.ls=[]∨0<nameAt t.ls (t.size - 1)
theorem Tr.rt {t:Tr}:t.right=true↔t.Rt:=by
 unfold Tr.right
 simp only[Bool.and_eq_true,decide_eq_true_eq]
 exact⟨fun⟨⟨⟨a,b⟩,c⟩,d⟩=>⟨a,b,c,d⟩,fun⟨a,b,c,d⟩=>⟨⟨⟨a,b⟩,c⟩,d⟩⟩
def Tr.gap (t:Tr):Nat:=t.ls.findIdx fun l=>decide (l.name=0)
def addL (t:Tr) (l:Lf):List Lf:=(if t.gap=t.ls.length then t.ls++[l] else t.ls).set t.gap l
def addPs (t:Tr):List Pn:=if t.gap=t.ls.length∧0<t.gap then t.ps++[Pn.zero] else t.ps
def updA (x:Int) (p:Pn):Pn:=if p.set=true then { p with loose:=ins p.loose x } else p
def onDir (f:Pn→Pn) (D:List Int) (ps:List Pn):List Pn:=D.foldl (fun ps x=>ps.modify (x / 2).toNat f) ps
def Tr.addP (t:Tr) (l:Lf):Tr × Int × Int:=
 if ¬t.right=true∨l.name<1∨64<l.name then (Tr.none,0,1) else if 0≤t.place l.name then (Tr.none,0,8) else if t.gap=t.ls.length∧t.gap=64 then (Tr.none,0,9) else
 (⟨addL t l,onDir (updA t.gap) (dirL (addL t l).length t.gap) (addPs t)⟩,t.gap,0)
def Tr.nobody (t:Tr) (p:Int):Prop:=(p<0∨t.size≤p)∨nameAt t.ls p=0
instance (t:Tr) (p:Int):Decidable (t.nobody p):=by unfold Tr.nobody;infer_instance
def blankP (n p:Int) (ps:List Pn):List Pn:=onDir (fun _=>Pn.zero) (dirL n p) ps
def keepN (ls:List Lf):Nat→Nat
 | 0=>0
 | n+1=>if nameAt ls n=0 then keepN ls n else n+1
def cut (ls:List Lf) (ps:List Pn):Tr:=⟨ls.take (keepN ls ls.length),ps.take (keepN ls ls.length - 1)⟩
def Tr.remP (t:Tr) (p:Int):Tr × Int:=if ¬t.right=true then (Tr.none,1) else if t.nobody p then (Tr.none,7) else (cut (t.ls.set p.toNat Lf.zero) (blankP t.size p t.ps),0)
def Lf.key (l:Lf) (pub abv:H32):Lf:=⟨l.name,pub,l.ver,abv⟩
end Go.Proofs.YtgbenhmdamnmcaaGreat
namespace Go.Proofs.YtgbenhmdamnmcaaGreat
open Go.Proofs.Tryz
open Go.RowKit Go.Lib
def bk (g e:Nat) (cs:List Value):Res:=fun B=>B=[⟨g,e,cs,true⟩]
class AtK (L:List Res) (g:Nat) (e:outParam Nat) (cs:outParam (List Value)) (R:outParam (List Res)):Prop where
 perm:L.Perm (bk g e cs::R)
instance (L:List Res) (g e:Nat) (cs:List Value):AtK (bk g e cs::L) g e cs L:=⟨.refl _⟩
section
variable {P:Program} {H:Hp} {w0 w:World} {L R:List Res} {n cap e sz by_ g:Nat} {t:TypeId} {A:Option Addr} {ps:List (List Fd)} {cs:List Value} {X:List PanicEntry→World→Prop} {K:Value→World→Prop}
theorem Mem.raw (h:Mem H w0 L w) [k:AtA L (some ⟨g,0,none⟩) n cap e sz ps R]:∃ sp,(fls ps++sp).length=cap*sz∧n≤cap∧cap≤maxLen∧Els sz ps∧ps.length=n∧Mem H w0 (bk g e (fls ps++sp)::R) w:=by
 obtain⟨B,⟨B1,B2,rfl,⟨h1,h2,h3⟩,h4⟩,hs',hb⟩:=(h.perm k.perm).own
 rcases h3 with ⟨hA,_⟩|⟨g',sp,hA,rfl,h5,h6,h7⟩
 ·cases hA
 ·cases hA
  exact⟨sp,h5,h6,h7,h1,h2,⟨_,⟨_,B2,rfl,rfl,h4⟩,hs',hb⟩,h.fz⟩
theorem Mem.bkBlf (h:Mem H w0 L w) [k:AtK L g e cs R]:Blf w g e cs:=by
 obtain⟨B,⟨B1,B2,rfl,rfl,_⟩,hs,_⟩:=(h.perm k.perm).own
 exact(hs.own ⟨g,e,cs,true⟩ (by simp)).blf
end
end Go.Proofs.YtgbenhmdamnmcaaGreat
namespace Go.Proofs.YtgbenhmdamnmcaaGreat
open Go.Proofs.Tryz
open Go.RowKit Go.Lib
end Go.Proofs.YtgbenhmdamnmcaaGreat
namespace Go.Proofs.YtgbenhmdamnmcaaGreat
open Go.Proofs.Tryz
open Go.RowKit Go.Lib
abbrev Xp:=Pn × Option Addr × Nat
abbrev xrow (x:Xp):List Fd:=x.1.row x.2.1 x.2.2
abbrev xres (x:Xp):Res:=rowR 3 1 x.2.1 x.1.loose.length x.2.2 (ints8 x.1.loose)
def allR (X:List Xp):Res:=fun B=>Hl (X.map xres) B
def restR (X:List Xp) (j:Nat):Res:=fun B=>Hl ((X.take j++X.drop (j+1)).map xres) B
abbrev x0:Xp:=(Pn.zero,none,0)
section
variable {H:Hp} {w0 w:World} {L:List Res} {X:List Xp} {j:Nat} {A B:Option Addr} {n m a b e sz cap k:Nat} {ps:List (List Fd)}
theorem Mem.all0 (h:Mem H w0 L w):Mem H w0 (allR []::L) w:=Mem.fold (R:=[]) (L:=L) h fun _ hb=>hb
theorem aTj (hj:j<X.length):(X.map xres).Perm (xres X[j]::(X.take j++X.drop (j+1)).map xres):=by
 have e:X=X.take j++X[j]::X.drop (j+1):=by simp
 conv=>lhs;rw[e]
 rw[List.map_append,List.map_append,List.map_cons]
 exact List.perm_middle
theorem aWr (hj:j<X.length) (y:Xp):((X.set j y).map xres).Perm (xres y::(X.take j++X.drop (j+1)).map xres):=by
 rw[List.set_eq_take_append_cons_drop,if_pos hj,List.map_append,List.map_append,List.map_cons]
 exact List.perm_middle
theorem Mem.outk (h:Mem H w0 (allR X::L) w) (hj:j<X.length):Mem H w0 (xres X[j]::restR X j::L) w:=by
 have h1:Mem H w0 (X.map xres++L) w:=h.imp (R:=X.map xres) fun _ hb=>hb
 have h2:=h1.perm ((aTj hj).append_right L)
 have h3:Mem H w0 ((X.take j++X.drop (j+1)).map xres++(xres X[j]::L)) w:=h2.perm List.perm_middle.symm
 have h4:Mem H w0 (restR X j::xres X[j]::L) w:=h3.fold fun _ hb=>hb
 exact h4.perm (.swap ..)
theorem Mem.ink {y:Xp} (h:Mem H w0 (xres y::restR X j::L) w) (hj:j<X.length):Mem H w0 (allR (X.set j y)::L) w:=by
 have h1:Mem H w0 (restR X j::xres y::L) w:=h.perm (.swap ..)
 have h2:Mem H w0 ((X.take j++X.drop (j+1)).map xres++(xres y::L)) w:=h1.imp fun _ hb=>hb
 have h3:Mem H w0 ((X.set j y).map xres++L) w:=(h2.perm List.perm_middle).perm ((aWr hj y).append_right L).symm
 exact h3.fold fun _ hb=>hb
theorem Mem.addk {y:Xp} (h:Mem H w0 (allR X::xres y::L) w):Mem H w0 (allR (X++[y])::L) w:=by
 have h1:Mem H w0 (X.map xres++(xres y::L)) w:=h.imp fun _ hb=>hb
 have h2:Mem H w0 ((X++[y]).map xres++L) w:=by
  rw[List.map_append,List.append_assoc]
  exact h1
 exact h2.fold fun _ hb=>hb
theorem Mem.unk {x:Xp} (h:Mem H w0 (allR (x::X)::L) w):Mem H w0 (xres x::allR X::L) w:=by
 have h1:Mem H w0 (xres x::(X.map xres++L)) w:=h.imp (R:=xres x::X.map xres) fun _ hb=>hb
 have h2:Mem H w0 (X.map xres++(xres x::L)) w:=h1.perm List.perm_middle.symm
 have h3:Mem H w0 (allR X::xres x::L) w:=h2.fold fun _ hb=>hb
 exact h3.perm (.swap ..)
theorem Mem.frzX:∀ {X:List Xp} {L:List Res} {H:Hp},Mem H w0 (allR X::L) w→∃ H',Le w0 H H'∧Mem H' w0 L w∧∀ x∈X,Sl H' 1 x.2.1 (ints8 x.1.loose)
 | [],L,H,h=>⟨H,Le.refl _ _,h.drop,fun _ h=>by cases h⟩
 | x::X,L,H,h=>by
   obtain⟨H1,l1,h1,s1,-⟩:=h.unk.fz0
   obtain⟨H2,l2,h2,s2⟩:=Mem.frzX h1
   refine⟨H2,l1.trans l2,h2,fun y hy=>?_⟩
   rcases List.mem_cons.1 hy with rfl|hy
   ·exact s1.mono l2.le
   ·exact s2 y hy
theorem We {H:Hp}:∀ {X:List Xp},(∀ x∈X,Sl H 1 x.2.1 (ints8 x.1.loose)∧x.1.loose.length≤maxLen)→All2 (PnF H) (X.map xrow) (X.map (·.1))
 | [],_=>trivial
 | x::X,h=>⟨⟨x.2.1,x.2.2,rfl,h x (List.mem_cons_self ..)⟩,We fun y hy=>h y (List.mem_cons_of_mem _ hy)⟩
theorem Mem.frzT {ls:List Lf} (h:Mem H w0 (rowR 118 97 A ls.length a (ls.map Lf.fds)::rowR 222 66 B X.length b (X.map xrow)::allR X::L) w) (hb:∀ x∈X,x.1.loose.length≤maxLen):∃ H',Le w0 H H'∧Mem H' w0 L w∧TrF H' (tv A ls.length a B X.length b) ⟨ls,X.map (·.1)⟩:=by
 obtain⟨-,k1,k2,-⟩:=h.rowLen ⟨.refl _⟩
 obtain⟨H1,l1,h,s1,-⟩:=h.fz0
 obtain⟨-,k3,k4,-⟩:=h.rowLen ⟨.refl _⟩
 obtain⟨H2,l2,h,s2,-⟩:=h.fz0
 obtain⟨H3,l3,h,s3⟩:=h.frzX
 refine⟨H3,(l1.trans l2).trans l3,h,⟨A,a,B,b,X.map xrow,by simp,s1.mono (l2.trans l3).le,s2.mono l3.le,We fun x hx=>⟨s3 x hx,hb x hx⟩⟩,by simp only;omega,by simp only[List.length_map];omega⟩
theorem Mem.short (h:Mem H w0 (rowR e sz A n cap ps::L) w) (hk:k≤n):Mem H w0 (rowR e sz A k cap (ps.take k)::L) w:=by
 obtain⟨B,⟨B1,B2,rfl,⟨h1,h2,h3⟩,h4⟩,hs',hb⟩:=h.own
 refine⟨⟨_,⟨B1,B2,rfl,⟨h1.take k,by rw[List.length_take];omega,?_⟩,h4⟩,hs',hb⟩,h.fz⟩
 rcases h3 with ⟨hA,hn,hc,hB⟩|⟨g,sp,hA,hB,h5,h6,h7⟩
 ·exact .inl ⟨hA,by omega,hc,hB⟩
 ·have e1:fls ps=fls (ps.take k)++fls (ps.drop k):=by rw[← Gp,List.take_append_drop]
  exact .inr ⟨g,fls (ps.drop k)++sp,hA,by rw[hB,e1,List.append_assoc],by rw[← List.append_assoc,← e1];exact h5,by omega,h7⟩
theorem Kw {H:Hp} (hf:Fz H w):H.le (Hp.of w):=fun b c h=>by
 obtain⟨t,fr,e⟩:=hf b c h
 simp[Hp.of,e]
end
theorem aAy:∀ {l:List Int} {lo hi:Int},l.Pairwise (·<·)→(∀ x∈l,lo≤x∧x<hi)→lo≤hi→(l.length:Int)≤hi - lo
 | [],lo,hi,_,_,h=>by simp;omega
 | x::r,lo,hi,hp,hb,h=>by
   obtain⟨h1,h2⟩:=List.pairwise_cons.1 hp
   have hx:=hb x (List.mem_cons_self ..)
   have:=aAy (lo:=lo+1) (hi:=hi) h2 (fun y hy=>by have:=h1 y hy;have:=hb y (List.mem_cons_of_mem _ hy);omega) (by omega)
   simp only[List.length_cons]
   omega
theorem Tr.Rt.loose {t:Tr} (h:t.Rt):∀ p∈t.ps,p.loose.length≤64∧p.loose.Pairwise (·<·):=by
 intro p hp
 obtain⟨i,hi,rfl⟩:=List.getElem_of_mem hp
 obtain⟨h1,h2⟩:=Kv (Mu h.par i hi).2
 have hl:=h.len
 have:=aAy (lo:=0) (hi:=t.size) h2 (fun x hx=>by have:=Ul (h1 x hx).1;omega) (by unfold Tr.size;omega)
 refine⟨?_,h2⟩
 unfold Tr.size at this
 omega
end Go.Proofs.YtgbenhmdamnmcaaGreat
namespace Go.Proofs.YtgbenhmdamnmcaaGreat
open Go.Proofs.Tryz
open Go.RowKit Go.Lib
section
variable {H:Hp} {w0 w:World} {L R:List Res} {A B C:Option Addr} {a b c n:Nat} {t:Tr} {qs ps:List (List Fd)}
theorem aTk {Q:Ending→World→Prop} (hs:Sl (Hp.of w) 97 A ps) (hn:n=ps.length) (hb:n≤100000) (hM:Mem H w0 L w)
  (hQ:∀ A' a' w',Ext w w'→Mem H w0 (rowR 118 97 A' n a' ps::L) w'→Q (.returned (.slice A' n a')) w'):Calls prog 141 #[.slice A n a] w Q:=by
 refine Gz ?_
 unfold Ee
 refine Mr (P:=prog) (t:=55) (R:=Q) hs hn hM ?_ hQ
 omega
theorem Mv (hs:Sl (Hp.of w) 97 A ps) (hn:n=ps.length) (hb:n≤100000) (hM:Mem H w0 L w):Calls prog 141 #[.slice A n a] w fun en w'=>∃ v,en=.returned v∧Ext w w'∧∃ A' a',v=.slice A' n a'∧Mem H w0 (rowR 118 97 A' n a' ps::L) w':=
 aTk hs hn hb hM fun A' a' w' hx hM=>⟨_,rfl,hx,_,_,rfl,hM⟩
theorem aTl {Q:Ending→World→Prop} (hs:Sl (Hp.of w) 66 A ps) (hn:n=ps.length) (hb:n≤100000) (hM:Mem H w0 L w)
  (hQ:∀ A' a' w',Ext w w'→Mem H w0 (rowR 222 66 A' n a' ps::L) w'→Q (.returned (.slice A' n a')) w'):Calls prog 142 #[.slice A n a] w Q:=by
 refine Fs ?_
 unfold Dk
 refine Mr (P:=prog) (t:=56) (R:=Q) hs hn hM ?_ hQ
 omega
theorem Mw (hs:Sl (Hp.of w) 66 A ps) (hn:n=ps.length) (hb:n≤100000) (hM:Mem H w0 L w):Calls prog 142 #[.slice A n a] w fun en w'=>∃ v,en=.returned v∧Ext w w'∧∃ A' a',v=.slice A' n a'∧Mem H w0 (rowR 222 66 A' n a' ps::L) w':=
 aTl hs hn hb hM fun A' a' w' hx hM=>⟨_,rfl,hx,_,_,rfl,hM⟩
theorem aTm {Q:Ending→World→Prop} (hs:Sl (Hp.of w) 1 A ps) (hn:n=ps.length) (hb:n≤100000) (hM:Mem H w0 L w)
  (hQ:∀ A' a' w',Ext w w'→Mem H w0 (rowR 3 1 A' n a' ps::L) w'→Q (.returned (.slice A' n a')) w'):Calls prog 143 #[.slice A n a] w Q:=by
 refine Nk ?_
 unfold Ha
 refine Mr (P:=prog) (t:=133) (R:=Q) hs hn hM ?_ hQ
 omega
theorem aPh (hs:Sl (Hp.of w) 1 A ps) (hn:n=ps.length) (hb:n≤100000) (hM:Mem H w0 L w):Calls prog 143 #[.slice A n a] w fun en w'=>∃ v,en=.returned v∧Ext w w'∧∃ A' a',v=.slice A' n a'∧Mem H w0 (rowR 3 1 A' n a' ps::L) w':=
 aTm hs hn hb hM fun A' a' w' hx hM=>⟨_,rfl,hx,_,_,rfl,hM⟩
theorem aTn (h1:Sl H 97 A (t.ls.map Lf.fds)) (h2:Sl H 66 B qs) (h3:All2 (PnF H) qs t.ps) (hl:t.ls.length≤1000) (hp:t.ps.length≤1000) (hlo:∀ p∈t.ps,p.loose.length≤1000) (hM:Mem H w0 L w):
  Calls prog 182 #[tv A t.ls.length a B t.ps.length b] w fun en w'=>∃ v,en=.returned v∧∃ A' a' B' b' X,v=tv A' t.ls.length a' B' t.ps.length b'∧X.map (·.1)=t.ps ∧
   Mem H w0 (rowR 118 97 A' t.ls.length a' (t.ls.map Lf.fds)::rowR 222 66 B' t.ps.length b' (X.map xrow)::allR X::L) w':=by
 have hq:qs.length=t.ps.length:=h3.len
 refine aEt ?_
 unfold Ty
 (((refine Bh hM ?_;clear hM;intro _ _ hM;refine Bf hM ?_;clear hM;intro _ _ hM)))
 rename_i g1 _ g2 _
 refine⟨fun v w'=>∃ g3 A' a' B' b',v=.pointer (some ⟨g3,0,none⟩)∧Mem H w0 (fb g3 58 (tfd A' t.ls.length a' B' t.ps.length b')::fb g2 58 (tfd none 0 0 none 0 0)::rowR 118 97 A' t.ls.length a' (t.ls.map Lf.fds)::rowR 222 66 B' t.ps.length b' qs::L) w',⟨?_,?_,?_⟩,?_⟩
 ·(((refine Ap trivial ?_;refine Ba hM ?_;refine Ap trivial ?_;refine Ba hM ?_)))
  refine Nd hM (fun w hM=>Mv (h1.mono (Kw hM.fz)) (by simp) (by omega) hM) ?_
  rintro v w' hx ⟨A',a',rfl,hM⟩
  skip
  refine La hM (fun w hM=>(Mw (h2.mono (Kw hM.fz)) hq.symm (by omega) hM).mono fun en w' ⟨v,h,_,k⟩=>⟨v,h,k⟩) ?_
  rintro v w' ⟨B',b',rfl,hM⟩
  (((refine Ap trivial ?_;refine Cd hM ?_;clear hM;intro _ _ hM;refine Ca hM ?_;clear hM;intro _ hM;refine Bc hM ?_;clear hM;intro _ hM)))
  exact⟨_,A',a',B',b',rfl,hM.sub⟩
 ·(((refine Ap trivial ?_;refine Ba hM ?_;refine Ap trivial ?_;refine Ba hM ?_)))
  refine Nd hM (fun w hM=>Mv (h1.mono (Kw hM.fz)) (by simp) (by omega) hM) ?_
  rintro v w' hx ⟨A',a',rfl,hM⟩
  (((refine Cd hM ?_;clear hM;intro _ _ hM)))
  refine La hM (fun w hM=>(Mw (h2.mono (Kw hM.fz)) hq.symm (by omega) hM).mono fun en w' ⟨v,h,_,k⟩=>⟨v,h,k⟩) ?_
  rintro v w' ⟨B',b',rfl,hM⟩
  (((refine Ap trivial ?_;refine Ca hM ?_;clear hM;intro _ hM;refine Bc hM ?_;clear hM;intro _ hM)))
  exact⟨_,A',a',B',b',rfl,hM.sub⟩
 ·(((refine Ap trivial ?_;refine Ba hM ?_;refine Ap trivial ?_;refine Ba hM ?_;refine Cd hM ?_;clear hM;intro _ _ hM)))
  refine Nd hM (fun w hM=>Mv (h1.mono (Kw hM.fz)) (by simp) (by omega) hM) ?_
  rintro v w' hx ⟨A',a',rfl,hM⟩
  skip
  refine La hM (fun w hM=>(Mw (h2.mono (Kw hM.fz)) hq.symm (by omega) hM).mono fun en w' ⟨v,h,_,k⟩=>⟨v,h,k⟩) ?_
  rintro v w' ⟨B',b',rfl,hM⟩
  (((refine Ap trivial ?_;refine Ca hM ?_;clear hM;intro _ hM;refine Bc hM ?_;clear hM;intro _ hM)))
  exact⟨_,A',a',B',b',rfl,hM.sub⟩
 clear hM
 rintro v u2 w2 ⟨g3,A',a',B',b',rfl,hM⟩
 (((refine Ab trivial ?_;refine An hM ?_;refine Ab trivial ?_)))
 have hM0:Mem H w0 (fb g3 58 (tfd A' t.ls.length a' B' t.ps.length b')::fb g2 58 (tfd none 0 0 none 0 0)::rowR 118 97 A' t.ls.length a' (t.ls.map Lf.fds)::rowR 222 66 B' t.ps.length b' qs::allR []::L) _:=hM.all0.same
 refine⟨fun v w'=>∃ (i:Nat) (X:List Xp),v=.int .i64 i∧i≤t.ps.length∧X.map (·.1)=t.ps.take i∧Mem H w0 (fb g3 58 (tfd A' t.ls.length a' B' t.ps.length b')::fb g2 58 (tfd none 0 0 none 0 0)::rowR 118 97 A' t.ls.length a' (t.ls.map Lf.fds)::rowR 222 66 B' t.ps.length b' (X.map xrow++qs.drop i)::allR X::L) w',fun v _=>match v with | .int _ k=>t.ps.length - k.toNat|_=>0,⟨0,[],rfl,by omega,rfl,hM0⟩,?_⟩
 clear hM hM0
 rintro v u3 w3 ⟨i,X,rfl,hi,hX,hM⟩
 have hXl:X.length=i:=by
  have:=congrArg List.length hX
  simp at this
  omega
 (((refine Aw trivial ?_ ?_)))
 ·intro hlt
  have hlt':i<t.ps.length:=by omega
  obtain⟨q,hq1,C,c,rfl,hC,hcl⟩:=h3.at_ (i:=i) hlt'
  obtain⟨p,hpe⟩:∃ p,t.ps[i]=p:=⟨_,rfl⟩
  have hpl:=hlo p (hpe ▸ List.getElem_mem _)
  rw[hpe]at hq1 hC
  have hrow:(X.map xrow++qs.drop i)[(i:Int).toNat]?=some (p.row C c):=by
   rw[Int.toNat_natCast,List.getElem?_append_right (by simp;omega)]
   simp[hXl,hq1]
  (((refine Am ?_;refine Ap trivial ?_;refine Ba hM ?_;refine Ap trivial ?_;refine Ba hM ?_;refine Cj hM ?_ ?_));(focus omega);((intro _ hA));(cases hA);((refine Ap trivial ?_)))
  refine aQy hM hrow ?_
  refine Nd hM (fun w hM=>aPh (hC.mono (Kw hM.fz)) (by simp) (by omega) hM) ?_
  rintro v w' hx ⟨C',c',rfl,hM⟩
  (((refine Cj hM ?_ ?_));(focus omega);((intro _ hA));(cases hA);((refine Ap trivial ?_)))
  refine aKd hM hrow (fun w' hM=>?_)
  (((refine Bc hM ?_;clear hM;intro _ hM;refine Ab ?_ ?_));(focus omega))
  rename_i g5 _ _ _ _
  have hset:(X.map xrow++qs.drop i).set (i:Int).toNat (p.row C' c')=(X++[(p,C',c')]).map xrow++qs.drop (i+1):=by
   rw[Int.toNat_natCast,List.set_append_right _ _ (by simp;omega)]
   simp only[List.length_map,hXl,Nat.sub_self,List.map_append,List.append_assoc]
   rw[List.drop_eq_getElem_cons (by omega)]
   rfl
  have hM2:Mem H w0 (rowR 222 66 (some ⟨g5,0,none⟩) t.ps.length b' ((X++[(p,C',c')]).map xrow++qs.drop (i+1))::_) _:=hset ▸ hM
  have hM:Mem H w0 (allR X::xres (p,C',c')::fb g3 58 (tfd A' t.ls.length a' (some ⟨g5,0,none⟩) t.ps.length b')::fb g2 58 (tfd none 0 0 none 0 0)::rowR 118 97 A' t.ls.length a' (t.ls.map Lf.fds)::rowR 222 66 (some ⟨g5,0,none⟩) t.ps.length b' ((X++[(p,C',c')]).map xrow++qs.drop (i+1))::L) _:=hM2.sub
  refine⟨⟨i+1,X++[(p,C',c')],rfl,by omega,?_,hM.addk.same⟩,by simp only;omega⟩
  rw[List.map_append,hX,List.take_succ_eq_append_getElem hlt',hpe]
  rfl
 ·intro hge
  obtain rfl:i=t.ps.length:=by omega
  rw[List.take_length]at hX
  rw[List.drop_eq_nil_of_le (by omega),List.append_nil]at hM
  (((refine Aj ?_;refine An hM ?_;refine Az hM ?_;clear hM;intro _ hM;refine Bz hM ?_)))
  exact⟨_,rfl,_,_,_,_,_,rfl,hX,hM.sub⟩
theorem aWs (p:Int) (h1:Sl H 97 A (t.ls.map Lf.fds)) (hl:t.ls.length≤maxLen) (hf:Fz H w):Calls prog 181 #[tv A t.ls.length a B n b,.int .i64 p] w fun en w'=>en=.returned (.bool (decide (t.nobody p)))∧St w [] w':=by
 have hM:=Mem.start hf
 have hl':t.ls.length≤9223372036854775807:=hl
 refine aHe ?_
 unfold Xh
 (((refine Bh hM ?_;clear hM;intro _ _ hM)))
 (((refine Aw trivial ?_ ?_)))
 ·intro h
  ((((iterate 5 refine Av ?_);refine Ab trivial ?_;(iterate 7 refine Av ?_);refine Ab trivial ?_)))
  exact⟨by rw[decide_eq_true (show t.nobody p from .inl (.inl h))],hM.st⟩
 ·intro h
  (((refine Ae ?_;refine Ab trivial ?_;refine Ae ?_;refine Ab trivial ?_;refine Ae ?_;refine An hM ?_;refine Ae ?_;refine Ab trivial ?_;refine Ae ?_)))
  (((refine Aw trivial ?_ ?_)))
  ·intro h2
   (((refine Ab trivial ?_;(iterate 7 refine Av ?_);refine Ab trivial ?_)))
   exact⟨by rw[decide_eq_true (show t.nobody p from .inl (.inr h2))],hM.st⟩
  ·intro h2
   have h3:p.toNat<t.ls.length:=by omega
   have h4:=Qe (ls:=t.ls) (p:=p) (by omega) h3
   (((refine Ab trivial ?_;refine Ae ?_;refine Ab trivial ?_;refine Ae ?_;refine An hM ?_;refine Ae ?_;refine Ab trivial ?_;refine Ae ?_));(refine Ci ‹_› ?_ ?_ ?_);(focus (simp only[List.length_map];omega));(focus (simp only[List.length_map];first|done|omega));((intro _ _ hA));(cases hA);((refine Ae ?_;refine Ab trivial ?_;refine Ae ?_));(refine Ip hM ‹_› (Ct ?_) ?_);(focus omega);((refine Ae ?_)))
   rw[← h4]
   (((refine Aw trivial ?_ ?_)))
   ·intro h5
    (((refine Ab trivial ?_)))
    exact⟨by rw[decide_eq_true (show t.nobody p from .inr h5)],hM.st⟩
   ·intro h5
    (((refine Ab trivial ?_)))
    exact⟨by rw[decide_eq_false (show ¬t.nobody p from fun k=>k.elim (fun k=>k.elim h h2) h5)],hM.st⟩
theorem Um (h1:Sl H 97 A (t.ls.map Lf.fds)) (h2:Sl H 66 B qs) (h3:All2 (PnF H) qs t.ps) (hl:t.ls.length≤maxLen) (hp:t.ps.length≤maxLen) (hf:Fz H w):
  Calls prog 123 #[tv A t.ls.length a B t.ps.length b] w fun en w'=>en=.returned (if t.right=true then tv A t.ls.length a B t.ps.length b else tv none 0 0 none 0 0)∧St w [] w':=by
 have hM:=Mem.start hf
 refine aEk ?_
 unfold Tn
 (((refine Bh hM ?_;clear hM;intro _ _ hM;refine Bf hM ?_;clear hM;intro _ _ hM;refine An hM ?_)))
 refine Bn hM (Ei h1 h2 h3 hl hp hM.fz) (fun w hM=>?_)
 cases hr:t.right
 ·(((refine Aj ?_;refine Ab trivial ?_;refine Az hM ?_;clear hM;intro _ hM;refine Bz hM ?_)))
  exact⟨rfl,hM.st⟩
 ·(((refine Am ?_;refine An hM ?_;refine Az hM ?_;clear hM;intro _ hM;refine Bz hM ?_)))
  exact⟨rfl,hM.st⟩
theorem aPi (g:Nat) (x:Int) (y:Lf) (hM:Mem H w0 (fb g 3 [.one (.int .i64 x)]::R) w):
  Calls prog 148 #[lv y,.pointer (some ⟨g,0,none⟩)] w fun e w'=>∃ v,e=.returned v∧v=.bool (decide (y.name=x))∧Mem H w0 (fb g 3 [.one (.int .i64 x)]::R) w':=by
 refine aAa ?_
 unfold Oy
 (((refine Bh hM ?_;clear hM;intro _ _ hM;refine Ab trivial ?_;refine An hM ?_;refine An hM ?_)))
 (((refine Aw trivial ?_ ?_)))
 all_goals
  intro hi
  skip
  exact⟨_,rfl,by simp[hi],hM.drop⟩
theorem aDk (g:Nat) (x:Int):Clo prog H w0 (fb g 3 [.one (.int .i64 x)]) (.func (.func 148) #[] #[.pointer (some ⟨g,0,none⟩)]) lv (fun y:Lf=>decide (y.name=x)):=fun y R w K X hM hk=>
 En (aPi g x y hM) (by rintro e w' ⟨v,rfl,rfl,h⟩;exact hk w' h)
theorem aTo {r:Res} {cl:Value} {f:Lf→Bool} (ls:List Lf) (hl:ls.length<1000000) (hc:Clo prog H w0 r cl lv f) (hs:Sl H 97 A (ls.map Lf.fds)) (hM:Mem H w0 (r::R) w):
  Calls prog 147 #[.slice A ls.length a,cl] w fun en w'=>∃ v,en=.returned v∧v=.int .i64 (fix f ls)∧Mem H w0 (r::R) w':=by
 refine Ft ?_
 unfold Dl
 (((refine Ab trivial ?_)))
 refine⟨fun v w'=>∃ i:Nat,v=.int .i64 i∧i≤ls.length∧(∀ j (hj:j<ls.length),j<i→f ls[j]=false)∧Mem H w0 (r::R) w',fun v _=>match v with | .int _ k=>ls.length - k.toNat|_=>0,⟨0,rfl,by omega,fun j _ h=>by omega,hM⟩,?_⟩
 rintro v u w3 ⟨i,rfl,hi,hlo,hM⟩
 (((refine Aw trivial ?_ ?_)))
 ·intro hlt
  have hlt':i<ls.length:=by omega
  (((refine Am ?_));(refine Ci ‹_› ?_ ?_ ?_);(focus (simp only[List.length_map];omega));(focus (simp only[List.length_map];first|done|omega));((intro _ _ hA));(cases hA);(refine Cb hM ‹_› (By ?_) ?_);(focus omega))
  refine hc _ _ _ _ _ hM (fun w hM=>?_)
  cases hfi:f ls[i]
  ·(((refine Aj ?_;refine Ab ?_ ?_));(focus omega))
   refine⟨⟨i+1,rfl,by omega,fun j hj hji=>?_,hM⟩,by simp only;omega⟩
   rcases Nat.lt_or_ge j i with h2|h2
   ·exact hlo j hj h2
   ·obtain rfl:j=i:=by omega
    exact hfi
  ·(((refine Am ?_)))
   exact⟨_,rfl,by rw[aZy hlt' hlo hfi],hM⟩
 ·intro hge
  (((refine Aj ?_)))
  exact⟨_,rfl,by rw[aTi fun j hj=>hlo j hj (by omega)],hM⟩
theorem aHy (x:Int) (h1:Sl H 97 A (t.ls.map Lf.fds)) (h2:Sl H 66 B qs) (h3:All2 (PnF H) qs t.ps) (hl:t.ls.length≤maxLen) (hp:t.ps.length≤maxLen) (hf:Fz H w):
  Calls prog 76 #[tv A t.ls.length a B t.ps.length b,.int .i64 x] w fun en w'=>en=.returned (.int .i64 (t.sound.place x))∧St w [] w':=by
 have hM:=Mem.start hf
 refine aEh ?_
 unfold Tg
 (((refine Bh hM ?_;clear hM;intro _ _ hM;refine Bh hM ?_;clear hM;intro _ _ hM;refine An hM ?_)))
 rename_i g1 _ g2 _
 (((refine Aw trivial ?_ ?_)))
 ·intro h
  (((refine Am ?_)))
  exact⟨by rw[show t.sound.place x = -1 from if_pos h],hM.st⟩
 ·intro h
  (((refine Aj ?_;refine An hM ?_)))
  have hpl:t.sound.place x=fix (fun l=>decide (l.name=x)) t.sound.ls:=if_neg h
  rw[hpl]
  refine Bn hM (Um h1 h2 h3 hl hp hM.fz) (fun w hM=>?_)
  have hM:=hM.at_ (fb g2 3 [.one (.int .i64 x)])
  unfold Tr.sound
  cases hr:t.right
  ·rw[if_neg (by simp),if_neg (by simp)]
   (((refine Ab trivial ?_;refine Ab trivial ?_)))
   refine Bi (aTo (A:=none) [] (by simp) (aDk g2 x) (Sl.nil _ _ _) hM) ?_
   rintro v w' ⟨rfl,hM⟩
   exact⟨rfl,hM.st⟩
  ·rw[if_pos rfl,if_pos rfl]
   (((refine Ab trivial ?_;refine Ab trivial ?_)))
   have:=(Tr.rt.1 hr).len
   refine Bi (aTo t.ls (by omega) (aDk g2 x) h1 hM) ?_
   rintro v w' ⟨rfl,hM⟩
   exact⟨rfl,hM.st⟩
end
end Go.Proofs.YtgbenhmdamnmcaaGreat
namespace Go.Proofs.YtgbenhmdamnmcaaGreat
open Go.Proofs.Tryz
open Go.RowKit Go.Lib
theorem aAz (H:Hp):TrF H (tv none 0 0 none 0 0) Tr.none:=⟨⟨none,0,none,0,[],rfl,Sl.nil _ _ _,Sl.nil _ _ _,trivial⟩,by simp[Tr.none,maxLen]⟩
end Go.Proofs.YtgbenhmdamnmcaaGreat
namespace Go.Proofs.YtgbenhmdamnmcaaGreat
open Go.Proofs.Tryz
open Go.RowKit Go.Lib
theorem Tr.body {t:Tr} {p:Int} (h:¬t.nobody p):0≤p∧p.toNat<t.ls.length∧p<t.ls.length:=by
 unfold Tr.nobody Tr.size at h
 omega
end Go.Proofs.YtgbenhmdamnmcaaGreat
namespace Go.Proofs.YtgbenhmdamnmcaaGreat
open Go.Proofs.Tryz
open Go.RowKit Go.Lib
end Go.Proofs.YtgbenhmdamnmcaaGreat
namespace Go.Proofs.YtgbenhmdamnmcaaGreat
open Go.Proofs.Tryz
open Go.RowKit Go.Lib
theorem Mem.join {H H':Hp} {w0 w w':World} {L L':List Res} (h:Mem H w0 L w) (hc:Mem H' w L' w') (hn:∀ b,b<w.heap.size→H b=none→H' b=none):Mem H' w0 (L'++L) w':=by
 obtain⟨B,hl,hs,hb⟩:=h.own
 obtain⟨B1,hl1,hs1,hb1⟩:=hc.own
 refine⟨⟨B1++B,Hl.app.2 ⟨B1,B,rfl,hl1,hl⟩,?_,fun b hm=>?_⟩,hc.fz⟩
 ·exact St.call (A:=[]) (B':=B1) hs hs1 rfl rfl rfl (fun b hm=>.inl (hb1 b hm).1) (fun b hm hn=>.inr ⟨b,hm,hn,rfl⟩) (fun _ hm=>by cases hm)
 ·rcases List.mem_append.1 hm with hm|hm
  ·exact hb1 b hm
  ·exact⟨(hb b hm).1,hn _ (hs.own b hm).lt (hb b hm).2⟩
end Go.Proofs.YtgbenhmdamnmcaaGreat
namespace Go.Proofs.YtgbenhmdamnmcaaGreat
open Go.Proofs.Tryz
open Go.RowKit Go.Lib
theorem Mem.weak {H H':Hp} {w0 w:World} {L:List Res} (h:Mem H' w0 L w) (hl:H.le H'):Mem H w0 L w:=by
 obtain⟨B,h1,h2,h3⟩:=h.own
 refine⟨⟨B,h1,h2,fun b hm=>⟨(h3 b hm).1,?_⟩⟩,h.fz.mono hl⟩
 cases hh:H b.g with
 | none=>rfl
 | some c=>
   have:=hl _ _ hh
   rw[(h3 b hm).2]at this
   cases this
end Go.Proofs.YtgbenhmdamnmcaaGreat
namespace Go.Proofs.YtgbenhmdamnmcaaGreat
open Go.Proofs.Tryz
open Go.RowKit Go.Lib
end Go.Proofs.YtgbenhmdamnmcaaGreat
namespace Go.Proofs.YtgbenhmdamnmcaaGreat
open Go.Proofs.Tryz
open Go.RowKit Go.Lib
section
variable {H:Hp} {w0 w:World} {L R:List Res} {v:Value} {t:Tr}
theorem aFr (h:TrF H v t) (hf:Fz H w):Calls prog 127 #[v] w fun en w'=>en=.returned (.bool t.right)∧St w [] w':=by
 obtain⟨A,a,B,b,q,rfl,h1,h2,h3⟩:=h.ex
 exact Ei h1 h2 h3 h.len.1 h.len.2 hf
end
end Go.Proofs.YtgbenhmdamnmcaaGreat
namespace Go.Proofs.YtgbenhmdamnmcaaGreat
open Go.Proofs.Tryz
open Go.RowKit Go.Lib
abbrev leafN (x:Int):Lf:=⟨x,hzero,hzero,hzero⟩
def aw1:Tr:=((Tr.none).addP (leafN 5)).1
def aw2:Tr:=(aw1.addP (leafN 2)).1
def aw3:Tr:=(aw2.addP (leafN 9)).1
def aw4:Tr:=(aw3.remP 1).1
def aw5:Tr:=(aw4.addP (leafN 7)).1
def aw6:Tr:=(aw5.remP 2).1
def aw:Nat→Tr
 | 0=>Tr.none
 | 1=>aw1
 | 2=>aw2
 | 3=>aw3
 | 4=>aw4
 | 5=>aw5
 | _=>aw6
end Go.Proofs.YtgbenhmdamnmcaaGreat
namespace Go.Proofs.YtgbenhmdamnmcaaGreat
open Go.Proofs.Tryz
open Go.RowKit
set_option maxRecDepth 100000 in
theorem aZz:∀ n:Fin 65,∀ x:Fin 127,thr (n.val:Int) (x.val:Int)→x.val%2=1 →
  (thr (n.val:Int) (lf n.val x.val)∧thr (n.val:Int) (rt n.val x.val))∧(level (lf n.val x.val)<level x.val∧level (rt n.val x.val)<level x.val)∧(fro n.val (lf n.val x.val)=fro n.val x.val∧til n.val (lf n.val x.val)=fro n.val (rt n.val x.val)∧til n.val (rt n.val x.val)=til n.val x.val) ∧
  (bs n.val (lf n.val x.val)=rt n.val x.val∧bs n.val (rt n.val x.val)=lf n.val x.val):=by decide +kernel
set_option maxRecDepth 100000 in
theorem aPj:∀ n:Fin 65,∀ x:Fin 127,thr (n.val:Int) (x.val:Int)→0≤ab n.val x.val→ab n.val x.val%2=1∧((x.val:Int)=lf n.val (ab n.val x.val)∨(x.val:Int)=rt n.val (ab n.val x.val)):=by decide +kernel
set_option maxRecDepth 100000 in
theorem aTp:∀ n:Fin 65,∀ x:Fin 127,thr (n.val:Int) (x.val:Int)→x.val%2=0→level x.val=0∧fro n.val x.val=x.val / 2∧til n.val x.val=x.val / 2+1:=by decide +kernel
theorem aBa {n x:Int} (h:thr n x) (ho:x%2=1):(thr n (lf n x)∧thr n (rt n x))∧(level (lf n x)<level x∧level (rt n x)<level x)∧(fro n (lf n x)=fro n x∧til n (lf n x)=fro n (rt n x)∧til n (rt n x)=til n x)∧(bs n (lf n x)=rt n x∧bs n (rt n x)=lf n x):=by
 obtain⟨h1,h2,h3⟩:=id h
 have:=aZz ⟨n.toNat,by omega⟩ ⟨x.toNat,by omega⟩
 simp only[Int.toNat_of_nonneg h2,Int.toNat_of_nonneg (show 0≤n by omega)]at this
 exact this h (by omega)
theorem bBp {n x:Int} (h:thr n x) (ha:0≤ab n x):ab n x%2=1∧(x=lf n (ab n x)∨x=rt n (ab n x)):=by
 obtain⟨h1,h2,h3⟩:=id h
 have:=aPj ⟨n.toNat,by omega⟩ ⟨x.toNat,by omega⟩
 simp only[Int.toNat_of_nonneg h2,Int.toNat_of_nonneg (show 0≤n by omega)]at this
 exact this h ha
theorem aWt {n x:Int} (h:thr n x) (he:x%2=0):level x=0∧fro n x=x / 2∧til n x=x / 2+1:=by
 obtain⟨h1,h2,h3⟩:=id h
 have:=aTp ⟨n.toNat,by omega⟩ ⟨x.toNat,by omega⟩
 simp only[Int.toNat_of_nonneg h2,Int.toNat_of_nonneg (show 0≤n by omega)]at this
 exact this h (by omega)
end Go.Proofs.YtgbenhmdamnmcaaGreat
namespace Go.Proofs.YtgbenhmdamnmcaaGreat
open Go.Proofs.Tryz
open Go.RowKit Go.Lib
def shaH (l:List Int):H32:=⟨shaSum l,Dg l,He l⟩
theorem Iu (h:H32):ints (strOfNums h.1)=h.1:=Ce _ h.2.2
theorem cat2 (a b:ByteArray):cat [a,b]=ints a++ints b:=by simp[cat]
theorem cat1 (a:ByteArray):cat [a]=ints a:=by simp[cat]
abbrev sleaf:List Int:=[108,101,97,102]
abbrev snode:List Int:=[110,111,100,101]
abbrev snone:List Int:=[110,111,110,101]
def leafB (l:Lf):List Int:=if 0<l.name then [1]++numB l.name++l.pub.1++l.ver.1++l.abv.1 else [0]
def parentB (p:Pn):List Int:=if p.set=true then [1]++p.pub.1++p.abv.1++numB p.loose.length++p.loose.flatMap numB else [0]
def leafAt (t:Tr) (i:Int):Lf:=t.ls.getD i.toNat Lf.zero
def parAt (t:Tr) (i:Int):Pn:=t.ps.getD i.toNat Pn.zero
def hAt:Nat→Tr→Int→H32
 | 0,t,x=>shaH (sleaf++leafB (leafAt t (x / 2)))
 | f+1,t,x=>if x%2=0 then shaH (sleaf++leafB (leafAt t (x / 2))) else shaH (snode++(parentB (parAt t (x / 2))++(hAt f t (lf t.size x)).1++(hAt f t (rt t.size x)).1))
theorem aTq {f:Nat} {t:Tr} {x:Int} (h:x%2=0):hAt f t x=shaH (sleaf++leafB (leafAt t (x / 2))):=by
 cases f with
 | zero=>rfl
 | succ f=>rw[hAt,if_pos h]
def hRoot (t:Tr):H32:=if t.ls=[] then shaH snone else hAt 8 t (root t.size)
structure Tr.Gd (t:Tr):Prop where
 len:1≤t.ls.length∧t.ls.length≤64∧t.ps.length+1=t.ls.length
 nm:∀ l∈t.ls,0≤l.name∧l.name≤64
 lo:∀ p∈t.ps,p.loose.length≤64∧∀ q∈p.loose,0≤q∧q≤64
theorem Tr.Rt.gd {t:Tr} (h:t.Rt) (hn:t.ls≠[]):t.Gd:=by
 have hl:=h.len
 have h0:0<t.ls.length:=List.length_pos_iff.2 hn
 refine⟨by omega,fun l hm=>?_,fun p hp=>⟨(h.loose p hp).1,fun q hq=>?_⟩⟩
 ·rcases Nq h.leaves l hm with rfl|h
  ·simp[Lf.zero]
  ·omega
 ·obtain⟨i,hi,rfl⟩:=List.getElem_of_mem hp
  have:=Ul ((Kv (Mu h.par i hi).2).1 q hq).1
  unfold Tr.size at this
  omega
theorem aMr {f:Int→List Int} {l:List Int} {k:Nat} (h:∀ x∈l,(f x).length≤k):(l.flatMap f).length≤l.length*k:=by
 induction l with
 | nil=>simp
 | cons x r ih=>
   have h1:=h x (List.mem_cons_self ..)
   have h2:=ih fun y hy=>h y (List.mem_cons_of_mem _ hy)
   simp only[List.flatMap_cons,List.length_append,List.length_cons,Nat.succ_mul]
   omega
theorem Qg (l:Lf):(leafB l).length≤105:=by
 have:=Be l.name
 unfold leafB
 split
 ·simp[l.pub.2.1,l.ver.2.1,l.abv.2.1]
  omega
 ·simp
theorem Xn {p:Pn} (h:p.loose.length≤64):(parentB p).length≤600:=by
 have:=Be p.loose.length
 have h2:=aMr (f:=numB) (l:=p.loose) (k:=8) fun x _=>(Be x).1
 unfold parentB
 split
 ·simp only[List.length_append,p.pub.2.1,p.abv.2.1,List.length_singleton]
  omega
 ·simp
end Go.Proofs.YtgbenhmdamnmcaaGreat
namespace Go.Proofs.YtgbenhmdamnmcaaGreat
open Go.Proofs.Tryz
open Go.RowKit Go.Lib
abbrev bleaf:ByteArray:=ByteArray.mk #[108,101,97,102]
abbrev bnode:ByteArray:=ByteArray.mk #[110,111,100,101]
abbrev bnone:ByteArray:=ByteArray.mk #[110,111,110,101]
section
variable {H:Hp} {w0 w:World} {L R:List Res} {g:Nat} {out:List Int} {bad:Bool} {A B:Option Addr} {a b:Nat} {t:Tr} {qs:List (List Fd)}
theorem Gb {A:Option Addr} {e:Nat} (a b:ByteArray) (hs:a.size+b.size<1000000000000) (hM:Mem H w0 L w) [k:AtA L A 2 2 e 1 [[.one (.string a)],[.one (.string b)]] R]:
  Calls prog 34 #[.slice A 2 2] w fun en w'=>en=.returned (.agg (u8s (shaH (ints a++ints b)).1).toArray)∧St w [] w':=by
 have h:=Ph A [a,b] 2 w (hM.rd k) (by simp) (by rw[cat2,List.length_append,Bq,Bq];omega)
 rw[cat2]at h
 exact h
theorem aWu {A:Option Addr} {e:Nat} (a:ByteArray) (hs:a.size<1000000000000) (hM:Mem H w0 L w) [k:AtA L A 1 1 e 1 [[.one (.string a)]] R]:
  Calls prog 34 #[.slice A 1 1] w fun en w'=>en=.returned (.agg (u8s (shaH (ints a)).1).toArray)∧St w [] w':=by
 have h:=Ph A [a] 1 w (hM.rd k) (by simp) (by rw[cat1,Bq];omega)
 rw[cat1]at h
 exact h
theorem aBb (b:Bool) (hb:out.length<1000000000) (hM:Mem H w0 (wrR g out bad::L) w):Calls prog 199 #[.pointer (some ⟨g,0,none⟩),.bool b] w fun en w'=>∃ v,en=.returned v∧v=.tuple #[]∧Mem H w0 (wrR g (out++[if b=true then 1 else 0]) bad::L) w':=by
 refine Ry ?_
 unfold Jt
 obtain⟨A,c,hM⟩:=hM.wr
 cases b
 ·(((refine Ab trivial ?_;refine Aj ?_;refine Aj ?_;refine Ab trivial ?_;refine Ab trivial ?_;refine An hM ?_;refine Bx hM ?_ ?_ ?_));(focus rfl);(focus (constructor <;> simp));((clear hM;intro _ _ hM;refine Co hM ?_ ?_));(focus omega);((clear hM;intro _ _ _ hM;refine Ab trivial ?_;refine Ab trivial ?_;refine Az hM ?_;clear hM;intro _ hM)))
  rename_i A' c' _ _
  have e:byts out++[[.one (.int .u8 0)]]=byts (out++[0]):=by rw[Ol];rfl
  rw[e]at hM
  have hM:Mem H w0 (fb g 177 [.one (.slice A' (out.length+1) c'),.one (.bool bad)]::rowR 5 1 A' (out.length+1) c' (byts (out++[0]))::L) _:=hM.sub
  exact⟨_,rfl,rfl,Mem.unwr hM (by simp)⟩
 ·(((refine Ab trivial ?_;refine Aj ?_;refine Am ?_;refine Ab trivial ?_;refine Ab trivial ?_;refine An hM ?_;refine Bx hM ?_ ?_ ?_));(focus rfl);(focus (constructor <;> simp));((clear hM;intro _ _ hM;refine Co hM ?_ ?_));(focus omega);((clear hM;intro _ _ _ hM;refine Ab trivial ?_;refine Ab trivial ?_;refine Az hM ?_;clear hM;intro _ hM)))
  rename_i A' c' _ _
  have e:byts out++[[.one (.int .u8 1)]]=byts (out++[1]):=by rw[Ol];rfl
  rw[e]at hM
  have hM:Mem H w0 (fb g 177 [.one (.slice A' (out.length+1) c'),.one (.bool bad)]::rowR 5 1 A' (out.length+1) c' (byts (out++[1]))::L) _:=hM.sub
  exact⟨_,rfl,rfl,Mem.unwr hM (by simp)⟩
theorem Un (l:Lf) (hn:0≤l.name∧l.name≤64) (hb:out.length<1000000) (hM:Mem H w0 (wrR g out false::L) w):Calls prog 160 #[.pointer (some ⟨g,0,none⟩),lv l] w fun en w'=>∃ v,en=.returned v∧v=.tuple #[]∧Mem H w0 (wrR g (out++leafB l) false::L) w':=by
 refine Vp ?_
 unfold Mk
 have hnl:=Be l.name
 (((refine Bh hM ?_;clear hM;intro _ _ hM;refine Ab trivial ?_;refine An hM ?_)))
 (((refine Aw trivial ?_ ?_)))
 ·intro h
  skip
  refine Bi (aBb true (by omega) (hM.at_ (wrR g out false))) ?_
  rintro v w2 ⟨rfl,hM⟩
  (((refine Ab trivial ?_;refine An hM ?_;refine Bt trivial ?_ ?_));(focus (first|assumption|omega|with_reducible rfl|exact fun h=>Bool.noConfusion h));((refine Am ?_;refine Ab trivial ?_;refine An hM ?_)))
  refine Bi (Da l.name (by omega) (by simp;omega) hM) ?_
  rintro v w2 ⟨rfl,hM⟩
  (((refine Ab trivial ?_;refine An hM ?_)))
  refine Bi (Dd l.pub (by simp;omega) hM) ?_
  rintro v w2 ⟨rfl,hM⟩
  (((refine Ab trivial ?_;refine An hM ?_)))
  refine Bi (Dd l.ver (by simp[l.pub.2.1];omega) hM) ?_
  rintro v w2 ⟨rfl,hM⟩
  (((refine Ab trivial ?_;refine An hM ?_)))
  refine Bi (Dd l.abv (by simp[l.pub.2.1,l.ver.2.1];omega) hM) ?_
  rintro v w2 ⟨rfl,hM⟩
  skip
  have e:out++[if true=true then 1 else 0]++numB l.name++l.pub.1++l.ver.1++l.abv.1=out++leafB l:=by
   unfold leafB
   rw[if_pos (show 0<l.name by omega)]
   simp
  rw[e]at hM
  exact⟨_,rfl,rfl,hM.sub⟩
 ·intro h
  skip
  refine Bi (aBb false (by omega) (hM.at_ (wrR g out false))) ?_
  rintro v w2 ⟨rfl,hM⟩
  (((refine Ab trivial ?_;refine An hM ?_;refine Bm trivial ?_ ?_));(focus (first|assumption|omega|with_reducible rfl|exact fun h=>Bool.noConfusion h));((refine Aj ?_)))
  have e:out++[if false=true then 1 else 0]=out++leafB l:=by
   unfold leafB
   rw[if_neg (show ¬0<l.name by omega)]
   rfl
  rw[e]at hM
  exact⟨_,rfl,rfl,hM.sub⟩
theorem Po (p:Pn) {C:Option Addr} {c:Nat} (hs:Sl H 1 C (ints8 p.loose)) (hp:p.loose.length≤64∧∀ q∈p.loose,0≤q∧q≤64) (hb:out.length<1000000) (hM:Mem H w0 (wrR g out false::L) w):Calls prog 161 #[.pointer (some ⟨g,0,none⟩),.agg (fl (p.row C c)).toArray] w fun en w'=>∃ v,en=.returned v∧v=.tuple #[]∧Mem H w0 (wrR g (out++parentB p) false::L) w':=by
 refine Rx ?_
 unfold Js
 (((refine Bh hM ?_;clear hM;intro _ _ hM;refine Ab trivial ?_;refine An hM ?_)))
 rename_i g1 _
 refine Bi (aBb p.set (by omega) (hM.at_ (wrR g out false))) ?_
 rintro v w2 ⟨rfl,hM⟩
 (((refine Ab trivial ?_;refine An hM ?_)))
 rcases Bool.eq_false_or_eq_true p.set with hset|hset
 ·have e:parentB p=[1]++p.pub.1++p.abv.1++numB p.loose.length++p.loose.flatMap numB:=if_pos hset
  rw[hset]at hM ⊢
  (((refine Am ?_;refine Ab trivial ?_;refine An hM ?_)))
  refine Bi (Dd p.pub (by simp;omega) (hM.at_ (wrR g (out++[if true=true then 1 else 0]) false))) ?_
  rintro v w2 ⟨rfl,hM⟩
  (((refine Ab trivial ?_;refine An hM ?_)))
  refine Bi (Dd p.abv (by simp[p.pub.2.1];omega) hM) ?_
  rintro v w2 ⟨rfl,hM⟩
  (((refine Ab trivial ?_;refine An hM ?_;refine Ab trivial ?_)))
  refine Bi (Da p.loose.length (by omega) (by simp[p.pub.2.1,p.abv.2.1];omega) hM) ?_
  rintro v w2 ⟨rfl,hM⟩
  have hnl:=Be p.loose.length
  generalize hbase:out++[if true=true then 1 else 0]++p.pub.1++p.abv.1++numB p.loose.length=base at hM
  have hbl:base.length≤out.length+73:=by rw[← hbase];simp[p.pub.2.1,p.abv.2.1];omega
  (((refine Ab trivial ?_;refine An hM ?_;refine Ab trivial ?_)))
  refine⟨fun v w'=>∃ k:Nat,v=.int .i64 k∧k≤p.loose.length∧Mem H w0 (wrR g (base++(p.loose.take k).flatMap numB) false::fb g1 222 (p.row C c)::L) w',fun v _=>match v with | .int _ k=>p.loose.length - k.toNat|_=>0,⟨0,rfl,by omega,by simpa using hM⟩,?_⟩
  clear hM
  rintro v u w3 ⟨k,rfl,hk,hM⟩
  (((refine Aw trivial ?_ ?_)))
  ·intro hlt
   have hlt':k<p.loose.length:=by omega
   have e1:=aAt (l:=p.loose) (i:=k) hlt'
   have hq:=hp.2 _ (List.getElem_mem hlt')
   have hfl:=aMr (f:=numB) (l:=p.loose.take k) (k:=8) fun x _=>(Be x).1
   rw[List.length_take]at hfl
   (((refine Am ?_));(refine Ci ‹_› ?_ ?_ ?_);(focus (simp only[List.length_map];omega));(focus (simp only[List.length_map];first|done|omega));((intro _ _ hA));(cases hA);(refine Cb hM ‹_› (By ?_) ?_);(focus omega))
   refine Bi (Da (out:=base++(p.loose.take k).flatMap numB) p.loose[k] (by omega) (by rw[List.length_append];omega) hM) ?_
   rintro v w4 ⟨rfl,hM⟩
   (((refine Ab ?_ ?_));(focus omega))
   refine⟨⟨k+1,rfl,by omega,?_⟩,by simp only;omega⟩
   rw[List.take_succ_eq_append_getElem hlt',List.flatMap_append,← List.append_assoc]
   simpa using hM
  ·intro hge
   obtain rfl:k=p.loose.length:=by omega
   rw[List.take_length]at hM
   (((refine Aj ?_)))
   have e2:base++p.loose.flatMap numB=out++parentB p:=by
    rw[e,← hbase]
    simp
   rw[e2]at hM
   exact⟨_,rfl,rfl,hM.sub⟩
 ·have e:parentB p=[0]:=if_neg (by rw[hset];simp)
  rw[hset]at hM ⊢
  (((refine Aj ?_)))
  have e2:out++[if false=true then 1 else 0]=out++parentB p:=by
   rw[e]
   rfl
  rw[e2]at hM
  exact⟨_,rfl,rfl,hM.sub⟩
theorem aDl (x:Int):x%2=1→1≤level x:=fun h=>by
 have:=Yh 7 (x / 2)
 unfold level
 rw[lev,if_pos h]
 omega
theorem aPk (l:Lf) (hn:0≤l.name∧l.name≤64):∀ x∈leafB l,0≤x∧x<256:=fun x hx=>by
 unfold leafB at hx
 split at hx
 ·simp only[List.mem_append,List.mem_singleton]at hx
  rcases hx with (((rfl|hx)|hx)|hx)|hx
  ·omega
  ·exact Rz l.name (by omega) x hx
  ·exact l.pub.2.2 x hx
  ·exact l.ver.2.2 x hx
  ·exact l.abv.2.2 x hx
 ·rw[List.mem_singleton.1 hx]
  omega
theorem aHz (p:Pn) (hp:p.loose.length≤64∧∀ q∈p.loose,0≤q∧q≤64):∀ x∈parentB p,0≤x∧x<256:=fun x hx=>by
 unfold parentB at hx
 split at hx
 ·simp only[List.mem_append,List.mem_singleton]at hx
  rcases hx with (((rfl|hx)|hx)|hx)|hx
  ·omega
  ·exact p.pub.2.2 x hx
  ·exact p.abv.2.2 x hx
  ·exact Rz p.loose.length (by omega) x hx
  ·obtain⟨q,hq,hx⟩:=List.mem_flatMap.1 hx
   exact Rz q (by have:=hp.2 q hq;omega) x hx
 ·rw[List.mem_singleton.1 hx]
  omega
theorem Xo {f:Nat} {x:Int} (hG:t.Gd) (h1:Sl H 97 A (t.ls.map Lf.fds)) (he:x%2=0) (ht:thr t.size x) (hf:Fz H w):
  Calls prog 124 #[tv A t.ls.length a B t.ps.length b,.int .i64 x] w fun en w'=>en=.returned (ha (hAt f t x))∧St w [] w':=by
 have hM:=Mem.start hf
 have hlen:=hG.len
 have hts:t.size=t.ls.length:=rfl
 obtain⟨k1,k2,k3⟩:=id ht
 refine Qu ?_
 unfold Lb
 (((refine Bh hM ?_;clear hM;intro _ _ hM;refine Bf hM ?_;clear hM;intro _ _ hM)))
 refine Bi (Hw hM) ?_
 rintro v w2 ⟨g,rfl,hM⟩
 have hix:(x / 2).toNat<t.ls.length:=by omega
 have hla:leafAt t (x / 2)=t.ls[(x / 2).toNat]:=by
  unfold leafAt
  rw[List.getD_eq_getElem?_getD,List.getElem?_eq_getElem hix]
  rfl
 have hlb:=Qg t.ls[(x / 2).toNat]
 (((refine Ab ?_ ?_));(focus omega);((refine Bt trivial ?_ ?_));(focus (first|assumption|omega|with_reducible rfl|exact fun h=>Bool.noConfusion h));((refine Am ?_;refine Ab trivial ?_;refine An hM ?_;refine Ab ?_ ?_));(focus omega);(refine Ci ‹_› ?_ ?_ ?_);(focus (simp only[List.length_map];omega));(focus (simp only[List.length_map];first|done|omega));((intro _ _ hA));(cases hA);(refine Cb hM ‹_› (Ct ?_) ?_);(focus omega))
 refine Bi (Un t.ls[(x / 2).toNat] (hG.nm _ (List.getElem_mem _)) (by simp) (hM.at_ (wrR g [] false))) ?_
 rintro v w3 ⟨rfl,hM⟩
 refine Bn hM (Ia hM) (fun w hM=>?_)
 (((refine Ab trivial ?_;refine Ab trivial ?_;refine Bx hM ?_ ?_ ?_));(focus rfl);(focus (constructor <;> simp));((clear hM;intro _ _ hM)))
 refine Bn hM (Gb bleaf (strOfNums ([]++leafB t.ls[(x / 2).toNat])) (by rw[strOfNums_size];simp;have:bleaf.size=4:=rfl;omega) hM) (fun w hM=>?_)
 (((refine Az hM ?_;clear hM;intro _ hM;refine Bz hM ?_)))
 refine⟨?_,hM.st⟩
 rw[List.nil_append,Ce _ (aPk _ (hG.nm _ (List.getElem_mem _))),aTq he,hla]
 rfl
theorem aDm (hG:t.Gd) (h1:Sl H 97 A (t.ls.map Lf.fds)) (h2:Sl H 66 B qs) (h3:All2 (PnF H) qs t.ps):∀ (f:Nat) (x:Int),level x≤f→thr t.size x→∀ w,Fz H w →
  Calls prog 124 #[tv A t.ls.length a B t.ps.length b,.int .i64 x] w fun en w'=>en=.returned (ha (hAt f t x))∧St w [] w':=by
 have hlen:=hG.len
 have hts:t.size=t.ls.length:=rfl
 have hq:qs.length=t.ps.length:=h3.len
 intro f
 induction f with
 | zero=>
   intro x hx ht w hf
   have he:x%2=0:=by
    have:=aDl x
    omega
   exact Xo hG h1 he ht hf
 | succ f ih=>
   intro x hx ht w hf
   by_cases he:x%2=0
   ·exact Xo hG h1 he ht hf
   have ho:x%2=1:=by omega
   obtain⟨k1,k2,k3⟩:=id ht
   obtain⟨⟨t1,t2⟩,⟨l1,l2⟩,-⟩:=aBa ht ho
   have hM:=Mem.start hf
   refine Qu ?_
   unfold Lb
   (((refine Bh hM ?_;clear hM;intro _ _ hM;refine Bf hM ?_;clear hM;intro _ _ hM)))
   refine Bi (Hw hM) ?_
   rintro v w2 ⟨g,rfl,hM⟩
   have hix:(x / 2).toNat<t.ps.length:=by omega
   obtain⟨q,hq1,C,c,rfl,hC,hcl⟩:=h3.at_ (i:=(x / 2).toNat) hix
   obtain⟨p,hpe⟩:∃ p,t.ps[(x / 2).toNat]=p:=⟨_,rfl⟩
   have hpa:parAt t (x / 2)=p:=by
    unfold parAt
    rw[List.getD_eq_getElem?_getD,List.getElem?_eq_getElem hix,hpe]
    rfl
   have hlo:=hG.lo p (hpe ▸ List.getElem_mem _)
   have hpl:=Xn hlo.1
   rw[hpe]at hq1 hC hcl
   (((refine Ab ?_ ?_));(focus omega);((refine Bm trivial ?_ ?_));(focus (first|assumption|omega|with_reducible rfl|exact fun h=>Bool.noConfusion h));((refine Aj ?_;refine Ab trivial ?_;refine An hM ?_;refine Ab trivial ?_;refine Ab trivial ?_;refine An hM ?_;refine Ab ?_ ?_));(focus omega))
   refine Ci h2 (by omega) hq.symm (fun bb oo hB=>?_)
   cases hB
   refine Cb hM h2 hq1 ?_
   refine Bi (Po p hC hlo (by simp) (hM.at_ (wrR g [] false))) ?_
   rintro v w3 ⟨rfl,hM⟩
   (((refine Ba hM ?_;refine Bs hM ?_ (fun _ _ hM=>?_)));(focus (first|exact trivial|assumption|omega)))
   have hbl:∀ y∈snode++(parentB p++(hAt f t (lf t.size x)).1++(hAt f t (rt t.size x)).1),0≤y∧y<256:=fun y hy=>by
    simp only[List.mem_append]at hy
    rcases hy with hy|(hy|hy)|hy
    ·simp at hy
     omega
    ·exact aHz p hlo y hy
    ·exact(hAt f t (lf t.size x)).2.2 y hy
    ·exact(hAt f t (rt t.size x)).2.2 y hy
   refine Cg hM (fun w hM=>ih (lf t.size x) (by omega) t1 w hM.fz) (fun w' hx hM=>?_)
   refine La hM (fun w hM=>Dd (hAt f t (lf t.size x)) (by simp;omega) (hM.at_ (wrR g ([]++parentB p) false))) ?_
   rintro v w4 ⟨rfl,hM⟩
   (((refine Bc hM ?_;clear hM;intro _ hM;refine Ba hM ?_;refine Bs hM ?_ (fun _ _ hM=>?_)));(focus (first|exact trivial|assumption|omega)))
   refine Cg hM (fun w hM=>ih (rt t.size x) (by omega) t2 w hM.fz) (fun w' hx hM=>?_)
   refine La hM (fun w hM=>Dd (hAt f t (rt t.size x)) (by simp[(hAt f t (lf t.size x)).2.1];omega) (hM.at_ (wrR g ([]++parentB p++(hAt f t (lf t.size x)).1) false))) ?_
   rintro v w5 ⟨rfl,hM⟩
   (((refine Bc hM ?_;clear hM;intro _ hM)))
   refine Bn hM (Ia hM) (fun w hM=>?_)
   (((refine Ab trivial ?_;refine Ab trivial ?_;refine Bx hM ?_ ?_ ?_));(focus rfl);(focus (constructor <;> simp));((clear hM;intro _ _ hM)))
   refine Bn hM (Gb bnode (strOfNums ([]++parentB p++(hAt f t (lf t.size x)).1++(hAt f t (rt t.size x)).1)) (by rw[strOfNums_size];simp[(hAt f t (lf t.size x)).2.1,(hAt f t (rt t.size x)).2.1];have:bnode.size=4:=rfl;omega) hM) (fun w hM=>?_)
   (((refine Az hM ?_;clear hM;intro _ hM;refine Bz hM ?_)))
   refine⟨?_,hM.st⟩
   rw[List.nil_append,Ce _ (fun y hy=>hbl y (List.mem_append.2 (.inr hy))),hAt,if_neg he,hpa]
   rfl
end
end Go.Proofs.YtgbenhmdamnmcaaGreat
namespace Go.Proofs.YtgbenhmdamnmcaaGreat
open Go.Proofs.Tryz
open Go.RowKit Go.Lib
theorem aTr:∀ n:Fin 65,1≤n.val→thr (n.val:Int) (root n.val):=by decide +kernel
theorem aTs {n:Int} (h:1≤n∧n≤64):thr n (root n):=by
 have:=aTr ⟨n.toNat,by omega⟩ (by simp only;omega)
 simpa only [Int.toNat_of_nonneg (show 0≤n by omega)] using this
section
variable {H:Hp} {w0 w:World} {L R:List Res} {g:Nat} {A B:Option Addr} {a b:Nat} {t:Tr} {qs:List (List Fd)}
theorem aTt {v:Value} (h:TrF H v t) (hf:Fz H w) (hR:t.Rt):Calls prog 65 #[v] w fun en w'=>en=.returned (ha (hRoot t))∧St w [] w':=by
 obtain⟨A,a,B,b,qs,rfl,h1,h2,h3⟩:=h.ex
 have hM:=Mem.start hf
 have hlen:=hR.len
 refine aGr ?_
 unfold Wu
 (((refine Bh hM ?_;clear hM;intro _ _ hM;refine Bf hM ?_;clear hM;intro _ _ hM;refine An hM ?_)))
 refine Bn hM (Um h1 h2 h3 h.len.1 h.len.2 hM.fz) (fun w hM=>?_)
 rw[if_pos (Tr.rt.2 hR)]
 (((refine Az hM ?_;clear hM;intro _ hM;refine Ab trivial ?_;refine An hM ?_;refine Ab trivial ?_)))
 unfold hRoot
 by_cases hn:t.ls=[]
 ·have hl0:t.ls.length=0:=by rw[hn];rfl
  rw[if_pos hn]
  (((refine Bt trivial ?_ ?_));(focus (first|assumption|omega|with_reducible rfl|exact fun h=>Bool.noConfusion h));((refine Am ?_;refine Bx hM ?_ ?_ ?_));(focus rfl);(focus (constructor <;> simp));((clear hM;intro _ _ hM)))
  refine Bn hM (aWu bnone (by decide) hM) (fun w hM=>?_)
  (((refine Az hM ?_;clear hM;intro _ hM;refine Bz hM ?_)))
  exact⟨rfl,hM.st⟩
 ·have hl0:0<t.ls.length:=List.length_pos_iff.2 hn
  rw[if_neg hn]
  have hts:t.size=t.ls.length:=rfl
  have hrt:thr t.size (root t.size):=aTs ⟨by omega,by omega⟩
  have hlv:level (root t.size)≤8:=by
   have:=(aHr (x:=root t.size) (by have:=hrt.2;omega)).2.2.2.2
   omega
  (((refine Bm trivial ?_ ?_));(focus (first|assumption|omega|with_reducible rfl|exact fun h=>Bool.noConfusion h));((refine Aj ?_;refine Ba hM ?_;refine Ap trivial ?_;refine Ba hM ?_;refine Ap trivial ?_;refine Bs hM ?_ (fun _ _ hM=>?_)));(focus (first|exact trivial|assumption|omega)))
  refine Cg hM (fun w hM=>aDm (hR.gd hn) h1 h2 h3 8 (root t.size) hlv hrt w hM.fz) (fun w' hx hM=>?_)
  (((refine Ca hM ?_;clear hM;intro _ hM;refine Bc hM ?_;clear hM;intro _ hM;refine Bz hM ?_)))
  exact⟨rfl,hM.st⟩
end
end Go.Proofs.YtgbenhmdamnmcaaGreat
namespace Go.Proofs.YtgbenhmdamnmcaaGreat
open Go.Proofs.Tryz
open Go.RowKit Go.Lib
abbrev sabove:List Int:=[97,98,111,118,101]
def wNode (pl:Int) (way:List Int):Nat→Int
 | 0=>2*pl
 | m+1=>way.getD m 0
def sdR (t:Tr) (pl:Int) (way:List Int) (keys:List H32):Nat→Nat→H32
 | 0,_=>hzero
 | f+1,m=>shaH (sabove++((keys.getD m hzero).1++(sdR t pl way keys f (m+1)).1++(hAt 8 t (bs t.size (wNode pl way m))).1))
def sd (t:Tr) (pl:Int) (way:List Int) (keys:List H32) (m:Nat):H32:=sdR t pl way keys (way.length - m) m
theorem bAa {t:Tr} {pl:Int} {way:List Int} {keys:List H32}:sd t pl way keys way.length=hzero:=by
 unfold sd
 rw[Nat.sub_self]
 rfl
theorem aWv {t:Tr} {pl:Int} {way:List Int} {keys:List H32} {m:Nat} (h:m<way.length):sd t pl way keys m=shaH (sabove++((keys.getD m hzero).1++(sd t pl way keys (m+1)).1++(hAt 8 t (bs t.size (wNode pl way m))).1)):=by
 unfold sd
 obtain⟨f,hf⟩:∃ f,way.length - m=f+1:=⟨way.length - m - 1,by omega⟩
 have hf2:way.length - (m+1)=f:=by omega
 rw[hf,hf2]
 rfl
def newP (t:Tr) (pl:Int) (way:List Int) (keys:List H32) (i:Nat):Pn:=⟨true,keys.getD i hzero,sd t pl way keys (i+1),[]⟩
def wIdx (way:List Int) (k:Nat):Nat:=way.findIdx fun x=>decide (x=2*(k:Int)+1)
def pthPs (way:List Int) (nw:Nat→Pn) (D:Nat→Bool) (ps:List Pn):List Pn:=ps.mapIdx fun k p=>if wIdx way k<way.length∧D (wIdx way k)=true then nw (wIdx way k) else p
theorem aWw {way:List Int} (hn:way.Nodup) {i:Nat} (hi:i<way.length) {k:Nat} (hk:way[i]=2*(k:Int)+1):wIdx way k=i:=
 aAx hi (fun j hj hji=>decide_eq_false fun e=>by
  have:=(List.getElem_inj hn).1 (e.trans hk.symm)
  omega) (decide_eq_true hk)
theorem aIa {way:List Int} {k:Nat} (h:wIdx way k<way.length):way[wIdx way k]=2*(k:Int)+1:=by
 have:=List.findIdx_getElem (p:=fun x=>decide (x=2*(k:Int)+1)) (xs:=way) (w:=h)
 simp only[decide_eq_true_eq]at this
 exact this
theorem aPl {way:List Int} {nw:Nat→Pn} {D D':Nat→Bool} {ps:List Pn} (hn:way.Nodup) {i:Nat} (hi:i<way.length) (hw:way[i]=2*(way[i] / 2)+1∧0≤way[i] / 2) (hD:∀ j,j<way.length→(D' j=true↔D j=true∨j=i)):
  (pthPs way nw D ps).set (way[i] / 2).toNat (nw i)=pthPs way nw D' ps:=by
 unfold pthPs
 refine List.ext_getElem (by simp) fun k h1 h2=>?_
 simp only[List.getElem_set,List.getElem_mapIdx]
 by_cases e:(way[i] / 2).toNat=k
 ·have hk:way[i]=2*(k:Int)+1:=by omega
  have hx:=aWw hn hi hk
  rw[if_pos e,hx,if_pos ⟨hi,(hD i hi).2 (.inr rfl)⟩]
 ·rw[if_neg e]
  by_cases h:wIdx way k<way.length
  ·have hne:wIdx way k≠i:=fun h3=>by
    have:=aIa h
    simp only[h3]at this
    omega
   have:=hD _ h
   by_cases h4:D (wIdx way k)=true
   ·rw[if_pos ⟨h,h4⟩,if_pos ⟨h,this.2 (.inl h4)⟩]
   ·rw[if_neg fun h5=>h4 h5.2,if_neg fun h5=>(this.1 h5.2).elim h4 hne]
  ·rw[if_neg fun h3=>h h3.1,if_neg fun h3=>h h3.1]
theorem aKu {way:List Int} {nw:Nat→Pn} {D:Nat→Bool} {ps:List Pn} (hD:∀ j,j<way.length→D j=false):pthPs way nw D ps=ps:=by
 unfold pthPs
 refine List.ext_getElem (by simp) fun k h1 h2=>?_
 simp only[List.getElem_mapIdx]
 rw[if_neg]
 intro h
 rw[hD _ h.1]at h
 cases h.2
def Tr.pathR (t:Tr) (pl:Int) (pub:H32) (keys:List H32):Tr × Int:=
 if t.nobody pl then (Tr.none,7) else if (dirL t.size pl).length≠keys.length then (Tr.none,16) else
 (⟨t.ls.modify pl.toNat (·.key pub (sd t pl (dirL t.size pl) keys 0)),pthPs (dirL t.size pl) (newP t pl (dirL t.size pl) keys) (fun _=>true) t.ps⟩,0)
def Tr.pathP (t:Tr) (pl:Int) (pub:H32) (keys:List H32):Tr × Int:=if ¬t.right=true then (Tr.none,1) else t.pathR pl pub keys
end Go.Proofs.YtgbenhmdamnmcaaGreat
namespace Go.Proofs.YtgbenhmdamnmcaaGreat
open Go.Proofs.Tryz
open Go.RowKit Go.Lib
theorem Yj {n x:Int} (h:thr n x):fro n x<til n x:=by
 have:=aYl h
 have h1:fro n x=(fd n x).1:=if_pos h
 have h2:til n x=(fd n x).1+(fd n x).2.1:=if_pos h
 omega
theorem aTu {n x p:Int} (h:thr n x) (ho:x%2=1):hld n x p↔hld n (lf n x) p∨hld n (rt n x) p:=by
 obtain⟨⟨t1,t2⟩,-,⟨e1,e2,e3⟩,-⟩:=aBa h ho
 have:=Yj t1
 have:=Yj t2
 unfold hld
 omega
theorem aTv {t t':Tr} {p:Int} (hl:t'.ls=t.ls) (hp:∀ i:Nat,¬hld t.size (2*i+1) p→t'.ps[i]?=t.ps[i]?):∀ (f:Nat) (x:Int),thr t.size x→¬hld t.size x p→hAt f t' x=hAt f t x:=by
 have hsz:t'.size=t.size:=by unfold Tr.size;rw[hl]
 have hla:∀ i,leafAt t' i=leafAt t i:=fun i=>by unfold leafAt;rw[hl]
 intro f
 induction f with
 | zero=>
   intro x _ _
   rw[hAt,hAt,hla]
 | succ f ih=>
   intro x ht hx
   rw[hAt,hAt,hla,hsz]
   by_cases he:x%2=0
   ·rw[if_pos he,if_pos he]
   ·rw[if_neg he,if_neg he]
    have ho:x%2=1:=by omega
    obtain⟨⟨t1,t2⟩,-⟩:=aBa ht ho
    have hk:=mt (aTu (p:=p) ht ho).2 hx
    rw[not_or]at hk
    have hpa:parAt t' (x / 2)=parAt t (x / 2):=by
     have hx0:=ht.2.1
     have e:2*(((x / 2).toNat:Nat):Int)+1=x:=by omega
     have:=hp (x / 2).toNat (by rw[e];exact hx)
     unfold parAt
     rw[List.getD_eq_getElem?_getD,List.getD_eq_getElem?_getD,this]
    rw[hpa,ih _ t1 hk.1,ih _ t2 hk.2]
theorem aWx {n z p:Int} (h:thr n z) (hh:hld n z p) (ha:0≤ab n z):thr n (bs n z)∧¬hld n (bs n z) p:=by
 obtain⟨ho,hz⟩:=bBp h ha
 have hta:thr n (ab n z):=aFg h (by omega)
 obtain⟨⟨t1,t2⟩,-,⟨e1,e2,e3⟩,b1,b2⟩:=aBa hta ho
 have:=Yj t1
 have:=Yj t2
 rcases hz with hz|hz
 ·have hb:bs n z=rt n (ab n z):=by
   conv=>lhs;rw[hz]
   exact b1
  rw[hb]
  refine⟨t2,fun hr=>?_⟩
  rw[hz]at hh
  unfold hld at hh hr
  omega
 ·have hb:bs n z=lf n (ab n z):=by
   conv=>lhs;rw[hz]
   exact b2
  rw[hb]
  refine⟨t1,fun hr=>?_⟩
  rw[hz]at hh
  unfold hld at hh hr
  omega
theorem aBc {n:Int}:∀ (f:Nat) (x:Int) (m:Nat) (h:m<(dirF f n x).length),(dirF f n x)[m]=ab n ((x::dirF f n x)[m]'(by simp;omega))∧0≤(dirF f n x)[m]
 | 0,x,m,h=>by simp[dirF]at h
 | f+1,x,m,h=>by
   by_cases ha:ab n x<0
   ·simp[dirF,ha]at h
   ·have e:dirF (f+1) n x=ab n x::dirF f n (ab n x):=by rw[dirF,if_neg ha]
    cases m with
    | zero=>
      simp only[e,List.getElem_cons_zero]
      exact⟨trivial,by omega⟩
    | succ m=>
      have h':m<(dirF f n (ab n x)).length:=by rw[e]at h;simpa using h
      obtain⟨h1,h2⟩:=aBc f (ab n x) m h'
      simp only[e,List.getElem_cons_succ]
      exact⟨h1,h2⟩
theorem aBd {pl:Int} {way:List Int} {m:Nat} (h:m≤way.length):wNode pl way m=(2*pl::way)[m]'(by simp;omega):=by
 cases m with
 | zero=>rfl
 | succ m=>
   rw[wNode,List.getElem_cons_succ,List.getD_eq_getElem?_getD,List.getElem?_eq_getElem (by omega)]
   rfl
theorem aKv {n pl:Int} (h:0≤pl∧pl<n∧n≤64) {m:Nat} (hm:m<(dirL n pl).length):thr n (wNode pl (dirL n pl) m)∧hld n (wNode pl (dirL n pl) m) pl∧thr n (bs n (wNode pl (dirL n pl) m))∧¬hld n (bs n (wNode pl (dirL n pl) m)) pl:=by
 have hd:dirL n pl=dirF 8 n (2*pl):=if_pos ⟨h.1,h.2.1⟩
 have ht0:thr n (2*pl):=⟨by omega,by omega,by omega⟩
 have hA:thr n (wNode pl (dirL n pl) m)∧hld n (wNode pl (dirL n pl) m) pl:=by
  cases m with
  | zero=>
    obtain⟨-,e1,e2⟩:=aWt ht0 (by omega)
    refine⟨ht0,?_⟩
    show hld n (2*pl) pl
    unfold hld
    omega
  | succ m=>
    have hw:wNode pl (dirL n pl) (m+1)=(dirL n pl)[m]:=by
     rw[aBd (by omega),List.getElem_cons_succ]
    have hmem:(dirL n pl)[m]∈dirL n pl:=List.getElem_mem _
    obtain⟨-,h2,h3,h4⟩:=aMq h.2.2 hmem
    rw[hw]
    refine⟨⟨by omega,by omega,by omega⟩,?_⟩
    have e:(dirL n pl)[m]=2*((((dirL n pl)[m] / 2).toNat:Nat):Int)+1:=by omega
    rw[e]at hmem ⊢
    exact(aMp h (by omega)).1 hmem
 have hab:0≤ab n (wNode pl (dirL n pl) m):=by
  have hm':m<(dirF 8 n (2*pl)).length:=by rw[← hd];exact hm
  obtain⟨h1,h2⟩:=aBc 8 (2*pl) m hm'
  rw[aBd (by omega)]
  simp only[hd]
  rw[← h1]
  exact h2
 exact⟨hA.1,hA.2,aWx hA.1 hA.2 hab⟩
theorem aMs {n:Int} {ls:List Lf}:∀ {x:Int} {ps:List Pn},(∀ i (hi:i<ps.length),(ps[i].set=true∨ps[i].isZero)∧looseB n ls (x+2*i) none ps[i].loose=true)→parB n ls x ps=true
 | _,[],_=>rfl
 | x,p::r,h=>by
   have h0:=h 0 (by simp)
   have ih:=aMs (n:=n) (ls:=ls) (x:=x+2) (ps:=r) fun i hi=>by
    have:=h (i+1) (by simpa using hi)
    have e:x+2*((i+1:Nat):Int)=x+2+2*(i:Int):=by omega
    rw[e]at this
    simpa using this
   simp only[parB,Bool.and_eq_true,Bool.or_eq_true,decide_eq_true_eq]
   exact⟨by simpa using h0,ih⟩
theorem Tr.Rt.par_new {t:Tr} (h:t.Rt) {ps:List Pn} (hl:ps.length=t.ps.length) (hp:∀ i (hi:i<ps.length),ps[i]=t.ps[i]'(by omega)∨(ps[i].set=true∧ps[i].loose=[])):Tr.Rt ⟨t.ls,ps⟩:=by
 refine⟨⟨h.len.1,by rw[hl];exact h.len.2⟩,h.leaves,aMs fun i hi=>?_,h.last⟩
 have hi2:i<ps.length:=hi
 rcases hp i hi with e|⟨e1,e2⟩
 ·rw[e]
  exact Mu h.par i (by rw[← hl];exact hi2)
 ·rw[e2]
  exact⟨.inl e1,rfl⟩
theorem aDn {way:List Int} {nw:Nat→Pn} {D:Nat→Bool} {ps:List Pn} {i:Nat} (hi:i<(pthPs way nw D ps).length):(pthPs way nw D ps)[i]=ps[i]'(by simpa [pthPs] using hi)∨∃ j,j<way.length∧way[j]?=some (2*(i:Int)+1)∧(pthPs way nw D ps)[i]=nw j:=by
 have e:(pthPs way nw D ps)[i]'hi=(if wIdx way i<way.length∧D (wIdx way i)=true then nw (wIdx way i) else ps[i]'(by simpa [pthPs] using hi)):=List.getElem_mapIdx ..
 rw[e]
 split
 ·rename_i hc
  exact .inr ⟨wIdx way i,hc.1,by rw[List.getElem?_eq_getElem hc.1,aIa hc.1],rfl⟩
 ·exact .inl rfl
theorem Qh {way:List Int} {nw:Nat→Pn} {D:Nat→Bool} {ps:List Pn}:(pthPs way nw D ps).length=ps.length:=by simp[pthPs]
theorem Tr.Rt.pth {t:Tr} (h:t.Rt) {way:List Int} {nw:Nat→Pn} {D:Nat→Bool} (hn:∀ j,(nw j).set=true∧(nw j).loose=[]):Tr.Rt ⟨t.ls,pthPs way nw D t.ps⟩:=
 h.par_new Qh fun i hi=>(aDn hi).imp id fun⟨j,_,_,e⟩=>by rw[e];exact hn j
theorem Tr.Rt.side_hash {t:Tr} (h:t.Rt) {pl:Int} (hb:0≤pl∧pl<t.size) {nw:Nat→Pn} {D:Nat→Bool} {m:Nat} (hm:m<(dirL t.size pl).length):
  hAt 8 ⟨t.ls,pthPs (dirL t.size pl) nw D t.ps⟩ (bs t.size (wNode pl (dirL t.size pl) m))=hAt 8 t (bs t.size (wNode pl (dirL t.size pl) m)):=by
 have hlen:=h.len
 have hts:t.size=t.ls.length:=rfl
 obtain⟨-,-,h3,h4⟩:=aKv (n:=t.size) ⟨hb.1,hb.2,by omega⟩ hm
 refine aTv (t:=t) (t':=⟨t.ls,pthPs (dirL t.size pl) nw D t.ps⟩) rfl (fun i hi=>?_) 8 _ h3 h4
 show(pthPs (dirL t.size pl) nw D t.ps)[i]?=t.ps[i]?
 by_cases hi2:i<t.ps.length
 ·rw[List.getElem?_eq_getElem hi2,List.getElem?_eq_getElem (by rw[Qh];exact hi2)]
  rcases aDn (way:=dirL t.size pl) (nw:=nw) (D:=D) (ps:=t.ps) (i:=i) (by rw[Qh];exact hi2) with e|⟨j,hj,hw,-⟩
  ·rw[e]
  ·exfalso
   have hmem:2*(i:Int)+1∈dirL t.size pl:=List.mem_of_getElem? hw
   exact hi ((aMp ⟨hb.1,hb.2,by omega⟩ (by omega)).1 hmem)
 ·rw[List.getElem?_eq_none (l:=t.ps) (by omega),List.getElem?_eq_none (l:=pthPs (dirL t.size pl) nw D t.ps) (by rw[Qh];omega)]
end Go.Proofs.YtgbenhmdamnmcaaGreat
namespace Go.Proofs.YtgbenhmdamnmcaaGreat
open Go.Proofs.Tryz
open Go.RowKit Go.Lib
abbrev babove:ByteArray:=ByteArray.mk #[97,98,111,118,101]
theorem cat4 (a b c d:ByteArray):cat [a,b,c,d]=ints a++(ints b++ints c++ints d):=by simp[cat]
section
variable {P:Program} {H:Hp} {w0 w:World} {L R:List Res} {n cap e sz:Nat} {A B:Option Addr} {a b:Nat} {t:Tr} {qs ps:List (List Fd)} {X:List Xp}
theorem aTw {ext:Bool} {S:Nat→Prop} {R1:List Res} {g k off m:Nat} {tt:TypeId} {q:Bool} {v:Value} {fs gs fs':List Fd} {K:Value→World→Prop} (hg0:S g) (h:Mem H w0 L w) [c:ShpC P tt q m] [a:AtA L (some ⟨g,0,none⟩) n cap e sz ps R1] (hk:ps[k]?=some fs) [f:Vf v m gs] [p:Put fs off gs fs']
  (hK:∀ w',Mem H w0 (rowR e sz (some ⟨g,0,none⟩) n cap (ps.set k fs')::R1) w'→K undef w'):dfS P (Rl.only S) w (Ai tt (.pointer (some ⟨g,0+k*sz+off,none⟩)) v) ext K:=⟨fun w1 hd=>by
 have h:=h.drawn hd
 obtain⟨w',h1,h2⟩:=aMc (P:=P) h c a hk f p
 obtain⟨sp,h5,h6,h7,hE,hl,hraw⟩:=h.raw (g:=g)
 have hb:=hraw.bkBlf (g:=g)
 obtain⟨ev,hn,hg⟩:=f.ok
 obtain⟨hk',hke⟩:=List.getElem?_eq_some_iff.1 hk
 obtain⟨hxo,hxs⟩:=hE.ok fs (hke ▸ List.getElem_mem _)
 obtain⟨_,_,k3⟩:=p.cells hxo hg
 have e2:v.cells.size=m:=by rw[← Array.length_toList,ev,hg.len,hn]
 have hle:k*sz+sz≤cap*sz:=by
  rw[← Nat.succ_mul]
  exact Nat.mul_le_mul_right _ (by omega)
 obtain⟨w2,h3,h4⟩:=Na (P:=P) (i:=0+k*sz+off) (v:=v) c.ok (St.oneF hb) e2 (by rw[ev];exact hg.one) (by rw[hg.len,hn,hxo.len,hxs]at k3;omega)
 rw[h1]at h3
 cases h3
 exact Ie h1 ⟨fun _=>(hd.onlyS _).trans1 (h4.only.mono fun j _ ⟨b,hm,_,hj⟩=>by
  rw[List.mem_singleton]at hm
  subst hm
  have hj:g=j:=hj
  exact hj ▸ hg0),hK w' h2⟩⟩
theorem bAb {s d:TypeId} {b o k c m:Nat} {l:List Int} {Kq:Value→Prop} (hM:Mem H w0 L w) [st:StrC P s d] (a:Sl H sz (some ⟨b,o,none⟩) ps) (hk:ps[k]?=some [.arr m (u8s l)]) (hl:l.length=m) (hK:Kq (.string (strOfNums l))):dq P w (Ay s d (.slice (some ⟨b,o+k*sz,none⟩) m c)) Kq:=
 Kx (fun w' hx=>Zk st hl fun j u hu=>by
  have h1:=a.els.at_ hk j u (by simpa [fl,Fd.cells] using hu)
  have h2:=a.cell (hM.fz.ext hx) h1
  rw[Nat.add_assoc]
  exact h2) hK
theorem Mem.readsX:∀ {X:List Xp} {L:List Res},Mem H w0 (allR X::L) w→∀ x∈X,Sl (Hp.of w) 1 x.2.1 (ints8 x.1.loose)
 | [],_,_,_,h=>by cases h
 | y::X,L,hM,x,h=>by
   have h1:=hM.unk
   rcases List.mem_cons.1 h with rfl|h
   ·exact h1.reads (A:=x.2.1)
   ·have h2:Mem H w0 (allR X::xres y::L) w:=h1.perm (.swap ..)
    exact Mem.readsX h2 x h
theorem Mem.readsT {ls:List Lf} (h:Mem H w0 (rowR 118 97 A ls.length a (ls.map Lf.fds)::rowR 222 66 B X.length b (X.map xrow)::allR X::L) w) (hb:∀ x∈X,x.1.loose.length≤maxLen):TrF (Hp.of w) (tv A ls.length a B X.length b) ⟨ls,X.map (·.1)⟩:=by
 obtain⟨-,k1,k2,-⟩:=h.rowLen ⟨.refl _⟩
 have h2:Mem H w0 (rowR 222 66 B X.length b (X.map xrow)::rowR 118 97 A ls.length a (ls.map Lf.fds)::allR X::L) w:=h.perm (.swap ..)
 obtain⟨-,k3,k4,-⟩:=h2.rowLen ⟨.refl _⟩
 have h3:Mem H w0 (allR X::L) w:=h.drop.drop
 exact⟨⟨A,a,B,b,X.map xrow,by simp,h.reads (A:=A) (k:=⟨.refl _⟩),h2.reads (A:=B) (k:=⟨.refl _⟩),We fun x hx=>⟨h3.readsX x hx,hb x hx⟩⟩,by simp only;omega,by simp only[List.length_map];omega⟩
theorem aWy {A:Option Addr} {e:Nat} (a b c d:ByteArray) (hs:a.size+b.size+c.size+d.size<1000000000000) (hM:Mem H w0 L w) [k:AtA L A 4 4 e 1 [[.one (.string a)],[.one (.string b)],[.one (.string c)],[.one (.string d)]] R]:
  Calls prog 34 #[.slice A 4 4] w fun en w'=>en=.returned (.agg (u8s (shaH (ints a++(ints b++ints c++ints d))).1).toArray)∧St w [] w':=by
 have h:=Ph A [a,b,c,d] 4 w (hM.rd k) (by simp) (by rw[cat4];simp only[List.length_append,Bq];omega)
 rw[cat4]at h
 exact h
theorem aKw (x:Int) {v:Value} (h:TrF H v t) (hf:Fz H w):Calls prog 192 #[v,.int .i64 x] w fun en w'=>en=.returned (ha (if t.right=true∧0≤x∧x≤2*t.size - 2 then hAt 8 t x else hzero))∧St w [] w':=by
 obtain⟨A,a,B,b,qs,rfl,h1,h2,h3⟩:=h.ex
 have hM:=Mem.start hf
 refine aCg ?_
 unfold Rb
 (((refine Bh hM ?_;clear hM;intro _ _ hM;refine Bf hM ?_;clear hM;intro _ _ hM;refine An hM ?_)))
 refine Bn hM (Um h1 h2 h3 h.len.1 h.len.2 hM.fz) (fun w hM=>?_)
 cases hr:t.right
 ·rw[if_neg (by simp),if_neg (by simp)]
  (((refine Az hM ?_;clear hM;intro _ hM)))
  refine⟨fun v w'=>v=.bool true∧hM.now w',?_,?_⟩
  ·(((refine Aw trivial ?_ ?_)))
   ·intro hx
    ((((iterate 7 refine Av ?_);refine Ab trivial ?_)))
    exact⟨rfl,hM⟩
   ·intro hx
    (((refine Ae ?_;refine Ab trivial ?_;refine Ae ?_;refine Ab trivial ?_;refine Ae ?_;refine An hM ?_;refine Ae ?_;refine Ab trivial ?_;refine Ae ?_;refine Ab ?_ ?_));(focus omega);((refine Ae ?_;refine Ab ?_ ?_));(focus omega);((refine Ae ?_;refine Bt trivial ?_ ?_));(focus (first|assumption|omega|with_reducible rfl|exact fun h=>Bool.noConfusion h));((refine Ab trivial ?_)))
    exact⟨rfl,hM⟩
  rintro v u w3 ⟨rfl,hM⟩
  (((refine Am ?_;refine Ab trivial ?_;refine Az hM ?_;clear hM;intro _ hM;refine Bz hM ?_)))
  exact⟨rfl,hM.st⟩
 ·have hR:=Tr.rt.1 hr
  have hlen:=hR.len
  have hts:t.size=t.ls.length:=rfl
  rw[if_pos rfl]
  (((refine Az hM ?_;clear hM;intro _ hM)))
  refine⟨fun v w'=>v=.bool (decide (¬(0≤x∧x≤2*t.size - 2)))∧hM.now w',?_,?_⟩
  ·(((refine Aw trivial ?_ ?_)))
   ·intro hx
    ((((iterate 7 refine Av ?_);refine Ab trivial ?_)))
    exact⟨by rw[decide_eq_true (by omega)],hM⟩
   ·intro hx
    (((refine Ae ?_;refine Ab trivial ?_;refine Ae ?_;refine Ab trivial ?_;refine Ae ?_;refine An hM ?_;refine Ae ?_;refine Ab trivial ?_;refine Ae ?_;refine Ab ?_ ?_));(focus omega);((refine Ae ?_;refine Ab ?_ ?_));(focus omega);((refine Ae ?_)))
    (((refine Aw trivial ?_ ?_)))
    ·intro hx2
     (((refine Ab trivial ?_)))
     exact⟨by rw[decide_eq_true (by omega)],hM⟩
    ·intro hx2
     (((refine Ab trivial ?_)))
     exact⟨by rw[decide_eq_false (by omega)],hM⟩
  rintro v u w3 ⟨rfl,hM⟩
  by_cases hc:0≤x∧x≤2*t.size - 2
  ·rw[decide_eq_false (by simpa using hc),if_pos ⟨rfl,hc⟩]
   (((refine Aj ?_;refine An hM ?_)))
   have hne:t.ls≠[]:=fun e=>by rw[hts,e]at hc;simp at hc;omega
   refine Bn hM (aDm (hR.gd hne) h1 h2 h3 8 x (by have:=(aHr (x:=x) (by omega)).2.2.2.2;omega) ⟨by omega,hc.1,hc.2⟩ _ hM.fz) (fun w hM=>?_)
   (((refine Az hM ?_;clear hM;intro _ hM;refine Bz hM ?_)))
   exact⟨rfl,hM.st⟩
  ·rw[decide_eq_true hc,if_neg (fun h=>hc h.2)]
   (((refine Am ?_;refine Ab trivial ?_;refine Az hM ?_;clear hM;intro _ hM;refine Bz hM ?_)))
   exact⟨rfl,hM.st⟩
abbrev kfds (keys:List H32):List (List Fd):=keys.map fun h=>[Fd.arr 32 (u8s h.1)]
theorem aIb (hR:t.Rt) {way:List Int} {pl:Int} {keys:List H32} {D:Nat→Bool}:Tr.Rt ⟨t.ls,pthPs way (newP t pl way keys) D t.ps⟩:=hR.pth fun _=>⟨rfl,rfl⟩
theorem bAc {Q:Hp→Value→Prop} (pl:Int) (pub:H32) (keys:List H32) {K:Option Addr} {kc:Nat} (hq:∀ H' v1 r,t.pathP pl pub keys=r→TrF H' v1 r.1→Q H' (.tuple #[v1,.int .i64 r.2])) (hkl:keys.length≤1000000) (hK:Sl H 32 K (kfds keys))
  (h1:Sl H 97 A (t.ls.map Lf.fds)) (h2:Sl H 66 B qs) (h3:All2 (PnF H) qs t.ps) (hl:t.ls.length≤maxLen) (hp:t.ps.length≤maxLen) (hf:Fz H w):
  Calls prog 154 #[tv A t.ls.length a B t.ps.length b,.int .i64 pl,ha pub,.slice K keys.length kc] w (Outp H w Q):=by
 obtain⟨w1,hw1⟩:∃ w1,w1=w:=⟨_,rfl⟩
 rw[← hw1]
 rw[← hw1]at hf
 have hM:=Mem.start hf
 refine aHb ?_
 unfold Xe
 unfold Tr.pathP Tr.pathR at hq
 (((refine Bh hM ?_;clear hM;intro _ _ hM;refine Bh hM ?_;clear hM;intro _ _ hM;refine Bf hM ?_;clear hM;intro _ _ hM;refine An hM ?_)))
 rename_i g1 _ g5 _ g2 _
 refine Bn hM (Ei h1 h2 h3 hl hp hM.fz) (fun w hM=>?_)
 (((refine Ab trivial ?_)))
 cases hr:t.right
 ·rw[if_pos (by rw[hr];simp)]at hq
  rw[Bool.not_false]
  (((refine Am ?_;refine Ab trivial ?_;refine Az hM ?_;clear hM;intro _ hM;refine Bz hM ?_)))
  exact hM.out (Le.refl _ _) (hq _ _ _ rfl (aAz H))
 rw[if_neg (by rw[hr];simp)]at hq
 have hR:=Tr.rt.1 hr
 have hlen:=hR.len
 have hts:t.size=t.ls.length:=rfl
 rw[Bool.not_true]
 (((refine Aj ?_;refine An hM ?_)))
 refine Bn hM (aWs pl h1 hl hM.fz) (fun w hM=>?_)
 by_cases hn:t.nobody pl
 ·rw[if_pos hn]at hq
  rw[decide_eq_true hn]
  (((refine Am ?_;refine Ab trivial ?_;refine Az hM ?_;clear hM;intro _ hM;refine Bz hM ?_)))
  exact hM.out (Le.refl _ _) (hq _ _ _ rfl (aAz H))
 rw[if_neg hn]at hq
 rw[decide_eq_false hn]
 obtain⟨hb0,hb1,hb2⟩:=Tr.body hn
 (((refine Aj ?_;refine Ab trivial ?_;refine An hM ?_;refine Ab trivial ?_)))
 refine Gq hM (Se t.ls.length pl (by omega) hM.fz) ?_
 rintro H1 v w5 l1 hM ⟨D,c,rfl,hD⟩
 have hdl:=Uf t.size pl
 have hnd:=aPg (n:=t.size) (l:=pl) (by omega)
 have hdm:=fun x hx=>aMq (n:=t.size) (l:=pl) (x:=x) (by omega) hx
 have hside:=fun(D:Nat→Bool) (m:Nat) (hm:m<(dirL t.size pl).length)=>hR.side_hash (pl:=pl) ⟨hb0,hb2⟩ (nw:=newP t pl (dirL t.size pl) keys) (D:=D) hm
 have hwok:=fun(m:Nat) (hm:m<(dirL t.size pl).length)=>aKv (n:=t.size) (pl:=pl) ⟨hb0,hb2,by omega⟩ hm
 rw[← hts]at hD ⊢
 generalize hDL:dirL t.size pl=DL at *
 (((refine Ab trivial ?_;refine Ab trivial ?_)))
 (((refine Aw trivial ?_ ?_)))
 ·intro hne
  rw[if_pos (by omega)]at hq
  (((refine Am ?_;refine Ab trivial ?_;refine Az hM ?_;clear hM;intro _ hM;refine Bz hM ?_)))
  exact hM.out l1 (hq _ _ _ rfl (aAz H1))
 intro hne
 have hkd:DL.length=keys.length:=by omega
 rw[if_neg (by omega)]at hq
 have hK:=hK.mono l1.le
 (((refine Aj ?_;refine An hM ?_)))
 refine Bi (aTn (h1.mono l1.le) (h2.mono l1.le) (h3.mono fun _ _ h=>h.mono l1.le) (by omega) (by omega) (fun p hp=>by have:=(hR.loose p hp).1;omega) hM) ?_
 rintro v w' ⟨A',a',B',b',X,rfl,hX,hM⟩
 have hXl:X.length=t.ps.length:=by rw[← hX,List.length_map]
 obtain⟨g4,rfl⟩:=hM.rowAt ⟨.refl _⟩ (by omega)
 (((refine Az hM ?_;clear hM;intro _ hM;refine Ab trivial ?_;refine Bf hM ?_;clear hM;intro _ _ hM;refine Az hM ?_;clear hM;intro _ hM;refine Ab trivial ?_;refine Ab ?_ ?_));(focus omega))
 rename_i g12 _ _
 have hdone:∀ m,m=DL.length→pthPs DL (newP t pl DL keys) (fun j=>decide (m≤j)) t.ps=t.ps:=fun m hm=>aKu fun j hj=>decide_eq_false (by omega)
 refine⟨fun v w'=>∃ (m:Nat) (Y:List Xp),v=.int .i64 ((m:Int) - 1)∧m≤DL.length∧Y.map (·.1)=pthPs DL (newP t pl DL keys) (fun j=>decide (m≤j)) t.ps∧Y.length=t.ps.length∧Mem H1 w1 [fb g12 23 [.arr 32 (u8s (sd t pl DL keys m).1)],fb g1 58 (tfd (some ⟨g4,0,none⟩) t.ls.length a' B' t.ps.length b'),fb g5 23 [.arr 32 (u8s pub.1)],fb g2 58 (tfd none 0 0 none 0 0),rowR 118 97 (some ⟨g4,0,none⟩) t.ls.length a' (t.ls.map Lf.fds),rowR 222 66 B' t.ps.length b' (Y.map xrow),allR Y] w',fun v _=>match v with | .int _ k=>(k+1).toNat|_=>0,⟨DL.length,X,rfl,by omega,by rw[hX,hdone _ rfl],hXl,?_⟩,?_⟩
 ·rw[bAa]
  exact hM.same
 clear hM
 rintro v u w6 ⟨m,Y,rfl,hm,hY,hYl,hM⟩
 cases m with
 | zero=>
   have hY:Y.map (·.1)=pthPs DL (newP t pl DL keys) (fun _=>true) t.ps:=hY.trans (by
    unfold pthPs
    refine List.ext_getElem (by simp) fun k e1 e2=>?_
    simp)
   have hRt:Tr.Rt ⟨t.ls,Y.map (·.1)⟩:=by
    rw[hY]
    exact aIb hR
   obtain⟨l0,hl0⟩:∃ l0,t.ls[pl.toNat]=l0:=⟨_,rfl⟩
   have hk0:(t.ls.map Lf.fds)[pl.toNat]?=some l0.fds:=by rw[← hl0];exact Ct hb1
   (((refine Bm trivial ?_ ?_));(focus (first|assumption|omega|with_reducible rfl|exact fun h=>Bool.noConfusion h));((refine Aj ?_)))
   refine⟨Rl.only fun k=>(some ⟨g4,0,none⟩:Option Addr)=some ⟨k,0,none⟩,?_⟩
   (((refine Ap trivial ?_;refine Zi hM hM.neA ?_;refine Ap trivial ?_;(iterate 3 refine Zi hM hM.neA ?_);refine Cj hM ?_ ?_));(focus omega);((intro _ hA));(cases hA);((refine Ap trivial ?_)))
   refine aTw rfl hM hk0 (fun w' hM=>?_)
   have hz:[Fd.one (.int .i64 l0.name),.arr 32 (u8s pub.1),.arr 32 (u8s l0.ver.1),.arr 32 (u8s l0.abv.1)]=(l0.key pub l0.abv).fds:=rfl
   rw[hz]at hM
   have hk1:((t.ls.map Lf.fds).set pl.toNat (l0.key pub l0.abv).fds)[pl.toNat]?=some (l0.key pub l0.abv).fds:=by
    rw[List.getElem?_set_self (by simpa using hb1)]
   (((refine Cj hM ?_ ?_));(focus omega);((intro _ hA));(cases hA);((refine Ap trivial ?_)))
   refine aTw rfl hM hk1 (fun w' hM=>?_)
   have hz3:[Fd.one (.int .i64 (l0.key pub l0.abv).name),.arr 32 (u8s (l0.key pub l0.abv).pub.1),.arr 32 (u8s (l0.key pub l0.abv).ver.1),.arr 32 (u8s (sd t pl DL keys 0).1)]=(l0.key pub (sd t pl DL keys 0)).fds:=rfl
   rw[hz3,List.set_set,← List.map_set]at hM
   have hmod:t.ls.set pl.toNat (l0.key pub (sd t pl DL keys 0))=t.ls.modify pl.toNat (·.key pub (sd t pl DL keys 0)):=by
    refine List.ext_getElem (by simp) fun i k1 k2=>?_
    simp only[List.getElem_modify,List.getElem_set]
    split
    ·rename_i e
     subst e
     rw[hl0]
    ·rfl
   rw[hmod]at hM
   have hsl:(t.ls.modify pl.toNat (·.key pub (sd t pl DL keys 0))).length=t.ls.length:=List.length_modify ..
   obtain⟨ls2,hls⟩:∃ ls2,t.ls.modify pl.toNat (·.key pub (sd t pl DL keys 0))=ls2:=⟨_,rfl⟩
   rw[hls]at hM hsl hq
   rw[← hsl,← hYl]at hM
   (((refine Bc hM ?_;clear hM;intro _ hM;refine An hM ?_;refine Az hM ?_;clear hM;intro _ hM;refine Bz hM ?_)))
   have hM:Mem H1 w1 [rowR 118 97 (some ⟨g4,0,none⟩) ls2.length a' (ls2.map Lf.fds),rowR 222 66 B' Y.length b' (Y.map xrow),allR Y] _:=hM.sub
   obtain⟨H4,l4,hM,hT⟩:=hM.frzT (fun x hx=>by have:=(hRt.loose x.1 (List.mem_map_of_mem hx)).1;simp only[maxLen];omega)
   refine hM.out (l1.trans l4) (hq _ _ _ rfl ?_)
   rw[hY]at hT
   exact hT
 | succ i=>
   rw[show(((i+1:Nat):Int) - 1)=(i:Int) by omega]
   have hi:i<DL.length:=by omega
   have hik:i<keys.length:=by omega
   have hxm:=hdm DL[i] (List.getElem_mem _)
   have hkx:(DL[i] / 2).toNat<Y.length:=by omega
   obtain⟨gB,rfl⟩:=(hM.up B').rowAt ⟨.refl _⟩ (by omega)
   obtain⟨kb,ko,rfl⟩:=hK.some_ (by simp[kfds];omega)
   obtain⟨db,dd,rfl⟩:=hD.some_ (by simp[ints8];omega)
   have hnew:newP t pl DL keys i=⟨true,keys[i],sd t pl DL keys (i+1),[]⟩:=by
    unfold newP
    rw[List.getD_eq_getElem?_getD,List.getElem?_eq_getElem hik]
    rfl
   have hrow:xrow (newP t pl DL keys i,none,0)=[Fd.one (.bool true),.arr 32 (u8s keys[i].1),.arr 32 (u8s (sd t pl DL keys (i+1)).1),.one (.slice none 0 0)]:=by
    rw[hnew]
    rfl
   (((refine Bt trivial ?_ ?_));(focus (first|assumption|omega|with_reducible rfl|exact fun h=>Bool.noConfusion h));((refine Am ?_;refine Ap trivial ?_;refine Ba hM ?_));(refine Hk ‹_› ?_ ?_ ?_);(focus (simp only[List.length_map];omega));(focus (simp only[List.length_map];first|done|omega));((intro _ _ hA));(cases hA);(refine Iw hM ‹_› (By ?_) ?_);(focus omega);((refine Ap ?_ ?_));(focus omega);(refine Hk ‹_› ?_ ?_ ?_);(focus (simp only[List.length_map];omega));(focus (simp only[List.length_map];first|done|omega));((intro _ _ hA));(cases hA);(refine Iw hM ‹_› (By ?_) ?_);(focus omega);((refine Ba hM ?_;refine Ap trivial ?_;refine Cj hM ?_ ?_));(focus omega);((intro _ hA));(cases hA))
   refine aGm hM (fun w' hM=>?_)
   refine aKb hM (by omega) (fun w' hM=>?_)
   rw[← hrow,← List.map_set]at hM
   have hM:=((hM.at_ (allR Y)).outk hkx).drop
   have h0:Mem H1 w1 (xres (newP t pl DL keys i,none,0)::restR Y (DL[i] / 2).toNat::_) _:=hM.row0 3 1
   have hM:=h0.ink hkx
   have hY2:(Y.set (DL[i] / 2).toNat (newP t pl DL keys i,none,0)).map (·.1)=pthPs DL (newP t pl DL keys) (fun j=>decide (i≤j)) t.ps:=by
    rw[List.map_set,hY]
    exact aPl hnd hi ⟨hxm.2.1,hxm.2.2.1⟩ fun j hj=>by simp only[decide_eq_true_eq];omega
   have hYl2:(Y.set (DL[i] / 2).toNat (newP t pl DL keys i,none,0)).length=t.ps.length:=by rw[List.length_set];exact hYl
   clear hY hYl hrow h0
   generalize Y.set (DL[i] / 2).toNat (newP t pl DL keys i,none,0)=Z at *
   have hM:Mem H1 w1 [fb g12 23 [.arr 32 (u8s (sd t pl DL keys (i+1)).1)],fb g1 58 (tfd (some ⟨g4,0,none⟩) t.ls.length a' (some ⟨gB,0,none⟩) t.ps.length b'),fb g5 23 [.arr 32 (u8s pub.1)],fb g2 58 (tfd none 0 0 none 0 0),rowR 118 97 (some ⟨g4,0,none⟩) t.ls.length a' (t.ls.map Lf.fds),rowR 222 66 (some ⟨gB,0,none⟩) t.ps.length b' (Z.map xrow),allR Z] _:=hM.same
   have hRt:Tr.Rt ⟨t.ls,Z.map (·.1)⟩:=by
    rw[hY2]
    exact aIb hR
   obtain⟨k1,k2,k3,k4⟩:=hwok i hi
   have hHash:∀ w,Mem H1 w1 [rowR 118 97 (some ⟨g4,0,none⟩) t.ls.length a' (t.ls.map Lf.fds),rowR 222 66 (some ⟨gB,0,none⟩) t.ps.length b' (Z.map xrow),allR Z] w→Calls prog 192 #[tv (some ⟨g4,0,none⟩) t.ls.length a' (some ⟨gB,0,none⟩) t.ps.length b',.int .i64 (bs t.size (wNode pl DL i))] w fun en w'=>en=.returned (ha (hAt 8 t (bs t.size (wNode pl DL i))))∧St w [] w':=fun w hM=>by
    rw[← hYl2]at hM ⊢
    have h:=aKw (t:=⟨t.ls,Z.map (·.1)⟩) (bs t.size (wNode pl DL i)) (hM.readsT fun x hx=>by have:=(hRt.loose x.1 (List.mem_map_of_mem hx)).1;simp only[maxLen];omega) (Fz.of w)
    rw[if_pos ⟨Tr.rt.2 hRt,k3.2.1,k3.2.2⟩,hY2,hside _ i hi]at h
    exact h
   (((refine Bc hM ?_;clear hM;intro _ hM;refine Ab ?_ ?_));(focus omega))
   refine⟨fun v w'=>v=.int .i64 (wNode pl DL i)∧hM.now w',?_,?_⟩
   ·(((refine Aw trivial ?_ ?_)))
    ·intro hpos
     (((refine Am ?_;refine Ab ?_ ?_));(focus omega);(refine Ci ‹_› ?_ ?_ ?_);(focus (simp only[List.length_map];omega));(focus (simp only[List.length_map];first|done|omega));((intro _ _ hA));(cases hA);(refine Cb hM ‹_› (Ct ?_) ?_);(focus omega))
     refine⟨?_,hM⟩
     congr 1
     rw[aBd (by omega)]
     cases i with
     | zero=>omega
     | succ i=>
       rw[List.getElem_cons_succ]
       congr 1
       omega
    ·intro hz
     obtain rfl:i=0:=by omega
     (((refine Aj ?_)))
     exact⟨rfl,hM⟩
   rintro v u7 w7 ⟨rfl,hM⟩
   refine⟨fun v w'=>∃ g15,v=.pointer (some ⟨g15,0,none⟩)∧Mem H1 w1 [fb g15 23 [.arr 32 (u8s (hAt 8 t (bs t.size (wNode pl DL i))).1)],fb g12 23 [.arr 32 (u8s (sd t pl DL keys (i+1)).1)],fb g1 58 (tfd (some ⟨g4,0,none⟩) t.ls.length a' (some ⟨gB,0,none⟩) t.ps.length b'),fb g5 23 [.arr 32 (u8s pub.1)],fb g2 58 (tfd none 0 0 none 0 0),rowR 118 97 (some ⟨g4,0,none⟩) t.ls.length a' (t.ls.map Lf.fds),rowR 222 66 (some ⟨gB,0,none⟩) t.ps.length b' (Z.map xrow),allR Z] w',⟨?_,?_,?_⟩,?_⟩
   ·(((refine Ba hM ?_;refine Bs hM ?_ (fun _ _ hM=>?_)));(focus (first|exact trivial|assumption|omega)))
    refine Cg hM (fun w hM=>hHash w hM.sub) (fun w' hx hM=>?_)
    (((refine Cd hM ?_;clear hM;intro _ _ hM;refine Ca hM ?_;clear hM;intro _ hM;refine Bc hM ?_;clear hM;intro _ hM)))
    exact⟨_,rfl,hM.same⟩
   ·(((refine Ba hM ?_;refine Bs hM ?_ (fun _ _ hM=>?_)));(focus (first|exact trivial|assumption|omega));((refine Cd hM ?_;clear hM;intro _ _ hM)))
    refine Cg hM (fun w hM=>hHash w hM.sub) (fun w' hx hM=>?_)
    (((refine Ca hM ?_;clear hM;intro _ hM;refine Bc hM ?_;clear hM;intro _ hM)))
    exact⟨_,rfl,hM.same⟩
   ·(((refine Ba hM ?_;refine Cd hM ?_;clear hM;intro _ _ hM;refine Bs hM ?_ (fun _ _ hM=>?_)));(focus (first|exact trivial|assumption|omega)))
    refine Cg hM (fun w hM=>hHash w hM.sub) (fun w' hx hM=>?_)
    (((refine Ca hM ?_;clear hM;intro _ hM;refine Bc hM ?_;clear hM;intro _ hM)))
    exact⟨_,rfl,hM.same⟩
   clear hM
   rintro v u8 w8 ⟨g15,rfl,hM⟩
   ((refine Hk ‹_› ?_ ?_ ?_);(focus (simp only[List.length_map];omega));(focus (simp only[List.length_map];first|done|omega));((intro _ _ hA));(cases hA);((refine Ap trivial ?_)))
   rw[Int.toNat_natCast]
   refine bAb hM hK (Ct hik) keys[i].2.1 ?_
   (((refine Ap trivial ?_;refine Cw hM ?_;refine Ap trivial ?_;refine Cw hM ?_;refine Cf hM ?_ ?_ ?_));(focus rfl);(focus (constructor <;> simp));((clear hM;intro _ _ hM)))
   refine Cg hM (fun w hM=>aWy babove (strOfNums keys[i].1) (strOfNums (sd t pl DL keys (i+1)).1) (strOfNums (hAt 8 t (bs t.size (wNode pl DL i))).1) (by rw[strOfNums_size,strOfNums_size,strOfNums_size,keys[i].2.1,(sd t pl DL keys (i+1)).2.1,(hAt 8 t (bs t.size (wNode pl DL i))).2.1];decide) hM) (fun w' hx hM=>?_)
   rw[Iu,Iu,Iu]
   have hsd:shaH (ints babove++(keys[i].1++(sd t pl DL keys (i+1)).1++(hAt 8 t (bs t.size (wNode pl DL i))).1))=sd t pl DL keys i:=by
    rw[aWv hi,List.getD_eq_getElem?_getD,List.getElem?_eq_getElem hik]
    rfl
   rw[hsd]
   (((refine Ca hM ?_;clear hM;intro _ hM;refine Bc hM ?_;clear hM;intro _ hM;refine Ab ?_ ?_));(focus omega))
   exact⟨⟨i,Z,rfl,by omega,hY2,hYl2,hM.sub⟩,by simp only;omega⟩
end
end Go.Proofs.YtgbenhmdamnmcaaGreat
namespace Go.Proofs.YtgbenhmdamnmcaaGreat
open Go.Proofs.Tryz
open Go.RowKit
def crossL:List Int→List Int→List Int
 | r::rs,t::ts=>bits .xor .u8 t r::crossL rs ts
 | _,_=>[]
theorem Nr:∀ {r t:List Int},t.length≤r.length→(crossL r t).length=t.length
 | _,[],_=>by simp[crossL]
 | [],_::_,h=>by simp at h
 | r::rs,t::ts,h=>by
   simp only[crossL,List.length_cons]
   rw[Nr (by simpa using h)]
end Go.Proofs.YtgbenhmdamnmcaaGreat
namespace Go.Proofs.YtgbenhmdamnmcaaGreat
open Go.Proofs.Tryz
open Go.RowKit
section
variable (row:H32→Nat→List Int) (tag:H32→List Int→List Int→List Int)
def sealL (key:H32) (about t:List Int):List Int:=crossL (row key t.length) t++tag key about (crossL (row key t.length) t)
variable {row tag}
variable (kem:H32→List Int→H32) (row tag)
def wrapL (pub once:H32) (about t:List Int):List Int:=once.1++sealL row tag (kem pub once.1) about t
variable {row tag kem}
end
end Go.Proofs.YtgbenhmdamnmcaaGreat
namespace Go.Proofs.YtgbenhmdamnmcaaGreat
open Go.Proofs.Tryz
open Go.RowKit Go.Lib
abbrev spub:ByteArray:=ByteArray.mk #[112,117,98]
abbrev smark:ByteArray:=ByteArray.mk #[109,97,114,107]
abbrev skem:ByteArray:=ByteArray.mk #[107,101,109]
abbrev sstream:ByteArray:=ByteArray.mk #[115,116,114,101,97,109]
abbrev stag:ByteArray:=ByteArray.mk #[116,97,103]
abbrev es0:ByteArray:=ByteArray.mk #[]
def pubH (k:H32):H32:=shaH (ints spub++k.1)
def markH (k:H32):H32:=shaH (ints smark++k.1)
def kemH (pub:H32) (once:List Int):H32:=shaH (ints skem++(pub.1++once))
def drv (k:H32) (l c:ByteArray):H32:=derivedH k.1 l c
theorem cat3 (a b c:ByteArray):cat [a,b,c]=ints a++(ints b++ints c):=by simp[cat]
section
variable {H:Hp} {w0 w:World} {L R:List Res} {A B:Option Addr} {a b n m:Nat}
theorem aMt {A:Option Addr} {e:Nat} (a b c:ByteArray) (hs:a.size+b.size+c.size<1000000000000) (hM:Mem H w0 L w) [k:AtA L A 3 3 e 1 [[.one (.string a)],[.one (.string b)],[.one (.string c)]] R]:
  Calls prog 34 #[.slice A 3 3] w fun en w'=>en=.returned (.agg (u8s (shaH (ints a++(ints b++ints c))).1).toArray)∧St w [] w':=by
 have h:=Ph A [a,b,c] 3 w (hM.rd k) (by simp) (by rw[cat3];simp only[List.length_append,Bq];omega)
 rw[cat3]at h
 exact h
theorem aTx (hm:m≠0) (w:World):Calls prog 121 #[.pointer none,tv A n a B m b] w fun en w'=>en=.returned (.int .i64 0)∧St w [] w':=by
 have hM:=Mem.start (Fz.of w)
 refine Vl ?_
 unfold Mf
 (((refine Bh hM ?_;clear hM;intro _ _ hM;refine Ab trivial ?_;refine An hM ?_;refine Ab trivial ?_;refine Bm trivial ?_ ?_));(focus (first|assumption|omega|with_reducible rfl|exact fun h=>Bool.noConfusion h));((refine Aj ?_;refine Ab trivial ?_;refine Am ?_)))
 exact⟨rfl,hM.st⟩
instance:PurC prog 121 [.pointer none,tv A n a B m b] (m≠0) (.int .i64 0):=⟨fun h w=>aTx h w⟩
theorem aPm (k:H32) (w:World):Calls prog 120 #[ha k] w fun en w'=>en=.returned (ha (pubH k))∧St w [] w':=by
 have hM:=Mem.start (Fz.of w)
 refine aBz ?_
 unfold Qs
 (((refine Bh hM ?_;clear hM;intro _ _ hM;refine Bf hM ?_;clear hM;intro _ _ hM;refine Ab trivial ?_;refine Jh hM ?_;refine Bx hM ?_ ?_ ?_));(focus rfl);(focus (constructor <;> simp));((clear hM;intro _ _ hM)))
 refine Bn hM (Gb spub (strOfNums k.1) (by rw[strOfNums_size,k.2.1];decide) hM) (fun w2 hM=>?_)
 rw[Iu]
 (((refine Az hM ?_;clear hM;intro _ hM;refine Bz hM ?_)))
 exact⟨rfl,hM.st⟩
instance (k:H32):PurC prog 120 [.agg (u8s k.1).toArray] True (.agg (u8s (pubH k).1).toArray):=⟨fun _ w=>aPm k w⟩
theorem aWz (k:H32) (w:World):Calls prog 122 #[ha k] w fun en w'=>en=.returned (ha (markH k))∧St w [] w':=by
 have hM:=Mem.start (Fz.of w)
 refine aGy ?_
 unfold Xb
 (((refine Bh hM ?_;clear hM;intro _ _ hM;refine Bf hM ?_;clear hM;intro _ _ hM;refine Ab trivial ?_;refine Jh hM ?_;refine Bx hM ?_ ?_ ?_));(focus rfl);(focus (constructor <;> simp));((clear hM;intro _ _ hM)))
 refine Bn hM (Gb smark (strOfNums k.1) (by rw[strOfNums_size,k.2.1];decide) hM) (fun w2 hM=>?_)
 rw[Iu]
 (((refine Az hM ?_;clear hM;intro _ hM;refine Bz hM ?_)))
 exact⟨rfl,hM.st⟩
instance (k:H32):PurC prog 122 [.agg (u8s k.1).toArray] True (.agg (u8s (markH k).1).toArray):=⟨fun _ w=>aWz k w⟩
theorem aXa (k:H32) (w:World):Calls prog 62 #[.pointer none,ha k] w fun en w'=>en=.returned (ha (pubH k))∧St w [] w':=by
 have hM:=Mem.start (Fz.of w)
 refine aJl ?_
 unfold Zq
 (((refine Bh hM ?_;clear hM;intro _ _ hM;refine Bf hM ?_;clear hM;intro _ _ hM;refine An hM ?_;refine Bl hM ?_ ?_));(focus (first|exact trivial|assumption|omega));((clear hM;intro _ hM;refine Bf hM ?_;clear hM;intro _ _ hM;refine Az hM ?_;clear hM;intro _ hM)))
 refine⟨fun w'=>hM.now w',?_,?_⟩
 ·repeat' apply And.intro
  all_goals
   (first|(((refine Ba hM ?_;refine Ba hM ?_;refine Cf hM ?_ ?_ (fun _ _ hM2=>?_)));(focus rfl);(focus (constructor <;> simp));((replace hM:=hM2;clear hM2;refine Bs hM ?_ (fun _ _ hM=>?_)));(focus (first|exact trivial|assumption|omega));((refine Cf hM ?_ ?_ ?_));(focus rfl);(focus (constructor <;> simp));((clear hM;intro _ _ hM;refine Ap trivial ?_;refine Bs hM ?_ (fun _ _ hM=>?_)));(focus (first|exact trivial|assumption|omega));((refine Bc hM ?_;clear hM;intro _ hM)))|(((refine Ba hM ?_;refine Ba hM ?_;refine Bs hM ?_ (fun _ _ hM=>?_)));(focus (first|exact trivial|assumption|omega));((refine Cf hM ?_ ?_ ?_));(focus rfl);(focus (constructor <;> simp));((clear hM;intro _ _ hM;refine Cf hM ?_ ?_ ?_));(focus rfl);(focus (constructor <;> simp));((clear hM;intro _ _ hM;refine Ap trivial ?_;refine Bs hM ?_ (fun _ _ hM=>?_)));(focus (first|exact trivial|assumption|omega));((refine Bc hM ?_;clear hM;intro _ hM))))
   exact hM.sub
 rintro u w2 hM
 (((refine An hM ?_;refine Az hM ?_;clear hM;intro _ hM;refine Bz hM ?_)))
 exact⟨rfl,hM.st⟩
instance (k:H32):PurC prog 62 [.pointer none,.agg (u8s k.1).toArray] True (.agg (u8s (pubH k).1).toArray):=⟨fun _ w=>aXa k w⟩
instance (k:H32) (l c:ByteArray):PurC prog 126 [.agg (u8s k.1).toArray,.string l,.string c] (l.size≤1000000∧c.size≤1000000) (.agg (u8s (drv k l c).1).toArray):=⟨fun h w=>aKs k l c w h.1 h.2⟩
theorem aKx (k:H32) (l c:ByteArray) (h:l.size≤1000000∧c.size≤1000000) (w:World):Calls prog 67 #[.pointer none,ha k,.string l,.string c] w fun en w'=>en=.returned (ha (drv k l c))∧St w [] w':=by
 have hM:=Mem.start (Fz.of w)
 refine aBv ?_
 unfold Qo
 (((refine Bh hM ?_;clear hM;intro _ _ hM;refine Bf hM ?_;clear hM;intro _ _ hM;refine An hM ?_;refine Bl hM ?_ ?_));(focus (first|exact trivial|assumption|omega));((clear hM;intro _ hM;refine Bf hM ?_;clear hM;intro _ _ hM;refine Az hM ?_;clear hM;intro _ hM;refine An hM ?_;refine Bx hM ?_ ?_ ?_));(focus rfl);(focus (constructor <;> simp));((clear hM;intro _ _ hM;refine An hM ?_;refine Bx hM ?_ ?_ ?_));(focus rfl);(focus (constructor <;> simp));((clear hM;intro _ _ hM;refine Ab trivial ?_;refine Bl hM ?_ ?_));(focus (first|exact trivial|assumption|omega));((clear hM;intro _ hM;refine An hM ?_;refine Az hM ?_;clear hM;intro _ hM;refine Bz hM ?_)))
 exact⟨rfl,hM.st⟩
instance (k:H32) (l c:ByteArray):PurC prog 67 [.pointer none,.agg (u8s k.1).toArray,.string l,.string c] (l.size≤1000000∧c.size≤1000000) (.agg (u8s (drv k l c).1).toArray):=⟨fun h w=>aKx k l c h w⟩
theorem aPn (p:H32) (o:List Int) (ho:∀ x∈o,0≤x∧x<256) (hn:o.length≤1000000) (w:World):Calls prog 168 #[ha p,.string (strOfNums o)] w fun en w'=>en=.returned (ha (kemH p o))∧St w [] w':=by
 have hM:=Mem.start (Fz.of w)
 refine aCd ?_
 unfold Qy
 (((refine Bh hM ?_;clear hM;intro _ _ hM;refine Bf hM ?_;clear hM;intro _ _ hM;refine Ab trivial ?_;refine Jh hM ?_;refine Bx hM ?_ ?_ ?_));(focus rfl);(focus (constructor <;> simp));((clear hM;intro _ _ hM)))
 refine Bn hM (aMt skem (strOfNums p.1) (strOfNums o) (by rw[strOfNums_size,strOfNums_size,p.2.1];show 3+32+_<_;omega) hM) (fun w2 hM=>?_)
 rw[Iu,Ce _ ho]
 (((refine Az hM ?_;clear hM;intro _ hM;refine Bz hM ?_)))
 exact⟨rfl,hM.st⟩
end
end Go.Proofs.YtgbenhmdamnmcaaGreat
namespace Go.Proofs.YtgbenhmdamnmcaaGreat
open Go.Proofs.Tryz
open Go.RowKit Go.Lib
def lvsOk (s:List Int) (ls:List Lf):Prop:=(∀ l∈ls,l=Lf.zero∨(1≤l.name∧l.name≤64))∧(∀ l∈ls,l.name≠0→l.name∉s)∧∀ i j (hi:i<ls.length) (hj:j<ls.length),i<j→ls[i].name≠0→ls[i].name≠ls[j].name
theorem aKy {s:List Int} {l:Lf} {r:List Lf}:lvsOk s (l::r)↔(l=Lf.zero∧lvsOk s r)∨((1≤l.name∧l.name≤64)∧l.name∉s∧lvsOk (l.name::s) r):=by
 constructor
 ·rintro⟨h1,h2,h3⟩
  have hr1:∀ x∈r,x=Lf.zero∨(1≤x.name∧x.name≤64):=fun x hx=>h1 x (List.mem_cons_of_mem _ hx)
  have hr3:∀ i j (hi:i<r.length) (hj:j<r.length),i<j→r[i].name≠0→r[i].name≠r[j].name:=fun i j hi hj hij hn=>by
   have:=h3 (i+1) (j+1) (by simpa using hi) (by simpa using hj) (by omega)
   simpa using this hn
  rcases h1 l (List.mem_cons_self ..) with hz|hz
  ·exact .inl ⟨hz,hr1,fun x hx=>h2 x (List.mem_cons_of_mem _ hx),hr3⟩
  ·refine .inr ⟨hz,h2 l (List.mem_cons_self ..) (by omega),hr1,fun x hx hn hm=>?_,hr3⟩
   rcases List.mem_cons.1 hm with e|hm
   ·obtain⟨j,hj,rfl⟩:=List.getElem_of_mem hx
    have:=h3 0 (j+1) (by simp) (by simpa using hj) (by omega)
    simp only[List.getElem_cons_zero,List.getElem_cons_succ]at this
    exact this (by omega) e.symm
   ·exact h2 x (List.mem_cons_of_mem _ hx) hn hm
 ·rintro(⟨hz,h1,h2,h3⟩|⟨hz,hs,h1,h2,h3⟩)
  ·refine⟨fun x hx=>?_,fun x hx hn=>?_,fun i j hi hj hij hn=>?_⟩
   ·rcases List.mem_cons.1 hx with rfl|hx
    ·exact .inl hz
    ·exact h1 x hx
   ·rcases List.mem_cons.1 hx with rfl|hx
    ·rw[hz]at hn
     exact absurd rfl hn
    ·exact h2 x hx hn
   ·cases i with
    | zero=>
      rw[List.getElem_cons_zero,hz]at hn
      exact absurd rfl hn
    | succ i=>
      obtain⟨j,rfl⟩:∃ k,j=k+1:=⟨j - 1,by omega⟩
      simp only[List.getElem_cons_succ]at hn ⊢
      exact h3 i j (by simpa using hi) (by simpa using hj) (by omega) hn
  ·refine⟨fun x hx=>?_,fun x hx hn=>?_,fun i j hi hj hij hn=>?_⟩
   ·rcases List.mem_cons.1 hx with rfl|hx
    ·exact .inr hz
    ·exact h1 x hx
   ·rcases List.mem_cons.1 hx with rfl|hx
    ·exact hs
    ·exact fun hm=>h2 x hx hn (List.mem_cons_of_mem _ hm)
   ·obtain⟨j,rfl⟩:∃ k,j=k+1:=⟨j - 1,by omega⟩
    have hj':j<r.length:=by simpa using hj
    cases i with
    | zero=>
      simp only[List.getElem_cons_zero,List.getElem_cons_succ]at hn ⊢
      intro e
      exact h2 r[j] (List.getElem_mem hj') (by omega) (by rw[← e];exact List.mem_cons_self ..)
    | succ i=>
      simp only[List.getElem_cons_succ]at hn ⊢
      exact h3 i j (by simpa using hi) hj' (by omega) hn
theorem Pp:∀ {s:List Int} {ls:List Lf},leavesB s ls=true↔lvsOk s ls
 | s,[]=>⟨fun _=>⟨fun _ h=>(by cases h),fun _ h=>(by cases h),fun i j hi=>(by cases hi)⟩,fun _=>rfl⟩
 | s,l::r=>by
   rw[aKy]
   unfold leavesB
   by_cases hz:l=Lf.zero
   ·rw[if_pos hz,Pp]
    constructor
    ·exact fun h=>.inl ⟨hz,h⟩
    ·rintro(⟨-,h⟩|⟨h,-⟩)
     ·exact h
     ·rw[hz]at h
      simp[Lf.zero]at h
   ·rw[if_neg hz,Bool.and_eq_true,decide_eq_true_eq,Pp]
    constructor
    ·exact fun⟨⟨h1,h2⟩,h3⟩=>.inr ⟨h1,h2,h3⟩
    ·rintro(⟨h,-⟩|⟨h1,h2,h3⟩)
     ·exact absurd h hz
     ·exact⟨⟨h1,h2⟩,h3⟩
theorem Tr.Rt.parts {t:Tr} (h:t.Rt):lvsOk [] t.ls∧∀ i (hi:i<t.ps.length),(t.ps[i].set=true∨t.ps[i].isZero)∧(∀ p∈t.ps[i].loose,hld t.size (2*i+1) p∧nameAt t.ls p≠0)∧t.ps[i].loose.Pairwise (·<·):=
 ⟨Pp.1 h.leaves,fun i hi=>by
  obtain⟨a,b⟩:=Mu h.par i hi
  obtain⟨c,d⟩:=Kv b
  rw[show(1:Int)+2*i=2*i+1 by omega]at c
  exact⟨a,fun p hp=>⟨(c p hp).1,(c p hp).2.1⟩,d⟩⟩
end Go.Proofs.YtgbenhmdamnmcaaGreat
namespace Go.Proofs.YtgbenhmdamnmcaaGreat
open Go.Proofs.Tryz
open Go.RowKit Go.Lib
end Go.Proofs.YtgbenhmdamnmcaaGreat
namespace Go.Proofs.YtgbenhmdamnmcaaGreat
open Go.Proofs.Tryz
open Go.RowKit Go.Lib
end Go.Proofs.YtgbenhmdamnmcaaGreat
namespace Go.Proofs.YtgbenhmdamnmcaaGreat
open Go.Proofs.Tryz
open Go.RowKit
end Go.Proofs.YtgbenhmdamnmcaaGreat
namespace Go.Proofs.YtgbenhmdamnmcaaGreat
open Go.Proofs.Tryz
open Go.RowKit Go.Lib
structure Ac where
 op:Int
 name:Int
 at_:Int
 key:Int
abbrev Ac.fds (x:Ac):List Fd:=[.one (.int .u8 x.op),.one (.int .i64 x.name),.one (.int .i64 x.at_),.one (.int .u8 x.key)]
abbrev Ac.leaf (x:Ac):Lf:=⟨x.name,hset (hset hzero 0 x.key) 1 1,hset (hset hzero 0 x.key) 1 2,hset hzero 0 (x.key%3)⟩
end Go.Proofs.YtgbenhmdamnmcaaGreat
namespace Go.Proofs.YtgbenhmdamnmcaaGreat
open Go.Proofs.Tryz
open Go.RowKit Go.Lib
end Go.Proofs.YtgbenhmdamnmcaaGreat
namespace Go.Proofs.YtgbenhmdamnmcaaGreat
open Go.Proofs.Tryz
open Go.RowKit Go.Lib
section
variable {H:Hp} {w0 w:World} {L R:List Res} {A B:Option Addr} {a b:Nat} {t:Tr} {v:Value}
theorem bAd (pl:Int) (pub:H32) (keys:List H32) {K:Option Addr} {kc:Nat} (hkl:keys.length≤1000000) (hK:Sl H 32 K (kfds keys)) (h:TrF H v t) (hf:Fz H w):Calls prog 154 #[v,.int .i64 pl,ha pub,.slice K keys.length kc] w (Outp H w fun H' r=>∃ v1,r=.tuple #[v1,.int .i64 (t.pathP pl pub keys).2]∧TrF H' v1 (t.pathP pl pub keys).1):=by
 obtain⟨A,a,B,b,q,rfl,h1,h2,h3⟩:=h.ex
 exact bAc pl pub keys (fun H' v1 r e k=>by rw[e];exact⟨v1,rfl,k⟩) hkl hK h1 h2 h3 h.len.1 h.len.2 hf
end
end Go.Proofs.YtgbenhmdamnmcaaGreat
namespace Go.Proofs.YtgbenhmdamnmcaaGreat
open Go.Proofs.Tryz
open Go.RowKit Go.Lib
end Go.Proofs.YtgbenhmdamnmcaaGreat
namespace Go.Proofs.YtgbenhmdamnmcaaGreat
open Go.Proofs.Tryz
open Go.RowKit Go.Lib
def resL:Nat→Tr→Int→List Int
 | 0,t,x=>if 0<(leafAt t (x / 2)).name then [x] else []
 | f+1,t,x=>if x%2=0 then (if 0<(leafAt t (x / 2)).name then [x] else []) else if (parAt t (x / 2)).set=true then x::(parAt t (x / 2)).loose.map (2*·) else resL f t (lf t.size x)++resL f t (rt t.size x)
theorem aPo {f:Nat} {t:Tr} {x:Int} (h:x%2=0):resL f t x=if 0<(leafAt t (x / 2)).name then [x] else []:=by
 cases f with
 | zero=>rfl
 | succ f=>rw[resL,if_pos h]
theorem aDo {t:Tr} {x:Int} (h:(x / 2).toNat<t.ps.length):parAt t (x / 2)=t.ps[(x / 2).toNat]:=by
 unfold parAt
 rw[List.getD_eq_getElem?_getD,List.getElem?_eq_getElem h]
 rfl
theorem Uo {t:Tr} (h:t.Rt):∀ (f:Nat) (x:Int),thr t.size x→(resL f t x).length≤65*2 ^ f
 | 0,x,_=>by
   unfold resL
   split <;> simp
 | f+1,x,ht=>by
   have hp:0<2 ^ f:=Nat.pow_pos (by decide)
   have h2:(2:Nat) ^ (f+1)=2 ^ f*2:=Nat.pow_succ 2 f
   unfold resL
   by_cases he:x%2=0
   ·rw[if_pos he]
    split <;> simp <;> omega
   ·rw[if_neg he]
    have hlen:=h.len
    obtain⟨k1,k2,k3⟩:=id ht
    have hts:t.size=t.ls.length:=rfl
    have hix:(x / 2).toNat<t.ps.length:=by omega
    by_cases hs:(parAt t (x / 2)).set=true
    ·rw[if_pos hs,aDo hix]
     have:=(h.loose _ (List.getElem_mem hix)).1
     simp only[List.length_cons,List.length_map]
     omega
    ·rw[if_neg hs]
     obtain⟨⟨t1,t2⟩,-⟩:=aBa ht (by omega)
     have:=Uo h f _ t1
     have:=Uo h f _ t2
     rw[List.length_append]
     omega
end Go.Proofs.YtgbenhmdamnmcaaGreat
namespace Go.Proofs.YtgbenhmdamnmcaaGreat
open Go.Proofs.Tryz
open Go.RowKit Go.Lib
theorem Sf (l:List Int) (x:Int):ints8 (l++[x])=ints8 l++[[.one (.int .i64 x)]]:=by simp[ints8]
section
variable {H:Hp} {w0 w:World} {L R:List Res} {A B K:Option Addr} {a b kc gt go gw gn:Nat} {t:Tr} {qs:List (List Fd)}
theorem aBe {f:Nat} {x:Int} (hR:t.Rt) (h1:Sl H 97 A (t.ls.map Lf.fds)) (he:x%2=0) (ht:thr t.size x) (out:List Int) (ho:out.length≤100000) (hM:Mem H w0 (fb gt 58 (tfd A t.ls.length a B t.ps.length b)::fb go 133 [.one (.slice K out.length kc)]::fb gw 150 [.one (.func (.func 210) #[] #[.pointer (some ⟨gt,0,none⟩),.pointer (some ⟨go,0,none⟩),.pointer (some ⟨gw,0,none⟩),.pointer (some ⟨gn,0,none⟩)])]::fb gn 3 [.one (.int .i64 t.ls.length)]::rowR 3 1 K out.length kc (ints8 (out))::L) w):
  Calls prog 210 #[.int .i64 x,.pointer (some ⟨gt,0,none⟩),.pointer (some ⟨go,0,none⟩),.pointer (some ⟨gw,0,none⟩),.pointer (some ⟨gn,0,none⟩)] w fun en w'=>∃ v,en=.returned v∧v=.tuple #[]∧∃ K' kc',Mem H w0 (fb gt 58 (tfd A t.ls.length a B t.ps.length b)::fb go 133 [.one (.slice K' (out++resL f t x).length kc')]::fb gw 150 [.one (.func (.func 210) #[] #[.pointer (some ⟨gt,0,none⟩),.pointer (some ⟨go,0,none⟩),.pointer (some ⟨gw,0,none⟩),.pointer (some ⟨gn,0,none⟩)])]::fb gn 3 [.one (.int .i64 t.ls.length)]::rowR 3 1 K' (out++resL f t x).length kc' (ints8 (out++resL f t x))::L) w':=by
 have hlen:=hR.len
 have hts:t.size=t.ls.length:=rfl
 obtain⟨k1,k2,k3⟩:=id ht
 have hix:(x / 2).toNat<t.ls.length:=by omega
 have hla:leafAt t (x / 2)=t.ls[(x / 2).toNat]:=by
  unfold leafAt
  rw[List.getD_eq_getElem?_getD,List.getElem?_eq_getElem hix]
  rfl
 rw[aPo he,hla]
 refine Mp ?_
 unfold Ho
 (((refine Ab ?_ ?_));(focus omega);((refine Bt trivial ?_ ?_));(focus (first|assumption|omega|with_reducible rfl|exact fun h=>Bool.noConfusion h));((refine Am ?_;refine Ab trivial ?_;refine An hM ?_;refine Ab ?_ ?_));(focus omega);(refine Ci ‹_› ?_ ?_ ?_);(focus (simp only[List.length_map];omega));(focus (simp only[List.length_map];first|done|omega));((intro _ _ hA));(cases hA);((refine Ab trivial ?_));(refine Ip hM ‹_› (Ct ?_) ?_);(focus omega))
 (((refine Aw trivial ?_ ?_)))
 ·intro hn
  rw[if_pos hn,List.length_append,List.length_singleton,Sf]
  (((refine Am ?_;refine An hM ?_;refine Bx hM ?_ ?_ ?_));(focus rfl);(focus (constructor <;> simp));((clear hM;intro _ _ hM;refine Co hM ?_ ?_));(focus omega);((clear hM;intro _ _ _ hM;refine Az hM ?_;clear hM;intro _ hM)))
  rename_i A2 c2 _ _
  exact⟨_,rfl,rfl,A2,c2,hM.sub⟩
 ·intro hn
  rw[if_neg hn,List.append_nil]
  (((refine Aj ?_)))
  exact⟨_,rfl,rfl,K,kc,hM⟩
theorem aIc (hR:t.Rt) (h1:Sl H 97 A (t.ls.map Lf.fds)) (h2:Sl H 66 B qs) (h3:All2 (PnF H) qs t.ps):∀ (f:Nat) (x:Int),level x≤f→f≤8→thr t.size x→∀ (out:List Int) (K:Option Addr) (kc:Nat) (w:World),out.length+65*2 ^ f≤50000→Mem H w0 (fb gt 58 (tfd A t.ls.length a B t.ps.length b)::fb go 133 [.one (.slice K out.length kc)]::fb gw 150 [.one (.func (.func 210) #[] #[.pointer (some ⟨gt,0,none⟩),.pointer (some ⟨go,0,none⟩),.pointer (some ⟨gw,0,none⟩),.pointer (some ⟨gn,0,none⟩)])]::fb gn 3 [.one (.int .i64 t.ls.length)]::rowR 3 1 K out.length kc (ints8 (out))::L) w →
  Calls prog 210 #[.int .i64 x,.pointer (some ⟨gt,0,none⟩),.pointer (some ⟨go,0,none⟩),.pointer (some ⟨gw,0,none⟩),.pointer (some ⟨gn,0,none⟩)] w fun en w'=>∃ v,en=.returned v∧v=.tuple #[]∧∃ K' kc',Mem H w0 (fb gt 58 (tfd A t.ls.length a B t.ps.length b)::fb go 133 [.one (.slice K' (out++resL f t x).length kc')]::fb gw 150 [.one (.func (.func 210) #[] #[.pointer (some ⟨gt,0,none⟩),.pointer (some ⟨go,0,none⟩),.pointer (some ⟨gw,0,none⟩),.pointer (some ⟨gn,0,none⟩)])]::fb gn 3 [.one (.int .i64 t.ls.length)]::rowR 3 1 K' (out++resL f t x).length kc' (ints8 (out++resL f t x))::L) w':=by
 have hlen:=hR.len
 have hts:t.size=t.ls.length:=rfl
 have hq:qs.length=t.ps.length:=h3.len
 intro f
 induction f with
 | zero=>
   intro x hx _ ht out K kc w ho hM
   have he:x%2=0:=by
    have:=aDl x
    omega
   exact aBe hR h1 he ht out (by omega) hM
 | succ f ih=>
   intro x hx hf8 ht out K kc w ho hM
   have hp2:0<2 ^ f:=Nat.pow_pos (by decide)
   have h22:(2:Nat) ^ (f+1)=2 ^ f*2:=Nat.pow_succ 2 f
   generalize (2:Nat) ^ (f+1)=q2 at *
   by_cases he:x%2=0
   ·exact aBe hR h1 he ht out (by omega) hM
   have hodd:x%2=1:=by omega
   obtain⟨k1,k2,k3⟩:=id ht
   obtain⟨⟨t1,t2⟩,⟨l1,l2⟩,-⟩:=aBa ht hodd
   have hix:(x / 2).toNat<t.ps.length:=by omega
   obtain⟨q,hq1,C,c,rfl,hC,hcl⟩:=h3.at_ (i:=(x / 2).toNat) hix
   obtain⟨p,hpe⟩:∃ p,t.ps[(x / 2).toNat]=p:=⟨_,rfl⟩
   have hpa:parAt t (x / 2)=p:=by
    unfold parAt
    rw[List.getD_eq_getElem?_getD,List.getElem?_eq_getElem hix,hpe]
    rfl
   have hlo:=hR.loose p (hpe ▸ List.getElem_mem _)
   obtain⟨-,hd,-⟩:=hR.parts.2 _ hix
   rw[hpe]at hq1 hC hcl hd
   have hres:resL (f+1) t x=if p.set=true then x::p.loose.map (2*·) else resL f t (lf t.size x)++resL f t (rt t.size x):=by
    rw[resL,if_neg he,hpa]
   rw[hres]
   refine Mp ?_
   unfold Ho
   (((refine Ab ?_ ?_));(focus omega);((refine Bm trivial ?_ ?_));(focus (first|assumption|omega|with_reducible rfl|exact fun h=>Bool.noConfusion h));((refine Aj ?_;refine Ab trivial ?_;refine An hM ?_;refine Ab ?_ ?_));(focus omega))
   refine Ci h2 (by omega) hq.symm (fun bb oo hB=>?_)
   cases hB
   (((refine Ab trivial ?_)))
   refine Cb hM h2 hq1 ?_
   rcases Bool.eq_false_or_eq_true p.set with hset|hset
   ·rw[hset,if_pos rfl]
    (((refine Am ?_;refine An hM ?_;refine Bx hM ?_ ?_ ?_));(focus rfl);(focus (constructor <;> simp));((clear hM;intro _ _ hM;refine Co hM ?_ ?_));(focus omega);((clear hM;intro _ _ _ hM;refine Az hM ?_;clear hM;intro _ hM;refine Ab trivial ?_;refine An hM ?_;refine Ab ?_ ?_));(focus omega);((refine Ab ?_ ?_));(focus omega);((refine Ab trivial ?_)))
    rename_i A2 c2 _ _
    refine Ip hM h2 hq1 ?_
    (((refine Ab trivial ?_)))
    refine⟨fun v w'=>∃ (k:Nat) (K':Option Addr) (kc':Nat),v=.int .i64 k∧k≤p.loose.length∧Mem H w0 (fb gt 58 (tfd A t.ls.length a (some ⟨bb,oo,none⟩) t.ps.length b)::fb go 133 [.one (.slice K' (out++x::(p.loose.take k).map (2*·)).length kc')]::fb gw 150 [.one (.func (.func 210) #[] #[.pointer (some ⟨gt,0,none⟩),.pointer (some ⟨go,0,none⟩),.pointer (some ⟨gw,0,none⟩),.pointer (some ⟨gn,0,none⟩)])]::fb gn 3 [.one (.int .i64 t.ls.length)]::rowR 3 1 K' (out++x::(p.loose.take k).map (2*·)).length kc' (ints8 (out++x::(p.loose.take k).map (2*·)))::L) w',fun v _=>match v with | .int _ k=>p.loose.length - k.toNat|_=>0,⟨0,A2,c2,rfl,by omega,?_⟩,?_⟩
    ·rw[List.take_zero,List.map_nil,List.length_append,List.length_singleton,Sf]
     exact hM.sub
    clear hM
    rintro v u w3 ⟨k,K',kc',rfl,hk,hM⟩
    have hol:(out++x::(p.loose.take k).map (2*·)).length=out.length+(k+1):=by
     simp
     omega
    (((refine Aw trivial ?_ ?_)))
    ·intro hlt
     have hlt':k<p.loose.length:=by omega
     have e1:=aAt (l:=p.loose) (i:=k) hlt'
     have hq:=Ul (hd _ (List.getElem_mem hlt')).1
     (((refine Am ?_));(refine Ci ‹_› ?_ ?_ ?_);(focus (simp only[List.length_map];omega));(focus (simp only[List.length_map];first|done|omega));((intro _ _ hA));(cases hA);(refine Cb hM ‹_› (By ?_) ?_);(focus omega);((refine An hM ?_;refine Ab ?_ ?_));(focus omega);((refine Bx hM ?_ ?_ ?_));(focus rfl);(focus (constructor <;> simp));((clear hM;intro _ _ hM;refine Co hM ?_ ?_));(focus omega);((clear hM;intro _ _ _ hM;refine Az hM ?_;clear hM;intro _ hM;refine Ab ?_ ?_));(focus omega))
     rename_i A3 c3 _ _
     refine⟨⟨k+1,A3,c3,rfl,by omega,?_⟩,by simp only;omega⟩
     have e:out++x::(p.loose.take (k+1)).map (2*·)=(out++x::(p.loose.take k).map (2*·))++[2*p.loose[k]]:=by
      rw[List.take_succ_eq_append_getElem hlt',List.map_append,List.append_assoc]
      rfl
     rw[e,List.length_append,List.length_singleton,Sf]
     exact hM.sub
    ·intro hge
     obtain rfl:k=p.loose.length:=by omega
     rw[List.take_length]at hM
     (((refine Aj ?_)))
     exact⟨_,rfl,rfl,_,_,hM⟩
   ·rw[hset,if_neg (by simp)]
    have z1:=Uo hR f _ t1
    (((refine Aj ?_;refine Ba hM ?_;refine Ba hM ?_;refine Bs hM ?_ (fun _ _ hM=>?_)));(focus (first|exact trivial|assumption|omega)))
    refine aGm hM (fun w hM=>?_)
    refine En (ih (lf t.size x) (by omega) (by omega) t1 out K kc w (by omega) hM) ?_
    rintro e w' ⟨v,rfl,rfl,K1,kc1,hM⟩
    dsimp only
    (((refine Bc hM ?_;clear hM;intro _ hM;refine Ba hM ?_;refine Ba hM ?_;refine Bs hM ?_ (fun _ _ hM=>?_)));(focus (first|exact trivial|assumption|omega)))
    refine aGm hM (fun w hM=>?_)
    refine En (ih (rt t.size x) (by omega) (by omega) t2 (out++resL f t (lf t.size x)) K1 kc1 w (by rw[List.length_append];omega) hM) ?_
    rintro e w' ⟨v,rfl,rfl,K2,kc2,hM⟩
    dsimp only
    (((refine Bc hM ?_;clear hM;intro _ hM)))
    rw[← List.append_assoc]
    exact⟨_,rfl,rfl,_,_,hM⟩
def resT (t:Tr) (x:Int):List Int:=if thr t.size x then resL 8 t x else []
theorem aId (x:Int) (hx:x≤1000) (hR:t.Rt) {v:Value} (h:TrF H v t) (hf:Fz H w):Calls prog 187 #[v,.int .i64 x] w fun en w'=>∃ r,en=.returned r∧∃ K kc,r=.slice K (resT t x).length kc∧Mem H w [rowR 3 1 K (resT t x).length kc (ints8 (resT t x))] w':=by
 obtain⟨A,a,B,b,q,rfl,h1,h2,h3⟩:=h.ex
 obtain⟨w1,hw1⟩:∃ w1,w1=w:=⟨_,rfl⟩
 rw[← hw1]
 rw[← hw1]at hf
 have hlen:=hR.len
 have hts:t.size=t.ls.length:=rfl
 have hM:=Mem.start hf
 refine aAk ?_
 unfold Pd
 (((refine Bh hM ?_;clear hM;intro _ _ hM;refine An hM ?_)))
 rename_i g1 _
 refine Bn hM (Um h1 h2 h3 h.len.1 h.len.2 hM.fz) (fun w hM=>?_)
 rw[if_pos (Tr.rt.2 hR)]
 (((refine Az hM ?_;clear hM;intro _ hM;refine Ab trivial ?_;refine An hM ?_;refine Ab trivial ?_;refine Bf hM ?_;clear hM;intro _ _ hM;refine Az hM ?_;clear hM;intro _ hM;refine Bf hM ?_;clear hM;intro _ _ hM;refine Bf hM ?_;clear hM;intro _ _ hM;refine Ab trivial ?_;refine Az hM ?_;clear hM;intro _ hM)))
 rename_i _ g2 _ _ g3 _ g4 _ _
 refine⟨fun w'=>∃ K kc,Mem H w1 [fb g3 133 [.one (.slice K (resT t x).length kc)],rowR 3 1 K (resT t x).length kc (ints8 (resT t x))] w',?_,?_⟩
 ·refine⟨fun v w'=>v=.bool (decide (thr t.size x))∧hM.now w',?_,?_⟩
  ·(((refine Aw trivial ?_ ?_)))
   ·intro c1
    (((refine Ae ?_;refine Ab trivial ?_;refine Ae ?_;refine An hM ?_;refine Ae ?_;refine Ab ?_ ?_));(focus omega);((refine Ae ?_;refine Ab ?_ ?_));(focus omega);((refine Ae ?_)))
    refine⟨?_,hM⟩
    rw[if_pos rfl,Value.bool.injEq,decide_eq_decide]
    unfold thr
    omega
   ·intro c1
    ((((iterate 5 refine Bv ?_);refine Ab trivial ?_)))
    exact⟨by rw[decide_eq_false (by unfold thr;omega)],hM⟩
  rintro v u w2 ⟨rfl,hM⟩
  by_cases c:thr t.size x
  ·rw[decide_eq_true c]
   have hr:resT t x=resL 8 t x:=if_pos c
   rw[hr]
   have h0:Mem H w1 (rowR 3 1 none 0 0 (ints8 [])::_) _:=hM.row0 3 1
   have hM:Mem H w1 (fb g1 58 (tfd A t.ls.length a B t.ps.length b)::fb g3 133 [.one (.slice none 0 0)]::fb g4 150 [.one (.func (.func 210) #[] #[.pointer (some ⟨g1,0,none⟩),.pointer (some ⟨g3,0,none⟩),.pointer (some ⟨g4,0,none⟩),.pointer (some ⟨g2,0,none⟩)])]::fb g2 3 [.one (.int .i64 t.ls.length)]::rowR 3 1 none 0 0 (ints8 [])::[]) _:=h0.sub
   (((refine Am ?_;refine An hM ?_)))
   refine En (aIc (t:=t) hR h1 h2 h3 8 x (by have:=Yh 8 x;unfold level;omega) (by omega) c [] none 0 _ (by simp) hM) ?_
   rintro e w' ⟨v,rfl,rfl,K1,kc1,hM⟩
   dsimp only
   rw[List.nil_append]at hM
   skip
   exact⟨K1,kc1,hM.sub⟩
  ·rw[decide_eq_false c]
   have hr:resT t x=[]:=if_neg c
   rw[hr]
   (((refine Aj ?_)))
   have h0:Mem H w1 (rowR 3 1 none 0 0 (ints8 [])::_) _:=hM.row0 3 1
   exact⟨none,0,h0.sub⟩
 clear hM
 rintro u w2 ⟨K,kc,hM⟩
 (((refine An hM ?_)))
 have hM:Mem H w1 [rowR 3 1 K (resT t x).length kc (ints8 (resT t x))] _:=hM.sub
 exact⟨_,rfl,K,kc,rfl,hM⟩
end
end Go.Proofs.YtgbenhmdamnmcaaGreat
namespace Go.Proofs.YtgbenhmdamnmcaaGreat
open Go.Proofs.Tryz
open Go.RowKit
section
variable {P:Program} {H K:Hp} {w0 w w':World} {L R:List Res} {t:TypeId} {fs:List Fd} {Kt:Value→World→Prop} {X:List PanicEntry→World→Prop}
theorem aYn {tt:TypeId} {q e:Bool} {n i k:Nat} {v:Value} {gs fs':List Fd} {put:Res→List Res} (h:Mem H w0 L w) [c:ShpC P t q n] [a:AtB L k tt fs put] [f:Vf v n gs] [p:Put fs i gs fs'] (hF:Fz K w) (hn:K k=none) (hk:∀ w',Mem H w0 (put (fb k tt fs')) w'→Fz K w'→Kt undef w'):
  dfS P (Rl.fz K) w (Ai t (.pointer (some ⟨k,i,none⟩)) v) e Kt:=⟨fun w1 hd=>by
 refine Fc ((aAp (K:=fun u w2=>u=undef∧Mem H w0 (put (fb k tt fs')) w2) h fun w2 h2=>⟨rfl,h2⟩).out w1 hd) ?_ (fun _ _ h=>h)
 rintro u w2 ⟨h1,rfl,h2⟩
 have ho:=h1 rfl
 have hz:Fz K w2:=hF.same fun b c hb=>ho.block _ (hF.lt hb) (by
  rintro rfl
  rw[hn]at hb
  cases hb)
 exact⟨fun _ _=>hz,hk w2 h2 hz⟩⟩
end
end Go.Proofs.YtgbenhmdamnmcaaGreat
namespace Go.Proofs.YtgbenhmdamnmcaaGreat
open Go.Proofs.Tryz
open Go.RowKit
structure SW {α:Type} (lt:α→α→Bool):Prop where
 irr:∀ x,lt x x=false
 tra:∀ x y z,lt x y=true→lt y z=true→lt x z=true
 neg:∀ x y z,lt x y=false→lt y z=false→lt x z=false
section
variable {α:Type} {lt:α→α→Bool}
theorem SW.asy (h:SW lt) {x y:α} (k:lt x y=true):lt y x=false:=by
 cases hc:lt y x
 ·rfl
 ·have:=h.tra x y x k hc
  rw[h.irr]at this
  cases this
def tl (lt:α→α→Bool) (p q:α × Nat):Prop:=lt p.1 q.1=true∨(lt q.1 p.1=false∧p.2<q.2)
theorem SW.tlt (h:SW lt) {p q r:α × Nat} (a:tl lt p q) (b:tl lt q r):tl lt p r:=by
 rcases a with a|⟨a,a2⟩ <;> rcases b with b|⟨b,b2⟩
 ·exact .inl (h.tra _ _ _ a b)
 ·refine .inl ?_
  cases hc:lt p.1 r.1
  ·rw[h.neg _ _ _ hc b]at a
   cases a
  ·rfl
 ·refine .inl ?_
  cases hc:lt p.1 r.1
  ·rw[h.neg _ _ _ a hc]at b
   cases b
  ·rfl
 ·exact .inr ⟨h.neg _ _ _ b a,by omega⟩
theorem SW.tla (h:SW lt) {p q:α × Nat} (a:tl lt p q) (b:tl lt q p):False:=by
 rcases a with a|⟨a,a2⟩ <;> rcases b with b|⟨b,b2⟩
 ·have:=h.asy a
  rw[this]at b
  cases b
 ·rw[b]at a
  cases a
 ·rw[a]at b
  cases b
 ·omega
theorem aIe (p q:α × Nat) (h:lt q.1 p.1=false) (ht:p.2<q.2):tl lt p q:=.inr ⟨h,ht⟩
def insB (lt:α→α→Bool) (x:α):List α→List α
 | []=>[x]
 | y::r=>if lt x y then x::y::r else y::insB lt x r
def srtB (lt:α→α→Bool) (l:List α):List α:=l.foldl (fun acc x=>insB lt x acc) []
abbrev ltT (lt:α→α→Bool):α × Nat→α × Nat→Bool:=fun p q=>lt p.1 q.1
theorem aIf (x:α × Nat):∀ T:List (α × Nat),(insB (ltT lt) x T).map (·.1)=insB lt x.1 (T.map (·.1))
 | []=>rfl
 | y::r=>by
   simp only[insB,List.map_cons]
   split <;> simp[aIf x r]
theorem Mx (x:α):∀ T:List α,(insB lt x T).Perm (x::T)
 | []=>.refl _
 | y::r=>by
   simp only[insB]
   split
   ·exact .refl _
   ·exact((Mx x r).cons y).trans (.swap ..)
theorem aMu (h:SW lt) {x:α × Nat}:∀ {T:List (α × Nat)},T.Pairwise (tl lt)→(∀ y∈T,y.2<x.2)→(insB (ltT lt) x T).Pairwise (tl lt)
 | [],_,_=>by simp[insB]
 | y::r,hp,ht=>by
   obtain⟨h1,h2⟩:=List.pairwise_cons.1 hp
   simp only[insB]
   split
   ·rename_i hc
    refine List.pairwise_cons.2 ⟨fun z hz=>?_,hp⟩
    rcases List.mem_cons.1 hz with rfl|hz
    ·exact .inl hc
    ·exact h.tlt (.inl hc) (h1 z hz)
   ·rename_i hc
    refine List.pairwise_cons.2 ⟨fun z hz=>?_,aMu h h2 fun z hz=>ht z (List.mem_cons_of_mem _ hz)⟩
    rcases List.mem_cons.1 ((Mx x r).mem_iff.1 hz) with rfl|hz
    ·exact aIe _ _ (by simpa using hc) (ht y (List.mem_cons_self ..))
    ·exact h1 z hz
theorem foldT (h:SW lt):∀ (P acc:List (α × Nat)),acc.Pairwise (tl lt)→P.Pairwise (fun p q=>p.2<q.2)→(∀ y∈acc,∀ p∈P,y.2<p.2) →
  (P.foldl (fun a x=>insB (ltT lt) x a) acc).Pairwise (tl lt)∧(P.foldl (fun a x=>insB (ltT lt) x a) acc).Perm (acc++P)∧(P.foldl (fun a x=>insB (ltT lt) x a) acc).map (·.1)=(P.map (·.1)).foldl (fun a x=>insB lt x a) (acc.map (·.1))
 | [],acc,ha,_,_=>⟨ha,by simp,rfl⟩
 | p::r,acc,ha,hp,ht=>by
   obtain⟨h1,h2⟩:=List.pairwise_cons.1 hp
   have hperm:=Mx (lt:=ltT lt) p acc
   obtain⟨k1,k2,k3⟩:=foldT h r (insB (ltT lt) p acc) (aMu h ha fun y hy=>ht y hy p (List.mem_cons_self ..)) h2 (fun y hy q hq=>by
    rcases List.mem_cons.1 (hperm.mem_iff.1 hy) with rfl|hy
    ·exact h1 q hq
    ·exact ht y hy q (List.mem_cons_of_mem _ hq))
   refine⟨k1,?_,?_⟩
   ·exact k2.trans ((hperm.append_right r).trans (List.perm_middle.symm))
   ·rw[List.foldl_cons,k3,List.map_cons,List.foldl_cons,aIf]
theorem bAe (h:SW lt) {l:List α} {T:List (α × Nat)} (hp:T.Perm l.zipIdx) (hs:T.Pairwise (tl lt)):T.map (·.1)=srtB lt l:=by
 have ht:(l.zipIdx).Pairwise (fun p q=>p.2<q.2):=by
  have h2:(l.zipIdx.map (·.2)).Pairwise (·<·):=by
   rw[List.zipIdx_map_snd]
   exact List.pairwise_lt_range'
  exact List.pairwise_map.1 h2
 obtain⟨k1,k2,k3⟩:=foldT h l.zipIdx [] .nil ht (fun _ hy=>by cases hy)
 have e:T=(l.zipIdx).foldl (fun a x=>insB (ltT lt) x a) []:=by
  refine List.Perm.eq_of_pairwise (fun a b _ _ hab hba=>(h.tla hab hba).elim) hs k1 (hp.trans ?_)
  simpa using k2.symm
 rw[e,k3,List.zipIdx_map_fst]
 rfl
def okR (lt:α→α→Bool) (U0 U:List (α × Nat)):Prop:=U.Perm U0∧U.Pairwise (tl lt)
inductive Runs (lt:α→α→Bool) (bs:Nat):List (α × Nat)→List (α × Nat)→Prop
 | last {U0 U:List (α × Nat)} (h:okR lt U0 U) (hl:U.length≤bs):Runs lt bs U0 U
 | cons {U0 U R0 R:List (α × Nat)} (h:okR lt U0 U) (hl:U.length=bs) (hr:Runs lt bs R0 R):Runs lt bs (U0++R0) (U++R)
inductive RunsF (lt:α→α→Bool) (bs:Nat):List (α × Nat)→List (α × Nat)→Prop
 | nil:RunsF lt bs [] []
 | snoc {A0 A U0 U:List (α × Nat)} (ha:RunsF lt bs A0 A) (h:okR lt U0 U) (hl:U.length=bs):RunsF lt bs (A0++U0) (A++U)
theorem RunsF.app {bs:Nat} {A0 A:List (α × Nat)} (h:RunsF lt bs A0 A):∀ {R0 R:List (α × Nat)},Runs lt bs R0 R→Runs lt bs (A0++R0) (A++R):=by
 induction h with
 | nil=>exact fun h=>h
 | snoc ha h hl ih=>
   intro R0 R hr
   rw[List.append_assoc,List.append_assoc]
   exact ih (.cons h hl hr)
theorem Runs.len {bs:Nat} {R0 R:List (α × Nat)} (h:Runs lt bs R0 R):R0.length=R.length:=by
 induction h with
 | last h hl=>exact h.1.length_eq.symm
 | cons h hl hr ih=>rw[List.length_append,List.length_append,ih,h.1.length_eq]
theorem RunsF.len {bs:Nat} {R0 R:List (α × Nat)} (h:RunsF lt bs R0 R):R0.length=R.length:=by
 induction h with
 | nil=>rfl
 | snoc ha h hl ih=>rw[List.length_append,List.length_append,ih,h.1.length_eq]
theorem Runs.short {bs:Nat} {R0 R:List (α × Nat)} (h:Runs lt bs R0 R) (hl:R.length≤bs):okR lt R0 R:=by
 cases h with
 | last h _=>exact h
 | cons h hu hr=>
   rename_i U0 U R0 R
   have hz:R=[]:=List.eq_nil_of_length_eq_zero (by rw[List.length_append]at hl;omega)
   have hz0:R0=[]:=List.eq_nil_of_length_eq_zero (by rw[hr.len,hz];rfl)
   rw[hz,hz0,List.append_nil,List.append_nil]
   exact h
theorem okR.nil:okR lt ([]:List (α × Nat)) []:=⟨.refl _,.nil⟩
theorem Runs.first {bs:Nat} {R0 R:List (α × Nat)} (h:Runs lt bs R0 R) (hl:bs≤R.length):∃ U0 U S0 S,R0=U0++S0∧R=U++S∧okR lt U0 U∧U.length=bs∧Runs lt bs S0 S:=by
 cases h with
 | last h hu=>exact⟨R0,R,[],[],by simp,by simp,h,by omega,.last .nil (by simp)⟩
 | cons h hu hr=>exact⟨_,_,_,_,rfl,rfl,h,hu,hr⟩
theorem bAf (h:SW lt) {X Y:List (α × Nat)} {x:α × Nat} (hp:(X++Y).Pairwise (tl lt)) (hy:∀ y∈Y,tl lt x y) (hx:X=[]∨∃ X' y,X=X'++[y]∧tl lt y x):(X++x::Y).Pairwise (tl lt):=by
 obtain⟨h1,h2,h3⟩:=List.pairwise_append.1 hp
 refine List.pairwise_append.2 ⟨h1,List.pairwise_cons.2 ⟨hy,h2⟩,fun u hu v hv=>?_⟩
 rcases List.mem_cons.1 hv with rfl|hv
 ·rcases hx with rfl|⟨X',y,rfl,hxy⟩
  ·cases hu
  ·rcases List.mem_append.1 hu with hu|hu
   ·exact h.tlt ((List.pairwise_append.1 h1).2.2 u hu y (by simp)) hxy
   ·rw[List.mem_singleton.1 hu]
    exact hxy
 ·exact h3 u hu v hv
theorem aMv (h:SW lt) {X Y:List (α × Nat)} (h1:X.Pairwise (tl lt)) (h2:Y.Pairwise (tl lt)) (hx:X=[]∨Y=[]∨∃ X' x y Y',X=X'++[x]∧Y=y::Y'∧tl lt x y):(X++Y).Pairwise (tl lt):=by
 refine List.pairwise_append.2 ⟨h1,h2,fun u hu v hv=>?_⟩
 rcases hx with rfl|rfl|⟨X',x,y,Y',rfl,rfl,hxy⟩
 ·cases hu
 ·cases hv
 ·have a:u=x∨tl lt u x:=by
   rcases List.mem_append.1 hu with hu|hu
   ·exact .inr ((List.pairwise_append.1 h1).2.2 u hu x (by simp))
   ·exact .inl (List.mem_singleton.1 hu)
  have b:v=y∨tl lt y v:=by
   rcases List.mem_cons.1 hv with hv|hv
   ·exact .inl hv
   ·exact .inr ((List.pairwise_cons.1 h2).1 v hv)
  rcases a with rfl|a <;> rcases b with rfl|b
  ·exact hxy
  ·exact h.tlt hxy b
  ·exact h.tlt a hxy
  ·exact h.tlt a (h.tlt hxy b)
theorem Up {X Y:List (α × Nat)} (h:(X++Y).Pairwise (tl lt)):∀ u∈X,∀ v∈Y,tl lt u v:=(List.pairwise_append.1 h).2.2
theorem aXb (h:SW lt) {U1 U2 V1 V2 M1 M2:List (α × Nat)} (hu:(U1++U2).Pairwise (tl lt)) (hv:(V1++V2).Pairwise (tl lt)) (p1:M1.Perm (U1++V1)) (p2:M2.Perm (U2++V2)) (s1:M1.Pairwise (tl lt)) (s2:M2.Pairwise (tl lt))
  (c1:U1=[]∨V2=[]∨∃ X' x y Y',U1=X'++[x]∧V2=y::Y'∧tl lt x y) (c2:V1=[]∨U2=[]∨∃ X' x y Y',V1=X'++[x]∧U2=y::Y'∧tl lt x y):(M1++M2).Pairwise (tl lt):=by
 have a1:=Up (aMv h (List.pairwise_append.1 hu).1 (List.pairwise_append.1 hv).2.1 c1)
 have a2:=Up (aMv h (List.pairwise_append.1 hv).1 (List.pairwise_append.1 hu).2.1 c2)
 have a3:=Up hu
 have a4:=Up hv
 refine List.pairwise_append.2 ⟨s1,s2,fun x hx y hy=>?_⟩
 rcases List.mem_append.1 (p1.mem_iff.1 hx) with hx|hx <;> rcases List.mem_append.1 (p2.mem_iff.1 hy) with hy|hy
 ·exact a3 x hx y hy
 ·exact a1 x hx y hy
 ·exact a2 x hx y hy
 ·exact a4 x hx y hy
theorem aMw {β:Type} (P Q S:List β) (x y:β) {i j:Nat} (hi:i=P.length) (hj:j=P.length+1+Q.length):((P++x::(Q++y::S)).set i y).set j x=P++y::(Q++x::S):=by
 subst hi
 subst hj
 rw[List.set_append_right _ _ (Nat.le_refl _),Nat.sub_self,List.set_cons_zero,List.set_append_right _ _ (by omega),show P.length+1+Q.length - P.length=Q.length+1 by omega,List.set_cons_succ,List.set_append_right _ _ (Nat.le_refl _),Nat.sub_self,List.set_cons_zero]
theorem aTy {β:Type} (P Q S:List β) (x y:β) {i j:Nat} (hi:i=P.length) (hj:j=P.length+1+Q.length):((P++x::(Q++y::S)).set j x).set i y=P++y::(Q++x::S):=by
 rw[List.set_comm _ _ (by omega)]
 exact aMw P Q S x y hi hj
theorem aIg {β:Type} (P Q S:List β) (x y:β) {i:Nat} (hi:i=P.length) (h:i<(P++x::(Q++y::S)).length):(P++x::(Q++y::S))[i]=x:=by
 subst hi
 simp
theorem aIh {β:Type} (P Q S:List β) (x y:β) {j:Nat} (hj:j=P.length+1+Q.length) (h:j<(P++x::(Q++y::S)).length):(P++x::(Q++y::S))[j]=y:=by
 subst hj
 rw[List.getElem_append_right (by omega)]
 simp only[show P.length+1+Q.length - P.length=Q.length+1 by omega,List.getElem_cons_succ]
 rw[List.getElem_append_right (by omega)]
 simp
end
end Go.Proofs.YtgbenhmdamnmcaaGreat
namespace Go.Proofs.YtgbenhmdamnmcaaGreat
open Go.Proofs.Tryz
open Go.RowKit
section
variable {α:Type} {key:α→Int}
abbrev ltU (key:α→Int):α→α→Bool:=fun x y=>decide (key x<key y)
theorem bAg (key:α→Int):SW (ltU key):=⟨fun x=>by simp,fun x y z h1 h2=>by simp only[decide_eq_true_eq]at *;omega,fun x y z h1 h2=>by simp only[decide_eq_false_iff_not]at *;omega⟩
def cpt (key:α→Int):α→List α→List α
 | x,[]=>[x]
 | x,y::r=>if key x=key y then cpt key x r else x::cpt key y r
def cptL (key:α→Int):List α→List α
 | []=>[]
 | x::r=>cpt key x r
def insU (key:α→Int) (x:α):List α→List α
 | []=>[x]
 | y::r=>if key y<key x then y::insU key x r else if key y=key x then y::r else x::y::r
theorem aIi (y:α):∀ S:List α,∃ r,cpt key y S=y::r
 | []=>⟨[],rfl⟩
 | z::R=>by
   unfold cpt
   split
   ·exact aIi y R
   ·exact⟨_,rfl⟩
theorem aIj {x y:α} {S:List α} (h:key x<key y):insU key x (cpt key y S)=x::cpt key y S:=by
 obtain⟨r,e⟩:=aIi (key:=key) y S
 rw[e]
 simp only[insU]
 rw[if_neg (by omega),if_neg (by omega)]
theorem aFs (x:α):∀ (S:List α) (y:α),(y::S).Pairwise (fun a b=>key a≤key b)→key y≤key x→cpt key y (insB (ltU key) x S)=insU key x (cpt key y S)
 | [],y,_,h=>by
   simp only[insB,cpt,insU]
   by_cases e:key y=key x
   ·rw[if_pos e,if_neg (by omega),if_pos e]
   ·rw[if_neg e,if_pos (by omega)]
 | z::R,y,hp,h=>by
   obtain⟨h1,h2⟩:=List.pairwise_cons.1 hp
   have hyz:=h1 z (List.mem_cons_self ..)
   simp only[insB]
   by_cases hxz:key x<key z
   ·rw[if_pos (decide_eq_true hxz)]
    have e1:cpt key y (z::R)=y::cpt key z R:=if_neg (by omega)
    have e2:cpt key x (z::R)=x::cpt key z R:=if_neg (by omega)
    by_cases e:key y=key x
    ·rw[show cpt key y (x::z::R)=cpt key y (z::R) from if_pos e,e1]
     simp only[insU]
     rw[if_neg (by omega),if_pos e]
    ·rw[show cpt key y (x::z::R)=y::cpt key x (z::R) from if_neg e,e2,e1]
     simp only[insU]
     rw[if_pos (by omega),aIj hxz]
   ·rw[if_neg (by simpa using hxz)]
    by_cases e:key y=key z
    ·rw[show cpt key y (z::insB (ltU key) x R)=cpt key y (insB (ltU key) x R) from if_pos e,show cpt key y (z::R)=cpt key y R from if_pos e]
     exact aFs x R y (List.pairwise_cons.2 ⟨fun a ha=>h1 a (List.mem_cons_of_mem _ ha),(List.pairwise_cons.1 h2).2⟩) h
    ·rw[show cpt key y (z::insB (ltU key) x R)=y::cpt key z (insB (ltU key) x R) from if_neg e,show cpt key y (z::R)=y::cpt key z R from if_neg e,aFs x R z h2 (by omega)]
     simp only[insU]
     rw[if_pos (by omega)]
theorem aTz (x:α) {S:List α} (hp:S.Pairwise (fun a b=>key a≤key b)):cptL key (insB (ltU key) x S)=insU key x (cptL key S):=by
 cases S with
 | nil=>rfl
 | cons y S=>
   simp only[insB,cptL]
   by_cases h:key x<key y
   ·rw[if_pos (decide_eq_true h),aIj h]
    exact if_neg (by omega)
   ·rw[if_neg (by simpa using h)]
    exact aFs x S y hp (by omega)
theorem aMx (x:α):∀ {S:List α},S.Pairwise (fun a b=>key a≤key b)→(insB (ltU key) x S).Pairwise (fun a b=>key a≤key b)
 | [],_=>by simp[insB]
 | y::r,hp=>by
   obtain⟨h1,h2⟩:=List.pairwise_cons.1 hp
   simp only[insB]
   by_cases h:key x<key y
   ·rw[if_pos (decide_eq_true h)]
    refine List.pairwise_cons.2 ⟨fun z hz=>?_,hp⟩
    rcases List.mem_cons.1 hz with rfl|hz
    ·omega
    ·have:=h1 z hz
     omega
   ·rw[if_neg (by simpa using h)]
    refine List.pairwise_cons.2 ⟨fun z hz=>?_,aMx x h2⟩
    rcases List.mem_cons.1 ((Mx x r).mem_iff.1 hz) with rfl|hz
    ·omega
    ·exact h1 z hz
theorem aIk:∀ (l S:List α),S.Pairwise (fun a b=>key a≤key b)→cptL key (l.foldl (fun acc x=>insB (ltU key) x acc) S)=l.foldl (fun acc x=>insU key x acc) (cptL key S)
 | [],_,_=>rfl
 | x::r,S,hp=>by rw[List.foldl_cons,aIk r _ (aMx x hp),aTz x hp,List.foldl_cons]
theorem aPp (l:List α):cptL key (srtB (ltU key) l)=l.foldl (fun acc x=>insU key x acc) []:=aIk l [] .nil
end
end Go.Proofs.YtgbenhmdamnmcaaGreat
namespace Go.Proofs.YtgbenhmdamnmcaaGreat
open Go.Proofs.Tryz
open Go.RowKit
structure Ky where
 node:Int
 priv:H32
 ok:0≤node∧node≤1000
abbrev Ky.fds (k:Ky):List Fd:=[.one (.int .i64 k.node),.arr 32 (u8s k.priv.1)]
def cvK (a b:Ky):Int:=a.node - b.node
theorem aUa:(fun a b:Ky=>decide (cvK a b<0))=ltU Ky.node:=by
 funext a b
 unfold cvK
 exact decide_eq_decide.2 (by omega)
theorem bAh:SW (fun a b:Ky=>decide (cvK a b<0)):=by
 rw[aUa]
 exact bAg _
def sortedK (l:List Ky):List Ky:=l.foldl (fun acc x=>insU Ky.node x acc) []
theorem aKz (l:List Ky):cptL Ky.node (srtB (fun a b:Ky=>decide (cvK a b<0)) l)=sortedK l:=by
 rw[aUa]
 exact aPp l
end Go.Proofs.YtgbenhmdamnmcaaGreat
namespace Go.Proofs.YtgbenhmdamnmcaaGreat
open Go.Proofs.Tryz
open Go.RowKit Go.Lib
abbrev spath:ByteArray:=ByteArray.mk #[112,97,116,104]
abbrev scommit:ByteArray:=ByteArray.mk #[99,111,109,109,105,116]
abbrev swrap:ByteArray:=ByteArray.mk #[119,114,97,112]
def secK (s:H32):Nat→H32
 | 0=>s
 | k+1=>drv (secK s k) spath es0
def secL (s:H32) (n:Nat):List H32:=(List.range n).map (secK s)
def comS (s:H32) (n:Nat):H32:=drv (secK s (n - 1)) scommit es0
theorem aBf (s:H32) (n:Nat):(secL s n).length=n:=by simp[secL]
theorem aPq (s:H32) (n:Nat):secL s (n+1)=secL s n++[secK s n]:=by simp[secL,List.range_succ]
def mkKy (x:Int) (p:H32):Ky:=if h:0≤x∧x≤1000 then ⟨x,p,h⟩ else ⟨0,p,by omega⟩
theorem aMy {x:Int} {p:H32} (h:0≤x∧x≤1000):mkKy x p=⟨x,p,h⟩:=dif_pos h
theorem aUb {x:Int} {p:H32} (h:0≤x∧x≤1000):(mkKy x p).fds=[.one (.int .i64 x),.arr 32 (u8s p.1)]:=by rw[aMy h]
def keyK (way:List Int) (s:H32) (j:Nat):Ky:=mkKy (way.getD j 0) (drv (secK s j) bnode es0)
def keysL (way:List Int) (s:H32) (n:Nat):List Ky:=(List.range n).map (keyK way s)
theorem aPr (way:List Int) (s:H32) (n:Nat):(keysL way s n).length=n:=by simp[keysL]
theorem aLa (way:List Int) (s:H32) (n:Nat):keysL way s (n+1)=keysL way s n++[keyK way s n]:=by simp[keysL,List.range_succ]
def pubAt (t:Tr) (x:Int):H32 × Bool:=if x%2=0 then ((leafAt t (x / 2)).pub,decide (0<(leafAt t (x / 2)).name)) else ((parAt t (x / 2)).pub,(parAt t (x / 2)).set)
structure Kr where
 node:Int
 priv:H32
abbrev Kr.fds (k:Kr):List Fd:=[.one (.int .i64 k.node),.arr 32 (u8s k.priv.1)]
def Ky.kr (k:Ky):Kr:=⟨k.node,k.priv⟩
def keep1 (t:Tr) (k:Kr):Option Ky:=if h:(0≤k.node∧k.node≤1000)∧k.node≤2*t.size - 2∧pubAt t k.node=(pubH k.priv,true) then some ⟨k.node,k.priv,h.1⟩ else none
def keepL (t:Tr) (l:List Kr):List Ky:=l.filterMap (keep1 t)
theorem aPs {t:Tr} {k:Kr} (h1:0≤k.node∧k.node≤1000) (h2:k.node≤2*t.size - 2) (h3:pubAt t k.node=(pubH k.priv,true)):keep1 t k=some ⟨k.node,k.priv,h1⟩:=dif_pos ⟨h1,h2,h3⟩
theorem aIl {t:Tr} {k:Kr} (h:¬((0≤k.node∧k.node≤1000)∧k.node≤2*t.size - 2∧pubAt t k.node=(pubH k.priv,true))):keep1 t k=none:=dif_neg h
theorem aLb {t:Tr} {l:List Kr} {i:Nat} (h:i<l.length):keepL t (l.take (i+1))=keepL t (l.take i)++(keep1 t l[i]).toList:=by
 unfold keepL
 rw[List.take_succ_eq_append_getElem h,List.filterMap_append]
 cases e:keep1 t l[i] <;> simp[e]
def keepT (t:Tr) (l:List Kr):List Ky:=if t.right=true then sortedK (keepL t l) else []
end Go.Proofs.YtgbenhmdamnmcaaGreat
namespace Go.Proofs.YtgbenhmdamnmcaaGreat
open Go.Proofs.Tryz
open Go.RowKit
theorem Ib {P:Program} {H:Hp} {w0 w:World} {L R1:List Res} {g k m n cap e sz:Nat} {tt:TypeId} {q:Bool} {v:Value} {fs gs fs':List Fd} {ps:List (List Fd)} {K:Value→World→Prop} (h:Mem H w0 L w) [c:ShpC P tt q m] [a:AtA L (some ⟨g,0,none⟩) n cap e sz ps R1] (hk:ps[k]?=some fs) [f:Vf v m gs] [p:Put fs 0 gs fs'] (hK:∀ w',Mem H w0 (rowR e sz (some ⟨g,0,none⟩) n cap (ps.set k fs')::R1) w'→K undef w'):df P w (Ai tt (.pointer (some ⟨g,0+k*sz,none⟩)) v) false K:=aKd (off:=0) h hk hK
abbrev ltK (cv:Ky→Ky→Int):Ky→Ky→Bool:=fun x y=>decide (cv x y<0)
abbrev fTK (T:List (Ky × Nat)):List (List Fd):=T.map fun p=>Ky.fds p.1
theorem Yk (T:List (Ky × Nat)) (k:Nat) (x:Ky × Nat):(fTK T).set k (Ky.fds x.1)=fTK (T.set k x):=(List.map_set (f:=fun p:Ky × Nat=>Ky.fds p.1)).symm
theorem swpK (P Q S:List (Ky × Nat)) (x y:Ky × Nat) {i j:Nat} (hi:i=P.length) (hj:j=P.length+1+Q.length):((fTK (P++x::(Q++y::S))).set i (Ky.fds y.1)).set j (Ky.fds x.1)=fTK (P++y::(Q++x::S)):=by
 rw[Yk,Yk,aMw P Q S x y hi hj]
theorem swpK' (P Q S:List (Ky × Nat)) (x y:Ky × Nat) {i j:Nat} (hi:i=P.length) (hj:j=P.length+1+Q.length):((fTK (P++x::(Q++y::S))).set j (Ky.fds x.1)).set i (Ky.fds y.1)=fTK (P++y::(Q++x::S)):=by
 rw[Yk,Yk,aTy P Q S x y hi hj]
section
variable {H:Hp} {w0 w:World} {L R:List Res} {A:Option Addr} {n c:Nat} {cv:Ky→Ky→Int} {fc:Nat}
theorem aPt (P U Q V S:List (Ky × Nat)) (hn:(P++(U++(Q++(V++S)))).length=n) (hl:n≤1000000) (hU:U.length=V.length) (x4:Value) (hM:Mem H w0 (rowR 128 33 A n c (fTK (P++(U++(Q++(V++S)))))::R) w):
  Calls prog 218 #[.slice A n c,.int .i64 P.length,.int .i64 ((P.length:Int)+U.length+Q.length),.int .i64 U.length,x4] w fun en w'=>∃ v,en=.returned v∧v=.tuple #[]∧Mem H w0 (rowR 128 33 A n c (fTK (P++(V++(Q++(U++S)))))::R) w':=by
 simp only[List.length_append]at hn
 refine Gl ?_
 unfold Dx
 refine⟨fun v w'=>∃ i:Nat,v=.int .i64 i∧i≤U.length∧Mem H w0 (rowR 128 33 A n c (fTK (P++((V.take i++U.drop i)++(Q++((U.take i++V.drop i)++S)))))::R) w',fun v _=>match v with | .int _ k=>U.length - k.toNat|_=>0,⟨0,rfl,by omega,by simpa using hM⟩,?_⟩
 clear hM
 rintro v u w1 ⟨i,rfl,hi,hM⟩
 (((refine Aw trivial ?_ ?_)))
 ·intro hlt
  have hiu:i<U.length:=by omega
  have hiv:i<V.length:=by omega
  obtain⟨T,hT⟩:∃ T,P++((V.take i++U.drop i)++(Q++((U.take i++V.drop i)++S)))=T:=⟨_,rfl⟩
  have e1:T=(P++V.take i)++U[i]::((U.drop (i+1)++Q++U.take i)++V[i]::(V.drop (i+1)++S)):=by
   rw[← hT,List.drop_eq_getElem_cons hiu,List.drop_eq_getElem_cons hiv]
   simp only[List.append_assoc,List.cons_append]
  have e2:P++((V.take (i+1)++U.drop (i+1))++(Q++((U.take (i+1)++V.drop (i+1))++S)))=(P++V.take i)++V[i]::((U.drop (i+1)++Q++U.take i)++U[i]::(V.drop (i+1)++S)):=by
   rw[List.take_succ_eq_append_getElem hiu,List.take_succ_eq_append_getElem hiv]
   simp only[List.append_assoc,List.cons_append,List.nil_append]
  have p1:P.length+i=(P++V.take i).length:=by rw[List.length_append,List.length_take];omega
  have p2:P.length+U.length+Q.length+i=(P++V.take i).length+1+(U.drop (i+1)++Q++U.take i).length:=by
   simp only[List.length_append,List.length_take,List.length_drop]
   omega
  have hTl:T.length=n:=by
   rw[← hT]
   simp only[List.length_append,List.length_take,List.length_drop]
   omega
  rw[hT]at hM
  have g1:∀ (k:Nat) (hk:k<T.length),k=P.length+i→T[k]=U[i]:=fun k hk e=>by
   subst e
   simp only[e1]
   exact aIg _ _ _ _ _ p1 _
  have g2:∀ (k:Nat) (hk:k<T.length),k=P.length+U.length+Q.length+i→T[k]=V[i]:=fun k hk e=>by
   subst e
   simp only[e1]
   exact aIh _ _ _ _ _ p2 _
  have i1:((P.length:Int)+i).toNat=P.length+i:=by omega
  have i2:((P.length:Int)+U.length+Q.length+i).toNat=P.length+U.length+Q.length+i:=by omega
  (((refine Am ?_;refine Ap ?_ ?_));(focus omega);((refine Ap ?_ ?_));(focus omega);((refine Ap ?_ ?_));(focus omega);((refine Cj hM ?_ ?_));(focus omega);((intro _ hA));(cases hA);((refine Cv hM (By ?_) ?_));(focus omega);((refine Ap ?_ ?_));(focus omega);((refine Cj hM ?_ ?_));(focus omega);((intro _ hA));(cases hA);((refine Cv hM (By ?_) ?_));(focus omega);((refine Cj hM ?_ ?_));(focus omega);((intro _ hA));(cases hA))
  refine Ib hM (Ct (by omega)) (fun w' hM=>?_)
  (((refine Cj hM ?_ ?_));(focus omega);((intro _ hA));(cases hA))
  refine Ib hM (by rw[List.getElem?_set_ne (by omega)];exact Ct (by omega)) (fun w' hM=>?_)
  rw[g1 _ _ rfl,g2 _ _ rfl,i1,i2]at hM
  have hs:((fTK T).set (P.length+i) (Ky.fds V[i].1)).set (P.length+U.length+Q.length+i) (Ky.fds U[i].1)=fTK (P++((V.take (i+1)++U.drop (i+1))++(Q++((U.take (i+1)++V.drop (i+1))++S)))):=by
   rw[e2,e1]
   exact swpK _ _ _ _ _ p1 p2
  have hM2:Mem H w0 (rowR 128 33 _ n c (((fTK T).set (P.length+i) (Ky.fds V[i].1)).set (P.length+U.length+Q.length+i) (Ky.fds U[i].1))::R) _:=hM
  rw[hs]at hM2
  have hM:=hM2
  clear hM2
  (((refine Bc hM ?_;clear hM;intro _ hM;refine Ab ?_ ?_));(focus omega))
  exact⟨⟨i+1,rfl,by omega,hM⟩,by simp only;omega⟩
 ·intro hge
  obtain rfl:i=U.length:=by omega
  (((refine Aj ?_)))
  refine⟨_,rfl,rfl,?_⟩
  have e:P++((V.take U.length++U.drop U.length)++(Q++((U.take U.length++V.drop U.length)++S)))=P++(V++(Q++(U++S))):=by
   rw[hU,List.take_length,List.drop_length,← hU,List.take_length,List.drop_length]
   simp
  rw[← e]
  exact hM
end
end Go.Proofs.YtgbenhmdamnmcaaGreat
